/-
  Texts of a proof, joined. Conditions stand in each statement.
-/
import Derived.Test.YtdkldlbgcfpglaaGreatDoorMJordanRefuses3
set_option linter.unusedVariables false
set_option linter.unusedSimpArgs false
namespace Go.Proofs.YtdkldlbgcfpglaaGreatDoor.Ig
open Go Go.QF
set_option maxRecDepth 100000
structure Ars (h:Zv) (v:Value) (L:List Nat) (v':Value) (L':List Nat):Prop where
  sl:Sl h v' (L'.map ANy)
  cap:ANx v'
  dig:Dig L'
  blk:v'.ownBlock=v.ownBlock
  val:nv L'=nv L
  len:L'.length<=L.length
  tg:∀ g,v.ownBlock=some g-> ∃ cur off,h[g]? =some (.cells cur 172 off)
theorem Ars.ds {h:Zv} {lo:Nat} {v v':Value} {L L':List Nat} (H:Ars h v L v' L') (hl:∀ g,v.ownBlock=some g->lo<=g):DS h lo v' L':=⟨H.sl,H.cap,H.dig,fun g hg=>hl g (H.blk ▸ hg),fun g hg=>H.tg g (H.blk ▸ hg)⟩
theorem Aor {L:List Nat} (h:L[L.length - 1]? =some 0):nv (L.take (L.length - 1))=nv L:=by
 have h1:L=L.take (L.length - 1) ++ [0]:=by
   have:=Aci h
   rw [this,List.take_of_length_le (by have:=(List.getElem?_eq_some_iff.1 h).1;omega)]
 conv=>rhs;rw [h1,ALq]
 simp
theorem AMw {h:Zv} {v:Value} {L:List Nat} (H:DS h 0 v L) (hn:L.length<=1000000):AAw Tryz.prog 164 #[v] h fun x h'=>h'=h/\ ∃ L',Ars h v L x L'/\TL L':=by
 refine ABe (l:=[_]) mx Tryz.func164 rfl rfl rfl rfl rfl Zy (Zo (Zu (Zp (Zt (AFj 1048569 (fun y:Value × List Nat=>[(0,y.1)]) (fun k y h'=>h'=h/\y.2.length=k/\Ars h v L y.1 y.2) Zy L.length (v,L) ?_ ⟨rfl,trivial⟩ ?_)))))
 ·exact ⟨rfl,rfl,H.sl,H.cap,H.dig,rfl,rfl,Nat.le_refl _,H.tg⟩
 rintro k ⟨u,Lu⟩ s1 h ⟨rfl,rfl,HT⟩;dsimp only at HT ⊢;refine Zp (Zo (Zk (AWq AAp rfl HT.sl ?_)));rw [List.length_map];have hLlen:=HT.len;refine ARb rfl rfl (fun Aa=>?_) (fun Aa=>?_)
 ·refine Zk (ABs 6 true Zy rfl rfl (Zk (ABs 6 true Zy rfl rfl (Zk (ABs 6 true Zy rfl rfl (AWq AAp rfl HT.sl ?_))))));rw [List.length_map];refine ABs 6 true Zy rfl rfl (AM1 rfl rfl Zj Zj ?_);rw [show ((Lu.length:Nat):Int) - 1=((Lu.length - 1:Nat):Int) by omega];obtain ⟨x,hx⟩:∃ x,Lu[Lu.length - 1]? =some x:=⟨_,List.getElem?_eq_getElem Zj⟩;refine ABs 6 true Zy rfl rfl (Aae AAp rfl HT.sl rfl (ASd hx) fun a1 Ab=>ABs 6 true Zy rfl rfl (AA7 ACm rfl Ab (ABs 6 true Zy rfl rfl (AS7 rfl rfl (fun Ac=>?_) (fun Ac=>?_)))))
  ·refine AAa rfl (Zs (AAr rfl (Zw (q_t (Zt (AAc (Zk (Zk (AWq AAp rfl HT.sl ?_)))))))));rw [List.length_map];refine AM1 rfl rfl Zj Zj ?_;rw [show ((Lu.length:Nat):Int) - 1=((Lu.length - 1:Nat):Int) by omega];have Ad:Lu[Lu.length - 1]? =some 0:=by rw [hx];congr 1;omega
   refine Ado (v:=u) AAp rfl HT.sl HT.cap rfl (by rw [List.length_map];omega) fun v9 Af Ag Ah=>?_;refine AAn (AAo (q_b (q_t ?_)));exact ⟨Lu.length - 1,(v9,Lu.take (Lu.length - 1)),by first | omega | (dsimp only;omega),⟨rfl,AA4,⟨by dsimp only;rw [List.map_take];exact Af,Ag,AXk HT.dig _,Ah.trans HT.blk,by rw [Aor Ad];exact HT.val,by rw [List.length_take];have:=HT.len;omega,HT.tg⟩⟩,rfl,trivial⟩
  ·refine AAa rfl (Zs (AAy rfl (AAj (AAk (AAk (ABm (q_t (Zo (Zk (Zu (Zx (⟨_,Zz,?_⟩))))))))))));refine ⟨rfl,Lu,HT,fun y hy=>?_⟩
   first
   | (have:Lu=[]:=List.length_eq_zero_iff.1 Zj;rw [this] at hy;cases hy)
   | (rw [List.getLast?_eq_getElem?,hx] at hy;injection hy with hy;subst hy;omega)
 ·refine Zk (ABk 6 false Zy rfl rfl (ABk 6 false Zy rfl rfl (ABk 6 false Zy rfl rfl (ABk 6 false Zy rfl rfl (ABk 6 false Zy rfl rfl (ABk 6 false Zy rfl rfl (ABk 6 false Zy rfl rfl (Z1 rfl (Zs (AAy rfl (AAj (AAk (AAk (ABm (q_t (Zo (Zk (Zu (Zx (⟨_,Zz,?_⟩))))))))))))))))))));refine ⟨rfl,Lu,HT,fun y hy=>?_⟩
  first
  | (have:Lu=[]:=List.length_eq_zero_iff.1 Zj;rw [this] at hy;cases hy)
  | (rw [List.getLast?_eq_getElem?,hx] at hy;injection hy with hy;subst hy;omega)
theorem AP7 (w:Nat) (hw:w < 18446744073709551616) (h:Zv):AAw Tryz.prog 161 #[.int .u64 (w:Int)] h fun x h'=>Ext h h'/\ ∃ L,DS h' (Array.size h) x L/\TL L/\nv L=w/\L.length<=2:=by
 refine ABe (l:=[_]) mx Tryz.func161 rfl rfl rfl rfl rfl Zy (Zo (AA5 (Zk (AMy ACs ADg rfl ?_))));rw [show IntKind.u32.wrap (w:Int)=((w % 4294967296:Nat):Int) by rw [wrap_u32];omega];refine Zk (Aao (n:=32) rfl rfl Zl (AMy ACs ADg rfl ?_));rw [show IntKind.u32.wrap ((w:Int) / 2 ^ 32)=((w / 4294967296:Nat):Int) by rw [wrap_u32];omega];have e1:IntKind.u32.wrap (w:Int)=((w % 4294967296:Nat):Int):=by rw [wrap_u32];omega
 have e2:IntKind.u32.wrap ((w:Int) / 2 ^ 32)=((w / 4294967296:Nat):Int):=by rw [wrap_u32];omega
 have hdg:Dig [w % 4294967296,w / 4294967296]:=by intro x hx;simp only [List.mem_cons,List.not_mem_nil,or_false] at hx;rcases hx with rfl | rfl <;> omega
 refine Am6 ([w % 4294967296,w / 4294967296].map ANy) AAp ALw rfl (fun _=>trivial) rfl Zj Zj rfl (by simp [ANy,isOne]) fun g1 v1 h1 Ad E1 Ae Aj=>?_;have Ak:=E1.1;have Z2:=(Ext.refl h).trans E1;have Ab:=Ad.ds (lo:=Array.size h) hdg Ae;refine AA0 trivial rfl (AMw (Ab.mono (Nat.zero_le _)) AA4) fun x3 h1 hk=>?_;obtain ⟨rfl,L2,HT,htl⟩:=hk;refine ⟨trivial,?_⟩;refine Zu (Zx (⟨_,Zz,?_⟩));exact ⟨E1,L2,HT.ds Ab.lo,htl,by rw [HT.val];simp only [nv];omega,by have:=HT.len;simpa using this⟩
theorem AZ1 {h:Zv} {lo:Nat} {v:Value} {L:List Nat} (H:DS h lo v L) (hn:L.length<=2):AAw Tryz.prog 179 #[v] h fun x h'=>h'=h/\x= .int .u64 (nv L:Int):=by
 refine ABe (l:=[_]) mx Tryz.func179 rfl rfl rfl rfl rfl Zy (Zo (AA5 (Zu (Zp (Zo (Zk (AWq AAp rfl H.sl ?_)))))));rw [List.length_map];refine Zk (Zs (Zt (AFj 2096952 (fun y:Nat × Nat=>[(8,.int .i64 (y.1:Int)),(3,.int .u64 (y.2:Int))]) (fun k y h'=>h'=h/\k=L.length - y.1/\y.1<=L.length/\y.2=nv (L.take y.1)) Zy L.length (0,0) ?_ ⟨rfl,rfl,trivial⟩ ?_)))
 ·exact ⟨rfl,rfl,Nat.zero_le _,rfl⟩
 rintro k ⟨i,w⟩ s1 h ⟨rfl,rfl,hi,hw⟩;dsimp only at hi hw ⊢;subst hw;refine Zo (AEl rfl rfl (fun Ab=>?_) (fun Ab=>?_))
 ·refine Zs (Zp (AAr rfl (Zw (q_t (Zp (Zt (Zp ?_)))))));obtain ⟨x,hx⟩:∃ x,L[i]? =some x:=⟨_,List.getElem?_eq_getElem Zj⟩;have hxb:=H.dig x (List.mem_of_getElem? hx);refine AAc (Zk (Aae AAp rfl H.sl rfl (ASd hx) fun Af Ac=>AA7 ACm rfl Ac (AAn (Zu (AAc (Zk (Zk (As2 ADg ACs rfl (by rw [wrap_u64];omega) ?_))))))));refine Zk (AOa rfl rfl Zj Zj ?_);rw [show (32:Int) * (i:Int)=((32 * i:Nat):Int) by omega];refine Ack (n:=32 * i) rfl rfl (by show 32 * i<=64;omega) ?_;have Aa:i=0∨i=1:=by omega
  have hlt:=ARh H.dig hi
  have hsh:IntKind.u64.wrap ((x:Int) * 2 ^ (32 * i))=((2 ^ (32 * i) * x:Nat):Int):=by
    rw [wrap_u64]
    rcases Aa with rfl | rfl
    · simp;omega
    · simp;omega
  rw [hsh]
  have Ad:2 ^ (32 * i) * x < 18446744073709551616:=by
    rcases Aa with rfl | rfl
    · simp;omega
    · simp;omega
  have Ae:nv (L.take i) < 18446744073709551616:=by
    rcases Aa with rfl | rfl
    · simp at hlt ⊢;omega
    · simp at hlt ⊢;omega
  refine AWv rfl rfl (.inr (.inl rfl)) (Am8 Ae Ad) ?_;rw [Am9 (by rw [<- AWw];exact hlt),<- AWw,<- AB2 hx];refine AAn (AAo (q_b (q_t (AAc (AJ4 rfl Zj (Zk (Zs ?_)))))));exact ⟨L.length - (i + 1),(i + 1,nv (L.take (i + 1))),by first | omega | (dsimp only;omega),⟨rfl,rfl,by first | omega | (dsimp only;omega),rfl⟩,rfl,rfl,trivial⟩
 ·refine Zs (Zp (AAy rfl (AAj (AAk (AAk (ABm (q_t (Zo (Zk (Zu (Zx (⟨_,Zz,?_⟩))))))))))));obtain rfl:i=L.length:=by omega
  exact ⟨rfl,by rw [List.take_length] at *;rfl⟩
theorem AO3 (w:World):(Instr.build 94 #[]).run Tryz.prog w= .ok (.agg #[.bool false,.slice none 0 0]) w:=by kernel_rfl
theorem AXq (b:Bool) (a:Option Addr) (n c:Nat) (w:World):(Instr.build 94 #[(0,.bool b),(1,.slice a n c)]).run Tryz.prog w= .ok (.agg #[.bool b,.slice a n c]) w:=by kernel_rfl
theorem AJ8 {h:Zv} {lo:Nat} {s:Value} {L:List Nat} (neg:Bool) (H:DS h lo s L) (htl:TL L) (hn:L.length<=100):AAw Tryz.prog 160 #[.bool neg,s] h fun x h'=>Ext h h'/\ZV h' lo x (sgn neg (nv L)):=by
 obtain ⟨a,n,c,rfl,hnc⟩:=H.cap;refine ABe (l:=[_,_]) mx Tryz.func160 rfl rfl rfl rfl rfl Zy (Zo (AG4 [.bool false,.slice none 0 0] AE3 rfl (fun _=>trivial) fun Aa h2 V3 E4 Ak Ar=>?_));have Au:Array.size h<=Aa:=Ak;have Av:=E4.1;have Z8:=(Ext.refl h).trans E4;refine Zs (Zp (Zo (Zk (AWq AAp rfl (H.sl.ext E4) ?_))));rw [List.length_map];refine AS7 rfl rfl (fun Am=>?_) (fun Am=>?_)
 ·refine Zs (AAr rfl (Zo (ADr (v:= .agg #[.bool false,.slice none 0 0]) AO3 (AB9 [.bool false,.slice none 0 0] ABn rfl rfl rfl rfl (by simp [isOne]) V3 fun h9 Ao Ad=>?_))));have Af:=E4.thenUpd Ad (fun k hk=>by have Ac:k=Aa:=hk;omega);have Ax:=Ad.1;have Ay:=Z8.thenUpd Ad (fun k hk=>by have Ac:k=Aa:=hk;omega);have Az:=E4.thenUpd Ad (fun k hk=>by have Ac:k=Aa:=hk;omega);refine Zs (Zx (AAd (⟨_,ACg ABn rfl rfl Ao,?_⟩)))
  first
  | (have h0:L=[]:=List.length_eq_zero_iff.1 Zj
     subst h0
     exact ⟨Af,⟨false,_,[],rfl,ARg _ _,ASt,AA4,by cases neg <;> rfl⟩⟩)
  | exact ⟨Af,⟨neg,_,L,rfl,H.ext Af,htl,hn,rfl⟩⟩
 ·refine Zs (AAy rfl (Zw (q_t (Zo (Zk (Zk (ADr (v:= .agg #[.bool neg,.slice a n c]) (AXq neg a n c) (AB9 [.bool neg,.slice a n c] ABn rfl rfl rfl rfl (by simp [isOne]) V3 fun A3 Ap Ae=>?_))))))));have Ah:=E4.thenUpd Ae (fun k hk=>by have Ac:k=Aa:=hk;omega);have A4:=Ae.1;have A5:=Z8.thenUpd Ae (fun k hk=>by have Ac:k=Aa:=hk;omega);have A6:=E4.thenUpd Ae (fun k hk=>by have Ac:k=Aa:=hk;omega);refine Zs (Zx (⟨_,ACg ABn rfl rfl Ap,?_⟩))
  first
  | (have h0:L=[]:=List.length_eq_zero_iff.1 Zj
     subst h0
     exact ⟨Ah,⟨false,_,[],rfl,ARg _ _,ASt,AA4,by cases neg <;> rfl⟩⟩)
  | exact ⟨Ah,⟨neg,_,L,rfl,H.ext Ah,htl,hn,rfl⟩⟩
theorem Small_ok {n:Int} (hn: -9223372036854775808<=n/\n<=9223372036854775807) (h:Zv):AAw Tryz.prog 129 #[.int .i64 n] h fun x h'=>Ext h h'/\ZV h' (Array.size h) x n:=by
 refine ABe (l:=[_]) mx Tryz.func129 rfl rfl rfl rfl rfl Zy (Zo (AG4 [.bool false,.slice none 0 0] AE3 rfl (fun _=>trivial) fun Aa h2 V3 E4 Az By=>?_));have Bz:Array.size h<=Aa:=Az;have B1:=E4.1;have Z8:=(Ext.refl h).trans E4;refine Zs (Zp (Zo (Zk (AEl rfl rfl (fun A3=>?_) (fun A3=>?_)))))
 ·refine Zs (AAr rfl (Zo (Zk (AMy AK3 ACs rfl ?_))));rw [show IntKind.u64.wrap n=n + 18446744073709551616 by rw [wrap_u64];omega];refine AWh rfl ?_;rw [show IntKind.u64.wrap (0 - (n + 18446744073709551616))=((n.natAbs:Nat):Int) by rw [wrap_u64];omega];refine AA0 trivial rfl (AP7 n.natAbs Zj _) fun x9 B4 hk=>?_;obtain ⟨Ag,L1,Ah,Ao,Ap,A5⟩:=hk;refine ⟨trivial,?_⟩;have B5:=Ag.1;have A6:=Z8.trans Ag;have A7:=E4.trans Ag;have A8:=V3.ext Ag;have A9:=E4.trans Ag;refine AA0 trivial rfl (AJ8 true Ah Ao Zj) fun B6 B7 hk=>?_;obtain ⟨Ac,Aq⟩:=hk;refine ⟨trivial,?_⟩;have B8:=Ac.1;have Ba:=A6.trans Ac;have Bb:=A7.trans Ac;have Bc:=A8.ext Ac;have Be:=A9.trans Ac;have Bf:=Ah.ext Ac;obtain ⟨Ai,s2,L2,rfl,Aj,Au,Av,Aw⟩:=Aq.out;refine AB9 [.bool Ai,s2] ABn rfl rfl rfl rfl (AJp Aj.cap) Bc fun B9 Bg Ad=>?_;have Bh:=Bb.thenUpd Ad (fun k hk=>by have Ak:k=Aa:=hk;omega);have Ca:=Ad.1;have Cb:=Ba.thenUpd Ad (fun k hk=>by have Ak:k=Aa:=hk;omega);have Cd:=Be.thenUpd Ad (fun k hk=>by have Ak:k=Aa:=hk;omega);have Ce:=Bf.updLo Ad Zj;have Bi:=Aj.updLo Ad Zj;refine Zs (Zx (AAd (⟨_,ACg ABn rfl rfl Bg,?_⟩)));exact ⟨Bh,⟨Ai,s2,L2,rfl,Bi.mono Zj,Au,Av,by rw [<- Aw,Ap];unfold sgn;first | (rw [if_pos rfl];omega) | (rw [if_neg Zl];omega)⟩⟩
 ·refine Zs (AAy rfl (Zw (q_t (Zo (Zk (AMy AK3 ACs rfl ?_))))));rw [show IntKind.u64.wrap n=((n.natAbs:Nat):Int) by rw [wrap_u64];omega];refine AA0 trivial rfl (AP7 n.natAbs Zj _) fun Cf Cg hk=>?_;obtain ⟨Am,L1,Ah,Ao,Ap,A5⟩:=hk;refine ⟨trivial,?_⟩;have Ch:=Am.1;have Bj:=Z8.trans Am;have Bl:=E4.trans Am;have Bm:=V3.ext Am;have Bn:=E4.trans Am;refine AA0 trivial rfl (AJ8 false Ah Ao Zj) fun Ci Cj hk=>?_;obtain ⟨Ae,Aq⟩:=hk;refine ⟨trivial,?_⟩;have Ck:=Ae.1;have Bo:=Bj.trans Ae;have Bp:=Bl.trans Ae;have Bq:=Bm.ext Ae;have Br:=Bn.trans Ae;have Bt:=Ah.ext Ae;obtain ⟨Ai,s2,L2,rfl,Aj,Au,Av,Aw⟩:=Aq.out;refine AB9 [.bool Ai,s2] ABn rfl rfl rfl rfl (AJp Aj.cap) Bq fun Cm Bu Af=>?_;have Bv:=Bp.thenUpd Af (fun k hk=>by have Ak:k=Aa:=hk;omega);have Cn:=Af.1;have Co:=Bo.thenUpd Af (fun k hk=>by have Ak:k=Aa:=hk;omega);have Cp:=Br.thenUpd Af (fun k hk=>by have Ak:k=Aa:=hk;omega);have Cq:=Bt.updLo Af Zj;have Bw:=Aj.updLo Af Zj;refine Zs (Zx (⟨_,ACg ABn rfl rfl Bu,?_⟩));exact ⟨Bv,⟨Ai,s2,L2,rfl,Bw.mono Zj,Au,Av,by rw [<- Aw,Ap];unfold sgn;first | (rw [if_pos rfl];omega) | (rw [if_neg Zl];omega)⟩⟩
theorem AY1 {h:Zv} {lo:Nat} {v:Value} {L:List Nat} (H:DS h lo v L) (hn:L.length<=1000000):AAw Tryz.prog 165 #[v] h fun x h'=>Ext h h'/\DS h' (Array.size h) x L:=by
 obtain ⟨a,n,c,rfl,hnc⟩:=H.cap;refine ABe (l:=[_]) mx Tryz.func165 rfl rfl rfl rfl rfl Zy (Zo (Zu (Zp (Zo (Zk (Aqm Tryz.underlying92 rfl ?_))))));cases Ad:a.isNone
 ·refine Zs (AAy rfl (Zw (q_t (Zp ?_))));obtain ⟨xa,rfl⟩:∃ q,a=some q:=Option.ne_none_iff_exists'.1 (fun he=>by rw [he] at Ad;cases Ad);refine AAc (Av3 AAp (fun _=>trivial) fun g1 v1 h1 Af E1 Ag Ap=>?_);have Aq:=E1.1;have Z2:=(Ext.refl h).trans E1;refine Zk ?_;by_cases hL:L=[]
  ·subst hL;obtain rfl:n=0:=Am7 H;refine Atu AAp (fun _=>trivial) rfl Af rfl fun v2 h2 Ab U2=>Zu (Zx (⟨_,Zz,?_⟩));exact ⟨E1.thenUpd U2 (fun k hk=>by have Ai:k=g1:=hk;omega),Ab.ds H.dig Ag⟩
  refine Asw AAp ALw rfl trivial rfl Af rfl (H.sl.ext E1) (fun u hu=>by obtain ⟨y,_,rfl⟩:=List.mem_map.1 hu;rfl) (by simpa using hL) (by simp;omega) (by simp;omega) fun v2 g2 h2 Ab Ak U2=>?_;refine ⟨trivial,?_⟩;have XZ:=E1.thenUpd U2 (fun k hk=>by have Ai:k=g1:=hk;omega);have hg2l:Array.size h<=g2:=by rcases Ak with rfl | rfl;exact Ag;omega
  refine Zu (Zx (⟨_,Zz,?_⟩));exact ⟨XZ,Ab.ds H.dig hg2l⟩
 ·refine Zs (AAr rfl (Zp ?_));have h0:L=[]:=Aqn (Option.isNone_iff_eq_none.1 (by assumption)) H;refine AAc (Zu (Zx (AAd (⟨_,Zz,?_⟩))));subst h0;exact ⟨Ext.refl _,ARg _ _⟩
def AGc (z:Int):Int:=if z < 0 then -1 else if z=0 then 0 else 1
theorem sign_zero {z:Int} (h:z=0):AGc z=0:=by subst h;rfl
theorem sign_neg {z:Int} (h:z < 0):AGc z= -1:=if_pos h
theorem ARk {z:Int} (h:0 < z):AGc z=1:=by unfold AGc;rw [if_neg Zj,if_neg Zj]
theorem Sign_ok {h:Zv} {lo:Nat} {va:Value} {z:Int} (HA:ZV h lo va z):AAw Tryz.prog 132 #[va] h fun x h'=>Ext h h'/\x= .int .i64 (AGc z):=by
 obtain ⟨na,sa,LA,rfl,HDa,htla,hla,hza⟩:=HA.out;have hna:LA.length<=1000000:=by omega
 refine ABe (l:=[_]) mx Tryz.func132 rfl rfl rfl rfl rfl Zy (Zo (AJr [.bool na,sa] (fun _=>trivial) rfl rfl fun Aj h2 V3 E4 Ak Aq=>?_));have Ar:Array.size h<=Aj:=Ak;have Au:=E4.1;have Z8:=(Ext.refl h).trans E4;refine Zu (Zp (Zt (Zo (AF0 (fs:=1) AMb Zy Zl rfl (AA7 AHx rfl (V3.cell (i:=1) rfl) (AA0 trivial rfl (AMw (DS.mono (HDa.ext E4) (Nat.zero_le _)) hna) fun x9 h2 hk=>?_))))));obtain ⟨rfl,L1,Af,Ag⟩:=hk;refine ⟨trivial,?_⟩;have Am:=Af.ds (lo:=lo) HDa.lo;refine ABw AAp rfl Am (AS7 rfl rfl (fun Ao=>?_) (fun Ao=>?_))
 ·refine Zu (AAr rfl (Zo (Zu (Zx (ABg (AAd (⟨_,Zz,?_⟩)))))))
  first
  | (have h0:L1=[]:=List.length_eq_zero_iff.1 Zj
     have h1:nv LA=0:=by rw [<- Af.val,h0];rfl
     exact ⟨E4,congrArg (Value.int .i64) (sign_zero (hza.trans (by rw [h1];cases na <;> rfl))).symm⟩)
  | (have h1:nv LA≠0:=fun h0=>by rw [<- Af.val] at h0;have:=congrArg List.length (AG8 Ag h0);rw [List.length_nil] at this;omega
     have h2:z=sgn na (nv LA):=hza
     have h3:na=true:=by assumption
     exact ⟨E4,congrArg (Value.int .i64) (sign_neg (by rw [h2,h3];unfold sgn;rw [if_pos rfl];omega)).symm⟩)
  | (have h1:nv LA≠0:=fun h0=>by rw [<- Af.val] at h0;have:=congrArg List.length (AG8 Ag h0);rw [List.length_nil] at this;omega
     have h2:z=sgn na (nv LA):=hza
     have h3:na=false:=by assumption
     exact ⟨E4,congrArg (Value.int .i64) (ARk (by rw [h2,h3];unfold sgn;rw [if_neg Zl];omega)).symm⟩)
 ·refine Zu (AAy rfl (Zo (AF0 (fs:=1) ALn Zy Zl rfl (AA7 AEn rfl (V3.cell (i:=0) rfl) (Zu (⟨_,rfl,fun Ap=>?_,fun Ap=>?_⟩))))))
  ·refine Zo (Zu (Zx (ABg (AAd (⟨_,Zz,?_⟩)))))
   first
   | (have h0:L1=[]:=List.length_eq_zero_iff.1 Zj
      have h1:nv LA=0:=by rw [<- Af.val,h0];rfl
      exact ⟨E4,congrArg (Value.int .i64) (sign_zero (hza.trans (by rw [h1];cases na <;> rfl))).symm⟩)
   | (have h1:nv LA≠0:=fun h0=>by rw [<- Af.val] at h0;have:=congrArg List.length (AG8 Ag h0);rw [List.length_nil] at this;omega
      have h2:z=sgn na (nv LA):=hza
      have h3:na=true:=by assumption
      exact ⟨E4,congrArg (Value.int .i64) (sign_neg (by rw [h2,h3];unfold sgn;rw [if_pos rfl];omega)).symm⟩)
   | (have h1:nv LA≠0:=fun h0=>by rw [<- Af.val] at h0;have:=congrArg List.length (AG8 Ag h0);rw [List.length_nil] at this;omega
      have h2:z=sgn na (nv LA):=hza
      have h3:na=false:=by assumption
      exact ⟨E4,congrArg (Value.int .i64) (ARk (by rw [h2,h3];unfold sgn;rw [if_neg Zl];omega)).symm⟩)
  ·refine Zw (q_b (q_t (Zo (Zu (Zx (⟨_,Zz,?_⟩))))))
   first
   | (have h0:L1=[]:=List.length_eq_zero_iff.1 Zj
      have h1:nv LA=0:=by rw [<- Af.val,h0];rfl
      exact ⟨E4,congrArg (Value.int .i64) (sign_zero (hza.trans (by rw [h1];cases na <;> rfl))).symm⟩)
   | (have h1:nv LA≠0:=fun h0=>by rw [<- Af.val] at h0;have:=congrArg List.length (AG8 Ag h0);rw [List.length_nil] at this;omega
      have h2:z=sgn na (nv LA):=hza
      have h3:na=true:=by assumption
      exact ⟨E4,congrArg (Value.int .i64) (sign_neg (by rw [h2,h3];unfold sgn;rw [if_pos rfl];omega)).symm⟩)
   | (have h1:nv LA≠0:=fun h0=>by rw [<- Af.val] at h0;have:=congrArg List.length (AG8 Ag h0);rw [List.length_nil] at this;omega
      have h2:z=sgn na (nv LA):=hza
      have h3:na=false:=by assumption
      exact ⟨E4,congrArg (Value.int .i64) (ARk (by rw [h2,h3];unfold sgn;rw [if_neg Zl];omega)).symm⟩)
theorem Neg_ok {h:Zv} {lo:Nat} {va:Value} {z:Int} (HA:ZV h lo va z):AAw Tryz.prog 163 #[va] h fun x h'=>Ext h h'/\ZV h' (Array.size h) x (-z):=by
 obtain ⟨na,sa,LA,rfl,HDa,htla,hla,hza⟩:=HA.out;have hna:LA.length<=1000000:=by omega
 refine ABe (l:=[_]) mx Tryz.func163 rfl rfl rfl rfl rfl Zy (Zo (AJr [.bool na,sa] (fun _=>trivial) rfl rfl fun Am h2 V3 E4 Az Bx=>?_));have By:Array.size h<=Am:=Az;have Bz:=E4.1;have Z8:=(Ext.refl h).trans E4;refine AG4 [.bool false,.slice none 0 0] AE3 rfl (fun _=>trivial) fun Ad Ah A4 Ae A5 B1=>?_;have B3:Array.size h<=Ad:=Nat.le_trans E4.1 A5;have nebq1bq9:Am≠Ad:=by have:=V3.lt;omega
 have B4:=Ae.1;have A6:=Z8.trans Ae;have Ap:=E4.trans Ae;have Aq:=V3.ext Ae;have A7:=E4.trans Ae;refine Zs (Zp (ACj (fun h'=>Ext Ah h') Zy ?_));have Af:=Ext.refl Ah;refine AF0 (fs:=1) ALn Zy Zl rfl (ACl AEn rfl Af (fun h' hb=>(Aq.ext hb).cell (i:=0) rfl) (ACr rfl (AF0 (fs:=1) AMb Zy Zl rfl (ACl AHx rfl Af (fun h' hb=>(Aq.ext hb).cell (i:=1) rfl) (AA0 Af rfl (AMw (DS.mono (HDa.ext Ap) (Nat.zero_le _)) hna) fun B5 Ah hk=>?_)))));obtain ⟨rfl,L1,Ai,A8⟩:=hk;refine ⟨Af,?_⟩;have A9:=Ai.ds (lo:=lo) HDa.lo;have Ar:=Ai.val;have B7:=Ai.len;refine AA0 Af rfl (AY1 A9 Zj) fun B8 B9 hk=>?_;obtain ⟨Ab,Au⟩:=hk;have Aj:=Af.trans Ab;refine ⟨Aj,?_⟩;have Ca:=Ab.1;have Ba:=A6.trans Ab;have Bb:=Ap.trans Ab;have Bc:=A7.trans Ab;have Be:=A4.ext Ab;have Bf:=Ae.trans Ab;refine AA0 Aj rfl (AJ8 (!na) Au A8 Zj) fun Cb Cd hk=>?_;obtain ⟨Aa,Bg⟩:=hk;have Bh:=Aj.trans Aa;refine ⟨Bh,?_⟩;have Ce:=Aa.1;have Bi:=Ba.trans Aa;have Bj:=Bb.trans Aa;have Bl:=Bc.trans Aa;have Bm:=Be.ext Aa;have Bn:=Bf.trans Aa;have Bo:=Au.ext Aa;obtain ⟨Av,s3,L3,rfl,Ax,Bq,Br,Ay⟩:=Bg.out;refine AB9 [.bool Av,s3] ABn rfl rfl rfl rfl (AJp Ax.cap) Bm fun Cf Bt Ac=>?_;have Bu:=Bj.thenUpd Ac (fun k hk=>by have Ak:k=Ad:=hk;omega);have Cg:=Ac.1;have Ch:=Bi.thenUpd Ac (fun k hk=>by have Ak:k=Ad:=hk;omega);have Ci:=Bn.thenUpd Ac (fun k hk=>by have Ak:k=Ad:=hk;omega);have Cj:=Bl.thenUpd Ac (fun k hk=>by have Ak:k=Ad:=hk;omega);have Ck:=Bo.updLo Ac Zj;have Bv:=Ax.updLo Ac Zj;refine Zs (Zx (⟨_,ACg ABn rfl rfl Bt,?_⟩));exact ⟨Bu,⟨Av,s3,L3,rfl,Bv.mono Zj,Bq,Br,by first | (rw [<- Ay,Ar,hza];done) | (rw [<- Ay,Ar,hza];cases na <;> simp [sgn])⟩⟩
theorem Normalize_ok {h:Zv} {lo:Nat} {va:Value} {z:Int} (HA:ZV h lo va z):AAw Tryz.prog 133 #[va] h fun x h'=>Ext h h'/\ZV h' (Array.size h) x (z):=by
 obtain ⟨na,sa,LA,rfl,HDa,htla,hla,hza⟩:=HA.out;have hna:LA.length<=1000000:=by omega
 refine ABe (l:=[_]) mx Tryz.func133 rfl rfl rfl rfl rfl Zy (Zo (AJr [.bool na,sa] (fun _=>trivial) rfl rfl fun Am h2 V3 E4 Az Bx=>?_));have By:Array.size h<=Am:=Az;have Bz:=E4.1;have Z8:=(Ext.refl h).trans E4;refine AG4 [.bool false,.slice none 0 0] AE3 rfl (fun _=>trivial) fun Ad Ah A4 Ae A5 B1=>?_;have B3:Array.size h<=Ad:=Nat.le_trans E4.1 A5;have nebq1bq9:Am≠Ad:=by have:=V3.lt;omega
 have B4:=Ae.1;have A6:=Z8.trans Ae;have Ap:=E4.trans Ae;have Aq:=V3.ext Ae;have A7:=E4.trans Ae;refine Zs (Zp (ACj (fun h'=>Ext Ah h') Zy ?_));have Af:=Ext.refl Ah;refine AF0 (fs:=1) ALn Zy Zl rfl (ACl AEn rfl Af (fun h' hb=>(Aq.ext hb).cell (i:=0) rfl) (AF0 (fs:=1) AMb Zy Zl rfl (ACl AHx rfl Af (fun h' hb=>(Aq.ext hb).cell (i:=1) rfl) (AA0 Af rfl (AMw (DS.mono (HDa.ext Ap) (Nat.zero_le _)) hna) fun B5 Ah hk=>?_))));obtain ⟨rfl,L1,Ai,A8⟩:=hk;refine ⟨Af,?_⟩;have A9:=Ai.ds (lo:=lo) HDa.lo;have Ar:=Ai.val;have B7:=Ai.len;refine AA0 Af rfl (AY1 A9 Zj) fun B8 B9 hk=>?_;obtain ⟨Ab,Au⟩:=hk;have Aj:=Af.trans Ab;refine ⟨Aj,?_⟩;have Ca:=Ab.1;have Ba:=A6.trans Ab;have Bb:=Ap.trans Ab;have Bc:=A7.trans Ab;have Be:=A4.ext Ab;have Bf:=Ae.trans Ab;refine AA0 Aj rfl (AJ8 na Au A8 Zj) fun Cb Cd hk=>?_;obtain ⟨Aa,Bg⟩:=hk;have Bh:=Aj.trans Aa;refine ⟨Bh,?_⟩;have Ce:=Aa.1;have Bi:=Ba.trans Aa;have Bj:=Bb.trans Aa;have Bl:=Bc.trans Aa;have Bm:=Be.ext Aa;have Bn:=Bf.trans Aa;have Bo:=Au.ext Aa;obtain ⟨Av,s3,L3,rfl,Ax,Bq,Br,Ay⟩:=Bg.out;refine AB9 [.bool Av,s3] ABn rfl rfl rfl rfl (AJp Ax.cap) Bm fun Cf Bt Ac=>?_;have Bu:=Bj.thenUpd Ac (fun k hk=>by have Ak:k=Ad:=hk;omega);have Cg:=Ac.1;have Ch:=Bi.thenUpd Ac (fun k hk=>by have Ak:k=Ad:=hk;omega);have Ci:=Bn.thenUpd Ac (fun k hk=>by have Ak:k=Ad:=hk;omega);have Cj:=Bl.thenUpd Ac (fun k hk=>by have Ak:k=Ad:=hk;omega);have Ck:=Bo.updLo Ac Zj;have Bv:=Ax.updLo Ac Zj;refine Zs (Zx (⟨_,ACg ABn rfl rfl Bt,?_⟩));exact ⟨Bu,⟨Av,s3,L3,rfl,Bv.mono Zj,Bq,Br,by first | (rw [<- Ay,Ar,hza];done) | (rw [<- Ay,Ar,hza];cases na <;> simp [sgn])⟩⟩
def ANw (a b:Nat):Int:=if a < b then -1 else if a=b then 0 else 1
theorem AKj {a b:Nat} (h:a < b):ANw a b= -1:=if_pos h
theorem AKk {a b:Nat} (h:b < a):ANw a b=1:=by unfold ANw;rw [if_neg Zj,if_neg Zj]
theorem ARl {a b:Nat} (h:a=b):ANw a b=0:=by unfold ANw;rw [if_neg Zj,if_pos h]
theorem AKl {A B:List Nat} (ha:Dig A) (hb:TL B) (h:A.length < B.length):nv A < nv B:=by
 have h1:=ANo ha;have h2:=Am5 hb (fun he=>by rw [he] at h;simp at h);have h3:4294967296 ^ A.length<=4294967296 ^ (B.length - 1):=Nat.pow_le_pow_right Zl Zj;omega
theorem AKm {A B:List Nat} (ha:Dig A) (hb:Dig B) {i x y:Nat} (hl:A.length=B.length) (hx:A[i]? =some x) (hy:B[i]? =some y) (hxy:x < y) (hs:∀ q,i < q->A[q]? =B[q]?):nv A < nv B:=by
 have hi:=(List.getElem?_eq_some_iff.1 hx).1;have hd:A.drop (i + 1)=B.drop (i + 1):=List.ext_getElem? fun q=>by rw [List.getElem?_drop,List.getElem?_drop];exact hs _ Zj
 have e:∀ L:List Nat,nv L=nv (L.take (i + 1)) + 4294967296 ^ (L.take (i + 1)).length * nv (L.drop (i + 1)):=fun L=>by rw [<- AVw,List.take_append_drop]
 rw [e A,e B,hd,AB2 hx,AB2 hy,List.length_take,List.length_take,hl];have h1:=ARh ha (i:=i) Zj;have h2:4294967296 ^ i * (x + 1)<=4294967296 ^ i * y:=Nat.mul_le_mul_left _ hxy;rw [Nat.mul_add,Nat.mul_one] at h2;omega
theorem AWm {h:Zv} {la lb:Nat} {va vb:Value} {LA LB:List Nat} (HA:DS h la va LA) (HB:DS h lb vb LB) (hta:TL LA) (htb:TL LB) (hna:LA.length<=1000000) (hnb:LB.length<=1000000):AAw Tryz.prog 178 #[va,vb] h fun x h'=>h'=h/\x= .int .i64 (ANw (nv LA) (nv LB)):=by
 refine ABe (l:=[_,_]) mx Tryz.func178 rfl rfl rfl rfl rfl Zy (Zo (Zu (Zp (Zt (Zo (Zk (ABw AAp rfl HA (Zk (ABw AAp rfl HB (AEl rfl rfl (fun Ac=>?_) (fun Ac=>?_)))))))))))
 ·refine Zu (AAr rfl (Zo (Zu (Zx (ABg (AAd (⟨_,Zz,?_⟩)))))))
  first
  | exact ⟨rfl,congrArg (Value.int .i64) (AKj (AKl HA.dig htb Zj)).symm⟩
  | exact ⟨rfl,congrArg (Value.int .i64) (AKk (AKl HB.dig hta Zj)).symm⟩
  | exact ⟨rfl,congrArg (Value.int .i64) (AKj (AKm HA.dig HB.dig Zj hx hy Zj (fun q hq=>hsame q Zj))).symm⟩
  | exact ⟨rfl,congrArg (Value.int .i64) (AKk (AKm HB.dig HA.dig Zj hy hx Zj (fun q hq=>(hsame q Zj).symm))).symm⟩
  | exact ⟨rfl,congrArg (Value.int .i64) (ARl (congrArg nv (List.ext_getElem? fun q=>hsame q Zj))).symm⟩
 ·refine Zu (AAy rfl (Zo (Zk (ABw AAp rfl HA (Zk (ABw AAp rfl HB (ARb rfl rfl (fun Ad=>?_) (fun Ad=>?_))))))))
  ·refine Zu (AAr rfl (Zo (Zu (Zx (ABg (AAd (⟨_,Zz,?_⟩)))))))
   first
   | exact ⟨rfl,congrArg (Value.int .i64) (AKj (AKl HA.dig htb Zj)).symm⟩
   | exact ⟨rfl,congrArg (Value.int .i64) (AKk (AKl HB.dig hta Zj)).symm⟩
   | exact ⟨rfl,congrArg (Value.int .i64) (AKj (AKm HA.dig HB.dig Zj hx hy Zj (fun q hq=>hsame q Zj))).symm⟩
   | exact ⟨rfl,congrArg (Value.int .i64) (AKk (AKm HB.dig HA.dig Zj hy hx Zj (fun q hq=>(hsame q Zj).symm))).symm⟩
   | exact ⟨rfl,congrArg (Value.int .i64) (ARl (congrArg nv (List.ext_getElem? fun q=>hsame q Zj))).symm⟩
  ·refine Zu (AAy rfl (Zw (q_b (q_t (Zp (Zo (Zk (ABw AAp rfl HA (AM1 rfl rfl Zj Zj (Zu (Zt (AFj 35184369991728 (fun i:Nat=>[(5,.int .i64 ((i:Int) - 1))]) (fun k i h'=>h'=h/\i=k/\i<=LA.length/\ ∀ q,i<=q->LA[q]? =LB[q]?) Zy LA.length LA.length ?_ ⟨rfl,trivial⟩ ?_))))))))))))
   ·exact ⟨rfl,rfl,Nat.le_refl _,fun q hq=>by rw [List.getElem?_eq_none hq,List.getElem?_eq_none Zj]⟩
   rintro k i s1 h ⟨rfl,rfl,hi,hsame⟩;refine Zp (Zo (Zk (AU8 rfl rfl (fun Ae=>?_) (fun Ae=>?_))))
   ·refine Zs (AAr rfl (Zw (q_t (Zp (Zt (Zt (Zp ?_)))))));obtain ⟨x,hx⟩:∃ x,LA[i - 1]? =some x:=⟨_,List.getElem?_eq_getElem Zj⟩;obtain ⟨y,hy⟩:∃ y,LB[i - 1]? =some y:=⟨_,List.getElem?_eq_getElem Zj⟩;have e1:((i:Int) - 1)=((i - 1:Nat):Int):=by omega
    refine ARa Zy (Zk (Zk (AI1 (n:=i - 1) AAp rfl HA (show Value.int .i64 ((i:Int) - 1)=_ by rw [e1]) hx fun a1 Af=>?_)));refine AA7 ACm rfl Af (Zk (Zk (AI1 (n:=i - 1) AAp rfl HB (show Value.int .i64 ((i:Int) - 1)=_ by rw [e1]) hy fun a2 Ag=>?_)));refine AA7 ACm rfl Ag (AEl rfl rfl (fun Ah=>?_) (fun Ah=>?_))
    ·refine Zu (AAr rfl (Zo (Zu (Zx (ABg (ABg (AAd (AAd (ABg (AAd (⟨_,Zz,?_⟩)))))))))))
     first
     | exact ⟨rfl,congrArg (Value.int .i64) (AKj (AKl HA.dig htb Zj)).symm⟩
     | exact ⟨rfl,congrArg (Value.int .i64) (AKk (AKl HB.dig hta Zj)).symm⟩
     | exact ⟨rfl,congrArg (Value.int .i64) (AKj (AKm HA.dig HB.dig Zj hx hy Zj (fun q hq=>hsame q Zj))).symm⟩
     | exact ⟨rfl,congrArg (Value.int .i64) (AKk (AKm HB.dig HA.dig Zj hy hx Zj (fun q hq=>(hsame q Zj).symm))).symm⟩
     | exact ⟨rfl,congrArg (Value.int .i64) (ARl (congrArg nv (List.ext_getElem? fun q=>hsame q Zj))).symm⟩
    ·refine Zu (AAy rfl (Zp (ARa Zy (Zk (Zk (AI1 (n:=i - 1) AAp rfl HA (show Value.int .i64 ((i:Int) - 1)=_ by rw [e1]) hx fun a3 Ai=>?_))))));refine AA7 ACm rfl Ai (Zk (Zk (AI1 (n:=i - 1) AAp rfl HB (show Value.int .i64 ((i:Int) - 1)=_ by rw [e1]) hy fun a4 Aj=>?_)));refine AA7 ACm rfl Aj (ARb rfl rfl (fun Ak=>?_) (fun Ak=>?_))
     ·refine Zu (AAr rfl (Zo (Zu (Zx (ABg (ABg (AAd (AAd (ABg (AAd (⟨_,Zz,?_⟩)))))))))))
      first
      | exact ⟨rfl,congrArg (Value.int .i64) (AKj (AKl HA.dig htb Zj)).symm⟩
      | exact ⟨rfl,congrArg (Value.int .i64) (AKk (AKl HB.dig hta Zj)).symm⟩
      | exact ⟨rfl,congrArg (Value.int .i64) (AKj (AKm HA.dig HB.dig Zj hx hy Zj (fun q hq=>hsame q Zj))).symm⟩
      | exact ⟨rfl,congrArg (Value.int .i64) (AKk (AKm HB.dig HA.dig Zj hy hx Zj (fun q hq=>(hsame q Zj).symm))).symm⟩
      | exact ⟨rfl,congrArg (Value.int .i64) (ARl (congrArg nv (List.ext_getElem? fun q=>hsame q Zj))).symm⟩
     ·refine Zu (AAy rfl (Zw (q_b (q_b (q_t (AAc (Zk (AM1 rfl rfl Zj Zj (Zu ?_)))))))));exact ⟨i - 1,i - 1,Zj,⟨rfl,rfl,Zj,fun q hq=>by rcases Nat.lt_or_ge q i with h2 | h2;obtain rfl:q=i - 1:=Zj;rw [hx,hy];congr 1;omega;exact hsame q h2⟩,by rw [show ((i - 1:Nat):Int) - 1=(i:Int) - 1 - 1 by omega];rfl,trivial⟩
   ·refine Zs (AAy rfl (AAj (AAk (AAk (ABm (q_t (Zo (Zu (Zx (⟨_,Zz,?_⟩))))))))))
    first
    | exact ⟨rfl,congrArg (Value.int .i64) (AKj (AKl HA.dig htb Zj)).symm⟩
    | exact ⟨rfl,congrArg (Value.int .i64) (AKk (AKl HB.dig hta Zj)).symm⟩
    | exact ⟨rfl,congrArg (Value.int .i64) (AKj (AKm HA.dig HB.dig Zj hx hy Zj (fun q hq=>hsame q Zj))).symm⟩
    | exact ⟨rfl,congrArg (Value.int .i64) (AKk (AKm HB.dig HA.dig Zj hy hx Zj (fun q hq=>(hsame q Zj).symm))).symm⟩
    | exact ⟨rfl,congrArg (Value.int .i64) (ARl (congrArg nv (List.ext_getElem? fun q=>hsame q Zj))).symm⟩
theorem Ac2 {h:Zv} {la lb:Nat} {va vb:Value} {LA LB:List Nat} (HA:DS h la va LA) (HB:DS h lb vb LB) (hna:LA.length<=1000) (hnb:LB.length<=1000):AAw Tryz.prog 167 #[va,vb] h fun x h'=>Ext h h'/\ ∃ L,DS h' (Array.size h) x L/\TL L/\nv L=nv LA + nv LB/\L.length<=1001:=by
 refine ABe (l:=[_,_]) mx Tryz.func167 rfl rfl rfl rfl rfl Zy (Zo (Zu (AU4 65027 (fun y:Value × Value × List Nat × List Nat=>[(0,y.1),(1,y.2.1)]) (fun y h'=>h'=h/\DS h 0 y.1 y.2.2.1/\DS h 0 y.2.1 y.2.2.2/\y.2.2.2.length<=y.2.2.1.length/\y.2.2.1.length<=1000/\nv y.2.2.1 + nv y.2.2.2=nv LA + nv LB) Zy ?_ ?_)))
 ·refine Zo (Zk (ABw AAp rfl HA (Zk (ABw AAp rfl HB (AEl rfl rfl (fun Ao=>?_) (fun Ao=>?_))))))
  ·refine Zs (AAr rfl (AAc (Zk (Zk (AAn (Zu ?_))))));exact ⟨(_,_,LB,LA),⟨rfl,HB.mono (Nat.zero_le _),HA.mono (Nat.zero_le _),by first | omega | (dsimp only;omega),hnb,Nat.add_comm _ _⟩,rfl,rfl,trivial⟩
  ·refine Zs (AAy rfl (Zw (q_t ?_)));exact ⟨(_,_,LA,LB),⟨rfl,HA.mono (Nat.zero_le _),HB.mono (Nat.zero_le _),by first | omega | (dsimp only;omega),hna,rfl⟩,rfl,rfl,trivial⟩
 rintro ⟨A9,Ba,A,B⟩ s0 h ⟨rfl,HX,HY,hBA,Ap,hsum⟩;dsimp only at HX HY hBA Ap hsum ⊢;refine Zo (Zk (ABw AAp rfl HX (APl (b:=1) rfl rfl Zj (Aar (n:=A.length + 1) AAp ALw (fun _=>trivial) rfl rfl Zl Zj fun g1 v1 h1 Aq E1 Ar Be=>?_))));have Bf:=E1.1;have Z2:=(Ext.refl h).trans E1;refine AA5 (Zu (Zp (Zo (Zk (ABw AAp rfl (HY.ext E1) (Zk (Zs (Zt (AFj 70368739983552 (fun y:Nat × Nat=>[(22,.int .i64 (y.1:Int)),(6,.int .u64 (y.2:Int))]) (fun k y h'=>k=B.length - y.1/\y.1<=B.length/\Ext h h'/\y.2<=1/\ ∃ D,ADq h' 172 g1 v1 ((D ++ List.replicate ((A.length + 1) - y.1) 0).map ANy)/\D.length=y.1/\Dig D/\nv D + 4294967296 ^ y.1 * y.2=nv (A.take y.1) + nv (B.take y.1)) Zy B.length (0,0) ?_ ⟨rfl,rfl,trivial⟩ ?_)))))))))
 ·exact ⟨rfl,Nat.zero_le _,E1,by first | omega | (dsimp only;omega),[],by simpa using Aq,rfl,fun x hx=>(by simp at hx),rfl⟩
 rintro k ⟨i,c⟩ s1 h2 ⟨rfl,hi,E2,hc,D,Ag,hDl,hDd,hDv⟩;dsimp only at hi hc Ag hDl hDv ⊢;have Bi:=E2.1;refine Zo (AEl rfl rfl (fun Au=>?_) (fun Au=>?_))
 ·refine Zs (Zp (AAr rfl (Zw (q_t (Zp (Zt (Zo (Zk (Zu (Zp ?_))))))))));obtain ⟨x,hx⟩:∃ x,A[i]? =some x:=⟨_,List.getElem?_eq_getElem Zj⟩;have hbx:=HX.dig x (List.mem_of_getElem? hx);obtain ⟨y,hy⟩:∃ x,B[i]? =some x:=⟨_,List.getElem?_eq_getElem Zj⟩;have hby:=HY.dig y (List.mem_of_getElem? hy);refine ARa Zy (Zk (Zk (Zk (AI1 AAp rfl (HX.ext E2) rfl hx fun Bj Av=>AA7 ACm rfl Av (ASu ADg ACs rfl hbx (Zk (Zk (AI1 AAp rfl (HY.ext E2) rfl hy fun Bl Aw=>AA7 ACm rfl Aw (ASu ADg ACs rfl hby (AO1 rfl rfl Zj (AO1 rfl rfl Zj (AA5 (Zk (Zk (Zk (AUr ACs ADg rfl (AS5 AAp rfl Ag rfl (by simp;omega) ?_)))))))))))))))));refine AUq (D ++ [(c + (x + y)) % 4294967296] ++ List.replicate (A.length + 1 - (i + 1)) 0) ACm rfl rfl Ag (by simp;omega) (AZu hDl Zj) fun h4 Ax U4=>?_;have Bn:=U4.1;have X7:=E2.thenUpd U4 (fun k hk=>by have Ad:k=g1:=hk;omega);have Z8:=E2.thenUpd U4 (fun k hk=>by have Ad:k=g1:=hk;omega);refine Zs (AAc (Zk (AT0 rfl rfl (AAn (AAo (q_b (q_t (AAc (AJ4 rfl Zj (Zk (Zs ?_)))))))))));exact ⟨B.length - (i + 1),(i + 1,(c + (x + y)) / 4294967296),by first | omega | (dsimp only;omega),⟨rfl,by first | omega | (dsimp only;omega),X7,by first | omega | (dsimp only;omega),_,Ax,by simp [hDl],AM2 hDd (Nat.mod_lt _ Zl),by rw [ALq,hDl,AT1 hDv,AB2 hx,AB2 hy,Nat.mul_add];omega⟩,rfl,rfl,trivial⟩
 ·refine Zs (Zp (AAy rfl (AAj (AAk (AAk (ABm (q_t (Zp (Zo (Zk (ABw AAp rfl (HX.ext E2) (Zk (ABw AAp rfl (HY.ext E2) (AM1 rfl rfl Zj Zj ?_))))))))))))));rw [show ((A.length:Nat):Int) - ((B.length:Nat):Int)=((A.length - B.length:Nat):Int) by omega];refine Zk (Zs (Zt ?_));obtain rfl:i=B.length:=by omega
  rw [List.take_length] at hDv;refine AFj 37778929611157348024640 (fun y:Nat × Nat=>[(51,.int .i64 (y.1:Int)),(6,.int .u64 (y.2:Int))]) (fun k y h'=>k=A.length - B.length - y.1/\y.1<=A.length - B.length/\Ext h h'/\y.2<=1/\ ∃ D,ADq h' 172 g1 v1 ((D ++ List.replicate ((A.length + 1) - (B.length + y.1)) 0).map ANy)/\D.length=B.length + y.1/\Dig D/\nv D + 4294967296 ^ (B.length + y.1) * y.2=nv (A.take (B.length + y.1)) + nv B) Zy (A.length - B.length) (0,c) ?_ ⟨rfl,rfl,trivial⟩ ?_
  ·exact ⟨rfl,Nat.zero_le _,E2,hc,D,Ag,hDl,hDd,hDv⟩
  rintro k ⟨j,c⟩ s2 h3 ⟨rfl,hj,E3,hc,D,Ae,hDl,hDd,hDv⟩;dsimp only at hj hc Ae hDl hDv ⊢;have Bq:=E3.1;refine Zo (AEl rfl rfl (fun Az=>?_) (fun Az=>?_))
  ·refine Zs (Zp (AAr rfl (Zw (q_t (Zp (Zt (Zo (Zk (Zu (Zp ?_))))))))));obtain ⟨x,hx⟩:∃ x,A[(B.length + j)]? =some x:=⟨_,List.getElem?_eq_getElem Zj⟩;have hbx:=HX.dig x (List.mem_of_getElem? hx);refine AAc (Zk (Zk (Zk (ABw AAp rfl (HY.ext E3) (Zk (APl rfl rfl Zj (AI1 AAp rfl (HX.ext E3) rfl hx fun Br A3=>AA7 ACm rfl A3 (ASu ADg ACs rfl hbx (AO1 rfl rfl Zj (AA5 (Zk (Zk (ABw AAp rfl (HY.ext E3) (Zk (APl rfl rfl Zj (Zk (AUr ACs ADg rfl (AS5 AAp rfl Ae rfl (by simp;omega) ?_))))))))))))))))));refine AUq (D ++ [(c + x) % 4294967296] ++ List.replicate (A.length + 1 - (B.length + j + 1)) 0) ACm rfl rfl Ae (by simp;omega) (AZu hDl Zj) fun h5 A4 U5=>?_;have Bu:=U5.1;have A5:=E3.thenUpd U5 (fun k hk=>by have Ad:k=g1:=hk;omega);have Bv:=E3.thenUpd U5 (fun k hk=>by have Ad:k=g1:=hk;omega);refine Zs (AAc (Zk (AT0 rfl rfl (AAn (AAo (q_b (q_t (AAc (AJ4 rfl Zj (Zk (Zs ?_)))))))))));exact ⟨A.length - B.length - (j + 1),(j + 1,(c + x) / 4294967296),by first | omega | (dsimp only;omega),⟨rfl,by first | omega | (dsimp only;omega),A5,by first | omega | (dsimp only;omega),_,A4,by simp [hDl];omega,AM2 hDd (Nat.mod_lt _ Zl),by rw [ALq,hDl,<- Nat.add_assoc,AT1 hDv,AB2 hx];omega⟩,rfl,rfl,trivial⟩
  ·refine Zs (Zp (AAy rfl (AAj (AAk (AAk (ABm (q_t (Zp ?_))))))));obtain rfl:j=A.length - B.length:=by omega
   have hBj:B.length + (A.length - B.length)=A.length:=by omega
   rw [hBj,List.take_length] at hDv;rw [hBj] at hDl;refine AAc (Zk (Zk (ABw AAp rfl (HX.ext E3) (Zk (AUr ACs ADg rfl (AS5 AAp rfl Ae rfl (by simp;omega) ?_))))));refine AUq (D ++ [c % 4294967296] ++ List.replicate (A.length + 1 - (A.length + 1)) 0) ACm rfl rfl Ae (by simp;omega) (by rw [hBj];exact AZu hDl Zj) fun h6 Ak U6=>?_;have Bw:=U6.1;have A7:=E3.thenUpd U6 (fun k hk=>by have Ad:k=g1:=hk;omega);have Bx:=E3.thenUpd U6 (fun k hk=>by have Ad:k=g1:=hk;omega);rw [Nat.sub_self,List.replicate_zero,List.append_nil,Nat.mod_eq_of_lt Zj] at Ak;have Am:=Ak.ds (lo:=Array.size h) (AM2 hDd Zj) Ar;refine AId (Zk (AA0 trivial rfl (AMw (Am.mono (Nat.zero_le _)) (by simp;omega)) fun By h6 hk=>?_));obtain ⟨rfl,L2,HT,htl⟩:=hk;refine ⟨trivial,?_⟩;refine Zu (Zx (⟨_,Zz,?_⟩));exact ⟨A7,L2,HT.ds Am.lo,htl,by rw [HT.val,ALq,hDl,hDv];exact hsum,by have:=HT.len;simp at this;omega⟩
theorem AY2 {h:Zv} {la lb:Nat} {va vb:Value} {LA LB:List Nat} (HA:DS h la va LA) (HB:DS h lb vb LB) (htb:TL LB) (hle:nv LB<=nv LA) (hna:LA.length<=1000):AAw Tryz.prog 168 #[va,vb] h fun x h'=>Ext h h'/\ ∃ L,DS h' (Array.size h) x L/\TL L/\nv L=nv LA - nv LB/\L.length<=LA.length:=by
 refine ABe (l:=[_,_]) mx Tryz.func168 rfl rfl rfl rfl rfl Zy (Zo (AA5 (Zk (ABw AAp rfl HA (Aar (n:=LA.length) AAp ALw (fun _=>trivial) rfl rfl Zl Zj fun g1 v1 h1 Aj E1 Ak Az=>?_)))));have A3:=E1.1;have Z2:=(Ext.refl h).trans E1;refine AA5 (Zu (Zp (Zo (Zk (ABw AAp rfl (HA.ext E1) (Zk (Zs (Zt (AFj 8796093006272 (fun y:Nat × Nat=>[(14,.int .i64 (y.1:Int)),(6,.int .u64 (y.2:Int))]) (fun k y h'=>k=LA.length - y.1/\y.1<=LA.length/\Ext h h'/\y.2<=1/\ ∃ D,ADq h' 172 g1 v1 ((D ++ List.replicate (LA.length - y.1) 0).map ANy)/\D.length=y.1/\Dig D/\nv D + nv (LB.take y.1)=nv (LA.take y.1) + 4294967296 ^ y.1 * y.2) Zy LA.length (0,0) ?_ ⟨rfl,rfl,trivial⟩ ?_)))))))))
 ·exact ⟨rfl,Nat.zero_le _,E1,by first | omega | (dsimp only;omega),[],by simpa using Aj,rfl,fun x hx=>(by simp at hx),rfl⟩
 rintro k ⟨i,c⟩ s1 h2 ⟨rfl,hi,E2,hc,D,Ab,hDl,hDd,hDv⟩;dsimp only at hi hc Ab hDl hDv ⊢;have A5:=E2.1;refine Zo (AEl rfl rfl (fun Am=>?_) (fun Am=>?_))
 ·refine Zs (Zp (AAr rfl (Zw (q_t (Zp (Zt (Zo (Zk (Zu (Zp ?_))))))))));obtain ⟨x,hx⟩:∃ x,LA[i]? =some x:=⟨_,List.getElem?_eq_getElem Zj⟩;have hbx:=HA.dig x (List.mem_of_getElem? hx);refine AAc (Zk (Zk (AI1 AAp rfl (HA.ext E2) rfl hx fun A6 Ao=>AA7 ACm rfl Ao (ASu ADg ACs rfl hbx (Zk (AFl rfl rfl ?_))))));rw [wrap_u64];refine Zu (AU4 34342961408 (fun s:Int=>[(8,.int .u64 (s % 18446744073709551616))]) (fun s h'=>h'=h2/\s=((x:Int) - (c:Int) - ((LB[i]?.getD 0:Nat):Int))) Zy ?_ ?_)
  ·refine Zo (Zk (Zk (ABw AAp rfl (HB.ext E2) (AEl rfl rfl (fun Ap=>?_) (fun Ap=>?_)))))
   ·refine Zs (AAr rfl ?_);obtain ⟨y,Af⟩:∃ y,LB[i]? =some y:=⟨_,List.getElem?_eq_getElem Zj⟩;have hby:=HB.dig y (List.mem_of_getElem? Af);refine AAc (Zk (Zk (Zk (AI1 AAp rfl (HB.ext E2) rfl Af fun A7 Aq=>AA7 ACm rfl Aq (ASu ADg ACs rfl hby (AFl rfl rfl (Zu ?_)))))));exact ⟨((x:Int) - (c:Int) - ((LB[i]?.getD 0:Nat):Int)),⟨rfl,rfl⟩,by rw [Af];show Value.int .u64 _=_;congr 1;rw [wrap_u64];simp only [Option.getD_some];omega,trivial⟩
   ·refine Zs (AAy rfl (Zw (q_t ?_)));exact ⟨((x:Int) - (c:Int) - ((LB[i]?.getD 0:Nat):Int)),⟨rfl,rfl⟩,by rw [List.getElem?_eq_none Zj];show Value.int .u64 _=_;congr 1;simp only [Option.getD_none];omega,trivial⟩
  rintro s s2 h2 ⟨rfl,hs⟩;obtain ⟨y,hy⟩:∃ y,LB[i]?.getD 0=y:=⟨_,rfl⟩;rw [hy] at hs;refine Zp ?_
  have hby:y < 4294967296:=by
    rw [<- hy]
    cases hq:LB[i]? with
    | none=>simp
    | some q=>exact HB.dig q (List.mem_of_getElem? hq)
  refine AAc (Zk (Zk (Zk (AMy ACs ADg rfl ?_))));obtain ⟨dg,hdg⟩:∃ dg:Nat,(dg:Int)=s % 4294967296:=⟨(s % 4294967296).toNat,Zj⟩;rw [show IntKind.u32.wrap (s % 18446744073709551616)=(dg:Int) by rw [wrap_u32,hdg];omega];refine AS5 AAp rfl Ab rfl (by simp;omega) ?_;refine AUq (D ++ [dg] ++ List.replicate (LA.length - (i + 1)) 0) ACm rfl rfl Ab (by simp;omega) (AZu hDl Zj) fun h4 Ar U4=>?_;have A9:=U4.1;have X7:=E2.thenUpd U4 (fun k hk=>by have Av:k=g1:=hk;omega);have Z8:=E2.thenUpd U4 (fun k hk=>by have Av:k=g1:=hk;omega);refine Zs (AAc (Zk (Aao (n:=63) rfl rfl Zl ?_)));rw [show s % 18446744073709551616 / 2 ^ 63=((if s < 0 then 1 else 0:Nat):Int) by split <;> omega];refine AAn (AAo (q_b (q_t (AAc (AJ4 rfl Zj (Zk (Zs ?_)))))));exact ⟨LA.length - (i + 1),(i + 1,if s < 0 then 1 else 0),by first | omega | (dsimp only;omega),⟨rfl,by first | omega | (dsimp only;omega),X7,by dsimp only;split <;> omega,_,Ar,by simp [hDl],AM2 hDd Zj,by rw [ALq,hDl,ALr LB,hy,AB2 hx];exact AVe hDv (by split <;> omega)⟩,rfl,rfl,trivial⟩
 ·refine Zs (Zp (AAy rfl (AAj (AAk (AAk (ABm (q_t (Zp ?_))))))));obtain rfl:i=LA.length:=by omega
  rw [List.take_length,List.take_of_length_le (by have:=AMm htb (Nat.lt_of_le_of_lt hle (ANo HA.dig));omega)] at hDv;have hDlt:=ANo hDd;rw [hDl] at hDlt
  have Aw:c=0:=by
    rcases Nat.eq_zero_or_pos c with h0 | h0
    · exact h0
    · obtain rfl:c=1:=by omega
      rw [Nat.mul_one] at hDv;omega
  subst Aw;rw [Nat.mul_zero,Nat.add_zero] at hDv;rw [Nat.sub_self,List.replicate_zero,List.append_nil] at Ab;have Ai:=Ab.ds (lo:=Array.size h) hDd Ak;refine AAc (Zk (AA0 trivial rfl (AMw (Ai.mono (Nat.zero_le _)) Zj) fun x9 h2 hk=>?_));obtain ⟨rfl,L2,HT,htl⟩:=hk;refine ⟨trivial,?_⟩;refine Zu (Zx (⟨_,Zz,?_⟩));exact ⟨E2,L2,HT.ds Ai.lo,htl,by rw [HT.val];omega,by have:=HT.len;omega⟩
theorem Aos {L:List Nat} (h:Dig L) (hl:L.length<=1):nv L<=4294967295:=by
 have h1:=ANo h;have h2:4294967296 ^ L.length<=4294967296 ^ 1:=Nat.pow_le_pow_right Zl hl;omega
theorem Aot {A B:List Nat} (ha:Dig A) (hb:Dig B) (la:A.length<=1) (lb:B.length<=1):nv A * nv B < 18446744073709551616:=by
 have:=Nat.mul_le_mul (Aos ha la) (Aos hb lb);omega
theorem APn {a b:Nat} (h:0<=ANw a b):b<=a:=by
 unfold ANw at h;split at h
 ·omega
 ·omega
theorem AT4 {a b:Nat} (h:ANw a b < 0):a<=b:=by
 unfold ANw at h;split at h
 ·omega
 ·split at h <;> omega
theorem Aaw {A B:List Nat} (ha:Dig A) (hb:Dig B) (la:A.length<=99) (lb:B.length<=99):nv A + nv B < 4294967296 ^ 100:=by
 have h1:=ANo ha;have h2:=ANo hb;have h3:4294967296 ^ A.length<=4294967296 ^ 99:=Nat.pow_le_pow_right Zl la;have h4:4294967296 ^ B.length<=4294967296 ^ 99:=Nat.pow_le_pow_right Zl lb;have h5:4294967296 ^ 100=4294967296 ^ 99 * 4294967296:=Nat.pow_succ 4294967296 99;rw [h5];have h6:0 < 4294967296 ^ 99:=Nat.pow_pos Zl;generalize 4294967296 ^ 99=t at *;omega
theorem AT5 {a b:Bool} {x y:Nat} (h:a=b):sgn a x + sgn b y=sgn a (x + y):=by
 subst h;cases a <;> simp [sgn] <;> omega
theorem AT6 {a b:Bool} {x y:Nat} (h:a≠b) (hl:y<=x):sgn a x + sgn b y=sgn a (x - y):=by
 cases a <;> cases b <;> simp [sgn] at h ⊢ <;> omega
theorem ARm {a b:Bool} {x y:Nat} (h:a≠b) (hl:x<=y):sgn a x + sgn b y=sgn b (y - x):=by
 cases a <;> cases b <;> simp [sgn] at h ⊢ <;> omega
theorem Aea {h:Zv} {la lb:Nat} {va vb:Value} {LA LB:List Nat} (na nb:Bool) (HA:DS h la va LA) (HB:DS h lb vb LB) (hta:TL LA) (htb:TL LB) (hna:LA.length<=99) (hnb:LB.length<=99):AAw Tryz.prog 177 #[.bool na,va,.bool nb,vb] h fun x h'=>Ext h h'/\ZV h' (Array.size h) x (sgn na (nv LA) + sgn nb (nv LB)):=by
 refine ABe (l:=[_,_,_,_]) mx Tryz.func177 rfl rfl rfl rfl rfl Zy (Zo (AG4 [.bool false,.slice none 0 0] AE3 rfl (fun _=>trivial) fun Ab h2 V3 E4 A8 Cg=>?_));have Ch:Array.size h<=Ab:=A8;have Ci:=E4.1;have Z8:=(Ext.refl h).trans E4;refine Zs (Zp (Zt (Zo (Zk (Zk (Afa AVz rfl rfl ?_))))));cases Cj:na == nb
 ·refine Zu (AAy rfl (Zo (Zk (Zk (AA0 trivial rfl (AWm (HA.ext E4) (HB.ext E4) hta htb Zj Zj) fun x9 h2 hk=>?_)))));obtain ⟨rfl,rfl⟩:=hk;refine ⟨trivial,?_⟩;refine AU8 rfl rfl (fun A9=>?_) (fun A9=>?_)
  ·refine Zu (AAr rfl (Zo (Zk (Zk (Zk (AA0 trivial rfl (AY2 (HA.ext E4) (HB.ext E4) htb (APn (by assumption)) Zj) fun Cm Cn hk=>?_))))));obtain ⟨Aq,L1,Ac,Ag,Ah,A6⟩:=hk;refine ⟨trivial,?_⟩;have Co:=Aq.1;have Ba:=Z8.trans Aq;have Bb:=E4.trans Aq;have Bc:=V3.ext Aq;have Be:=E4.trans Aq;refine AA0 trivial rfl (AJ8 na Ac Ag Zj) fun Cp Cq hk=>?_;obtain ⟨Ai,Ar⟩:=hk;refine ⟨trivial,?_⟩;have Cr:=Ai.1;have Bf:=Ba.trans Ai;have Bg:=Bb.trans Ai;have Bh:=Bc.ext Ai;have Bi:=Be.trans Ai;have Bj:=Ac.ext Ai;obtain ⟨Ad,s2,L2,rfl,Ae,Av,Aw,Ax⟩:=Ar.out;refine AB9 [.bool Ad,s2] ABn rfl rfl rfl rfl (AJp Ae.cap) Bh fun Ct Bl Aj=>?_;have Bm:=Bg.thenUpd Aj (fun k hk=>by have Af:k=Ab:=hk;omega);have Cu:=Aj.1;have Cv:=Bf.thenUpd Aj (fun k hk=>by have Af:k=Ab:=hk;omega);have Cw:=Bi.thenUpd Aj (fun k hk=>by have Af:k=Ab:=hk;omega);have Cx:=Bj.updLo Aj Zj;have Bn:=Ae.updLo Aj Zj;refine Zs (Zx (ABg (AAd (⟨_,ACg ABn rfl rfl Bl,?_⟩))));exact ⟨Bm,⟨Ad,s2,L2,rfl,Bn.mono Zj,Av,Aw,by rw [<- Ax,Ah];first | exact AT5 (eq_of_beq (by assumption)) | exact AT6 (ne_of_beq_false (by assumption)) (APn (by assumption)) | exact ARm (ne_of_beq_false (by assumption)) (AT4 (by assumption))⟩⟩
  ·refine Zu (AAy rfl (Zw (q_b (q_t (Zo (Zk (Zk (Zk (AA0 trivial rfl (AY2 (HB.ext E4) (HA.ext E4) hta (AT4 (by assumption)) Zj) fun Cy Cz hk=>?_)))))))));obtain ⟨Ay,L1,Ac,Ag,Ah,A6⟩:=hk;refine ⟨trivial,?_⟩;have C0:=Ay.1;have Bo:=Z8.trans Ay;have Bp:=E4.trans Ay;have Bq:=V3.ext Ay;have Br:=E4.trans Ay;refine AA0 trivial rfl (AJ8 nb Ac Ag Zj) fun C1 C2 hk=>?_;obtain ⟨Ak,Ar⟩:=hk;refine ⟨trivial,?_⟩;have C3:=Ak.1;have Bt:=Bo.trans Ak;have Bu:=Bp.trans Ak;have Bv:=Bq.ext Ak;have Bw:=Br.trans Ak;have Bx:=Ac.ext Ak;obtain ⟨Ad,s2,L2,rfl,Ae,Av,Aw,Ax⟩:=Ar.out;refine AB9 [.bool Ad,s2] ABn rfl rfl rfl rfl (AJp Ae.cap) Bv fun C4 By Am=>?_;have Bz:=Bu.thenUpd Am (fun k hk=>by have Af:k=Ab:=hk;omega);have C5:=Am.1;have C6:=Bt.thenUpd Am (fun k hk=>by have Af:k=Ab:=hk;omega);have C7:=Bw.thenUpd Am (fun k hk=>by have Af:k=Ab:=hk;omega);have C8:=Bx.updLo Am Zj;have B1:=Ae.updLo Am Zj;refine Zs (Zx (⟨_,ACg ABn rfl rfl By,?_⟩));exact ⟨Bz,⟨Ad,s2,L2,rfl,B1.mono Zj,Av,Aw,by rw [<- Ax,Ah];first | exact AT5 (eq_of_beq (by assumption)) | exact AT6 (ne_of_beq_false (by assumption)) (APn (by assumption)) | exact ARm (ne_of_beq_false (by assumption)) (AT4 (by assumption))⟩⟩
 ·refine Zu (AAr rfl (Zo (Zk (Zk (Zk (AA0 trivial rfl (Ac2 (HA.ext E4) (HB.ext E4) Zj Zj) fun C9 Da hk=>?_))))));obtain ⟨Az,L1,Ac,Ag,Ah,A6⟩:=hk;refine ⟨trivial,?_⟩;have Db:=Az.1;have B3:=Z8.trans Az;have B4:=E4.trans Az;have B5:=V3.ext Az;have B6:=E4.trans Az;refine AA0 trivial rfl (AJ8 na Ac Ag (AMm Ag (by rw [Ah];exact Aaw HA.dig HB.dig hna hnb))) fun Dc Dd hk=>?_;obtain ⟨Ao,Ar⟩:=hk;refine ⟨trivial,?_⟩;have De:=Ao.1;have B7:=B3.trans Ao;have B8:=B4.trans Ao;have B9:=B5.ext Ao;have Ca:=B6.trans Ao;have Cb:=Ac.ext Ao;obtain ⟨Ad,s2,L2,rfl,Ae,Av,Aw,Ax⟩:=Ar.out;refine AB9 [.bool Ad,s2] ABn rfl rfl rfl rfl (AJp Ae.cap) B9 fun Df Cd Ap=>?_;have Ce:=B8.thenUpd Ap (fun k hk=>by have Af:k=Ab:=hk;omega);have Dg:=Ap.1;have Dh:=B7.thenUpd Ap (fun k hk=>by have Af:k=Ab:=hk;omega);have Di:=Ca.thenUpd Ap (fun k hk=>by have Af:k=Ab:=hk;omega);have Dj:=Cb.updLo Ap Zj;have Cf:=Ae.updLo Ap Zj;refine Zs (Zx (ABg (AAd (⟨_,ACg ABn rfl rfl Cd,?_⟩))));exact ⟨Ce,⟨Ad,s2,L2,rfl,Cf.mono Zj,Av,Aw,by rw [<- Ax,Ah];first | exact AT5 (eq_of_beq (by assumption)) | exact AT6 (ne_of_beq_false (by assumption)) (APn (by assumption)) | exact ARm (ne_of_beq_false (by assumption)) (AT4 (by assumption))⟩⟩
theorem AFb {ng:Bool} {n:Nat} {z:Int} (h:z=sgn ng n):z.natAbs=n:=by
 subst h;cases ng <;> simp [sgn]
theorem Ai4 (ng:Bool) (n:Nat):sgn (!ng) n= -sgn ng n:=by cases ng <;> simp [sgn]
theorem Sub_ok {h:Zv} {la lb:Nat} {va vb:Value} {a b:Int} (HA:ZV h la va a) (HB:ZV h lb vb b) (hba:a.natAbs < 4294967296 ^ 99) (hbb:b.natAbs < 4294967296 ^ 99):AAw Tryz.prog 162 #[va,vb] h fun x h'=>Ext h h'/\ZV h' (Array.size h) x (a - b):=by
 obtain ⟨na,sa,LA,rfl,HDa,htla,hla,hza⟩:=HA.out;obtain ⟨nb,sb,LB,rfl,HDb,htlb,hlb,hzb⟩:=HB.out;refine ABe (l:=[_,_]) mx Tryz.func162 rfl rfl rfl rfl rfl Zy (Zo (AJr [.bool na,sa] (fun _=>trivial) rfl rfl fun Aj h2 V3 E4 A8 B3=>?_));have B4:Array.size h<=Aj:=A8;have B5:=E4.1;have Z8:=(Ext.refl h).trans E4;refine AJr [.bool nb,sb] (fun _=>trivial) rfl rfl fun Ak B6 Ar Af Ba B7=>?_;have B8:Array.size h<=Ak:=Nat.le_trans E4.1 Ba;have nebq1bq9:Aj≠Ak:=by have:=V3.lt;omega
 have B9:=Af.1;have Au:=E4.trans Af;have Av:=V3.ext Af;refine AG4 [.bool false,.slice none 0 0] AE3 rfl (fun _=>trivial) fun Ab Ah Bb Ac Bc Ca=>?_;have Cb:Array.size h<=Ab:=Nat.le_trans Au.1 Bc;have nebq1bq20:Aj≠Ab:=by have:=Av.lt;omega
 have nebq9bq20:Ak≠Ab:=by have:=Ar.lt;omega
 have Cd:=Ac.1;have Be:=(Z8.trans Af).trans Ac;have Am:=Au.trans Ac;have Aw:=Av.ext Ac;have Bf:=(E4.trans Af).trans Ac;have Ax:=Ar.ext Ac;have Bg:=Af.trans Ac;refine Zs (Zp (ACj (fun h'=>Ext Ah h') Zy ?_));have Aa:=Ext.refl Ah;refine AF0 (fs:=1) ALn Zy Zl rfl (ACl AEn rfl Aa (fun h' hb=>(Aw.ext hb).cell (i:=0) rfl) (AF0 (fs:=1) AMb Zy Zl rfl (ACl AHx rfl Aa (fun h' hb=>(Aw.ext hb).cell (i:=1) rfl) (AA0 Aa rfl (AMw (DS.mono (HDa.ext Am) (Nat.zero_le _)) Zj) fun Ce Ah hk=>?_))));obtain ⟨rfl,L1,Ao,Ay⟩:=hk;refine ⟨Aa,?_⟩;have Bh:=Ao.ds (lo:=la) HDa.lo;have Az:=Ao.val;have Cg:=Ao.len;refine AF0 (fs:=1) ALn Zy Zl rfl (ACl AEn rfl Aa (fun h' hb=>(Ax.ext hb).cell (i:=0) rfl) (ACr rfl (AF0 (fs:=1) AMb Zy Zl rfl (ACl AHx rfl Aa (fun h' hb=>(Ax.ext hb).cell (i:=1) rfl) (AA0 Aa rfl (AMw (DS.mono (HDb.ext Am) (Nat.zero_le _)) Zj) fun Ch Ah hk=>?_)))));obtain ⟨rfl,L2,Ap,A3⟩:=hk;refine ⟨Aa,?_⟩;have Bi:=Ap.ds (lo:=lb) HDb.lo;have A4:=Ap.val;have Cj:=Ap.len;refine AA0 Aa rfl (Aea na (!nb) Bh Bi Ay A3 (AMm Ay (by rw [Az,<- AFb hza];exact hba)) (AMm A3 (by rw [A4,<- AFb hzb];exact hbb))) fun Ck Cm hk=>?_;obtain ⟨Ad,Bj⟩:=hk;have Bl:=Aa.trans Ad;refine ⟨Bl,?_⟩;have Cn:=Ad.1;have Bm:=Be.trans Ad;have Bn:=Am.trans Ad;have Bo:=Bf.trans Ad;have Bp:=Bg.trans Ad;have Bq:=Bb.ext Ad;have Br:=Ac.trans Ad;obtain ⟨A5,s3,L3,rfl,A7,Bu,Bv,Bw⟩:=Bj.out;refine AB9 [.bool A5,s3] ABn rfl rfl rfl rfl (AJp A7.cap) Bq fun Co Bx Ae=>?_;have By:=Bn.thenUpd Ae (fun k hk=>by have Ai:k=Ab:=hk;omega);have Cp:=Ae.1;have Cq:=Bm.thenUpd Ae (fun k hk=>by have Ai:k=Ab:=hk;omega);have Cr:=Br.thenUpd Ae (fun k hk=>by have Ai:k=Ab:=hk;omega);have Ct:=Bo.thenUpd Ae (fun k hk=>by have Ai:k=Ab:=hk;omega);have Cu:=Bp.thenUpd Ae (fun k hk=>by have Ai:k=Ab:=hk;omega);have Bz:=A7.updLo Ae Zj;refine Zs (Zx (⟨_,ACg ABn rfl rfl Bx,?_⟩));exact ⟨By,⟨A5,s3,L3,rfl,Bz.mono Zj,Bu,Bv,by rw [<- Bw,Az,A4,hza,hzb,Ai4];omega⟩⟩
theorem Adu (a b:Bool) (x y:Nat):sgn a x * sgn b y=sgn (!(a == b)) (x * y):=by
 cases a <;> cases b <;> simp [sgn,Int.neg_mul,Int.mul_neg]
theorem Ahh {L:List Nat} (h:Dig L) (hl:L.length<=2):nv L < 18446744073709551616:=by
 have h1:=ANo h;have h2:4294967296 ^ L.length<=4294967296 ^ 2:=Nat.pow_le_pow_right Zl hl;omega
theorem AXt {a b:Nat} (h:ANw a b < 0):a < b:=by
 unfold ANw at h;split at h
 ·assumption
 ·split at h <;> omega
theorem Ahz {h:Zv} {la lb:Nat} {va vb:Value} {LA LB:List Nat} (HA:DS h la va LA) (HB:DS h lb vb LB) (hta:TL LA) (htb:TL LB) (Ar:nv LB≠0) (hna:LA.length<=2) (hnb:LB.length<=2):AAw Tryz.prog 166 #[va,vb] h fun x h'=>Ext h h'/\ ∃ q r,x= .tuple #[q,r]/\ ∃ LQ LR,DS h' (Array.size h) q LQ/\DS h' (Array.size h) r LR/\TL LQ/\TL LR/\nv LQ=nv LA / nv LB/\nv LR=nv LA % nv LB/\LQ.length<=2/\LR.length<=2:=by
 refine ABe (l:=[_,_]) mx Tryz.func166 rfl rfl rfl rfl rfl Zy (Zo (AAn (Zu (Zp (Zt (Zo (Zk (Zk (AA0 trivial rfl (AWm HA HB hta htb Zj Zj) fun x1 h hk=>?_)))))))));obtain ⟨rfl,rfl⟩:=hk;refine ⟨trivial,?_⟩;refine AEl rfl rfl (fun Am=>?_) (fun Am=>?_)
 ·refine Zu (AAr rfl (Zo (Zk (AA0 trivial rfl (AY1 HA Zj) fun x2 h3 hk=>?_))));obtain ⟨E4,Aa⟩:=hk;refine ⟨trivial,?_⟩;have Ax:=E4.1;have Z6:=(Ext.refl h).trans E4;refine AAn (Zu (Zx (ABg (AAd (⟨_,ABi,?_⟩)))))
  first
  | (have hlt:=AXt (by assumption:ANw (nv LA) (nv LB) < 0)
     exact ⟨E4,_,_,rfl,[],LA,ARg _ _,Aa,ASt,hta,by rw [Nat.div_eq_of_lt hlt];rfl,by rw [Nat.mod_eq_of_lt hlt],AA4,Zj⟩)
  | exact ⟨E4,_,_,rfl,L1,L2,lacks_HD1.mono Zj,Aa.mono Zj,Ag,Ah,Ai,Aj,Zj,Zj⟩
 ·refine Zu (AAy rfl (Zo (Zk (ABw AAp rfl HA (AS6 rfl rfl (fun _=>?_) (fun hc=>absurd hc Zj))))));refine Zu (AAr rfl (Zo (Zk (AA0 trivial rfl (AZ1 HA Zj) fun x7 h hk=>?_))));obtain ⟨rfl,rfl⟩:=hk;refine ⟨trivial,?_⟩;refine Zk (AA0 trivial rfl (AZ1 HB Zj) fun x8 h hk=>?_);obtain ⟨rfl,rfl⟩:=hk;refine ⟨trivial,?_⟩;refine AAn (Zu (Zp ?_));have hlt:=Ahh HA.dig hna;refine ARa Zy (Zk (Zk (AU5 rfl rfl Zj ?_)));rw [show IntKind.u64.wrap (((nv LA:Nat):Int).tdiv ((nv LB:Nat):Int))=((nv LA / nv LB:Nat):Int) by rw [Int.tdiv_eq_ediv_of_nonneg Zj,<- Int.natCast_ediv,wrap_u64];have hq:=Nat.div_le_self (nv LA) (nv LB);generalize nv LA / nv LB=q at hq ⊢;omega];refine AA0 trivial rfl (AP7 (nv LA / nv LB) (by have:=Nat.div_le_self (nv LA) (nv LB);omega) _) fun x9 A5 hk=>?_;obtain ⟨Ad,L1,Ao,Ag,Ai,A6⟩:=hk;refine ⟨trivial,?_⟩;have A7:=Ad.1;have Ap:=(Ext.refl h).trans Ad;refine Zk (Zk (Amx rfl rfl Zj (AA0 trivial rfl (AP7 (nv LA % nv LB) (by have:=Nat.mod_le (nv LA) (nv LB);omega) _) fun A8 A9 hk=>?_)));obtain ⟨Ac,L2,Aa,Ah,Aj,Ba⟩:=hk;refine ⟨trivial,?_⟩;have Bb:=Ac.1;have Bc:=Ap.trans Ac;have Ak:=Ad.trans Ac;have Aq:=Ao.ext Ac;refine AAn (Zu (Zx (ABg (AAd (⟨_,ABi,?_⟩)))))
  first
  | (have hlt:=AXt (by assumption:ANw (nv LA) (nv LB) < 0)
     exact ⟨Ak,_,_,rfl,[],LA,ARg _ _,Aa,ASt,hta,by rw [Nat.div_eq_of_lt hlt];rfl,by rw [Nat.mod_eq_of_lt hlt],AA4,Zj⟩)
  | exact ⟨Ak,_,_,rfl,L1,L2,Aq.mono Zj,Aa.mono Zj,Ag,Ah,Ai,Aj,Zj,Zj⟩
theorem AMj {a b q r:Int} (hb:b≠0) (h:a=b * q + r) (h0:0<=r) (h1:r < b.natAbs):a / b=q/\a % b=r:=by
 have hr:r % b=r:=by
   rcases AS9 0 b with hp | hn
   · exact Int.emod_eq_of_lt h0 Zj
   · rw [<- Int.emod_neg];exact Int.emod_eq_of_lt h0 Zj
 have hm:a % b=r:=by rw [h,Int.add_comm,Int.add_mul_emod_self_left];exact hr
 refine ⟨?_,hm⟩;have h2:=Int.mul_ediv_add_emod a b;rw [hm] at h2;have h3:b * (a / b)=b * q:=by omega
 exact Int.eq_of_mul_eq_mul_left hb h3
theorem Aug {A B:Nat} (hA:A < 18446744073709551616) (hr:A % B≠0):A / B + 1 < 18446744073709551616:=by
 match B with
 | 0=>simp
 | 1=>omega
 | n + 2=>
   have:A / (n + 2)<=A / 2:=Nat.div_le_div_left (show 2<=n + 2 by omega) Zj
   omega
theorem Auh {nb:Bool} {A B:Nat} (hB:B≠0):sgn nb (A / B)=(A:Int) / sgn nb B/\sgn false (A % B)=(A:Int) % sgn nb B:=by
 have h:=Nat.div_add_mod A B;have hl:=Nat.mod_lt A (Nat.pos_of_ne_zero hB);have h2:(A:Int)=(B:Int) * ((A / B:Nat):Int) + ((A % B:Nat):Int):=by rw [<- Int.natCast_mul,<- Int.natCast_add,h]
 have:=AMj (a:=A) (b:=sgn nb B) (q:=sgn nb (A / B)) (r:=((A % B:Nat):Int)) (by cases nb <;> simp [sgn] <;> omega) (by cases nb <;> simp only [sgn] <;> simp [Int.neg_mul_neg] <;> (rw [<- Int.natCast_ediv,<- Int.natCast_emod];exact h2)) Zj (by cases nb <;> simp only [sgn] <;> simp <;> omega);exact ⟨this.1.symm,this.2.symm⟩
theorem Art {nb:Bool} {A B:Nat} (hB:B≠0) (hr:A % B≠0):sgn (!nb) (A / B + 1)= -(A:Int) / sgn nb B/\sgn false (B - A % B)= -(A:Int) % sgn nb B:=by
 have h:=Nat.div_add_mod A B;have hl:=Nat.mod_lt A (Nat.pos_of_ne_zero hB);have h2:(A:Int)=(B:Int) * ((A / B:Nat):Int) + ((A % B:Nat):Int):=by rw [<- Int.natCast_mul,<- Int.natCast_add,h]
 obtain ⟨q,hq⟩:∃ q,A / B=q:=⟨_,rfl⟩;obtain ⟨r,hrr⟩:∃ r,A % B=r:=⟨_,rfl⟩;rw [hq,hrr] at h2;rw [hrr] at hl hr;rw [hq,hrr];have e:((B - r:Nat):Int)=(B:Int) - (r:Int):=by omega
 have:=AMj (a:= -(A:Int)) (b:=sgn nb B) (q:=sgn (!nb) (q + 1)) (r:=((B - r:Nat):Int)) (by cases nb <;> simp [sgn] <;> omega) (by rw [h2,e];cases nb <;> simp [sgn] <;> grind) Zj (by cases nb <;> simp only [sgn] <;> simp <;> omega);exact ⟨this.1.symm,this.2.symm⟩
theorem Aru {nb:Bool} {A B:Nat} (hB:B≠0) (hr:A % B=0):sgn (!nb) (A / B)= -(A:Int) / sgn nb B/\sgn false (A % B)= -(A:Int) % sgn nb B:=by
 have h:=Nat.div_add_mod A B;have h2:(A:Int)=(B:Int) * ((A / B:Nat):Int):=by rw [<- Int.natCast_mul];omega
 obtain ⟨q,hq⟩:∃ q,A / B=q:=⟨_,rfl⟩;rw [hq] at h2;rw [hq,hr];have:=AMj (a:= -(A:Int)) (b:=sgn nb B) (q:=sgn (!nb) q) (r:=0) (by cases nb <;> simp [sgn] <;> omega) (by rw [h2];cases nb <;> simp [sgn] <;> grind) Zj (by cases nb <;> simp only [sgn] <;> simp <;> omega);exact ⟨this.1.symm,this.2.symm⟩
theorem DivMod2_ok {h:Zv} {la lb:Nat} {va vb:Value} {a b:Int} (HA:ZV h la va a) (HB:ZV h lb vb b) (hba:a.natAbs < 18446744073709551616) (hbb:b.natAbs < 18446744073709551616) (C6:b≠0):AAw Tryz.prog 135 #[va,vb] h fun x h'=>Ext h h'/\ ∃ q r,x= .tuple #[q,r,.bool true]/\ZV h' (Array.size h) q (a / b)/\ZV h' (Array.size h) r (a % b):=by
 obtain ⟨na,sa,LA,rfl,HDa,htla,hla,hza⟩:=HA.out;obtain ⟨nb,sb,LB,rfl,HDb,htlb,hlb,hzb⟩:=HB.out;refine ABe (l:=[_,_]) mx Tryz.func135 rfl rfl rfl rfl rfl Zy (Zo (AJr [.bool na,sa] (fun _=>trivial) rfl rfl fun A6 h2 V3 E4 C7 C8=>?_));have Ho:Array.size h<=A6:=C7;have Hq:=E4.1;have Z8:=(Ext.refl h).trans E4;refine AJr [.bool nb,sb] (fun _=>trivial) rfl rfl fun A7 Hr Bc Ba Da Hs=>?_;have Ht:Array.size h<=A7:=Nat.le_trans E4.1 Da;have nebq1bq9:A6≠A7:=by have:=V3.lt;omega
 have Hu:=Ba.1;have Ch:=E4.trans Ba;have Be:=V3.ext Ba;refine AG4 [.bool false,.slice none 0 0] AE3 rfl (fun _=>trivial) fun Ac Hv Ci Ay Db Hw=>?_;have Hx:Array.size h<=Ac:=Nat.le_trans Ch.1 Db;have nebq1bq20:A6≠Ac:=by have:=Be.lt;omega
 have nebq9bq20:A7≠Ac:=by have:=Bc.lt;omega
 have Hy:=Ay.1;have Dc:=(Z8.trans Ba).trans Ay;have Cj:=Ch.trans Ay;have Ck:=Be.ext Ay;have Dd:=(E4.trans Ba).trans Ay;have Cm:=Bc.ext Ay;refine AG4 [.bool false,.slice none 0 0] AE3 rfl (fun _=>trivial) fun Aa Cn De Ax Df Hz=>?_;have H5:Array.size h<=Aa:=Nat.le_trans Cj.1 Df;have nebq1bq33:A6≠Aa:=by have:=Ck.lt;omega
 have nebq9bq33:A7≠Aa:=by have:=Cm.lt;omega
 have nebq20bq33:Ac≠Aa:=by have:=Ci.lt;omega
 have Ia:=Ax.1;have Dg:=Dc.trans Ax;have Bv:=Cj.trans Ax;have Co:=Ck.ext Ax;have Dh:=Dd.trans Ax;have Cp:=Cm.ext Ax;have Di:=(Ba.trans Ay).trans Ax;have Dj:=Ci.ext Ax;have Dk:=Ay.trans Ax;refine AA5 (AF0 (fs:=1) AMb Zy Zl rfl (AA7 AHx rfl (Cp.cell (i:=1) rfl) (AA0 trivial rfl (AMw (DS.mono (HDb.ext Bv) (Nat.zero_le _)) Zj) fun Ib Cn hk=>?_)));obtain ⟨rfl,L2,Bw,Bx⟩:=hk;refine ⟨trivial,?_⟩;have By:=Bw.ds (lo:=lb) HDb.lo;have A8:=Bw.val;have Ic:=Bw.len;refine Zu (Zp (Zo (Zk (ABw AAp rfl By ?_))));have Bf:nv LB≠0:=fun h0=>C6 (by rw [hzb,h0];cases nb <;> rfl);have hLB:L2≠[]:=fun h0=>Bf (by rw [<- A8,h0];rfl);have hLp:=List.length_pos_iff.2 hLB;refine AS7 rfl rfl (fun hc=>absurd hc Zj) (fun _=>Zs (AAy rfl (Zw (q_t (Zo (AF0 (fs:=1) AMb Zy Zl rfl (AA7 AHx rfl (Co.cell (i:=1) rfl) (AA0 trivial rfl (AMw (DS.mono (HDa.ext Bv) (Nat.zero_le _)) Zj) fun Id Cn hk=>?_))))))));obtain ⟨rfl,L1,Bz,Cr⟩:=hk;refine ⟨trivial,?_⟩;have Ct:=Bz.ds (lo:=la) HDa.lo;have Cu:=Bz.val;have If:=Bz.len;refine Zk (AA0 trivial rfl (Ahz Ct By Cr Bx (by rw [A8];exact Bf) (AMm Cr (by rw [Cu,<- AFb hza];omega)) (AMm Bx (by rw [A8,<- AFb hzb];omega))) fun Ih Ii hk=>?_);obtain ⟨Am,qv,rv,rfl,LQ,LR,HQ,HR,htq,htr,hvq,hvr,hlq,hlr⟩:=hk;refine ⟨trivial,?_⟩;have Ij:=Am.1;have B1:=Dg.trans Am;have B3:=Bv.trans Am;have B4:=Co.ext Am;have B5:=Dh.trans Am;have Dl:=Cp.ext Am;have B6:=Di.trans Am;have B7:=Dj.ext Am;have B8:=Dk.trans Am;have B9:=De.ext Am;have Ca:=By.ext Am;have Cb:=Ct.ext Am;rw [Cu,A8] at hvq hvr;have Ik:L2.length<=2:=AMm Bx (by rw [A8,<- AFb hzb];omega);refine Zk (ABl rfl rfl (ABl rfl rfl (AAn (AA5 (AF0 (fs:=1) ALn Zy Zl rfl (AA7 AEn rfl (Dl.cell (i:=0) rfl) (Zu (Zp (Zt (Zp (Zt (Zp (Zt (Zp (Zp (Zp ?_))))))))))))))));have hrl:LR.length=0↔nv LA % nv LB=0:=⟨fun h0=>by rw [<- hvr,List.length_eq_zero_iff.1 h0];rfl,fun h0=>by rw [AG8 htr (hvr.trans h0)];rfl⟩;refine AAc (AF0 (fs:=1) ALn Zy Zl rfl (AA7 AEn rfl (B4.cell (i:=0) rfl) ?_));cases Bg:na
 ·refine Zk (ABk 32 false Zy rfl rfl (ABk 32 false Zy rfl rfl (ABk 32 false Zy rfl rfl (Z1 rfl (Zu (AAy rfl (Zw (q_t (Zo (AF0 (fs:=1) ALn Zy Zl rfl (AA7 AEn rfl (B4.cell (i:=0) rfl) ?_)))))))))));rw [Bg];refine Zu (AAy rfl (Zw (q_t (AAj (AZn Zl (AAk (AZn Zl (AAk (ABm (q_t (Zo (Zk (Zk (AA0 trivial rfl (AJ8 nb HQ htq Zj) fun Il Im hk=>?_))))))))))))));obtain ⟨Ao,Bh⟩:=hk;refine ⟨trivial,?_⟩;have Io:=Ao.1;have Do:=B1.trans Ao;have Dp:=B3.trans Ao;have Dq:=B5.trans Ao;have Dr:=B6.trans Ao;have Ds:=B7.ext Ao;have Dt:=B8.trans Ao;have Du:=B9.ext Ao;have Ip:=Ca.ext Ao;have Iq:=Cb.ext Ao;have HQ_82:=HQ.ext Ao;have HR_83:=HR.ext Ao;obtain ⟨Az,s7,L7,rfl,Bj,Bl,Bm,Bn⟩:=Bh.out;refine Zk (AA0 trivial rfl (AJ8 false HR_83 htr Zj) fun Ir Is hk=>?_);obtain ⟨Ar,Bo⟩:=hk;refine ⟨trivial,?_⟩;have It:=Ar.1;have Dv:=Do.trans Ar;have Dw:=Dp.trans Ar;have Dx:=Dq.trans Ar;have Dy:=Dr.trans Ar;have Dz:=Ds.ext Ar;have D0:=Dt.trans Ar;have D1:=Du.ext Ar;have HQ_98:=HQ_82.ext Ar;have HR_99:=HR_83.ext Ar;have Cv:=Bj.ext Ar;obtain ⟨A4,s8,L8,rfl,Bq,Br,Bt,Bu⟩:=Bo.out;refine AB9 [.bool Az,s7] ABn rfl rfl rfl rfl (AJp Cv.cap) Dz fun Iu D2 Au=>?_;have D3:=Dw.thenUpd Au (fun k hk=>by have Ab:k=Ac:=hk;omega);have Iv:=Au.1;have D4:=Dv.thenUpd Au (fun k hk=>by have Ab:k=Ac:=hk;omega);have Cd:=D0.thenUpd Au (fun k hk=>by have Ab:k=Ac:=hk;omega);have D5:=Dx.thenUpd Au (fun k hk=>by have Ab:k=Ac:=hk;omega);have D6:=Dy.thenUpd Au (fun k hk=>by have Ab:k=Ac:=hk;omega);have D7:=D1.upd Au (fun he=>(Ne.symm nebq20bq33) (he:Aa=Ac));have HQ_113:=HQ_98.updLo Au Zj;have HR_114:=HR_99.updLo Au Zj;have D8:=Cv.updLo Au Zj;have Cw:=Bq.updLo Au Zj;refine AB9 [.bool A4,s8] ABn rfl rfl rfl rfl (AJp Cw.cap) D7 fun Iw D9 Ag=>?_;have Ea:=D3.thenUpd Ag (fun k hk=>by have Ab:k=Aa:=hk;omega);have Ix:=Ag.1;have Iy:=D4.thenUpd Ag (fun k hk=>by have Ab:k=Aa:=hk;omega);have Iz:=(Be.ext Cd).upd Ag (fun he=>nebq1bq33 (he:A6=Aa));have I0:=D5.thenUpd Ag (fun k hk=>by have Ab:k=Aa:=hk;omega);have I1:=(Bc.ext Cd).upd Ag (fun he=>nebq9bq33 (he:A7=Aa));have I2:=D6.thenUpd Ag (fun k hk=>by have Ab:k=Aa:=hk;omega);have Eb:=D2.upd Ag (fun he=>nebq20bq33 (he:Ac=Aa));have I3:=Cd.thenUpd Ag (fun k hk=>by have Ab:k=Aa:=hk;omega);have HQ_129:=HQ_113.updLo Ag Zj;have HR_130:=HR_114.updLo Ag Zj;have Ec:=D8.updLo Ag Zj;have Ed:=Cw.updLo Ag Zj;refine Zu (Zx (⟨_,AO0 ABn rfl rfl Eb ABn rfl rfl D9,?_⟩));have hk:=Auh (nb:=nb) (A:=nv LA) Bf;have ea:a=((nv LA:Nat):Int):=by rw [hza,Bg];rfl
  exact ⟨Ea,_,_,rfl,⟨Az,s7,L7,rfl,Ec.mono Zj,Bl,Bm,by rw [<- Bn,hvq,ea,hzb];exact hk.1.symm⟩,⟨A4,s8,L8,rfl,Ed.mono Zj,Br,Bt,by rw [<- Bu,hvr,ea,hzb];exact hk.2.symm⟩⟩
 ·refine Zk (ABs 32 true Zy rfl rfl (Zk (ABs 32 true Zy rfl rfl (ABw AAp rfl HR (ABs 32 true Zy rfl rfl (ARb rfl rfl (fun Ee=>?_) (fun Ee=>?_)))))))
  ·refine AAa rfl (Zu (AAr rfl (AAj (AAk (AAk (ABm (q_t (Zo (Zk (Am6 [ANy 1] AAp ALw rfl (fun _=>trivial) rfl Zj Zj rfl (by simp [ANy,isOne]) fun g8 v8 h8 Eh E8 I7 I9=>?_))))))))));have Ja:=E8.1;have Ei:=B1.trans E8;have Ej:=B3.trans E8;have Ek:=B5.trans E8;have El:=B6.trans E8;have Em:=B7.ext E8;have En:=B8.trans E8;have Eo:=B9.ext E8;have Ep:=Ca.ext E8;have Er:=Cb.ext E8;have HQ_146:=HQ.ext E8;have HR_147:=HR.ext E8;have HDu:DS h8 0 v8 [1]:=ADq.ds (L:=[1]) Eh (by intro x hx;rw [List.mem_singleton.1 hx];decide) (Nat.zero_le _);refine AA0 trivial rfl (Ac2 HQ_146 HDu Zj AA4) fun Jc Je hk=>?_;obtain ⟨Ah,L5,Et,Cx,Cy,Jf⟩:=hk;refine ⟨trivial,?_⟩;have Jg:=Ah.1;have Eu:=Ei.trans Ah;have Ev:=Ej.trans Ah;have Ew:=Ek.trans Ah;have Ey:=El.trans Ah;have Ez:=Em.ext Ah;have Fa:=En.trans Ah;have Fb:=Eo.ext Ah;have Cz:=Ep.ext Ah;have Fc:=Er.ext Ah;have HQ_164:=HQ_146.ext Ah;have HR_165:=HR_147.ext Ah;have HDu_166:=HDu.ext Ah;refine Zu (AAc (Zk (Zk (AA0 trivial rfl (AY2 Cz HR_165 htr (by rw [hvr,A8];exact Nat.le_of_lt (Nat.mod_lt _ Zj)) Zj) fun Jh Ji hk=>?_))));obtain ⟨Af,L6,Fd,Fe,Ff,C8⟩:=hk;refine ⟨trivial,?_⟩;have Jk:=Af.1;have Fg:=Eu.trans Af;have Fh:=Ev.trans Af;have Fi:=Ew.trans Af;have Fj:=Ey.trans Af;have Fk:=Ez.ext Af;have Fl:=Fa.trans Af;have Fm:=Fb.ext Af;have Fo:=Cz.ext Af;have Fp:=Fc.ext Af;have HQ_183:=HQ_164.ext Af;have HR_184:=HR_165.ext Af;have HDu_185:=HDu_166.ext Af;have C0:=Et.ext Af;refine AAn (AAo (q_b (q_t (Zo (Zk (ACr rfl (Zu (AAj (ABm (q_t (Zo (Zk (Zk (AA0 trivial rfl (AJ8 (!nb) C0 Cx (by have h5:L5.length<=2:=AMm Cx (by rw [Cy,hvq];exact Aug (A:=nv LA) (B:=nv LB) (by rw [<- AFb hza];exact hba) Zj);omega)) fun Jm Jn hk=>?_))))))))))))));obtain ⟨Ad,Bh⟩:=hk;refine ⟨trivial,?_⟩;have Jo:=Ad.1;have Fq:=Fg.trans Ad;have Fr:=Fh.trans Ad;have Ft:=Fi.trans Ad;have Fu:=Fj.trans Ad;have Fv:=Fk.ext Ad;have Fw:=Fl.trans Ad;have Fx:=Fm.ext Ad;have Jp:=Fo.ext Ad;have Jq:=Fp.ext Ad;have HQ_203:=HQ_183.ext Ad;have HR_204:=HR_184.ext Ad;have HDu_205:=HDu_185.ext Ad;have Fy:=C0.ext Ad;have C1:=Fd.ext Ad;obtain ⟨Az,s7,L7,rfl,Bj,Bl,Bm,Bn⟩:=Bh.out;refine Zk (AA0 trivial rfl (AJ8 false C1 Fe Zj) fun Jr Js hk=>?_);obtain ⟨Ai,Bo⟩:=hk;refine ⟨trivial,?_⟩;have Jt:=Ai.1;have Fz:=Fq.trans Ai;have F4:=Fr.trans Ai;have F5:=Ft.trans Ai;have F6:=Fu.trans Ai;have F7:=Fv.ext Ai;have F8:=Fw.trans Ai;have F9:=Fx.ext Ai;have HQ_222:=HQ_203.ext Ai;have HR_223:=HR_204.ext Ai;have Ga:=Fy.ext Ai;have Gb:=C1.ext Ai;have C2:=Bj.ext Ai;obtain ⟨A4,s8,L8,rfl,Bq,Br,Bt,Bu⟩:=Bo.out;refine AB9 [.bool Az,s7] ABn rfl rfl rfl rfl (AJp C2.cap) F7 fun Ju Gc Aj=>?_;have Gd:=F4.thenUpd Aj (fun k hk=>by have Ab:k=Ac:=hk;omega);have Jv:=Aj.1;have Ge:=Fz.thenUpd Aj (fun k hk=>by have Ab:k=Ac:=hk;omega);have Ce:=F8.thenUpd Aj (fun k hk=>by have Ab:k=Ac:=hk;omega);have Gf:=F5.thenUpd Aj (fun k hk=>by have Ab:k=Ac:=hk;omega);have Gg:=F6.thenUpd Aj (fun k hk=>by have Ab:k=Ac:=hk;omega);have Gh:=F9.upd Aj (fun he=>(Ne.symm nebq20bq33) (he:Aa=Ac));have HQ_239:=HQ_222.updLo Aj Zj;have HR_240:=HR_223.updLo Aj Zj;have Gi:=Ga.updLo Aj Zj;have Gj:=Gb.updLo Aj Zj;have Gk:=C2.updLo Aj Zj;have C3:=Bq.updLo Aj Zj;refine AB9 [.bool A4,s8] ABn rfl rfl rfl rfl (AJp C3.cap) Gh fun Jw Gl Ae=>?_;have Gm:=Gd.thenUpd Ae (fun k hk=>by have Ab:k=Aa:=hk;omega);have Jx:=Ae.1;have Jy:=Ge.thenUpd Ae (fun k hk=>by have Ab:k=Aa:=hk;omega);have Jz:=(Be.ext Ce).upd Ae (fun he=>nebq1bq33 (he:A6=Aa));have J0:=Gf.thenUpd Ae (fun k hk=>by have Ab:k=Aa:=hk;omega);have J1:=(Bc.ext Ce).upd Ae (fun he=>nebq9bq33 (he:A7=Aa));have J2:=Gg.thenUpd Ae (fun k hk=>by have Ab:k=Aa:=hk;omega);have Gn:=Gc.upd Ae (fun he=>nebq20bq33 (he:Ac=Aa));have J3:=Ce.thenUpd Ae (fun k hk=>by have Ab:k=Aa:=hk;omega);have HQ_257:=HQ_239.updLo Ae Zj;have HR_258:=HR_240.updLo Ae Zj;have J4:=Gi.updLo Ae Zj;have J5:=Gj.updLo Ae Zj;have Gp:=Gk.updLo Ae Zj;have Gq:=C3.updLo Ae Zj;refine Zu (Zx (⟨_,AO0 ABn rfl rfl Gn ABn rfl rfl Gl,?_⟩));have hk:=Art (nb:=nb) (A:=nv LA) Bf Zj;have ea:a= -((nv LA:Nat):Int):=by rw [hza,Bg];rfl
   exact ⟨Gm,_,_,rfl,⟨Az,s7,L7,rfl,Gp.mono Zj,Bl,Bm,by rw [<- Bn,Cy,hvq,ea,hzb];exact hk.1.symm⟩,⟨A4,s8,L8,rfl,Gq.mono Zj,Br,Bt,by rw [<- Bu,Ff,A8,hvr,ea,hzb];exact hk.2.symm⟩⟩
  ·refine AAa rfl (Zu (AAy rfl (Zw (q_t (Zo (AF0 (fs:=1) ALn Zy Zl rfl (AA7 AEn rfl (B4.cell (i:=0) rfl) ?_)))))));rw [Bg];refine Zu (AAr rfl (AAj (AAk (AZn Zl (AAk (ABm (q_t (Zo (Zk (ACr rfl (Zu (AAj (ABm (q_t (Zo (Zk (Zk (AA0 trivial rfl (AJ8 (!nb) HQ htq Zj) fun J6 J7 hk=>?_))))))))))))))))));obtain ⟨Aq,Bh⟩:=hk;refine ⟨trivial,?_⟩;have J8:=Aq.1;have Gr:=B1.trans Aq;have Gt:=B3.trans Aq;have Gu:=B5.trans Aq;have Gv:=B6.trans Aq;have Gw:=B7.ext Aq;have Gx:=B8.trans Aq;have Gy:=B9.ext Aq;have J9:=Ca.ext Aq;have Ka:=Cb.ext Aq;have HQ_279:=HQ.ext Aq;have HR_280:=HR.ext Aq;obtain ⟨Az,s7,L7,rfl,Bj,Bl,Bm,Bn⟩:=Bh.out;refine Zk (AA0 trivial rfl (AJ8 false HR_280 htr Zj) fun Kb Kc hk=>?_);obtain ⟨Av,Bo⟩:=hk;refine ⟨trivial,?_⟩;have Kd:=Av.1;have Gz:=Gr.trans Av;have G3:=Gt.trans Av;have G4:=Gu.trans Av;have G5:=Gv.trans Av;have G6:=Gw.ext Av;have G7:=Gx.trans Av;have G8:=Gy.ext Av;have HQ_295:=HQ_279.ext Av;have HR_296:=HR_280.ext Av;have C4:=Bj.ext Av;obtain ⟨A4,s8,L8,rfl,Bq,Br,Bt,Bu⟩:=Bo.out;refine AB9 [.bool Az,s7] ABn rfl rfl rfl rfl (AJp C4.cap) G6 fun Ke G9 Aw=>?_;have Hb:=G3.thenUpd Aw (fun k hk=>by have Ab:k=Ac:=hk;omega);have Kf:=Aw.1;have Hc:=Gz.thenUpd Aw (fun k hk=>by have Ab:k=Ac:=hk;omega);have Cf:=G7.thenUpd Aw (fun k hk=>by have Ab:k=Ac:=hk;omega);have Hd:=G4.thenUpd Aw (fun k hk=>by have Ab:k=Ac:=hk;omega);have He:=G5.thenUpd Aw (fun k hk=>by have Ab:k=Ac:=hk;omega);have Hf:=G8.upd Aw (fun he=>(Ne.symm nebq20bq33) (he:Aa=Ac));have HQ_310:=HQ_295.updLo Aw Zj;have HR_311:=HR_296.updLo Aw Zj;have Hg:=C4.updLo Aw Zj;have C5:=Bq.updLo Aw Zj;refine AB9 [.bool A4,s8] ABn rfl rfl rfl rfl (AJp C5.cap) Hf fun Kg Hh Ak=>?_;have Hj:=Hb.thenUpd Ak (fun k hk=>by have Ab:k=Aa:=hk;omega);have Kh:=Ak.1;have Ki:=Hc.thenUpd Ak (fun k hk=>by have Ab:k=Aa:=hk;omega);have Kj:=(Be.ext Cf).upd Ak (fun he=>nebq1bq33 (he:A6=Aa));have Kk:=Hd.thenUpd Ak (fun k hk=>by have Ab:k=Aa:=hk;omega);have Kl:=(Bc.ext Cf).upd Ak (fun he=>nebq9bq33 (he:A7=Aa));have Km:=He.thenUpd Ak (fun k hk=>by have Ab:k=Aa:=hk;omega);have Hk:=G9.upd Ak (fun he=>nebq20bq33 (he:Ac=Aa));have Kn:=Cf.thenUpd Ak (fun k hk=>by have Ab:k=Aa:=hk;omega);have HQ_326:=HQ_310.updLo Ak Zj;have HR_327:=HR_311.updLo Ak Zj;have Hl:=Hg.updLo Ak Zj;have Hm:=C5.updLo Ak Zj;refine Zu (Zx (⟨_,AO0 ABn rfl rfl Hk ABn rfl rfl Hh,?_⟩));have hk:=Aru (nb:=nb) (A:=nv LA) Bf Zj;have ea:a= -((nv LA:Nat):Int):=by rw [hza,Bg];rfl
   exact ⟨Hj,_,_,rfl,⟨Az,s7,L7,rfl,Hl.mono Zj,Bl,Bm,by rw [<- Bn,hvq,ea,hzb];exact hk.1.symm⟩,⟨A4,s8,L8,rfl,Hm.mono Zj,Br,Bt,by rw [<- Bu,hvr,ea,hzb];exact hk.2.symm⟩⟩
end Go.Proofs.YtdkldlbgcfpglaaGreatDoor.Ig
namespace Go.QF
open Go
section
variable {P:Program} {B:Zv->Prop} {st:Bool} {ops:Array Oper} {rest:List Oper} {e:Env} {h:Zv} {K:Env->Zv->Prop} {d:Nat} {ty:TypeId} {pos:String} {af:Array Edge}
theorem Ajj {x y z:Operand} {t el er g lo hi:Nat} {v:Value} {l:List Value} {k1 k2:IntKind} (hT:SlT P t el 1) (hx:e.ev x=v) (HO:ADq h er g v l) (hy:e.ev y= .int k1 (lo:Int)) (hz:e.ev z= .int k2 (hi:Int)) (hlt:lo < hi) (hle:hi<=l.length)
    (H:∀ c,RL P B st ops rest (e.set d (.slice (some ⟨g,lo,none⟩) (hi - lo) c)) h K):RL P B st ops (⟨some d,.slice t x (some y) (some z) none,ty,pos,af,none⟩ :: rest) e h K:=by
  obtain ⟨cap,cur,rfl,hg,h1,h2,h3,h4⟩:=HO;refine AFk (v:= .slice (some ⟨g,lo,none⟩) (hi - lo) (cap - lo)) rfl rfl (fun w=>?_) (H _);obtain ⟨hu,i,hi',hs⟩:=hT;have a4: ¬ cap=lo:=by omega
  simp [execOp,hx,hy,hz,Instr.sliceAt,Instr.slice,AK1 hu,Instr.sliceBounds,Instr.sliceBound,asIntOf,a4,APj hi',hs,Addr.add];rw [if_pos Zj,if_pos Zj]
  by_cases h0:lo=0
  · subst h0;simp
  · rw [if_neg h0]
theorem Ac3 {x i:Operand} {t el g o n c j:Nat} {k:IntKind} (hT:SlT P t el 1) (hx:e.ev x= .slice (some ⟨g,o,none⟩) n c) (hi:e.ev i= .int k (j:Int)) (hj:j < n)
    (H:RL P B st ops rest (e.set d (.pointer (some ⟨g,o + j,none⟩))) h K):RL P B st ops (⟨some d,.indexAddr t x i,ty,pos,af,none⟩ :: rest) e h K:=by
  refine Ag2 hT hx hi Zj Zj ?_;have he:(⟨g,o,none⟩:Addr).add ((j:Int).toNat * 1)=⟨g,o + j,none⟩:=by rw [AFm];simp
  rw [he];exact H
end
end Go.QF
namespace Go.Proofs.YtdkldlbgcfpglaaGreatDoor.Ig
open Go Go.QF
set_option maxRecDepth 100000
theorem Ak7 {h:Zv} {la lb:Nat} {va vb:Value} {LA LB:List Nat} (HA:DS h la va LA) (HB:DS h lb vb LB) (hna:LA.length<=1000) (hnb:LB.length<=1000):AAw Tryz.prog 169 #[va,vb] h fun x h'=>Ext h h'/\ ∃ L,DS h' (Array.size h) x L/\TL L/\nv L=nv LA * nv LB/\L.length<=LA.length + LB.length + 2:=by
 refine ABe (l:=[_,_]) mx Tryz.func169 rfl rfl rfl rfl rfl Zy (Zo (Zu (Zp (Zo (Zk (ABw AAp rfl HA (AS6 rfl rfl (fun Aw=>?_) (fun Aw=>?_))))))))
 ·refine Zk (ABs 15 true Zy rfl rfl (Zk (ABs 15 true Zy rfl rfl (ABw AAp rfl HB (ABs 15 true Zy rfl rfl (AS6 rfl rfl (fun Ax=>?_) (fun Ax=>?_)))))))
  ·refine AAa rfl (Zs (AAr rfl (Zo (Zk (AA0 trivial rfl (AZ1 HA Zj) fun x1 h hk=>?_)))));obtain ⟨rfl,rfl⟩:=hk;refine ⟨trivial,?_⟩;refine Zk (AA0 trivial rfl (AZ1 HB Zj) fun x2 h hk=>?_);obtain ⟨rfl,rfl⟩:=hk;refine ⟨trivial,?_⟩;have hm:=Aot HA.dig HB.dig Zj Zj;refine Adp rfl rfl hm (AA0 trivial rfl (AP7 (nv LA * nv LB) Zj _) fun x3 h4 hk=>?_);obtain ⟨E5,L1,Ay,Ak,Am,Av⟩:=hk;refine ⟨trivial,?_⟩;have Bo:=E5.1;have Z7:=(Ext.refl h).trans E5;refine Zu (Zx (AAd (⟨_,Zz,?_⟩)))
   first
   | exact ⟨E5,L1,Ay,Ak,Am,Zj⟩
   | exact ⟨E5,L2,HT.ds HDo.lo,htl,by rw [HT.val,hOv],by have:=HT.len;omega⟩
  ·refine AAa rfl (Zs (AAy rfl (Zw (q_t (Zo (Zk (ABw AAp rfl HA (Zk (ABw AAp rfl HB (APl rfl rfl Zj (Aar (n:=LA.length + LB.length) AAp ALw (fun _=>trivial) rfl rfl Zl Zj fun g1 v1 h1 Ao E1 Az Av=>?_)))))))))));have Bq:=E1.1;have Z9:=(Ext.refl h).trans E1;refine Zu (Zp (Zo (Zk (ABw AAp rfl (HA.ext E1) (Zk (Zs (Zt (AFj 19342813113834049615433664 (fun y:Nat × List Nat=>[(34,.int .i64 (y.1:Int))]) (fun k y h'=>k=LA.length - y.1/\y.1<=LA.length/\Ext h h'/\g1 < Array.size h'/\ADq h' 172 g1 v1 (y.2.map ANy)/\y.2.length=LA.length + LB.length/\Dig y.2/\nv y.2=nv (LA.take y.1) * nv LB/\ ∀ q,y.1 + LB.length<=q->q < LA.length + LB.length->y.2[q]? =some 0) Zy LA.length (0,List.replicate (LA.length + LB.length) 0) ?_ ⟨rfl,trivial⟩ ?_))))))))
   ·exact ⟨rfl,Nat.zero_le _,E1,Zj,Ao,AA4,fun x hx=>by rw [(List.mem_replicate.1 hx).2];decide,by simp [nv,Aax],fun q hq A3=>by dsimp only;rw [List.getElem?_replicate];simp;omega⟩
   rintro k ⟨i,O⟩ s1 hq ⟨rfl,hi,XQ,hgq,Aa,hOl,hOd,hOv,hOz⟩;dsimp only at hi Aa hOl hOd hOv hOz ⊢;refine Zo (AEl rfl rfl (fun A4=>?_) (fun A4=>?_))
   ·refine Zs (Zp (AAr rfl (Zw (q_t (Zp (Zt (Zp ?_)))))));obtain ⟨x,hx⟩:∃ x,LA[i]? =some x:=⟨_,List.getElem?_eq_getElem Zj⟩;have hbx:=HA.dig x (List.mem_of_getElem? hx);refine AAc (Zk (AI1 AAp rfl (HA.ext XQ) rfl hx fun Bt A5=>AA7 ACm rfl A5 (AAn (Zu (Zp (Zo (Zk (AS7 rfl rfl (fun A6=>?_) (fun A6=>?_)))))))))
    ·refine Zs (AAr rfl (AAj (AAk (ABm (q_t (AAc (AJ4 rfl Zj (Zk (Zs ?_)))))))));exact ⟨LA.length - (i + 1),(i + 1,O),by first | omega | (dsimp only;omega),⟨rfl,by first | omega | (dsimp only;omega),XQ,Zj,Aa,hOl,hOd,by dsimp only;rw [hOv,AB2 hx,show x=0 by omega];simp,fun q h1 h2=>hOz q (by dsimp only at h1;omega) h2⟩,rfl,trivial⟩
    ·refine Zs (AAy rfl (Zw (q_t (Zo (Zk (Zk (Zk (Zk (ABw AAp rfl (HB.ext XQ) (APl rfl rfl Zj (APl (b:=1) rfl rfl Zj (Ajj (lo:=i) (hi:=i + LB.length + 1) AAp rfl Aa rfl rfl Zj (by rw [List.length_map];omega) fun cw=>?_))))))))))));refine AA5 (Zu (Zp (Zo (Zk (ABw AAp rfl (HB.ext XQ) (Zk (Zs (Zt (AFj 151115725200028833156608 (fun y:Nat × Nat × List Nat=>[(51,.int .i64 (y.1:Int)),(9,.int .u64 (y.2.1:Int))]) (fun k y h'=>k=LB.length - y.1/\y.1<=LB.length/\Ext h h'/\g1 < Array.size h'/\ADq h' 172 g1 v1 (y.2.2.map ANy)/\y.2.2.length=LA.length + LB.length/\Dig y.2.2/\y.2.1 < 4294967296/\nv y.2.2 + 4294967296 ^ (i + y.1) * y.2.1=nv (LA.take i) * nv LB + 4294967296 ^ i * (x * nv (LB.take y.1))/\ ∀ q,i + LB.length<=q->q < LA.length + LB.length->y.2.2[q]? =some 0) Zy LB.length (0,0,O) ?_ ⟨rfl,rfl,trivial⟩ ?_)))))))))
     ·exact ⟨rfl,Nat.zero_le _,XQ,Zj,Aa,hOl,hOd,by dsimp only;omega,by simp [nv,hOv],hOz⟩
     rintro k ⟨j,c,O⟩ s2 hp ⟨rfl,hj,XQ,hgq,Aa,hOl,hOd,hc,hOv,hOz⟩;dsimp only at hj Aa hOl hOd hc hOv hOz ⊢;refine Zo (AEl rfl rfl (fun A7=>?_) (fun A7=>?_))
     ·refine Zs (Zp (AAr rfl (Zw (q_t (Zp (Zt (Zp ?_)))))));obtain ⟨y,hy⟩:∃ x,LB[j]? =some x:=⟨_,List.getElem?_eq_getElem Zj⟩;have hby:=HB.dig y (List.mem_of_getElem? hy);obtain ⟨ov,hov⟩:∃ x,O[i + j]? =some x:=⟨_,List.getElem?_eq_getElem Zj⟩;have hbo:=hOd ov (List.mem_of_getElem? hov);have htb:=Adq hc hbx hby hbo;have hxy:x * y<=4294967295 * 4294967295:=Nat.mul_le_mul Zj Zj;refine AAc (Zk (AI1 AAp rfl (HB.ext XQ) rfl hy fun Bu A8=>AA7 ACm rfl A8 (AAn (AA5 (Zk (Zk (ASu ADg ACs rfl hbx (Zk (ASu ADg ACs rfl hby (Adp rfl rfl Zj (Zk (Zk (Ac3 AAp rfl rfl Zj (AA7 ACm rfl (ADq.cell Aa (ASd hov)) (ASu ADg ACs rfl hbo (AO1 rfl rfl Zj (AO1 rfl rfl Zj ?_)))))))))))))))));refine AA5 (Zk (Zk (Zk (AUr ACs ADg rfl (Ac3 AAp rfl rfl Zj (AUq (O.set (i + j) ((c + (x * y + ov)) % 4294967296)) ACm rfl rfl Aa Zj rfl fun h4 Ap U4=>?_))))));have Bv:=U4.1;have A9:=XQ.thenUpd U4 (fun k hk=>by have Aq:k=g1:=hk;omega);refine Zs (AAc (Zk (AT0 rfl rfl (AAn (AAo (q_b (q_t (AAc (AJ4 rfl Zj (Zk (Zs ?_)))))))))));exact ⟨LB.length - (j + 1),(j + 1,(c + (x * y + ov)) / 4294967296,O.set (i + j) ((c + (x * y + ov)) % 4294967296)),by first | omega | (dsimp only;omega),⟨rfl,by first | omega | (dsimp only;omega),A9,Zj,Ap,by simp [hOl],ASe hOd (Nat.mod_lt _ Zl),by dsimp only;exact Nat.div_lt_of_lt_mul htb,by dsimp only;rw [AB2 hy];exact Aas (Pi:=0) (AVf _ hov) hOv (Nat.mod_add_div _ _),fun q h1 h2=>by dsimp only;rw [List.getElem?_set_ne Zj];exact hOz q h1 h2⟩,rfl,rfl,trivial⟩
     ·refine Zs (Zp (AAy rfl (AAj (AAk (AAk (ABm (q_t ?_)))))));obtain rfl:j=LB.length:=by omega
      refine AAc (Zk (Zk (ABw AAp rfl (HB.ext XQ) (Zk (AUr ACs ADg rfl ?_)))));rw [Nat.mod_eq_of_lt hc];refine Ac3 AAp rfl rfl Zj (AUq (O.set (i + LB.length) (c)) ACm rfl rfl Aa Zj rfl fun h5 Ar U5=>?_);have Bw:=U5.1;have Bb:=XQ.thenUpd U5 (fun k hk=>by have Aq:k=g1:=hk;omega);refine AAo (q_b (q_t (AAc (AJ4 rfl Zj (Zk (Zs ?_))))));exact ⟨LA.length - (i + 1),(i + 1,O.set (i + LB.length) c),by first | omega | (dsimp only;omega),⟨rfl,by first | omega | (dsimp only;omega),Bb,Zj,Ar,by simp [hOl],ASe hOd hc,by dsimp only;have h1:=AVf c (hOz (i + LB.length) (Nat.le_refl _) Zj);rw [Nat.mul_zero,Nat.add_zero] at h1;rw [h1,hOv,List.take_length,AB2 hx,Nat.add_mul,Nat.mul_assoc],fun q h1 h2=>by dsimp only;rw [List.getElem?_set_ne Zj];exact hOz q Zj h2⟩,rfl,trivial⟩
   ·refine Zs (Zp (AAy rfl (AAj (AAk (AAk (ABm (q_t (Zp ?_))))))));obtain rfl:i=LA.length:=by omega
    rw [List.take_length] at hOv;have HDo:=Aa.ds (lo:=Array.size h) hOd Zj;refine AAc (Zk (AA0 trivial rfl (AMw (DS.mono HDo (Nat.zero_le _)) Zj) fun Bx hq hk=>?_));obtain ⟨rfl,L2,HT,htl⟩:=hk;refine ⟨trivial,?_⟩;refine Zu (Zx (⟨_,Zz,?_⟩))
    first
    | exact ⟨XQ,L1,lacks_HD1,Ak,Am,Zj⟩
    | exact ⟨XQ,L2,HT.ds HDo.lo,htl,by rw [HT.val,hOv],by have:=HT.len;omega⟩
 ·refine Zk (ABk 15 false Zy rfl rfl (ABk 15 false Zy rfl rfl (ABk 15 false Zy rfl rfl (Z1 rfl (Zs (AAy rfl (Zw (q_t (Zo (Zk (ABw AAp rfl HA (Zk (ABw AAp rfl HB (APl rfl rfl Zj (Aar (n:=LA.length + LB.length) AAp ALw (fun _=>trivial) rfl rfl Zl Zj fun g1 v1 h1 Ao E1 Az Av=>?_)))))))))))))));have By:=E1.1;have Bz:=(Ext.refl h).trans E1;refine Zu (Zp (Zo (Zk (ABw AAp rfl (HA.ext E1) (Zk (Zs (Zt (AFj 19342813113834049615433664 (fun y:Nat × List Nat=>[(34,.int .i64 (y.1:Int))]) (fun k y h'=>k=LA.length - y.1/\y.1<=LA.length/\Ext h h'/\g1 < Array.size h'/\ADq h' 172 g1 v1 (y.2.map ANy)/\y.2.length=LA.length + LB.length/\Dig y.2/\nv y.2=nv (LA.take y.1) * nv LB/\ ∀ q,y.1 + LB.length<=q->q < LA.length + LB.length->y.2[q]? =some 0) Zy LA.length (0,List.replicate (LA.length + LB.length) 0) ?_ ⟨rfl,trivial⟩ ?_))))))))
  ·exact ⟨rfl,Nat.zero_le _,E1,Zj,Ao,AA4,fun x hx=>by rw [(List.mem_replicate.1 hx).2];decide,by simp [nv,Aax],fun q hq A3=>by dsimp only;rw [List.getElem?_replicate];simp;omega⟩
  rintro k ⟨i,O⟩ s1 hq ⟨rfl,hi,XQ,hgq,Aa,hOl,hOd,hOv,hOz⟩;dsimp only at hi Aa hOl hOd hOv hOz ⊢;refine Zo (AEl rfl rfl (fun Bc=>?_) (fun Bc=>?_))
  ·refine Zs (Zp (AAr rfl (Zw (q_t (Zp (Zt (Zp ?_)))))));obtain ⟨x,hx⟩:∃ x,LA[i]? =some x:=⟨_,List.getElem?_eq_getElem Zj⟩;have hbx:=HA.dig x (List.mem_of_getElem? hx);refine AAc (Zk (AI1 AAp rfl (HA.ext XQ) rfl hx fun B1 Be=>AA7 ACm rfl Be (AAn (Zu (Zp (Zo (Zk (AS7 rfl rfl (fun Bf=>?_) (fun Bf=>?_)))))))))
   ·refine Zs (AAr rfl (AAj (AAk (ABm (q_t (AAc (AJ4 rfl Zj (Zk (Zs ?_)))))))));exact ⟨LA.length - (i + 1),(i + 1,O),by first | omega | (dsimp only;omega),⟨rfl,by first | omega | (dsimp only;omega),XQ,Zj,Aa,hOl,hOd,by dsimp only;rw [hOv,AB2 hx,show x=0 by omega];simp,fun q h1 h2=>hOz q (by dsimp only at h1;omega) h2⟩,rfl,trivial⟩
   ·refine Zs (AAy rfl (Zw (q_t (Zo (Zk (Zk (Zk (Zk (ABw AAp rfl (HB.ext XQ) (APl rfl rfl Zj (APl (b:=1) rfl rfl Zj (Ajj (lo:=i) (hi:=i + LB.length + 1) AAp rfl Aa rfl rfl Zj (by rw [List.length_map];omega) fun cw=>?_))))))))))));refine AA5 (Zu (Zp (Zo (Zk (ABw AAp rfl (HB.ext XQ) (Zk (Zs (Zt (AFj 151115725200028833156608 (fun y:Nat × Nat × List Nat=>[(51,.int .i64 (y.1:Int)),(9,.int .u64 (y.2.1:Int))]) (fun k y h'=>k=LB.length - y.1/\y.1<=LB.length/\Ext h h'/\g1 < Array.size h'/\ADq h' 172 g1 v1 (y.2.2.map ANy)/\y.2.2.length=LA.length + LB.length/\Dig y.2.2/\y.2.1 < 4294967296/\nv y.2.2 + 4294967296 ^ (i + y.1) * y.2.1=nv (LA.take i) * nv LB + 4294967296 ^ i * (x * nv (LB.take y.1))/\ ∀ q,i + LB.length<=q->q < LA.length + LB.length->y.2.2[q]? =some 0) Zy LB.length (0,0,O) ?_ ⟨rfl,rfl,trivial⟩ ?_)))))))))
    ·exact ⟨rfl,Nat.zero_le _,XQ,Zj,Aa,hOl,hOd,by dsimp only;omega,by simp [nv,hOv],hOz⟩
    rintro k ⟨j,c,O⟩ s2 hp ⟨rfl,hj,XQ,hgq,Aa,hOl,hOd,hc,hOv,hOz⟩;dsimp only at hj Aa hOl hOd hc hOv hOz ⊢;refine Zo (AEl rfl rfl (fun Bg=>?_) (fun Bg=>?_))
    ·refine Zs (Zp (AAr rfl (Zw (q_t (Zp (Zt (Zp ?_)))))));obtain ⟨y,hy⟩:∃ x,LB[j]? =some x:=⟨_,List.getElem?_eq_getElem Zj⟩;have hby:=HB.dig y (List.mem_of_getElem? hy);obtain ⟨ov,hov⟩:∃ x,O[i + j]? =some x:=⟨_,List.getElem?_eq_getElem Zj⟩;have hbo:=hOd ov (List.mem_of_getElem? hov);have htb:=Adq hc hbx hby hbo;have hxy:x * y<=4294967295 * 4294967295:=Nat.mul_le_mul Zj Zj;refine AAc (Zk (AI1 AAp rfl (HB.ext XQ) rfl hy fun B3 Bh=>AA7 ACm rfl Bh (AAn (AA5 (Zk (Zk (ASu ADg ACs rfl hbx (Zk (ASu ADg ACs rfl hby (Adp rfl rfl Zj (Zk (Zk (Ac3 AAp rfl rfl Zj (AA7 ACm rfl (ADq.cell Aa (ASd hov)) (ASu ADg ACs rfl hbo (AO1 rfl rfl Zj (AO1 rfl rfl Zj ?_)))))))))))))))));refine AA5 (Zk (Zk (Zk (AUr ACs ADg rfl (Ac3 AAp rfl rfl Zj (AUq (O.set (i + j) ((c + (x * y + ov)) % 4294967296)) ACm rfl rfl Aa Zj rfl fun h4 Ap U4=>?_))))));have B4:=U4.1;have Bi:=XQ.thenUpd U4 (fun k hk=>by have Aq:k=g1:=hk;omega);refine Zs (AAc (Zk (AT0 rfl rfl (AAn (AAo (q_b (q_t (AAc (AJ4 rfl Zj (Zk (Zs ?_)))))))))));exact ⟨LB.length - (j + 1),(j + 1,(c + (x * y + ov)) / 4294967296,O.set (i + j) ((c + (x * y + ov)) % 4294967296)),by first | omega | (dsimp only;omega),⟨rfl,by first | omega | (dsimp only;omega),Bi,Zj,Ap,by simp [hOl],ASe hOd (Nat.mod_lt _ Zl),by dsimp only;exact Nat.div_lt_of_lt_mul htb,by dsimp only;rw [AB2 hy];exact Aas (Pi:=0) (AVf _ hov) hOv (Nat.mod_add_div _ _),fun q h1 h2=>by dsimp only;rw [List.getElem?_set_ne Zj];exact hOz q h1 h2⟩,rfl,rfl,trivial⟩
    ·refine Zs (Zp (AAy rfl (AAj (AAk (AAk (ABm (q_t ?_)))))));obtain rfl:j=LB.length:=by omega
     refine AAc (Zk (Zk (ABw AAp rfl (HB.ext XQ) (Zk (AUr ACs ADg rfl ?_)))));rw [Nat.mod_eq_of_lt hc];refine Ac3 AAp rfl rfl Zj (AUq (O.set (i + LB.length) (c)) ACm rfl rfl Aa Zj rfl fun h5 Ar U5=>?_);have B5:=U5.1;have Bj:=XQ.thenUpd U5 (fun k hk=>by have Aq:k=g1:=hk;omega);refine AAo (q_b (q_t (AAc (AJ4 rfl Zj (Zk (Zs ?_))))));exact ⟨LA.length - (i + 1),(i + 1,O.set (i + LB.length) c),by first | omega | (dsimp only;omega),⟨rfl,by first | omega | (dsimp only;omega),Bj,Zj,Ar,by simp [hOl],ASe hOd hc,by dsimp only;have h1:=AVf c (hOz (i + LB.length) (Nat.le_refl _) Zj);rw [Nat.mul_zero,Nat.add_zero] at h1;rw [h1,hOv,List.take_length,AB2 hx,Nat.add_mul,Nat.mul_assoc],fun q h1 h2=>by dsimp only;rw [List.getElem?_set_ne Zj];exact hOz q Zj h2⟩,rfl,trivial⟩
  ·refine Zs (Zp (AAy rfl (AAj (AAk (AAk (ABm (q_t (Zp ?_))))))));obtain rfl:i=LA.length:=by omega
   rw [List.take_length] at hOv;have HDo:=Aa.ds (lo:=Array.size h) hOd Zj;refine AAc (Zk (AA0 trivial rfl (AMw (DS.mono HDo (Nat.zero_le _)) Zj) fun B6 hq hk=>?_));obtain ⟨rfl,L2,HT,htl⟩:=hk;refine ⟨trivial,?_⟩;refine Zu (Zx (⟨_,Zz,?_⟩))
   first
   | exact ⟨XQ,L1,lacks_HD1,Ak,Am,Zj⟩
   | exact ⟨XQ,L2,HT.ds HDo.lo,htl,by rw [HT.val,hOv],by have:=HT.len;omega⟩
theorem MulZ_ok {h:Zv} {la lb:Nat} {va vb:Value} {a b:Int} (HA:ZV h la va a) (HB:ZV h lb vb b) (hab:a.natAbs * b.natAbs < 4294967296 ^ 100):AAw Tryz.prog 136 #[va,vb] h fun x h'=>Ext h h'/\ZV h' (Array.size h) x (a * b):=by
 obtain ⟨na,sa,LA,rfl,HDa,htla,hla,hza⟩:=HA.out;obtain ⟨nb,sb,LB,rfl,HDb,htlb,hlb,hzb⟩:=HB.out;refine ABe (l:=[_,_]) mx Tryz.func136 rfl rfl rfl rfl rfl Zy (Zo (AJr [.bool na,sa] (fun _=>trivial) rfl rfl fun Ak h2 V3 E4 Bb Ce=>?_));have Cf:Array.size h<=Ak:=Bb;have Cg:=E4.1;have Z8:=(Ext.refl h).trans E4;refine AJr [.bool nb,sb] (fun _=>trivial) rfl rfl fun Am Ch Av Ag Be Ci=>?_;have Cj:Array.size h<=Am:=Nat.le_trans E4.1 Be;have nebq1bq9:Ak≠Am:=by have:=V3.lt;omega
 have Ck:=Ag.1;have Aw:=E4.trans Ag;have Ax:=V3.ext Ag;refine AG4 [.bool false,.slice none 0 0] AE3 rfl (fun _=>trivial) fun Ac Ai Bf Ad Bg Cm=>?_;have Cn:Array.size h<=Ac:=Nat.le_trans Aw.1 Bg;have nebq1bq20:Ak≠Ac:=by have:=Ax.lt;omega
 have nebq9bq20:Am≠Ac:=by have:=Av.lt;omega
 have Co:=Ad.1;have Bh:=(Z8.trans Ag).trans Ad;have Ao:=Aw.trans Ad;have Ay:=Ax.ext Ad;have Bi:=(E4.trans Ag).trans Ad;have Az:=Av.ext Ad;have Bj:=Ag.trans Ad;refine Zs (Zp (ACj (fun h'=>Ext Ai h') Zy ?_));have Aa:=Ext.refl Ai;refine AF0 (fs:=1) ALn Zy Zl rfl (ACl AEn rfl Aa (fun h' hb=>(Ay.ext hb).cell (i:=0) rfl) (AF0 (fs:=1) ALn Zy Zl rfl (ACl AEn rfl Aa (fun h' hb=>(Az.ext hb).cell (i:=0) rfl) (Aaq AVz rfl rfl (AF0 (fs:=1) AMb Zy Zl rfl (ACl AHx rfl Aa (fun h' hb=>(Ay.ext hb).cell (i:=1) rfl) (AA0 Aa rfl (AMw (DS.mono (HDa.ext Ao) (Nat.zero_le _)) Zj) fun Cp Ai hk=>?_)))))));obtain ⟨rfl,L1,Ap,Cr⟩:=hk;refine ⟨Aa,?_⟩;have Bl:=Ap.ds (lo:=la) HDa.lo;have A3:=Ap.val;have Ct:=Ap.len;refine AF0 (fs:=1) AMb Zy Zl rfl (ACl AHx rfl Aa (fun h' hb=>(Az.ext hb).cell (i:=1) rfl) (AA0 Aa rfl (AMw (DS.mono (HDb.ext Ao) (Nat.zero_le _)) Zj) fun Cu Ai hk=>?_));obtain ⟨rfl,L2,Aq,Cw⟩:=hk;refine ⟨Aa,?_⟩;have Bm:=Aq.ds (lo:=lb) HDb.lo;have A4:=Aq.val;have Cx:=Aq.len;refine AA0 Aa rfl (Ak7 Bl Bm Zj Zj) fun Cy Cz hk=>?_;obtain ⟨Ae,L4,A5,A6,A7,C1⟩:=hk;have Ar:=Aa.trans Ae;refine ⟨Ar,?_⟩;have C2:=Ae.1;have Bn:=Bh.trans Ae;have Bo:=Ao.trans Ae;have Bp:=Bi.trans Ae;have Bq:=Bj.trans Ae;have Br:=Bf.ext Ae;have Bt:=Ad.trans Ae;refine AA0 Ar rfl (AJ8 (!(na == nb)) A5 A6 (AMm A6 (by rw [A7,A3,A4,<- AFb hza,<- AFb hzb];exact hab))) fun C3 C4 hk=>?_;obtain ⟨Ab,Bu⟩:=hk;have Bv:=Ar.trans Ab;refine ⟨Bv,?_⟩;have C5:=Ab.1;have Bw:=Bn.trans Ab;have Bx:=Bo.trans Ab;have By:=Bp.trans Ab;have Bz:=Bq.trans Ab;have B1:=Br.ext Ab;have B3:=Bt.trans Ab;have B4:=A5.ext Ab;obtain ⟨A8,s3,L3,rfl,Ba,B6,B7,B8⟩:=Bu.out;refine AB9 [.bool A8,s3] ABn rfl rfl rfl rfl (AJp Ba.cap) B1 fun C6 B9 Af=>?_;have Ca:=Bx.thenUpd Af (fun k hk=>by have Aj:k=Ac:=hk;omega);have C7:=Af.1;have C8:=Bw.thenUpd Af (fun k hk=>by have Aj:k=Ac:=hk;omega);have C9:=B3.thenUpd Af (fun k hk=>by have Aj:k=Ac:=hk;omega);have Da:=By.thenUpd Af (fun k hk=>by have Aj:k=Ac:=hk;omega);have Db:=Bz.thenUpd Af (fun k hk=>by have Aj:k=Ac:=hk;omega);have Dc:=B4.updLo Af Zj;have Cb:=Ba.updLo Af Zj;refine Zs (Zx (⟨_,ACg ABn rfl rfl B9,?_⟩));exact ⟨Ca,⟨A8,s3,L3,rfl,Cb.mono Zj,B6,B7,by rw [<- B8,A7,A3,A4,hza,hzb,Adu]⟩⟩
end Go.Proofs.YtdkldlbgcfpglaaGreatDoor.Ig
namespace Go.Proofs.YtdkldlbgcfpglaaGreatDoor
open Go Go.QF
def Atb (fuel:Nat) (a b:Int):Option Int:=if a.natAbs < AC3/\b.natAbs < AC3 then some (a - b) else none
def Ajk (fuel:Nat) (a b:Int):Option Int:=if a.natAbs * b.natAbs < AC3 then some (a * b) else none
def AVj (fuel:Nat) (a b:Int):Option (Int × Int × Bool):=if a.natAbs < 18446744073709551616/\b.natAbs < 18446744073709551616/\b≠0 then some (a / b,a % b,true) else none
def Atc (fuel:Nat) (a:Int):Option Int:=some (-a)
def AVk (fuel:Nat) (a:Int):Option Int:=some a
def AZ2 (fuel:Nat) (a:Int):Option Int:=if -9223372036854775808<=a/\a<=9223372036854775807 then some a else none
def Abd (fuel:Nat) (a:Int):Option Int:=some (AGc a)
theorem Aui {fuel:Nat} {h:Zv} {u v:Value} {a b r:Int} (H1:ZZ h u a) (H2:ZZ h v b) (hp:Atb fuel a b=some r):AAw Tryz.prog 162 #[u,v] h (fun x h'=>Ext h h'/\ ∃ (x0:Value),x=x0/\ZZ h' x0 r):=by
 obtain ⟨⟨h1,h2⟩,hp⟩:=ifN hp;cases hp;exact (Ig.Sub_ok H1 H2 h1 h2).mono fun x h' hk=>⟨hk.1,x,rfl,hk.2.zz⟩
theorem Ah0 {fuel:Nat} {h:Zv} {u v:Value} {a b r:Int} (H1:ZZ h u a) (H2:ZZ h v b) (hp:Ajk fuel a b=some r):AAw Tryz.prog 136 #[u,v] h (fun x h'=>Ext h h'/\ ∃ (x0:Value),x=x0/\ZZ h' x0 r):=by
 obtain ⟨h1,hp⟩:=ifN hp;cases hp;exact (Ig.MulZ_ok H1 H2 (Anw h1)).mono fun x h' hk=>⟨hk.1,x,rfl,hk.2.zz⟩
theorem Auj {fuel:Nat} {h:Zv} {u:Value} {a r:Int} (H1:ZZ h u a) (hp:Atc fuel a=some r):AAw Tryz.prog 163 #[u] h (fun x h'=>Ext h h'/\ ∃ (x0:Value),x=x0/\ZZ h' x0 r):=by
 cases hp;exact (Ig.Neg_ok H1).mono fun x h' hk=>⟨hk.1,x,rfl,hk.2.zz⟩
theorem AXz {fuel:Nat} {h:Zv} {u:Value} {a r:Int} (H1:ZZ h u a) (hp:AVk fuel a=some r):AAw Tryz.prog 133 #[u] h (fun x h'=>Ext h h'/\ ∃ (x0:Value),x=x0/\ZZ h' x0 r):=by
 cases hp;exact (Ig.Normalize_ok H1).mono fun x h' hk=>⟨hk.1,x,rfl,hk.2.zz⟩
theorem Abe {fuel:Nat} {h:Zv} {a r:Int} (hp:AZ2 fuel a=some r):AAw Tryz.prog 129 #[.int .i64 a] h (fun x h'=>Ext h h'/\ ∃ (x0:Value),x=x0/\ZZ h' x0 r):=by
 obtain ⟨h1,hp⟩:=ifN hp;cases hp;exact (Ig.Small_ok h1 h).mono fun x h' hk=>⟨hk.1,x,rfl,hk.2.zz⟩
theorem AZ3 {fuel:Nat} {h:Zv} {u:Value} {a r:Int} (H1:ZZ h u a) (hp:Abd fuel a=some r):AAw Tryz.prog 132 #[u] h (fun x h'=>Ext h h'/\x= .int .i64 r):=by
 cases hp;exact Ig.Sign_ok H1
theorem AY3 {fuel:Nat} {h:Zv} {u v:Value} {a b:Int} {r:Int × Int × Bool} (H1:ZZ h u a) (H2:ZZ h v b) (hp:AVj fuel a b=some r):AAw Tryz.prog 135 #[u,v] h (fun x h'=>Ext h h'/\ ∃ (x0:Value) (x1:Value),x= .tuple #[x0,x1,.bool r.2.2]/\ZZ h' x0 r.1/\ZZ h' x1 r.2.1):=by
 obtain ⟨⟨h1,h2,h3⟩,hp⟩:=ifN hp;cases hp;exact (Ig.DivMod2_ok H1 H2 h1 h2 h3).mono fun x h' ⟨E,q,r,hx,hq,hr⟩=>⟨E,q,r,hx,hq.zz,hr.zz⟩
end Go.Proofs.YtdkldlbgcfpglaaGreatDoor
namespace Go.Proofs.YtdkldlbgcfpglaaGreatDoor
open Go Go.QF
set_option maxRecDepth 100000
set_option maxHeartbeats 4000000
def ALe (fuel:Nat) (a3:LiI) (Ac:LiA) (Aa:Int):Option ((Int) ⊕ (((Int × Int × Bool)) ⊕ (Unit))):=
  (if Aa < (a3.length:Int) then ((gI a3 Aa).bind fun Ad=>(if ¬ (Ad.length:Int)=(Ac.length:Int) then (some (Sum.inr<| Sum.inl <| (0,0,false))) else (some (Sum.inl (w64 (Aa + 1)))))) else (some (Sum.inr<| Sum.inr <| ())))
def AHh (fuel:Nat) (a3:LiI):Option (Int × Int × Bool):=
  (((if (a3.length:Int) < 1 then (some (Sum.inl <| (0,0,false))) else (if 16 < (a3.length:Int) then (some (Sum.inl <| (0,0,false))) else (some (Sum.inr <| ())))):Option (((Int × Int × Bool)) ⊕ (Unit))).bind (fun ex=>match ex with | Sum.inl Ac=>(some Ac) | Sum.inr (_)=>((gI a3 0).bind fun Ab=>(((if (Ab.length:Int) < 1 then (some (Sum.inl <| (0,0,false))) else (if 16 < (Ab.length:Int) then (some (Sum.inl <| (0,0,false))) else (some (Sum.inr <| ())))):Option (((Int × Int × Bool)) ⊕ (Unit))).bind (fun ex=>match ex with | Sum.inl Ad=>(some Ad) | Sum.inr (_)=>((iter (fun s=>ALe fuel a3 Ab s) fuel 0).bind (fun ex=>match ex with | Sum.inl Ae=>(some Ae) | Sum.inr (_)=>(some ((a3.length:Int),(Ab.length:Int),true)))))))))
theorem ATj {fuel:Nat} {h:Zv} {Aq:Value} {a3:LiI} {r:(Int × Int × Bool)} (H2:ACx (cI .i64) h Aq a3) (hp:AHh fuel a3=some r):AAw Tryz.prog 126 #[Aq] h (fun x h'=>Ext h h'/\x= .tuple #[.int .i64 r.1,.int .i64 r.2.1,.bool r.2.2]):=by
 unfold AHh at hp;refine cwf (l:=[_]) Tryz.func126 rfl rfl (Zo (AAn (AAn (Zu ?_))));have K0:=Kst.k0 h;obtain ⟨A3,Ar,Ah⟩:=Zq hp;refine AKi 65308 (fun x:Unit=>[]) (fun x h'=>(Sum.inr <| ())=A3/\Kst h h' (K0.L)) ?_ ?_
 ·refine Zo (Zk (AA6 AAg rfl H2 (AAv rfl rfl (Zk ?_))));by_cases Ad:(a3.length:Int) < 1
  ·rw [decide_eq_true Ad];refine AC8 11 true (AAa rfl (Zs (AAr rfl (Zo (AAn (AAn (Zu ?_)))))));obtain rfl:=Zm (ifT Ar Ad);refine Zx (AAd ?_);obtain rfl:=Zm Ah;exact ⟨_,AKh,K0.x,rfl⟩
  ·have Au:=ifF Ar Ad;rw [decide_eq_false Ad];refine Z4 11 false (Zk (Z4 11 false (AA6 AAg rfl H2 (Z4 11 false (AF1 rfl rfl (Z1 rfl (Zs (⟨_,rfl,fun Ai=>?_,fun Ai=>?_⟩))))))))
   ·refine Zo (AAn (AAn (Zu ?_)));obtain rfl:=Zm (AA8 Au Ai);refine Zx (AAd ?_);obtain rfl:=Zm Ah;exact ⟨_,AKh,K0.x,rfl⟩
   ·refine Zw (q_t ?_);exact ⟨(():Unit),⟨Zm (AA9 Au Ai),K0⟩,trivial⟩
 rintro ⟨⟩ Be Bf ⟨A4,Ab⟩;subst A4;refine Zo (Zk ?_);obtain ⟨A5,A6,A7⟩:=Zq Ah;refine AGh AAg AA3 H2 Ab.x A6 fun _ Bg A8=>ABj AAi rfl A8 (Zu ?_);obtain ⟨A9,Av,Aj⟩:=Zq A7;refine AKi 66060316 (fun x:Unit=>[]) (fun x h'=>(Sum.inr <| ())=A9/\Kst h h' (Ab.L)) ?_ ?_
 ·refine Zo (Zk (AAv rfl rfl (Zk ?_)));by_cases Ae:(A5.length:Int) < 1
  ·rw [decide_eq_true Ae];refine AG3 22 true (AAa rfl (Zs (AAr rfl (Zo (AAn (AAn (Zu ?_)))))));obtain rfl:=Zm (ifT Av Ae);refine Zx (AAd ?_);obtain rfl:=Zm Aj;exact ⟨_,AKh,Ab.x,rfl⟩
  ·have Aw:=ifF Av Ae;rw [decide_eq_false Ae];refine Z4 22 false (Zk (Z4 22 false (AF1 rfl rfl (Z1 rfl (Zs (⟨_,rfl,fun Ak=>?_,fun Ak=>?_⟩))))))
   ·refine Zo (AAn (AAn (Zu ?_)));obtain rfl:=Zm (AA8 Aw Ak);refine Zx (AAd ?_);obtain rfl:=Zm Aj;exact ⟨_,AKh,Ab.x,rfl⟩
   ·refine Zw (q_t ?_);exact ⟨(():Unit),⟨Zm (AA9 Aw Ak),Ab⟩,trivial⟩
 rintro ⟨⟩ Bh Bi ⟨Ba,Ax⟩;subst Ba;refine Zp (Zo (Zk (AA6 AAg rfl H2 (Zk (Zs (Zt (AG5 137170518172 Aj (fun x=>[(28,(.int .i64 x))]) (fun x=>Ax.L) Ax ⟨rfl,trivial⟩ ?_)))))));rintro Bj Bl Bm Bn Af Am Ay;unfold ALe at Am;refine Zo (AAv rfl rfl (Zs (Zp (⟨_,rfl,fun Ao=>?_,fun Ao=>?_⟩))))
 ·refine Zw (q_t (Zp (Zt (Zo ?_))));obtain ⟨Bo,Bb,Az⟩:=Zq (AA8 Am Ao);refine AGh AAg AA3 H2 Af.x Bb fun _ Bp Bc=>AA5 (Zk (ABj AAi rfl Bc (Zk (ACp rfl rfl (Zs (⟨_,rfl,fun Ap=>?_,fun Ap=>?_⟩))))))
  ·refine Zo (AAn (AAn (Zu (Zx (ABg (AAd (AAd (ABg (AAd ?_)))))))));obtain rfl:=Zm (Ay _ (Zm (AA8 Az Ap)).symm);exact ⟨_,AKh,Af.x,rfl⟩
  ·refine Zw (q_b (q_t (AAc (AAx rfl rfl (Zk (Zs ?_))))));exact ⟨_,(Zm (AA9 Az Ap)).symm,Af,rfl,trivial⟩
 ·refine AAj (AAk (AAk (ABm (q_t (Zo (Zk (AA6 AAg rfl H2 (Zk (AAn (AAn (Zu (Zx ?_))))))))))));obtain rfl:=Zm (Ay _ (Zm (AA9 Am Ao)).symm);exact ⟨_,AKh,Af.x,rfl⟩
def AJz (fuel:Nat) (a3:LiI) (Ac:LiA) (Aa:Int):Option ((Int) ⊕ (((Int × Int × Bool)) ⊕ (Unit))):=
  (if Aa < (a3.length:Int) then ((gI a3 Aa).bind fun Ad=>(if ¬ (Ad.length:Int)=(Ac.length:Int) then (some (Sum.inr<| Sum.inl <| (0,0,false))) else (some (Sum.inl (w64 (Aa + 1)))))) else (some (Sum.inr<| Sum.inr <| ())))
def AGk (fuel:Nat) (a3:LiI):Option (Int × Int × Bool):=
  (((if (a3.length:Int) < 1 then (some (Sum.inl <| (0,0,false))) else (if 16 < (a3.length:Int) then (some (Sum.inl <| (0,0,false))) else (some (Sum.inr <| ())))):Option (((Int × Int × Bool)) ⊕ (Unit))).bind (fun ex=>match ex with | Sum.inl Ac=>(some Ac) | Sum.inr (_)=>((gI a3 0).bind fun Ab=>(((if (Ab.length:Int) < 1 then (some (Sum.inl <| (0,0,false))) else (if 16 < (Ab.length:Int) then (some (Sum.inl <| (0,0,false))) else (some (Sum.inr <| ())))):Option (((Int × Int × Bool)) ⊕ (Unit))).bind (fun ex=>match ex with | Sum.inl Ad=>(some Ad) | Sum.inr (_)=>((iter (fun s=>AJz fuel a3 Ab s) fuel 0).bind (fun ex=>match ex with | Sum.inl Ae=>(some Ae) | Sum.inr (_)=>(some ((a3.length:Int),(Ab.length:Int),true)))))))))
theorem AR2 {fuel:Nat} {h:Zv} {Aq:Value} {a3:LiI} {r:(Int × Int × Bool)} (H2:ACx cZ h Aq a3) (hp:AGk fuel a3=some r):AAw Tryz.prog 130 #[Aq] h (fun x h'=>Ext h h'/\x= .tuple #[.int .i64 r.1,.int .i64 r.2.1,.bool r.2.2]):=by
 unfold AGk at hp;refine cwf (l:=[_]) Tryz.func130 rfl rfl (Zo (AAn (AAn (Zu ?_))));have K0:=Kst.k0 h;obtain ⟨A3,Ar,Ah⟩:=Zq hp;refine AKi 65308 (fun x:Unit=>[]) (fun x h'=>(Sum.inr <| ())=A3/\Kst h h' (K0.L)) ?_ ?_
 ·refine Zo (Zk (AA6 ABz rfl H2 (AAv rfl rfl (Zk ?_))));by_cases Ad:(a3.length:Int) < 1
  ·rw [decide_eq_true Ad];refine AC8 11 true (AAa rfl (Zs (AAr rfl (Zo (AAn (AAn (Zu ?_)))))));obtain rfl:=Zm (ifT Ar Ad);refine Zx (AAd ?_);obtain rfl:=Zm Ah;exact ⟨_,AKh,K0.x,rfl⟩
  ·have Au:=ifF Ar Ad;rw [decide_eq_false Ad];refine Z4 11 false (Zk (Z4 11 false (AA6 ABz rfl H2 (Z4 11 false (AF1 rfl rfl (Z1 rfl (Zs (⟨_,rfl,fun Ai=>?_,fun Ai=>?_⟩))))))))
   ·refine Zo (AAn (AAn (Zu ?_)));obtain rfl:=Zm (AA8 Au Ai);refine Zx (AAd ?_);obtain rfl:=Zm Ah;exact ⟨_,AKh,K0.x,rfl⟩
   ·refine Zw (q_t ?_);exact ⟨(():Unit),⟨Zm (AA9 Au Ai),K0⟩,trivial⟩
 rintro ⟨⟩ Be Bf ⟨A4,Ab⟩;subst A4;refine Zo (Zk ?_);obtain ⟨A5,A6,A7⟩:=Zq Ah;refine AGh ABz AD1 H2 Ab.x A6 fun _ Bg A8=>ABj AC9 rfl A8 (Zu ?_);obtain ⟨A9,Av,Aj⟩:=Zq A7;refine AKi 66060316 (fun x:Unit=>[]) (fun x h'=>(Sum.inr <| ())=A9/\Kst h h' (Ab.L)) ?_ ?_
 ·refine Zo (Zk (AAv rfl rfl (Zk ?_)));by_cases Ae:(A5.length:Int) < 1
  ·rw [decide_eq_true Ae];refine AG3 22 true (AAa rfl (Zs (AAr rfl (Zo (AAn (AAn (Zu ?_)))))));obtain rfl:=Zm (ifT Av Ae);refine Zx (AAd ?_);obtain rfl:=Zm Aj;exact ⟨_,AKh,Ab.x,rfl⟩
  ·have Aw:=ifF Av Ae;rw [decide_eq_false Ae];refine Z4 22 false (Zk (Z4 22 false (AF1 rfl rfl (Z1 rfl (Zs (⟨_,rfl,fun Ak=>?_,fun Ak=>?_⟩))))))
   ·refine Zo (AAn (AAn (Zu ?_)));obtain rfl:=Zm (AA8 Aw Ak);refine Zx (AAd ?_);obtain rfl:=Zm Aj;exact ⟨_,AKh,Ab.x,rfl⟩
   ·refine Zw (q_t ?_);exact ⟨(():Unit),⟨Zm (AA9 Aw Ak),Ab⟩,trivial⟩
 rintro ⟨⟩ Bh Bi ⟨Ba,Ax⟩;subst Ba;refine Zp (Zo (Zk (AA6 ABz rfl H2 (Zk (Zs (Zt (AG5 137170518172 Aj (fun x=>[(28,(.int .i64 x))]) (fun x=>Ax.L) Ax ⟨rfl,trivial⟩ ?_)))))));rintro Bj Bl Bm Bn Af Am Ay;unfold AJz at Am;refine Zo (AAv rfl rfl (Zs (Zp (⟨_,rfl,fun Ao=>?_,fun Ao=>?_⟩))))
 ·refine Zw (q_t (Zp (Zt (Zo ?_))));obtain ⟨Bo,Bb,Az⟩:=Zq (AA8 Am Ao);refine AGh ABz AD1 H2 Af.x Bb fun _ Bp Bc=>AA5 (Zk (ABj AC9 rfl Bc (Zk (ACp rfl rfl (Zs (⟨_,rfl,fun Ap=>?_,fun Ap=>?_⟩))))))
  ·refine Zo (AAn (AAn (Zu (Zx (ABg (AAd (AAd (ABg (AAd ?_)))))))));obtain rfl:=Zm (Ay _ (Zm (AA8 Az Ap)).symm);exact ⟨_,AKh,Af.x,rfl⟩
  ·refine Zw (q_b (q_t (AAc (AAx rfl rfl (Zk (Zs ?_))))));exact ⟨_,(Zm (AA9 Az Ap)).symm,Af,rfl,trivial⟩
 ·refine AAj (AAk (AAk (ABm (q_t (Zo (Zk (AA6 ABz rfl H2 (Zk (AAn (AAn (Zu (Zx ?_))))))))))));obtain rfl:=Zm (Ay _ (Zm (AA9 Am Ao)).symm);exact ⟨_,AKh,Af.x,rfl⟩
def AM7 (fuel:Nat) (a3:LiI) (Ab:Int) (Af:LiA) (Aa:Int) (Ac:LiI):Option ((Int × LiI) ⊕ ((LiI))):=
  (if Aa < (Af.length:Int) then ((gI Ac Ab).bind fun Ad=>((((gI a3 Ab).bind fun Ag=>((gI Ag Aa).bind fun Ah=>((AZ2 fuel Ah).bind fun Ai=>(some ( Ai))))):Option (Int)).bind fun Aj=>((gI Ad Aa).bind fun Ak=>(some (Sum.inl ((w64 (Aa + 1)),(sI Ac Ab (sI Ad Aa Aj)))))))) else (some (Sum.inr<| Ac)))
def AM8 (fuel:Nat) (a3:LiI) (Ae Ab Aa:Int) (Ac:LiI):Option ((Int × LiI) ⊕ ((LiI))):=
  (if Aa < ((List.replicate (Int.toNat Ae) ([]:List Int)).length:Int) then (if 0<=Ab/\Ab<=100000000 then ((gI Ac Aa).bind fun Ah=>((gI (sI Ac Aa (List.replicate (Int.toNat Ab) (0:Int))) Aa).bind fun Af=>((iter (fun s=>AM7 fuel a3 Aa Af s.1 s.2) fuel (0,(sI Ac Aa (List.replicate (Int.toNat Ab) (0:Int))))).bind (fun (Ag:LiI)=>(some (Sum.inl ((w64 (Aa + 1)),Ag))))))) else none) else (some (Sum.inr<| Ac)))
def AJ9 (fuel:Nat) (a3:LiI):Option (LiI × Bool):=
  ((AHh fuel a3).bind fun (Aa,Ac,Ad)=>(if (!Ad)=true then (some ([],false)) else (((if 0<=Aa/\Aa<=100000000 then ((iter (fun s=>AM8 fuel a3 Aa Ac s.1 s.2) fuel (0,(List.replicate (Int.toNat Aa) ([]:List Int)))).bind (fun (Ae:LiI)=>(some ( Ae)))) else none):Option (LiI)).bind fun Af=>(some (Af,true)))))
theorem AVl {fuel:Nat} {h:Zv} {Ah:Value} {a3:LiI} {r:(LiI × Bool)} (H2:ACx (cI .i64) h Ah a3) (hp:AJ9 fuel a3=some r):AAw Tryz.prog 77 #[Ah] h (fun x h'=>Ext h h'/\ ∃ (x0:Value) (F0:List Nat) (Bu:List LnA) (Bv:List Value),x= .tuple #[x0,.bool r.2]/\ACy cZ 128 94 h' F0 Bu Bv x0 r.1/\Sp h' h.size [F0]):=by
 unfold AJ9 at hp;refine cwf (l:=[_]) Tryz.func77 rfl rfl (Zo ?_);have K0:=Kst.k0 h;refine Ank [Ah] trivial tt2 rfl (Afj ((H2.ext K0.x)).isOne) fun b5 h6 V7 E8 S9=>AAn (AA5 ?_);have Aj:=K0.nb E8 S9 V7;refine AA7 AD6 rfl ((Aj.b p0).cell (i:=0) rfl) ?_;obtain ⟨⟨B1,B3,D1⟩,B4,Ak⟩:=Zq hp;dsimp only at Ak;refine ACa Aj (ATj (H2.ext Aj.x) B4) fun D2 D3 Am=>Zk (ABl rfl rfl (ABl rfl rfl (ABl rfl rfl (AAn (AAn (Zu (Zp (Zo (Zk (ACr rfl (Zs (⟨_,rfl,fun Ao=>?_,fun Ao=>?_⟩))))))))))))
 ·refine Zo (AAn (Zu (Zx (AAd ?_))));have Ap:=Kst.anil2 cZ 128 94 Am;obtain rfl:=Zm (ifT Ak Ao);exact ⟨_,ABi,Ap.x,_,_,_,_,rfl,(Ap.o2 p0),Ap.s.sel [0] Zl⟩
 ·refine Zw (q_t (Zo (Zk (Zk (Amh rfl ?_)))));obtain ⟨B5,B6,B7⟩:=Zq (AFe Ak Ao);refine AA0 (K':=(fun xr h'=> ∃ x:(LiI) × (Value) × LnA × LnN × LvA,x.1=B5/\xr=x.2.1/\Kst h h' (aO2 cZ 128 94 x.2.2.1 x.2.2.2.1 x.2.2.2.2 x.2.1 x.1 :: Am.L))) trivial rfl ?_ fun B8 D4 B9=>?_
  ·refine cwf (l:=[_,_,_]) Tryz.func127 rfl rfl (Zo (AA5 (Zk ?_)));obtain ⟨Ca,Cb⟩:=ifN B6;refine ASh cZ 94 ABz Afk rfl trivial tt2 rfl rfl Zl Ca fun Cd Ce Cf Aq D5 Cg Ch Ci=>Zu (Zp (Zo (Zk ?_)));have Ar:=Am.no2 Ch Ci Cg;refine AA6 ABz rfl (Ar.o2 p0).rd (Zk (Zs (Zt (AFo 4398046495488 (fun x:(Int) × (LiI) × LnA × LnN × LvA=>(x.1,x.2.1)) ((0,(List.replicate (Int.toNat B1) ([]:List Int)),Cd,Ce,Cf):(Int) × (LiI) × LnA × LnN × LvA) Cb (fun x=>[(14,(.int .i64 x.1))]) (fun x=>Ar.L.set 0 (aO2 cZ 128 94 x.2.2.1 x.2.2.2.1 x.2.2.2.2 Aq x.2.1)) Ar ⟨rfl,trivial⟩ ?_))));rintro ⟨Aa,Bg,Cj,Au,Bh⟩ D6 D7 D8 Bi Av Ck;unfold AM8 at Av;refine Zo (AAv rfl rfl (Zs (Zp (⟨_,rfl,fun Aw=>?_,fun Aw=>?_⟩))))
   ·refine Zw (q_t (Zp (Zt (Zo (Zk (AA5 (Zk (Zk (Zk ?_)))))))));obtain ⟨Cm,Cn⟩:=ifN (AA8 Av Aw);refine Ahe AC9 AE3 rfl trivial tt2 rfl rfl Zl Cm fun Bj Co D9 Cp Cq Cr Ct=>?_;have Ac:=Bi.no Cq (AE8 Cr Ct) Cp;obtain ⟨Ea,Bl,Cu⟩:=Zq Cn;refine ADb ABz rfl (Ac.o2 p1) rfl Bl fun Cv Eb Cw Ec Ed=>ASg AD1 (Ac.o2 p1) Bl Cw rfl rfl (Ac.o p0) (Ac.dj p0 p1 Zl) fun Ee Cx Cy Cz=>AId (Zk (Zk ?_));have Ax:=Ac.m2 p0 p1 Zl Cy Cx (fun z hz=> .inl (Cz z hz));obtain ⟨Ef,Bm,C0⟩:=Zq Cu;refine AB1 ABz AD1 (Ax.o2 p1) Bm fun _ Eg C1=>ABj AC9 rfl ((Ax.o2 p1).rowI C1 Bm) (Zk (Zs (Zt ?_)));have Ay:=Ax.sel [1,2] Zl;dsimp only [AHd,AKw] at Ay;refine AFo 2198889038336 (fun x:(Int) × (LiI) × LnA × LnN × LvA=>(x.1,x.2.1)) ((0,(sI Bg Aa (List.replicate (Int.toNat B3) (0:Int))),(Cv :: (Au.set (Int.toNat Aa) [Bj]).flatten),(Au.set (Int.toNat Aa) [Bj]),(Bh.set (Int.toNat Aa) Co)):(Int) × (LiI) × LnA × LnN × LvA) C0 (fun x=>[(27,(.int .i64 x.1))]) (fun x=>Ay.L.set 0 (aO2 cZ 128 94 x.2.2.1 x.2.2.2.1 x.2.2.2.2 Aq x.2.1)) Ay ⟨rfl,trivial⟩ ?_;rintro ⟨C2,Eh,Ei,Ej,Ek⟩ El Ab Em Ad Az C3;unfold AM7 at Az;refine Zo (AAv rfl rfl (Zs (Zp (⟨_,rfl,fun A3=>?_,fun A3=>?_⟩))))
    ·refine Zw (q_t (Zp (Zt (Zo (Zk (Zu (ACj (fun h'=>UpT [] Ab h') Zy ?_)))))));have A4:UpT [] Ab Ab:=UpT.start all_nil;refine Zk (Zk ?_);obtain ⟨En,A5,C4⟩:=Zq (AA8 Az A3);refine ADb ABz rfl (Ad.o2 p0) rfl A5 fun Eo Ep Er C5 C6=>ACl AD1 rfl A4 (fun h' hb=>AAz C6 hb.ext) (Zk (Zk (Zk (Zk ?_))));obtain ⟨C7,C8,C9⟩:=Zq C4;have Da:UpT [] Ab Ab:=UpT.start all_nil;refine AZt (l:=[(.int .i64 Aa),(.int .i64 C2)]) (cl:=[(.pointer (some ⟨b5,0,none⟩))]) (K':=(fun xr h'=> ∃ x:(Int) × LvA,x.1=C7/\xr=(.agg (x.2).toArray)/\Kst h h' (aZ x.2 x.1 :: Ad.L)/\UpT [] Ab h')) A4 rfl rfl ?_ fun Es Et Db=>?_
     ·refine cwf (l:=[_,_,_]) Tryz.func128 rfl rfl (Zo (Aat [.bool false,.slice none 0 0] AE3 rfl trivial tt2 fun Eu Ev Dc A6 Bn=>AId ?_));have Ew:=A6.1;have Ag:=Ad.nb A6 Bn Dc;refine AA7 AD6 rfl ((Ag.b p2).cell (i:=0) rfl) (Zk ?_);have Dd:=Bn.loAll 0 rfl;obtain ⟨Ey,De,Df⟩:=Zq C8;refine ATc AAg rfl H2 rfl De fun Ez Fa Fb Dg Dh=>AA7 AA3 rfl (AAz Dg Ag.x) (Zk ?_);obtain ⟨Fc,Di,Dj⟩:=Zq Df;refine AI2 (c:=(cI .i64)) AAi rfl Dh rfl Di fun Fd Fe Ff Dk Dl=>?_;obtain rfl:=Dk;refine AA7 AAl rfl (AAz (Dl 0 _ rfl) Ag.x) ?_;obtain ⟨Do,Dp,Dq⟩:=Zq Dj;refine ANz rfl (Abe Dp) fun Fg Dr A7 Ds=>?_;obtain ⟨Fh,rfl,Dt⟩:=Ds;have Fi:=A7.1;obtain ⟨Bo,rfl,Du⟩:=Dt.cs;have Ae:=(Ag.e A7).az Du;refine AB9 Bo ABn (cZ.klen (Ae.z p0)) (cZ.klen (AAf Dr)) rfl rfl (cZ.one (Ae.z p0)) (Ae.b p1) fun Fj Bp A8=>Zs (Zx ?_);have Fk:=A8.1;have A9:=Ae.sb p1 A8 Bp rfl;refine ⟨_,ACg ABn (cZ.klen (A9.z p0)) rfl (A9.b p1),((Do,Bo):(Int) × LvA),?_,rfl,?_,?_⟩
      ·exact Zm Dq
      ·exact A9.sel [0,2,3] Zl
      ·exact (((Da.thenE A6).thenE A7).then (Bp.stA A8 (AGf (Ae.b p1) rfl) rfl) (Atw Dd Zj))
     obtain ⟨⟨Fl,Fm⟩,Dv,rfl,Af,Bq⟩:=Db;have Fo:=Bq.size;refine ⟨(A4.then Bq all_nil),?_⟩;subst Dv;obtain ⟨Fp,Br,Dw⟩:=Zq C9;refine AE9 (m:=Aa) AC9 rfl (Ad.o2 p0) C5 A5 rfl Br fun Fq Dx=>ANv (m:=Aa) (ASf ABn (cZ.klen (Af.z p0)) rfl rfl (cZ.one (Af.z p0))) (Af.o2 p1) Dx A5 Br (Af.z p0) fun Fr Dy Bt=>AAo (q_b (q_t (AAc (AAx rfl rfl (Zk (Zs ?_))))));have Ft:=Bt.size;exact ⟨(_,_,_,_,_),(Zm Dw).symm,(Af.uO2 p1 Bt Dy).sel [1,2] Zl,rfl,trivial⟩
    ·refine AAj (AAk (AAk (ABm (q_b (q_t (AAc (AAx rfl rfl (Zk (Zs ?_)))))))));exact ⟨(_,_,_,_,_),(Zm (C3 _ (Zm (AA9 Az A3)).symm)).symm,Ad,rfl,trivial⟩
   ·refine AAj (AAk (AAk (ABm (q_t (Zo (Zk (Zu (Zx (⟨_,Zz,((Bg,Aq,Cj,Au,Bh):(LiI) × (Value) × LnA × LnN × LvA),?_,rfl,?_⟩)))))))))
    ·exact Zm (Ck _ (Zm (AA9 Av Aw)).symm)
    ·exact Bi
  obtain ⟨⟨Fu,B8,Fv,Fw,Fx⟩,Dz,rfl,Ba⟩:=B9;refine ⟨trivial,?_⟩;subst Dz;refine AAn (Zu (Zx ?_));obtain rfl:=Zm B7;exact ⟨_,ABi,Ba.x,_,_,_,_,rfl,(Ba.o2 p0),Ba.s.sel [0] Zl⟩
def ALf (fuel:Nat) (a3:LiI) (Ac:Int) (Ad:LiI) (Aa:Int):Option ((Int) ⊕ ((Int))):=
  (((if Aa < (a3.length:Int) then ((gI Ad Aa).bind fun Ae=>((gI Ae Ac).bind fun Af=>((Abd fuel Af).bind fun Ag=>(if Ag=0 then (some (Sum.inl <| ())) else (some (Sum.inr <| ())))))) else (some (Sum.inr <| ()))):Option ((Unit) ⊕ (Unit))).bind (fun ex=>match ex with | Sum.inl _=>(some (Sum.inl (w64 (Aa + 1)))) | Sum.inr (_)=>(some (Sum.inr<| Aa))))
def ALg (fuel:Nat) (a3:LiI) (Ad Ag Ah Ae Aa:Int) (Ab:LiI):Option ((Int × LiI) ⊕ ((LiI))):=
  (if Aa < (a3.length:Int) then ((gI Ab Ae).bind fun Ac=>((gI Ac Aa).bind fun Ai=>((Ajk fuel Ah Ai).bind fun Aj=>((gI Ac Ad).bind fun Ak=>((gI Ab Ad).bind fun Am=>((gI Am Aa).bind fun Ao=>((Ajk fuel Ak Ao).bind fun Ap=>((Atb fuel Aj Ap).bind fun Aq=>((AVj fuel Aq Ag).bind fun (Ar,Au,Av)=>(some (Sum.inl ((w64 (Aa + 1)),(sI Ab Ae (sI Ac Aa Ar)))))))))))))) else (some (Sum.inr<| Ab)))
def ALh (fuel:Nat) (a3:LiI) (Ac Ae Af Aa:Int) (Ad:LiI):Option ((Int × LiI) ⊕ ((LiI))):=
  (if Aa < (a3.length:Int) then ((iter (fun s=>ALg fuel a3 Ac Ae Af Aa s.1 s.2) fuel ((w64 (Ac + 1)),Ad)).bind (fun (Ag:LiI)=>(some (Sum.inl ((w64 (Aa + 1)),Ag))))) else (some (Sum.inr<| Ad)))
def ALi (fuel:Nat) (a3:LiI) (Ae:Bool) (Aa:Int) (Ab:LiI) (Af:Int):Option ((Bool × Int × LiI × Int) ⊕ ((Int) ⊕ (Bool × Int))):=
  (if Aa < (a3.length:Int) then ((((iter (fun s=>ALf fuel a3 Aa Ab s) fuel Aa).bind (fun (Ai:Int)=>(some ( Ai)))):Option ((Int))).bind (fun (Ad:Int)=>(if Ad=(a3.length:Int) then (some (Sum.inr<| Sum.inl <| 0)) else (((if ¬ Ad=Aa then ((gI Ab Ad).bind fun Aj=>((gI Ab Aa).bind fun Ak=>(some ( ((!Ae),(sI (sI Ab Aa Aj) Ad Ak)))))) else (some ( (Ae,Ab)))):Option ((Bool × LiI))).bind (fun ((Am,Ag):Bool × LiI)=>((gI Ag Aa).bind fun Ao=>((gI Ao Aa).bind fun Ah=>((iter (fun s=>ALh fuel a3 Aa Af Ah s.1 s.2) fuel ((w64 (Aa + 1)),Ag)).bind (fun (Ap:LiI)=>(some (Sum.inl (Am,(w64 (Aa + 1)),Ap,Ah)))))))))))) else (some (Sum.inr<| Sum.inr <| (Ae,Af))))
def ALj (fuel:Nat) (a3:LiI) (Aa:Int) (Ac:LiI):Option ((Int × LiI) ⊕ ((LiI))):=
  (if Aa < (a3.length:Int) then ((gI a3 Aa).bind fun Ad=>(if 0<=(a3.length:Int)/\(a3.length:Int)<=100000000 then ((gI Ac Aa).bind fun Af=>((gI (sI Ac Aa (List.replicate (Int.toNat (a3.length:Int)) (0:Int))) Aa).bind fun Ae=>(if Ad.length=Ae.length/\0 < Ae.length then (some (Sum.inl ((w64 (Aa + 1)),(sI (sI Ac Aa (List.replicate (Int.toNat (a3.length:Int)) (0:Int))) Aa Ad)))) else none))) else none)) else (some (Sum.inr<| Ac)))
def AHi (fuel:Nat) (a3:LiI):Option Int:=
  (if 0<=(a3.length:Int)/\(a3.length:Int)<=100000000 then ((iter (fun s=>ALj fuel a3 s.1 s.2) fuel (0,(List.replicate (Int.toNat (a3.length:Int)) ([]:List Int)))).bind (fun (Ac:LiI)=>((AZ2 fuel 1).bind fun Ad=>((iter (fun s=>ALi fuel a3 s.1 s.2.1 s.2.2.1 s.2.2.2) fuel (false,0,Ac,Ad)).bind (fun ex=>match ex with | Sum.inl Ae=>(some Ae) | Sum.inr ((Af,Ab))=>(if Af=true then ((Atc fuel Ab).bind fun Ag=>(some Ag)) else ((AVk fuel Ab).bind fun Ah=>(some Ah)))))))) else none)
theorem ATk {fuel:Nat} {h:Zv} {Bx:Value} {a3:LiI} {r:Int} (H2:ACx cZ h Bx a3) (hp:AHi fuel a3=some r):AAw Tryz.prog 131 #[Bx] h (fun x h'=>Ext h h'/\ ∃ (x0:Value),x=x0/\ZZ h' x0 r):=by
 unfold AHi at hp;refine cwf (l:=[_]) Tryz.func131 rfl rfl (Zo (AC4 (Kst.k0 h) [.bool false,.slice none 0 0] AE3 fun b5 h6 E8 C7=>AId (Zk (AA6 ABz rfl H2 (AA5 (Zk ?_))))));obtain ⟨C8,C9⟩:=ifN hp;refine ASh cZ 94 ABz Afk rfl trivial tt2 rfl rfl Zl C8 fun Da Db Dc Ak Id Dd De Df=>Zu (Zp (Zo (Zk (AA6 ABz rfl H2 (Zk (Zs (Zt ?_)))))));have Bz:=C7.no2 De Df Dd;refine AFo 274875809888 (fun x:(Int) × (LiI) × LnA × LnN × LvA=>(x.1,x.2.1)) ((0,(List.replicate (Int.toNat (a3.length:Int)) ([]:List Int)),Da,Db,Dc):(Int) × (LiI) × LnA × LnN × LvA) C9 (fun x=>[(21,(.int .i64 x.1))]) (fun x=>Bz.L.set 0 (aO2 cZ 128 94 x.2.2.1 x.2.2.2.1 x.2.2.2.2 Ak x.2.1)) Bz ⟨rfl,trivial⟩ ?_;rintro ⟨Dg,u32,Dh,Di,Dj⟩ Ie If Ih A7 A8 Dk;unfold ALj at A8;refine Zo (AAv rfl rfl (Zs (Zp (⟨_,rfl,fun A9=>?_,fun A9=>?_⟩))))
 ·refine Zw (q_t (Zp (Zt (Zo (Zk ?_)))));obtain ⟨Ii,Dl,Do⟩:=Zq (AA8 A8 A9);refine AGh ABz AD1 H2 A7.x Dl fun _ Ij Dp=>AAn (AA5 (Zk (Zk (Zk ?_))));obtain ⟨Dq,Dr⟩:=ifN Do;refine Ahe AC9 AE3 rfl trivial tt2 rfl rfl Zl Dq fun Ik Il Im Ds Dt Du Dv=>?_;have Am:=A7.no Dt (AE8 Du Dv) Ds;obtain ⟨Io,B1,Dw⟩:=Zq Dr;refine ADb ABz rfl (Am.o2 p1) rfl B1 fun Ip Iq Dx Ir Is=>ASg AD1 (Am.o2 p1) B1 Dx rfl rfl (Am.o p0) (Am.dj p0 p1 Zl) fun It Dy Dz D0=>Zs (AAc (Zk (Zk ?_)));have Au:=Am.m2 p0 p1 Zl Dz Dy (fun z hz=> .inl (D0 z hz));obtain ⟨Iu,B3,D1⟩:=Zq Dw;refine AB1 ABz AD1 (Au.o2 p1) B3 fun _ Iv D2=>Zk ?_;obtain ⟨D3,D4⟩:=ifN D1;refine Anv (m:=Dg) AC9 trivial rfl rfl (Au.o2 p1) D2 B3 (Dp.ext Au.x) D3 fun Iw D5 D6=>⟨trivial,?_⟩;refine AAo (q_b (q_t (AAc (AAx rfl rfl (Zk (Zs ?_))))));exact ⟨(_,_,_,_,_),(Zm D4).symm,(Au.uO2 p1 D6 D5).sel [1,2] Zl,rfl,trivial⟩
 ·refine AAj (AAk (AAk (ABm (q_t (Zo (AA5 ?_))))));obtain ⟨D7,D8,D9⟩:=Zq (Dk _ (Zm (AA9 A8 A9)).symm);refine AN0 A7 (Abe D8) fun Ea Ix Iy Eb=>AC4 Eb [.bool false,.slice none 0 0] AE3 fun Ec Ed Iz B4=>AGd B4 p0 (AAf Ed) (B4.z p1) fun I0 B5=>Zs (Zp (Zo (Zk (Zk (Zs (Zt (AFo 22300745198530623141535718272647261994385024 (fun x:(Bool) × (Int) × (LiI) × LnA × LnN × LvA × (Int) × LvA=>(x.1,x.2.1,x.2.2.1,x.2.2.2.2.2.2.1)) ((false,0,u32,Dh,Di,Dj,D7,Ea):(Bool) × (Int) × (LiI) × LnA × LnN × LvA × (Int) × LvA) D9 (fun x=>[(7,(.bool x.1)),(40,(.int .i64 x.2.1))]) (fun x=>((B5.L.set 2 (aO2 cZ 128 94 x.2.2.2.1 x.2.2.2.2.1 x.2.2.2.2.2.1 Ak x.2.2.1)).set 1 (aZ x.2.2.2.2.2.2.2 x.2.2.2.2.2.2.1)).set 0 (aB 94 Ec x.2.2.2.2.2.2.2)) B5 ⟨rfl,rfl,trivial⟩ ?_)))))));rintro ⟨B6,Ao,B7,Ee,Ef,Eg,I1,I2⟩ I3 I6 I7 Ab Ba B8;unfold ALi at Ba;refine Zo (AAv rfl rfl (Zs (Zp (⟨_,rfl,fun Bb=>?_,fun Bb=>?_⟩))))
  ·refine Zw (q_t (Zp (Zt (Zo (Zk (AA5 (Zk (Zu ?_))))))));obtain ⟨Eh,Ei,B9⟩:=Zq (AA8 Ba Bb);refine AKi 1152903912420803584 (fun x:(Int)=>[(10,(.int .i64 x))]) (fun x h'=>( x)=Eh/\Kst h h' (Ab.L)) ?_ ?_
   ·refine Zt (AG5 1152903912420803584 Ei (fun x=>[(10,(.int .i64 x))]) (fun x=>Ab.L) Ab ⟨rfl,trivial⟩ ?_);rintro Av I9 Ja Jc Ah Ca Cb;unfold ALf at Ca;obtain ⟨Ej,Cd,Bc⟩:=Zq Ca;refine AKi 288212783965667328 (fun x:Unit=>[]) (fun x h'=>(Sum.inl <| ())=Ej/\Kst h h' (Ah.L)) ?_ ?_
    ·refine Zo (Zk (Zk (AAv rfl rfl (Zk ?_))));by_cases Aw:Av < (a3.length:Int)
     ·rw [decide_eq_true Aw];refine Z4 47 true (Zk (Z4 47 true (Zk (Z4 47 true ?_))));obtain ⟨Je,Be,Ek⟩:=Zq (ifT Cd Aw);refine ADb ABz rfl (Ah.o2 p2) rfl Be fun Jf Jg Jh El Em=>Z4 47 true (AA7 AD1 rfl Em (Z4 47 true (Zk (Z4 47 true ?_))));obtain ⟨Ji,Ce,En⟩:=Zq Ek;refine AE9 (m:=Av) AC9 rfl (Ah.o2 p2) El Be rfl Ce fun Jj Eo=>Z4 47 true ?_;obtain ⟨Jk,Ep,Er⟩:=(Ah.o2 p2).cells Eo Be Ce;have Bf:=Ah.az Ep;refine AOe (c:=cZ) ABn rfl (Bf.z p0) (fun j u hu=>(Er j u hu)) (Z4 47 true ?_);obtain ⟨Jl,Es,Cf⟩:=Zq En;refine ACa Bf (AZ3 (Bf.z p0).2 Es) fun Jm Jn Cg=>Z4 47 true (ABx rfl rfl (AAa rfl (Zs (⟨_,rfl,fun Bg=>?_,fun Bg=>?_⟩))))
      ·refine Zw (q_t ?_);exact ⟨(():Unit),⟨Zm (AA8 Cf Bg),Cg.sel [1,2,3,4] Zl⟩,trivial⟩
      ·obtain rfl:=Zm (AA9 Cf Bg);refine AAj (AAk (AAk (ABm (q_t ?_))));exact ⟨(Av:(Int)),⟨Zm (Cb _ (Zm Bc).symm),Cg.sel [1,2,3,4] Zl⟩,rfl,trivial⟩
     ·rw [decide_eq_false Aw];refine ADf 47 false (AD0 47 false (Z1 rfl (Zs (AAy rfl ?_))));obtain rfl:=Zm (ifF Cd Aw);refine AAj (AAk (AAk (ABm (q_t ?_))));exact ⟨(Av:(Int)),⟨Zm (Cb _ (Zm Bc).symm),Ah⟩,rfl,trivial⟩
    rintro ⟨⟩ Jo Jp ⟨Et,Eu⟩;subst Et;refine Zt (AAc (Zk (AAx rfl rfl (AAn (AAo (q_b (q_t ?_)))))));exact ⟨_,(Zm Bc).symm,Eu,rfl,trivial⟩
   rintro Ev Jq Ch ⟨Ew,Ae⟩;subst Ew;refine Zp (Zo (Zk (Zk (ABx rfl rfl (Zs (⟨_,rfl,fun Bh=>?_,fun Bh=>?_⟩))))))
   ·refine Zo (ADr (AO3 ) (AGd Ae p3 (AAf Ch) (AAf Ch) fun Ci Cj=>Zs (Zx (AAd (ABg (AAd (AAd (ABg (AAd ?_)))))))));obtain rfl:=Zm (B8 _ (Zm (AA8 B9 Bh)).symm);exact ⟨_,ACg ABn (cZ.klen (AAf Ci)) rfl (Cj.b p3),Cj.x,_,rfl,(AAf Ci).2⟩
   ·refine Zw (q_t ?_);obtain ⟨Ey,Ck,Ez⟩:=Zq (AA9 B9 Bh);refine AKi 9671388110172959688097920 (fun x:(Bool) × (LiI) × LnA × LnN × LvA=>[(7,(.bool x.1))]) (fun x h'=>( (x.1,x.2.1))=Ey/\Kst h h' (Ae.L.set 2 (aO2 cZ 128 94 x.2.2.1 x.2.2.2.1 x.2.2.2.2 Ak x.2.1))) ?_ ?_
    ·refine Zo (Zk (Zk (ACp rfl rfl (Zs (⟨_,rfl,fun Bi=>?_,fun Bi=>?_⟩)))))
     ·refine Zp (AGe (Zk (Zk (Zk (Zk (Zk (Zk ?_)))))));obtain ⟨Fa,Cm,Fb⟩:=Zq (AA8 Ck Bi);refine AB1 ABz AD1 (Ae.o2 p2) Cm fun _ Jr Fc=>Zk (Zk ?_);obtain ⟨Fd,Cn,Fe⟩:=Zq Fb;refine AB1 ABz AD1 (Ae.o2 p2) Cn fun _ Js Ff=>ARo ABz AD1 (Ae.o2 p2) Ff Fc Cn Cm rfl rfl (fun _=>rfl) (fun _=>rfl) (fun _=>rfl) (fun _ _=>rfl) fun Jt Ju Fg Fh Fi Jv Fj Fk Fl=>Zs (AAc (Zk (ACr rfl (Zu ?_))));exact ⟨(((!B6),(sI (sI B7 Ao Fa) Ev Fd),Fg,Fh,Fi):(Bool) × (LiI) × LnA × LnN × LvA),⟨Zm Fe,(Ae.uo2 p2 Fk Fj Fl)⟩,rfl,trivial⟩
     ·refine Zw (q_t ?_);exact ⟨((B6,B7,Ee,Ef,Eg):(Bool) × (LiI) × LnA × LnN × LvA),⟨Zm (AA9 Ck Bi),Ae⟩,rfl,trivial⟩
    rintro ⟨Jw,Fm,Fo,Fp,Fq⟩ Jx Jy ⟨Fr,Ax⟩;subst Fr;refine Zo (Zk (Zk ?_));obtain ⟨Jz,Bj,Ft⟩:=Zq Ez;refine AB1 ABz AD1 (Ax.o2 p2) Bj fun _ J0 Fu=>Zk ?_;obtain ⟨J1,Co,Fv⟩:=Zq Ft;refine AE9 (m:=Ao) AC9 rfl (Ax.o2 p2) Fu Bj rfl Co fun J2 Fw=>?_;obtain ⟨J3,Fx,Fy⟩:=(Ax.o2 p2).cells Fw Bj Co;have Cp:=Ax.az Fx;refine AOe (c:=cZ) ABn rfl (Cp.z p0) (fun j u hu=>(Fy j u hu)) (AC4 Cp [.bool false,.slice none 0 0] AE3 fun J4 Fz J5 Cq=>AGd Cq p0 (AAf Fz) (Cq.z p1) fun J6 Cr=>Zs (Zp (Zo (Zk (AAx rfl rfl (Zu (Zt (AFo 5575186299632650833623772426640990780026880 (fun x:(Int) × (LiI) × LnA × LnN × LvA=>(x.1,x.2.1)) (((w64 (Ao + 1)),Fm,Fo,Fp,Fq):(Int) × (LiI) × LnA × LnN × LvA) Fv (fun x=>[(12,(.int .i64 x.1))]) (fun x=>Cr.L.set 4 (aO2 cZ 128 94 x.2.2.1 x.2.2.2.1 x.2.2.2.2 Ak x.2.1)) Cr ⟨rfl,trivial⟩ ?_))))))));rintro ⟨Ay,F4,F5,F6,F7⟩ J7 J8 J9 Af Bl F8;unfold ALh at Bl;refine Zp (Zo (Zk (Zk (AAv rfl rfl (Zs (⟨_,rfl,fun Bm=>?_,fun Bm=>?_⟩))))))
    ·refine Zw (q_t (Zp (Zt (Zo (Zk (AAx rfl rfl (Zu (Zt (AFo 5575186299632021960083815453461342024916992 (fun x:(Int) × (LiI) × LnA × LnN × LvA=>(x.1,x.2.1)) (((w64 (Ao + 1)),F4,F5,F6,F7):(Int) × (LiI) × LnA × LnN × LvA) (AA8 Bl Bm) (fun x=>[(13,(.int .i64 x.1))]) (fun x=>Af.L.set 4 (aO2 cZ 128 94 x.2.2.1 x.2.2.2.1 x.2.2.2.2 Ak x.2.1)) Af ⟨rfl,trivial⟩ ?_)))))))));rintro ⟨Ka,Kb,Kc,Kd,Ke⟩ Kf Bn Kg Aa Bo F9;unfold ALg at Bo;refine Zp (Zo (Zk (Zk (AAv rfl rfl (Zs (⟨_,rfl,fun Bp=>?_,fun Bp=>?_⟩))))))
     ·refine Zw (q_t (Zp (Zt (Zp ?_))));have Ai:UpT [] Bn Bn:=UpT.start all_nil;refine AT8 (B:=fun h'=>UpT [] Bn h') 25 [⟨14,94,[.bool false,.slice none 0 0]⟩] (fun _ _ U E=>U.thenE E) Zy Ai (Ad0 rfl AE3 rfl (fun _ _ U E=>U.thenE E)) (h_l rfl (AOh (Aa.z p1) Ai (Aa.b p0) (AAo (h_l rfl (Zk (AAo (h_l rfl (Zk (AAo (h_l rfl ?_))))))))));obtain ⟨Kh,Ac,Ga⟩:=Zq (AA8 Bo Bp);refine ADb ABz rfl (Aa.o2 p4) rfl Ac fun Ki Kj Kk Gb Gc=>AAo (h_l rfl (ACl AD1 rfl Ai (fun h' hb=>AAz Gc hb.ext) (AAo (h_l rfl (Zk (AAo (h_l rfl ?_)))))));obtain ⟨Kl,Az,Gd⟩:=Zq Ga;refine AE9 (m:=Ay) AC9 rfl (Aa.o2 p4) Gb Ac rfl Az fun Km Ge=>AAo (h_l rfl ?_);obtain ⟨Kn,Ct,Gf⟩:=(Aa.o2 p4).cells Ge Ac Az;refine ARi (c:=cZ) ABn rfl Ct Ai (fun h' hb j u hu=>AAz (Gf j u hu) hb.ext) (AAo (h_e rfl fun Ko Cu=>?_));have Bq:=(Aa.az (cZ.upT Ct Ai)).e Cu;obtain ⟨Kp,Gg,Gh⟩:=Zq Gd;refine AFn Bq (Ai.thenE Cu) (Ah0 (Bq.z p2).2 (Bq.z p0).2 Gg) fun Kr Kt Gi Gj Ag=>AAo ⟨Gi,?_⟩;refine h_l rfl (Zk (AAo (h_l rfl (Zk (AAo (h_l rfl (ADb ABz rfl (Aa.o2 p4) rfl Ac fun Ku Kv Kw Gk Gl=>AAo (h_l rfl (ACl AD1 rfl Ag (fun h' hb=>AAz Gl hb.ext) (AAo (h_l rfl (Zk (AAo (h_l rfl ?_))))))))))))));obtain ⟨Kx,Cv,Gm⟩:=Zq Gh;refine AE9 (m:=Ay) AC9 rfl (Aa.o2 p4) Gk Ac rfl Cv fun Ky Gn=>AAo (h_l rfl ?_);obtain ⟨Kz,Cw,Gp⟩:=(Aa.o2 p4).cells Gn Ac Cv;refine ARi (c:=cZ) ABn rfl Cw Ag (fun h' hb j u hu=>AAz (Gp j u hu) hb.ext) (AAo (h_l rfl (Zk (AAo (h_l rfl (Zk (AAo (h_l rfl ?_))))))));obtain ⟨La,Br,Gq⟩:=Zq Gm;refine ADb ABz rfl (Aa.o2 p4) rfl Br fun Lb Lc Ld Gr Gt=>AAo (h_l rfl (ACl AD1 rfl Ag (fun h' hb=>AAz Gt hb.ext) (AAo (h_l rfl (Zk (AAo (h_l rfl ?_)))))));obtain ⟨Le,Cx,Gu⟩:=Zq Gq;refine AE9 (m:=Ao) AC9 rfl (Aa.o2 p4) Gr Br rfl Cx fun Lf Gv=>AAo (h_l rfl ?_);obtain ⟨Lg,Cy,Gw⟩:=(Aa.o2 p4).cells Gv Br Cx;refine ARi (c:=cZ) ABn rfl Cy Ag (fun h' hb j u hu=>AAz (Gw j u hu) hb.ext) (AAo (h_e rfl fun Lh Cz=>?_));have Bt:=((Gj.az (cZ.upT Cw Ag)).az (cZ.upT Cy Ag)).e Cz;obtain ⟨Li,Gx,Gy⟩:=Zq Gu;refine AFn Bt (Ag.thenE Cz) (Ah0 (Bt.z p1).2 (Bt.z p0).2 Gx) fun Lj Lk Gz G3 G4=>AAo ⟨Gz,?_⟩;refine h_e rfl fun Ll C0=>?_;have Bu:=G3.e C0;obtain ⟨Lm,G5,G6⟩:=Zq Gy;refine AFn Bu (G4.thenE C0) (Aui (Bu.z p3).2 (Bu.z p0).2 G5) fun G7 Lo G8 G9 Hb=>AAo ⟨G8,?_⟩;refine Aa5 fun Hc C1=>Aq1 fun Lq C2 Hd Lr=>?_;have Aj:=G9.e C1;have A3:=((((((Aa.nb (Hb.thenE C1).ext (AE8 Hd C2.lt) C2).az (Aj.z p5)).az (Aj.z p4)).az (Aj.z p3)).az (Aj.z p2)).az (Aj.z p1)).az (Aj.z p0);refine AB9 G7 ABn (cZ.klen (A3.z p0)) (cZ.klen (AAf Hc)) rfl rfl (cZ.one (A3.z p0)) (A3.b p6) fun Bv He Hf=>Zs (ACj (fun h'=>UpT [] Bv h') Zy ?_);have Ad:=A3.sb p6 Hf He rfl;have Ap:UpT [] Bv Bv:=UpT.start all_nil;refine Zk (Zk (ADb ABz rfl (Ad.o2 p11) rfl Ac fun Lv Lw Lx Hg Hh=>ACl AD1 rfl Ap (fun h' hb=>AAz Hh hb.ext) (Zk (AOh (Ad.z p0) Ap (Ad.b p6) (AOh (Ad.z p10) Ap (Ad.b p9) ?_)))));obtain ⟨⟨Ly,Lz,L9⟩,Hj,C3⟩:=Zq G6;dsimp only at C3;refine AEo Ap (fun _ E=>Ap.thenE E) rfl (AY3 (Ad.z p0).2 (Ad.z p10).2 Hj) fun Ma Mb Hk Hl=>?_;obtain ⟨Mc,Md,rfl,Hm,Hn⟩:=Hl;obtain ⟨Me,rfl,Ho⟩:=Hm.cs;obtain ⟨Mf,rfl,Hq⟩:=Hn.cs;refine Zk (ABl rfl rfl (ABl rfl rfl (ABl rfl rfl (AE9 (m:=Ay) AC9 rfl (Ad.o2 p11) Hg Ac rfl Az fun Mg Hr=>?_))));have Aq:=((Ad.e Hk).az Ho).az Hq;refine ANv (m:=Ay) (ASf ABn (cZ.klen (Aq.z p1)) rfl rfl (cZ.one (Aq.z p1))) (Aq.o2 p13) Hr Ac Az (Aq.z p1) fun Mh Hs Ht=>AAo (q_b (q_t (AAc (Zk (AAx rfl rfl (Zu ?_))))));exact ⟨(_,_,_,_,_),(Zm C3).symm,(Aq.uO2 p13 Ht Hs).sel [9,10,11,12,13,14] Zl,rfl,trivial⟩
     ·refine AAj (AAk (AAk (ABm (q_b (q_t (AAc (Zk (AAx rfl rfl (Zu ?_)))))))));exact ⟨(_,_,_,_,_),(Zm (F9 _ (Zm (AA9 Bo Bp)).symm)).symm,Aa,rfl,trivial⟩
    ·refine AAj (AAk (AAk (ABm (q_t (AAc (AK6 (Af.z p1) (Af.b p0) (AGd Af p2 (Af.z p3) (Af.z p1) fun Mi Hu=>AAo (q_b (q_t (AAc (AAx rfl rfl (Zk (Zs ?_)))))))))))));exact ⟨(_,_,_,_,_,_,_,_),(Zm (F8 _ (Zm (AA9 Bl Bm)).symm)).symm,Hu.sel [2,1,4,5] Zl,rfl,rfl,trivial⟩
  ·refine AAj (AAk (AAk (ABm (q_t (Zp (Zo (Zk (Zs ?_))))))));have C4:=B8 _ (Zm (AA9 Ba Bb)).symm;refine ⟨_,rfl,fun Bw=>?_,fun Bw=>?_⟩
   ·refine Zo (AK6 (Ab.z p1) (Ab.b p0) ?_);obtain ⟨Mj,Hv,Hw⟩:=Zq (ifT C4 Bw);refine AN0 Ab (Auj (Ab.z p1).2 Hv) fun Mk Hx Ml C5=>AGd C5 p4 (AAf Hx) (C5.z p0) fun Mm A4=>Zs (Zx (AAd ?_));obtain rfl:=Zm Hw;exact ⟨_,ACg ABn (cZ.klen (A4.z p0)) rfl (A4.b p4),A4.x,_,rfl,(A4.z p0).2⟩
   ·refine Zw (q_t (Zo (AK6 (Ab.z p1) (Ab.b p0) ?_)));obtain ⟨Mo,Hy,Hz⟩:=Zq (AFe C4 Bw);refine AN0 Ab (AXz (Ab.z p1).2 Hy) fun Mq H5 Mr C6=>AGd C6 p4 (AAf H5) (C6.z p0) fun Ms A5=>Zs (Zx ?_);obtain rfl:=Zm Hz;exact ⟨_,ACg ABn (cZ.klen (A5.z p0)) rfl (A5.b p4),A5.x,_,rfl,(A5.z p0).2⟩
def AQ0 (fuel:Nat) (a3:LiI):Option (Int × Bool):=
  ((AGk fuel a3).bind fun (Ab,Ac,Ad)=>(if (!Ad)=true then (some (0,false)) else (if ¬ Ab=Ac then (some (0,false)) else ((AHi fuel a3).bind fun Ae=>(some (Ae,true))))))
theorem AZs {fuel:Nat} {h:Zv} {Af:Value} {a3:LiI} {r:(Int × Bool)} (H2:ACx cZ h Af a3) (hp:AQ0 fuel a3=some r):AAw Tryz.prog 78 #[Af] h (fun x h'=>Ext h h'/\ ∃ (x0:Value),x= .tuple #[x0,.bool r.2]/\ZZ h' x0 r.1):=by
 unfold AQ0 at hp;refine cwf (l:=[_]) Tryz.func78 rfl rfl (Zo (AC4 (Kst.k0 h) [.bool false,.slice none 0 0] AE3 fun b5 h6 E8 Aj=>AA5 (Zk ?_)));obtain ⟨⟨A6,A7,Av⟩,Aw,Ad⟩:=Zq hp;dsimp only at Ad;refine ACa Aj (AR2 (H2.ext Aj.x) Aw) fun Aa A8 Ab=>Zk (ABl rfl rfl (ABl rfl rfl (ABl rfl rfl (AAn (AAn (Zu (Zp (Zo (Zk (ACr rfl (Zk ?_)))))))))));cases Ak:(!Av)
 ·refine Z4 15 false (Zk (Z4 15 false (Zk (Z4 15 false (ACp rfl rfl (Z1 rfl (Zs ?_)))))));have Am:=AFe Ad Ak;refine ⟨_,rfl,fun Ae=>?_,fun Ae=>?_⟩
  ·refine Zo (ADr (AO3 ) (AGd Ab p0 (AAf Aa) (AAf Aa) fun Ao Ap=>Zu (Zx (AAd ?_))));obtain rfl:=Zm (AA8 Am Ae);exact ⟨_,ASc ABn (cZ.klen (AAf Ao)) rfl (Ap.b p0),Ap.x,_,rfl,(AAf Ao).2⟩
  ·refine Zw (q_t (Zo (Zk ?_)));obtain ⟨A9,Ax,Ay⟩:=Zq (AA9 Am Ae);refine AN0 Ab (ATk (H2.ext Ab.x) Ax) fun Ba Az Bb Aq=>AGd Aq p1 (AAf Az) (Aq.z p0) fun Bc Ac=>Zu (Zx ?_);obtain rfl:=Zm Ay;exact ⟨_,ASc ABn (cZ.klen (Ac.z p0)) rfl (Ac.b p1),Ac.x,_,rfl,(Ac.z p0).2⟩
 ·refine AC8 15 true (AAa rfl (Zs (AAr rfl (Zo (ADr (AO3 ) (AGd Ab p0 (AAf Aa) (AAf Aa) fun Ar Au=>Zu (Zx (AAd ?_))))))));obtain rfl:=Zm (ifT Ad Ak);exact ⟨_,ASc ABn (cZ.klen (AAf Ar)) rfl (Au.b p0),Au.x,_,rfl,(AAf Ar).2⟩
end Go.Proofs.YtdkldlbgcfpglaaGreatDoor
namespace Go.QF
open Go
theorem Ac4 {h:Zv} {v:Value} {l:List Value} (H:Sl h v l):SlK h 1 v (l.map fun x=>[x]):=by
 obtain ⟨a,cap,hv,hc⟩:=H;refine ⟨a,cap,by rw [List.length_map];exact hv,fun i row hr=>?_⟩;rw [List.getElem?_map] at hr;obtain ⟨x,hx,rfl⟩:=Option.map_eq_some_iff.1 hr;obtain ⟨b,o,ha,hb⟩:=hc i x hx;refine ⟨b,o,ha,fun j y hy=>?_⟩
 cases j with
 | zero=>injection hy with hy;subst hy;rw [Nat.mul_one,Nat.add_zero];exact hb
 | succ j=>simp at hy
theorem Ac5 {h:Zv} {v:Value} {l:List Value} (H:SlK h 1 v (l.map fun x=>[x])):Sl h v l:=by
 obtain ⟨a,cap,hv,hc⟩:=H;refine ⟨a,cap,by rw [List.length_map] at hv;exact hv,fun i x hx=>?_⟩;obtain ⟨b,o,ha,hb⟩:=hc i [x] (by simp [hx]);refine ⟨b,o,ha,?_⟩;have:=hb 0 x rfl;rwa [Nat.mul_one,Nat.add_zero] at this
theorem Ah1 {κ:IntKind} {h:Zv} {v:Value} {L:List Int} (H:Sl h v (L.map (.int κ))):SlC (cI κ) h v L:=by
 refine ⟨L.map fun a=>[.int κ a],?_,AA4,fun i cs a h1 h2=>?_⟩
 ·have:=Ac4 H;rwa [List.map_map] at this
 ·rw [List.getElem?_map,h2] at h1;injection h1 with h1;exact h1.symm
theorem Awe {κ:IntKind} {h:Zv} {v:Value} {L:List Int} (H:SlC (cI κ) h v L):Sl h v (L.map (.int κ)):=by
 obtain ⟨Ls,h1,h2,h3⟩:=H
 have:Ls=(L.map (Value.int κ)).map fun x=>[x]:=by
   apply List.ext_getElem?
   intro i
   by_cases hi:i < L.length
   · obtain ⟨a,ha⟩:∃ a,L[i]? =some a:=⟨L[i],List.getElem?_eq_getElem hi⟩
     obtain ⟨cs,hcs⟩:∃ cs,Ls[i]? =some cs:=⟨Ls[i]'Zj,List.getElem?_eq_getElem _⟩
     have:=h3 i cs a hcs ha
     rw [hcs,List.map_map,List.getElem?_map,ha]
     exact congrArg some this
   · rw [List.getElem?_eq_none Zj,List.getElem?_eq_none (by simp;omega)]
 subst this;exact Ac5 h1
theorem Auk {h:Zv} {v:Value} {M:List (List Int)} (H:ACx (cI .i64) h v M):Mat h v M:=by
 obtain ⟨_,rs,h1,h2,h3⟩:=H;exact ⟨rs,Ac5 h1,h2,fun i r z hr hz=>Awe (h3 i r z hr hz)⟩
theorem Arv {h:Zv} {v:Value} {M:List (List Int)} (H:Mat h v M) (hc:ANx v):ACx (cI .i64) h v M:=by
 obtain ⟨rs,h1,h2,h3⟩:=H;exact ⟨hc,rs,Ac4 h1,h2,fun i r z hr hz=>Ah1 (h3 i r z hr hz)⟩
end Go.QF
namespace Go.QF
def Abs (x b:Int):Prop:= -b<=x/\x<=b
theorem AV5 {x y a b:Int} (hx:Abs x a) (hy:Abs y b):Abs (x * y) (a * b):=by
 unfold Abs at *;have ha:0<=a:=by omega
 have hb:0<=b:=by omega
 have h1:0<=(a - x) * (b - y):=Int.mul_nonneg Zj Zj;have h2:0<=(a - x) * (b + y):=Int.mul_nonneg Zj Zj;have h3:0<=(a + x) * (b - y):=Int.mul_nonneg Zj Zj;have h4:0<=(a + x) * (b + y):=Int.mul_nonneg Zj Zj;constructor <;> grind
theorem Aou {x b y:Int} (hb:0 < b) (hx:Abs x (b * y)):Abs (x.tdiv b) y:=by
 unfold Abs at *;rcases AS9 x 0 with h | h
 ·have h1:x.tdiv b= -((-x).tdiv b):=by rw [Int.neg_tdiv,Int.neg_neg]
  have h2:(-x).tdiv b=(-x) / b:=Int.tdiv_eq_ediv_of_nonneg Zj
  have h3:(-x) / b<=y:=by
    have:(-x) / b<=(b * y) / b:=Int.ediv_le_ediv hb Zj
    rwa [Int.mul_ediv_cancel_left _ Zj] at this
  have h4:0<=(-x) / b:=Int.ediv_nonneg Zj Zj;omega
 ·have h2:x.tdiv b=x / b:=Int.tdiv_eq_ediv_of_nonneg h
  have h3:x / b<=y:=by
    have:x / b<=(b * y) / b:=Int.ediv_le_ediv hb Zj
    rwa [Int.mul_ediv_cancel_left _ Zj] at this
  have h4:0<=x / b:=Int.ediv_nonneg h Zj;omega
def Abf (M:List (List Int)):Prop:=(1<=M.length/\M.length<=8)/\(∀ z∈M,z.length=M.length)/\ ∀ i j,i < M.length->j < M.length->ent M i j=ent M j i/\ -262144 < ent M i j/\ent M i j < 262144
open Classical in
noncomputable def AL1 (M:List (List Int)):Bool:=decide (Abf M)
theorem AHa {M:List (List Int)} (h:Abf M):true=AL1 M:=by simp [AL1,h]
theorem ADz {M:List (List Int)} (h: ¬ Abf M):false=AL1 M:=by simp [AL1,h]
theorem Abg {M:List (List Int)} (h:AL1 M=true):Abf M:=by simpa [AL1] using h
def AQm (m:Nat) (F:AAb):Prop:=(0 < F 0 0/\F 0 0 < 65536)/\ ∀ i,1<=i->i < m->2 * F i 0<=F 0 0/\ -2 * F i 0<=F 0 0
instance (m:Nat) (F:AAb):Decidable (AQm m F):=by
  unfold AQm
  have:Decidable (∀ i,1<=i->i < m->2 * F i 0<=F 0 0/\ -2 * F i 0<=F 0 0):=
    decidable_of_iff (∀ i,i < m->1<=i->2 * F i 0<=F 0 0/\ -2 * F i 0<=F 0 0) ⟨fun h i a b=>h i b a,fun h i a b=>h i b a⟩
  infer_instance
def AR3 (F:AAb) (last:Int):AAb:=fun i j=>(F 0 0 * F (i + 1) (j + 1) - F (i + 1) 0 * F 0 (j + 1)).tdiv last
def AWg (F:AAb) (last:Int):Prop:=3 * F 0 0 * F 0 0<=4 * (last * AR3 F last 0 0 + F 1 0 * F 1 0)
instance (F:AAb) (last:Int):Decidable (AWg F last):=by unfold AWg;infer_instance
def AQn:Nat->(AAb)->Int->Bool
  | 0,_,_=>false
  | 1,F,_=>decide (0 < F 0 0/\F 0 0<=10000)
  | m + 2,F,last=>decide (AQm (m + 2) F) && (decide (AWg F last) && AQn (m + 1) (AR3 F last) (F 0 0))
noncomputable def isRed (M:List (List Int)):Bool:=AL1 M && AQn M.length (ent M) 1
structure Stg (m:Nat) (F:AAb) (last:Int) (K:Int):Prop where
  sym:∀ i j,i < m->j < m->F i j=F j i
  bd:∀ i j,i < m->j < m->Abs (F i j) (last * K)
  l1:1<=last
  l2:last<=65535
theorem Af3 {m:Nat} {F:AAb} {last K:Int} (H:Stg (m + 1) F last K) (hK:0<=K) (hs:AQm (m + 1) F):Stg m (AR3 F last) (F 0 0) (K + 16384):=by
 have hd:=hs.1
 have hcol:∀ i,i < m->Abs (2 * F (i + 1) 0) (F 0 0):=fun i hi=>by
   have:=hs.2 (i + 1) Zj Zj
   exact ⟨Zj,Zj⟩
 refine ⟨fun i j hi hj=>?_,fun i j hi hj=>?_,Zj,Zj⟩
 ·unfold AR3;rw [H.sym (i + 1) (j + 1) Zj Zj,H.sym (i + 1) 0 Zj Zj,H.sym 0 (j + 1) Zj Zj,Int.mul_comm (F 0 (i + 1))]
 ·unfold AR3;refine Aou (by have:=H.l1;omega) ?_;have h1:Abs (F 0 0 * F (i + 1) (j + 1)) (F 0 0 * (last * K)):=AV5 ⟨Zj,Zj⟩ (H.bd _ _ Zj Zj)
  have h2:Abs (2 * F (i + 1) 0 * (2 * F 0 (j + 1))) (F 0 0 * F 0 0):=by
    refine AV5 (hcol i hi) ?_
    rw [H.sym 0 (j + 1) Zj Zj];exact hcol j hj
  have h3:0<=F 0 0 * (65536 - F 0 0):=Int.mul_nonneg Zj Zj;have h4:0<=F 0 0 * (last - 1):=Int.mul_nonneg Zj (by have:=H.l1;omega);unfold Abs at *;have e1:2 * F (i + 1) 0 * (2 * F 0 (j + 1))=4 * (F (i + 1) 0 * F 0 (j + 1)):=by grind
  rw [e1] at h2;have e2:last * (F 0 0 * (K + 16384))=F 0 0 * (last * K) + 16384 * (F 0 0 * last):=by grind
  rw [e2];have e3:F 0 0 * (65536 - F 0 0)=65536 * F 0 0 - F 0 0 * F 0 0:=by grind
  have e4:F 0 0 * (last - 1)=F 0 0 * last - F 0 0:=by grind
  rw [e3] at h3;rw [e4] at h4;omega
theorem Ak8 {M:List (List Int)} (h:Abf M):Stg M.length (ent M) 1 262144:=by
 refine ⟨fun i j hi hj=>(h.2.2 i j hi hj).1,fun i j hi hj=>?_,Zj,Zj⟩;have:=h.2.2 i j hi hj;unfold Abs;omega
theorem APr {m:Nat} {F:AAb} {last:Int} (h:2<=m) (hs: ¬ AQm m F):AQn m F last=false:=by
 obtain ⟨n,rfl⟩:∃ n,m=n + 2:=⟨m - 2,Zj⟩;unfold AQn;rw [decide_eq_false hs];rfl
theorem ATl {m:Nat} {F:AAb} {last:Int} (h:2<=m) (hs: ¬ AWg F last):AQn m F last=false:=by
 obtain ⟨n,rfl⟩:∃ n,m=n + 2:=⟨m - 2,Zj⟩;unfold AQn;rw [decide_eq_false hs,Bool.false_and,Bool.and_false]
theorem Ak9 {m:Nat} {F:AAb} {last:Int} (h:2<=m) (hs:AQm m F) (hl:AWg F last):AQn m F last=AQn (m - 1) (AR3 F last) (F 0 0):=by
 obtain ⟨n,rfl⟩:∃ n,m=n + 2:=⟨m - 2,Zj⟩;rw [AQn,decide_eq_true hs,decide_eq_true hl];rfl
theorem AZ4 {m:Nat} {F:AAb} {last K:Int} (H:Stg m F last K) (hK0:0<=K) (hK:K<=393216) {i j:Nat} (hi:i < m) (hj:j < m):Abs (F i j) 34359738368:=by
  have h1:=H.bd i j hi hj;have h2:=(AWs (a:=last) (b:=K) (A:=65535) (B:=393216) (by have:=H.l1;omega) H.l2 hK0 hK).2;unfold Abs at *;omega
end Go.QF
namespace Go.Proofs.YtdkldlbgcfpglaaGreatDoor
open Go Go.QF
set_option maxRecDepth 100000
theorem ALk {α:Type} {c:Nat} {g:Nat->α} {q:Nat} (hq:q < c):((List.range c).map g)[q]? =some (g q):=by simp [hq]
section
variable {P:Program} {B:Zv->Prop} {st:Bool} {ops:Array Oper} {rest:List Oper} {e:Env} {h:Zv} {K:Env->Zv->Prop}
variable {d:Nat} {ty:TypeId} {pos:String} {af:Array Edge}
end
end Go.Proofs.YtdkldlbgcfpglaaGreatDoor
namespace Go.Proofs.YtdkldlbgcfpglaaGreatDoor
open Go Go.QF
set_option maxRecDepth 100000
theorem Ah2 {h:Zv} {v:Value} {M:List (List Int)} (HM:Mat h v M):AAw Tryz.prog 71 #[v] h fun x h'=>h'=h/\x= .bool (AL1 M):=by
 refine ABe (l:=[_]) mx Tryz.func71 rfl rfl rfl rfl rfl Zy (Zo (AA5 (Zk (AYn AAg rfl HM (Zu (Zp (Zo (Zk (AEl rfl rfl (fun Ab=>?_) (fun Ab=>?_))))))))))
 ·refine Zk (ABk 14 true Zy rfl rfl (ABk 14 true Zy rfl rfl (AAa rfl (Zs (AAr rfl (Zo (Zu (Zx (AAd (⟨_,Zz,?_⟩))))))))))
  first
    | exact ⟨rfl,congrArg Value.bool (ADz fun hh=>by have:=hh.1;omega)⟩
    | exact ⟨rfl,congrArg Value.bool (ADz fun hh=>by have:=hh.2.1 M[i] (List.getElem_mem _);omega)⟩
    | exact ⟨rfl,congrArg Value.bool (ADz fun hh=>by have:=hh.2.2 a b Zj Zj;omega)⟩
    | exact ⟨rfl,congrArg Value.bool (AHa ⟨⟨Zj,Zj⟩,hrows,fun x y hx hy=>hall x y Zj hy⟩)⟩
 ·refine Zk (ABs 14 false Zy rfl rfl (Zk (ABs 14 false Zy rfl rfl (ARb rfl rfl (fun Ac=>?_) (fun Ac=>?_)))))
  ·refine Z1 rfl (Zs (AAr rfl (Zo (Zu (Zx (AAd (⟨_,Zz,?_⟩)))))))
   first
     | exact ⟨rfl,congrArg Value.bool (ADz fun hh=>by have:=hh.1;omega)⟩
     | exact ⟨rfl,congrArg Value.bool (ADz fun hh=>by have:=hh.2.1 M[i] (List.getElem_mem _);omega)⟩
     | exact ⟨rfl,congrArg Value.bool (ADz fun hh=>by have:=hh.2.2 a b Zj Zj;omega)⟩
     | exact ⟨rfl,congrArg Value.bool (AHa ⟨⟨Zj,Zj⟩,hrows,fun x y hx hy=>hall x y Zj hy⟩)⟩
  ·refine Z1 rfl (Zs (AAy rfl (Zw (q_t (Zp (Zo (Zk (AYn AAg rfl HM (Zk (Zs (Zt (AFj 535822372 (fun i:Nat=>[(20,.int .i64 (i:Int))]) (fun k i h'=>h'=h/\k=M.length - i/\i<=M.length/\ ∀ j (hj:j < M.length),j < i->M[j].length=M.length) Zy M.length 0 ?_ ⟨rfl,trivial⟩ ?_))))))))))))
   ·exact ⟨rfl,rfl,Nat.zero_le _,fun j _ hj=>by omega⟩
   rintro k i s1 h ⟨rfl,rfl,hi,hrow⟩;refine Zo (AEl rfl rfl (fun Ad=>?_) (fun Ad=>?_))
   ·refine Zs (Zp (AAr rfl (Zw (q_t (Zp (Zt (Zo (AU9 AAg rfl HM rfl (List.getElem?_eq_getElem Zj) fun aR rR haR hrR=>?_))))))));refine AA7 AA3 rfl haR (AA5 (Zk (Amf AAi rfl hrR (Zk (Ace rfl rfl (fun Ae=>?_) (fun Ae=>?_))))))
    ·refine Zs (AAr rfl (Zo (Zu (Zx (ABg (AAd (AAd (ABg (AAd (⟨_,Zz,?_⟩))))))))))
     first
       | exact ⟨rfl,congrArg Value.bool (ADz fun hh=>by have:=hh.1;omega)⟩
       | exact ⟨rfl,congrArg Value.bool (ADz fun hh=>by have:=hh.2.1 M[i] (List.getElem_mem _);omega)⟩
       | exact ⟨rfl,congrArg Value.bool (ADz fun hh=>by have:=hh.2.2 a b Zj Zj;omega)⟩
       | exact ⟨rfl,congrArg Value.bool (AHa ⟨⟨Zj,Zj⟩,hrows,fun x y hx hy=>hall x y Zj hy⟩)⟩
    ·refine Zs (AAy rfl (Zw (q_b (q_t (AAc (AJ4 rfl Zj (Zk (Zs ?_))))))));exact ⟨M.length - (i + 1),i + 1,Zj,⟨rfl,rfl,Zj,fun j hj Af=>by rcases Nat.lt_succ_iff_lt_or_eq.1 Af with q | rfl;exact hrow j hj q;omega⟩,rfl,trivial⟩
   ·refine Zs (Zp (AAy rfl (AAj (AAk (AAk (ABm (q_t (Zp (Zp ?_)))))))));have hrows:∀ z∈M,z.length=M.length:=fun z hz=>by obtain ⟨j,hj,rfl⟩:=List.getElem_of_mem hz;exact hrow j hj Zj
    have Aa:Mat h v (tab M.length M.length (ent M)):=(AYp hrows) ▸ HM;refine AAc (Zk (AYn AAg rfl Aa ?_));rw [AAt];refine Zk (Zs (Zt (AFj 4611686016279905220 (fun a:Nat=>[(31,.int .i64 (a:Int))]) (fun k a h'=>h'=h/\k=M.length - a/\a<=M.length/\ ∀ x y,x < a->y < M.length->ent M x y=ent M y x/\ -262144 < ent M x y/\ent M x y < 262144) Zy M.length 0 ?_ ⟨rfl,trivial⟩ ?_)))
    ·exact ⟨rfl,rfl,Nat.zero_le _,fun x y hx=>by omega⟩
    rintro k a s2 h ⟨rfl,rfl,ha,hall⟩;refine Zo (AEl rfl rfl (fun Ag=>?_) (fun Ag=>?_))
    ·refine Zs (Zp (AAr rfl (Zw (q_t (Zp (Zt (Zo (Zk (AU9 AAg rfl Aa rfl (AHc Zj) fun aS rS haS hrS=>AA7 AA3 rfl haS (AAn (AA5 (Zk (Amf AAi rfl hrS ?_)))))))))))));rw [List.length_map,List.length_range];refine Zk (Zs (Zt (AFj 2305842734335787780 (fun b:Nat=>[(38,.int .i64 (b:Int))]) (fun k b h'=>h'=h/\k=M.length - b/\b<=M.length/\ ∀ y,y < b->ent M a y=ent M y a/\ -262144 < ent M a y/\ent M a y < 262144) Zy M.length 0 ?_ ⟨rfl,trivial⟩ ?_)))
     ·exact ⟨rfl,rfl,Nat.zero_le _,fun y hy=>by omega⟩
     rintro k b s3 h ⟨rfl,rfl,hb,hrw⟩;refine Zo (AEl rfl rfl (fun Ah=>?_) (fun Ah=>?_))
     ·refine Zs (Zp (AAr rfl (Zw (q_t (Zp (Zt (Zo (Zk (AS8 AAi rfl hrS rfl (ALk Zj) fun Aq Ai=>AA7 AAl rfl Ai (AAn (AA5 (Zk (Zk (Zk (AU9 AAg rfl Aa rfl (AHc Zj) fun aT rT haT hrT=>?_)))))))))))))));refine AA7 AA3 rfl haT (Zk (AS8 AAi rfl hrT rfl (ALk Zj) fun Ar Aj=>AA7 AAl rfl Aj (Ace rfl rfl (fun Ak=>?_) (fun Ak=>?_))))
      ·refine Zk (ABk 52 true Zy rfl rfl (ABk 52 true Zy rfl rfl (AAa rfl (Zk (ABk 56 true Zy rfl rfl (ABk 56 true Zy rfl rfl (AAa rfl (Zs (AAr rfl (Zo (Zu (Zx (ABg (AAd (AAd (ABg (ABg (AAd (AAd (ABg (AAd (⟨_,Zz,?_⟩))))))))))))))))))))))
       first
         | exact ⟨rfl,congrArg Value.bool (ADz fun hh=>by have:=hh.1;omega)⟩
         | exact ⟨rfl,congrArg Value.bool (ADz fun hh=>by have:=hh.2.1 M[i] (List.getElem_mem _);omega)⟩
         | exact ⟨rfl,congrArg Value.bool (ADz fun hh=>by have:=hh.2.2 a b Zj Zj;omega)⟩
         | exact ⟨rfl,congrArg Value.bool (AHa ⟨⟨Zj,Zj⟩,hrows,fun x y hx hy=>hall x y Zj hy⟩)⟩
      ·refine Zk (ABs 52 false Zy rfl rfl (Zk (ABs 52 false Zy rfl rfl (AS6 rfl rfl (fun Am=>?_) (fun Am=>?_)))))
       ·refine Z1 rfl (Zk (ABk 56 true Zy rfl rfl (ABk 56 true Zy rfl rfl (AAa rfl (Zs (AAr rfl (Zo (Zu (Zx (ABg (AAd (AAd (ABg (ABg (AAd (AAd (ABg (AAd (⟨_,Zz,?_⟩)))))))))))))))))))
        first
          | exact ⟨rfl,congrArg Value.bool (ADz fun hh=>by have:=hh.1;omega)⟩
          | exact ⟨rfl,congrArg Value.bool (ADz fun hh=>by have:=hh.2.1 M[i] (List.getElem_mem _);omega)⟩
          | exact ⟨rfl,congrArg Value.bool (ADz fun hh=>by have:=hh.2.2 a b Zj Zj;omega)⟩
          | exact ⟨rfl,congrArg Value.bool (AHa ⟨⟨Zj,Zj⟩,hrows,fun x y hx hy=>hall x y Zj hy⟩)⟩
       ·refine Z1 rfl (Zk (ABs 56 false Zy rfl rfl (Zk (ABs 56 false Zy rfl rfl (AU8 rfl rfl (fun Ao=>?_) (fun Ao=>?_))))))
        ·refine Z1 rfl (Zs (AAr rfl (Zo (Zu (Zx (ABg (AAd (AAd (ABg (ABg (AAd (AAd (ABg (AAd (⟨_,Zz,?_⟩)))))))))))))))
         first
           | exact ⟨rfl,congrArg Value.bool (ADz fun hh=>by have:=hh.1;omega)⟩
           | exact ⟨rfl,congrArg Value.bool (ADz fun hh=>by have:=hh.2.1 M[i] (List.getElem_mem _);omega)⟩
           | exact ⟨rfl,congrArg Value.bool (ADz fun hh=>by have:=hh.2.2 a b Zj Zj;omega)⟩
           | exact ⟨rfl,congrArg Value.bool (AHa ⟨⟨Zj,Zj⟩,hrows,fun x y hx hy=>hall x y Zj hy⟩)⟩
        ·refine Z1 rfl (Zs (AAy rfl (Zw (q_b (q_t (AAc (AJ4 rfl Zj (Zk (Zs ?_)))))))));exact ⟨M.length - (b + 1),b + 1,Zj,⟨rfl,rfl,Zj,fun y hy=>by rcases Nat.lt_succ_iff_lt_or_eq.1 hy with q | rfl;exact hrw y q;exact ⟨Zj,Zj,Zj⟩⟩,rfl,trivial⟩
     ·refine Zs (Zp (AAy rfl (AAj (AAk (AAk (ABm (q_b (q_t (AAc (AJ4 rfl Zj (Zk (Zs ?_))))))))))));exact ⟨M.length - (a + 1),a + 1,Zj,⟨rfl,rfl,Zj,fun x y hx hy=>by rcases Nat.lt_succ_iff_lt_or_eq.1 hx with q | rfl;exact hall x y q hy;exact hrw y Zj⟩,rfl,trivial⟩
    ·refine Zs (Zp (AAy rfl (AAj (AAk (AAk (ABm (q_t (Zo (Zu (Zx (⟨_,Zz,?_⟩)))))))))))
     first
       | exact ⟨rfl,congrArg Value.bool (ADz fun hh=>by have:=hh.1;omega)⟩
       | exact ⟨rfl,congrArg Value.bool (ADz fun hh=>by have:=hh.2.1 M[i] (List.getElem_mem _);omega)⟩
       | exact ⟨rfl,congrArg Value.bool (ADz fun hh=>by have:=hh.2.2 a b Zj Zj;omega)⟩
       | exact ⟨rfl,congrArg Value.bool (AHa ⟨⟨Zj,Zj⟩,hrows,fun x y hx hy=>hall x y Zj hy⟩)⟩
theorem Aov {m:Nat} {F:AAb}:(tab m m F).drop 1=tab (m - 1) m fun i j=>F (i + 1) j:=by
 refine List.ext_getElem (by simp [tab]) fun i h1 h2=>?_;simp [tab,Nat.add_comm]
theorem Abh {h:Zv} {v:Value} {m:Nat} {F:AAb} (HM:Mat h v (tab m m F)) (hcap:ANx v) (hm:1<=m) (Au:m<=8) (hfit:∀ i,i < m->Abs (F i 0) 34359738368):AAw Tryz.prog 72 #[v] h fun x h'=>h'=h/\x= .bool (decide (AQm m F)):=by
 refine ABe (l:=[_]) mx Tryz.func72 rfl rfl rfl rfl rfl Zy (Zo (AA5 (Zk (AU9 (n:=0) AAg rfl HM rfl (AHc Zj) fun Av Aw Ad Ae=>AA7 AA3 rfl Ad (AS8 (n:=0) AAi rfl Ae rfl (ALk Zj) fun Ax Af=>AA7 AAl rfl Af (Zu (Zp (Zo (Zk (AS6 rfl rfl (fun Ag=>?_) (fun Ag=>?_)))))))))))
 ·refine Zk (ABk 13 true Zy rfl rfl (ABk 13 true Zy rfl rfl (AAa rfl (Zs (AAr rfl (Zo (Zu (Zx (AAd (⟨_,Zz,?_⟩))))))))))
  first
    | exact ⟨rfl,congrArg Value.bool (decide_eq_false (fun hh=>by have:=hh.1;omega)).symm⟩
    | exact ⟨rfl,congrArg Value.bool (decide_eq_false (fun hh=>by have:=hh.2 (i + 1) Zj Zj;omega)).symm⟩
    | exact ⟨rfl,congrArg Value.bool (decide_eq_true ⟨⟨Zj,Zj⟩,fun j h1 h2=>hall j h1 Zj⟩).symm⟩
 ·refine Zk (ABs 13 false Zy rfl rfl (Zk (ABs 13 false Zy rfl rfl (AU8 rfl rfl (fun Ah=>?_) (fun Ah=>?_)))))
  ·refine Z1 rfl (Zs (AAr rfl (Zo (Zu (Zx (AAd (⟨_,Zz,?_⟩)))))))
   first
     | exact ⟨rfl,congrArg Value.bool (decide_eq_false (fun hh=>by have:=hh.1;omega)).symm⟩
     | exact ⟨rfl,congrArg Value.bool (decide_eq_false (fun hh=>by have:=hh.2 (i + 1) Zj Zj;omega)).symm⟩
     | exact ⟨rfl,congrArg Value.bool (decide_eq_true ⟨⟨Zj,Zj⟩,fun j h1 h2=>hall j h1 Zj⟩).symm⟩
  ·refine Z1 rfl (Zs (AAy rfl (Zw (q_t (Zp (Zo (Zk (Akr (k:=1) AAg rfl HM hcap rfl (by rw [AAt];omega) fun v1 Ai Ay=>?_))))))));have HD:Mat h v1 (tab (m - 1) m fun i j=>F (i + 1) j):=Aov (m:=m) ▸ Ai;refine AYn AAg rfl HD ?_;rw [AAt];refine Zk (Zs (Zt (AFj 549754765348 (fun i:Nat=>[(20,.int .i64 (i:Int))]) (fun k i h'=>h'=h/\k=m - 1 - i/\i<=m - 1/\ ∀ j,1<=j->j < i + 1->2 * F j 0<=F 0 0/\ -2 * F j 0<=F 0 0) Zy (m - 1) 0 ?_ ⟨rfl,trivial⟩ ?_)))
   ·exact ⟨rfl,rfl,Nat.zero_le _,fun j h1 h2=>by omega⟩
   rintro k i s1 h ⟨rfl,rfl,hi,hall⟩;refine Zo (AEl rfl rfl (fun Aj=>?_) (fun Aj=>?_))
   ·refine Zs (Zp (AAr rfl (Zw (q_t (Zp (Zt (Zo (AU9 AAg rfl HD rfl (AHc Zj) fun Az A3 Ak Ac=>AA7 AA3 rfl Ak (Zu (Zp ?_))))))))));have Am:=hfit (i + 1) Zj;unfold Abs at Am;refine AAc (Zk (AS8 (n:=0) AAi rfl Ac rfl (ALk Zj) fun A4 Ao=>AA7 AAl rfl Ao (AOa rfl rfl Zj Zj (Zk (ARb rfl rfl (fun Ap=>?_) (fun Ap=>?_))))))
    ·refine Zk (ABk 30 true Zy rfl rfl (ABk 30 true Zy rfl rfl (ABk 30 true Zy rfl rfl (ABk 30 true Zy rfl rfl (ABk 30 true Zy rfl rfl (ABk 30 true Zy rfl rfl (AAa rfl (Zs (AAr rfl (Zo (Zu (Zx (ABg (AAd (AAd (ABg (AAd (⟨_,Zz,?_⟩))))))))))))))))))
     first
       | exact ⟨rfl,congrArg Value.bool (decide_eq_false (fun hh=>by have:=hh.1;omega)).symm⟩
       | exact ⟨rfl,congrArg Value.bool (decide_eq_false (fun hh=>by have:=hh.2 (i + 1) Zj Zj;omega)).symm⟩
       | exact ⟨rfl,congrArg Value.bool (decide_eq_true ⟨⟨Zj,Zj⟩,fun j h1 h2=>hall j h1 Zj⟩).symm⟩
    ·refine Zk (ABs 30 false Zy rfl rfl (Zk (ABs 30 false Zy rfl rfl (AS8 (n:=0) AAi rfl Ac rfl (ALk Zj) fun A5 Aq=>ABs 30 false Zy rfl rfl (AA7 AAl rfl Aq (ABs 30 false Zy rfl rfl (AOa rfl rfl Zj Zj (ABs 30 false Zy rfl rfl (Zk (ABs 30 false Zy rfl rfl (ARb rfl rfl (fun Ar=>?_) (fun Ar=>?_))))))))))))
     ·refine Z1 rfl (Zs (AAr rfl (Zo (Zu (Zx (ABg (AAd (AAd (ABg (AAd (⟨_,Zz,?_⟩)))))))))))
      first
        | exact ⟨rfl,congrArg Value.bool (decide_eq_false (fun hh=>by have:=hh.1;omega)).symm⟩
        | exact ⟨rfl,congrArg Value.bool (decide_eq_false (fun hh=>by have:=hh.2 (i + 1) Zj Zj;omega)).symm⟩
        | exact ⟨rfl,congrArg Value.bool (decide_eq_true ⟨⟨Zj,Zj⟩,fun j h1 h2=>hall j h1 Zj⟩).symm⟩
     ·refine Z1 rfl (Zs (AAy rfl (Zw (q_b (q_t (AAc (AJ4 rfl Zj (Zk (Zs ?_)))))))));exact ⟨m - 1 - (i + 1),i + 1,Zj,⟨rfl,rfl,Zj,fun j h1 h2=>by rcases Nat.lt_succ_iff_lt_or_eq.1 h2 with q | rfl;exact hall j h1 q;exact ⟨Zj,Zj⟩⟩,rfl,trivial⟩
   ·refine Zs (Zp (AAy rfl (AAj (AAk (AAk (ABm (q_t (Zo (Zu (Zx (⟨_,Zz,?_⟩)))))))))))
    first
      | exact ⟨rfl,congrArg Value.bool (decide_eq_false (fun hh=>by have:=hh.1;omega)).symm⟩
      | exact ⟨rfl,congrArg Value.bool (decide_eq_false (fun hh=>by have:=hh.2 (i + 1) Zj Zj;omega)).symm⟩
      | exact ⟨rfl,congrArg Value.bool (decide_eq_true ⟨⟨Zj,Zj⟩,fun j h1 h2=>hall j h1 Zj⟩).symm⟩
theorem Aeb {h:Zv} {v:Value} {M:List (List Int)} (HM:Mat h v M) (hcap:ANx v):AAw Tryz.prog 36 #[v] h fun x h'=>Ext h h'/\x= .bool (isRed M):=by
 refine ABe (l:=[_]) mx Tryz.func36 rfl rfl rfl rfl rfl Zy (Zo (Zu (Zp (Zo (Zk (AA0 trivial rfl (Ah2 HM) fun x1 h hk=>?_))))));obtain ⟨rfl,rfl⟩:=hk;refine ⟨trivial,?_⟩;cases Au:AL1 M
 ·refine ACr rfl (Zs (AAr rfl (Zo (Zu (Zx (AAd (⟨_,Zz,?_⟩)))))))
  first
    | exact ⟨(Ext.refl _),congrArg Value.bool (show false=isRed M by unfold isRed;rw [show AL1 M=false by assumption];rfl)⟩
    | exact ⟨(Ext.refl _),congrArg Value.bool (show false=isRed M by unfold isRed;rw [hred,APr Zj (of_decide_eq_false (by assumption)),Bool.and_false])⟩
    | exact ⟨(Ext.refl _),congrArg Value.bool (show false=isRed M by unfold isRed;rw [hred,ATl Zj (by unfold AWg;omega),Bool.and_false])⟩
    | (obtain rfl:m=1:=by omega
       first
       | exact ⟨(Ext.refl _),congrArg Value.bool (show true=isRed M by unfold isRed;rw [hred,<- AHa hsm,AQn,decide_eq_true ⟨Zj,Zj⟩];rfl)⟩
       | exact ⟨(Ext.refl _),congrArg Value.bool (show false=isRed M by unfold isRed;rw [hred,AQn,decide_eq_false Zj,Bool.and_false])⟩)
 ·refine ACr rfl (Zs (AAy rfl (Zw (q_t (Zo (Zk (AA5 (Zu (Zp (Zt ?_))))))))));have hsm:=Abg Au;have Av:=Ak8 hsm;have Aw:Mat h v (tab M.length M.length (ent M)):=(AYp hsm.2.1) ▸ HM;refine AFj 20282409603651670423947251255292 (fun y:Nat × Value × Int × (AAb)=>[(3,y.2.1),(4,.int .i64 y.2.2.1)]) (fun k y h'=>y.1=k/\Ext h h'/\1<=y.1/\y.1<=M.length/\Mat h' y.2.1 (tab y.1 y.1 y.2.2.2)/\ANx y.2.1/\Stg y.1 y.2.2.2 y.2.2.1 (262144 + 16384 * (M.length - y.1))/\AQn M.length (ent M) 1=AQn y.1 y.2.2.2 y.2.2.1) Zy M.length (M.length,v,1,ent M) ?_ ⟨rfl,rfl,trivial⟩ ?_
  ·exact ⟨rfl,Ext.refl _,hsm.1.1,Nat.le_refl _,Aw,hcap,by have e0:(262144 + 16384 * ((M.length:Int) - (M.length:Int)))=262144:=Zj;rw [e0];exact Av,rfl⟩
  rintro k ⟨m,vs,last,F⟩ s1 hq ⟨rfl,XQ,Ay,hmn,HS,Aj,hstg,hred⟩;dsimp only at Ay hmn HS Aj hstg hred ⊢;have h8:=hsm.1.2;have B7:=hstg.l1;have B8:=hstg.l2;have szq:=XQ.1;refine Zp (Zo (Zk (AYn AAg rfl HS ?_)));rw [AAt];refine ARb rfl rfl (fun Az=>?_) (fun Az=>?_)
  ·refine Zs (AAr rfl (Zw (q_t (Zt (Zo (Zk (AU9 (n:=0) AAg rfl HS rfl (AHc Zj) fun B9 Ca A3 A4=>AA7 AA3 rfl A3 (AS8 (n:=0) AAi rfl A4 rfl (ALk Zj) fun Cb A5=>AA7 AAl rfl A5 (Zu (Zp (Zo (Zk (AA0 trivial rfl (Abh HS Aj Zj Zj (fun i hi=>AZ4 hstg Zj Zj hi Zj)) fun x4 hq hk=>?_)))))))))))));obtain ⟨rfl,rfl⟩:=hk;refine ⟨trivial,?_⟩;cases Ce:decide (AQm m F)
   ·refine ACr rfl (Zs (AAr rfl (Zo (Zu (Zx (AAd (ABg (AAd (ABg (AAd (⟨_,Zz,?_⟩)))))))))))
    first
      | exact ⟨XQ,congrArg Value.bool (show false=isRed M by unfold isRed;rw [show AL1 M=false by assumption];rfl)⟩
      | exact ⟨XQ,congrArg Value.bool (show false=isRed M by unfold isRed;rw [hred,APr Zj (of_decide_eq_false (by assumption)),Bool.and_false])⟩
      | exact ⟨XQ,congrArg Value.bool (show false=isRed M by unfold isRed;rw [hred,ATl Zj (by unfold AWg;omega),Bool.and_false])⟩
      | (obtain rfl:m=1:=by omega
         first
         | exact ⟨XQ,congrArg Value.bool (show true=isRed M by unfold isRed;rw [hred,<- AHa hsm,AQn,decide_eq_true ⟨Zj,Zj⟩];rfl)⟩
         | exact ⟨XQ,congrArg Value.bool (show false=isRed M by unfold isRed;rw [hred,AQn,decide_eq_false Zj,Bool.and_false])⟩)
   ·refine ACr rfl (Zs (AAy rfl (Zw (q_t (Zo (Zk (AYn AAg rfl HS ?_)))))));rw [AAt];have hsh:AQm m F:=of_decide_eq_true (by assumption);refine AM1 rfl rfl Zj Zj ?_;rw [show ((m:Nat):Int) - 1=((m - 1:Nat):Int) by omega];refine Av0 (ei:=tI) AAg AMl (fun _=>trivial) rfl rfl Zl Zj fun b2 v2 h2 Ak E2 Cg hl2b=>?_;have Ch:=E2.1;have Z6:=(Ext.refl hq).trans E2;have X7:=XQ.trans E2;have HS_8:=HS.ext E2;refine Zu (Zp (Zo (Zk (Ag9 AAg rfl Ak.1 (Zk (Zs (Zt (AFj 1208925819614624879739776 (fun i:Nat=>[(32,.int .i64 (i:Int))]) (fun k i h'=>k=m - 1 - i/\i<=m - 1/\Ext hq h'/\ ∃ gs,AP4 h' tR tI (Array.size hq) b2 gs v2 (m - 1) ((List.range i).map (fun i=>(List.range (m - 1)).map fun j=>AR3 F last i j))) Zy (m - 1) 0 ?_ ⟨rfl,trivial⟩ ?_))))))))
    ·exact ⟨rfl,Nat.zero_le _,E2,[],Ak⟩
    rintro k i s2 h3 ⟨rfl,hi,E3,gs,HP⟩;have X9:=XQ.trans E3;have Ck:=E3.1;have HS_11:=HS.ext E3;refine Zo (AEl rfl rfl (fun A7=>?_) (fun A7=>?_))
    ·refine Zs (Zp (AAr rfl (Zw (q_t (Zp (Zt (Zo (Zk (AA5 (Zk (Zk (AJ4 rfl Zj (Atp AAg rfl HS E3 rfl (AHc Zj) fun aR rR haR hrR=>AA7 AA3 rfl haR (Zu ?_))))))))))))));refine Zo (Zk (Zk (Zk (Ag9 AAg rfl HP.1 (Av1 AAi AI0 (fun _=>trivial) rfl rfl Zl Zj fun g4 v4 h4 A8 E4 Cn Co=>?_)))));have Cp:=E4.1;have A9:=E3.trans E4;have Ba:=X9.trans E4;have HS_15:=HS_11.ext E4;have HP_16:=HP.ext E4;refine Aqj AAg rfl HP_16 rfl Zj ?_;have hglt:=HP.1.lt;have hblo:=HP.2 b2 (List.mem_cons_self ..);refine Aqk AA3 rfl rfl HP_16 AA4 Zj A8 (fun hc=>by have:=hglt _ hc;omega) Zj fun h4b HPb U4=>?_;have Cq:=U4.1;have Cr:=Ba.thenUpd U4 (fun k hk=>by have Ah:k=b2:=hk;omega);have Ao:=A9.thenUpd U4 (fun k hk=>by have Ah:k=b2:=hk;omega);have HS_20:=HS.ext Ao;refine AId (Zk (Ag9 AAg rfl HPb.1 (Zk (Zs (Zt (AFj 604462909525839610642944 (fun j:Nat=>[(48,.int .i64 (j:Int))]) (fun k j h'=>k=m - 1 - j/\j<=m - 1/\Ext hq h'/\AP4 h' tR tI (Array.size hq) b2 (gs ++ [g4]) v2 (m - 1) ((List.range i).map (fun i=>(List.range (m - 1)).map fun j=>AR3 F last i j) ++ [AZp (m - 1) (AR3 F last i) (fun _=>0) j])) Zy (m - 1) 0 ?_ ⟨rfl,trivial⟩ ?_))))))
     ·exact ⟨rfl,Nat.zero_le _,Ao,by rw [Akn,Ako];exact HPb⟩
     rintro k j s3 h5 ⟨rfl,hj,E5,HQ⟩;have Bb:=XQ.trans E5;have Cv:=E5.1;have HS_23:=HS.ext E5;refine Zo (AEl rfl rfl (fun Bc=>?_) (fun Bc=>?_))
     ·refine Zs (Zp (AAr rfl (Zw (q_t (Zp (Zt (Zo (Zk (Zu ?_)))))))));have hd:=hsh.1;have hfit:=fun i j hi hj=>AZ4 hstg Zj Zj (i:=i) (j:=j) hi hj;have q1:=AV5 (a:=65535) (b:=34359738368) (x:=F 0 0) (y:=F (i + 1) (j + 1)) ⟨Zj,Zj⟩ (hfit _ _ Zj Zj);have q2:=hsh.2 (i + 1) Zj Zj;have q3:=hsh.2 (j + 1) Zj Zj;rw [<- hstg.sym 0 (j + 1) Zj Zj] at q3;have q4:=AV5 (a:=32768) (b:=32768) (x:=F (i + 1) 0) (y:=F 0 (j + 1)) ⟨Zj,Zj⟩ ⟨Zj,Zj⟩;unfold Abs at q1 q4;refine ARa Zy (Zk (Zk (Av2 AAg rfl HQ rfl (Ae8 AA4) fun aQ rQ gQ haQ hgQ hrQ=>?_)));refine AA7 AA3 rfl haQ (Zk (Zk (Zk (Zk (AJ4 rfl Zj (AS8 AAi rfl (hrR.ext E5) rfl (ALk Zj) fun Cw Bi=>AA7 AAl rfl Bi (AOa rfl rfl Zj Zj (Zk (AS8 (n:=0) AAi rfl (hrR.ext E5) rfl (ALk Zj) fun Cx Bj=>AA7 AAl rfl Bj (Zk (AU9 (n:=0) AAg rfl HS_23 rfl (AHc Zj) fun aZ rZ haZ hrZ=>AA7 AA3 rfl haZ (Zk (AJ4 rfl Zj (AS8 AAi rfl hrZ rfl (ALk Zj) fun Cy Bl=>AA7 AAl rfl Bl (AOa rfl rfl Zj Zj (AM1 rfl rfl Zj Zj (Zk (AU5 rfl rfl Zj ?_))))))))))))))))));have hnf:=AZ4 (Af3 (m:=m - 1) (by rw [show m - 1 + 1=m by omega];exact hstg) Zj (by rw [show m - 1 + 1=m by omega];exact hsh)) Zj Zj (i:=i) (j:=j) Zj Zj;unfold Abs at hnf;rw [show IntKind.i64.wrap ((F 0 0 * F (i + 1) (j + 1) - F (i + 1) 0 * F 0 (j + 1)).tdiv last)=AR3 F last i j from Go.QF.wrap_small (by have:(F 0 0 * F (i + 1) (j + 1) - F (i + 1) 0 * F 0 (j + 1)).tdiv last=AR3 F last i j:=rfl;omega) (by have:(F 0 0 * F (i + 1) (j + 1) - F (i + 1) 0 * F 0 (j + 1)).tdiv last=AR3 F last i j:=rfl;omega)];refine AS5 AAi rfl hrQ rfl (by rw [List.length_map,AVc];omega) ?_;refine Aql (AZp (m - 1) (AR3 F last i) (fun _=>0) (j + 1)) AAl rfl rfl HQ hgQ (Ae8 AA4) hrQ (by rw [AVc];omega) (Amp Zj rfl) fun h6 Bm U6 C0=>?_;have C1:=U6.1;have C2:=Bb.thenUpd U6 (fun k hk=>by have Ah:k=gQ:=hk;omega);have Ap:=E5.thenUpd U6 (fun k hk=>by have Ah:k=gQ:=hk;omega);have HS_30:=HS.ext Ap;have Aq:=Bm;rw [Amv AA4] at Aq;refine AAo (q_b (q_t (AAc (AJ4 rfl Zj (Zk (Zs ?_))))));exact ⟨m - 1 - (j + 1),j + 1,Zj,⟨rfl,Zj,Ap,Aq⟩,rfl,trivial⟩
     ·refine Zs (Zp (AAy rfl (AAj (AAk (AAk (ABm (q_b (q_t (AAc (AJ4 rfl Zj (Zk (Zs ?_))))))))))));exact ⟨m - 1 - (i + 1),i + 1,Zj,⟨rfl,Zj,E5,gs ++ [g4],by rw [Amo _ _ Zj] at HQ;rw [<- Ag8];exact HQ⟩,rfl,trivial⟩
    ·refine Zs (Zp (AAy rfl (AAj (AAk (AAk (ABm (q_t (Zp ?_))))))));obtain rfl:i=m - 1:=by omega
     have Ar:AP4 h3 tR tI (Array.size hq) b2 gs v2 (tab (m - 1) (m - 1) (AR3 F last)).length (tab (m - 1) (m - 1) (AR3 F last)):=by rw [AAt];exact HP
     have HN:=Ar.mat;have hcapn:=Ar.cap;have Bn:=Af3 (m:=m - 1) (by rw [show m - 1 + 1=m by omega];exact hstg) Zj (by rw [show m - 1 + 1=m by omega];exact hsh);have hnx:Stg (m - 1) (AR3 F last) (F 0 0) (262144 + 16384 * (M.length - ((m - 1:Nat):Int))):=by rw [show (262144 + 16384 * ((M.length:Int) - ((m - 1:Nat):Int)))=262144 + 16384 * ((M.length:Int) - (m:Int)) + 16384 by omega];exact Bn
     refine AAc (Zk (AU9 (n:=1) AAg rfl HS_11 rfl (AHc Zj) fun C3 C4 Bo Bp=>AA7 AA3 rfl Bo (AS8 (n:=0) AAi rfl Bp rfl (ALk Zj) fun C5 Bq=>AA7 AAl rfl Bq (Zu (Zp (Zp ?_))))));have hd:=hsh.1;have hnf:=AZ4 hnx Zj Zj (i:=0) (j:=0) Zj Zj;have q5:=AV5 (a:=65535) (b:=34359738368) (x:=last) (y:=AR3 F last 0 0) ⟨Zj,Zj⟩ hnf;have q2:=hsh.2 1 Zj Zj;have q6:=AV5 (a:=32768) (b:=32768) (x:=F 1 0) (y:=F 1 0) ⟨Zj,Zj⟩ ⟨Zj,Zj⟩;have q7:=AWs (a:=3 * F 0 0) (b:=F 0 0) (A:=196605) (B:=65535) Zj Zj Zj Zj;unfold Abs at q5 q6;refine AAc (Zk (Zk (AU9 (n:=0) AAg rfl HN rfl (AHc Zj) fun aN rN haN hrN=>AA7 AA3 rfl haN (AS8 (n:=0) AAi rfl hrN rfl (ALk Zj) fun aO haO=>AA7 AAl rfl haO (AOa rfl rfl Zj Zj (Zk (Zk (AOa rfl rfl Zj Zj (Aaf rfl rfl Zj Zj (AOa rfl rfl Zj Zj (Zk (AOa rfl rfl Zj Zj (Zk (AOa rfl rfl Zj Zj (AEl rfl rfl (fun Bu=>?_) (fun Bu=>?_))))))))))))))))
     ·refine Zs (AAr rfl (Zo (Zu (Zx (AAd (ABg (AAd (ABg (AAd (⟨_,Zz,?_⟩))))))))))
      first
        | exact ⟨X9,congrArg Value.bool (show false=isRed M by unfold isRed;rw [show AL1 M=false by assumption];rfl)⟩
        | exact ⟨X9,congrArg Value.bool (show false=isRed M by unfold isRed;rw [hred,APr Zj (of_decide_eq_false (by assumption)),Bool.and_false])⟩
        | exact ⟨X9,congrArg Value.bool (show false=isRed M by unfold isRed;rw [hred,ATl Zj (by unfold AWg;omega),Bool.and_false])⟩
        | (obtain rfl:m=1:=by omega
           first
           | exact ⟨X9,congrArg Value.bool (show true=isRed M by unfold isRed;rw [hred,<- AHa hsm,AQn,decide_eq_true ⟨Zj,Zj⟩];rfl)⟩
           | exact ⟨X9,congrArg Value.bool (show false=isRed M by unfold isRed;rw [hred,AQn,decide_eq_false Zj,Bool.and_false])⟩)
     ·refine Zs (AAy rfl (Zw (q_t ?_)));have hlov:AWg F last:=by unfold AWg;omega
      have hredn:=Ak9 (last:=last) Zj hsh hlov;refine AAc (Zk (Zk (AAn (AAn (AAo (q_b (q_t ?_)))))));exact ⟨m - 1,(m - 1,v2,F 0 0,AR3 F last),by first | omega | (dsimp only;omega),⟨rfl,X9,by first | omega | (dsimp only;omega),by first | omega | (dsimp only;omega),HN,hcapn,hnx,by rw [hred,hredn]⟩,rfl,rfl,trivial⟩
  ·refine Zs (AAy rfl (AAj (AAk (AAk (ABm (q_t (Zo (Zk (AU9 (n:=0) AAg rfl HS rfl (AHc Zj) fun C7 C8 Bv Bw=>AA7 AA3 rfl Bv (AS8 (n:=0) AAi rfl Bw rfl (ALk Zj) fun C9 Bx=>AA7 AAl rfl Bx (ARb rfl rfl (fun By=>?_) (fun By=>?_))))))))))))
   ·refine Zk (ABs 110 true Zy rfl rfl (Zk (ABs 110 true Zy rfl rfl (AU9 (n:=0) AAg rfl HS rfl (AHc Zj) fun Da Db Bz B1=>ABs 110 true Zy rfl rfl (AA7 AA3 rfl Bz (ABs 110 true Zy rfl rfl (AS8 (n:=0) AAi rfl B1 rfl (ALk Zj) fun Dc B3=>ABs 110 true Zy rfl rfl (AA7 AAl rfl B3 (ABs 110 true Zy rfl rfl (AS6 rfl rfl (fun B4=>?_) (fun B4=>?_)))))))))))
    ·refine AAa rfl (Zu (Zx (⟨_,Zz,?_⟩)))
     first
       | exact ⟨XQ,congrArg Value.bool (show false=isRed M by unfold isRed;rw [show AL1 M=false by assumption];rfl)⟩
       | exact ⟨XQ,congrArg Value.bool (show false=isRed M by unfold isRed;rw [hred,APr Zj (of_decide_eq_false (by assumption)),Bool.and_false])⟩
       | exact ⟨XQ,congrArg Value.bool (show false=isRed M by unfold isRed;rw [hred,ATl Zj (by unfold AWg;omega),Bool.and_false])⟩
       | (obtain rfl:m=1:=by omega
          first
          | exact ⟨XQ,congrArg Value.bool (show true=isRed M by unfold isRed;rw [hred,<- AHa hsm,AQn,decide_eq_true ⟨Zj,Zj⟩];rfl)⟩
          | exact ⟨XQ,congrArg Value.bool (show false=isRed M by unfold isRed;rw [hred,AQn,decide_eq_false Zj,Bool.and_false])⟩)
    ·refine AAa rfl (Zu (Zx (⟨_,Zz,?_⟩)))
     first
       | exact ⟨XQ,congrArg Value.bool (show false=isRed M by unfold isRed;rw [show AL1 M=false by assumption];rfl)⟩
       | exact ⟨XQ,congrArg Value.bool (show false=isRed M by unfold isRed;rw [hred,APr Zj (of_decide_eq_false (by assumption)),Bool.and_false])⟩
       | exact ⟨XQ,congrArg Value.bool (show false=isRed M by unfold isRed;rw [hred,ATl Zj (by unfold AWg;omega),Bool.and_false])⟩
       | (obtain rfl:m=1:=by omega
          first
          | exact ⟨XQ,congrArg Value.bool (show true=isRed M by unfold isRed;rw [hred,<- AHa hsm,AQn,decide_eq_true ⟨Zj,Zj⟩];rfl)⟩
          | exact ⟨XQ,congrArg Value.bool (show false=isRed M by unfold isRed;rw [hred,AQn,decide_eq_false Zj,Bool.and_false])⟩)
   ·refine Zk (ABk 110 false Zy rfl rfl (ABk 110 false Zy rfl rfl (ABk 110 false Zy rfl rfl (ABk 110 false Zy rfl rfl (ABk 110 false Zy rfl rfl (ABk 110 false Zy rfl rfl (Z1 rfl (Zu (Zx (⟨_,Zz,?_⟩))))))))))
    first
      | exact ⟨XQ,congrArg Value.bool (show false=isRed M by unfold isRed;rw [show AL1 M=false by assumption];rfl)⟩
      | exact ⟨XQ,congrArg Value.bool (show false=isRed M by unfold isRed;rw [hred,APr Zj (of_decide_eq_false (by assumption)),Bool.and_false])⟩
      | exact ⟨XQ,congrArg Value.bool (show false=isRed M by unfold isRed;rw [hred,ATl Zj (by unfold AWg;omega),Bool.and_false])⟩
      | (obtain rfl:m=1:=by omega
         first
         | exact ⟨XQ,congrArg Value.bool (show true=isRed M by unfold isRed;rw [hred,<- AHa hsm,AQn,decide_eq_true ⟨Zj,Zj⟩];rfl)⟩
         | exact ⟨XQ,congrArg Value.bool (show false=isRed M by unfold isRed;rw [hred,AQn,decide_eq_false Zj,Bool.and_false])⟩)
end Go.Proofs.YtdkldlbgcfpglaaGreatDoor
namespace Go.Proofs.YtdkldlbgcfpglaaGreatDoor
open Go Go.QF
set_option maxRecDepth 100000
open Classical in
noncomputable def AVm (p:Int):Bool:=decide (2 < p/\p<=9973/\Pr p)
theorem AUj {p:Int} (h:2 < p/\p<=9973/\Pr p):true=AVm p:=by simp [AVm,h]
theorem AO9 {p:Int} (h: ¬ (2 < p/\p<=9973/\Pr p)):false=AVm p:=by simp [AVm,h]
theorem Arw {p:Int} (h:AVm p=true):2 < p/\p<=9973/\Pr p:=by simpa [AVm] using h
theorem prB {p:Int} {b:Bool} (h:AK2 p=b) (hp:p<=9973):b=true↔Pr p:=by
 subst h;constructor
 ·intro h;exact (Akh h).2
 ·intro h;exact (AXg Zj h).symm
theorem Arx (p:Int) {h:Zv} (HO:AVa h):AAw Tryz.prog 37 #[.int .i64 p] h fun v h'=>h'=h/\v= .bool (AVm p):=by
 refine ABe (l:=[_]) mx Tryz.func37 rfl rfl rfl rfl rfl Zy (Zo (AA5 (Zk (ARb rfl rfl (fun Aa=>?_) (fun Aa=>?_)))))
 ·refine Zk (ABs 5 true Zy rfl rfl (Zk (ABs 5 true Zy rfl rfl (AS6 rfl rfl (fun Ab=>?_) (fun Ab=>?_)))))
  ·refine AAa rfl (Zk (ABs 9 true Zy rfl rfl (Zk (ABs 9 true Zy rfl rfl (AA0 trivial rfl (As1 p HO) fun x1 h hk=>?_)))));obtain ⟨rfl,rfl⟩:=hk;refine ⟨trivial,?_⟩;cases Ad:AK2 p
   ·refine AAa rfl (Zu (Zx (⟨_,Zz,?_⟩)))
    first
    | exact ⟨rfl,congrArg Value.bool (AO9 (fun hh=>by have:=hh.1;have:=hh.2.1;omega))⟩
    | (have hq:=(prB (by assumption:AK2 p=_) Zj);first | exact ⟨rfl,congrArg Value.bool (AUj ⟨by first | omega | (have:=(hq.1 rfl).1;omega),Zj,hq.1 rfl⟩)⟩ | exact ⟨rfl,congrArg Value.bool (AO9 (fun hh=>by have:=hq.2 hh.2.2;cases this))⟩)
   ·refine AAa rfl (Zu (Zx (⟨_,Zz,?_⟩)))
    first
    | exact ⟨rfl,congrArg Value.bool (AO9 (fun hh=>by have:=hh.1;have:=hh.2.1;omega))⟩
    | (have hq:=(prB (by assumption:AK2 p=_) Zj);first | exact ⟨rfl,congrArg Value.bool (AUj ⟨by first | omega | (have:=(hq.1 rfl).1;omega),Zj,hq.1 rfl⟩)⟩ | exact ⟨rfl,congrArg Value.bool (AO9 (fun hh=>by have:=hq.2 hh.2.2;cases this))⟩)
  ·refine AAa rfl (Zk (ABk 9 false Zy rfl rfl (ABk 9 false Zy rfl rfl (Z1 rfl (Zu (Zx (⟨_,Zz,?_⟩)))))))
   first
   | exact ⟨rfl,congrArg Value.bool (AO9 (fun hh=>by have:=hh.1;have:=hh.2.1;omega))⟩
   | (have hq:=(prB (by assumption:AK2 p=_) Zj);first | exact ⟨rfl,congrArg Value.bool (AUj ⟨by first | omega | (have:=(hq.1 rfl).1;omega),Zj,hq.1 rfl⟩)⟩ | exact ⟨rfl,congrArg Value.bool (AO9 (fun hh=>by have:=hq.2 hh.2.2;cases this))⟩)
 ·refine Zk (ABk 5 false Zy rfl rfl (ABk 5 false Zy rfl rfl (Z1 rfl (Zk (ABk 9 false Zy rfl rfl (ABk 9 false Zy rfl rfl (Z1 rfl (Zu (Zx (⟨_,Zz,?_⟩))))))))))
  first
  | exact ⟨rfl,congrArg Value.bool (AO9 (fun hh=>by have:=hh.1;have:=hh.2.1;omega))⟩
  | (have hq:=(prB (by assumption:AK2 p=_) Zj);first | exact ⟨rfl,congrArg Value.bool (AUj ⟨by first | omega | (have:=(hq.1 rfl).1;omega),Zj,hq.1 rfl⟩)⟩ | exact ⟨rfl,congrArg Value.bool (AO9 (fun hh=>by have:=hq.2 hh.2.2;cases this))⟩)
open Classical in
noncomputable def AFs (p:Int):Bool:=decide (p<=9973/\Pr p)
theorem Small_ok (p:Int) (h:Zv):AAw Tryz.prog 52 #[.int .i64 p] h fun v h'=>h'=h/\v= .bool (AFs p):=by
 refine ABe (l:=[_]) mx Tryz.func52 rfl rfl rfl rfl rfl Zy (Zo (AA5 (Zk (AS6 rfl rfl (fun Aa=>?_) (fun Aa=>?_)))))
 ·refine Zk (ABs 5 true Zy rfl rfl (Zk (ABs 5 true Zy rfl rfl (AA0 trivial rfl (Amr p _) fun x1 h hk=>?_))));obtain ⟨rfl,rfl⟩:=hk;refine ⟨trivial,?_⟩;cases Ac:AK2 p
  ·refine AAa rfl (Zu (Zx (⟨_,Zz,?_⟩)))
   first
   | exact ⟨rfl,congrArg Value.bool (show false=AFs p by simp [AFs];intro hh;omega)⟩
   | (have hq:=(prB (by assumption:AK2 p=_) Zj);first | exact ⟨rfl,congrArg Value.bool (show true=AFs p by simp [AFs];exact ⟨Zj,hq.1 rfl⟩)⟩ | exact ⟨rfl,congrArg Value.bool (show false=AFs p by simp [AFs];intro _ hh;have:=hq.2 hh;cases this)⟩)
  ·refine AAa rfl (Zu (Zx (⟨_,Zz,?_⟩)))
   first
   | exact ⟨rfl,congrArg Value.bool (show false=AFs p by simp [AFs];intro hh;omega)⟩
   | (have hq:=(prB (by assumption:AK2 p=_) Zj);first | exact ⟨rfl,congrArg Value.bool (show true=AFs p by simp [AFs];exact ⟨Zj,hq.1 rfl⟩)⟩ | exact ⟨rfl,congrArg Value.bool (show false=AFs p by simp [AFs];intro _ hh;have:=hq.2 hh;cases this)⟩)
 ·refine Zk (ABk 5 false Zy rfl rfl (ABk 5 false Zy rfl rfl (Z1 rfl (Zu (Zx (⟨_,Zz,?_⟩))))))
  first
  | exact ⟨rfl,congrArg Value.bool (show false=AFs p by simp [AFs];intro hh;omega)⟩
  | (have hq:=(prB (by assumption:AK2 p=_) Zj);first | exact ⟨rfl,congrArg Value.bool (show true=AFs p by simp [AFs];exact ⟨Zj,hq.1 rfl⟩)⟩ | exact ⟨rfl,congrArg Value.bool (show false=AFs p by simp [AFs];intro _ hh;have:=hq.2 hh;cases this)⟩)
theorem Ala (p:Int) (h:Zv):AAw Tryz.prog 18 #[.int .i64 p] h fun v h'=>h'=h/\v= .bool (AVm p):=by
 refine ABe (l:=[_]) mx Tryz.func18 rfl rfl rfl rfl rfl Zy (Zo (AA5 (Zk (Ace rfl rfl (fun Ab=>?_) (fun Ab=>?_)))))
 ·refine Zk (ABs 5 true Zy rfl rfl (Zk (ABs 5 true Zy rfl rfl (AA0 trivial rfl (Small_ok p _) fun x1 h hk=>?_))));obtain ⟨rfl,rfl⟩:=hk;refine ⟨trivial,?_⟩;cases Ad:AFs p
  ·refine AAa rfl (Zu (Zx (⟨_,Zz,?_⟩)))
   first
   | (have hq:AFs p=true:=by assumption
      have Aa:p<=9973/\Pr p:=by simpa [AFs] using hq
      exact ⟨rfl,congrArg Value.bool (AUj ⟨by have:=Aa.2.1;omega,Aa⟩)⟩)
   | (have hq:AFs p=false:=by assumption
      exact ⟨rfl,congrArg Value.bool (AO9 (fun hh=>by
        have Aa: ¬ (p<=9973/\Pr p):=by simpa [AFs] using hq
        exact Aa hh.2))⟩)
   | exact ⟨rfl,congrArg Value.bool (AO9 (fun hh=>by have:=hh.1;omega))⟩
  ·refine AAa rfl (Zu (Zx (⟨_,Zz,?_⟩)))
   first
   | (have hq:AFs p=true:=by assumption
      have Aa:p<=9973/\Pr p:=by simpa [AFs] using hq
      exact ⟨rfl,congrArg Value.bool (AUj ⟨by have:=Aa.2.1;omega,Aa⟩)⟩)
   | (have hq:AFs p=false:=by assumption
      exact ⟨rfl,congrArg Value.bool (AO9 (fun hh=>by
        have Aa: ¬ (p<=9973/\Pr p):=by simpa [AFs] using hq
        exact Aa hh.2))⟩)
   | exact ⟨rfl,congrArg Value.bool (AO9 (fun hh=>by have:=hh.1;omega))⟩
 ·refine Zk (ABk 5 false Zy rfl rfl (ABk 5 false Zy rfl rfl (Z1 rfl (Zu (Zx (⟨_,Zz,?_⟩))))))
  first
  | (have hq:AFs p=true:=by assumption
     have Aa:p<=9973/\Pr p:=by simpa [AFs] using hq
     exact ⟨rfl,congrArg Value.bool (AUj ⟨by have:=Aa.2.1;omega,Aa⟩)⟩)
  | (have hq:AFs p=false:=by assumption
     exact ⟨rfl,congrArg Value.bool (AO9 (fun hh=>by
       have Aa: ¬ (p<=9973/\Pr p):=by simpa [AFs] using hq
       exact Aa hh.2))⟩)
  | exact ⟨rfl,congrArg Value.bool (AO9 (fun hh=>by have:=hh.1;omega))⟩
end Go.Proofs.YtdkldlbgcfpglaaGreatDoor
namespace Go.Proofs.YtdkldlbgcfpglaaGreatDoor
open Go Go.QF
noncomputable def AMk (fuel:Nat) (M:List (List Int)):Option Bool:=some (isRed M)
theorem AW0 {fuel:Nat} {h:Zv} {v:Value} {M:List (List Int)} {r:Bool} (H:ACx (cI .i64) h v M) (hp:AMk fuel M=some r):AAw Tryz.prog 36 #[v] h (fun x h'=>Ext h h'/\x= .bool r):=by
 cases hp;exact Aeb (Auk H) H.1
noncomputable def Af4 (fuel:Nat) (n:Int):Option Bool:=some (AK2 n)
theorem Alb {fuel:Nat} {h:Zv} {n:Int} {r:Bool} (HO:AVa h) (hp:Af4 fuel n=some r):AAw Tryz.prog 73 #[.int .i64 n] h (fun x h'=>Ext h h'/\x= .bool r):=by
 cases hp;exact (As1 n HO).mono fun x h' ⟨he,hx⟩=>⟨he ▸ Ext.refl _,hx⟩
noncomputable def AKo (fuel:Nat) (n:Int):Option Bool:=some (AVm n)
theorem ASk {fuel:Nat} {h:Zv} {n:Int} {r:Bool} (HO:AVa h) (hp:AKo fuel n=some r):AAw Tryz.prog 37 #[.int .i64 n] h (fun x h'=>Ext h h'/\x= .bool r):=by
 cases hp;exact (Arx n HO).mono fun x h' ⟨he,hx⟩=>⟨he ▸ Ext.refl _,hx⟩
noncomputable def ASl (fuel:Nat) (n:Int):Option Bool:=some (AVm n)
theorem Abi {fuel:Nat} {h:Zv} {n:Int} {r:Bool} (hp:ASl fuel n=some r):AAw Tryz.prog 18 #[.int .i64 n] h (fun x h'=>Ext h h'/\x= .bool r):=by
 cases hp;exact (Ala n h).mono fun x h' ⟨he,hx⟩=>⟨he ▸ Ext.refl _,hx⟩
end Go.Proofs.YtdkldlbgcfpglaaGreatDoor
namespace Go.Proofs.YtdkldlbgcfpglaaGreatDoor
open Go Go.QF
set_option maxRecDepth 100000
set_option maxHeartbeats 4000000
noncomputable def AM9 (fuel:Nat) (Ad:LiA) (Aa Ab Ac:Int):Option ((Int × Int × Int) ⊕ ((Int × Int))):=
  (if 0<=Aa then ((gI Ad Aa).bind fun Ae=>(if 0<=Aa/\Aa<=64 then ((((AVj fuel Ab Ae).bind fun (Af,Ag,Ak)=>((Abd fuel Ag).bind fun Ah=>(if ¬ Ah=0 then (some ( (false,Ab,Ac))) else (some ( (true,Af,(w64 (Ac + (w64 (1 * 2 ^ Int.toNat Aa)))))))))):Option (Bool × Int × Int)).bind fun (Am,Ai,Aj)=>(some (Sum.inl ((w64 (Aa - 1)),Ai,Aj)))) else none)) else (some (Sum.inr<| (Ab,Ac))))
noncomputable def ANa (fuel:Nat) (Aa:LiA) (Ac Ad:Int):Option ((LiA × Int × Int) ⊕ ((LiA × Int × Int))):=
  ((gI Aa (w64 ((Aa.length:Int) - 1))).bind fun Ab=>(if 0<=(w64 ((Aa.length:Int) - 1))/\(w64 ((Aa.length:Int) - 1))<=64 then ((((AVj fuel Ac Ab).bind fun (Ag,Ah,Am)=>((Abd fuel Ah).bind fun Ai=>(if ¬ Ai=0 then (some ( (false,Ac,Ad))) else (some ( (true,Ag,(w64 (Ad + (w64 (1 * 2 ^ Int.toNat (w64 ((Aa.length:Int) - 1)))))))))))):Option (Bool × Int × Int)).bind fun (Aj,Ae,Af)=>(if Aj=true then ((Ajk fuel Ab Ab).bind fun Ak=>(if Aa.length<=100000000 then (some (Sum.inl ((Aa ++ [Ak]),Ae,Af))) else none)) else (some (Sum.inr<| (Aa,Ae,Af))))) else none))
noncomputable def AKa (fuel:Nat) (a1 a5:Int):Option (Int × Int × Int):=
  ((Af4 fuel a5).bind fun Ad=>(if (!Ad)=true then (some (0,0,20)) else ((Abd fuel a1).bind fun Ae=>(if Ae=0 then (some (0,0,1)) else ((AVk fuel a1).bind fun Af=>((AZ2 fuel a5).bind fun Ag=>((iter (fun s=>ANa fuel s.1 s.2.1 s.2.2) fuel ([Ag],Af,0)).bind (fun ((Ac,Ah,Ai):LiA × Int × Int)=>((iter (fun s=>AM9 fuel Ac s.1 s.2.1 s.2.2) fuel ((w64 ((Ac.length:Int) - 2)),Ah,Ai)).bind (fun ((Aj,Ak):Int × Int)=>(some (Ak,Aj,0))))))))))))
theorem AVn {fuel:Nat} {h:Zv} {Bh:Value} {a1 a5:Int} {r:(Int × Int × Int)} (H3:ZZ h Bh a1) (HO:AVa h) (hp:AKa fuel a1 a5=some r):AAw Tryz.prog 79 #[Bh,(.int .i64 a5)] h (fun x h'=>Ext h h'/\ ∃ (x1:Value),x= .tuple #[.int .i64 r.1,x1,.int .i64 r.2.2]/\ZZ h' x1 r.2.1):=by
 unfold AKa at hp;obtain ⟨Ci,rfl,Am⟩:=H3.cs;refine cwf (l:=[_,_]) Tryz.func79 rfl rfl (Zo (AHb (Kst.k0 h) Ci fun b6 h7 E9 Cj=>AAn (AC4 Cj [.bool false,.slice none 0 0] AE3 fun Fp Fq Fr Bm=>Zu (Zp (Zo (Zk ?_))))));obtain ⟨Ft,Ck,Bn⟩:=Zq hp;refine ACa Bm (Alb (HO.ext Bm.x) Ck) fun Bo Fu Aj=>ACr rfl (Zs (⟨_,rfl,fun Ax=>?_,fun Ax=>?_⟩))
 ·refine Zo (ADr (AO3 ) (AAn (AGd Aj p0 (AAf Bo) (AAf Bo) fun Bp Bq=>Zu (Zx (AAd ?_)))));obtain rfl:=Zm (ifT Bn Ax);exact ⟨_,Aa1 ABn (cZ.klen (AAf Bp)) rfl (Bq.b p0),Bq.x,_,rfl,(AAf Bp).2⟩
 ·refine Zw (q_t (Zp (Zo (AK6 (Aj.zx Am) (Aj.b p1) ?_))));obtain ⟨Fv,Cm,Br⟩:=Zq (AFe Bn Ax);refine ACa Aj (AZ3 (Aj.zx Am).2 Cm) fun Bt Fw Ak=>ABx rfl rfl (Zs (⟨_,rfl,fun Ay=>?_,fun Ay=>?_⟩))
  ·refine Zo (ADr (AO3 ) (AAn (AGd Ak p0 (AAf Bt) (AAf Bt) fun Bu Bv=>Zu (Zx (AAd ?_)))));obtain rfl:=Zm (AA8 Br Ay);exact ⟨_,Aa1 ABn (cZ.klen (AAf Bu)) rfl (Bv.b p0),Bv.x,_,rfl,(AAf Bu).2⟩
  ·refine Zw (q_t (Zo (AK6 (Ak.zx Am) (Ak.b p1) ?_)));obtain ⟨Cn,Co,Cp⟩:=Zq (AA9 Br Ay);refine AN0 Ak (AXz (Ak.zx Am).2 Co) fun Cq Fx Fy Cr=>AC4 Cr [.bool false,.slice none 0 0] AE3 fun Ae Ct Fz Bw=>AGd Bw p0 (AAf Ct) (Bw.z p1) fun F4 Cu=>AId (AC4 Cu [(.int .i64 0)] AWu fun Af F5 F6 Bx=>AQs [(.int .i64 0)] ABv rfl rfl rfl (Bx.b p0) (Nat.le_of_ble_eq_true rfl) rfl fun F7 Cv Cw=>AId (Amh rfl (Zu (Zp ?_))));refine AAc (Zk ?_);obtain ⟨Cx,Cy,Cz⟩:=Zq Cp;refine AN0 (Bx.sb p0 Cw Cv rfl) (Abe Cy) fun F8 F9 Ga By=>At1 AC9 AE3 rfl trivial tt2 (By.z p0) rfl fun C0 C1 Gb C2 C3 C4 C5=>Zu (Zp (Zt ?_));have Az:=(By.no C3 (AE8 C4 C5) C2).sel [0,2,3,4,5] Zl;dsimp only [AHd,AKw] at Az;refine AFo 2251799679470592 (fun x:(LiA) × (Value) × LnA × (Int) × LvA × (Int)=>(x.1,x.2.2.2.1,x.2.2.2.2.2)) (([Cx],C1,[C0],Cn,Cq,0):(LiA) × (Value) × LnA × (Int) × LvA × (Int)) Cz (fun x=>[(10,x.2.1)]) (fun x=>(((Az.L.set 0 (aO cZ 94 x.2.2.1 x.2.1 x.1)).set 3 (aZ x.2.2.2.2.1 x.2.2.2.1)).set 2 (aB 94 Ae x.2.2.2.2.1)).set 1 (aB 3 Af [(.int .i64 x.2.2.2.2.2)])) Az ⟨rfl,trivial⟩ ?_;rintro ⟨Ao,Gc,Gd,C6,C7,A3⟩ Ge Gf Gg Ap Bz C8;unfold ANa at Bz;refine Zp (Zp (AGe (Zk (Zk (Zk (ABj AC9 rfl (Ap.o p0).rd (AFl rfl rfl ?_)))))));obtain ⟨Gh,Aq,C9⟩:=Zq Bz;refine AXn AC9 rfl (Ap.o p0) rfl Aq fun Gi Da=>?_;obtain ⟨B1,Db,Dc⟩:=(Ap.o p0).cells Da Aq;have Ar:=Ap.az Db;refine AOe (c:=cZ) ABn rfl (Ar.z p0) (fun j u hu=>(Dc j u hu)) (Zk (ABj AC9 rfl (Ar.o p1).rd (AFl rfl rfl ?_)));obtain ⟨Dd,De⟩:=ifN C9;refine Ans rfl rfl Dd ?_;obtain ⟨Df,Dg,B3⟩:=Zq De;refine AZt (l:=[(.agg (B1).toArray),(.int .i64 (w64 (1 * 2 ^ Int.toNat (w64 ((Ao.length:Int) - 1)))))]) (cl:=[(.pointer (some ⟨Ae,0,none⟩)),(.pointer (some ⟨Af,0,none⟩))]) (K':=(fun xr h'=> ∃ x:(Bool) × (Int) × LvA × (Int),(x.1,x.2.1,x.2.2.2)=Df/\xr=(.bool x.1)/\Kst h h' (((Ar.L.set 4 (aZ x.2.2.1 x.2.1)).set 3 (aB 94 Ae x.2.2.1)).set 2 (aB 3 Af [(.int .i64 x.2.2.2)])))) trivial rfl rfl ?_ fun Gj Gk Dh=>?_
   ·refine cwf (l:=[_,_,_,_]) Tryz.func134 rfl rfl (Zo (AHb Ar B1 fun Gl Gm Gn Ab=>AA5 (AK6 (Ab.z p5) (Ab.b p4) (AK6 (Ab.z p1) (Ab.b p0) ?_))));obtain ⟨⟨Di,Gp,Gq⟩,Dj,B4⟩:=Zq Dg;dsimp only at B4;refine ANz rfl (AY3 (Ab.z p5).2 (Ab.z p1).2 Dj) fun Gr Gt Dk Dl=>?_;obtain ⟨Gu,Gv,rfl,Do,Dp⟩:=Dl;obtain ⟨Dq,rfl,Dr⟩:=Do.cs;obtain ⟨Gw,rfl,Ds⟩:=Dp.cs;refine Zk (ABl rfl rfl (ABl rfl rfl (ABl rfl rfl (AC4 (((Ab.e Dk).az Dr).az Ds) [.bool false,.slice none 0 0] AE3 fun Gx Gy Gz Dt=>AC4 Dt [.bool false,.slice none 0 0] AE3 fun G3 Du G4 B5=>AGd B5 p1 (AAf Du) (B5.z p3) fun Dv B6=>AGd B6 p0 (AAf Dv) (B6.z p2) fun G5 Au=>Zu (Zp (Zo (AK6 (Au.z p2) (Au.b p0) ?_)))))));obtain ⟨G6,Dw,B7⟩:=Zq B4;refine ACa Au (AZ3 (Au.z p2).2 Dw) fun G7 G8 Ag=>ACp rfl rfl (Zs (⟨_,rfl,fun A4=>?_,fun A4=>?_⟩))
    ·refine Zo (Zu (Zx (AAd (⟨_,Zz,((false,C6,C7,A3):(Bool) × (Int) × LvA × (Int)),?_,rfl,?_⟩))))
     ·exact Zm (AA8 B7 A4)
     ·exact Ag.sel [5,6,7,8,9,10] Zl
    ·refine Zw (q_t (Zo (AK6 (Ag.z p3) (Ag.b p1) (AGd Ag p8 (Ag.z p9) (Ag.z p3) fun G9 A5=>AId (AA7 ABv rfl ((A5.b p7).cell (i:=0) rfl) (Zk (AAx rfl rfl (AQs [(.int .i64 (w64 (A3 + (w64 (1 * 2 ^ Int.toNat (w64 ((Ao.length:Int) - 1)))))))] ABv rfl rfl rfl (A5.b p7) (Nat.le_of_ble_eq_true rfl) rfl fun Hb Dx Dy=>AId ?_))))))));refine Zu (Zx (⟨_,Zz,((true,Di,Dq,(w64 (A3 + (w64 (1 * 2 ^ Int.toNat (w64 ((Ao.length:Int) - 1))))))):(Bool) × (Int) × LvA × (Int)),?_,rfl,?_⟩))
     ·exact Zm (AA9 B7 A4)
     ·exact (A5.sb p7 Dy Dx rfl).sel [5,6,7,8,3,10] Zl
   obtain ⟨⟨Hc,Dz,D0,D1⟩,D2,rfl,Ah⟩:=Dh;refine ⟨trivial,?_⟩;subst D2;refine Zs (⟨_,rfl,fun A6=>?_,fun A6=>?_⟩)
   ·refine Zw (q_t (Zt (Zo (Zk (Zk (ABj AC9 rfl (Ah.o p1).rd (AFl rfl rfl (AXn AC9 rfl (Ah.o p1) rfl Aq fun Hd D3=>?_))))))));obtain ⟨He,D4,D5⟩:=(Ah.o p1).cells D3 Aq;have B8:=Ah.az D4;refine AOe (c:=cZ) ABn rfl (B8.z p0) (fun j u hu=>(D5 j u hu)) (AC4 B8 [.bool false,.slice none 0 0] AE3 fun Hf D6 Hg B9=>AGd B9 p0 (AAf D6) (B9.z p1) fun Hh Ac=>Zs (AAc (Zk (AK6 (Ac.z p1) (Ac.b p0) (AK6 (Ac.z p1) (Ac.b p0) ?_)))));obtain ⟨Hj,D7,D8⟩:=Zq (ifT B3 A6);refine AN0 Ac (Ah0 (Ac.z p1).2 (Ac.z p1).2 D7) fun Hk Hl Hm A7=>?_;obtain ⟨D9,Ea⟩:=ifN D8;refine ALt AC9 AE3 rfl rfl trivial tt2 (fun _=>rfl) rfl (A7.z p0) (A7.o p4) Zl D9 fun Hn Ho Hq Hr Eb Ec Ed=>AAn (AAo (q_b (q_t ?_)));exact ⟨(_,_,_,_,_,_),(Zm Ea).symm,(A7.uo p4 Ec Eb Ed).sel [4,5,6,7,8] Zl,rfl,trivial⟩
   ·refine AAj (AAk (AAk (ABm (q_t (Zp (Zo (Zk (ABj AC9 rfl (Ah.o p1).rd (AFl rfl rfl (Zu (Zt ?_)))))))))));have A8:=Ah.sel [1,2,3,4,5] Zl;dsimp only [AHd,AKw] at A8;refine AFo 73768961896328728576 (fun x:(Int) × (Int) × LvA × (Int)=>(x.1,x.2.1,x.2.2.2)) (((w64 ((Ao.length:Int) - 2)),Dz,D0,D1):(Int) × (Int) × LvA × (Int)) (C8 _ (Zm (AFe B3 A6)).symm) (fun x=>[(12,(.int .i64 x.1))]) (fun x=>((A8.L.set 3 (aZ x.2.2.1 x.2.1)).set 2 (aB 94 Ae x.2.2.1)).set 1 (aB 3 Af [(.int .i64 x.2.2.2)])) A8 ⟨rfl,trivial⟩ ?_;rintro ⟨A9,Ee,Ef,Ba⟩ Hs Eg Ht Aa Bb Eh;unfold AM9 at Bb;refine Zp (Zo (Zk (AMn rfl rfl (Zs (⟨_,rfl,fun Bc=>?_,fun Bc=>?_⟩)))))
    ·refine Zw (q_t (Zp (Zt (AGe (Zk (Zk (Zk ?_)))))));obtain ⟨Hu,Ca,Ei⟩:=Zq (AA8 Bb Bc);refine AXn AC9 rfl (Aa.o p0) rfl Ca fun Hv Ej=>?_;obtain ⟨Cb,Ek,El⟩:=(Aa.o p0).cells Ej Ca;have Be:=Aa.az Ek;refine AOe (c:=cZ) ABn rfl (Be.z p0) (fun j u hu=>(El j u hu)) (Zk ?_);obtain ⟨Em,En⟩:=ifN Ei;refine Ans rfl rfl Em ?_;obtain ⟨Eo,Ep,Er⟩:=Zq En;refine AZt (l:=[(.agg (Cb).toArray),(.int .i64 (w64 (1 * 2 ^ Int.toNat A9)))]) (cl:=[(.pointer (some ⟨Ae,0,none⟩)),(.pointer (some ⟨Af,0,none⟩))]) (K':=(fun xr h'=> ∃ x:(Bool) × (Int) × LvA × (Int),(x.1,x.2.1,x.2.2.2)=Eo/\xr=(.bool x.1)/\Kst h h' (((Be.L.set 4 (aZ x.2.2.1 x.2.1)).set 3 (aB 94 Ae x.2.2.1)).set 2 (aB 3 Af [(.int .i64 x.2.2.2)])))) trivial rfl rfl ?_ fun Hw Hx Es=>?_
     ·refine cwf (l:=[_,_,_,_]) Tryz.func134 rfl rfl (Zo (AHb Be Cb fun Hy Hz H5 Ad=>AA5 (AK6 (Ad.z p5) (Ad.b p4) (AK6 (Ad.z p1) (Ad.b p0) ?_))));obtain ⟨⟨Et,Ia,Ib⟩,Eu,Cd⟩:=Zq Ep;dsimp only at Cd;refine ANz rfl (AY3 (Ad.z p5).2 (Ad.z p1).2 Eu) fun Ic Id Ev Ew=>?_;obtain ⟨Ie,If,rfl,Ey,Ez⟩:=Ew;obtain ⟨Fa,rfl,Fb⟩:=Ey.cs;obtain ⟨Ih,rfl,Fc⟩:=Ez.cs;refine Zk (ABl rfl rfl (ABl rfl rfl (ABl rfl rfl (AC4 (((Ad.e Ev).az Fb).az Fc) [.bool false,.slice none 0 0] AE3 fun Ii Ij Ik Fd=>AC4 Fd [.bool false,.slice none 0 0] AE3 fun Il Fe Im Ce=>AGd Ce p1 (AAf Fe) (Ce.z p3) fun Ff Cf=>AGd Cf p0 (AAf Ff) (Cf.z p2) fun Io Av=>Zu (Zp (Zo (AK6 (Av.z p2) (Av.b p0) ?_)))))));obtain ⟨Ip,Fg,Cg⟩:=Zq Cd;refine ACa Av (AZ3 (Av.z p2).2 Fg) fun Iq Ir Ai=>ACp rfl rfl (Zs (⟨_,rfl,fun Bf=>?_,fun Bf=>?_⟩))
      ·refine Zo (Zu (Zx (AAd (⟨_,Zz,((false,Ee,Ef,Ba):(Bool) × (Int) × LvA × (Int)),?_,rfl,?_⟩))))
       ·exact Zm (AA8 Cg Bf)
       ·exact Ai.sel [5,6,7,8,9,10] Zl
      ·refine Zw (q_t (Zo (AK6 (Ai.z p3) (Ai.b p1) (AGd Ai p8 (Ai.z p9) (Ai.z p3) fun Is Bg=>AId (AA7 ABv rfl ((Bg.b p7).cell (i:=0) rfl) (Zk (AAx rfl rfl (AQs [(.int .i64 (w64 (Ba + (w64 (1 * 2 ^ Int.toNat A9)))))] ABv rfl rfl rfl (Bg.b p7) (Nat.le_of_ble_eq_true rfl) rfl fun It Fh Fi=>AId ?_))))))));refine Zu (Zx (⟨_,Zz,((true,Et,Fa,(w64 (Ba + (w64 (1 * 2 ^ Int.toNat A9))))):(Bool) × (Int) × LvA × (Int)),?_,rfl,?_⟩))
       ·exact Zm (AA9 Cg Bf)
       ·exact (Bg.sb p7 Fi Fh rfl).sel [5,6,7,8,3,10] Zl
     obtain ⟨⟨Iu,Iv,Iw,Ix⟩,Fj,rfl,Fk⟩:=Es;refine ⟨trivial,?_⟩;subst Fj;refine AAo (q_b (q_t (AAc (Zk (AFl rfl rfl (Zu ?_))))));exact ⟨(_,_,_,_),(Zm Er).symm,Fk.sel [1,2,3,4,5] Zl,rfl,trivial⟩
    ·refine AAj (AAk (AAk (ABm (q_t (Zp (AGe (AA7 ABv rfl ((Aa.b p1).cell (i:=0) rfl) (AK6 (Aa.z p3) (Aa.b p2) (AAn (AGd Aa p4 (AAf Eg) (Aa.z p3) fun Iy Aw=>Zu (Zx ?_)))))))))));obtain rfl:=Zm (Eh _ (Zm (AA9 Bb Bc)).symm);exact ⟨_,Aa1 ABn (cZ.klen (Aw.z p3)) rfl (Aw.b p4),Aw.x,_,rfl,(Aw.z p3).2⟩
noncomputable def AC5 (fuel:Nat) (a3:LiI) (a5:Int):Option Int:=
  ((AJ9 fuel a3).bind fun (x6,x7)=>((AQ0 fuel x6).bind fun (Ae,Ag)=>((AKa fuel Ae a5).bind fun (Ab,Ah,Ai)=>(if a5=2 then (some (w64 (Ab + 3))) else (some (w64 (Ab + 1)))))))
theorem AJg {fuel:Nat} {h:Zv} {Ad:Value} {a3:LiI} {a5 r:Int} (H2:ACx (cI .i64) h Ad a3) (HO:AVa h) (hp:AC5 fuel a3 a5=some r):AAw Tryz.prog 40 #[Ad,(.int .i64 a5)] h (fun x h'=>Ext h h'/\x= .int .i64 r):=by
 unfold AC5 at hp;refine cwf (l:=[_,_]) Tryz.func40 rfl rfl (Zo (AA5 (Zk ?_)));have K0:=Kst.k0 h;obtain ⟨⟨x6,x7⟩,Aq,Ah⟩:=Zq hp;dsimp only at Ah;refine ANz rfl (AVl (H2.ext K0.x) Aq) fun Bf Bg Ar Au=>?_;obtain ⟨Bh,Bi,Bj,Bl,rfl,Av,Aw⟩:=Au;refine Zk (ABl rfl rfl (ABl rfl rfl (AAn (AA5 (Zk ?_)))));have Ai:=K0.no2 Ar Aw Av;obtain ⟨⟨Bm,Bn⟩,Ax,Aj⟩:=Zq Ah;dsimp only at Aj;refine ANz rfl (AZs (Ai.o2 p0).rd Ax) fun Bo Bp Ay Az=>?_;obtain ⟨Bq,rfl,A3⟩:=Az;obtain ⟨Br,rfl,A4⟩:=A3.cs;refine Zk (ABl rfl rfl (ABl rfl rfl (AC4 ((Ai.e Ay).az A4) [.bool false,.slice none 0 0] AE3 fun Bt A5 Bu Ak=>AGd Ak p0 (AAf A5) (Ak.z p1) fun Bv Aa=>AA5 (AK6 (Aa.z p1) (Aa.b p0) (Zk ?_)))));obtain ⟨⟨Bw,Bx,By⟩,A6,Ab⟩:=Zq Aj;dsimp only at Ab;refine ANz rfl (AVn (Aa.z p1).2 (HO.ext Aa.x) A6) fun Bz B1 A7 A8=>?_;obtain ⟨B3,rfl,A9⟩:=A8;obtain ⟨B4,rfl,Ba⟩:=A9.cs;refine Zk (ABl rfl rfl (ABl rfl rfl (ABl rfl rfl (AC4 ((Aa.e A7).az Ba) [.bool false,.slice none 0 0] AE3 fun B5 Bb B6 Am=>AAn (AGd Am p0 (AAf Bb) (Am.z p1) fun B7 Ao=>Zu (Zp (Zo (Zk (ABx rfl rfl (Zs (⟨_,rfl,fun Ac=>?_,fun Ac=>?_⟩)))))))))))
 ·refine Zo (Zk (AAx rfl rfl (Zu (Zx (AAd ?_)))));obtain rfl:=Zm (AA8 Ab Ac);exact ⟨_,Zz,Ao.x,rfl⟩
 ·refine Zw (q_t (Zo (Zk (AAx rfl rfl (Zu (Zx ?_))))));obtain rfl:=Zm (AA9 Ab Ac);exact ⟨_,Zz,Ao.x,rfl⟩
noncomputable def AL2 (fuel:Nat) (a3:LiI) (a5:Int):Option (Int × Int):=
  ((AMk fuel a3).bind fun x6=>(if (!x6)=true then (some (0,6)) else (if ¬ a5=2 then ((AKo fuel a5).bind fun Ad=>(if (!Ad)=true then (some (0,20)) else ((AC5 fuel a3 a5).bind fun Ae=>(some (Ae,0))))) else ((AC5 fuel a3 a5).bind fun Af=>(some (Af,0))))))
theorem AUx {fuel:Nat} {h:Zv} {Ah:Value} {a3:LiI} {a5:Int} {r:(Int × Int)} (H2:ACx (cI .i64) h Ah a3) (HO:AVa h) (hp:AL2 fuel a3 a5=some r):AAw Tryz.prog 43 #[Ah,(.int .i64 a5)] h (fun x h'=>Ext h h'/\x= .tuple #[.int .i64 r.1,.int .i64 r.2]):=by
 unfold AL2 at hp;refine cwf (l:=[_,_]) Tryz.func43 rfl rfl (Zo (AAn (Zu (Zp (Zo (Zk ?_))))));have K0:=Kst.k0 h;obtain ⟨x6,Ap,Ak⟩:=Zq hp;refine ACa K0 (AW0 (H2.ext K0.x) Ap) fun A3 E9 Aa=>ACr rfl (Zs (⟨_,rfl,fun Af=>?_,fun Af=>?_⟩))
 ·refine Zo (AAn (Zu (Zx (AAd ?_))));obtain rfl:=Zm (ifT Ak Af);exact ⟨_,ABi,Aa.x,rfl⟩
 ·refine Zw (q_t (Zp (Zo (Zk (ACp rfl rfl (Zk ?_))))));have Am:=AFe Ak Af;by_cases Ab: ¬ a5=2
  ·rw [decide_eq_true Ab];refine Z4 11 true (Zk (Z4 11 true ?_));obtain ⟨A5,Aq,Ao⟩:=Zq (ifT Am Ab);refine ACa Aa (ASk (HO.ext Aa.x) Aq) fun A6 A7 Ac=>Z4 11 true (ACr rfl (AAa rfl (Zs (⟨_,rfl,fun Ag=>?_,fun Ag=>?_⟩))))
   ·refine Zo (AAn (Zu (Zx (AAd ?_))));obtain rfl:=Zm (ifT Ao Ag);exact ⟨_,ABi,Ac.x,rfl⟩
   ·refine Zw (q_t (Zo (Zk (Zk ?_))));obtain ⟨A8,Ar,Au⟩:=Zq (AFe Ao Ag);refine ACa Ac (AJg (H2.ext Ac.x) (HO.ext Ac.x) Ar) fun A9 Ba Av=>AAn (Zu (Zx ?_));obtain rfl:=Zm Au;exact ⟨_,ABi,Av.x,rfl⟩
  ·rw [decide_eq_false Ab];refine AC8 11 false (Z1 rfl (Zs (AAy rfl (Zw (q_t (Zo (Zk (Zk ?_))))))));obtain ⟨Bb,Aw,Ax⟩:=Zq (ifF Am Ab);refine ACa Aa (AJg (H2.ext Aa.x) (HO.ext Aa.x) Aw) fun Bc Be Ay=>AAn (Zu (Zx ?_));obtain rfl:=Zm Ax;exact ⟨_,ABi,Ay.x,rfl⟩
def APa (fuel:Nat) (a1 a2 s8 s9:Int):Option ((Int × Int) ⊕ ((Int))):=
  (if s9 < a2 then (some (Sum.inl ((w64 (s8 * a1)),(w64 (s9 + 1))))) else (some (Sum.inr<| s8)))
def AI9 (fuel:Nat) (a1 a2:Int):Option Int:=
  ((iter (fun s=>APa fuel a1 a2 s.1 s.2) fuel (1,0)).bind (fun (Ac:Int)=>(some Ac)))
theorem APb {fuel:Nat} {h:Zv} {a1 a2 r:Int} (hp:AI9 fuel a1 a2=some r):AAw Tryz.prog 39 #[(.int .i64 a1),(.int .i64 a2)] h (fun x h'=>Ext h h'/\x= .int .i64 r):=by
 unfold AI9 at hp;refine cwf (l:=[_,_]) Tryz.func39 rfl rfl (Zo (AA5 (Zu (Zp (Zo (Zk (Zk (Zs (Zt ?_)))))))));have K0:=Kst.k0 h;refine AG5 8096 hp (fun x=>[(5,(.int .i64 x.1)),(7,(.int .i64 x.2))]) (fun x=>K0.L) K0 ⟨rfl,rfl,trivial⟩ ?_;rintro ⟨u9,Ai⟩ Aj h6 y5 K8 Aa Ag;unfold APa at Aa;refine Zo (AAv rfl rfl (Zs (Zp (⟨_,rfl,fun Ab=>?_,fun Ab=>?_⟩))))
 ·refine Zw (q_t (Zp (Zt (AAc (Zk (Zk (AL9 rfl rfl (AAn (AAo (q_b (q_t (AAc (AAx rfl rfl (Zk (Zs ?_)))))))))))))));exact ⟨_,(Zm (AA8 Aa Ab)).symm,K8,rfl,rfl,trivial⟩
 ·refine AAj (AAk (AAk (ABm (q_t (Zo (Zk (Zu (Zx ?_))))))));obtain rfl:=Zm (Ag _ (Zm (AA9 Aa Ab)).symm);exact ⟨_,Zz,K8.x,rfl⟩
def AIl (fuel:Nat) (a2 Ab Ac:Int):Option ((Int × Int) ⊕ ((Int))):=
  (((if ¬ Ab=0 then (if a2≠0 then (if (Int.tmod Ab a2)=0 then (some (Sum.inl <| ())) else (some (Sum.inr <| ()))) else none) else (some (Sum.inr <| ()))):Option ((Unit) ⊕ (Unit))).bind (fun ex=>match ex with | Sum.inl _=>(if a2≠0 then (some (Sum.inl ((w64 (Int.tdiv Ab a2)),(w64 (Ac + 1))))) else none) | Sum.inr (_)=>(some (Sum.inr<| Ac))))
def AFt (fuel:Nat) (a1 a2:Int):Option Int:=
  ((iter (fun s=>AIl fuel a2 s.1 s.2) fuel (a1,0)).bind (fun (Ac:Int)=>(some Ac)))
theorem AQ1 {fuel:Nat} {h:Zv} {a1 a2 r:Int} (hp:AFt fuel a1 a2=some r):AAw Tryz.prog 21 #[(.int .i64 a1),(.int .i64 a2)] h (fun x h'=>Ext h h'/\x= .int .i64 r):=by
 unfold AFt at hp;refine cwf (l:=[_,_]) Tryz.func21 rfl rfl (Zo (AA5 (Zu (Zp (Zt ?_)))));have K0:=Kst.k0 h;refine AG5 524257 hp (fun x=>[(0,(.int .i64 x.1)),(5,(.int .i64 x.2))]) (fun x=>K0.L) K0 ⟨rfl,rfl,trivial⟩ ?_;rintro ⟨u9,Aw⟩ Ax h6 y5 K8 Ah Ai;unfold AIl at Ah;obtain ⟨Ao,Aj,Ac⟩:=Zq Ah;refine AKi 16320 (fun x:Unit=>[]) (fun x h'=>(Sum.inl <| ())=Ao/\Kst h h' (K8.L)) ?_ ?_
 ·refine Zo (Zk (ACp rfl rfl (Zk ?_)));by_cases Ab: ¬ u9=0
  ·rw [decide_eq_true Ab];refine Z4 8 true (Zk (Z4 8 true (Zk (Z4 8 true ?_))));obtain ⟨Ap,Ak⟩:=ifN (ifT Aj Ab);refine ADk rfl rfl Ap (Z4 8 true (ABx rfl rfl (AAa rfl (Zs (⟨_,rfl,fun Ad=>?_,fun Ad=>?_⟩)))))
   ·refine Zw (q_t ?_);exact ⟨(():Unit),⟨Zm (AA8 Ak Ad),K8⟩,trivial⟩
   ·obtain rfl:=Zm (AA9 Ak Ad);refine AAj (AAk (AAk (ABm (q_t (Zo (Zk (Zu (Zx ?_))))))));obtain rfl:=Zm (Ai _ (Zm Ac).symm);exact ⟨_,Zz,K8.x,rfl⟩
  ·rw [decide_eq_false Ab];refine AD0 8 false (Z1 rfl (Zs (AAy rfl ?_)));obtain rfl:=Zm (ifF Aj Ab);refine AAj (AAk (AAk (ABm (q_t (Zo (Zk (Zu (Zx ?_))))))));obtain rfl:=Zm (Ai _ (Zm Ac).symm);exact ⟨_,Zz,K8.x,rfl⟩
 rintro ⟨⟩ A3 A4 ⟨Aq,Ar⟩;subst Aq;refine Zt (Zo (Zk (Zk ?_)));obtain ⟨Au,Av⟩:=ifN Ac;refine AU5 rfl rfl Au (Zu (AAc (Zk (AAx rfl rfl (AAn (AAo (q_b (q_t ?_))))))));exact ⟨_,(Zm Av).symm,Ar,rfl,rfl,trivial⟩
def AKp (fuel:Nat) (a1 a2 s8 s9:Int):Option ((Int × Int) ⊕ ((Int))):=
  (if s9 < a2 then (some (Sum.inl ((w64 (s8 * a1)),(w64 (s9 + 1))))) else (some (Sum.inr<| s8)))
def AD3 (fuel:Nat) (a1 a2:Int):Option Int:=
  ((iter (fun s=>AKp fuel a1 a2 s.1 s.2) fuel (1,0)).bind (fun (Ac:Int)=>(some Ac)))
theorem AKq {fuel:Nat} {h:Zv} {a1 a2 r:Int} (hp:AD3 fuel a1 a2=some r):AAw Tryz.prog 29 #[(.int .i64 a1),(.int .i64 a2)] h (fun x h'=>Ext h h'/\x= .int .i64 r):=by
 unfold AD3 at hp;refine cwf (l:=[_,_]) Tryz.func29 rfl rfl (Zo (AA5 (Zu (Zp (Zo (Zu (Zt ?_)))))));have K0:=Kst.k0 h;refine AG5 32736 hp (fun x=>[(5,(.int .i64 x.1)),(6,(.int .i64 x.2))]) (fun x=>K0.L) K0 ⟨rfl,rfl,trivial⟩ ?_;rintro ⟨u9,Ai⟩ Aj h6 y5 K8 Aa Ag;unfold AKp at Aa;refine Zp (Zo (Zk (Zk (AAv rfl rfl (Zs (⟨_,rfl,fun Ab=>?_,fun Ab=>?_⟩))))))
 ·refine Zw (q_t (Zp (Zt (AAc (Zk (Zk (AL9 rfl rfl (AAn (AAo (q_b (q_t (AAc (Zk (AAx rfl rfl (Zu ?_)))))))))))))));exact ⟨_,(Zm (AA8 Aa Ab)).symm,K8,rfl,rfl,trivial⟩
 ·refine AAj (AAk (AAk (ABm (q_t (Zo (Zk (Zu (Zx ?_))))))));obtain rfl:=Zm (Ag _ (Zm (AA9 Aa Ab)).symm);exact ⟨_,Zz,K8.x,rfl⟩
def AH9 (fuel:Nat) (a3:LiI):Option Int:=
  ((ADt fuel a3).bind fun x5=>((ABf fuel x5).bind fun Ac=>((AV1 fuel Ac).bind fun (Ad,Ae)=>(some Ad))))
theorem AUk {fuel:Nat} {h:Zv} {Aa:Value} {a3:LiI} {r:Int} (H2:ACx (cI .i64) h Aa a3) (hp:AH9 fuel a3=some r):AAw Tryz.prog 20 #[Aa] h (fun x h'=>Ext h h'/\x= .int .i64 r):=by
 unfold AH9 at hp;refine cwf (l:=[_]) Tryz.func20 rfl rfl (Zo (AA5 (Zk ?_)));have K0:=Kst.k0 h;obtain ⟨x5,Ah,Ai⟩:=Zq hp;refine AM5 K0 (AJe (H2.ext K0.x) Ah) fun Aq Ar Au Av h9 E8 Ad=>?_;obtain ⟨Ay,Aj,Ak⟩:=Zq Ai;refine AN0 Ad (ACq (Ad.o2 p0).rd Aj) fun Az A3 A4 Ae=>?_;obtain ⟨⟨A5,A6⟩,Am,Af⟩:=Zq Ak;dsimp only at Af;refine ACa Ae (Aa2 (Ae.z p0).2 Am) fun A7 A8 Ao=>Zk (ABl rfl rfl (ABl rfl rfl (AAn (AA5 (Zk (Zu (Zx ?_)))))));obtain rfl:=Zm Af;exact ⟨_,Zz,Ao.x,rfl⟩
def AEy (fuel:Nat) (a3:LiI) (a5:Int):Option Int:=
  ((AH9 fuel a3).bind fun x6=>((AFt fuel x6 a5).bind fun Ab=>(if a5=2 then (some (w64 (Ab + 3))) else (some (w64 (Ab + 1))))))
theorem AR4 {fuel:Nat} {h:Zv} {Ab:Value} {a3:LiI} {a5 r:Int} (H2:ACx (cI .i64) h Ab a3) (hp:AEy fuel a3 a5=some r):AAw Tryz.prog 28 #[Ab,(.int .i64 a5)] h (fun x h'=>Ext h h'/\x= .int .i64 r):=by
 unfold AEy at hp;refine cwf (l:=[_,_]) Tryz.func28 rfl rfl (Zo (AA5 (Zk ?_)));have K0:=Kst.k0 h;obtain ⟨x6,Ai,Aj⟩:=Zq hp;refine ACa K0 (AUk (H2.ext K0.x) Ai) fun Ap E9 Ak=>Zk ?_;obtain ⟨Ar,Am,Af⟩:=Zq Aj;refine ACa Ak (AQ1 Am) fun Au Av Ag=>Zu (Zp (Zo (Zk (ABx rfl rfl (Zs (⟨_,rfl,fun Aa=>?_,fun Aa=>?_⟩))))))
 ·refine Zo (Zk (AAx rfl rfl (Zu (Zx (AAd ?_)))));obtain rfl:=Zm (AA8 Af Aa);exact ⟨_,Zz,Ag.x,rfl⟩
 ·refine Zw (q_t (Zo (Zk (AAx rfl rfl (Zu (Zx ?_))))));obtain rfl:=Zm (AA9 Af Aa);exact ⟨_,Zz,Ag.x,rfl⟩
def AKr (fuel:Nat) (a3:LiI) (Aa:Int):Option ((Int) ⊕ ((Bool) ⊕ (Unit))):=
  (if Aa < (a3.length:Int) then ((gI a3 Aa).bind fun Ac=>(if 12 < (Ac.length:Int) then (some (Sum.inr<| Sum.inl <| true)) else (some (Sum.inl (w64 (Aa + 1)))))) else (some (Sum.inr<| Sum.inr <| ())))
def AG6 (fuel:Nat) (a3:LiI):Option Bool:=
  (if 12 < (a3.length:Int) then (some true) else ((iter (fun s=>AKr fuel a3 s) fuel 0).bind (fun ex=>match ex with | Sum.inl Ab=>(some Ab) | Sum.inr (_)=>(some false))))
theorem AS1 {fuel:Nat} {h:Zv} {Ah:Value} {a3:LiI} {r:Bool} (H2:ACx (cI .i64) h Ah a3) (hp:AG6 fuel a3=some r):AAw Tryz.prog 15 #[Ah] h (fun x h'=>Ext h h'/\x= .bool r):=by
 unfold AG6 at hp;refine cwf (l:=[_]) Tryz.func15 rfl rfl (Zo (Zu (Zp (Zo (Zk (AA6 AAg rfl H2 (AF1 rfl rfl (Zs ?_))))))));have K0:=Kst.k0 h;refine ⟨_,rfl,fun Ad=>?_,fun Ad=>?_⟩
 ·refine Zo (Zu (Zx (AAd ?_)));obtain rfl:=Zm (AA8 hp Ad);exact ⟨_,Zz,K0.x,rfl⟩
 ·refine Zw (q_t (Zp (Zo (Zk (AA6 AAg rfl H2 (Zk (Zs (Zt (AG5 261140 (AA9 hp Ad) (fun x=>[(10,(.int .i64 x))]) (fun x=>K0.L) K0 ⟨rfl,trivial⟩ ?_)))))))));rintro Ap Aq Ar Au Aa Ae Aj;unfold AKr at Ae;refine Zo (AAv rfl rfl (Zs (Zp (⟨_,rfl,fun Af=>?_,fun Af=>?_⟩))))
  ·refine Zw (q_t (Zp (Zt (Zo ?_))));obtain ⟨Av,Am,Ak⟩:=Zq (AA8 Ae Af);refine AGh AAg AA3 H2 Aa.x Am fun _ Aw Ao=>AA5 (Zk (ABj AAi rfl Ao (AF1 rfl rfl (Zs (⟨_,rfl,fun Ag=>?_,fun Ag=>?_⟩)))))
   ·refine Zo (Zu (Zx (ABg (AAd (AAd (ABg (AAd ?_)))))));obtain rfl:=Zm (Aj _ (Zm (AA8 Ak Ag)).symm);exact ⟨_,Zz,Aa.x,rfl⟩
   ·refine Zw (q_b (q_t (AAc (AAx rfl rfl (Zk (Zs ?_))))));exact ⟨_,(Zm (AA9 Ak Ag)).symm,Aa,rfl,trivial⟩
  ·refine AAj (AAk (AAk (ABm (q_t (Zo (Zu (Zx ?_)))))));obtain rfl:=Zm (Aj _ (Zm (AA9 Ae Af)).symm);exact ⟨_,Zz,Aa.x,rfl⟩
def AJh (fuel:Nat) (a1:Int):Option Int:=
  (if (([2,3,5,7,2,3,5,11,13,17,19,23,3,2,9973,10007,1,4,9,(-3)]:List Int).length:Int)≠0 then ((gI ([2,3,5,7,2,3,5,11,13,17,19,23,3,2,9973,10007,1,4,9,(-3)]:List Int) (Int.tmod (w64 a1) (([2,3,5,7,2,3,5,11,13,17,19,23,3,2,9973,10007,1,4,9,(-3)]:List Int).length:Int))).bind fun Ab=>(some Ab)) else none)
theorem AS2 {fuel:Nat} {h:Zv} {a1 r:Int} (hp:AJh fuel a1=some r):AAw Tryz.prog 47 #[(.int .u8 a1)] h (fun x h'=>Ext h h'/\x= .int .i64 r):=by
 unfold AJh at hp;refine cwf (l:=[_]) Tryz.func47 rfl rfl (Zo (AA5 (AYt (κ:= .i64) [2,3,5,7,2,3,5,11,13,17,19,23,3,2,9973,10007,1,4,9,(-3)] AAi AI0 rfl rfl trivial tt2 rfl rfl rfl rfl fun b2 v3 h4 I5 E6 Af Ag=>AA5 (Zk (Zk (AMy ASb ARe rfl (Zk ?_)))))));have Aa:=(Kst.k0 h).no E6 (AE8 Af Ag) I5;refine ABj AAi rfl (Aa.o p0).rd ?_;obtain ⟨Ah,Ai⟩:=ifN hp;refine ADk rfl rfl Ah ?_;obtain ⟨Au,Ac,Aj⟩:=Zq Ai;refine AXn AAi rfl (Aa.o p0) rfl Ac fun Av Ak=>?_;obtain ⟨Aw,Am,Ao⟩:=(Aa.o p0).cells Ak Ac;obtain rfl:=Am;refine AA7 AAl rfl (Ao 0 _ rfl) (Zu (Zx ?_));obtain rfl:=Zm Aj;exact ⟨_,Zz,Aa.x,rfl⟩
def AD4 (fuel:Nat) (a1 a2:Int) (a3:Bool):Option Int:=
  (if a3=true then (some a2) else ((AJh fuel a1).bind fun x7=>(some x7)))
theorem AN4 {fuel:Nat} {h:Zv} {a1 a2:Int} {a3:Bool} {r:Int} (hp:AD4 fuel a1 a2 a3=some r):AAw Tryz.prog 16 #[(.int .u8 a1),(.int .i64 a2),(.bool a3)] h (fun x h'=>Ext h h'/\x= .int .i64 r):=by
 unfold AD4 at hp;refine cwf (l:=[_,_,_]) Tryz.func16 rfl rfl (Zo (Zu (Zp (Zo (Zk (Zs ?_))))));have K0:=Kst.k0 h;refine ⟨_,rfl,fun Aa=>?_,fun Aa=>?_⟩
 ·refine Zo (Zk (Zu (Zx (AAd ?_))));obtain rfl:=Zm (ifT hp Aa);exact ⟨_,Zz,K0.x,rfl⟩
 ·refine Zw (q_t (Zo (Zk ?_)));obtain ⟨x8,Af,Ag⟩:=Zq (AFe hp Aa);refine ACa K0 (AS2 Af) fun Aj Ak Ah=>Zu (Zx ?_);obtain rfl:=Zm Ag;exact ⟨_,Zz,Ah.x,rfl⟩
def AIa (fuel:Nat) (a1 a2:Int):Option Int:=
  (if a2≠0 then (if (Int.tmod a1 a2) < 0 then (some (w64 ((Int.tmod a1 a2) + a2))) else (some (Int.tmod a1 a2))) else none)
theorem AUl {fuel:Nat} {h:Zv} {a1 a2 r:Int} (hp:AIa fuel a1 a2=some r):AAw Tryz.prog 68 #[(.int .i64 a1),(.int .i64 a2)] h (fun x h'=>Ext h h'/\x= .int .i64 r):=by
 unfold AIa at hp;refine cwf (l:=[_,_]) Tryz.func68 rfl rfl (Zo (AA5 (Zk (Zk ?_))));have K0:=Kst.k0 h;obtain ⟨Af,Ae⟩:=ifN hp;refine ADk rfl rfl Af (Zu (Zp (Zo (Zk (AAv rfl rfl (Zs (⟨_,rfl,fun Aa=>?_,fun Aa=>?_⟩)))))))
 ·refine AAc (Zk (Zk (AAx rfl rfl (AA5 (Zk (Zu (Zx ?_)))))));obtain rfl:=Zm (AA8 Ae Aa);exact ⟨_,Zz,K0.x,rfl⟩
 ·refine Zw (q_t (Zo (Zk (Zu (Zx ?_)))));obtain rfl:=Zm (AA9 Ae Aa);exact ⟨_,Zz,K0.x,rfl⟩
def AF9 (fuel:Nat) (a1 a5:Int):Option Int:=
  ((AKy fuel a5).bind fun Ac=>((AD2 fuel a1 Ac).bind fun Ad=>((AV1 fuel Ad).bind fun (Ae,Af)=>(some Ae))))
theorem ARt {fuel:Nat} {h:Zv} {Ad:Value} {a1 a5 r:Int} (H3:ZZ h Ad a1) (hp:AF9 fuel a1 a5=some r):AAw Tryz.prog 139 #[Ad,(.int .i64 a5)] h (fun x h'=>Ext h h'/\x= .int .i64 r):=by
 unfold AF9 at hp;obtain ⟨Am,rfl,Ag⟩:=H3.cs;refine cwf (l:=[_,_]) Tryz.func139 rfl rfl (Zo (AHb (Kst.k0 h) Am fun b6 h7 E9 Ab=>Zu (Zp (ACj (fun h'=>UpT [] h7 h') Zy ?_))));have Ah:UpT [] h7 h7:=UpT.start all_nil;refine AOh (Ab.zx Ag) Ah (Ab.b p0) (Zk ?_);obtain ⟨A3,Ao,Ap⟩:=Zq hp;refine AFn Ab Ah (AJ6 Ao) fun A4 A5 A6 Ac Aq=>?_;obtain ⟨A7,Ar,Au⟩:=Zq Ap;refine AFn Ac Aq (AO5 (Ac.zx Ag).2 (Ac.z p0).2 Ar) fun A8 A9 Ba Ai Av=>?_;obtain ⟨⟨Bb,Bc⟩,Aw,Aj⟩:=Zq Au;dsimp only at Aj;refine Aa6 Ai Av (Aa2 (Ai.z p0).2 Aw) fun Be Bf Ax Bg=>Zk (ABl rfl rfl (ABl rfl rfl (AAn (AA5 (Zk (Zu (Zx ?_)))))));obtain rfl:=Zm Aj;exact ⟨_,Zz,Ax.x,rfl⟩
def AKs (fuel:Nat) (a3:LiI) (Ab:Int):Option ((Int) ⊕ ((Bool) ⊕ (Unit))):=
  (if Ab < (a3.length:Int) then ((gI a3 Ab).bind fun Ac=>((gI a3 0).bind fun Ad=>(if ¬ (Ac.length:Int)=(Ad.length:Int) then (some (Sum.inr<| Sum.inl <| false)) else (if (Ac.length:Int) < 1 then (some (Sum.inr<| Sum.inl <| false)) else (if 16 < (Ac.length:Int) then (some (Sum.inr<| Sum.inl <| false)) else (some (Sum.inl (w64 (Ab + 1))))))))) else (some (Sum.inr<| Sum.inr <| ())))
def ADc (fuel:Nat) (a3:LiI):Option Bool:=
  (((if (a3.length:Int) < 1 then (some (Sum.inl <| false)) else (if 16 < (a3.length:Int) then (some (Sum.inl <| false)) else (some (Sum.inr <| ())))):Option ((Bool) ⊕ (Unit))).bind (fun ex=>match ex with | Sum.inl Ab=>(some Ab) | Sum.inr (_)=>((iter (fun s=>AKs fuel a3 s) fuel 0).bind (fun ex=>match ex with | Sum.inl Ac=>(some Ac) | Sum.inr (_)=>(some true)))))
theorem AKt {fuel:Nat} {h:Zv} {Aq:Value} {a3:LiI} {r:Bool} (H2:ACx (cI .i64) h Aq a3) (hp:ADc fuel a3=some r):AAw Tryz.prog 141 #[Aq] h (fun x h'=>Ext h h'/\x= .bool r):=by
 unfold ADc at hp;refine cwf (l:=[_]) Tryz.func141 rfl rfl (Zo (Zu ?_));have K0:=Kst.k0 h;obtain ⟨A3,Ar,Ai⟩:=Zq hp;refine AKi 8164 (fun x:Unit=>[]) (fun x h'=>(Sum.inr <| ())=A3/\Kst h h' (K0.L)) ?_ ?_
 ·refine Zo (Zk (AA6 AAg rfl H2 (AAv rfl rfl (Zk ?_))));by_cases Ad:(a3.length:Int) < 1
  ·rw [decide_eq_true Ad];refine AC8 8 true (AAa rfl (Zs (AAr rfl (Zo (Zu ?_)))));obtain rfl:=Zm (ifT Ar Ad);refine Zx (AAd ?_);obtain rfl:=Zm Ai;exact ⟨_,Zz,K0.x,rfl⟩
  ·have Au:=ifF Ar Ad;rw [decide_eq_false Ad];refine Z4 8 false (Zk (Z4 8 false (AA6 AAg rfl H2 (Z4 8 false (AF1 rfl rfl (Z1 rfl (Zs (⟨_,rfl,fun Aj=>?_,fun Aj=>?_⟩))))))))
   ·refine Zo (Zu ?_);obtain rfl:=Zm (AA8 Au Aj);refine Zx (AAd ?_);obtain rfl:=Zm Ai;exact ⟨_,Zz,K0.x,rfl⟩
   ·refine Zw (q_t ?_);exact ⟨(():Unit),⟨Zm (AA9 Au Aj),K0⟩,trivial⟩
 rintro ⟨⟩ Ba Bb ⟨A4,Av⟩;subst A4;refine Zp (Zo (Zk (AA6 AAg rfl H2 (Zk (Zs (Zt (AG5 137438920724 Ai (fun x=>[(15,(.int .i64 x))]) (fun x=>Av.L) Av ⟨rfl,trivial⟩ ?_)))))));rintro Bc Be Bf Bg Aa Ak Ae;unfold AKs at Ak;refine Zo (AAv rfl rfl (Zs (Zp (⟨_,rfl,fun Am=>?_,fun Am=>?_⟩))))
 ·refine Zw (q_t (Zp (Zt (Zo ?_))));obtain ⟨Aw,A5,A6⟩:=Zq (AA8 Ak Am);refine AGh AAg AA3 H2 Aa.x A5 fun _ Bh Ao=>AA5 (Zk (ABj AAi rfl Ao (Zk ?_)));obtain ⟨A7,A8,Ax⟩:=Zq A6;refine AGh AAg AA3 H2 Aa.x A8 fun _ Bi A9=>ABj AAi rfl A9 (ACp rfl rfl (Zk ?_));by_cases Af: ¬ (Aw.length:Int)=(A7.length:Int)
  ·rw [decide_eq_true Af];refine AC8 26 true (AAa rfl (Zk (AC8 31 true (AAa rfl (Zs (AAr rfl (Zo (Zu (Zx (ABg (AAd (AAd (ABg (AAd ?_))))))))))))));obtain rfl:=Zm (Ae _ (Zm (ifT Ax Af)).symm);exact ⟨_,Zz,Aa.x,rfl⟩
  ·have Ay:=ifF Ax Af;rw [decide_eq_false Af];refine Z4 26 false (Zk (Z4 26 false (ABj AAi rfl Ao (Z4 26 false (AAv rfl rfl (Z1 rfl (Zk ?_)))))));by_cases Ag:(Aw.length:Int) < 1
   ·rw [decide_eq_true Ag];refine AC8 31 true (AAa rfl (Zs (AAr rfl (Zo (Zu (Zx (ABg (AAd (AAd (ABg (AAd ?_)))))))))));obtain rfl:=Zm (Ae _ (Zm (ifT Ay Ag)).symm);exact ⟨_,Zz,Aa.x,rfl⟩
   ·have Az:=ifF Ay Ag;rw [decide_eq_false Ag];refine Z4 31 false (Zk (Z4 31 false (ABj AAi rfl Ao (Z4 31 false (AF1 rfl rfl (Z1 rfl (Zs (⟨_,rfl,fun Ap=>?_,fun Ap=>?_⟩))))))))
    ·refine Zo (Zu (Zx (ABg (AAd (AAd (ABg (AAd ?_)))))));obtain rfl:=Zm (Ae _ (Zm (AA8 Az Ap)).symm);exact ⟨_,Zz,Aa.x,rfl⟩
    ·refine Zw (q_b (q_t (AAc (AAx rfl rfl (Zk (Zs ?_))))));exact ⟨_,(Zm (AA9 Az Ap)).symm,Aa,rfl,trivial⟩
 ·refine AAj (AAk (AAk (ABm (q_t (Zo (Zu (Zx ?_)))))));obtain rfl:=Zm (Ae _ (Zm (AA9 Ak Am)).symm);exact ⟨_,Zz,Aa.x,rfl⟩
def AEb (fuel:Nat) (a1:Int):Option Bool:=
  (if 2<=a1 then (some (decide (a1<=2147483647))) else (some false))
theorem ANb {fuel:Nat} {h:Zv} {a1:Int} {r:Bool} (hp:AEb fuel a1=some r):AAw Tryz.prog 138 #[(.int .i64 a1)] h (fun x h'=>Ext h h'/\x= .bool r):=by
 unfold AEb at hp;refine cwf (l:=[_]) Tryz.func138 rfl rfl (Zo (AA5 (Zk (AMn rfl rfl (Zk ?_)))));have K0:=Kst.k0 h;by_cases Aa:2<=a1
 ·rw [decide_eq_true Aa];refine Z4 5 true (Zk (Z4 5 true (AWx rfl rfl (AAa rfl (Zu (Zx ?_))))));obtain rfl:=Zm (ifT hp Aa);exact ⟨_,Zz,K0.x,rfl⟩
 ·rw [decide_eq_false Aa];refine AG3 5 false (Z1 rfl (Zu (Zx ?_)));obtain rfl:=Zm (ifF hp Aa);exact ⟨_,Zz,K0.x,rfl⟩
def AGy (fuel:Nat) (a5:Int) (Ac Aa:LiA) (Ab:Int):Option ((LiA × Int) ⊕ ((LiA))):=
  (if Ab < (Ac.length:Int) then ((gI Ac Ab).bind fun Ae=>((AIa fuel Ae a5).bind fun Af=>(if Aa.length<=100000000 then (some (Sum.inl ((Aa ++ [Af]),(w64 (Ab + 1))))) else none))) else (some (Sum.inr<| Aa)))
def AJ0 (fuel:Nat) (a3:LiI) (a5:Int) (Aa:LiI) (Ab:Int):Option ((LiI × Int) ⊕ ((LiI))):=
  (if Ab < (a3.length:Int) then ((gI a3 Ab).bind fun Ae=>((iter (fun s=>AGy fuel a5 Ae s.1 s.2) fuel ([],0)).bind (fun (Af:LiA)=>(if Aa.length<=100000000 then (some (Sum.inl ((Aa ++ [Af]),(w64 (Ab + 1))))) else none)))) else (some (Sum.inr<| Aa)))
def AC0 (fuel:Nat) (a3:LiI) (a5:Int):Option LiI:=
  ((iter (fun s=>AJ0 fuel a3 a5 s.1 s.2) fuel ([],0)).bind (fun (Ac:LiI)=>(some Ac)))
theorem AJ1 {fuel:Nat} {h:Zv} {Ag:Value} {a3:LiI} {a5:Int} {r:LiI} (H2:ACx (cI .i64) h Ag a3) (hp:AC0 fuel a3 a5=some r):AAw Tryz.prog 30 #[Ag,(.int .i64 a5)] h (fun x h'=>Ext h h'/\ ∃ (x0:Value) (F0:List Nat) (Av:List LnA) (Aw:List Value),x=x0/\ACy (cI .i64) 60 2 h' F0 Av Aw x0 r/\Sp h' h.size [F0]):=by
 unfold AC0 at hp;refine cwf (l:=[_,_]) Tryz.func30 rfl rfl (Zo (AA5 (Zu (Zp (Zo (Zk (AA6 AAg rfl H2 (Zk (Zs (Zt ?_))))))))));have K7:=Kst.anil2 (cI .i64) 60 2 (Kst.k0 h);refine AFo 34359731616 (fun x:(LiI) × (Value) × LnA × LnN × LvA × (Int)=>(x.1,x.2.2.2.2.2)) (([],(.slice none 0 0),[],[],[],0):(LiI) × (Value) × LnA × LnN × LvA × (Int)) hp (fun x=>[(5,x.2.1),(13,(.int .i64 x.2.2.2.2.2))]) (fun x=>K7.L.set 0 (aO2 (cI .i64) 60 2 x.2.2.1 x.2.2.2.1 x.2.2.2.2.1 x.2.1 x.1)) K7 ⟨rfl,rfl,trivial⟩ ?_;rintro ⟨Bj,Bl,Bm,Bn,Bo,Bp⟩ Bq Br Bt Ab Ac Ax;unfold AJ0 at Ac;refine Zo (AAv rfl rfl (Zs (Zp (⟨_,rfl,fun Ad=>?_,fun Ad=>?_⟩))))
 ·refine Zw (q_t (Zp (Zt (Zo ?_))));obtain ⟨Bu,Ay,Az⟩:=Zq (AA8 Ac Ad);refine AGh AAg AA3 H2 Ab.x Ay fun _ Bv Ap=>AA5 (Zu (Zp (Zo (Zk (ABj AAi rfl Ap (Zk (Zs (Zt ?_))))))));have Aq:=Kst.anil (cI .i64) 2 Ab;refine AFo 1073218816 (fun x:(LiA) × (Value) × LnA × (Int)=>(x.1,x.2.2.2)) (([],(.slice none 0 0),[],0):(LiA) × (Value) × LnA × (Int)) Az (fun x=>[(8,x.2.1),(19,(.int .i64 x.2.2.2))]) (fun x=>Aq.L.set 0 (aO (cI .i64) 2 x.2.2.1 x.2.1 x.1)) Aq ⟨rfl,rfl,trivial⟩ ?_;rintro ⟨Bw,Bx,By,Bz⟩ B1 B3 B4 Aa Ae A3;unfold AGy at Ae;refine Zo (AAv rfl rfl (Zs (Zp (⟨_,rfl,fun Af=>?_,fun Af=>?_⟩))))
  ·refine Zw (q_t (Zp (Zt (Zo ?_))));obtain ⟨B5,A4,A5⟩:=Zq (AA8 Ae Af);refine AUs AAi AAl Ap Aa.x A4 fun _=>(Zu (AAc (Zk (Zk (Zk ?_)))));obtain ⟨Ar,A6,A7⟩:=Zq A5;refine ACa Aa (AUl A6) fun B6 B7 Au=>?_;obtain ⟨A8,A9⟩:=ifN A7;refine ALt AAi AI0 rfl rfl trivial tt2 (fun _=>rfl) rfl (show ((cI .i64)).rep _ Ar [(.int .i64 Ar)] from rfl) (Au.o p0) Zl A8 fun B8 B9 Ca Cb Ba Bb Bc=>AAn (AAo (q_b (q_t (AAc (AAx rfl rfl (Zk (Zs ?_)))))));exact ⟨(_,_,_,_),(Zm A9).symm,(Au.uo p0 Bb Ba Bc),rfl,rfl,trivial⟩
  ·refine AAj (AAk (AAk (ABm (q_t (AAc (Zk (Zk ?_)))))));obtain ⟨Be,Bf⟩:=ifN (A3 _ (Zm (AA9 Ae Af)).symm);refine AXo AAg AMl rfl rfl trivial tt2 (fun _=>rfl) rfl (Aa.o p0) (Aa.o2 p1) (Aa.dj p0 p1 Zl) Zl Be fun Cd Ce Cf Cg Bg Bh Bi=>AAn (AAo (q_b (q_t (AAc (AAx rfl rfl (Zk (Zs ?_)))))));exact ⟨(_,_,_,_,_,_),(Zm Bf).symm,(Aa.m2 p0 p1 Zl Bh Bg Bi).sel [1] Zl,rfl,rfl,trivial⟩
 ·refine AAj (AAk (AAk (ABm (q_t (Zo (Zk (Zu (Zx ?_))))))));obtain rfl:=Zm (Ax _ (Zm (AA9 Ac Ad)).symm);exact ⟨_,Zz,Ab.x,_,_,_,_,rfl,(Ab.o2 p0),Ab.s.sel [0] Zl⟩
def AHt (fuel:Nat) (a3 a7:LiI) (Ab:Int) (Ae:LiA) (Aa:Int):Option ((Int) ⊕ ((Bool) ⊕ (Unit))):=
  (if Aa < (Ae.length:Int) then ((gI a3 Ab).bind fun Af=>((gI Af Aa).bind fun Ag=>((gI a7 Ab).bind fun Ah=>((gI Ah Aa).bind fun Ai=>(if ¬ Ag=Ai then (some (Sum.inr<| Sum.inl <| false)) else (some (Sum.inl (w64 (Aa + 1))))))))) else (some (Sum.inr<| Sum.inr <| ())))
def AHu (fuel:Nat) (a3 a7:LiI) (Aa:Int):Option ((Int) ⊕ ((Bool) ⊕ (Unit))):=
  (if Aa < (a3.length:Int) then ((gI a3 Aa).bind fun Ad=>((gI a7 Aa).bind fun Ae=>(if ¬ (Ad.length:Int)=(Ae.length:Int) then (some (Sum.inr<| Sum.inl <| false)) else ((iter (fun s=>AHt fuel a3 a7 Aa Ad s) fuel 0).bind (fun ex=>match ex with | Sum.inl Af=>(some (Sum.inr<| Sum.inl <| Af)) | Sum.inr (_)=>(some (Sum.inl (w64 (Aa + 1))))))))) else (some (Sum.inr<| Sum.inr <| ())))
def AHj (fuel:Nat) (a3 a7:LiI):Option Bool:=
  (if ¬ (a3.length:Int)=(a7.length:Int) then (some false) else ((iter (fun s=>AHu fuel a3 a7 s) fuel 0).bind (fun ex=>match ex with | Sum.inl Ac=>(some Ac) | Sum.inr (_)=>(some true))))
theorem ATm {fuel:Nat} {h:Zv} {Ap:Value} {a3:LiI} {Ar:Value} {a7:LiI} {r:Bool} (H2:ACx (cI .i64) h Ap a3) (H6:ACx (cI .i64) h Ar a7) (hp:AHj fuel a3 a7=some r):AAw Tryz.prog 83 #[Ap,Ar] h (fun x h'=>Ext h h'/\x= .bool r):=by
 unfold AHj at hp;refine cwf (l:=[_,_]) Tryz.func83 rfl rfl (Zo (Zu (Zp (Zo (Zk (AA6 AAg rfl H2 (Zk (AA6 AAg rfl H6 (ACp rfl rfl (Zs ?_))))))))));have K0:=Kst.k0 h;refine ⟨_,rfl,fun Af=>?_,fun Af=>?_⟩
 ·refine Zo (Zu (Zx (AAd ?_)));obtain rfl:=Zm (AA8 hp Af);exact ⟨_,Zz,K0.x,rfl⟩
 ·refine Zw (q_t (Zp (Zo (Zk (AA6 AAg rfl H2 (Zk (Zs (Zt (AG5 9007199254724720 (AA9 hp Af) (fun x=>[(14,(.int .i64 x))]) (fun x=>K0.L) K0 ⟨rfl,trivial⟩ ?_)))))))));rintro Bh Bi Bj Bl Aa Ag Ah;unfold AHu at Ag;refine Zo (AAv rfl rfl (Zs (Zp (⟨_,rfl,fun Ai=>?_,fun Ai=>?_⟩))))
  ·refine Zw (q_t (Zp (Zt (Zo (Zk (Zu (Zp (Zp (AGe (Zk (Zk ?_)))))))))));obtain ⟨Bm,Av,Az⟩:=Zq (AA8 Ag Ai);refine AGh AAg AA3 H2 Aa.x Av fun _ Bn A3=>ABj AAi rfl A3 (Zk (Zk ?_));obtain ⟨Bo,A4,Aw⟩:=Zq Az;refine AGh AAg AA3 H6 Aa.x A4 fun _ Bp A5=>ABj AAi rfl A5 (ACp rfl rfl (Zs (⟨_,rfl,fun Aj=>?_,fun Aj=>?_⟩)))
   ·refine Zo (Zu (Zx (AAd (ABg (AAd (AAd (ABg (AAd ?_))))))));obtain rfl:=Zm (Ah _ (Zm (AA8 Aw Aj)).symm);exact ⟨_,Zz,Aa.x,rfl⟩
   ·refine Zw (q_t (Zo (Zk (Zk (AGh AAg AA3 H2 Aa.x Av fun _ Bq A6=>ABj AAi rfl A6 (Zk (Zs (Zt (AG5 4503591037435984 (AA9 Aw Aj) (fun x=>[(33,(.int .i64 x))]) (fun x=>Aa.L) Aa ⟨rfl,trivial⟩ ?_)))))))));rintro Br Bt Bu Bv Ab Ak Ax;unfold AHt at Ak;refine Zo (AAv rfl rfl (Zs (Zp (⟨_,rfl,fun Am=>?_,fun Am=>?_⟩))))
    ·refine Zw (q_t (Zp (Zt (Zo (Zk (Zu (Zp (AGe (Zk (Zk ?_))))))))));obtain ⟨Bw,A7,A8⟩:=Zq (AA8 Ak Am);refine AGh AAg AA3 H2 Ab.x A7 fun _ Bx A9=>Zk ?_;obtain ⟨By,Ba,Bb⟩:=Zq A8;refine AUs AAi AAl A9 Ab.x Ba fun _=>(Zk (Zk ?_));obtain ⟨Bz,Bc,Be⟩:=Zq Bb;refine AGh AAg AA3 H6 Ab.x Bc fun _ B1 Bf=>Zk ?_;obtain ⟨B3,Bg,Ay⟩:=Zq Be;refine AUs AAi AAl Bf Ab.x Bg fun _=>(ACp rfl rfl (Zs (⟨_,rfl,fun Ao=>?_,fun Ao=>?_⟩)))
     ·refine Zo (Zu (Zx (ABg (AAd (AAd (ABg (ABg (AAd (AAd (ABg (AAd ?_)))))))))));obtain rfl:=Zm (Ah _ (Zm (Ax _ (Zm (AA8 Ay Ao)).symm)).symm);exact ⟨_,Zz,Ab.x,rfl⟩
     ·refine Zw (q_b (q_t (AAc (AAx rfl rfl (Zk (Zs ?_))))));exact ⟨_,(Zm (AA9 Ay Ao)).symm,Ab,rfl,trivial⟩
    ·refine AAj (AAk (AAk (ABm (q_b (q_t (AAc (AAx rfl rfl (Zk (Zs ?_)))))))));exact ⟨_,(Zm (Ax _ (Zm (AA9 Ak Am)).symm)).symm,Ab,rfl,trivial⟩
  ·refine AAj (AAk (AAk (ABm (q_t (Zo (Zu (Zx ?_)))))));obtain rfl:=Zm (Ah _ (Zm (AA9 Ag Ai)).symm);exact ⟨_,Zz,Aa.x,rfl⟩
def AGl (fuel:Nat) (a9:Int) (Af Ae:LiI) (Ag Ac Ab:Int) (Ad:LiA):Option ((Int × LiA) ⊕ ((LiA))):=
  (if Ab < (Ae.length:Int) then ((gI Ad Ac).bind fun Ah=>((gI Af Ag).bind fun Ai=>((gI Ai Ab).bind fun Aj=>((gI Ae Ab).bind fun Ak=>((gI Ak Ac).bind fun Am=>(if a9≠0 then (if a9≠0 then (some (Sum.inl ((w64 (Ab + 1)),(sI Ad Ac (Int.tmod (w64 (Ah + (Int.tmod (w64 (Aj * Am)) a9))) a9))))) else none) else none)))))) else (some (Sum.inr<| Ad)))
def AGm (fuel:Nat) (a9:Int) (Ad Ae:LiI) (Af:Int) (Ag:LiA) (Aa:Int) (Ab:LiA):Option ((Int × LiA) ⊕ ((LiA))):=
  (if Aa < ((List.replicate (Int.toNat (Ag.length:Int)) (0:Int)).length:Int) then ((iter (fun s=>AGl fuel a9 Ad Ae Af Aa s.1 s.2) fuel (0,Ab)).bind (fun (Ah:LiA)=>(some (Sum.inl ((w64 (Aa + 1)),Ah))))) else (some (Sum.inr<| Ab)))
def AGn (fuel:Nat) (a9:Int) (Ad Ae Ab:LiI) (Ac:Int):Option ((LiI × Int) ⊕ ((LiI))):=
  (if Ac < (Ad.length:Int) then ((gI Ae 0).bind fun Aa=>(if 0<=(Aa.length:Int)/\(Aa.length:Int)<=100000000 then ((iter (fun s=>AGm fuel a9 Ad Ae Ac Aa s.1 s.2) fuel (0,(List.replicate (Int.toNat (Aa.length:Int)) (0:Int)))).bind (fun (Ag:LiA)=>(if Ab.length<=100000000 then (some (Sum.inl ((Ab ++ [Ag]),(w64 (Ac + 1))))) else none))) else none)) else (some (Sum.inr<| Ab)))
def AEc (fuel:Nat) (a3 a7:LiI) (a9:Int):Option LiI:=
  ((AC0 fuel a3 a9).bind fun Ad=>((AC0 fuel a7 a9).bind fun Ae=>((iter (fun s=>AGn fuel a9 Ad Ae s.1 s.2) fuel ([],0)).bind (fun (Af:LiI)=>(some Af)))))
theorem ANc {fuel:Nat} {h:Zv} {Ao:Value} {a3:LiI} {Aq:Value} {a7:LiI} {a9:Int} {r:LiI} (H2:ACx (cI .i64) h Ao a3) (H6:ACx (cI .i64) h Aq a7) (hp:AEc fuel a3 a7 a9=some r):AAw Tryz.prog 142 #[Ao,Aq,(.int .i64 a9)] h (fun x h'=>Ext h h'/\ ∃ (x0:Value) (F0:List Nat) (A9:List LnA) (Ba:List Value),x=x0/\ACy (cI .i64) 60 2 h' F0 A9 Ba x0 r/\Sp h' h.size [F0]):=by
 unfold AEc at hp;refine cwf (l:=[_,_,_]) Tryz.func142 rfl rfl (Zo (AA5 (Zk (Zk ?_))));have K0:=Kst.k0 h;obtain ⟨Cv,Bb,Bc⟩:=Zq hp;refine AM5 K0 (AJ1 (H2.ext K0.x) Bb) fun Cw Cx Cy Cz C0 C1 Ax=>Zk (Zk ?_);obtain ⟨C2,Be,Bf⟩:=Zq Bc;refine AM5 Ax (AJ1 (H6.ext Ax.x) Be) fun C3 C4 C5 C6 C7 C8 Ay=>AAn (AA5 (Zu (Zp (Zo (Zk (AA6 AAg rfl (Ay.o2 p1).rd (Zk (Zs (Zt ?_)))))))));have Az:=Kst.anil2 (cI .i64) 60 2 Ay;refine AFo 4722366482869644169088 (fun x:(LiI) × (Value) × LnA × LnN × LvA × (Int)=>(x.1,x.2.2.2.2.2)) (([],(.slice none 0 0),[],[],[],0):(LiI) × (Value) × LnA × LnN × LvA × (Int)) Bf (fun x=>[(7,x.2.1),(20,(.int .i64 x.2.2.2.2.2))]) (fun x=>Az.L.set 0 (aO2 (cI .i64) 60 2 x.2.2.1 x.2.2.2.1 x.2.2.2.2.1 x.2.1 x.1)) Az ⟨rfl,rfl,trivial⟩ ?_;rintro ⟨C9,Da,Db,Dc,Dd,Bg⟩ De Df Dg Ac Af Bh;unfold AGn at Af;refine Zo (AAv rfl rfl (Zs (Zp (⟨_,rfl,fun Ag=>?_,fun Ag=>?_⟩))))
 ·refine Zw (q_t (Zp (Zt (Zo (Zk (AA5 (Zk ?_)))))));obtain ⟨Bi,A3,Bj⟩:=Zq (AA8 Af Ag);refine AB1 AAg AA3 (Ac.o2 p1) A3 fun _ Dh Bl=>ABj AAi rfl ((Ac.o2 p1).rowI Bl A3) ?_;obtain ⟨Bm,Bn⟩:=ifN Bj;refine AQh (c:=(cI .i64)) (a:=0) AAi AI0 rfl rfl (fun _=>rfl) rfl trivial tt2 rfl rfl Zl Bm fun Bo A4 Di Bp Bq Br Bt=>Zu (Zp (Zo (Zk ?_)));have Ah:=Ac.no Bq (AE8 Br Bt) Bp;refine ABj AAi rfl (Ah.o p0).rd (Zk (Zs (Zt (AFo 147573952588602674176 (fun x:(Int) × (LiA) × LnA=>(x.1,x.2.1)) ((0,(List.replicate (Int.toNat (Bi.length:Int)) (0:Int)),[Bo]):(Int) × (LiA) × LnA) Bn (fun x=>[(30,(.int .i64 x.1))]) (fun x=>Ah.L.set 0 (aO (cI .i64) 2 x.2.2 A4 x.2.1)) Ah ⟨rfl,trivial⟩ ?_))));rintro ⟨Dj,Bu,Bv⟩ Dk Dl Do Ab Ai Bw;unfold AGm at Ai;refine Zo (AAv rfl rfl (Zs (Zp (⟨_,rfl,fun Aj=>?_,fun Aj=>?_⟩))))
  ·refine Zw (q_t (Zp (Zt (Zo (Zk (AA5 (Zk (AA6 AAg rfl (Ab.o2 p2).rd (Zk (Zs (Zt (AFo 73786976260478470144 (fun x:(Int) × (LiA) × LnA=>(x.1,x.2.1)) ((0,Bu,Bv):(Int) × (LiA) × LnA) (AA8 Ai Aj) (fun x=>[(35,(.int .i64 x.1))]) (fun x=>Ab.L.set 0 (aO (cI .i64) 2 x.2.2 A4 x.2.1)) Ab ⟨rfl,trivial⟩ ?_))))))))))));rintro ⟨Bx,Dp,Dq⟩ Dr Ds Dt Aa Ak By;unfold AGl at Ak;refine Zo (AAv rfl rfl (Zs (Zp (⟨_,rfl,fun Am=>?_,fun Am=>?_⟩))))
   ·refine Zw (q_t (Zp (Zt (Zo (Zk (Zu (AGe (Zk (Zk (Zk (Zk ?_)))))))))));obtain ⟨Bz,Ae,B1⟩:=Zq (AA8 Ak Am);refine AXn AAi rfl (Aa.o p0) rfl Ae fun Du B3=>?_;obtain ⟨Dv,B4,B5⟩:=(Aa.o p0).cells B3 Ae;obtain rfl:=B4;refine AA7 AAl rfl (B5 0 _ rfl) (Zk (Zk ?_));obtain ⟨Dw,A5,B6⟩:=Zq B1;refine AB1 AAg AA3 (Aa.o2 p3) A5 fun _ Dx B7=>Zk ?_;obtain ⟨B8,B9,Ca⟩:=Zq B6;refine AIy (m:=Bg) AAi AAl (Aa.o2 p3) B7 A5 B9 fun _=>(Zk (Zk ?_));obtain ⟨Dy,A6,Cb⟩:=Zq Ca;refine AB1 AAg AA3 (Aa.o2 p2) A6 fun _ Dz Cd=>Zk ?_;obtain ⟨Ce,Cf,Cg⟩:=Zq Cb;refine AIy (m:=Bx) AAi AAl (Aa.o2 p2) Cd A6 Cf fun _=>(AL9 rfl rfl (Zk ?_));obtain ⟨Ch,Ci⟩:=ifN Cg;refine ADk rfl rfl Ch (AAx rfl rfl (Zk ?_));obtain ⟨Cj,Ck⟩:=ifN Ci;refine ADk rfl rfl Cj (AXn AAi rfl (Aa.o p0) rfl Ae fun D0 Cm=>Av7 (ANi AAl rfl rfl rfl) (Aa.o p0) Cm Ae (show ((cI .i64)).rep _ (Int.tmod (w64 (Bz + (Int.tmod (w64 (B8 * Ce)) a9))) a9) _ from rfl) fun D1 Cn Co=>AAo (q_b (q_t (AAc (AAx rfl rfl (Zk (Zs ?_)))))));exact ⟨(_,_,_),(Zm Ck).symm,(Aa.uO p0 Co Cn),rfl,trivial⟩
   ·refine AAj (AAk (AAk (ABm (q_b (q_t (AAc (AAx rfl rfl (Zk (Zs ?_)))))))));exact ⟨(_,_,_),(Zm (By _ (Zm (AA9 Ak Am)).symm)).symm,Aa,rfl,trivial⟩
  ·refine AAj (AAk (AAk (ABm (q_t (AAc (Zk (Zk ?_)))))));obtain ⟨Cp,Cq⟩:=ifN (Bw _ (Zm (AA9 Ai Aj)).symm);refine AXo AAg AMl rfl rfl trivial tt2 (fun _=>rfl) rfl (Ab.o p0) (Ab.o2 p1) (Ab.dj p0 p1 Zl) Zl Cp fun D2 D3 D4 D5 Cr Ct Cu=>AAn (AAo (q_b (q_t (AAc (AAx rfl rfl (Zk (Zs ?_)))))));exact ⟨(_,_,_,_,_,_),(Zm Cq).symm,(Ab.m2 p0 p1 Zl Ct Cr Cu).sel [1,2,3] Zl,rfl,rfl,trivial⟩
 ·refine AAj (AAk (AAk (ABm (q_t (Zo (Zk (Zu (Zx ?_))))))));obtain rfl:=Zm (Bh _ (Zm (AA9 Af Ag)).symm);exact ⟨_,Zz,Ac.x,_,_,_,_,rfl,(Ac.o2 p0),Ac.s.sel [0] Zl⟩
def AFv (fuel:Nat) (a3:LiI) (Ad:Int) (Aa:LiA) (Ab:Int):Option ((LiA × Int) ⊕ ((LiA))):=
  (if Ab < (a3.length:Int) then ((gI a3 Ab).bind fun Ae=>((gI Ae Ad).bind fun Af=>(if Aa.length<=100000000 then (some (Sum.inl ((Aa ++ [Af]),(w64 (Ab + 1))))) else none))) else (some (Sum.inr<| Aa)))
def AFw (fuel:Nat) (a3:LiI) (x5:LiA) (Aa:LiI) (Ab:Int):Option ((LiI × Int) ⊕ ((LiI))):=
  (if Ab < (x5.length:Int) then ((iter (fun s=>AFv fuel a3 Ab s.1 s.2) fuel ([],0)).bind (fun (Ae:LiA)=>(if Aa.length<=100000000 then (some (Sum.inl ((Aa ++ [Ae]),(w64 (Ab + 1))))) else none))) else (some (Sum.inr<| Aa)))
def AE5 (fuel:Nat) (a3:LiI):Option LiI:=
  ((gI a3 0).bind fun x5=>((iter (fun s=>AFw fuel a3 x5 s.1 s.2) fuel ([],0)).bind (fun (Ac:LiI)=>(some Ac))))
theorem AQo {fuel:Nat} {h:Zv} {Ah:Value} {a3 r:LiI} (H2:ACx (cI .i64) h Ah a3) (hp:AE5 fuel a3=some r):AAw Tryz.prog 143 #[Ah] h (fun x h'=>Ext h h'/\ ∃ (x0:Value) (F0:List Nat) (Ar:List LnA) (Au:List Value),x=x0/\ACy (cI .i64) 60 2 h' F0 Ar Au x0 r/\Sp h' h.size [F0]):=by
 unfold AE5 at hp;refine cwf (l:=[_]) Tryz.func143 rfl rfl (Zo (AA5 (Zu (Zp (Zo (Zk ?_))))));have K0:=Kst.k0 h;obtain ⟨x5,Av,Aw⟩:=Zq hp;refine AGh AAg AA3 H2 K0.x Av fun _ r8 H9=>ABj AAi rfl H9 (Zk (Zs (Zt ?_)));have Ao:=Kst.anil2 (cI .i64) 60 2 K0;refine AFo 34359736440 (fun x:(LiI) × (Value) × LnA × LnN × LvA × (Int)=>(x.1,x.2.2.2.2.2)) (([],(.slice none 0 0),[],[],[],0):(LiI) × (Value) × LnA × LnN × LvA × (Int)) Aw (fun x=>[(3,x.2.1),(11,(.int .i64 x.2.2.2.2.2))]) (fun x=>Ao.L.set 0 (aO2 (cI .i64) 60 2 x.2.2.1 x.2.2.2.1 x.2.2.2.2.1 x.2.1 x.1)) Ao ⟨rfl,rfl,trivial⟩ ?_;rintro ⟨Bm,Bn,Bo,Bp,Bq,Br⟩ Bt Bu Bv Ab Ad Ay;unfold AFw at Ad;refine Zo (AAv rfl rfl (Zs (Zp (⟨_,rfl,fun Ae=>?_,fun Ae=>?_⟩))))
 ·refine Zw (q_t (Zp (Zt (Zo (Zk (AA5 (Zu (Zp (Zo (Zk ?_))))))))));refine AA6 AAg rfl H2 (Zk (Zs (Zt ?_)));have Ap:=Kst.anil (cI .i64) 2 Ab;refine AFo 1073676384 (fun x:(LiA) × (Value) × LnA × (Int)=>(x.1,x.2.2.2)) (([],(.slice none 0 0),[],0):(LiA) × (Value) × LnA × (Int)) (AA8 Ad Ae) (fun x=>[(5,x.2.1),(16,(.int .i64 x.2.2.2))]) (fun x=>Ap.L.set 0 (aO (cI .i64) 2 x.2.2.1 x.2.1 x.1)) Ap ⟨rfl,rfl,trivial⟩ ?_;rintro ⟨Bw,Bx,By,Bz⟩ B1 B3 B4 Aa Af Az;unfold AFv at Af;refine Zo (AAv rfl rfl (Zs (Zp (⟨_,rfl,fun Ag=>?_,fun Ag=>?_⟩))))
  ·refine Zw (q_t (Zp (Zt (Zo (Zk (Zu (AAc (Zk (Zk (Zk ?_))))))))));obtain ⟨B5,A3,A4⟩:=Zq (AA8 Af Ag);refine AGh AAg AA3 H2 Aa.x A3 fun _ B6 A5=>Zk ?_;obtain ⟨Aq,A6,A7⟩:=Zq A4;refine AUs AAi AAl A5 Aa.x A6 fun _=>?_;obtain ⟨A8,A9⟩:=ifN A7;refine ALt AAi AI0 rfl rfl trivial tt2 (fun _=>rfl) rfl (show ((cI .i64)).rep _ Aq [(.int .i64 Aq)] from rfl) (Aa.o p0) Zl A8 fun B7 B8 B9 Ca Ba Bb Bc=>AAn (AAo (q_b (q_t (AAc (AAx rfl rfl (Zk (Zs ?_)))))));exact ⟨(_,_,_,_),(Zm A9).symm,(Aa.uo p0 Bb Ba Bc),rfl,rfl,trivial⟩
  ·refine AAj (AAk (AAk (ABm (q_t (AAc (Zk (Zk ?_)))))));obtain ⟨Be,Bf⟩:=ifN (Az _ (Zm (AA9 Af Ag)).symm);refine AXo AAg AMl rfl rfl trivial tt2 (fun _=>rfl) rfl (Aa.o p0) (Aa.o2 p1) (Aa.dj p0 p1 Zl) Zl Be fun Cb Cd Ce Cf Bg Bh Bi=>AAn (AAo (q_b (q_t (AAc (AAx rfl rfl (Zk (Zs ?_)))))));exact ⟨(_,_,_,_,_,_),(Zm Bf).symm,(Aa.m2 p0 p1 Zl Bh Bg Bi).sel [1] Zl,rfl,rfl,trivial⟩
 ·refine AAj (AAk (AAk (ABm (q_t (Zo (Zk (Zu (Zx ?_))))))));obtain rfl:=Zm (Ay _ (Zm (AA9 Ad Ae)).symm);exact ⟨_,Zz,Ab.x,_,_,_,_,rfl,(Ab.o2 p0),Ab.s.sel [0] Zl⟩
def AEj (fuel:Nat) (a3 a7:LiI) (a9:Int):Option (LiI × Int):=
  ((((ADc fuel a3).bind fun Ad=>(if (!Ad)=true then (some (Sum.inl <| ([],3))) else ((ADc fuel a7).bind fun Ae=>(if (!Ae)=true then (some (Sum.inl <| ([],3))) else ((gI a3 0).bind fun Af=>(if ¬ (a3.length:Int)=(Af.length:Int) then (some (Sum.inl <| ([],3))) else (if ¬ (a7.length:Int)=(a3.length:Int) then (some (Sum.inl <| ([],3))) else (some (Sum.inr <| ()))))))))):Option (((LiI × Int)) ⊕ (Unit))).bind (fun ex=>match ex with | Sum.inl Ag=>(some Ag) | Sum.inr (_)=>((AEb fuel a9).bind fun Ah=>(if (!Ah)=true then (some ([],1)) else ((AE5 fuel a7).bind fun Ai=>((AEc fuel a3 a7 a9).bind fun Aj=>((AEc fuel Ai Aj a9).bind fun Ak=>(some (Ak,0)))))))))
theorem AP8 {fuel:Nat} {h:Zv} {Ax:Value} {a3:LiI} {Ay:Value} {a7:LiI} {a9:Int} {r:(LiI × Int)} (H2:ACx (cI .i64) h Ax a3) (H6:ACx (cI .i64) h Ay a7) (hp:AEj fuel a3 a7 a9=some r):AAw Tryz.prog 82 #[Ax,Ay,(.int .i64 a9)] h (fun x h'=>Ext h h'/\ ∃ (x0:Value) (F0:List Nat) (Be:List LnA) (Bf:List Value),x= .tuple #[x0,.int .i64 r.2]/\ACy (cI .i64) 60 2 h' F0 Be Bf x0 r.1/\Sp h' h.size [F0]):=by
 unfold AEj at hp;refine cwf (l:=[_,_,_]) Tryz.func82 rfl rfl (Zo (AAn (Zu ?_)));have K0:=Kst.k0 h;obtain ⟨Bg,Bh,Ab⟩:=Zq hp;refine AKi 4294967232 (fun x:Unit=>[]) (fun x h'=>(Sum.inr <| ())=Bg/\Kst h h' (K0.L)) ?_ ?_
 ·refine Zo (Zk ?_);obtain ⟨Bi,Bj,A6⟩:=Zq Bh;refine ACa K0 (AKt (H2.ext K0.x) Bj) fun B3 B4 Ah=>ACr rfl (Zk ?_);cases A7:(!Bi)
  ·refine Z4 11 false (Zk (Z4 11 false ?_));obtain ⟨Bl,Bm,A8⟩:=Zq (AFe A6 A7);refine ACa Ah (AKt (H6.ext Ah.x) Bm) fun B5 B6 Ac=>Z4 11 false (ACr rfl (Z1 rfl (Zk ?_)));cases A9:(!Bl)
   ·refine Z4 16 false (Zk (Z4 16 false (AA6 AAg rfl H2 (Z4 16 false (Zk (Z4 16 false ?_))))));obtain ⟨Bn,Bo,Ba⟩:=Zq (AFe A8 A9);refine ATc AAg rfl H2 rfl Bo fun B7 B8 B9 Bp Bq=>Z4 16 false (AA7 AA3 rfl (AAz Bp Ac.x) (Z4 16 false (ABj AAi rfl Bq (Z4 16 false (ACp rfl rfl (Z1 rfl (Zk ?_)))))));by_cases Ae: ¬ (a3.length:Int)=(Bn.length:Int)
    ·rw [decide_eq_true Ae];refine ADf 25 true (AAa rfl (Zs (AAr rfl (Zo (AAn (Zu ?_))))));obtain rfl:=Zm (ifT Ba Ae);refine Zx (AAd ?_);have Ai:=Kst.anil2 (cI .i64) 60 2 Ac;obtain rfl:=Zm Ab;exact ⟨_,ABi,Ai.x,_,_,_,_,rfl,(Ai.o2 p0),Ai.s.sel [0] Zl⟩
    ·have Bb:=ifF Ba Ae;rw [decide_eq_false Ae];refine Z4 25 false (Zk (Z4 25 false (AA6 AAg rfl H6 (Z4 25 false (Zk (Z4 25 false (AA6 AAg rfl H2 (Z4 25 false (ACp rfl rfl (Z1 rfl (Zs (⟨_,rfl,fun Aj=>?_,fun Aj=>?_⟩))))))))))))
     ·refine Zo (AAn (Zu ?_));obtain rfl:=Zm (AA8 Bb Aj);refine Zx (AAd ?_);have Ak:=Kst.anil2 (cI .i64) 60 2 Ac;obtain rfl:=Zm Ab;exact ⟨_,ABi,Ak.x,_,_,_,_,rfl,(Ak.o2 p0),Ak.s.sel [0] Zl⟩
     ·refine Zw (q_t ?_);exact ⟨(():Unit),⟨Zm (AA9 Bb Aj),Ac⟩,trivial⟩
   ·refine ADf 16 true (AG3 16 true (AAa rfl (Zk (ADf 25 true (AAa rfl (Zs (AAr rfl (Zo (AAn (Zu ?_))))))))));obtain rfl:=Zm (ifT A8 A9);refine Zx (AAd ?_);have Am:=Kst.anil2 (cI .i64) 60 2 Ac;obtain rfl:=Zm Ab;exact ⟨_,ABi,Am.x,_,_,_,_,rfl,(Am.o2 p0),Am.s.sel [0] Zl⟩
  ·refine AC8 11 true (AAa rfl (Zk (ADf 16 true (AG3 16 true (AAa rfl (Zk (ADf 25 true (AAa rfl (Zs (AAr rfl (Zo (AAn (Zu ?_)))))))))))));obtain rfl:=Zm (ifT A6 A7);refine Zx (AAd ?_);have Ao:=Kst.anil2 (cI .i64) 60 2 Ah;obtain rfl:=Zm Ab;exact ⟨_,ABi,Ao.x,_,_,_,_,rfl,(Ao.o2 p0),Ao.s.sel [0] Zl⟩
 rintro ⟨⟩ Ca Cb ⟨Br,Bt⟩;subst Br;refine Zp (Zo (Zk ?_));obtain ⟨Cd,Bu,Bc⟩:=Zq Ab;refine ACa Bt (ANb Bu) fun Ce Cf Ap=>ACr rfl (Zs (⟨_,rfl,fun Aq=>?_,fun Aq=>?_⟩))
 ·refine Zo (AAn (Zu (Zx (AAd ?_))));have Ar:=Kst.anil2 (cI .i64) 60 2 Ap;obtain rfl:=Zm (ifT Bc Aq);exact ⟨_,ABi,Ar.x,_,_,_,_,rfl,(Ar.o2 p0),Ar.s.sel [0] Zl⟩
 ·refine Zw (q_t (Zo (Zk ?_)));obtain ⟨Cg,Bv,Bw⟩:=Zq (AFe Bc Aq);refine AM5 Ap (AQo (H6.ext Ap.x) Bv) fun Ch Ci Cj Ck Cm Cn Au=>Zk (Zk (Zk ?_));obtain ⟨Co,Bx,By⟩:=Zq Bw;refine AM5 Au (ANc (H2.ext Au.x) (H6.ext Au.x) Bx) fun Cp Cq Cr Ct Cu Cv Av=>Zk ?_;obtain ⟨Cw,Bz,B1⟩:=Zq By;refine AM5 Av (ANc (Av.o2 p1).rd (Av.o2 p0).rd Bz) fun Cx Cy Cz C0 C1 C2 Aw=>AAn (Zu (Zx ?_));obtain rfl:=Zm B1;exact ⟨_,ABi,Aw.x,_,_,_,_,rfl,(Aw.o2 p0),Aw.s.sel [0] Zl⟩
def AGo (fuel:Nat) (a3:LiI):Option Bool:=
  ((ADc fuel a3).bind fun x5=>(if x5=true then ((gI a3 0).bind fun Ac=>(if (a3.length:Int)=(Ac.length:Int) then (some (decide ((a3.length:Int)<=8))) else (some false))) else (some false)))
theorem AR5 {fuel:Nat} {h:Zv} {Ae:Value} {a3:LiI} {r:Bool} (H2:ACx (cI .i64) h Ae a3) (hp:AGo fuel a3=some r):AAw Tryz.prog 137 #[Ae] h (fun x h'=>Ext h h'/\x= .bool r):=by
 unfold AGo at hp;refine cwf (l:=[_]) Tryz.func137 rfl rfl (Zo (AA5 (Zk ?_)));have K0:=Kst.k0 h;obtain ⟨x5,Ak,Ag⟩:=Zq hp;refine ACa K0 (AKt (H2.ext K0.x) Ak) fun h9 E8 Ab=>Zk ?_;cases Ah:x5
 ·refine ADf 5 false (AG3 5 false (Z1 rfl (Zk (AC8 14 false (Z1 rfl (Zu (Zx ?_)))))));obtain rfl:=Zm (AFe Ag Ah);exact ⟨_,Zz,Ab.x,rfl⟩
 ·refine Z4 5 true (Zk (Z4 5 true (AA6 AAg rfl H2 (Z4 5 true (Zk (Z4 5 true ?_))))));obtain ⟨Am,Ao,Ai⟩:=Zq (ifT Ag Ah);refine ATc AAg rfl H2 rfl Ao fun Av Aw Ax Ap Aq=>Z4 5 true (AA7 AA3 rfl (AAz Ap Ab.x) (Z4 5 true (ABj AAi rfl Aq (Z4 5 true (ABx rfl rfl (AAa rfl (Zk ?_)))))));by_cases Ac:(a3.length:Int)=(Am.length:Int)
  ·rw [decide_eq_true Ac];refine Z4 14 true (Zk (Z4 14 true (AA6 AAg rfl H2 (Z4 14 true (AWx rfl rfl (AAa rfl (Zu (Zx ?_))))))));obtain rfl:=Zm (ifT Ai Ac);exact ⟨_,Zz,Ab.x,rfl⟩
  ·rw [decide_eq_false Ac];refine AC8 14 false (Z1 rfl (Zu (Zx ?_)));obtain rfl:=Zm (ifF Ai Ac);exact ⟨_,Zz,Ab.x,rfl⟩
def AEa (fuel:Nat) (a3:LiI):Option Int:=
  ((ADt fuel a3).bind fun Ab=>((ABf fuel Ab).bind fun Ac=>(some Ac)))
theorem APs {fuel:Nat} {h:Zv} {Ab:Value} {a3:LiI} {r:Int} (H2:ACx (cI .i64) h Ab a3) (hp:AEa fuel a3=some r):AAw Tryz.prog 140 #[Ab] h (fun x h'=>Ext h h'/\ ∃ (x0:Value),x=x0/\ZZ h' x0 r):=by
 unfold AEa at hp;refine cwf (l:=[_]) Tryz.func140 rfl rfl (Zo (AC4 (Kst.k0 h) [.bool false,.slice none 0 0] AE3 fun b5 h6 E8 Ae=>AId (Zk ?_)));obtain ⟨Au,Ai,Aj⟩:=Zq hp;refine AM5 Ae (AJe (H2.ext Ae.x) Ai) fun Av Aw Ax v20 Ay Az Af=>?_;obtain ⟨A3,Ak,Am⟩:=Zq Aj;refine AN0 Af (ACq (Af.o2 p0).rd Ak) fun A4 Ao A5 Ag=>AGd Ag p2 (AAf Ao) (Ag.z p0) fun A6 Aa=>Zs (Zx ?_);obtain rfl:=Zm Am;exact ⟨_,ACg ABn (cZ.klen (Aa.z p0)) rfl (Aa.b p2),Aa.x,_,rfl,(Aa.z p0).2⟩
def AGv (fuel:Nat) (a3:LiI) (a5:Int):Option (Int × Int):=
  ((AGo fuel a3).bind fun x6=>(if (!x6)=true then (some (0,3)) else ((AEb fuel a5).bind fun Ad=>(if (!Ad)=true then (some (0,1)) else ((AC0 fuel a3 a5).bind fun Ae=>((AEa fuel Ae).bind fun Af=>((AF9 fuel Af a5).bind fun Ag=>(some (Ag,0)))))))))
theorem AUm {fuel:Nat} {h:Zv} {Ad:Value} {a3:LiI} {a5:Int} {r:(Int × Int)} (H2:ACx (cI .i64) h Ad a3) (hp:AGv fuel a3 a5=some r):AAw Tryz.prog 81 #[Ad,(.int .i64 a5)] h (fun x h'=>Ext h h'/\x= .tuple #[.int .i64 r.1,.int .i64 r.2]):=by
 unfold AGv at hp;refine cwf (l:=[_,_]) Tryz.func81 rfl rfl (Zo (AAn (Zu (Zp (Zo (Zk ?_))))));have K0:=Kst.k0 h;obtain ⟨x6,Ap,Ai⟩:=Zq hp;refine ACa K0 (AR5 (H2.ext K0.x) Ap) fun A4 E9 Aj=>ACr rfl (Zs (⟨_,rfl,fun Aa=>?_,fun Aa=>?_⟩))
 ·refine Zo (AAn (Zu (Zx (AAd ?_))));obtain rfl:=Zm (ifT Ai Aa);exact ⟨_,ABi,Aj.x,rfl⟩
 ·refine Zw (q_t (Zp (Zo (Zk ?_))));obtain ⟨A6,Aq,Ak⟩:=Zq (AFe Ai Aa);refine ACa Aj (ANb Aq) fun A7 A8 Ab=>ACr rfl (Zs (⟨_,rfl,fun Ac=>?_,fun Ac=>?_⟩))
  ·refine Zo (AAn (Zu (Zx (AAd ?_))));obtain rfl:=Zm (ifT Ak Ac);exact ⟨_,ABi,Ab.x,rfl⟩
  ·refine Zw (q_t (Zo (Zk (Zk ?_))));obtain ⟨A9,Ar,Au⟩:=Zq (AFe Ak Ac);refine AM5 Ab (AJ1 (H2.ext Ab.x) Ar) fun Ba Bb Bc Be Bf Bg Am=>?_;obtain ⟨Bh,Av,Aw⟩:=Zq Au;refine AN0 Am (APs (Am.o2 p0).rd Av) fun Bi Bj Bl Ao=>Zk ?_;obtain ⟨Bm,Ax,Ay⟩:=Zq Aw;refine ACa Ao (ARt (Ao.z p0).2 Ax) fun Bn Bo Az=>AAn (Zu (Zx ?_));obtain rfl:=Zm Ay;exact ⟨_,ABi,Az.x,rfl⟩
end Go.Proofs.YtdkldlbgcfpglaaGreatDoor
namespace Go.QF
theorem AV6:∀ {n:Nat} {m:Int} {F G:AAb},(∀ i j,i < n->j < n->Eqm m (F i j) (G i j))->Eqm m (det n F) (det n G):=by
 intro n m
 induction n with
 | zero=>intro _ _ _;rfl
 | succ n ih=>
   intro F G h
   refine Eqm.psum fun i hi=>?_
   exact ((Eqm.refl _ _).mul (h i 0 hi Zj)).mul (ih (F:=AFa i F) (G:=AFa i G) fun a b ha hb=>h _ _ (Aod ha) Zj)
theorem Alc {n c i:Nat} {q m:Int} {F:AAb} (hc:c < n) (hi:i < n) (hne:c≠i):Eqm m (det n (ATb F c i q m)) (-det n F):=by
  rw [<- ALp (F:=F) hc hi hne (-q),<- AP6 (F:=ABy F c fun x=>F c x + -q * F i x) hc hi hne];refine AV6 fun a b ha hb=>?_;unfold ATb;rw [AJ3,AJ3];simp only [ABd]
  have key:Eqm m ((F c b + (m - q) * F i b) % m) (F c b + -q * F i b):=by
    refine (Eqm.mod _ _).trans ?_;unfold Eqm;rw [show F c b + (m - q) * F i b=F c b + -q * F i b + m * F i b by grind,Int.add_mul_emod_self_left]
  split
  · split <;> first | exact key | rfl
  · split
    · split <;> first | exact key | rfl
    · first | rfl | exact key
theorem Aow {F:AAb} {m s:Int}:∀ n,Eqm m (ATz F m s n) (s * AGx (fun i=>F i i) n):=by
 intro n
 induction n with
 | zero=>unfold ATz AGx Eqm;rw [Int.add_emod_right,Int.mul_one]
 | succ n ih=>
   unfold ATz AGx
   refine (Eqm.mod _ _).trans ?_
   rw [<- Int.mul_assoc]
   exact ((Eqm.mod _ _).trans ih).mul (Eqm.refl _ _)
def Aum (M:List (List Int)) (m:Int):Int:=if AOy M && AZo m then det M.length (ent M) % m else 0
def Aun (M:List (List Int)) (m:Int):Int:=if AOy M then (if AZo m then 0 else 1) else 3
end Go.QF
namespace Go.Proofs.YtdkldlbgcfpglaaGreatDoor
open Go Go.QF
end Go.Proofs.YtdkldlbgcfpglaaGreatDoor
namespace Go.Proofs.YtdkldlbgcfpglaaGreatDoor
open Go Go.QF
theorem Auo {fuel:Nat} {a m:Int} (hm:0 < m) (Ae:m<=2147483647):AIa fuel a m=some (a % m):=by
 unfold AIa;rw [if_pos Zj];have h1:=Int.tmod_lt_of_pos a hm
 have h2: -m < Int.tmod a m:=by
   have:=Int.tmod_lt_of_pos (-a) hm
   rw [Int.neg_tmod] at this;omega
 have h3:Int.tmod a m=a % m∨Int.tmod a m=a % m - m:=by
   rcases Int.lt_or_le a 0 with h | h
   · have e1:Int.tmod a m= -((-a) % m):=by rw [show a= -(-a) by omega,Int.neg_tmod,Int.tmod_eq_emod_of_nonneg Zj];simp
     rcases Int.lt_or_eq_of_le (Int.emod_nonneg (-a) (by omega:m≠0)) with h4 | h4
     · right
       rw [e1]
       have:=Int.emod_add_mul_ediv (-a) m
       have h5:a % m=m - (-a) % m:=by
         have h6:=Int.emod_lt_of_pos (-a) hm
         have e:a=(m - (-a) % m) + m * (-(-a / m) - 1):=by
           have e0:m * (-(-a / m) - 1)= -(m * (-a / m)) - m:=by rw [Int.mul_sub,Int.mul_neg,Int.mul_one]
           omega
         conv=>lhs;rw [e]
         rw [Int.add_mul_emod_self_left,Int.emod_eq_of_lt Zj Zj]
       omega
     · left
       rw [e1,<- h4]
       have:m ∣ -a:=Int.dvd_of_emod_eq_zero h4.symm
       have:m ∣ a:=(Int.dvd_neg).1 this
       rw [Int.emod_eq_zero_of_dvd this];rfl
   · left;exact Int.tmod_eq_emod_of_nonneg h
 have h4:=Int.emod_nonneg a (by omega:m≠0);have h5:=Int.emod_lt_of_pos a hm;rcases h3 with h3 | h3
 ·rw [if_neg Zj,h3]
 ·rw [if_pos Zj,wk Zj];congr 1;omega
theorem Ajl {fuel:Nat} {A:List (List Int)} (hf:21 < fuel):ADc fuel A=some (AQf A):=by
 apply ok_eq;unfold ADc;have hbad:∀ h: ¬ Valid A,AQf A=false:=fun h=>(Amk h).symm;refine Zr (Q:=fun ex=>match ex with | .inl e=>e=false/\AQf A=false | .inr _=>1<=A.length/\A.length<=16) (AAh (fun h=>Zn ⟨rfl,hbad fun hv=>by have:=hv.1;omega⟩) fun h=>AAh (fun h2=>Zn ⟨rfl,hbad fun hv=>by have:=hv.2.1;omega⟩) fun h2=>Zn ⟨Zj,Zj⟩) fun ex hex=>?_
 cases ex with
 | inl e=>exact Zn (hex.1.trans hex.2.symm)
 | inr u=>
   dsimp only at hex ⊢
   obtain ⟨z0,Aa⟩:∃ z,A[0]? =some z:=⟨A[0]'Zj,List.getElem?_eq_getElem _⟩
   have hc:=AQ7 Aa
   refine Zr (ABa (fun i (s:Int)=>s=(i:Int)/\ ∀ z∈A.take i,1<=z.length/\z.length<=16/\z.length=ANg A) A.length (Q:=fun ex=>match ex with | .inl e=>e=false/\AQf A=false | .inr _=>AQf A=true) ⟨rfl,AA4⟩ Zj fun i s hi hI=>?_) fun ex Ac=>?_
   · obtain ⟨rfl,hI⟩:=hI
     unfold AKs
     refine AAh (fun h=>?_) (fun h=>Zn ?_)
     · have hi':i < A.length:=by omega
       obtain ⟨row,hrow⟩:∃ row,A[i]? =some row:=⟨A[i],List.getElem?_eq_getElem hi'⟩
       have bad: ¬ (1<=row.length/\row.length<=16/\row.length=ANg A)->AQf A=false:=fun hb=>hbad fun hv=>hb (by have:=hv.2.2.2.2 row (List.mem_of_getElem? hrow);have:=hv.2.2.1;have:=hv.2.2.2.1;omega)
       refine AAu hrow rfl (AAu Aa rfl (AAh (fun h1=>Zn ⟨rfl,bad Zj⟩) fun h1=>AAh (fun h2=>Zn ⟨rfl,bad Zj⟩) fun h2=>AAh (fun h3=>Zn ⟨rfl,bad Zj⟩) fun h3=>Zn ⟨hi',wk Zj,?_⟩))
       rw [List.take_add_one,hrow]
       intro z hz
       rcases List.mem_append.1 hz with hz | hz
       · exact hI z hz
       · rw [show z=row by simpa using hz];omega
     · obtain rfl:i=A.length:=by omega
       rw [List.take_length] at hI
       refine (Aml ⟨hex.1,hex.2,?_,?_,fun z hz=>(hI z hz).2.2⟩).symm
       · have:=hI z0 (List.mem_of_getElem? Aa);omega
       · have:=hI z0 (List.mem_of_getElem? Aa);omega
   · cases ex with
     | inl e=>exact Zn (Ac.1.trans Ac.2.symm)
     | inr u=>exact Zn Ac.symm
theorem Ald {fuel:Nat} {row:List Int} {m:Int} (hm:0 < m) (Aa:m<=2147483647) (hl:row.length<=100000000) (hf:row.length < fuel):iter (fun s=>AGy fuel m row s.1 s.2) fuel ([],0)=some (row.map (· % m)):=by
 apply ok_eq;refine ABa (fun i s=>s=((row.take i).map (· % m),(i:Int))) row.length AA4 hf fun i s hi hI=>?_;subst hI;unfold AGy;dsimp only;refine AAh (fun h=>?_) (fun h=>Zn ?_)
 ·obtain ⟨x,hx⟩:∃ x,row[i]? =some x:=⟨row[i]'Zj,List.getElem?_eq_getElem _⟩;refine AAu hx rfl (Zr (ABc (Auo hm Aa)) fun y hy=>AB5 (by simp;omega) (Zn ⟨Zj,?_⟩));subst hy;rw [wk Zj,List.take_add_one,hx];simp
 ·obtain rfl:i=row.length:=by omega
  rw [List.take_length]
theorem Af5 {fuel:Nat} {A:List (List Int)} {m:Int} (hm:0 < m) (Aa:m<=2147483647) (hl:A.length<=100000000) (hf:A.length < fuel) (hr:∀ z∈A,z.length<=100000000/\z.length < fuel):AC0 fuel A m=some (AP3 A m):=by
 apply ok_eq;unfold AC0;refine Zr (ABa (fun i s=>s=(AP3 (A.take i) m,(i:Int))) A.length (Q:=(· =AP3 A m)) (by simp [AP3]) hf fun i s hi hI=>?_) fun x hx=>Zn hx;subst hI;unfold AJ0;dsimp only;refine AAh (fun h=>?_) (fun h=>Zn ?_)
 ·have hi':i < A.length:=by omega
  obtain ⟨row,hrow⟩:∃ row,A[i]? =some row:=⟨A[i],List.getElem?_eq_getElem hi'⟩;have:=hr row (List.mem_of_getElem? hrow);refine AAu hrow rfl (Zr (ABc (Ald hm Aa this.1 this.2)) fun y hy=>AB5 (by simp [AP3];omega) (Zn ⟨hi',?_⟩));subst hy;rw [wk Zj,List.take_add_one,hrow];simp [AP3]
 ·obtain rfl:i=A.length:=by omega
  rw [List.take_length]
theorem Ac7 {fuel:Nat} {m:Int}:AEb fuel m=some (AZo m):=by
 unfold AEb AZo;split
 ·congr 1;simp;omega
 ·congr 1;symm;simp;omega
theorem Aox {fuel:Nat} {A:List (List Int)} (hf:21 < fuel):AGo fuel A=some (AOy A):=by
 apply ok_eq;unfold AGo;refine Zr (ABc (Ajl hf)) fun v hv=>?_;subst hv;refine AAh (fun h=>?_) (fun h=>Zn ?_)
 ·have hv:Valid A:=by simpa [AQf] using h
  obtain ⟨z0,Ab⟩:∃ z,A[0]? =some z:=⟨A[0]'(by have:=hv.1;omega),List.getElem?_eq_getElem _⟩;have hc:=AQ7 Ab;refine AAu Ab rfl (AAh (fun h2=>Zn ?_) (fun h2=>Zn ?_))
  ·unfold AOy;rw [Bool.eq_iff_iff];simp only [decide_eq_true_eq];constructor
   ·intro h3;exact ⟨hv,Zj,Zj⟩
   ·intro h3;have:=h3.2.2;omega
  ·symm;unfold AOy;rw [decide_eq_false_iff_not];intro h3;have:=h3.2.1;omega
 ·symm;unfold AOy;rw [decide_eq_false_iff_not];intro h3;exact h (by simpa [AQf] using h3.1)
theorem Ale {fuel:Nat} {d m:Int} (hm:0 < m) (Aa:m<=2147483647) (hd:d.natAbs < AC3):AF9 fuel d m=some (d % m):=by
 have h4:=Int.emod_nonneg d (by omega:m≠0);have h5:=Int.emod_lt_of_pos d hm;have hb:m.natAbs < AC3:=Nat.lt_of_lt_of_le (show m.natAbs < 2147483648 by omega) Zl;unfold AF9 AKy;rw [if_pos Zj];show (AD2 fuel d m).bind _=_;unfold AD2 ATe;rw [if_pos ⟨hd,hb,Zj⟩];show (AV1 fuel (d % m)).bind _=_;unfold AV1;rw [if_pos Zj];rfl
theorem AZk {A:List (List Int)} {m:Int} (hm:0 < m) (Aa:m<=2147483647) (i j:Nat):(ent (AP3 A m) i j).natAbs<=m63:=by
 rw [Air];have h4:=Int.emod_nonneg (ent A i j) (by omega:m≠0);have h5:=Int.emod_lt_of_pos (ent A i j) hm;unfold m63;omega
theorem Abj {A:List (List Int)} {m:Int} (h:AOy A=true):AP3 A m=tab A.length A.length (ent (AP3 A m))/\okM (AP3 A m)=true/\A.length<=8/\1<=A.length:=by
 have hs:Aak A:=by simpa [AOy] using h
 obtain ⟨hv,h1,h2⟩:=hs
 have hr:∀ z∈AP3 A m,z.length=A.length:=fun z hz=>by
   obtain ⟨y,hy,rfl⟩:=List.mem_map.1 hz
   rw [List.length_map,hv.2.2.2.2 y hy];omega
 refine ⟨?_,?_,h2,hv.1⟩
 ·have:=AYp hr;rwa [Aiq] at this
 ·unfold okM;rw [decide_eq_true_eq,Aiq];refine ⟨hv.1,Zj,fun z hz=>?_⟩;rw [hr z hz,Amq];exact ⟨hv.1,Zj,h1⟩
theorem Ah3 {fuel:Nat} {A:List (List Int)} {m:Int} (hf:21 < fuel) (hs:AOy A=true) (hm:AZo m=true):AEa fuel (AP3 A m)=some (det A.length (ent (AP3 A m))):=by
 have hm':2<=m/\m<=2147483647:=by simpa [AZo] using hm
 obtain ⟨ht,hok,h8,h1⟩:=Abj (m:=m) hs;unfold AEa
 have hr:∀ z∈AP3 A m,∀ x∈z,-9223372036854775808<=x/\x<=9223372036854775807:=fun z hz x hx=>by
   obtain ⟨y,hy,rfl⟩:=List.mem_map.1 hz
   obtain ⟨w,hw,rfl⟩:=List.mem_map.1 hx
   have h4:=Int.emod_nonneg w (by omega:m≠0)
   have h5:=Int.emod_lt_of_pos w (by omega:0 < m)
   omega
 rw [Ata hr Zj,hok];show (ABf fuel (AP3 A m)).bind _=_;have:=Auf (fuel:=fuel) (n:=A.length) (F:=ent (AP3 A m)) Zj (fun i j=>AZk Zj Zj i j) Zj;rw [<- ht] at this;rw [this];rfl
theorem Ary {A:List (List Int)} {m:Int} {n:Nat} (hm:0 < m) (Aa:m<=2147483647) (hn:n<=16):(det n (ent (AP3 A m))).natAbs < AC3:=Aon (Nat.le_trans (AXw fun i j=>AZk hm Aa i j) (Aoo hn).1)
theorem Af6 {A:List (List Int)} {m:Int} {n:Nat}:det n (ent (AP3 A m)) % m=det n (ent A) % m:=AV6 fun i j _ _=>by rw [Air];exact Eqm.mod _ _
theorem Aoy {fuel:Nat} {A:List (List Int)} {m:Int} (hf:21 < fuel) (hl:A.length<=20/\ ∀ z∈A,z.length<=20):AGv fuel A m=some (Aum A m,Aun A m):=by
 apply ok_eq;unfold AGv Aum Aun;refine Zr (ABc (Aox hf)) fun v hv=>?_;subst hv
 cases hs:AOy A with
 | false=>exact Zn rfl
 | true=>
   refine AAh (fun h=>by cases h) fun _=>Zr (ABc Ac7) fun v hv=>?_
   subst hv
   cases hm:AZo m with
   | false=>exact Zn rfl
   | true=>
     have hm':2<=m/\m<=2147483647:=by simpa [AZo] using hm
     refine AAh (fun h=>by cases h) fun _=>Zr (ABc (Af5 Zj Zj Zj Zj fun z hz=>by have:=hl.2 z hz;omega)) fun R hR=>?_
     subst hR
     refine Zr (ABc (Ah3 hf hs hm)) fun d hd=>?_
     subst hd
     obtain ⟨ht,hok,h8,h1⟩:=Abj (m:=m) hs
     refine Zr (ABc (Ale Zj Zj (Ary Zj Zj Zj))) fun x hx=>Zn ?_
     subst hx
     rw [Af6];rfl
end Go.Proofs.YtdkldlbgcfpglaaGreatDoor
namespace Go.QF
def Aup (n:Nat) (F:AAb) (i j:Nat):Int:=det n (ABy F i (dl j))
def Abk (n:Nat) (F:AAb) (i j:Nat):Int:=Aup n F j i
def tau (j c:Nat):Nat:=if c=j then j + 1 else if c=j + 1 then j else c
theorem Af7 {n j:Nat} {F:AAb} (hj:j + 1 < n):det n (fun r c=>F r (tau j c))= -det n F:=by
 rw [<- AQl (fun r c=>F r (tau j c)),<- AQl F,<- AP6 (F:=trF F) (a:=j) (b:=j + 1) Zj hj Zj];refine AB8 fun c r hc hr=>?_;rw [AJ3];show F r (tau j c)=if c=j + 1 then F r j else if c=j then F r (j + 1) else F r c;unfold tau;by_cases h1:c=j + 1
 ·subst h1;simp
 ·by_cases h2:c=j
  ·subst h2;simp
  ·simp [h1,h2]
theorem APt {f:Nat->Int} {n a:Nat} (ha:a < n) (h:∀ i,i < n->i≠a->f i=0):psum f n=f a:=by
 rw [ABb (g:=fun i=>if i=a then f a else 0) (fun k hk=>?_),ALd ha (fun i hi=>if_neg hi),if_pos rfl];by_cases e:k=a
 ·subst e;rw [if_pos rfl]
 ·rw [if_neg e,h k hk e]
theorem Arz {n:Nat} {F:AAb} {i j:Nat} (hi:i < n) (hj:j < n):psum (fun k=>F i k * Aup n F j k) n=if i=j then det n F else 0:=by
 have h:=Aa8 (F:=F) hj (F i) dl n
 have e:det n (ABy F j fun q=>psum (fun k=>F i k * dl k q) n)=det n (ABy F j (F i)):=AB8 fun r c _ hc=>by
   rw [ABd,ABd]
   split
   · exact Ahu (F:=F) (i:=i) hc
   · rfl
 unfold Aup;rw [<- h,e];split
 ·subst_vars
  refine AB8 fun r c _ _=>?_;rw [ABd];split
  ·subst_vars;rfl
  ·rfl
 ·rename_i hij;refine AOm hi hj hij ?_;funext c;rw [ABd,if_neg hij,ABd,if_pos rfl]
theorem Alf {n:Nat} {F:AAb} {i j:Nat} (hi:i < n) (hj:j < n):psum (fun k=>F i k * Abk n F k j) n=det n F * dl i j:=by
 unfold Abk;rw [Arz hi hj];unfold dl;split <;> simp
end Go.QF
namespace Go.Proofs.YtdkldlbgcfpglaaGreatDoor
open Go Go.QF
theorem Af8 {fuel n r c:Nat} {F:AAb} {f g:Nat->Nat} (hr:r<=100) (hc:c<=100) (hf:100 < fuel) (hfn:∀ a,a < r->f a < n) (hgn:∀ a,a < c->g a < n):AEq fuel (tab n n F) (AB6 r fun a=>(f a:Int)) (AB6 c fun a=>(g a:Int))=some (tab r c fun a b=>F (f a) (g b)):=by
 apply ok_eq;unfold AEq;refine Zr (ABa (fun i s=>s=(AB6 i fun a=>AB6 c fun b=>F (f a) (g b),(i:Int))) r (Q:=(· =tab r c fun a b=>F (f a) (g b))) rfl Zj fun i s hi hI=>?_) fun y hy=>Zn hy;subst hI;unfold AJt;dsimp only;rw [AA2];refine AAh (fun h=>?_) (fun h=>Zn ?_)
 ·have hi':i < r:=by omega
  refine AAu (AAq hi') rfl (Zr (ABa (fun j s=>s=(AB6 j fun b=>F (f i) (g b),(j:Int))) c (Q:=(· =AB6 c fun b=>F (f i) (g b))) rfl Zj fun j s hj hJ=>?_) fun e he=>AB5 (by rw [AA2];omega) (Zn ⟨hi',?_⟩))
  ·subst hJ;unfold AJs;dsimp only;rw [AA2,AA2];refine AAh (fun h2=>?_) (fun h2=>Zn ?_)
   ·have hj':j < c:=by omega
    refine AAu (AAq hj') rfl (AAu (AA1 (hfn i hi')) rfl (AAu (AAq (hgn j hj')) rfl (AB5 Zj (Zn ⟨hj',?_⟩))));rw [wk Zj,<- AOk];rfl
   ·obtain rfl:j=c:=by omega
    rfl
  ·subst he;rw [wk Zj,<- AOk];rfl
 ·obtain rfl:i=r:=by omega
  rfl
theorem Ac8 {fuel n:Nat} {F:AAb} (hn:1<=n) (Ad:n<=16) (hf:100 < fuel):ADu fuel (tab n n F)=some ((n:Int),true):=by
 apply ok_eq;unfold ADu;refine Zr (Q:=(· =((n:Int),(n:Int),true))) ?_ fun e he=>?_
 ·unfold AB7;rw [AAt];refine Zr (Q:=fun ex=>match ex with | .inl _=>False | .inr _=>True) (AAh (fun h=>by omega) fun h=>AAh (fun h2=>by omega) fun h2=>Zn trivial) fun ex hex=>?_
  cases ex with
  | inl e=>exact hex.elim
  | inr u=>
    dsimp only
    refine Zr (ABa (fun i (s:Int)=>s=i) n (Q:=fun ex=>match ex with | .inl _=>False | .inr _=>True) rfl Zj fun i s hi hI=>?_) fun ex hex=>?_
    · subst hI
      unfold AFp
      rw [AAt]
      refine AAh (fun h=>AAu (AA1 Zj) rfl ?_) fun h=>Zn trivial
      rw [AA2]
      refine AAh (fun h2=>by omega) fun h2=>AAh (fun h3=>by omega) fun h3=>AAu (n:=0) (AA1 Zj) rfl (AAh (fun h4=>?_) fun h4=>Zn ⟨Zj,wk Zj⟩)
      rw [AA2] at h4;omega
    · cases ex with
      | inl e=>exact hex.elim
      | inr u=>exact AAu (n:=0) (AA1 Zj) rfl (Zn (by rw [AA2]))
 ·subst he;dsimp only;exact AAh (fun h=>by cases h) fun _=>AAh (fun h=>absurd rfl h) fun _=>Zn rfl
end Go.Proofs.YtdkldlbgcfpglaaGreatDoor
namespace Go.QF
def AMe (n:Nat) (A:AAb):Prop:= ∀ i j,i < n->j < n->A i j=A j i
def AN5 (n:Nat) (A:AAb):Prop:= ∀ k,k<=n->0 < det k A
theorem AQp {k i r n:Nat} (hk:k<=n) (hi:i < n):bro k i r < n:=by unfold bro;split <;> omega
theorem Ah4 {n k:Nat} {A:AAb} (hs:AMe n A) (hk:k<=n) {i j:Nat} (hi:i < n) (hj:j < n):Mn k A i j=Mn k A j i:=by
 unfold Mn;rw [<- AQl];refine AB8 fun r c _ _=>?_;exact hs _ _ (AQp hk hi) (AQp hk hj)
theorem Ah5 {k:Nat} (A:AAb) {i:Nat} (j:Nat) (hi:i < k):Mn k A i j=0:=by
 unfold Mn;refine AOm (a:=i) (b:=k) Zj Zj Zj ?_;funext c;unfold bro;simp [hi]
def bil (n k:Nat) (A:AAb) (x y:Nat->Int):Int:=psum (fun i=>psum (fun j=>Mn k A i j * x i * y j) n) n
def lin (n k:Nat) (A:AAb) (x:Nat->Int):Int:=psum (fun j=>Mn k A k j * x j) n
theorem Alg (f g:Nat->Int) (n:Nat):psum (fun i=>psum (fun j=>f i * g j) n) n=psum f n * psum g n:=by
 rw [ABb (g:=fun i=>psum g n * f i) (fun i _=>by rw [AF8,Int.mul_comm]),AF8,Int.mul_comm]
theorem Awy {n k:Nat} {A:AAb} (hs:AMe n A) (hk:k < n) (h0:det k A≠0) (x y:Nat->Int):det (k + 1) A * bil n k A x y=lin n k A x * lin n k A y + det k A * bil n (k + 1) A x y:=by
 unfold bil;rw [<- AF8,<- AF8];have e1:lin n k A x * lin n k A y=psum (fun i=>psum (fun j=>Mn k A k i * x i * (Mn k A k j * y j)) n) n:=(Alg (fun i=>Mn k A k i * x i) (fun j=>Mn k A k j * y j) n).symm;rw [e1,<- AM6];refine ABb fun i hi=>?_;rw [<- AF8,<- AF8,<- AM6];refine ABb fun j hj=>?_;have h:=AV4 (k:=k) (A:=A) h0 i j;rw [AK0,Ah4 hs Zj hi hk] at h;have h2:det (k + 1) A * Mn k A i j=Mn k A k i * Mn k A k j + det k A * Mn (k + 1) A i j:=by omega
 grind
theorem Ar0 (n:Nat) (A:AAb) (x y:Nat->Int):bil n n A x y=0:=by
 unfold bil;rw [ABb (g:=fun _=>0) fun i hi=>?_]
 ·exact AQ5 n
 ·rw [ABb (g:=fun _=>0) fun j _=>by rw [Ah5 A j hi];simp];exact AQ5 n
theorem ARu {n:Nat} {A:AAb} (hs:AMe n A) (hp:AN5 n A) (x:Nat->Int):∀ d k,k + d=n->0<=bil n k A x x:=by
 intro d
 induction d with
 | zero=>
     intro k hk;obtain rfl:k=n:=by omega
     rw [Ar0];exact Int.le_refl _
 | succ d ih=>
   intro k hk
   have h1:=ih (k + 1) Zj
   have h2:=hp k Zj
   have h3:=hp (k + 1) Zj
   have h4:=Awy hs (show k < n by omega) Zj x x
   have h5:0<=lin n k A x * lin n k A x:=by
     rcases Int.le_total 0 (lin n k A x) with h | h
     · exact Int.mul_nonneg h h
     · exact Int.mul_nonneg_of_nonpos_of_nonpos h h
   have h6:=Int.mul_nonneg (Int.le_of_lt h2) h1
   exact Int.nonneg_of_mul_nonneg_right Zj h3
theorem Aec {n k:Nat} {A:AAb} (a b:Int) (x y z:Nat->Int):bil n k A (fun i=>a * x i + b * y i) z=a * bil n k A x z + b * bil n k A y z:=by
 unfold bil;rw [<- AF8,<- AF8,<- AM6];refine ABb fun i _=>?_;rw [<- AF8,<- AF8,<- AM6];exact ABb fun j _=>by grind
theorem Aed {n k:Nat} {A:AAb} (hs:AMe n A) (hk:k<=n) (x y:Nat->Int):bil n k A x y=bil n k A y x:=by
 unfold bil;rw [AYx];refine ABb fun j hj=>ABb fun i hi=>?_;rw [Ah4 hs hk hi hj];grind
theorem Aoz {n k:Nat} {A:AAb} (hs:AMe n A) (hp:AN5 n A) (hk:k<=n) (x y:Nat->Int):bil n k A x y * bil n k A x y<=bil n k A x x * bil n k A y y:=by
  obtain ⟨p,hpq⟩:∃ p,bil n k A x y=p:=⟨_,rfl⟩;obtain ⟨q,hq⟩:∃ q,bil n k A x x=q:=⟨_,rfl⟩;obtain ⟨r,hr⟩:∃ r,bil n k A y y=r:=⟨_,rfl⟩;have hyx:bil n k A y x=p:=by rw [Aed hs hk];exact hpq
  have key:∀ a b:Int,0<=a * (a * q + b * p) + b * (a * p + b * r):=fun a b=>by
    have h:=ARu hs hp (fun i=>a * x i + b * y i) (n - k) k Zj;rw [Aec,Aed hs hk x (fun i=>a * x i + b * y i),Aec,Aed hs hk y (fun i=>a * x i + b * y i),Aec,hpq,hq,hr,hyx] at h;exact h
  rw [hpq,hq,hr];have hq0:0<=q:=hq ▸ ARu hs hp x (n - k) k Zj
  rcases Int.lt_or_eq_of_le hq0 with h | h
  · have h1:=key p (-q);have e:p * (p * q + -q * p) + -q * (p * p + -q * r)=q * (q * r - p * p):=by grind
    rw [e] at h1;have:=Int.nonneg_of_mul_nonneg_right h1 h;omega
  · subst h;have h1:=key (-(r + 1)) p;have h2:=key 1 0;have e: -(r + 1) * (-(r + 1) * 0 + p * p) + p * (-(r + 1) * p + p * r)= -((r + 2) * (p * p)):=by grind
    rw [e] at h1;have hr0:0<=r:=hr ▸ ARu hs hp y (n - k) k Zj
    have hpp:0<=p * p:=by
      rcases Int.le_total 0 p with h | h
      · exact Int.mul_nonneg h h
      · exact Int.mul_nonneg_of_nonpos_of_nonpos h h
    have:0<=r * (p * p):=Int.mul_nonneg hr0 hpp;have e2:(r + 2) * (p * p)=r * (p * p) + 2 * (p * p):=by grind
    rw [Int.zero_mul];omega
theorem AX1 {n k:Nat} {A:AAb} {i j:Nat} (hi:i < n) (hj:j < n):bil n k A (dl i) (dl j)=Mn k A i j:=by
 unfold bil;rw [APt hi (fun a ha hne=>?_),APt hj (fun b hb hne=>?_)]
 ·simp [dl]
 ·unfold dl;rw [if_neg (fun h:j=b=>hne h.symm)];simp
 ·rw [ABb (g:=fun _=>0) fun b _=>by unfold dl;rw [if_neg (fun h:i=a=>hne h.symm)];simp];exact AQ5 n
theorem AY4 {n k:Nat} {A:AAb} (hs:AMe n A) (hp:AN5 n A) (hk:k<=n) {i j:Nat} (hi:i < n) (hj:j < n):Mn k A i j * Mn k A i j<=Mn k A i i * Mn k A j j:=by
 have:=Aoz hs hp hk (dl i) (dl j);rwa [AX1 hi hj,AX1 hi hi,AX1 hj hj] at this
theorem AY5 {n k:Nat} {A:AAb} (hs:AMe n A) (hp:AN5 n A) (hk:k<=n) {i:Nat} (hi:i < n):0<=Mn k A i i:=by
 have:=ARu hs hp (dl i) (n - k) k Zj;rwa [AX1 hi hi] at this
theorem Aee {n k:Nat} {A:AAb} (hs:AMe n A) (hp:AN5 n A) (hk:k < n) {i:Nat} (hi:i < n):det (k + 1) A * Mn k A i i=Mn k A i k * Mn k A i k + det k A * Mn (k + 1) A i i:=by
 have h:=AV4 (k:=k) (A:=A) (by have:=hp k Zj;omega) i i;rw [AK0,<- Ah4 hs Zj hi hk] at h;omega
theorem Ao0 {n:Nat} {A:AAb} (hs:AMe n A) (hp:AN5 n A) {i:Nat} (hi:i < n):∀ k,k<=n->Mn k A i i<=det k A * A i i:=by
 intro k
 induction k with
 | zero=>intro _;rw [AO7];simp [det]
 | succ k ih=>
   intro hk
   have h1:=ih Zj
   have h2:=Aee hs hp (show k < n by omega) hi
   have h3:0<=Mn k A i k * Mn k A i k:=by
     rcases Int.le_total 0 (Mn k A i k) with h | h
     · exact Int.mul_nonneg h h
     · exact Int.mul_nonneg_of_nonpos_of_nonpos h h
   have h4:=hp k Zj
   have h5:=hp (k + 1) Zj
   have h6:det (k + 1) A * Mn k A i i<=det (k + 1) A * (det k A * A i i):=Int.mul_le_mul_of_nonneg_left h1 Zj
   have h7:det k A * Mn (k + 1) A i i<=det k A * (det (k + 1) A * A i i):=by
     have e:det (k + 1) A * (det k A * A i i)=det k A * (det (k + 1) A * A i i):=by grind
     omega
   exact Int.le_of_mul_le_mul_left h7 h4
theorem Ao1 {n:Nat} {A:AAb} (hs:AMe n A) (hp:AN5 n A) {B:Int} (hB:1<=B) (hA:∀ i,i < n->A i i<=B):∀ k,k<=n->det k A<=B ^ k:=by
  intro k;induction k with
  | zero=>intro _;simp [det]
  | succ k ih=>
    intro hk;have h1:=ih Zj;have h2:=Ao0 hs hp (show k < n by omega) k Zj;rw [AK0] at h2;have h3:=hp k Zj;have h4:det k A * A k k<=det k A * B:=Int.mul_le_mul_of_nonneg_left (hA k Zj) Zj;have h5:det k A * B<=B ^ k * B:=Int.mul_le_mul_of_nonneg_right h1 Zj;rw [Int.pow_succ];omega
theorem Ar1 {n:Nat} {A:AAb} (hs:AMe n A) (hp:AN5 n A) (x:Nat->Int) {k:Nat} (hk:k < n):x k * x k<=Abk n A k k * bil n 0 A x x:=by
  have hd:=hp n (Nat.le_refl _)
  have hB:∀ y z:Nat->Int,bil n 0 A y z=psum (fun i=>y i * psum (fun j=>A i j * z j) n) n:=fun y z=>by
    unfold bil;refine ABb fun i _=>?_;rw [<- AF8];exact ABb fun j _=>by rw [AO7];grind
  have h1:∀ y:Nat->Int,bil n 0 A y (fun j=>Abk n A j k)=det n A * y k:=fun y=>by
    rw [hB,ABb (g:=fun i=>y i * (det n A * dl i k)) (fun i hi=>by rw [Alf hi hk])];rw [APt hk (fun i _ hne=>by unfold dl;rw [if_neg hne];simp)];simp [dl,Int.mul_comm]
  have h2:=Aoz hs hp (Nat.zero_le n) x (fun j=>Abk n A j k);rw [h1 x,h1 (fun j=>Abk n A j k)] at h2;have e1:det n A * x k * (det n A * x k)=det n A * (det n A * (x k * x k)):=by grind
  have e2:bil n 0 A x x * (det n A * Abk n A k k)=det n A * (Abk n A k k * bil n 0 A x x):=by grind
  rw [e1,e2] at h2;have h3:=Int.le_of_mul_le_mul_left h2 hd
  have h4:0<=x k * x k:=by
    rcases Int.le_total 0 (x k) with h | h
    · exact Int.mul_nonneg h h
    · exact Int.mul_nonneg_of_nonpos_of_nonpos h h
  have h5:1 * (x k * x k)<=det n A * (x k * x k):=Int.mul_le_mul_of_nonneg_right Zj h4;omega
def AY6 (A:AAb) (i j:Nat) (c:Int):AAb:=ABy A i fun s=>A i s + c * A j s
def Ao2 (A:AAb) (i j:Nat) (c:Int):AAb:=trF (AY6 (trF A) i j c)
def AX2 (A:AAb) (i j:Nat) (c:Int):AAb:=Ao2 (AY6 A i j c) i j c
def swA (A:AAb) (j:Nat):AAb:=fun r s=>A (tau j r) (tau j s)
theorem Ao4 (l:Nat) (A:AAb) (r s:Nat):Mn l (trF A) s r=Mn l A r s:=by
 unfold Mn;rw [<- AQl];rfl
theorem Af9 {A:AAb} {i j k:Nat} {c:Int} (hij:j < i):det k (AY6 A i j c)=det k A:=by
 rcases Nat.lt_or_ge i k with h | h
 ·exact ALp h Zj Zj c
 ·refine AB8 fun r s hr _=>?_;unfold AY6;rw [ABd,if_neg Zj]
theorem Ao5 {A:AAb} {i j k:Nat} {c:Int} (hij:j < i):det k (Ao2 A i j c)=det k A:=by
 unfold Ao2;rw [AQl,Af9 hij,AQl]
theorem AP0 {A:AAb} {i j k:Nat} {c:Int} (hij:j < i):det k (AX2 A i j c)=det k A:=by
 unfold AX2;rw [Ao5 hij,Af9 hij]
theorem Aef {A:AAb} {i j l r s:Nat} {c:Int} (hij:j < i) (hr:l<=r):Mn l (AY6 A i j c) r s=Mn l A r s + if l<=i/\r=i then c * Mn l A j s else 0:=by
 rcases Nat.lt_or_ge i l with h | h
 ·rw [if_neg Zj,Int.add_zero];unfold Mn;have e:=ALp (n:=l + 1) (F:=fun a b=>A (bro l r a) (bro l s b)) (a:=i) (b:=j) Zj Zj Zj c;rw [<- e];refine AB8 fun a b ha _=>?_;rw [ABd];unfold AY6;rw [ABd];have hbi:bro l r i=i:=by unfold bro;rw [if_pos h]
  have hbj:bro l r j=j:=by unfold bro;rw [if_pos Zj]
  by_cases ea:a=i
  ·subst ea;rw [hbi,if_pos rfl,if_pos rfl,hbj]
  ·rw [if_neg ea,if_neg];unfold bro;split <;> omega
 ·by_cases er:r=i
  ·subst er;rw [if_pos ⟨h,rfl⟩];unfold Mn;have e:=AUf (n:=l + 1) (F:=fun a b=>A (bro l r a) (bro l s b)) (r:=l) (fun b=>A r (bro l s b)) (fun b=>A j (bro l s b)) 1 c Zj
   have e1:det (l + 1) (fun a b=>AY6 A r j c (bro l r a) (bro l s b))=det (l + 1) (ABy (fun a b=>A (bro l r a) (bro l s b)) l fun q=>1 * A r (bro l s q) + c * A j (bro l s q)):=by
     refine AB8 fun a b ha _=>?_
     rw [ABd]
     unfold AY6
     rw [ABd]
     by_cases ea:a=l
     · subst ea
       rw [show bro a r a=r by unfold bro;rw [if_neg Zj],if_pos rfl,if_pos rfl,Int.one_mul]
     · rw [if_neg ea,if_neg]
       unfold bro;rw [if_pos Zj];omega
   have e2:det (l + 1) (ABy (fun a b=>A (bro l r a) (bro l s b)) l fun b=>A r (bro l s b))=det (l + 1) (fun a b=>A (bro l r a) (bro l s b)):=by
     refine AB8 fun a b ha _=>?_
     rw [ABd]
     by_cases ea:a=l
     · subst ea;rw [if_pos rfl,show bro a r a=r by unfold bro;rw [if_neg Zj]]
     · rw [if_neg ea]
   have e3:det (l + 1) (ABy (fun a b=>A (bro l r a) (bro l s b)) l fun b=>A j (bro l s b))=det (l + 1) (fun a b=>A (bro l j a) (bro l s b)):=by
     refine AB8 fun a b ha _=>?_
     rw [ABd]
     by_cases ea:a=l
     · subst ea;rw [if_pos rfl,show bro a j a=j by unfold bro;rw [if_neg Zj]]
     · rw [if_neg ea,show bro l r a=a by unfold bro;rw [if_pos Zj],show bro l j a=a by unfold bro;rw [if_pos Zj]]
   rw [e1,e,e2,e3,Int.one_mul]
  ·rw [if_neg (fun h=>er h.2),Int.add_zero];unfold Mn;refine AB8 fun a b ha _=>?_;unfold AY6;rw [ABd,if_neg];unfold bro;split <;> omega
theorem Ar2 {A:AAb} {i j l r s:Nat} {c:Int} (hij:j < i) (hs:l<=s):Mn l (Ao2 A i j c) r s=Mn l A r s + if l<=i/\s=i then c * Mn l A r j else 0:=by
 unfold Ao2;rw [Ao4,Aef hij hs,Ao4,Ao4]
theorem Ao6 {A:AAb} {i j l r s:Nat} {c:Int} (hij:j < i) (hr:l<=r) (hs:l<=s):Mn l (AX2 A i j c) r s=Mn l A r s + (if l<=i/\r=i then c * Mn l A j s else 0) + if l<=i/\s=i then c * (Mn l A r j + if l<=i/\r=i then c * Mn l A j j else 0) else 0:=by
  unfold AX2;rw [Ar2 hij hs,Aef hij hr,Aef hij hr]
theorem AZ5 (A:AAb) (i j:Nat) (c:Int) (r s:Nat):AX2 A i j c r s=if s=i then (if r=i then A i i + c * A j i else A r i) + c * (if r=i then A i j + c * A j j else A r j) else if r=i then A i s + c * A j s else A r s:=by
 show ABy (trF (AY6 A i j c)) i (fun q=>trF (AY6 A i j c) i q + c * trF (AY6 A i j c) j q) s r=_;rw [ABd];unfold trF AY6;by_cases h:s=i
 ·rw [if_pos h,if_pos h,ABd,ABd]
 ·rw [if_neg h,if_neg h,ABd]
theorem Ar3 {n:Nat} {A:AAb} {i j:Nat} {c:Int} (hi:i < n) (hj:j < n) (h:AMe n A):AMe n (AX2 A i j c):=by
 intro r s hr hs;rw [AZ5,AZ5];by_cases h1:r=i
 ·by_cases h2:s=i
  ·rw [h1,h2]
  ·rw [if_neg h2,if_pos h1,if_pos h1,if_neg h2,if_neg h2,h i s hi hs,h j s hj hs]
 ·by_cases h2:s=i
  ·rw [if_pos h2,if_neg h1,if_neg h1,if_neg h1,if_pos h2,h r i hr hi,h r j hr hj]
  ·rw [if_neg h2,if_neg h1,if_neg h1,if_neg h2,h r s hr hs]
theorem Ajm {A:AAb} {j k:Nat} (hk:k≠j + 1):det k (swA A j)=det k A:=by
 rcases Nat.lt_or_ge (j + 1) k with h | h
 ·have e1:det k (swA A j)= -det k (fun r s=>A (tau j r) s):=Af7 (F:=fun r s=>A (tau j r) s) h
  have e2:det k (fun r s=>A (tau j r) s)= -det k A:=by
    rw [<- AQl (fun r s=>A (tau j r) s),<- AQl A]
    exact Af7 (F:=trF A) h
  rw [e1,e2];omega
 ·refine AB8 fun r s hr hs=>?_;unfold swA tau;rw [if_neg Zj,if_neg Zj,if_neg Zj,if_neg Zj]
theorem Aga {A:AAb} {j:Nat}:det (j + 1) (swA A j)=Mn j A (j + 1) (j + 1):=by
 unfold Mn;refine AB8 fun r s hr hs=>?_
 have e:∀ r,r < j + 1->tau j r=bro j (j + 1) r:=fun r hr=>by
   unfold tau bro
   by_cases h:r < j
   · rw [if_neg Zj,if_neg Zj,if_pos h]
   · rw [if_pos Zj,if_neg h]
 unfold swA;rw [e r hr,e s hs]
theorem Aur {n j:Nat} {A:AAb} (hj:j + 1 < n) (h:AMe n A):AMe n (swA A j):=fun r s hr hs=>by
  have e:∀ r,r < n->tau j r < n:=fun r hr=>by unfold tau;split <;> (try split) <;> omega
  exact h _ _ (e r hr) (e s hs)
theorem sq_nonneg (x:Int):0<=x * x:=by
 rcases Int.le_total 0 x with h | h
 ·exact Int.mul_nonneg h h
 ·exact Int.mul_nonneg_of_nonpos_of_nonpos h h
theorem Agb {x y:Int} (hy:0<=y) (h:x * x<=y * y): -y<=x/\x<=y:=by
 constructor
 ·rcases Int.lt_or_le x (-y) with h1 | h1
  ·have h2:0 < (-x - y) * (-x + y):=Int.mul_pos Zj Zj;have e:(-x - y) * (-x + y)=x * x - y * y:=by grind
   omega
  ·exact h1
 ·rcases Int.lt_or_le y x with h1 | h1
  ·have h2:0 < (x - y) * (x + y):=Int.mul_pos Zj Zj;have e:(x - y) * (x + y)=x * x - y * y:=by grind
   omega
  ·exact h1
theorem AVo {x y:Int} (h1: -y<=x) (h2:x<=y):x * x<=y * y:=by
 have h3:0<=(y - x) * (y + x):=Int.mul_nonneg Zj Zj;have e:(y - x) * (y + x)=y * y - x * x:=by grind
 omega
def SzF (A:AAb) (i j:Nat):Prop:= -(det (j + 1) A)<=2 * Mn j A i j/\2 * Mn j A i j<=det (j + 1) A
def LvF (A:AAb) (j:Nat):Prop:=3 * (det (j + 1) A * det (j + 1) A)<=4 * (det j A * det (j + 2) A + Mn j A (j + 1) j * Mn j A (j + 1) j)
def Ah6 (A:AAb) (i:Nat) (K:Int):Prop:= ∀ l,l < i-> -(K * det (l + 1) A)<=Mn l A i l/\Mn l A i l<=K * det (l + 1) A
theorem Ac9 {n i:Nat} {A:AAb} {Dm p q:Int} (hs:AMe n A) (hp:AN5 n A) (hi:i < n) (hD:∀ k,k<=n->det k A<=Dm) (p0:0<=p) (q0:0<=q) (hl:∀ l,l < i->q * (Mn l A i l * Mn l A i l)<=p * (det (l + 1) A * det (l + 1) A)):∀ d l:Nat,l + d=i->q * Mn l A i i<=(q + d * p) * (Dm * det l A):=by
  have hD0:1<=Dm:=by
    have:=hD 0 Zj;simpa [det] using this
  have hDl:∀ l k,l<=n->k<=n->det k A<=Dm * det l A:=fun l k h1 h2=>by
    have:=hp l h1;have h3:=hD k h2;have h4:Dm * 1<=Dm * det l A:=Int.mul_le_mul_of_nonneg_left Zj Zj;omega
  intro d;induction d with
  | zero=>
    intro l h;obtain rfl:l=i:=by omega
    rw [AK0];have h1:=Int.mul_le_mul_of_nonneg_left (hDl l (l + 1) Zj Zj) q0;simpa using h1
  | succ d ih=>
    intro l h;have h1:=ih (l + 1) Zj;have h2:=Aee hs hp (show l < n by omega) hi;have h3:=hl l Zj;have h4:=hp l Zj;have h5:=hp (l + 1) Zj;have h6:=Int.mul_le_mul_of_nonneg_left h1 (Int.le_of_lt h4)
    have h7:det (l + 1) A * (q * Mn l A i i)=q * (Mn l A i l * Mn l A i l) + det l A * (q * Mn (l + 1) A i i):=by
      have e1:det (l + 1) A * (q * Mn l A i i)=q * (det (l + 1) A * Mn l A i i):=by grind
      rw [e1,h2];grind
    have h8:=Int.mul_le_mul_of_nonneg_left (hDl l (l + 1) Zj Zj) p0;have h9:=Int.mul_le_mul_of_nonneg_left h8 (Int.le_of_lt h5);have e2:det (l + 1) A * (p * det (l + 1) A)=p * (det (l + 1) A * det (l + 1) A):=by grind
    have h10:det (l + 1) A * (q * Mn l A i i)<=det (l + 1) A * ((q + ((d + 1:Nat):Int) * p) * (Dm * det l A)):=by
      have e3:det (l + 1) A * ((q + ((d + 1:Nat):Int) * p) * (Dm * det l A))=det (l + 1) A * (p * (Dm * det l A)) + det l A * ((q + (d:Int) * p) * (Dm * det (l + 1) A)):=by
        rw [Int.natCast_add,Int.natCast_one];grind
      rw [e3];omega
    exact Int.le_of_mul_le_mul_left h10 h5
theorem Agd {n i:Nat} {A:AAb} {Dm:Int} (hn:n<=8) (hs:AMe n A) (hp:AN5 n A) (hi:i < n) (hD:∀ k,k<=n->det k A<=Dm) (hz:∀ l,l < i->SzF A i l):A i i<=3 * Dm:=by
 have h:=Ac9 hs hp hi hD (p:=1) (q:=4) Zj Zj (fun l hl=>by
   have:=AVo (hz l hl).1 (hz l hl).2
   have e:2 * Mn l A i l * (2 * Mn l A i l)=4 * (Mn l A i l * Mn l A i l):=by grind
   omega) i 0 Zj
 rw [AO7] at h
 have Aa:1<=Dm:=by
   have:=hD 0 Zj;simpa [det] using this
 have h2:(4 + (i:Int) * 1) * (Dm * det 0 A)<=12 * Dm:=by
   have:(4 + (i:Int) * 1) * Dm<=12 * Dm:=Int.mul_le_mul_of_nonneg_right Zj Zj
   simpa [det] using this
 omega
theorem Alh {n i:Nat} {A:AAb} {Dm:Int} (hs:AMe n A) (hp:AN5 n A) (hi:i < n) (hD:∀ k,k<=n->det k A<=Dm) (hA:A i i<=3 * Dm):Ah6 A i (2 * Dm):=by
 intro l hl
 have Ad:1<=Dm:=by
   have:=hD 0 Zj;simpa [det] using this
 have h1:=AY4 hs hp (show l<=n by omega) hi (show l < n by omega);rw [AK0] at h1;have h2:=Ao0 hs hp hi l Zj;have h3:=hp l Zj;have h4:=hp (l + 1) Zj
 have h5:det l A * A i i<=Dm * (3 * Dm):=by
   have a1:=Int.mul_le_mul_of_nonneg_left hA (Int.le_of_lt h3)
   have a2:=Int.mul_le_mul_of_nonneg_right (hD l Zj) (show (0:Int)<=3 * Dm by omega)
   omega
 have h6:Mn l A i i * det (l + 1) A<=Dm * (3 * Dm) * det (l + 1) A:=Int.mul_le_mul_of_nonneg_right Zj Zj;have h7:Dm * (3 * Dm) * (det (l + 1) A * 1)<=Dm * (3 * Dm) * (det (l + 1) A * det (l + 1) A):=Int.mul_le_mul_of_nonneg_left (Int.mul_le_mul_of_nonneg_left Zj Zj) (Int.mul_nonneg Zj Zj);have h8:0<=Dm * Dm * (det (l + 1) A * det (l + 1) A):=Int.mul_nonneg (sq_nonneg _) (sq_nonneg _);have h9:2 * Dm * det (l + 1) A * (2 * Dm * det (l + 1) A)=Dm * (3 * Dm) * (det (l + 1) A * det (l + 1) A) + Dm * Dm * (det (l + 1) A * det (l + 1) A):=by grind
 rw [Int.mul_one] at h7;exact Agb (Int.mul_nonneg Zj Zj) Zj
theorem Age {A:AAb} {i:Nat} {K K':Int} (hp:∀ l,l<=i->0 < det l A) (hK:K<=K') (h:Ah6 A i K):Ah6 A i K':=fun l hl=>by
  have h1:=h l hl
  have h2:=hp (l + 1) Zj
  have h3:=Int.mul_le_mul_of_nonneg_right hK (Int.le_of_lt h2)
  omega
theorem Agf {a d:Int} (hd:0 < d): -d<=2 * (a + -((2 * a + d) / (2 * d)) * d)/\2 * (a + -((2 * a + d) / (2 * d)) * d)<=d:=by
  have h1:=Int.mul_ediv_add_emod (2 * a + d) (2 * d);have h2:=Int.emod_nonneg (2 * a + d) (show 2 * d≠0 by omega);have h3:=Int.emod_lt_of_pos (2 * a + d) (show 0 < 2 * d by omega);generalize (2 * a + d) / (2 * d)=q at *
  generalize (2 * a + d) % (2 * d)=r at *
  have e:2 * (a + -q * d)=2 * a - 2 * d * q:=by grind
  omega
theorem Ar4 {a d K:Int} (hd:0 < d) (h1: -(K * d)<=a) (h2:a<=K * d): -K<= -((2 * a + d) / (2 * d))/\ -((2 * a + d) / (2 * d))<=K:=by
 have h:=Agf (a:=a) hd;generalize -((2 * a + d) / (2 * d))=c at *;constructor
 ·rcases Int.lt_or_le c (-K) with h3 | h3
  ·have h4:(c + K + 1) * d<=0:=by
     have:=Int.mul_nonneg (show 0<= -(c + K + 1) by omega) (Int.le_of_lt hd)
     have e: -(c + K + 1) * d= -((c + K + 1) * d):=by grind
     omega
   have e:(c + K + 1) * d=c * d + K * d + d:=by grind
   omega
  ·exact h3
 ·rcases Int.lt_or_le K c with h3 | h3
  ·have h4:=Int.mul_nonneg (show 0<=c - K - 1 by omega) (Int.le_of_lt hd);have e:(c - K - 1) * d=c * d - K * d - d:=by grind
   omega
  ·exact h3
theorem Ajn {A:AAb} {i j l:Nat} {c:Int} (hij:j < i) (hl:l < i):Mn l (AX2 A i j c) i l=Mn l A i l + c * Mn l A j l:=by
 rw [Ao6 hij Zj (Nat.le_refl _),if_pos ⟨Zj,rfl⟩,if_neg (fun h:l<=i/\l=i=>by omega)];omega
theorem Ada {A:AAb} {i j l r:Nat} {c:Int} (hij:j < i) (hr:r < i) (hl:l<=r):Mn l (AX2 A i j c) r l=Mn l A r l:=by
 rw [Ao6 hij hl (Nat.le_refl _),if_neg (fun h:l<=i/\r=i=>by omega),if_neg (fun h:l<=i/\l=i=>by omega)];omega
theorem Ao7 {A:AAb} {i j:Nat} {K c:Int} (hij:j < i) (hp:∀ l,l<=i->0 < det l A) (hK:0<=K) (h:Ah6 A i K) (hz:∀ l,l < j->SzF A j l) (Ab: -K<=c) (Ac:c<=K):Ah6 (AX2 A i j c) i (2 * K):=by
 intro l hl;rw [AP0 hij,Ajn hij hl];have h1:=h l hl;have h2:=hp (l + 1) Zj
 have hm: -(det (l + 1) A)<=Mn l A j l/\Mn l A j l<=det (l + 1) A:=by
   rcases Nat.lt_trichotomy l j with h3 | h3 | h3
   · have:=hz l h3;unfold SzF at this;omega
   · subst h3;rw [AK0];omega
   · rw [Ah5 A l h3];omega
 have h3: -(K * det (l + 1) A)<=c * Mn l A j l/\c * Mn l A j l<=K * det (l + 1) A:=by
   refine Agb (Int.mul_nonneg hK (Int.le_of_lt h2)) ?_
   have a1:=AVo Ab Ac
   have a2:=AVo hm.1 hm.2
   have a3:c * c * (Mn l A j l * Mn l A j l)<=K * K * (det (l + 1) A * det (l + 1) A):=Int.mul_le_mul a1 a2 (sq_nonneg _) (sq_nonneg _)
   have e1:c * Mn l A j l * (c * Mn l A j l)=c * c * (Mn l A j l * Mn l A j l):=by grind
   have e2:K * det (l + 1) A * (K * det (l + 1) A)=K * K * (det (l + 1) A * det (l + 1) A):=by grind
   omega
 have e:2 * K * det (l + 1) A=K * det (l + 1) A + K * det (l + 1) A:=by grind
 omega
theorem Ao8 {A:AAb} {i j k:Nat} {c:Int} (hk:k≠i):AX2 A i j c k k=A k k:=by
 rw [AZ5,if_neg hk,if_neg hk]
structure Aeg (n:Nat) (Dm:Int) (A:AAb) (i t:Nat):Prop where
  sym:AMe n A
  pos:AN5 n A
  dm:∀ k,k<=n->det k A<=Dm
  hi:i < n
  ht:t<=i
  rows:∀ k,k < n->k≠i->A k k<=3 * Dm
  row:t=0->A i i<=3 * Dm
  lamb:Ah6 A i (2 ^ t * (2 * Dm))
  pre:∀ r l,l < r->r < i->SzF A r l
  prei:∀ l,l < i->i<=l + t->SzF A i l
  lov:∀ r,r + 1 < i->LvF A r
theorem Abl {n:Nat} {Dm:Int} {A:AAb} (hn:0 < n) (hs:AMe n A) (hp:AN5 n A) (hD:∀ k,k<=n->det k A<=Dm) (hr:∀ k,k < n->A k k<=3 * Dm):Aeg n Dm A 0 0:=
  ⟨hs,hp,hD,hn,Nat.le_refl _,fun k hk _=>hr k hk,fun _=>hr 0 hn,fun l hl=>by omega,fun r l h1 h2=>by omega,fun l hl=>by omega,fun r hr=>by omega⟩
theorem Ao9 {n i t:Nat} {Dm:Int} {A:AAb} (h:Aeg n Dm A i t):1<=Dm:=by
 have:=h.dm 0 Zj;simpa [det] using this
theorem AV7 {n i t:Nat} {Dm:Int} {A:AAb} (hn:n<=8) (h:Aeg n Dm A i t) (hz:∀ l,l < i->SzF A i l):∀ k,k < n->A k k<=3 * Dm:=fun k hk=>by
  by_cases e:k=i
  · subst e;exact Agd hn h.sym h.pos h.hi h.dm hz
  · exact h.rows k hk e
theorem AX3 (t:Nat):(0:Int) < 2 ^ t:=Int.pow_pos Zj
theorem AX4 {s t:Nat} (h:s<=t):(2:Int) ^ s<=2 ^ t:=by
 have:=Nat.pow_le_pow_right (show 0 < 2 by omega) h;have e:∀ k:Nat,(2:Int) ^ k=((2 ^ k:Nat):Int):=fun k=>by simp
 rw [e,e];omega
theorem Ali {n i t i' j:Nat} {Dm:Int} {A:AAb} (hn:n<=8) (h:Aeg n Dm A i t) (hi':i' < n) (hj:j < i') (hbad: ¬ SzF A i' j)
    (hz:∀ r l,l < r->r < i'->SzF A r l) (hzi:∀ l,l < i'->j < l->SzF A i' l) (hl:∀ r,r + 1 < i'->LvF A r):
    Aeg n Dm (AX2 A i' j (-((2 * Mn j A i' j + det (j + 1) A) / (2 * det (j + 1) A)))) i' (i' - j)/\i * 16 + t < i' * 16 + (i' - j):=by
  have hD1:=Ao9 h
  have hlt:i < i'∨i=i'/\t < i' - j:=by
    rcases Nat.lt_trichotomy i i' with h1 | h1 | h1
    · exact .inl h1
    · refine .inr ⟨h1,?_⟩
      rcases Nat.lt_or_ge t (i' - j) with h2 | h2
      · exact h2
      · subst h1;exact absurd (h.prei j hj Zj) hbad
    · exact absurd (h.pre i' j hj h1) hbad
  have hrows:∀ k,k < n->k≠i'->A k k<=3 * Dm:=fun k hk hne=>by
    rcases hlt with h1 | h1
    · exact AV7 hn h (fun l hl=>hz i l hl h1) k hk
    · exact h.rows k hk Zj
  have hK0:0<=2 ^ (i' - j - 1) * (2 * Dm):=Int.mul_nonneg (Int.le_of_lt (AX3 _)) Zj;have hp':∀ l,l<=i'->0 < det l A:=fun l hl=>h.pos l Zj
  have hlam:Ah6 A i' (2 ^ (i' - j - 1) * (2 * Dm)):=by
    rcases hlt with h1 | h1
    · refine Age hp' ?_ (Alh h.sym h.pos hi' h.dm (AV7 hn h (fun l hl=>hz i l hl h1) i' hi'));have:=Int.mul_le_mul_of_nonneg_right (AX4 (Nat.zero_le (i' - j - 1))) (show (0:Int)<=2 * Dm by omega);simpa using this
    · obtain ⟨rfl,h1⟩:=h1;exact Age hp' (Int.mul_le_mul_of_nonneg_right (AX4 Zj) Zj) h.lamb
  have hd:=hp' (j + 1) Zj;obtain ⟨c1,c2⟩:=Ar4 hd (hlam j hj).1 (hlam j hj).2;have hrem:=Agf (a:=Mn j A i' j) hd;generalize hc: -((2 * Mn j A i' j + det (j + 1) A) / (2 * det (j + 1) A))=c at *
  refine ⟨⟨Ar3 hi' Zj h.sym,fun k hk=>by rw [AP0 hj];exact h.pos k hk,fun k hk=>by rw [AP0 hj];exact h.dm k hk,hi',Zj,fun k hk hne=>by rw [Ao8 hne];exact hrows k hk hne,fun h0=>by omega,?_,fun r l h1 h2=>?_,fun l h1 h2=>?_,fun r hr=>?_⟩,by have:=h.ht;have:=h.hi;omega⟩
  · have:=Ao7 hj hp' hK0 hlam (fun l hl=>hz j l hl hj) c1 c2
    have e:2 * (2 ^ (i' - j - 1) * (2 * Dm))=2 ^ (i' - j) * (2 * Dm):=by
      rw [show i' - j=i' - j - 1 + 1 by omega,Int.pow_succ];simp only [Nat.add_sub_cancel];grind
    rwa [e] at this
  · unfold SzF;rw [AP0 hj,Ada hj h2 Zj];exact hz r l h1 h2
  · unfold SzF;rw [AP0 hj,Ajn hj h1]
    rcases Nat.lt_or_ge j l with h3 | h3
    · rw [Ah5 A l h3,Int.mul_zero,Int.add_zero];exact hzi l h1 h3
    · obtain rfl:l=j:=by omega
      rw [AK0];exact hrem
  · unfold LvF;rw [AP0 hj,AP0 hj,AP0 hj,Ada hj Zj Zj];exact hl r hr
def Agg (n:Nat) (A:AAb):Int:=psum (fun k=>det k A) (n + 1)
theorem Ar5 {f g:Nat->Int} {n k:Nat} (hk:k < n) (hne:∀ l,l≠k->f l=g l) (h:f k < g k):psum f n < psum g n:=by
 induction n with
 | zero=>omega
 | succ n ih=>
   simp only [psum]
   rcases Nat.lt_or_ge k n with h1 | h1
   · have:=ih h1;rw [hne n Zj];omega
   · obtain rfl:k=n:=by omega
     rw [ABb (g:=g) fun i hi=>hne i Zj];omega
theorem Alj {n i t j:Nat} {Dm:Int} {A:AAb} (hn:n<=8) (h:Aeg n Dm A i t) (hj:j + 1 < n) (hbad: ¬ LvF A j)
    (hz:∀ r l,l < r->r<=j + 1->SzF A r l) (hl:∀ r,r < j->LvF A r):
    Aeg n Dm (swA A j) 0 0/\Agg n (swA A j) < Agg n A:=by
  have hij:i<=j + 1:=by
    rcases Nat.lt_or_ge (j + 1) i with h1 | h1
    · exact absurd (h.lov j h1) hbad
    · exact h1
  have hrest:=AV7 hn h (fun l hl=>hz i l hl hij);have h1:=Aee h.sym h.pos (show j < n by omega) hj;have p0:=h.pos j Zj;have p1:=h.pos (j + 1) Zj;have p2:=h.pos (j + 2) Zj;rw [show Mn (j + 1) A (j + 1) (j + 1)=det (j + 2) A from AK0 _ _] at h1
  have hlt:Mn j A (j + 1) (j + 1) < det (j + 1) A:=by
    unfold LvF at hbad
    have h2:det (j + 1) A * (4 * Mn j A (j + 1) (j + 1)) < det (j + 1) A * (3 * det (j + 1) A):=by
      have e1:det (j + 1) A * (4 * Mn j A (j + 1) (j + 1))=4 * (det (j + 1) A * Mn j A (j + 1) (j + 1)):=by grind
      have e2:det (j + 1) A * (3 * det (j + 1) A)=3 * (det (j + 1) A * det (j + 1) A):=by grind
      omega
    have:=Int.lt_of_mul_lt_mul_left h2 (Int.le_of_lt p1);omega
  have hpos:0 < Mn j A (j + 1) (j + 1):=by
    have h3:=sq_nonneg (Mn j A (j + 1) j);have h4:=Int.mul_pos p0 p2;exact Int.pos_of_mul_pos_right (a:=det (j + 1) A) Zj p1
  have hdet:∀ k,det k (swA A j)=if k=j + 1 then Mn j A (j + 1) (j + 1) else det k A:=fun k=>by
    by_cases e:k=j + 1
    · subst e;rw [if_pos rfl,Aga]
    · rw [if_neg e,Ajm e]
  refine ⟨Abl Zj (Aur hj h.sym) (fun k hk=>?_) (fun k hk=>?_) (fun k hk=>?_),?_⟩
  · rw [hdet];split
    · exact hpos
    · exact h.pos k hk
  · rw [hdet];split
    · have:=h.dm (j + 1) Zj;omega
    · exact h.dm k hk
  · have e:tau j k < n:=by unfold tau;split <;> (try split) <;> omega
    exact hrest _ e
  · exact Ar5 (k:=j + 1) Zj (fun l hl=>by rw [hdet,if_neg hl]) (by rw [hdet,if_pos rfl];exact hlt)
end Go.QF
namespace Go.Proofs.YtdkldlbgcfpglaaGreatDoor
open Go Go.QF
theorem Aeh (k m:Nat):AB6 k (fun a=>((a:Nat):Int)) ++ [((m:Nat):Int)]=AB6 (k + 1) fun a=>((bro k m a:Nat):Int):=by
 rw [<- AOk,ABo (g:=fun a=>((bro k m a:Nat):Int)) fun a ha=>by unfold bro;rw [if_pos ha]];unfold bro;rw [if_neg Zj]
theorem Ajo {fuel k m:Nat} (hk:k<=100) (hf:100 < fuel):AFf fuel (k:Int) (m:Int)=some (AB6 (k + 1) fun a=>((bro k m a:Nat):Int)):=by
 apply ok_eq;unfold AFf;refine Zr (ABa (fun i s=>s=(AB6 i (fun a=>((a:Nat):Int)),((i:Nat):Int))/\i<=k) k (Q:=(· =AB6 k fun a=>((a:Nat):Int))) ⟨rfl,Nat.zero_le _⟩ Zj fun i s hi hI=>?_) fun e he=>?_
 ·obtain ⟨rfl,hik⟩:=hI;unfold AKn;dsimp only;refine AAh (fun h=>AB5 (by rw [AA2];omega) (Zn ⟨Zj,?_,Zj⟩)) (fun h=>Zn ?_)
  ·rw [wk Zj,AOk i fun a=>((a:Nat):Int)];simp
  ·obtain rfl:i=k:=by omega
   rfl
 ·subst he;refine AB5 (by rw [AA2];omega) (Zn ?_);exact Aeh k m
theorem Abm {fuel n i j:Nat} {F:AAb} (hn:n<=8) (hi:i < n) (hj:j < n) (hb:∀ i j,i < n->j < n->(F i j).natAbs<=AGw) (hf:100 < fuel):ADv fuel (tab n n F) (i:Int) (j:Int)=some (Mn j F i j):=by
 apply ok_eq;unfold ADv;refine Zr (ABa (fun q s=>s=(AB6 q (fun a=>((a:Nat):Int)),AB6 q (fun a=>((a:Nat):Int)),((q:Nat):Int))/\q<=j) j (Q:=(· =(AB6 j (fun a=>((a:Nat):Int)),AB6 j fun a=>((a:Nat):Int)))) ⟨rfl,Nat.zero_le _⟩ Zj fun q s hq hI=>?_) fun e he=>?_
 ·obtain ⟨rfl,hqj⟩:=hI;unfold AJw;dsimp only;refine AAh (fun h=>AB5 (by rw [AA2];omega) (AB5 (by rw [AA2];omega) (Zn ⟨Zj,?_,Zj⟩))) (fun h=>Zn ?_)
  ·rw [wk Zj,AOk q fun a=>((a:Nat):Int)];simp
  ·obtain rfl:q=j:=by omega
   rfl
 ·subst he;dsimp only;refine AB5 (by rw [AA2];omega) (AB5 (by rw [AA2];omega) ?_);rw [Aeh,Aeh];refine Zr (ABc (Af8 (n:=n) Zj Zj hf (fun a ha=>AQp Zj hi) (fun a ha=>AQp Zj hj))) fun x hx=>?_;subst hx;refine Zr (ABc (AXy Zj (fun a b ha Aa=>hb _ _ (AQp Zj hi) (AQp Zj hj)) Zj)) fun y hy=>Zn hy
theorem AV8 {fuel n k:Nat} {F:AAb} (hk:k<=n) (hn:n<=8):ACf fuel (AB6 n fun a=>det (a + 1) F) (k:Int)=some (det k F):=by
 apply ok_eq;unfold ACf;refine AAh (fun h=>?_) (fun h=>?_)
 ·obtain rfl:k=0:=by omega
  exact ⟨1,rfl,by simp [det]⟩
 ·obtain ⟨q,rfl⟩:∃ q,k=q + 1:=⟨k - 1,Zj⟩;refine AAu (n:=q) (AAq Zj) (by rw [wk Zj];omega) (Zn rfl)
theorem AY7 {fuel n:Nat} {F:AAb} (Aa:1<=n) (hn:n<=8) (hb:∀ i j,i < n->j < n->(F i j).natAbs<=AGw) (hf:100 < fuel):ADh fuel (tab n n F)=some (AB6 n fun a=>det (a + 1) F,true):=by
 apply ok_eq;unfold ADh;refine Zr (ABc (Ac8 Aa Zj hf)) fun x hx=>?_;subst hx;dsimp only;refine AAh (fun h=>absurd h Zl) (fun _=>Zr (ABa (fun k s=>s=(AB6 k (fun a=>det (a + 1) F),((k:Nat):Int))/\k<=n) n (Q:=(· =AB6 n fun a=>det (a + 1) F)) ⟨rfl,Nat.zero_le _⟩ Zj fun k s hk hI=>?_) fun e he=>Zn (by rw [he]));obtain ⟨rfl,hkn⟩:=hI;unfold AI5;dsimp only;refine AAh (fun h=>?_) (fun h=>Zn ?_)
 ·have hk':k < n:=by omega
  refine Zr (ABc (Ajo Zj hf)) fun r hr=>?_;subst hr;refine Zr (ABc (Ajo Zj hf)) fun c hc=>?_;subst hc;refine Zr (ABc (Af8 (n:=n) Zj Zj hf (fun a ha=>AQp Zj hk') (fun a ha=>AQp Zj hk'))) fun x hx=>?_;subst hx;refine Zr (ABc (AXy Zj (fun a b ha Ab=>hb _ _ (AQp Zj hk') (AQp Zj hk')) Zj)) fun y hy=>?_;subst hy;refine AB5 (by rw [AA2];omega) (Zn ⟨Zj,?_,Zj⟩);rw [show (det (k + 1) fun a b=>F (bro k k a) (bro k k b))=det (k + 1) F from AK0 k F,wk Zj,AOk k fun a=>det (a + 1) F];simp
 ·obtain rfl:k=n:=by omega
  rfl
theorem Aei (a b:Int):ATf a b<=0↔a<=b:=by unfold ATf;split <;> (try split) <;> omega
theorem Abn {n j i l:Nat} {F:AAb} (hn:n<=8) (hi:i < n) (hl:l < n) (hj:j < n) (hb:∀ i j,i < n->j < n->(F i j).natAbs<=AGw):(Mn j F i l).natAbs<=dBd AGw 9:=by
 have e:Mn j F i l=Mn j (fun a b=>if a < n/\b < n then F a b else 0) i l:=by
   unfold Mn
   refine AB8 fun a b ha Aa=>?_
   dsimp only
   rw [if_pos ⟨AQp Zj hi,AQp Zj hl⟩]
 rw [e];refine Nat.le_trans (Ahy (m:=AGw) (fun a b=>?_) i l) (AO8 Zl Zj);split
 ·next h=>exact hb a b h.1 h.2
 ·exact Nat.zero_le _
theorem AVp {n k:Nat} {F:AAb} (hn:n<=8) (hk:k<=n) (hb:∀ i j,i < n->j < n->(F i j).natAbs<=AGw):(det k F).natAbs<=dBd AGw 9:=by
 rcases Nat.eq_zero_or_pos k with h | h
 ·subst h;simp only [det];decide
 ·obtain ⟨q,rfl⟩:∃ q,k=q + 1:=⟨k - 1,Zj⟩;rw [<- AK0 q F];exact Abn hn Zj Zj Zj hb
theorem Ajp {fuel n i j:Nat} {F:AAb} (hn:n<=8) (hi:i < n) (hj:j < n) (hb:∀ i j,i < n->j < n->(F i j).natAbs<=AGw) (hf:100 < fuel):AFg fuel (tab n n F) (AB6 n fun a=>det (a + 1) F) (i:Int) (j:Int)=some (decide (2 * ((Mn j F i j).natAbs:Int)<=det (j + 1) F)):=by
 apply ok_eq;unfold AFg;refine Zr (Q:=(· =2)) ⟨2,if_pos Zj,rfl⟩ fun two h2=>?_;subst h2;refine Zr (ABc (Abm hn hi hj hb hf)) fun x hx=>?_;subst hx;refine Zr (ABc (a:=((Mn j F i j).natAbs:Int)) rfl) fun y hy=>?_;subst hy;refine Zr (ABc (AY0 Aji (show (2:Int).natAbs<=dBd AGw (8 + 1) by decide) (by rw [Int.natAbs_natCast];exact Abn hn hi hj hj hb))) fun w hw=>?_;subst hw;rw [wk Zj];refine Zr (ABc (AV8 (k:=j + 1) Zj hn)) fun m hm=>?_;subst hm;refine Zr (ABc (a:=ATf (2 * ((Mn j F i j).natAbs:Int)) (det (j + 1) F)) rfl) fun c hc=>Zn ?_;subst hc;exact decide_eq_decide.2 (Aei _ _)
theorem AZ6 {F:AAb} {i j:Nat}:2 * ((Mn j F i j).natAbs:Int)<=det (j + 1) F↔SzF F i j:=by
 unfold SzF;omega
theorem psum_abs {f g:Nat->Int} {D:Nat}:∀ (n:Nat),(∀ a,a < n->(f a).natAbs<=D/\(g a).natAbs<=D)->(psum (fun a=>f a * g a) n).natAbs<=n * (D * D)
  | 0,_=>by simp [psum]
  | n + 1,h=>by
    have h1:=psum_abs n fun a ha=>h a Zj
    have h2:=Nat.mul_le_mul (h n Zj).1 (h n Zj).2
    rw [<- Int.natAbs_mul] at h2
    have e:(n + 1) * (D * D)=n * (D * D) + D * D:=by rw [Nat.add_mul,Nat.one_mul]
    simp only [psum]
    omega
theorem Awf {fuel n D:Nat} {f g:Nat->Int} (hn:n<=16) (hD:16 * (D * D) < AC3) (hb:∀ a,a < n->(f a).natAbs<=D/\(g a).natAbs<=D) (hf:100 < fuel):AH4 fuel (AB6 n f) (AB6 n g)=some (psum (fun a=>f a * g a) n):=by
 apply ok_eq;unfold AH4;refine Zr (ABa (fun k s=>s=(((k:Nat):Int),psum (fun a=>f a * g a) k)/\k<=n) n (Q:=(· =psum (fun a=>f a * g a) n)) ⟨rfl,Nat.zero_le _⟩ Zj fun k s hk hI=>?_) fun e he=>Zn he;obtain ⟨rfl,hkn⟩:=hI;unfold ALx;dsimp only;rw [AA2];refine AAh (fun h=>?_) (fun h=>Zn ?_)
 ·have hk':k < n:=by omega
  have h1:=psum_abs k fun a ha=>hb a Zj;have h2:=Nat.mul_le_mul (hb k hk').1 (hb k hk').2;have h3:k * (D * D)<=16 * (D * D):=Nat.mul_le_mul_right _ Zj;have h4:1 * (D * D)<=16 * (D * D):=Nat.mul_le_mul_right _ Zj;refine AAu (AAq hk') rfl (AAu (AAq hk') rfl (Zr (Q:=(· =f k * g k)) ⟨_,if_pos Zj,rfl⟩ fun x hx=>?_));subst hx;refine Zr (Q:=(· =psum (fun a=>f a * g a) k + f k * g k)) ⟨_,if_pos ⟨Zj,by rw [Int.natAbs_mul];omega⟩,rfl⟩ fun y hy=>Zn ⟨Zj,?_,Zj⟩;subst hy;rw [wk Zj];simp [psum]
 ·obtain rfl:k=n:=by omega
  rfl
theorem Abo {fuel n:Nat} {F:AAb} (hn:1<=n) (Ad:n<=16) (hf:100 < fuel):AB7 fuel (tab n n F)=some ((n:Int),(n:Int),true):=by
 apply ok_eq;unfold AB7;rw [AAt];refine Zr (Q:=fun ex=>match ex with | .inl _=>False | .inr _=>True) (AAh (fun h=>by omega) fun h=>AAh (fun h2=>by omega) fun h2=>Zn trivial) fun ex hex=>?_
 cases ex with
 | inl e=>exact hex.elim
 | inr u=>
   dsimp only
   refine Zr (ABa (fun i (s:Int)=>s=i) n (Q:=fun ex=>match ex with | .inl _=>False | .inr _=>True) rfl Zj fun i s hi hI=>?_) fun ex hex=>?_
   · subst hI
     unfold AFp
     rw [AAt]
     refine AAh (fun h=>AAu (AA1 Zj) rfl ?_) fun h=>Zn trivial
     rw [AA2]
     refine AAh (fun h2=>by omega) fun h2=>AAh (fun h3=>by omega) fun h3=>AAu (n:=0) (AA1 Zj) rfl (AAh (fun h4=>?_) fun h4=>Zn ⟨Zj,wk Zj⟩)
     rw [AA2] at h4;omega
   · cases ex with
     | inl e=>exact hex.elim
     | inr u=>exact AAu (n:=0) (AA1 Zj) rfl (Zn (by rw [AA2]))
theorem APc {r c:Nat} {F G:AAb} (h:∀ i j,i < r->j < c->F i j=G i j):tab r c F=tab r c G:=by
 rw [AP5,AP5];exact ABo fun i hi=>ABo fun j hj=>h i j hi hj
def trS (F:AAb) (i j r c:Nat):Int:=if c < i∨c=i/\r < j then F c r else 0
theorem Ajq {fuel n:Nat} {F:AAb} (hn:1<=n) (Ad:n<=16) (hf:100 < fuel):ADn fuel (tab n n F)=some (tab n n (trF F),true):=by
 apply ok_eq;unfold ADn;refine Zr (ABc (Abo hn Ad hf)) fun x hx=>?_;subst hx;dsimp only;refine AAh (fun h=>absurd h Zl) fun _=>Zr (ABc (AZ0 Zj Zj Zj)) fun O hO=>?_;subst hO;refine Zr (ABa (fun i s=>s=(((i:Nat):Int),tab n n (trS F i 0))/\i<=n) n (Q:=(· =tab n n (trF F))) ⟨?_,Nat.zero_le _⟩ Zj fun i s hi hI=>?_) fun e he=>Zn (by rw [he])
 ·rw [AE4 n (0:Int),AE4];refine congrArg (Prod.mk (0:Int)) ?_;rw [AP5];exact ABo fun r _=>ABo fun c _=>by unfold trS;rw [if_neg Zj]
 ·obtain ⟨rfl,hin⟩:=hI;unfold AHz;dsimp only;rw [AAt];refine AAh (fun h=>?_) (fun h=>Zn ?_)
  ·have hi':i < n:=by omega
   refine AAu (AA1 hi') rfl (Zr (ABa (fun j s=>s=(((j:Nat):Int),tab n n (trS F i j))/\j<=n) n (Q:=(· =tab n n (trS F (i + 1) 0))) ⟨rfl,Nat.zero_le _⟩ Zj fun j s hj hJ=>?_) fun e he=>Zn ⟨Zj,by rw [wk Zj,he];simp,Zj⟩);obtain ⟨rfl,hjn⟩:=hJ;unfold AHy;dsimp only;rw [AA2];refine AAh (fun h2=>?_) (fun h2=>Zn ?_)
   ·have hj':j < n:=by omega
    refine AAu (AA1 hj') rfl (AAu (AA1 hi') rfl (AAu (AAq hj') rfl (Zr (ABc (a:=F i j) rfl) fun y hy=>AAu (AAq hi') rfl (Zn ⟨Zj,?_,Zj⟩))));subst hy;rw [wk Zj,AWz];refine Prod.ext (by dsimp only;omega) (APc fun r c hr hc=>?_);rw [ABd];unfold trS;by_cases h3:r=j
    ·rw [if_pos h3];by_cases h4:c=i
     ·rw [if_pos h4,if_pos Zj,h3,h4]
     ·rw [if_neg h4];by_cases h5:c < i
      ·rw [if_pos Zj,if_pos Zj,h3]
      ·rw [if_neg Zj,if_neg Zj]
    ·rw [if_neg h3];by_cases h5:c < i∨c=i/\r < j
     ·rw [if_pos h5,if_pos Zj]
     ·rw [if_neg h5,if_neg Zj]
   ·refine APc fun r c hr hc=>?_;unfold trS;by_cases h5:c < i + 1
    ·rw [if_pos Zj,if_pos Zj]
    ·rw [if_neg Zj,if_neg Zj]
  ·refine APc fun r c hr hc=>?_;unfold trS trF;rw [if_pos Zj]
def muS (H:AAb) (i j r c:Nat):Int:=if r < i∨r=i/\c < j then H r c else 0
theorem Apa {fuel n D:Nat} {F G:AAb} (hn:1<=n) (Ab:n<=16) (hD:16 * (D * D) < AC3) (hF:∀ i j,i < n->j < n->(F i j).natAbs<=D) (hG:∀ i j,i < n->j < n->(G i j).natAbs<=D) (hf:100 < fuel):AH5 fuel (tab n n F) (tab n n G)=some (tab n n (ACv n F G),true):=by
 apply ok_eq;unfold AH5;refine Zr (ABc (Abo hn Ab hf)) fun x hx=>?_;subst hx;dsimp only;refine Zr (ABc (Ajq hn Ab hf)) fun x hx=>?_;subst hx;dsimp only;rw [AAt,AAt];refine Zr (Q:=fun ex=>match ex with | .inl _=>False | .inr _=>True) (AAh (fun h=>absurd h Zl) fun _=>AAh (fun h=>absurd h Zl) fun _=>AAh (fun h=>absurd rfl h) fun _=>Zn trivial) fun ex hex=>?_
 cases ex with
 | inl e=>exact hex.elim
 | inr u=>
   dsimp only
   rw [AAt]
   refine Zr (ABc (AZ0 Zj Zj Zj)) fun O hO=>?_
   subst hO
   refine Zr (ABa (fun i s=>s=(((i:Nat):Int),tab n n (muS (ACv n F G) i 0))/\i<=n) n (Q:=(· =tab n n (ACv n F G))) ⟨?_,Nat.zero_le _⟩ Zj fun i s hi hI=>?_) fun e he=>Zn (by rw [he])
   · rw [AE4 n (0:Int),AE4]
     refine congrArg (Prod.mk (0:Int)) ?_
     rw [AP5]
     exact ABo fun r _=>ABo fun c _=>by unfold muS;rw [if_neg Zj]
   · obtain ⟨rfl,hin⟩:=hI
     unfold ALz
     dsimp only
     rw [AAt]
     refine AAh (fun h=>?_) (fun h=>Zn ?_)
     · have hi':i < n:=by omega
       refine Zr (ABa (fun j s=>s=(((j:Nat):Int),tab n n (muS (ACv n F G) i j))/\j<=n) n (Q:=(· =tab n n (muS (ACv n F G) (i + 1) 0))) ⟨rfl,Nat.zero_le _⟩ Zj fun j s hj hJ=>?_) fun e he=>Zn ⟨Zj,by rw [wk Zj,he];simp,Zj⟩
       obtain ⟨rfl,hjn⟩:=hJ
       unfold ALy
       dsimp only
       rw [AAt]
       refine AAh (fun h2=>?_) (fun h2=>Zn ?_)
       · have hj':j < n:=by omega
         refine AAu (AA1 hi') rfl (AAu (AA1 hi') rfl (AAu (AA1 hj') rfl (Zr (ABc (Awf (D:=D) Ab hD (fun a ha=>⟨hF i a hi' ha,hG a j ha hj'⟩) hf)) fun y hy=>AAu (AAq hj') rfl (Zn ⟨Zj,?_,Zj⟩))))
         subst hy
         rw [wk Zj,AWz]
         refine Prod.ext (by dsimp only;omega) (APc fun r c hr hc=>?_)
         rw [ABd]
         unfold muS
         by_cases h3:r=i
         · rw [if_pos h3]
           by_cases h4:c=j
           · rw [if_pos h4,if_pos Zj,h3,h4];rfl
           · rw [if_neg h4]
             by_cases h5:c < j
             · rw [if_pos Zj,if_pos Zj,h3]
             · rw [if_neg Zj,if_neg Zj]
         · rw [if_neg h3]
           by_cases h5:r < i
           · rw [if_pos Zj,if_pos Zj]
           · rw [if_neg Zj,if_neg Zj]
       · refine APc fun r c hr hc=>?_
         unfold muS
         by_cases h5:r < i + 1
         · rw [if_pos Zj,if_pos Zj]
         · rw [if_neg Zj,if_neg Zj]
     · refine APc fun r c hr hc=>?_
       unfold muS
       rw [if_pos Zj]
theorem Ajr (a b:Int):ATf a b=0↔a=b:=by unfold ATf;split <;> (try split) <;> omega
theorem Atd {fuel n:Nat} {F:AAb} (Ae:n<=16) (hf:100 < fuel):Ok (ADo fuel (tab n n F)) fun r=>r=true↔AMe n F:=by
 unfold ADo;refine Zr (ABa (fun i s=>s=((i:Nat):Int)/\i<=n/\ ∀ a b,b < a->a < i->F a b=F b a) n (Q:=fun ex=>match ex with | .inl e=>e=false/\¬ AMe n F | .inr _=>AMe n F) ⟨rfl,Nat.zero_le _,fun a b h1 h2=>by omega⟩ Zj fun i s hi hI=>?_) fun ex hex=>?_
 ·obtain ⟨rfl,hin,hs⟩:=hI;unfold AH1;rw [AAt];refine AAh (fun h=>?_) (fun h=>Zn ?_)
  ·have hi':i < n:=by omega
   refine Zr (ABa (fun j s=>s=((j:Nat):Int)/\j<=i/\ ∀ b,b < j->F i b=F b i) i (Q:=fun ex=>match ex with | .inl e=>e=false/\¬ AMe n F | .inr _=> ∀ b,b < i->F i b=F b i) ⟨rfl,Nat.zero_le _,fun b h1=>by omega⟩ Zj fun j s hj hJ=>?_) fun ex hex=>?_
   ·obtain ⟨rfl,hji,hb⟩:=hJ;unfold AH0;refine AAh (fun h2=>?_) (fun h2=>Zn ?_)
    ·have hj':j < i:=by omega
     refine AAu (AA1 hi') rfl (AAu (AAq Zj) rfl (AAu (AA1 Zj) rfl (AAu (AAq hi') rfl (Zr (ABc (a:=ATf (F i j) (F j i)) rfl) fun c hc=>?_))));subst hc;refine AAh (fun h3=>Zn ⟨rfl,fun h4=>h3 ((Ajr _ _).2 (h4 i j hi' Zj))⟩) (fun h3=>Zn ⟨Zj,by rw [wk Zj];simp,Zj,fun b Af=>?_⟩);rcases Nat.lt_or_ge b j with h4 | h4
     ·exact hb b h4
     ·obtain rfl:b=j:=by omega
      exact (Ajr _ _).1 (Classical.not_not.1 h3)
    ·obtain rfl:j=i:=by omega
     exact hb
   ·cases ex with
    | inl e=>exact Zn hex
    | inr u=>exact Zn ⟨Zj,by rw [wk Zj];simp,Zj,fun a b h1 h2=>by
        rcases Nat.lt_or_ge a i with h4 | h4
        · exact hs a b h1 h4
        · obtain rfl:a=i:=by omega
          exact hex b h1⟩
  ·obtain rfl:i=n:=by omega
   intro a b ha hb;rcases Nat.lt_trichotomy a b with h1 | h1 | h1
   ·exact (hs b a h1 hb).symm
   ·rw [h1]
   ·exact hs a b h1 ha
 ·cases ex with
  | inl e=>obtain ⟨rfl,h⟩:=hex;exact Zn ⟨fun h1=>Bool.noConfusion h1,fun h1=>absurd h1 h⟩
  | inr u=>exact Zn ⟨fun _=>hex,fun _=>rfl⟩
theorem Ar6 {fuel n D:Nat} {F G:AAb} (hn:1<=n) (Aa:n<=16) (hD:16 * (D * D) < AC3) (hF:∀ i j,i < n->j < n->(F i j).natAbs<=D) (hG:∀ i j,i < n->j < n->(G i j).natAbs<=D) (hH:∀ i j,i < n->j < n->(ACv n (trF G) F i j).natAbs<=D) (hf:100 < fuel):ADp fuel (tab n n F) (tab n n G)=some (tab n n (ACv n (ACv n (trF G) F) G)):=by
 apply ok_eq;unfold ADp;refine Zr (ABc (Ajq hn Aa hf)) fun x hx=>?_;subst hx;dsimp only
 have pr:∀ {F G:AAb},(∀ i j,i < n->j < n->(F i j).natAbs<=D)->(∀ i j,i < n->j < n->(G i j).natAbs<=D)->Ok (ACe fuel (tab n n F) (tab n n G)) (· =tab n n (ACv n F G)):=fun {F G} hF hG=>by
   unfold ACe
   refine Zr (ABc (Apa hn Aa hD hF hG hf)) fun x hx=>?_
   subst hx
   exact Zn rfl
 refine Zr (pr (fun i j hi hj=>hG j i hj hi) hF) fun x hx=>?_;subst hx;refine Zr (pr hH hG) fun y hy=>Zn hy
theorem Ajs (a:Int):AGc a<=0↔a<=0:=by unfold AGc;split <;> (try split) <;> omega
theorem Awg {fuel n:Nat} {F:AAb} (Ae:1<=n) (hn:n<=8) (hb:∀ i j,i < n->j < n->(F i j).natAbs<=AGw) (hf:100 < fuel):Ok (AFq fuel (tab n n F)) fun r=>r=true↔AMe n F/\AN5 n F:=by
 unfold AFq;refine Zr (ABc (AY7 Ae hn hb hf)) fun x hx=>?_;subst hx;dsimp only;refine Zr (Q:=fun ex=>match ex with | .inl e=>e=false/\¬ AMe n F | .inr _=>AMe n F) (AAh (fun h=>absurd h Zl) fun _=>Zr (Atd Zj hf) fun r hr=>?_) fun ex hex=>?_
 ·refine AAh (fun h=>Zn ⟨rfl,fun h1=>?_⟩) (fun h=>Zn (hr.1 ?_))
  ·rw [hr.2 h1] at h;exact absurd h Zl
  ·cases r
   ·exact absurd rfl h
   ·rfl
 ·cases ex with
  | inl e=>obtain ⟨rfl,h⟩:=hex;exact Zn ⟨fun h1=>Bool.noConfusion h1,fun h1=>absurd h1.1 h⟩
  | inr u=>
    dsimp only at hex ⊢
    have h0:∀ k,k<=0->0 < det k F:=fun k hk=>by
      obtain rfl:k=0:=by omega
      simp [det]
    refine Zr (ABa (fun i s=>s=((i:Nat):Int)/\i<=n/\ ∀ k,k<=i->0 < det k F) n (Q:=fun ex=>match ex with | .inl e=>e=false/\¬ AN5 n F | .inr _=>AN5 n F) ⟨rfl,Nat.zero_le _,h0⟩ Zj fun i s hi hI=>?_) fun ex Ad=>?_
    · obtain ⟨rfl,hin,hp⟩:=hI
      unfold AIj
      rw [AA2]
      refine AAh (fun h=>?_) (fun h=>Zn ?_)
      · have hi':i < n:=by omega
        refine AAu (AAq hi') rfl (Zr (ABc (a:=AGc (det (i + 1) F)) rfl) fun c hc=>?_)
        subst hc
        refine AAh (fun h3=>Zn ⟨rfl,fun h4=>?_⟩) (fun h3=>Zn ⟨Zj,by rw [wk Zj];simp,Zj,fun k hk=>?_⟩)
        · have:=h4 (i + 1) Zj;have:=(Ajs _).1 h3;omega
        · rcases Nat.lt_or_ge k (i + 1) with h4 | h4
          · exact hp k Zj
          · obtain rfl:k=i + 1:=by omega
            rw [Ajs] at h3;omega
      · obtain rfl:i=n:=by omega
        exact hp
    · cases ex with
      | inl e=>obtain ⟨rfl,h⟩:=Ad;exact Zn ⟨fun h1=>Bool.noConfusion h1,fun h1=>absurd h1.2 h⟩
      | inr u=>exact Zn ⟨fun _=>⟨hex,Ad⟩,fun _=>rfl⟩
theorem AW1 {fuel n:Nat} {F:AAb} (Ac:1<=n) (hn:n<=8) (hb:∀ i j,i < n->j < n->(F i j).natAbs<=AGw) (hf:100 < fuel):Ok (ACo fuel (tab n n F)) fun r=>r=0↔AMe n F/\AN5 n F:=by
 unfold ACo;refine Zr (ABc (Ac8 Ac Zj hf)) fun x hx=>?_;subst hx;dsimp only;refine AAh (fun h=>absurd h Zl) fun _=>AAh (fun h=>by omega) fun _=>Zr (Atd Zj hf) fun r hr=>AAh (fun h=>Zn ⟨fun h1=>by omega,fun h1=>?_⟩) fun h=>Zr (Awg Ac hn hb hf) fun q hq=>AAh (fun h2=>Zn ⟨fun h1=>by omega,fun h1=>?_⟩) fun h2=>Zn ⟨fun _=>hq.1 ?_,fun _=>rfl⟩
 ·rw [hr.2 h1.1] at h;exact absurd h Zl
 ·rw [hq.2 h1] at h2;exact absurd h2 Zl
 ·cases q
  ·exact absurd rfl h2
  ·rfl
theorem Ajt {fuel n:Nat} {F:AAb} (hn:n<=8) (hb:∀ i j,i < n->j < n->(F i j).natAbs<=AGw) (hf:100 < fuel):AFh fuel (tab n n F)=some (decide (det n F<=10000)):=by
 apply ok_eq;unfold AFh;refine Zr (ABc (AXy hn hb Zj)) fun x hx=>?_;subst hx;refine Zr (Q:=(· =10000)) ⟨10000,if_pos Zj,rfl⟩ fun y hy=>?_;subst hy;refine Zr (ABc (a:=ATf (det n F) 10000) rfl) fun c hc=>Zn ?_;subst hc;exact decide_eq_decide.2 (Aei _ _)
def idS (i r c:Nat):Int:=if r=c/\r < i then 1 else 0
theorem Aju {fuel n:Nat} (hn:1<=n) (Ae:n<=16) (hf:100 < fuel):ADx fuel (n:Int)=some (tab n n dl,true):=by
 apply ok_eq;unfold ADx;refine Zr (Q:=fun ex=>match ex with | .inl _=>False | .inr _=>True) (AAh (fun h=>by omega) fun _=>AAh (fun h=>by omega) fun _=>Zn trivial) fun ex hex=>?_
 cases ex with
 | inl e=>exact hex.elim
 | inr u=>
   dsimp only
   refine Zr (ABc (AZ0 Zj Zj Zj)) fun O hO=>?_
   have Ab:O=tab n n (idS 0):=by
     rw [hO,AE4 n (0:Int),AE4,AP5]
     exact ABo fun r _=>ABo fun c _=>by unfold idS;rw [if_neg Zj]
   have hlen:O.length=n:=by rw [Ab,AAt]
   refine Zr (ABa (fun i s=>s=(((i:Nat):Int),tab n n (idS i))/\i<=n) n (Q:=(· =tab n n dl)) ⟨by rw [Ab];rfl,Nat.zero_le _⟩ Zj fun i s hi hI=>?_) fun e he=>Zn (by rw [he])
   obtain ⟨rfl,hin⟩:=hI
   unfold AIi
   dsimp only
   rw [hlen]
   refine AAh (fun h=>?_) (fun h=>Zn ?_)
   · have hi':i < n:=by omega
     refine AAu (AA1 hi') rfl (Zr (Q:=(· =1)) ⟨1,if_pos Zj,rfl⟩ fun y hy=>AAu (AAq hi') rfl (Zn ⟨Zj,?_,Zj⟩))
     subst hy
     rw [wk Zj,AWz]
     refine Prod.ext (by dsimp only;omega) (APc fun r c hr hc=>?_)
     rw [ABd]
     unfold idS
     by_cases h3:r=i
     · rw [if_pos h3]
       by_cases h4:c=i
       · rw [if_pos h4,if_pos Zj]
       · rw [if_neg h4,if_neg Zj,if_neg Zj]
     · rw [if_neg h3]
       by_cases h5:r=c/\r < i
       · rw [if_pos h5,if_pos Zj]
       · rw [if_neg h5,if_neg Zj]
   · refine APc fun r c hr hc=>?_
     unfold idS dl
     by_cases h5:r=c
     · rw [if_pos Zj,if_pos h5]
     · rw [if_neg Zj,if_neg h5]
def toS (n:Nat) (F:AAb) (i:Nat):List (List Int):=AB6 n fun r=>if r < i then AB6 n (F r) else []
def toR (n:Nat) (F:AAb) (i j:Nat):List (List Int):=AB6 n fun r=>if r < i then AB6 n (F r) else if r=i then AB6 n (fun c=>if c < j then F i c else 0) else []
theorem Awi {fuel n:Nat} {F:AAb} (hn:1<=n) (Ae:n<=16) (hb:∀ i j,i < n->j < n->(F i j).natAbs < 9223372036854775808) (hf:100 < fuel):AGi fuel (tab n n F)=some (tab n n F,true):=by
 apply ok_eq;unfold AGi;refine Zr (ABc (Abo hn Ae hf)) fun x hx=>?_;subst hx;dsimp only;refine AAh (fun h=>absurd h Zl) fun _=>AB5 Zj (Zr (ABa (fun i s=>s=(((i:Nat):Int),toS n F i)/\i<=n) n (Q:=fun ex=>match ex with | .inl _=>False | .inr e=>e=tab n n F) ⟨?_,Nat.zero_le _⟩ Zj fun i s hi hI=>?_) fun ex hex=>?_)
 ·rw [Int.toNat_natCast,AE4];exact congrArg (Prod.mk (0:Int)) (ABo fun r _=>by rw [if_neg Zj])
 ·obtain ⟨rfl,hin⟩:=hI;unfold AJv;dsimp only;rw [List.length_replicate,Int.toNat_natCast];refine AAh (fun h=>AB5 Zj ?_) (fun h=>Zn ?_)
  ·have hi':i < n:=by omega
   have e0:sI (toS n F i) (i:Int) (List.replicate n (0:Int))=toR n F i 0:=by
     rw [AB0];unfold toS;rw [AD7]
     refine ABo fun r _=>?_
     by_cases h1:r=i
     · rw [if_pos h1,if_neg Zj,if_pos h1,AE4];exact ABo fun c _=>by rw [if_neg Zj]
     · rw [if_neg h1]
       by_cases h2:r < i
       · rw [if_pos h2,if_pos h2]
       · rw [if_neg h2,if_neg h2,if_neg h1]
   refine AAu (n:=i) (AAq hi') rfl ?_;rw [e0];refine AAu (n:=i) (AAq hi') rfl ?_;rw [if_neg Zj,if_pos rfl];refine Zr (ABa (fun j s=>s=(((j:Nat):Int),toR n F i j)/\j<=n) n (Q:=fun ex=>match ex with | .inl _=>False | .inr e=>e=toS n F (i + 1)) ⟨rfl,Nat.zero_le _⟩ Zj fun j s hj hJ=>?_) fun ex hex=>?_
   ·obtain ⟨rfl,hjn⟩:=hJ;unfold AJu;dsimp only;rw [AA2];refine AAh (fun h2=>?_) (fun h2=>Zn ?_)
    ·have hj':j < n:=by omega
     refine AAu (AA1 hi') rfl (AAu (AAq hj') rfl (Zr (Q:=(· =(F i j,true))) ⟨_,if_pos (hb i j hi' hj'),rfl⟩ fun y hy=>?_));subst hy;dsimp only;refine AAh (fun h=>absurd h Zl) fun _=>AAu (n:=i) (AAq hi') rfl ?_;rw [if_neg Zj,if_pos rfl];refine AAu (AAq hj') rfl (Zn ⟨Zj,?_,Zj⟩);rw [wk Zj,AB0,AB0];refine Prod.ext (by dsimp only;omega) ?_;dsimp only;unfold toR;rw [AD7,AD7];refine ABo fun r _=>?_;by_cases h1:r=i
     ·rw [if_pos h1,if_neg Zj,if_pos h1];refine ABo fun c _=>?_;by_cases h3:c=j
      ·rw [if_pos h3,if_pos Zj,h3]
      ·rw [if_neg h3];by_cases h4:c < j
       ·rw [if_pos h4,if_pos Zj]
       ·rw [if_neg h4,if_neg Zj]
     ·rw [if_neg h1,if_neg h1,if_neg h1]
    ·refine ABo fun r _=>?_;by_cases h1:r < i
     ·rw [if_pos h1,if_pos Zj]
     ·rw [if_neg h1];by_cases h3:r=i
      ·rw [if_pos h3,if_pos Zj,h3];exact ABo fun c hc=>by rw [if_pos Zj]
      ·rw [if_neg h3,if_neg Zj]
   ·cases ex with
    | inl e=>exact hex.elim
    | inr e=>exact Zn ⟨Zj,by rw [wk Zj,hex];simp,Zj⟩
  ·refine ABo fun r hr=>?_;rw [if_pos Zj];rfl
 ·cases ex with
  | inl e=>exact hex.elim
  | inr e=>exact Zn (by rw [hex])
end Go.Proofs.YtdkldlbgcfpglaaGreatDoor
