/-
  Texts of a proof, joined. Conditions stand in each statement.
-/
import Derived.ArgAppend
import Derived.Test.YtkakafabeobahaaGreatDoorMDyadicVerifies1
set_option linter.unusedVariables false
set_option linter.unusedSimpArgs false
open Go
variable {listed:Array Bool} {ts:Array TypeId} {st na:Bool} {Q:Exit->Act->World->Prop} {f:FuncId} {h h0 h1 h':Go.QF.AO2} {B:Go.QF.AO2->Prop} {K:Go.QF.Env->Go.QF.AO2->Prop} {a r d a1:Int} {k κ κ':IntKind} {Gs Gs':List (List Nat)} {parts:List (Nat × Operand)} {LA LB R T F G F':List Nat} {xs:List Operand} {rs c1 c2 c' rs':List Value} {i la lb j t er el er0 tr tl bytes tb fuel el0:Nat} {x y s:Operand} {P:Program} {α:Type} {t2 ty:TypeId} {va vb v v' Ad:Value}
namespace Go.Proofs.YtkakafabeobahaaGreatDoor
open Go Go.QF
set_option maxRecDepth 100000
theorem BDa {a b:Nat} (ha:a < 4294967296) (hb:b < 4294967296) (w:World):(Op.intBits .or .u32 (a:Int) (b:Int)).run P w= .ok (.int .u32 ((a ||| b:Nat):Int)) w:=by
 have h1:(BitVec.ofInt 32 (a:Int)).toNat=a:=by rw [BitVec.toNat_ofInt];omega
 have h2:(BitVec.ofInt 32 (b:Int)).toNat=b:=by rw [BitVec.toNat_ofInt];omega
 have h3:a ||| b < 2 ^ 32:=Nat.or_lt_two_pow AOq AOq;simp only [Op.intBits];show Result.ok (Value.int .u32<|IntKind.u32.wrap ((BitVec.ofInt 32 (a:Int) ||| BitVec.ofInt 32 (b:Int)).toNat:Int)) w=_;rw [BitVec.toNat_or,h1,h2,wrap_u32,Int.emod_eq_of_lt AOq AOq]
theorem BBc {a:Nat} (ha:a < 4294967296) (w:World):(Op.intBits .and .u32 (a:Int) 1).run P w= .ok (.int .u32 ((a % 2:Nat):Int)) w:=by
 have h1:(BitVec.ofInt 32 (a:Int)).toNat=a:=by rw [BitVec.toNat_ofInt];omega
 have h2:(BitVec.ofInt 32 (1:Int)).toNat=1:=by decide
 simp only [Op.intBits];show Result.ok (Value.int .u32<|IntKind.u32.wrap ((BitVec.ofInt 32 (a:Int) &&& BitVec.ofInt 32 (1:Int)).toNat:Int)) w=_;rw [BitVec.toNat_and,h1,h2,Nat.and_one_is_mod,wrap_u32,Int.emod_eq_of_lt AOq AOq]
theorem A0v {L:List Nat} (h:L.length<=i):nv (L.take i)=nv L:=by rw [List.take_of_length_le h]
theorem BL3 (HA:DS h la va LA) (HB:DS h lb vb LB) (hna:LA.length<=1000) (hnb:LB.length<=1000):Ahs Tryz.prog 199 #[va,vb] h λx h'=>Ext h h'/\ ∃ L,DS h' (Array.size h) x L/\nv L=nv LA + nv LB/\L.length<=1001:=by
 refine Aie (l:=[_,_]) mx Tryz.func199 rfl rfl rfl rfl rfl AO4 (AOv<|Ah7<|Ah7<|AO1<|AOx<|AOv ?_);refine AO1<|AO0<|Aj7 562949953421280 (λy:Nat × Value × Nat=>[(7,.int .i64 (y.1:Int)),(5,y.2.1),(6,.int .u64 (y.2.2:Int))]) (λk y h'=>k=LA.length + LB.length - y.1/\(y.1<=LA.length∨y.1<=LB.length)/\Ext h h'/\y.2.2<=1/\ ∃ D,Gro h' 200 (Array.size h) y.2.1 (D.map Avb)/\D.length=y.1/\Dig D/\nv D + 4294967296 ^ y.1 * y.2.2=nv (LA.take y.1) + nv (LB.take y.1)) AO4 (LA.length + LB.length) (0,.slice none 0 0,0) ?_ ⟨rfl,rfl,rfl,trivial⟩ ?_
 ·exact ⟨rfl,.inl<|Nat.zero_le _,(Ext.refl _),by first | omega | (dsimp only;omega),[],A9i _ _ _,rfl,λx hx=>(by simp at hx),rfl⟩
 rintro k ⟨i,vo,c⟩ s1 h2 ⟨rfl,hi,E2,hc,D,HG,hDl,hDd,hDv⟩;dsimp only at hi hc HG hDl hDv ⊢;have hga:=A9m HA.dig i;have hgb:=A9m HB.dig i;have Av:=E2.1;refine AOx<|AOv<|AOr<|AOr<|Ai4 Ahl rfl (HA.ext E2) (Amf rfl rfl (λAe=>?_) (λAe=>?_))
 ·refine AOr<|Aiq 12 true AO4 rfl rfl (Aiq 12 true AO4 rfl rfl (Aiq 12 true AO4 rfl rfl (Aiq 12 true AO4 rfl rfl (Ahc rfl (AOz<|Ahp rfl (AO5<|q_t<|AOx<|AO0<|A1v 2146435136 (λq:Nat=>[(6,.int .u64 (q:Int))]) (λq h'=>h'=h2/\q=c + LA[i]?.getD 0) AO4 ?_ ?_))))))
  ·refine AOv<|AOr<|AOr<|Ai4 Ahl rfl (HA.ext E2) (Amf rfl rfl (λAf=>?_) (λAf=>?_))
   ·refine AOz<|Ahp rfl ?_;obtain ⟨x,hx⟩:∃ x,LA[i]? =some x:=⟨_,List.getElem?_eq_getElem AOq⟩;have hbx:=HA.dig x<|List.mem_of_getElem? hx;refine Ag6<|AOr<|AOr<|AOr<|Aqd Ahl rfl (HA.ext E2) rfl hx λAw Ag=>Ahu Ajo rfl Ag (Azo Ake Ajp rfl hbx (Awf rfl rfl AOq (AO1 ?_)));exact ⟨c + x,⟨rfl,by rw [hx];rfl⟩,rfl,trivial⟩
   ·refine AOz<|Aht rfl (AO5<|q_t ?_);exact ⟨c,⟨rfl,by rw [show LA[i]? =none from List.getElem?_eq_none AOq];rfl⟩,rfl,trivial⟩
  rintro q s2 h2 ⟨rfl,rfl⟩;refine A1v 4395899027520 (λq:Nat=>[(6,.int .u64 (q:Int))]) (λq h'=>h'=h2/\q=c + LA[i]?.getD 0 + LB[i]?.getD 0) AO4 ?_ ?_
  ·refine AOv<|AOr<|AOr<|Ai4 Ahl rfl (HB.ext E2) (Amf rfl rfl (λAh=>?_) (λAh=>?_))
   ·refine AOz<|Ahp rfl ?_;obtain ⟨y,hy⟩:∃ x,LB[i]? =some x:=⟨_,List.getElem?_eq_getElem AOq⟩;have hby:=HB.dig y<|List.mem_of_getElem? hy;refine Ag6<|AOr<|AOr<|AOr<|Aqd Ahl rfl (HB.ext E2) rfl hy λAx Ai=>Ahu Ajo rfl Ai (Azo Ake Ajp rfl hby (Awf rfl rfl AOq (AO1 ?_)));exact ⟨c + LA[i]?.getD 0 + y,⟨rfl,by rw [hy];rfl⟩,rfl,trivial⟩
   ·refine AOz<|Aht rfl (AO5<|q_t ?_);exact ⟨c + LA[i]?.getD 0,⟨rfl,by rw [show LB[i]? =none from List.getElem?_eq_none AOq];rfl⟩,rfl,trivial⟩
  rintro q s2 h2 ⟨rfl,rfl⟩;refine AOv<|AOr<|AOr<|A1i Ajp Ake rfl (A2r (h0:=h) Ahl Atf (λ_=>trivial) (λ_=>rfl) rfl E2 HG AOs AOq λp4 v4 h4 Ac E4=>AO1<|Ag6<|AOr<|A0t rfl rfl (Aho<|Ahh<|q_b<|q_t<|Ag6<|AOr<|Ara rfl AOq (AO1 ?_)));exact ⟨LA.length + LB.length - (i + 1),(i + 1,v4,(c + LA[i]?.getD 0 + LB[i]?.getD 0) / 4294967296),by first | omega | (dsimp only;omega),⟨rfl,by first | omega | (dsimp only;omega),E4,by first | omega | (dsimp only;omega),_,Ac,by simp [hDl],Auk hDd<|Nat.mod_lt _ AOs,by rw [Atb,hDl,Nat.add_assoc c,A0u hDv,Atc LA,Atc LB,Nat.mul_add];omega⟩,rfl,rfl,rfl,trivial⟩
 ·refine AOr<|Aix 12 false AO4 rfl rfl (AOr<|Aix 12 false AO4 rfl rfl (AOr<|Aix 12 false AO4 rfl rfl (Ai4 Ahl rfl (HB.ext E2) (Aix 12 false AO4 rfl rfl (Amf rfl rfl (λAk=>?_) (λAk=>?_))))))
  ·refine APd rfl (AOz<|Ahp rfl (AO5<|q_t<|AOx<|AO0<|A1v 2146435136 (λq:Nat=>[(6,.int .u64 (q:Int))]) (λq h'=>h'=h2/\q=c + LA[i]?.getD 0) AO4 ?_ ?_))
   ·refine AOv<|AOr<|AOr<|Ai4 Ahl rfl (HA.ext E2) (Amf rfl rfl (λAm=>?_) (λAm=>?_))
    ·refine AOz<|Ahp rfl ?_;obtain ⟨x,hx⟩:∃ x,LA[i]? =some x:=⟨_,List.getElem?_eq_getElem AOq⟩;have hbx:=HA.dig x<|List.mem_of_getElem? hx;refine Ag6<|AOr<|AOr<|AOr<|Aqd Ahl rfl (HA.ext E2) rfl hx λAy Ao=>Ahu Ajo rfl Ao (Azo Ake Ajp rfl hbx (Awf rfl rfl AOq (AO1 ?_)));exact ⟨c + x,⟨rfl,by rw [hx];rfl⟩,rfl,trivial⟩
    ·refine AOz<|Aht rfl (AO5<|q_t ?_);exact ⟨c,⟨rfl,by rw [show LA[i]? =none from List.getElem?_eq_none AOq];rfl⟩,rfl,trivial⟩
   rintro q s2 h2 ⟨rfl,rfl⟩;refine A1v 4395899027520 (λq:Nat=>[(6,.int .u64 (q:Int))]) (λq h'=>h'=h2/\q=c + LA[i]?.getD 0 + LB[i]?.getD 0) AO4 ?_ ?_
   ·refine AOv<|AOr<|AOr<|Ai4 Ahl rfl (HB.ext E2) (Amf rfl rfl (λAp=>?_) (λAp=>?_))
    ·refine AOz<|Ahp rfl ?_;obtain ⟨y,hy⟩:∃ x,LB[i]? =some x:=⟨_,List.getElem?_eq_getElem AOq⟩;have hby:=HB.dig y<|List.mem_of_getElem? hy;refine Ag6<|AOr<|AOr<|AOr<|Aqd Ahl rfl (HB.ext E2) rfl hy λAz Aq=>Ahu Ajo rfl Aq (Azo Ake Ajp rfl hby (Awf rfl rfl AOq (AO1 ?_)));exact ⟨c + LA[i]?.getD 0 + y,⟨rfl,by rw [hy];rfl⟩,rfl,trivial⟩
    ·refine AOz<|Aht rfl (AO5<|q_t ?_);exact ⟨c + LA[i]?.getD 0,⟨rfl,by rw [show LB[i]? =none from List.getElem?_eq_none AOq];rfl⟩,rfl,trivial⟩
   rintro q s2 h2 ⟨rfl,rfl⟩;refine AOv<|AOr<|AOr<|A1i Ajp Ake rfl (A2r (h0:=h) Ahl Atf (λ_=>trivial) (λ_=>rfl) rfl E2 HG AOs AOq λp4 v4 h4 Ac E4=>AO1<|Ag6<|AOr<|A0t rfl rfl (Aho<|Ahh<|q_b<|q_t<|Ag6<|AOr<|Ara rfl AOq (AO1 ?_)));exact ⟨LA.length + LB.length - (i + 1),(i + 1,v4,(c + LA[i]?.getD 0 + LB[i]?.getD 0) / 4294967296),by first | omega | (dsimp only;omega),⟨rfl,by first | omega | (dsimp only;omega),E4,by first | omega | (dsimp only;omega),_,Ac,by simp [hDl],Auk hDd<|Nat.mod_lt _ AOs,by rw [Atb,hDl,Nat.add_assoc c,A0u hDv,Atc LA,Atc LB,Nat.mul_add];omega⟩,rfl,rfl,rfl,trivial⟩
  ·refine APd rfl (AOz<|Aht rfl (Ahf<|Ahg<|Ahg<|Aio<|q_t<|AOv<|AOr<|AOr<|A1i Ajp Ake rfl ?_));rw [Nat.mod_eq_of_lt<|show c < 4294967296 by omega];refine A2r (h0:=h) Ahl Atf (λ_=>trivial) (λ_=>rfl) rfl E2 HG AOs AOq λp5 v5 h5 Ar E5=>AO1<|AO6<|⟨_,AO7,?_⟩;exact ⟨E5,D ++ [c],Ar.ds<|Auk hDd AOq,by rw [Atb,hDl,hDv,A0v AOq,A0v AOq],by simp [hDl];omega⟩
theorem A4g (HA:DS h la va LA) (HB:DS h lb vb LB) (htb:TL LB) (hle:nv LB<=nv LA) (hna:LA.length<=1000):Ahs Tryz.prog 200 #[va,vb] h λx h'=>Ext h h'/\ ∃ L,DS h' (Array.size h) x L/\nv L=nv LA - nv LB/\L.length<=LA.length:=by
 refine Aie (l:=[_,_]) mx Tryz.func200 rfl rfl rfl rfl rfl AO4 (AOv<|Ah7<|Ah7<|AO1<|AOx<|AOv ?_);refine AO1<|AO0<|Aj7 35184372088800 (λy:Nat × Value × Nat=>[(7,.int .i64 (y.1:Int)),(5,y.2.1),(6,.int .u64 (y.2.2:Int))]) (λk y h'=>k=LA.length - y.1/\y.1<=LA.length/\Ext h h'/\y.2.2<=1/\ ∃ D,Gro h' 200 (Array.size h) y.2.1 (D.map Avb)/\D.length=y.1/\Dig D/\nv D + nv (LB.take y.1)=nv (LA.take y.1) + 4294967296 ^ y.1 * y.2.2) AO4 LA.length (0,.slice none 0 0,0) ?_ ⟨rfl,rfl,rfl,trivial⟩ ?_
 ·exact ⟨rfl,Nat.zero_le _,(Ext.refl _),by first | omega | (dsimp only;omega),[],A9i _ _ _,rfl,λx hx=>(by simp at hx),rfl⟩
 rintro k ⟨i,vo,c⟩ s1 h2 ⟨rfl,hi,E2,hc,D,HG,hDl,hDd,hDv⟩;dsimp only at hi hc HG hDl hDv ⊢;have Am:=E2.1;refine AOx<|AOv<|AOr<|AOr<|Ai4 Ahl rfl (HA.ext E2) (Amf rfl rfl (λAe=>?_) (λAe=>?_))
 ·refine AOz<|Ahp rfl (AO5<|q_t<|AOx<|AO0<|AOx ?_);obtain ⟨x,hx⟩:∃ x,LA[i]? =some x:=⟨_,List.getElem?_eq_getElem AOq⟩;have hbx:=HA.dig x<|List.mem_of_getElem? hx;have hgb:=A9m HB.dig i;refine Ag6<|AOr<|AO1<|A1v 134152448 (λq:Nat=>[(8,.int .u64 (q:Int))]) (λq h'=>h'=h2/\q=c + LB[i]?.getD 0) AO4 ?_ ?_
  ·refine AOv<|AOr<|AOr<|Ai4 Ahl rfl (HB.ext E2) (Amf rfl rfl (λAf=>?_) (λAf=>?_))
   ·refine AOz<|Ahp rfl ?_;obtain ⟨y,hy⟩:∃ x,LB[i]? =some x:=⟨_,List.getElem?_eq_getElem AOq⟩;have hby:=HB.dig y<|List.mem_of_getElem? hy;refine Ag6<|AOr<|AOr<|AOr<|Aqd Ahl rfl (HB.ext E2) rfl hy λAo Ag=>Ahu Ajo rfl Ag (Azo Ake Ajp rfl hby (Awf rfl rfl AOq (AO1 ?_)));exact ⟨c + y,⟨rfl,by rw [hy];rfl⟩,rfl,trivial⟩
   ·refine AOz<|Aht rfl (AO5<|q_t ?_);exact ⟨c,⟨rfl,by rw [show LB[i]? =none from List.getElem?_eq_none AOq];rfl⟩,rfl,trivial⟩
  rintro q s2 h2 ⟨rfl,rfl⟩;refine AOv<|AOr<|AOr<|AOr<|Aqd Ahl rfl (HA.ext E2) rfl hx λAp Ah=>Ahu Ajo rfl Ah (Azo Ake Ajp rfl hbx (AOr<|Amr rfl rfl ?_));rw [wrap_u64];refine As3 Ajp Ake rfl ?_;obtain ⟨dg,hdg⟩:∃ dg:Nat,(dg:Int)=((x:Int) - ((c + LB[i]?.getD 0:Nat):Int)) % 4294967296:=⟨(((x:Int) - ((c + LB[i]?.getD 0:Nat):Int)) % 4294967296).toNat,AOq⟩;rw [show IntKind.u32.wrap (((x:Int) - ((c + LB[i]?.getD 0:Nat):Int)) % 18446744073709551616)=(dg:Int) by rw [wrap_u32,hdg];omega];refine A2r (h0:=h) Ahl Atf (λ_=>trivial) (λ_=>rfl) rfl E2 HG AOs AOq λp4 v4 h4 Ad E4=>Ah7<|Ah7<|AOr<|AOr<|Aqd Ahl rfl (HA.ext E4) rfl hx λAr Ai=>Ahu Ajo rfl Ai (Azo Ake Ajp rfl hbx (AOr<|Amf rfl rfl (λAj=>?_) (λAj=>?_)))
  ·refine AOz<|Ahp rfl (Ag6<|Aho<|Ahh<|q_b<|q_t<|Ag6<|AOr<|Ara rfl AOq (AO1 ?_));exact ⟨LA.length - (i + 1),(i + 1,v4,1),by first | omega | (dsimp only;omega),⟨rfl,by first | omega | (dsimp only;omega),E4,by first | omega | (dsimp only;omega),_,Ad,by simp [hDl],Auk hDd AOq,by rw [Atb,hDl,Atc LB,Ajb hx];exact A15 hDv<|by first | omega | (dsimp only;omega)⟩,rfl,rfl,rfl,trivial⟩
  ·refine AOz<|Aht rfl (AO5<|q_b<|q_t<|Ag6<|AOr<|Ara rfl AOq (AO1 ?_));exact ⟨LA.length - (i + 1),(i + 1,v4,0),by first | omega | (dsimp only;omega),⟨rfl,by first | omega | (dsimp only;omega),E4,by first | omega | (dsimp only;omega),_,Ad,by simp [hDl],Auk hDd AOq,by rw [Atb,hDl,Atc LB,Ajb hx];exact A15 hDv<|by first | omega | (dsimp only;omega)⟩,rfl,rfl,rfl,trivial⟩
 ·refine AOz<|Aht rfl (Ahf<|Ahg<|Ahg<|Aio<|q_t<|AOv<|AOr<|AO1<|AO6<|⟨_,AO7,?_⟩);obtain rfl:i=LA.length:=by omega
  rw [List.take_length,A0v (by have:=At6 htb<|Nat.lt_of_le_of_lt hle<|Au2 HA.dig;omega)] at hDv;have hDlt:=Au2 hDd;rw [hDl] at hDlt
  have Ak:c=0:=by
   rcases Nat.eq_zero_or_pos c with h0 | h0
   ·exact h0
   ·obtain rfl:c=1:=by omega
    rw [Nat.mul_one] at hDv;omega
  subst Ak;rw [Nat.mul_zero,Nat.add_zero] at hDv;exact ⟨E2,D,HG.ds hDd,AOq,AOq⟩
theorem A67 {lo:Nat} {L:List Nat} (b:Nat) (hb:b<=1) (H:DS h lo v L) (hn:L.length<=1000):Ahs Tryz.prog 215 #[v,.int .u32 (b:Int)] h λx h'=>Ext h h'/\ ∃ L',DS h' (Array.size h) x L'/\nv L'=2 * nv L + b/\L'.length<=L.length + 1:=by
 refine Aie (l:=[_,_]) mx Tryz.func215 rfl rfl rfl rfl rfl AO4 (AOv<|Ah7<|AO1<|AOx<|AOv<|AOr<|Ai4 Ahl rfl H (AOr<|AOz<|AO0<|Aj7 16776354 (λy:Nat × Value × Nat=>[(10,.int .i64 (y.1:Int)),(5,y.2.1),(1,.int .u32 (y.2.2:Int))]) (λk y h'=>k=L.length - y.1/\y.1<=L.length/\Ext h h'/\y.2.2<=1/\ ∃ D,Gro h' 200 (Array.size h) y.2.1 (D.map Avb)/\D.length=y.1/\Dig D/\nv D + 4294967296 ^ y.1 * y.2.2=2 * nv (L.take y.1) + b) AO4 L.length (0,.slice none 0 0,b) ?_ ⟨rfl,rfl,rfl,trivial⟩ ?_))
 ·exact ⟨rfl,Nat.zero_le _,(Ext.refl _),hb,[],A9i _ _ _,rfl,λx hx=>(by simp at hx),by simp [nv]⟩
 rintro k ⟨i,vo,c⟩ s1 h2 ⟨rfl,hi,E2,hc,D,HG,hDl,hDd,hDv⟩;dsimp only at hi hc HG hDl hDv ⊢;have Aj:=E2.1;refine AOv<|Amf rfl rfl (λAb=>?_) (λAb=>?_)
 ·refine AOz<|AOx<|Ahp rfl (AO5<|q_t<|AOx<|AO0<|AOx ?_);obtain ⟨x,hx⟩:∃ x,L[i]? =some x:=⟨_,List.getElem?_eq_getElem AOq⟩;have hbx:=H.dig x<|List.mem_of_getElem? hx;refine Ag6<|Aqd Ahl rfl (H.ext E2) rfl hx λAk Ac=>Ahu Ajo rfl Ac (Ah7<|AOr<|AOr<|A8m (n:=1) rfl rfl AOs ?_);rw [show IntKind.u32.wrap ((x:Int) * 2 ^ 1)=((2 * x % 4294967296:Nat):Int) by rw [wrap_u32];omega];refine AOr<|A14 rfl rfl (.inr<|.inl rfl) (BDa (Nat.mod_lt _ AOs) AOq) ?_
  have hor:2 * x % 4294967296 ||| c=2 * x % 4294967296 + c:=by
   have h1:2 * x % 4294967296=2 ^ 1 * (x % 2147483648):=by omega
   rw [h1,<- Nat.two_pow_add_eq_or_of_lt AOq]
  rw [hor];refine A2r (h0:=h) Ahl Atf (λ_=>trivial) (λ_=>rfl) rfl E2 HG AOs AOq λp4 v4 h4 Ae E4=>AO1<|Ag6<|AOr<|A62 (n:=31) rfl rfl AOs ?_;rw [show (x:Int) / 2 ^ 31=((x / 2147483648:Nat):Int) by omega];refine Aho<|Ahh<|q_b<|q_t<|Ag6<|Ara rfl AOq (AOr<|AOz ?_);exact ⟨L.length - (i + 1),(i + 1,v4,x / 2147483648),by first | omega | (dsimp only;omega),⟨rfl,by first | omega | (dsimp only;omega),E4,by first | omega | (dsimp only;omega),_,Ae,by simp [hDl],Auk hDd AOq,by rw [Atb,hDl,BIw hDv (show 2 * x % 4294967296 + c + 4294967296 * (x / 2147483648)=2 * x + c by omega),Ajb hx,Nat.mul_add,Nat.mul_left_comm];omega⟩,rfl,rfl,rfl,trivial⟩
 ·refine AOz<|AOx<|Aht rfl (Ahf<|Ahg<|Ahg<|Aio<|q_t<|AOv<|AOr<|AOr<|A2r (h0:=h) Ahl Atf (λ_=>trivial) (λ_=>rfl) rfl E2 HG AOs AOq λp5 v5 h5 Ag E5=>AO1<|AO6<|⟨_,AO7,?_⟩);obtain rfl:i=L.length:=by omega
  rw [List.take_length] at hDv;exact ⟨E5,D ++ [c],Ag.ds<|Auk hDd AOq,by rw [Atb,hDl,hDv],by simp [hDl]⟩
theorem Aw0 {a b:Nat} (h:0<=Au9 a b):b<=a:=by
 unfold Au9 at h;split at h
 ·omega
 ·omega
theorem A0w {a b:Nat} (h:Au9 a b < 0):a<=b:=by
 unfold Au9 at h;split at h
 ·omega
 ·split at h <;> omega
theorem A68 {A B:List Nat} (ha:Dig A) (hb:Dig B) (la:A.length<=99) (lb:B.length<=99):nv A + nv B < 4294967296 ^ 100:=by
 have h1:=Au2 ha;have h2:=Au2 hb;have h3:4294967296 ^ A.length<=4294967296 ^ 99:=Nat.pow_le_pow_right AOs la;have h4:4294967296 ^ B.length<=4294967296 ^ 99:=Nat.pow_le_pow_right AOs lb;have h5:4294967296 ^ 100=4294967296 ^ 99 * 4294967296:=Nat.pow_succ 4294967296 99;rw [h5];have h6:0 < 4294967296 ^ 99:=Nat.pow_pos AOs;generalize 4294967296 ^ 99=t at *;omega
theorem A0x {a b:Bool} {x y:Nat} (h:a=b):sgn a x + sgn b y=sgn a (x + y):=by
 subst h;cases a <;> simp [sgn] <;> omega
theorem A0y {a b:Bool} {x y:Nat} (h:a≠b) (hl:y<=x):sgn a x + sgn b y=sgn a (x - y):=by
 cases a <;> cases b <;> simp [sgn] at h ⊢ <;> omega
theorem Aym {a b:Bool} {x y:Nat} (h:a≠b) (hl:x<=y):sgn a x + sgn b y=sgn b (y - x):=by
 cases a <;> cases b <;> simp [sgn] at h ⊢ <;> omega
theorem Amw {ng:Bool} {n:Nat} {z:Int} (h:z=sgn ng n):z.natAbs=n:=by
 subst h;cases ng <;> simp [sgn]
theorem BEv (ng:Bool) (n:Nat):sgn (!ng) n= -sgn ng n:=by cases ng <;> simp [sgn]
theorem A9r (a b:Bool) (x y:Nat):sgn a x * sgn b y=sgn (!(a == b)) (x * y):=by
 cases a <;> cases b <;> simp [sgn,Int.neg_mul,Int.mul_neg]
theorem BDb {L:List Nat} (h:Dig L) (hl:L.length<=2):nv L < 18446744073709551616:=by
 have h1:=Au2 h;have h2:4294967296 ^ L.length<=4294967296 ^ 2:=Nat.pow_le_pow_right AOs hl;omega
theorem BGk {lo:Nat} {z:Int} (HA:ZV h lo va z) (hb:z.natAbs < 9223372036854775808):Ahs Tryz.prog 132 #[va] h λx h'=>Ext h h'/\x= .tuple #[.int .i64 z,.bool true]:=by
 obtain ⟨na,sa,LA,rfl,HDa,htla,hla,hza⟩:=HA.out;refine Aie (l:=[_]) mx Tryz.func132 rfl rfl rfl rfl rfl AO4 (AOv<|Aqx [.bool na,sa] (λ_=>trivial) rfl rfl λAj h2 V3 E4 Ak Au=>?_);have Av:Array.size h<=Aj:=Ak;have Aw:=E4.1;have Z8:=(Ext.refl h).trans E4;refine Aho<|Ah7<|Anh (fs:=1) Atv AO4 AOs rfl (Ahu Apj rfl (V3.cell (i:=1) rfl) (Ahq trivial rfl (Aqe (HDa.ext E4) AOq) λx9 Am hk=>?_));obtain ⟨Ad,L1,Ag,Ap,Ah,Az⟩:=hk;refine ⟨trivial,?_⟩;have A3:=Ad.1;have Ac:=E4.trans Ad;have Ai:=V3.ext Ad;refine Ah7<|AOr ?_;have Aq:L1.length<=2:=At6 Ap (by rw [Ah,<- Amw hza];exact Nat.lt_of_lt_of_le hb AOs);refine Ahq trivial rfl (A9q Ag Aq) λA4 Am hk=>?_;obtain ⟨rfl,rfl⟩:=hk;refine ⟨trivial,?_⟩;refine AO1<|AOx<|AO0<|AOv<|AOr<|Ai4 Ahl rfl Ag (Aye rfl rfl (λhc=>absurd hc AOq) (λ_=>AO1<|Aht rfl (AOx ?_)));have hab:=Amw hza;rw [Ah];refine Ag6<|Anh (fs:=1) As7 AO4 AOs rfl (Ahu Als rfl (Ai.cell (i:=0) rfl) ?_);cases Ae:na
 ·refine AOr<|Aiq 18 false AO4 rfl rfl (Aiq 18 false AO4 rfl rfl (APd rfl (AO1<|Aht rfl (AOv<|Anh (fs:=1) As7 AO4 AOs rfl (Ahu Als rfl (Ai.cell (i:=0) rfl) ?_)))));rw [Ae];refine Akc rfl (AOr<|Aix 29 true AO4 rfl rfl (AOr<|Aix 29 true AO4 rfl rfl (Amf rfl rfl (λ_=>?_) (λhc=>absurd hc AOq))));refine Ahc rfl (AO1<|Ahp rfl (AOv<|AOr<|As3 Ajp Asg rfl (Aho<|AO1<|AO6<|Ail<|Ag7<|⟨_,Aiz,?_⟩)));have Aa:z=sgn na (nv LA):=hza;rw [Ae] at Aa;unfold sgn at Aa
  first
  | (rw [if_pos rfl] at Aa
     exact ⟨Ac,congrArg (λt=>Value.tuple #[.int .i64 t,.bool true]) (show IntKind.i64.wrap (IntKind.u64.wrap<|0 - ((nv LA:Nat):Int))=z by rw [wrap_u64,IntKind.wrap_i64];omega)⟩)
  | (rw [if_neg AOs] at Aa
     exact ⟨Ac,congrArg (λt=>Value.tuple #[.int .i64 t,.bool true]) (show IntKind.i64.wrap ((nv LA:Nat):Int)=z by rw [IntKind.wrap_i64];omega)⟩)
 ·refine AOr<|Aix 18 true AO4 rfl rfl (AOr<|Aix 18 true AO4 rfl rfl (Azz rfl rfl (λ_=>?_) (λhc=>absurd hc AOq)));refine Ahc rfl (AO1<|Ahp rfl (AOv<|AOr<|A36 rfl (As3 Ajp Asg rfl (Aho<|AO1<|AO6<|Ail<|Ag7<|⟨_,Aiz,?_⟩))));have Aa:z=sgn na (nv LA):=hza;rw [Ae] at Aa;unfold sgn at Aa
  first
  | (rw [if_pos rfl] at Aa
     exact ⟨Ac,congrArg (λt=>Value.tuple #[.int .i64 t,.bool true]) (show IntKind.i64.wrap (IntKind.u64.wrap<|0 - ((nv LA:Nat):Int))=z by rw [wrap_u64,IntKind.wrap_i64];omega)⟩)
  | (rw [if_neg AOs] at Aa
     exact ⟨Ac,congrArg (λt=>Value.tuple #[.int .i64 t,.bool true]) (show IntKind.i64.wrap ((nv LA:Nat):Int)=z by rw [IntKind.wrap_i64];omega)⟩)
theorem A6b {b:Int} (HA:ZV h la va a) (HB:ZV h lb vb b) (hba:a.natAbs < 4294967296 ^ 99) (hbb:b.natAbs < 4294967296 ^ 99):Ahs Tryz.prog 178 #[va,vb] h λx h'=>Ext h h'/\ZV h' (Array.size h) x (a + b):=by
 obtain ⟨na,sa,LA,rfl,HDa,htla,hla,hza⟩:=HA.out;obtain ⟨nb,sb,LB,rfl,HDb,htlb,hlb,hzb⟩:=HB.out;refine Aie (l:=[_,_]) mx Tryz.func178 rfl rfl rfl rfl rfl AO4 (AOv<|Aqx [.bool na,sa] (λ_=>trivial) rfl rfl λBl h2 V3 E4 Ce Fd=>?_);have Fe:Array.size h<=Bl:=Ce;have Ff:=E4.1;have Z8:=(Ext.refl h).trans E4;refine Aqx [.bool nb,sb] (λ_=>trivial) rfl rfl λBm Fg A7 A4 Cg Fh=>?_;have Fi:Array.size h<=Bm:=Nat.le_trans E4.1 Cg;have nebq1bq9:Bl≠Bm:=by have:=V3.lt;omega
 have Fj:=A4.1;have Ch:=Z8.trans A4;have B1:=E4.trans A4;have A8:=V3.ext A4;have Ci:=E4.trans A4;refine Aov [.bool false,.slice none 0 0] Ams rfl (λ_=>trivial) λAa B3 Cj Ar Ck Fk=>?_;have Fl:Array.size h<=Aa:=Nat.le_trans B1.1 Ck;have nebq1bq20:Bl≠Aa:=by have:=A8.lt;omega
 have nebq9bq20:Bm≠Aa:=by have:=A7.lt;omega
 have Fm:=Ar.1;have Cm:=Ch.trans Ar;have B4:=B1.trans Ar;have B5:=A8.ext Ar;have Cn:=Ci.trans Ar;have B6:=A7.ext Ar;have Co:=A4.trans Ar;refine AOz<|AOx<|Ai1 (λh'=>Ext B3 h') AO4 ?_;have Ab:=Ext.refl B3;refine Anh (fs:=1) Atv AO4 AOs rfl (Ahm Apj rfl Ab (λh' hb=>(B5.ext hb).cell (i:=1) rfl) (Ahq Ab rfl (Aqe (DS.ext HDa B4) AOq) λFo Fp hk=>?_));obtain ⟨Ak,L1,Bg,Bn,Bh,Fq⟩:=hk;have Bi:=Ab.trans Ak;refine ⟨Bi,?_⟩;have Fr:=Ak.1;have Cq:=Cm.trans Ak;have B7:=B4.trans Ak;have Cr:=B5.ext Ak;have Ct:=Cn.trans Ak;have Cu:=B6.ext Ak;have Cv:=Co.trans Ak;have Cw:=Cj.ext Ak;have Cx:=Ar.trans Ak;refine Anh (fs:=1) Atv AO4 AOs rfl (Ahm Apj rfl Bi (λh' hb=>(B6.ext hb).cell (i:=1) rfl) (Ahq Bi rfl (Aqe (DS.ext HDb B7) AOq) λFt Az hk=>?_));obtain ⟨Aj,L2,Am,Bo,Bj,Fu⟩:=hk;have Cz:=Bi.trans Aj;refine ⟨Cz,?_⟩;have Fv:=Aj.1;have Bp:=Cq.trans Aj;have Bq:=B7.trans Aj;have A5:=Cr.ext Aj;have Br:=Ct.trans Aj;have A9:=Cu.ext Aj;have Bt:=Cv.trans Aj;have Bu:=Cw.ext Aj;have Bv:=Cx.trans Aj;have A3:=Bg.ext Aj;refine Aho<|AO1<|AOx<|AOx ?_;have hl1b:L1.length<=99:=At6 Bn (by rw [Bh,<- Amw hza];exact hba);have hl2b:L2.length<=99:=At6 Bo (by rw [Bj,<- Amw hzb];exact hbb);refine Ag6<|Anh (fs:=1) As7 AO4 AOs rfl (Ahu Als rfl (A5.cell (i:=0) rfl) (Anh (fs:=1) As7 AO4 AOs rfl (Ahu Als rfl (A9.cell (i:=0) rfl) (BA7 A2t rfl rfl ?_))));cases Fw:na == nb
 ·refine AOz<|Aht rfl (AO5<|q_t<|AOx<|AOv<|AOr<|AOr<|Ahq trivial rfl (A6a A3 Am Bn Bo AOq AOq) λFx Az hk=>?_);obtain ⟨rfl,rfl⟩:=hk;refine ⟨trivial,?_⟩;refine A1z rfl rfl (λC0=>?_) (λC0=>?_)
  ·refine AOz<|Ahp rfl (AOx<|Ai1 (λh'=>Ext Az h') AO4 ?_);have Ab:=Ext.refl Az;refine Anh (fs:=1) As7 AO4 AOs rfl (Ahm Als rfl Ab (λh' hb=>(A5.ext hb).cell (i:=0) rfl) (AOr<|AOr<|Ahq Ab rfl (A4g A3 Am Bo (Aw0<|by assumption) AOq) λFy Fz hk=>?_));obtain ⟨Ag,L3,Au,Av,B9⟩:=hk;have Bw:=Ab.trans Ag;refine ⟨Bw,?_⟩;have F4:=Ag.1;have C1:=Bp.trans Ag;have C2:=Bq.trans Ag;have C3:=A5.ext Ag;have C4:=Br.trans Ag;have C5:=A9.ext Ag;have C6:=Bt.trans Ag;have C7:=Bu.ext Ag;have C8:=Bv.trans Ag;have C9:=A3.ext Ag;have Da:=Am.ext Ag;refine Ahq Bw rfl (Aun na Au AOq (by rw [Av];have:=A68 Bg.dig Am.dig hl1b hl2b;omega)) λF5 F6 hk=>?_;obtain ⟨Ad,Ba⟩:=hk;have Db:=Bw.trans Ad;refine ⟨Db,?_⟩;have F7:=Ad.1;have Dc:=C1.trans Ad;have Dd:=C2.trans Ad;have F8:=C3.ext Ad;have De:=C4.trans Ad;have F9:=C5.ext Ad;have Df:=C6.trans Ad;have Dg:=C7.ext Ad;have Dh:=C8.trans Ad;have Di:=C9.ext Ad;have Dj:=Da.ext Ad;have Dk:=Au.ext Ad;obtain ⟨Aw,s4,L4,rfl,Ay,Bc,Be,Bf⟩:=Ba.out;refine Ai5 [.bool Aw,s4] Aip rfl rfl rfl rfl (Aqt Ay.cap) Dg λGa Dl Ao=>?_;have Do:=Dd.thenUpd Ao (λk hk=>by have Ac:k=Aa:=hk;omega);have Gb:=Ao.1;have Gc:=Dc.thenUpd Ao (λk hk=>by have Ac:k=Aa:=hk;omega);have Ca:=Dh.thenUpd Ao (λk hk=>by have Ac:k=Aa:=hk;omega);have Gd:=A8.ext Ca;have Ge:=De.thenUpd Ao (λk hk=>by have Ac:k=Aa:=hk;omega);have Gf:=A7.ext Ca;have Gg:=Df.thenUpd Ao (λk hk=>by have Ac:k=Aa:=hk;omega);have Gh:=Di.updLo Ao AOq;have Gi:=Dj.updLo Ao AOq;have Gj:=Dk.updLo Ao AOq;have Dp:=Ay.updLo Ao AOq;refine AOz<|AO6<|Ag7<|⟨_,Ai3 Aip rfl rfl Dl,?_⟩;exact ⟨Do,⟨Aw,s4,L4,rfl,Dp.mono AOq,Bc,Be,by rw [<- Bf,Av,hza,hzb,<- Bh,<- Bj];first | exact A0x (eq_of_beq<|by assumption) | exact A0y (ne_of_beq_false<|by assumption) (Aw0<|by assumption) | exact Aym (ne_of_beq_false<|by assumption)<|A0w<|by assumption⟩⟩
  ·refine AOz<|Aht rfl (AO5<|q_t<|AOx<|Ai1 (λh'=>Ext Az h') AO4 ?_);have Ab:=Ext.refl Az;refine Anh (fs:=1) As7 AO4 AOs rfl (Ahm Als rfl Ab (λh' hb=>(A9.ext hb).cell (i:=0) rfl) (AOr<|AOr<|Ahq Ab rfl (A4g Am A3 Bn (A0w<|by assumption) AOq) λGk Gl hk=>?_));obtain ⟨Ah,L3,Au,Av,B9⟩:=hk;have Bx:=Ab.trans Ah;refine ⟨Bx,?_⟩;have Gm:=Ah.1;have Dq:=Bp.trans Ah;have Dr:=Bq.trans Ah;have Ds:=A5.ext Ah;have Dt:=Br.trans Ah;have Du:=A9.ext Ah;have Dv:=Bt.trans Ah;have Dw:=Bu.ext Ah;have Dx:=Bv.trans Ah;have Dy:=A3.ext Ah;have Dz:=Am.ext Ah;refine Ahq Bx rfl (Aun nb Au AOq (by rw [Av];have:=A68 Bg.dig Am.dig hl1b hl2b;omega)) λGn Gp hk=>?_;obtain ⟨Ae,Ba⟩:=hk;have D0:=Bx.trans Ae;refine ⟨D0,?_⟩;have Gq:=Ae.1;have D1:=Dq.trans Ae;have D2:=Dr.trans Ae;have Gr:=Ds.ext Ae;have D3:=Dt.trans Ae;have Gt:=Du.ext Ae;have D4:=Dv.trans Ae;have D5:=Dw.ext Ae;have D6:=Dx.trans Ae;have D7:=Dy.ext Ae;have D8:=Dz.ext Ae;have D9:=Au.ext Ae;obtain ⟨Aw,s4,L4,rfl,Ay,Bc,Be,Bf⟩:=Ba.out;refine Ai5 [.bool Aw,s4] Aip rfl rfl rfl rfl (Aqt Ay.cap) D5 λGu Ea Ap=>?_;have Eb:=D2.thenUpd Ap (λk hk=>by have Ac:k=Aa:=hk;omega);have Gv:=Ap.1;have Gw:=D1.thenUpd Ap (λk hk=>by have Ac:k=Aa:=hk;omega);have Cb:=D6.thenUpd Ap (λk hk=>by have Ac:k=Aa:=hk;omega);have Gx:=A8.ext Cb;have Gy:=D3.thenUpd Ap (λk hk=>by have Ac:k=Aa:=hk;omega);have Gz:=A7.ext Cb;have G3:=D4.thenUpd Ap (λk hk=>by have Ac:k=Aa:=hk;omega);have G4:=D7.updLo Ap AOq;have G5:=D8.updLo Ap AOq;have G6:=D9.updLo Ap AOq;have Ec:=Ay.updLo Ap AOq;refine AOz<|AO6<|⟨_,Ai3 Aip rfl rfl Ea,?_⟩;exact ⟨Eb,⟨Aw,s4,L4,rfl,Ec.mono AOq,Bc,Be,by rw [<- Bf,Av,hza,hzb,<- Bh,<- Bj];first | exact A0x (eq_of_beq<|by assumption) | exact A0y (ne_of_beq_false<|by assumption) (Aw0<|by assumption) | exact Aym (ne_of_beq_false<|by assumption)<|A0w<|by assumption⟩⟩
 ·refine AOz<|Ahp rfl (AOx<|Ai1 (λh'=>Ext Az h') AO4 ?_);have Ab:=Ext.refl Az;refine Anh (fs:=1) As7 AO4 AOs rfl (Ahm Als rfl Ab (λh' hb=>(A5.ext hb).cell (i:=0) rfl) (AOr<|AOr<|Ahq Ab rfl (BL3 A3 Am AOq AOq) λG7 G8 hk=>?_));obtain ⟨Ai,L3,Au,Av,B9⟩:=hk;have By:=Ab.trans Ai;refine ⟨By,?_⟩;have G9:=Ai.1;have Ed:=Bp.trans Ai;have Ee:=Bq.trans Ai;have Ef:=A5.ext Ai;have Eg:=Br.trans Ai;have Eh:=A9.ext Ai;have Ei:=Bt.trans Ai;have Ej:=Bu.ext Ai;have Ek:=Bv.trans Ai;have El:=A3.ext Ai;have Em:=Am.ext Ai;refine Ahq By rfl (Aun na Au AOq (by rw [Av];exact A68 Bg.dig Am.dig hl1b hl2b)) λHb Hc hk=>?_;obtain ⟨Af,Ba⟩:=hk;have En:=By.trans Af;refine ⟨En,?_⟩;have Hd:=Af.1;have Eo:=Ed.trans Af;have Ep:=Ee.trans Af;have He:=Ef.ext Af;have Er:=Eg.trans Af;have Hf:=Eh.ext Af;have Es:=Ei.trans Af;have Et:=Ej.ext Af;have Eu:=Ek.trans Af;have Ev:=El.ext Af;have Ew:=Em.ext Af;have Ey:=Au.ext Af;obtain ⟨Aw,s4,L4,rfl,Ay,Bc,Be,Bf⟩:=Ba.out;refine Ai5 [.bool Aw,s4] Aip rfl rfl rfl rfl (Aqt Ay.cap) Et λHg Ez Aq=>?_;have Fa:=Ep.thenUpd Aq (λk hk=>by have Ac:k=Aa:=hk;omega);have Hh:=Aq.1;have Hj:=Eo.thenUpd Aq (λk hk=>by have Ac:k=Aa:=hk;omega);have Cd:=Eu.thenUpd Aq (λk hk=>by have Ac:k=Aa:=hk;omega);have Hk:=A8.ext Cd;have Hl:=Er.thenUpd Aq (λk hk=>by have Ac:k=Aa:=hk;omega);have Hm:=A7.ext Cd;have Hn:=Es.thenUpd Aq (λk hk=>by have Ac:k=Aa:=hk;omega);have Ho:=Ev.updLo Aq AOq;have Hq:=Ew.updLo Aq AOq;have Hr:=Ey.updLo Aq AOq;have Fb:=Ay.updLo Aq AOq;refine AOz<|AO6<|Ag7<|⟨_,Ai3 Aip rfl rfl Ez,?_⟩;exact ⟨Fa,⟨Aw,s4,L4,rfl,Fb.mono AOq,Bc,Be,by rw [<- Bf,Av,hza,hzb,<- Bh,<- Bj];first | exact A0x (eq_of_beq<|by assumption) | exact A0y (ne_of_beq_false<|by assumption) (Aw0<|by assumption) | exact Aym (ne_of_beq_false<|by assumption)<|A0w<|by assumption⟩⟩
theorem BEw {b:Int} (HA:ZV h la va a) (HB:ZV h lb vb b) (hba:a.natAbs < 4294967296 ^ 99) (hbb:b.natAbs < 4294967296 ^ 99):Ahs Tryz.prog 173 #[va,vb] h λx h'=>Ext h h'/\ZV h' (Array.size h) x (a - b):=by
 obtain ⟨na,sa,LA,rfl,HDa,htla,hla,hza⟩:=HA.out;obtain ⟨nb,sb,LB,rfl,HDb,htlb,hlb,hzb⟩:=HB.out;refine Aie (l:=[_,_]) mx Tryz.func173 rfl rfl rfl rfl rfl AO4 (AOv<|Aqx [.bool na,sa] (λ_=>trivial) rfl rfl λAj h2 V3 E4 A3 Bz=>?_);have B1:Array.size h<=Aj:=A3;have B3:=E4.1;have Z8:=(Ext.refl h).trans E4;refine Aqx [.bool nb,sb] (λ_=>trivial) rfl rfl λAk B4 Ap Af A5 B5=>?_;have B6:Array.size h<=Ak:=Nat.le_trans E4.1 A5;have nebq1bq9:Aj≠Ak:=by have:=V3.lt;omega
 have B7:=Af.1;have Aq:=E4.trans Af;have Ar:=V3.ext Af;refine Aov [.bool false,.slice none 0 0] Ams rfl (λ_=>trivial) λAb Au A6 Ac A7 B8=>?_;have B9:Array.size h<=Ab:=Nat.le_trans Aq.1 A7;have nebq1bq20:Aj≠Ab:=by have:=Ar.lt;omega
 have nebq9bq20:Ak≠Ab:=by have:=Ap.lt;omega
 have Ca:=Ac.1;have A8:=(Z8.trans Af).trans Ac;have Av:=Aq.trans Ac;have A9:=(E4.trans Af).trans Ac;have Ba:=Af.trans Ac;refine AOz<|AOx<|Ai1 (λh'=>Ext Au h') AO4 ?_;have Ah:=Ext.refl Au;refine Api [.bool na,sa] Aip rfl rfl Ah (λh' hb=>((Ar.ext Ac).ext hb).agg) (Api [.bool nb,sb] Aip rfl rfl Ah (λh' hb=>((Ap.ext Ac).ext hb).agg) (Ahq Ah rfl (BEu<|HB.ext Av) λCb Cd hk=>?_));obtain ⟨Ad,HN⟩:=hk;have Am:=Ah.trans Ad;refine ⟨Am,?_⟩;have Ce:=Ad.1;have Bb:=A8.trans Ad;have Aw:=Av.trans Ad;have Bc:=A9.trans Ad;have Be:=Ba.trans Ad;have Bf:=A6.ext Ad;have Bg:=Ac.trans Ad;refine Ahq Am rfl (A6b (HA.ext Aw) HN hba (by rw [Int.natAbs_neg];exact hbb)) λCf Cg hk=>?_;obtain ⟨Aa,Bh⟩:=hk;have Bi:=Am.trans Aa;refine ⟨Bi,?_⟩;have Ch:=Aa.1;have Bj:=Bb.trans Aa;have Bl:=Aw.trans Aa;have Bm:=Bc.trans Aa;have Bn:=Be.trans Aa;have Bo:=Bf.ext Aa;have Bp:=Bg.trans Aa;have HN_59:=HN.ext Aa;obtain ⟨Ax,s4,L4,rfl,Az,Br,Bt,Bu⟩:=Bh.out;refine Ai5 [.bool Ax,s4] Aip rfl rfl rfl rfl (Aqt Az.cap) Bo λCi Bv Ae=>?_;have Bw:=Bl.thenUpd Ae (λk hk=>by have Ai:k=Ab:=hk;omega);have Cj:=Ae.1;have Ck:=Bj.thenUpd Ae (λk hk=>by have Ai:k=Ab:=hk;omega);have Cm:=Bp.thenUpd Ae (λk hk=>by have Ai:k=Ab:=hk;omega);have Cn:=Bm.thenUpd Ae (λk hk=>by have Ai:k=Ab:=hk;omega);have Co:=Bn.thenUpd Ae (λk hk=>by have Ai:k=Ab:=hk;omega);have HN_71:=HN_59.updLo Ae AOq;have Bx:=Az.updLo Ae AOq;refine AOz<|AO6<|⟨_,Ai3 Aip rfl rfl Bv,?_⟩;exact ⟨Bw,⟨Ax,s4,L4,rfl,Bx.mono AOq,Br,Bt,by rw [<- Bu];omega⟩⟩
theorem A69 (n:Nat):nv (List.replicate n 0)=0:=by
 induction n with
 | zero=>rfl
 | succ n ih=>rw [List.replicate_succ];simp [nv,ih]
theorem BL4 {b:Int} (HA:ZV h la va a) (HB:ZV h lb vb b) (hab:a.natAbs * b.natAbs < 4294967296 ^ 100):Ahs Tryz.prog 174 #[va,vb] h λx h'=>Ext h h'/\ZV h' (Array.size h) x (a * b):=by
 obtain ⟨na,sa,LA,rfl,HDa,htla,hla,hza⟩:=HA.out;obtain ⟨nb,sb,LB,rfl,HDb,htlb,hlb,hzb⟩:=HB.out;refine Aie (l:=[_,_]) mx Tryz.func174 rfl rfl rfl rfl rfl AO4 (AOv<|Aqx [.bool na,sa] (λ_=>trivial) rfl rfl λAd h2 V3 E4 Be Cf=>?_);have Cg:Array.size h<=Ad:=Be;have Ch:=E4.1;have Z8:=(Ext.refl h).trans E4;refine Aqx [.bool nb,sb] (λ_=>trivial) rfl rfl λAe Ci Az Ah Bg Cj=>?_;have Ck:Array.size h<=Ae:=Nat.le_trans E4.1 Bg;have nebq1bq9:Ad≠Ae:=by have:=V3.lt;omega
 have Cm:=Ah.1;have A3:=E4.trans Ah;have A4:=V3.ext Ah;refine Aov [.bool false,.slice none 0 0] Ams rfl (λ_=>trivial) λAc Cn Bh Ag Bi Co=>?_;have Cp:Array.size h<=Ac:=Nat.le_trans A3.1 Bi;have nebq1bq20:Ad≠Ac:=by have:=A4.lt;omega
 have nebq9bq20:Ae≠Ac:=by have:=Az.lt;omega
 have Cq:=Ag.1;have Cr:=(Z8.trans Ah).trans Ag;have Ax:=A3.trans Ag;have A5:=A4.ext Ag;have Ct:=(E4.trans Ah).trans Ag;have A6:=Az.ext Ag;refine Apt<|Anh (fs:=1) Atv AO4 AOs rfl (Ahu Apj rfl (A5.cell (i:=1) rfl) (Ai4 Ahl rfl (HDa.ext Ax) (Anh (fs:=1) Atv AO4 AOs rfl (Ahu Apj rfl (A6.cell (i:=1) rfl) (Ai4 Ahl rfl (HDb.ext Ax) (Awx rfl rfl AOq (A65 (n:=LA.length + LB.length) Ahl Atf (λ_=>trivial) rfl rfl AOs AOq λg1 v1 h1 Bj E1 Cu Cv=>?_)))))));have Cw:=E1.1;have A7:=Ax.trans E1;have A8:=A5.ext E1;have Cx:=(Ah.trans Ag).trans E1;refine AO1<|AOx<|AOv<|Anh (fs:=1) Atv AO4 AOs rfl (Ahu Apj rfl (A8.cell (i:=1) rfl) (Ai4 Ahl rfl (HDa.ext A7) (AOr<|AOz<|AO0<|Aj7 1180591620717407111104 (λy:Nat × List Nat=>[(22,.int .i64 (y.1:Int))]) (λk y h'=>k=LA.length - y.1/\y.1<=LA.length/\Ext h h'/\g1 < Array.size h'/\Akd 129 h' Ad [.bool na,sa]/\Akd 129 h' Ae [.bool nb,sb]/\Akd 129 h' Ac [.bool false,.slice none 0 0]/\Ali h' 200 g1 v1 (y.2.map Avb)/\y.2.length=LA.length + LB.length/\Dig y.2/\nv y.2=nv (LA.take y.1) * nv LB/\ ∀ q,y.1 + LB.length<=q->q < LA.length + LB.length->y.2[q]? =some 0) AO4 LA.length (0,List.replicate (LA.length + LB.length) 0) ?_ ⟨rfl,trivial⟩ ?_)))
 ·exact ⟨rfl,Nat.zero_le _,A7,AOq,A8,(A6.ext E1),(Bh.ext E1),Bj,Ah6,λx hx=>by rw [(List.mem_replicate.1 hx).2];decide,by simp [nv,A69],λq hq Cy=>by dsimp only;rw [List.getElem?_replicate];simp;omega⟩
 rintro k ⟨i,O⟩ s1 hq ⟨rfl,hi,XQ,hgq,Ak,Af,Ap,Ab,hOl,hOd,hOv,hOz⟩;dsimp only at hi Ab hOl hOd hOv hOz ⊢;refine AOv<|Amf rfl rfl (λBl=>?_) (λBl=>?_)
 ·refine AOz<|AOx<|Ahp rfl (AO5<|q_t<|AOx<|AO0<|AOx ?_);obtain ⟨x,hx⟩:∃ x,LA[i]? =some x:=⟨_,List.getElem?_eq_getElem AOq⟩;have hbx:=HDa.dig x<|List.mem_of_getElem? hx;refine Ag6<|AOr<|Aqd Ahl rfl (HDa.ext XQ) rfl hx λCz Bm=>Ahu Ajo rfl Bm (Aho<|Ah7<|AO1<|AOx<|AOv<|Anh (fs:=1) Atv AO4 AOs rfl (Ahu Apj rfl (Af.cell (i:=1) rfl) (Ai4 Ahl rfl (HDb.ext XQ) (AOr<|AOz<|AO0<|Aj7 1152921503533106944 (λy:Nat × Nat × List Nat=>[(30,.int .i64 (y.1:Int)),(8,.int .u64 (y.2.1:Int))]) (λk y h'=>k=LB.length - y.1/\y.1<=LB.length/\Ext h h'/\g1 < Array.size h'/\Akd 129 h' Ad [.bool na,sa]/\Akd 129 h' Ae [.bool nb,sb]/\Akd 129 h' Ac [.bool false,.slice none 0 0]/\Ali h' 200 g1 v1 (y.2.2.map Avb)/\y.2.2.length=LA.length + LB.length/\Dig y.2.2/\y.2.1 < 4294967296/\nv y.2.2 + 4294967296 ^ (i + y.1) * y.2.1=nv (LA.take i) * nv LB + 4294967296 ^ i * (x * nv (LB.take y.1))/\ ∀ q,i + LB.length<=q->q < LA.length + LB.length->y.2.2[q]? =some 0) AO4 LB.length (0,0,O) ?_ ⟨rfl,rfl,trivial⟩ ?_))))
  ·exact ⟨rfl,Nat.zero_le _,XQ,AOq,Ak,Af,Ap,Ab,hOl,hOd,by dsimp only;omega,by simp [nv,hOv],hOz⟩
  rintro k ⟨j,c,O⟩ s2 hp ⟨rfl,hj,XQ,hgq,Ak,Af,Ap,Ab,hOl,hOd,hc,hOv,hOz⟩;dsimp only at hj Ab hOl hOd hc hOv hOz ⊢;refine AOv<|Amf rfl rfl (λBn=>?_) (λBn=>?_)
  ·refine AOz<|AOx<|Ahp rfl (AO5<|q_t<|AOx<|AO0<|AOx ?_);obtain ⟨y,hy⟩:∃ x,LB[j]? =some x:=⟨_,List.getElem?_eq_getElem AOq⟩;have hby:=HDb.dig y<|List.mem_of_getElem? hy;obtain ⟨ov,hov⟩:∃ x,O[i + j]? =some x:=⟨_,List.getElem?_eq_getElem AOq⟩;have hbo:=hOd ov<|List.mem_of_getElem? hov;have htb:=A9l hc hbx hby hbo;have hxy:x * y<=4294967295 * 4294967295:=Nat.mul_le_mul AOq AOq;refine Ag6<|AOr<|Aqd Ahl rfl (HDb.ext XQ) rfl hy λC0 Bo=>Ahu Ajo rfl Bo (Aho<|Ah7<|AOr<|AOr<|Azo Ake Ajp rfl hbx (AOr<|Azo Ake Ajp rfl hby (A9k rfl rfl AOq (AOr<|AOr<|AOr<|Awx rfl rfl AOq (Azy Ahl rfl Ab rfl (by rw [List.length_map];omega) ?_)))));refine Ahu Ajo rfl (Ali.cell Ab<|Azc hov) (Azo Ake Ajp rfl hbo (Awf rfl rfl AOq (Awf rfl rfl AOq (Ah7<|AOr<|AOr<|AOr<|Awx rfl rfl AOq (AOr<|A1i Ajp Ake rfl (Azy Ahl rfl Ab rfl (by rw [List.length_map];omega) ?_))))));refine A1h (O.set (i + j)<|(c + (x * y + ov)) % 4294967296) Ajo rfl rfl Ab AOq rfl λh4 Bp U4=>?_;have C2:=U4.1;have Bq:=XQ.thenUpd U4 (λk hk=>by have A9:k=g1:=hk;omega);have Br:=Ak.upd U4 (λhe=>by have Ar:Ad=g1:=he;omega);have Bt:=Af.upd U4 (λhe=>by have Ar:Ae=g1:=he;omega);have Bu:=Ap.upd U4 (λhe=>by have Ar:Ac=g1:=he;omega);refine AOz<|Ag6<|AOr<|A0t rfl rfl (Aho<|Ahh<|q_b<|q_t<|Ag6<|Ara rfl AOq (AOr<|AOz ?_));exact ⟨LB.length - (j + 1),(j + 1,(c + (x * y + ov)) / 4294967296,O.set (i + j)<|(c + (x * y + ov)) % 4294967296),by first | omega | (dsimp only;omega),⟨rfl,by first | omega | (dsimp only;omega),Bq,AOq,Br,Bt,Bu,Bp,by simp [hOl],Azd hOd<|Nat.mod_lt _ AOs,by dsimp only;exact Nat.div_lt_of_lt_mul htb,by dsimp only;rw [Ajb hy];exact A66 (Pi:=0) (A16 _ hov) hOv<|Nat.mod_add_div _ _,λq h1 h2=>by dsimp only;rw [List.getElem?_set_ne AOq];exact hOz q h1 h2⟩,rfl,rfl,trivial⟩
  ·refine AOz<|AOx<|Aht rfl (Ahf<|Ahg<|Ahg<|Aio<|q_t ?_);obtain rfl:j=LB.length:=by omega
   refine Ag6<|AOr<|AOr<|Anh (fs:=1) Atv AO4 AOs rfl (Ahu Apj rfl (Af.cell (i:=1) rfl) (Ai4 Ahl rfl (HDb.ext XQ) (Awx rfl rfl AOq (AOr<|A1i Ajp Ake rfl ?_))));rw [Nat.mod_eq_of_lt hc];refine Azy Ahl rfl Ab rfl (by rw [List.length_map];omega) ?_;refine A1h (O.set (i + LB.length)<|c) Ajo rfl rfl Ab AOq rfl λh5 Bv U5=>?_;have C4:=U5.1;have Bw:=XQ.thenUpd U5 (λk hk=>by have A9:k=g1:=hk;omega);have Bx:=Ak.upd U5 (λhe=>by have Ar:Ad=g1:=he;omega);have By:=Af.upd U5 (λhe=>by have Ar:Ae=g1:=he;omega);have Bz:=Ap.upd U5 (λhe=>by have Ar:Ac=g1:=he;omega);refine Ahh<|q_b<|q_t<|Ag6<|Ara rfl AOq (AOr<|AOz ?_);exact ⟨LA.length - (i + 1),(i + 1,O.set (i + LB.length) c),by first | omega | (dsimp only;omega),⟨rfl,by first | omega | (dsimp only;omega),Bw,AOq,Bx,By,Bz,Bv,by simp [hOl],Azd hOd hc,by dsimp only;have h1:=A16 c<|hOz (i + LB.length) (Nat.le_refl _) AOq;rw [Nat.mul_zero,Nat.add_zero] at h1;rw [h1,hOv,List.take_length,Ajb hx,Nat.add_mul,Nat.mul_assoc],λq h1 h2=>by dsimp only;rw [List.getElem?_set_ne AOq];exact hOz q AOq h2⟩,rfl,trivial⟩
 ·refine AOz<|AOx<|Aht rfl (Ahf<|Ahg<|Ahg<|Aio<|q_t<|AOx ?_);obtain rfl:i=LA.length:=by omega
  rw [List.take_length] at hOv;have HDo:=Ab.ds (lo:=0) hOd<|Nat.zero_le _;refine Ag6<|Anh (fs:=1) As7 AO4 AOs rfl (Ahu Als rfl (Ak.cell (i:=0) rfl) (Anh (fs:=1) As7 AO4 AOs rfl (Ahu Als rfl (Af.cell (i:=0) rfl) (A64 A2t rfl rfl (AOr<|Ahq trivial rfl (Aun (!(na == nb)) (DS.ext HDo<|Ext.refl _) AOq (by rw [hOv,<- Amw hza,<- Amw hzb];exact hab)) λC5 C6 hk=>?_)))));obtain ⟨Am,B1⟩:=hk;refine ⟨trivial,?_⟩;have C7:=Am.1;have B3:=XQ.trans Am;have B4:=Ak.ext Am;have B5:=Af.ext Am;have B6:=Ap.ext Am;have C8:=Ab.ext Am;obtain ⟨Ba,s3,L3,rfl,Bc,B8,B9,Ca⟩:=B1.out;refine Ai5 [.bool Ba,s3] Aip rfl rfl rfl rfl (Aqt Bc.cap) B6 λC9 Cb Av=>?_;have Cd:=B3.thenUpd Av (λk hk=>by have A9:k=Ac:=hk;omega);have Da:=Av.1;have Db:=B4.upd Av λhe=>nebq1bq20 (he:Ad=Ac);have Dc:=B5.upd Av λhe=>nebq9bq20 (he:Ae=Ac);have Ce:=Bc.updLo Av AOq;refine AOz<|AO6<|⟨_,Ai3 Aip rfl rfl Cb,?_⟩;exact ⟨Cd,⟨Ba,s3,L3,rfl,Ce.mono AOq,B8,B9,by rw [<- Ca,hOv,hza,hzb,A9r]⟩⟩
theorem BEx (b:Bool) (a:Option Addr) (n c:Nat) (w:World):(Instr.field 129 (.agg #[.bool b,.slice a n c]) 1).run Tryz.prog w= .ok (.slice a n c) w:=by kernel_rfl
theorem BI4:2 ^ (j + 1) * t + 2 ^ j=2 ^ j * (2 * t + 1):=by rw [Nat.pow_succ,Nat.mul_add,Nat.mul_one,Nat.mul_assoc]
theorem BI5:2 ^ (j + 1) * t=2 ^ j * (2 * t):=by rw [Nat.pow_succ,Nat.mul_assoc]
theorem BEy {s:Nat} (h:s < 32):IntKind.u32.wrap (1 * 2 ^ s)=((2 ^ s:Nat):Int):=by
 have h1:(2:Nat) ^ s < 4294967296:=by rw [show (4294967296:Nat)=2 ^ 32 by decide];exact Nat.pow_lt_pow_right AOs h
 rw [wrap_u32,Int.one_mul,show ((2:Int) ^ s)=((2 ^ s:Nat):Int) by simp];generalize (2:Nat) ^ s=q at *;omega
theorem A4h {a b:Nat} (h:Au9 a b < 0):a < b:=by
 unfold Au9 at h;split at h
 ·assumption
 ·split at h <;> omega
theorem BDc (HA:DS h la va LA) (HB:DS h lb vb LB) (htb:TL LB) (Av:nv LB≠0) (hna:LA.length<=900) (hnb:LB.length<=900):Ahs Tryz.prog 211 #[va,vb] h λx h'=>Ext h h'/\ ∃ q r,x= .tuple #[q,r]/\ ∃ LQ LR,DS h' (Array.size h) q LQ/\DS h' (Array.size h) r LR/\nv LQ=nv LA / nv LB/\nv LR=nv LA % nv LB/\LQ.length<=1000/\LR.length<=1000:=by
 refine Aie (l:=[_,_]) mx Tryz.func211 rfl rfl rfl rfl rfl AO4 (AOv<|Aho<|AO1<|AOx<|AOv<|AOr<|Ai4 Ahl rfl HA (Azz rfl rfl (λB1=>?_) (λB1=>?_)))
 ·refine AOr<|Aix 12 true AO4 rfl rfl (AOr<|Aix 12 true AO4 rfl rfl (Ai4 Ahl rfl HB (Aix 12 true AO4 rfl rfl (Azz rfl rfl (λB3=>?_) (λB3=>?_)))))
  ·refine Ahc rfl (AOz<|Ahp rfl (AOv<|AOr<|Ahq trivial rfl (A9q HA AOq) λx1 h hk=>?_));obtain ⟨rfl,rfl⟩:=hk;refine ⟨trivial,?_⟩;refine AOr<|Ahq trivial rfl (A9q HB AOq) λx2 h hk=>?_;obtain ⟨rfl,rfl⟩:=hk;refine ⟨trivial,?_⟩;refine Aho<|AO1<|AOx ?_;have Dr:=BDb HA.dig AOq;refine Ayd AO4<|AOr<|AOr<|Avu rfl rfl AOq ?_;rw [show IntKind.u64.wrap (((nv LA:Nat):Int).tdiv ((nv LB:Nat):Int))=((nv LA / nv LB:Nat):Int) by rw [Int.tdiv_eq_ediv_of_nonneg AOq,<- Int.natCast_ediv,wrap_u64];have hq:=Nat.div_le_self (nv LA)<|nv LB;generalize nv LA / nv LB=q at hq ⊢;omega];refine Ahq trivial rfl (A4f false (nv LA / nv LB) (by have:=Nat.div_le_self (nv LA)<|nv LB;omega) _) λx3 h4 hk=>?_;obtain ⟨E5,B4⟩:=hk;refine ⟨trivial,?_⟩;have Du:=E5.1;have Z7:=(Ext.refl h).trans E5;obtain ⟨Dv,s1,L1,rfl,Br,Dw,Dx,B6⟩:=B4.out;obtain ⟨a1,n1,c1,rfl,_⟩:=Br.cap;have Be:nv L1=nv LA / nv LB:=(Amw B6).symm.trans (Amw rfl);refine BRh (BEx _ _ _ _)<|AOr<|AOr<|BIj rfl rfl AOq (Ahq trivial rfl (A4f false (nv LA % nv LB) (by have:=Nat.mod_le (nv LA)<|nv LB;omega) _) λx8 h9 hk=>?_);obtain ⟨Ax,B7⟩:=hk;refine ⟨trivial,?_⟩;have D1:=Ax.1;have D2:=Z7.trans Ax;have Bu:=E5.trans Ax;have B8:=Br.ext Ax;obtain ⟨D3,s2,L2,rfl,Bv,D4,D5,B9⟩:=B7.out;obtain ⟨a2,n2,c2,rfl,_⟩:=Bv.cap;have Bf:nv L2=nv LA % nv LB:=(Amw B9).symm.trans (Amw rfl);refine BRh (BEx _ _ _ _) (Aho<|AO1<|AO6<|Ag7<|⟨_,Aiz,?_⟩)
   first
   | exact ⟨Bu,_,_,rfl,L1,L2,B8.mono AOq,Bv.mono AOq,Be,Bf,AOq,AOq⟩
   | exact ⟨Bu,_,_,rfl,L7,R,lacks_HD7.mono AOq,lacks_HR.mono AOq,by rw [A3];exact hQv,hRv,AOq,AOq⟩
  ·refine Ahc rfl (AOz<|Aht rfl (AO5<|q_t<|AOv<|AOr<|Ai4 Ahl rfl HA (A65 (n:=LA.length) Ahl Atf (λ_=>trivial) rfl rfl AOs AOq λg1 v1 h1 Bg E1 Cb Cd=>?_)));have D8:=E1.1;have D9:=(Ext.refl h).trans E1;refine AO1<|AOx<|AOv<|AOr<|Ai4 Ahl rfl (HA.ext E1) (Avq rfl rfl AOq AOq ?_);rw [show (32:Int) * ((LA.length:Nat):Int)=((32 * LA.length:Nat):Int) by omega];refine Aui rfl rfl AOq AOq (AO1<|AO0 ?_);have h0d:nv LA / 2 ^ (32 * LA.length)=0:=Nat.div_eq_of_lt (by rw [<- A3q];exact Au2 HA.dig);refine Aj7 4722366482594767307040 (λy:Nat × Value × List Nat × List Nat=>[(8,.int .i64<|(y.1:Int) - 1),(5,y.2.1)]) (λk y h'=>y.1=k/\y.1<=32 * LA.length/\Ext h h'/\g1 < Array.size h'/\Ali h' 200 g1 v1 (y.2.2.1.map Avb)/\y.2.2.1.length=LA.length/\Dig y.2.2.1/\nv y.2.2.1=2 ^ y.1 * (nv LA / 2 ^ y.1 / nv LB)/\DS h' (g1 + 1) y.2.1 y.2.2.2/\TL y.2.2.2/\nv y.2.2.2=nv LA / 2 ^ y.1 % nv LB) AO4 (32 * LA.length) (32 * LA.length,.slice none 0 0,List.replicate LA.length 0,[]) ?_ ⟨rfl,rfl,trivial⟩ ?_
   ·exact ⟨rfl,Nat.le_refl _,E1,AOq,Bg,Ah6,λx hx=>by rw [(List.mem_replicate.1 hx).2];decide,by dsimp only;rw [h0d,Nat.zero_div,A69];rfl,Ayh _ _,Azn,by dsimp only;rw [h0d,Nat.zero_mod];rfl⟩
   rintro k ⟨i,vr,Q,R⟩ s1 hq ⟨rfl,hi,XQ,hgq,Ad,hQl,hQd,hQv,HR,hRt,hRv⟩;dsimp only at hi Ad hQl hQd hQv HR hRt hRv ⊢;have hRl:R.length<=LB.length:=At6 hRt (by rw [hRv];exact Nat.lt_trans (Nat.mod_lt _<|Nat.pos_of_ne_zero Av)<|Au2 HB.dig);refine AOx<|AOv<|AOr<|A1z rfl rfl (λCe=>?_) (λCe=>?_)
   ·refine AOz<|Ahp rfl (AO5<|q_t<|AOx<|AO0<|AOx ?_);obtain ⟨j,rfl⟩:∃ j,i=j + 1:=⟨i - 1,AOq⟩;obtain ⟨x,hx⟩:∃ x,LA[j / 32]? =some x:=⟨_,List.getElem?_eq_getElem AOq⟩;have hbx:=HA.dig x<|List.mem_of_getElem? hx;have hbit:=BEk HA.dig hx;have hst:=BA9 (N:=nv LA) (i:=j) Av hRv;rw [hbit] at hst;refine Ag6<|AOr<|AOr<|AOr<|A9h rfl rfl AOq AOq AOq ?_;rw [show (((j + 1:Nat):Int) - 1) / 32=((j / 32:Nat):Int) by omega];refine Aqd Ahl rfl (HA.ext XQ) rfl hx λEa Cf=>Ahu Ajo rfl Cf (AOr<|A1y rfl rfl AOq AOq ?_);rw [show (((j + 1:Nat):Int) - 1) % 32=((j % 32:Nat):Int) by omega];refine A62 (n:=j % 32) rfl rfl (by show j % 32<=32;omega) ?_;rw [show (x:Int) / 2 ^ (j % 32)=((x / 2 ^ (j % 32):Nat):Int) by simp];have hxs:x / 2 ^ (j % 32) < 4294967296:=Nat.lt_of_le_of_lt (Nat.div_le_self _ _) hbx;refine A14 rfl rfl (.inl rfl) (BBc hxs) (Ahq trivial rfl (A67 (x / 2 ^ (j % 32) % 2) AOq HR AOq) λEb Ec hk=>?_);obtain ⟨A4,L3,Am,Ae,Ch⟩:=hk;refine ⟨trivial,?_⟩;have Ed:=A4.1;have Ci:=XQ.trans A4;have Cj:=Ad.ext A4;have HR_24:=HR.ext A4;refine Ahq trivial rfl (Aqe Am AOq) λEe Ck hk=>?_;obtain ⟨Ao,L4,Af,Ap,Ag,Cm⟩:=hk;refine ⟨trivial,?_⟩;have Ef:=Ao.1;have A5:=Ci.trans Ao;have Bw:=Cj.ext Ao;have HR_31:=HR_24.ext Ao;have Cn:=Am.ext Ao;refine Ah7<|AOr<|AOr<|Ahq trivial rfl (A6a Af (HB.ext A5) Ap htb AOq AOq) λEg Ck hk=>?_;obtain ⟨rfl,rfl⟩:=hk;refine ⟨trivial,?_⟩;refine A1z rfl rfl (λCo=>?_) (λCo=>?_)
    ·refine AOz<|Ahp rfl (AOv<|AOr<|AOr<|Ahq trivial rfl (A4g Af (HB.ext A5) htb (Aw0<|by assumption) AOq) λEh Ei hk=>?_);obtain ⟨Aj,L5,Aq,Bi,Cq⟩:=hk;refine ⟨trivial,?_⟩;have Ej:=Aj.1;have Cr:=A5.trans Aj;have Ct:=Bw.ext Aj;have HR_40:=HR_31.ext Aj;have Cu:=Cn.ext Aj;have Cv:=Af.ext Aj;refine Ahq trivial rfl (Aqe Aq AOq) λEk El hk=>?_;obtain ⟨Ah,L6,Bl,Bm,Bn,Cw⟩:=hk;refine ⟨trivial,?_⟩;have Em:=Ah.1;have Cx:=Cr.trans Ah;have A6:=Ct.ext Ah;have HR_49:=HR_40.ext Ah;have Cy:=Cu.ext Ah;have Cz:=Cv.ext Ah;have C0:=Aq.ext Ah;refine AO1 ?_;obtain ⟨dd,hd⟩:∃ x,Q[j / 32]? =some x:=⟨_,List.getElem?_eq_getElem AOq⟩;have hdb:=hQd dd<|List.mem_of_getElem? hd;obtain ⟨t,rfl⟩:=BEl hQd hd hQv;have hge:nv LB<=2 * nv R + x / 2 ^ (j % 32) % 2:=by rw [<- Ae,<- Ag];exact Aw0 (by assumption)
     have Ar:j % 32 < 32:=Nat.mod_lt _ AOs;have Bo:2 ^ (j % 32) < 4294967296:=by have:=A58 Ar hdb;omega
     refine Ayd AO4<|AOr<|AOr<|A9h rfl rfl AOq AOq AOq ?_;rw [show (((j + 1:Nat):Int) - 1) / 32=((j / 32:Nat):Int) by omega];refine Azy Ahl rfl A6 rfl (by rw [List.length_map];omega) ?_;refine Ahu Ajo rfl (Ali.cell A6<|Azc hd) (AOr<|A1y rfl rfl AOq AOq ?_);rw [show (((j + 1:Nat):Int) - 1) % 32=((j % 32:Nat):Int) by omega];refine A8m (n:=j % 32) rfl rfl (by show j % 32<=32;omega) ?_;rw [BEy Ar];refine A14 rfl rfl (.inr<|.inl rfl) (BDa hdb Bo) ?_;rw [BIy];refine Azy Ahl rfl A6 rfl (by rw [List.length_map];omega) ?_;refine A1h (Q.set (j / 32)<|2 ^ (j % 32 + 1) * t + 2 ^ (j % 32)) Ajo rfl rfl A6 AOq rfl λh9 Bp U9=>?_;have En:=U9.1;have C1:=Cx.thenUpd U9 (λk hk=>by have C2:k=g1:=hk;omega);have HR_55:=HR_49.updLo U9 AOq;have Eo:=Cy.updLo U9 AOq;have Ep:=Cz.updLo U9 AOq;have Er:=C0.updLo U9 AOq;have C3:=Bl.updLo U9 AOq;refine Ahh<|q_b<|q_t<|Ag6<|AOr<|Aui rfl rfl AOq AOq ?_;rw [show (((j + 1:Nat):Int) - 1) - 1=((j:Nat):Int) - 1 by omega];refine AO1 ?_;exact ⟨j,(j,_,Q.set (j / 32)<|2 ^ (j % 32 + 1) * t + 2 ^ (j % 32),L6),by first | omega | (dsimp only;omega),⟨rfl,by first | omega | (dsimp only;omega),C1,AOq,Bp,by simp [hQl],Azd hQd<|A58 (Nat.mod_lt _ AOs) hdb,by dsimp only;rw [(hst.2.1 hge).2,<- BI4,<- hQv,Awy j];have:=A16 (2 ^ (j % 32 + 1) * t + 2 ^ (j % 32)) hd;rw [Nat.mul_add] at this;omega,C3.mono AOq,Bm,by dsimp only;rw [Bn,Bi,Ag,Ae];exact (hst.2.1 hge).1.symm⟩,rfl,rfl,trivial⟩
    ·refine AOz<|Aht rfl (AO5<|q_b<|q_t<|Ag6<|AOr<|Aui rfl rfl AOq AOq ?_);rw [show (((j + 1:Nat):Int) - 1) - 1=((j:Nat):Int) - 1 by omega];refine AO1 ?_;have hlt:2 * nv R + x / 2 ^ (j % 32) % 2 < nv LB:=by rw [<- Ae,<- Ag];exact A4h (by assumption)
     exact ⟨j,(j,_,Q,L4),by first | omega | (dsimp only;omega),⟨rfl,by first | omega | (dsimp only;omega),A5,AOq,Bw,hQl,hQd,by dsimp only;rw [(hst.2.2 hlt).2,hQv,BI5],Af.mono AOq,Ap,by dsimp only;rw [Ag,Ae];exact (hst.2.2 hlt).1.symm⟩,rfl,rfl,trivial⟩
   ·refine AOz<|Aht rfl (Ahf<|Ahg<|Ahg<|Aio<|q_t<|AOx ?_);obtain rfl:i=0:=by omega
    rw [Nat.pow_zero,Nat.one_mul,Nat.div_one] at hQv;rw [Nat.pow_zero,Nat.div_one] at hRv;have HDq:=Ad.ds (lo:=0) hQd<|Nat.zero_le _;refine Ag6<|AOr<|Ahq trivial rfl (Aqe (DS.ext HDq<|Ext.refl _) AOq) λEs Et hk=>?_;obtain ⟨A7,L7,Bq,C4,A3,C5⟩:=hk;refine ⟨trivial,?_⟩;have Eu:=A7.1;have Bx:=XQ.trans A7;have Ev:=Ad.ext A7;have HR_66:=HR.ext A7;refine AOr (Aho<|AO1<|AO6<|⟨_,Aiz,?_⟩)
    first
    | exact ⟨Bx,_,_,rfl,L1,L2,lacks_HD1.mono AOq,lacks_HD2.mono AOq,Be,Bf,AOq,AOq⟩
    | exact ⟨Bx,_,_,rfl,L7,R,Bq.mono AOq,HR_66.mono AOq,by rw [A3];exact hQv,hRv,AOq,AOq⟩
 ·refine AOr<|Aiq 12 false AO4 rfl rfl (Aiq 12 false AO4 rfl rfl (Aiq 12 false AO4 rfl rfl (APd rfl (AOz<|Aht rfl (AO5<|q_t<|AOv<|AOr<|Ai4 Ahl rfl HA (A65 (n:=LA.length) Ahl Atf (λ_=>trivial) rfl rfl AOs AOq λg1 v1 h1 Bg E1 Cb Cd=>?_))))));have Ew:=E1.1;have Ey:=(Ext.refl h).trans E1;refine AO1<|AOx<|AOv<|AOr<|Ai4 Ahl rfl (HA.ext E1) (Avq rfl rfl AOq AOq ?_);rw [show (32:Int) * ((LA.length:Nat):Int)=((32 * LA.length:Nat):Int) by omega];refine Aui rfl rfl AOq AOq (AO1<|AO0 ?_);have h0d:nv LA / 2 ^ (32 * LA.length)=0:=Nat.div_eq_of_lt (by rw [<- A3q];exact Au2 HA.dig);refine Aj7 4722366482594767307040 (λy:Nat × Value × List Nat × List Nat=>[(8,.int .i64<|(y.1:Int) - 1),(5,y.2.1)]) (λk y h'=>y.1=k/\y.1<=32 * LA.length/\Ext h h'/\g1 < Array.size h'/\Ali h' 200 g1 v1 (y.2.2.1.map Avb)/\y.2.2.1.length=LA.length/\Dig y.2.2.1/\nv y.2.2.1=2 ^ y.1 * (nv LA / 2 ^ y.1 / nv LB)/\DS h' (g1 + 1) y.2.1 y.2.2.2/\TL y.2.2.2/\nv y.2.2.2=nv LA / 2 ^ y.1 % nv LB) AO4 (32 * LA.length) (32 * LA.length,.slice none 0 0,List.replicate LA.length 0,[]) ?_ ⟨rfl,rfl,trivial⟩ ?_
  ·exact ⟨rfl,Nat.le_refl _,E1,AOq,Bg,Ah6,λx hx=>by rw [(List.mem_replicate.1 hx).2];decide,by dsimp only;rw [h0d,Nat.zero_div,A69];rfl,Ayh _ _,Azn,by dsimp only;rw [h0d,Nat.zero_mod];rfl⟩
  rintro k ⟨i,vr,Q,R⟩ s1 hq ⟨rfl,hi,XQ,hgq,Ad,hQl,hQd,hQv,HR,hRt,hRv⟩;dsimp only at hi Ad hQl hQd hQv HR hRt hRv ⊢;have hRl:R.length<=LB.length:=At6 hRt (by rw [hRv];exact Nat.lt_trans (Nat.mod_lt _<|Nat.pos_of_ne_zero Av)<|Au2 HB.dig);refine AOx<|AOv<|AOr<|A1z rfl rfl (λC6=>?_) (λC6=>?_)
  ·refine AOz<|Ahp rfl (AO5<|q_t<|AOx<|AO0<|AOx ?_);obtain ⟨j,rfl⟩:∃ j,i=j + 1:=⟨i - 1,AOq⟩;obtain ⟨x,hx⟩:∃ x,LA[j / 32]? =some x:=⟨_,List.getElem?_eq_getElem AOq⟩;have hbx:=HA.dig x<|List.mem_of_getElem? hx;have hbit:=BEk HA.dig hx;have hst:=BA9 (N:=nv LA) (i:=j) Av hRv;rw [hbit] at hst;refine Ag6<|AOr<|AOr<|AOr<|A9h rfl rfl AOq AOq AOq ?_;rw [show (((j + 1:Nat):Int) - 1) / 32=((j / 32:Nat):Int) by omega];refine Aqd Ahl rfl (HA.ext XQ) rfl hx λEz C7=>Ahu Ajo rfl C7 (AOr<|A1y rfl rfl AOq AOq ?_);rw [show (((j + 1:Nat):Int) - 1) % 32=((j % 32:Nat):Int) by omega];refine A62 (n:=j % 32) rfl rfl (by show j % 32<=32;omega) ?_;rw [show (x:Int) / 2 ^ (j % 32)=((x / 2 ^ (j % 32):Nat):Int) by simp];have hxs:x / 2 ^ (j % 32) < 4294967296:=Nat.lt_of_le_of_lt (Nat.div_le_self _ _) hbx;refine A14 rfl rfl (.inl rfl) (BBc hxs) (Ahq trivial rfl (A67 (x / 2 ^ (j % 32) % 2) AOq HR AOq) λFa Fb hk=>?_);obtain ⟨A8,L3,Am,Ae,Ch⟩:=hk;refine ⟨trivial,?_⟩;have Fc:=A8.1;have C8:=XQ.trans A8;have C9:=Ad.ext A8;have HR_76:=HR.ext A8;refine Ahq trivial rfl (Aqe Am AOq) λFd Da hk=>?_;obtain ⟨Au,L4,Af,Ap,Ag,Cm⟩:=hk;refine ⟨trivial,?_⟩;have Fe:=Au.1;have A9:=C8.trans Au;have By:=C9.ext Au;have HR_83:=HR_76.ext Au;have Db:=Am.ext Au;refine Ah7<|AOr<|AOr<|Ahq trivial rfl (A6a Af (HB.ext A9) Ap htb AOq AOq) λFf Da hk=>?_;obtain ⟨rfl,rfl⟩:=hk;refine ⟨trivial,?_⟩;refine A1z rfl rfl (λDc=>?_) (λDc=>?_)
   ·refine AOz<|Ahp rfl (AOv<|AOr<|AOr<|Ahq trivial rfl (A4g Af (HB.ext A9) htb (Aw0<|by assumption) AOq) λFg Fh hk=>?_);obtain ⟨Ak,L5,Aq,Bi,Cq⟩:=hk;refine ⟨trivial,?_⟩;have Fi:=Ak.1;have Dd:=A9.trans Ak;have De:=By.ext Ak;have HR_92:=HR_83.ext Ak;have Df:=Db.ext Ak;have Dg:=Af.ext Ak;refine Ahq trivial rfl (Aqe Aq AOq) λFj Fk hk=>?_;obtain ⟨Ai,L6,Bl,Bm,Bn,Cw⟩:=hk;refine ⟨trivial,?_⟩;have Fl:=Ai.1;have Dh:=Dd.trans Ai;have Ba:=De.ext Ai;have HR_101:=HR_92.ext Ai;have Di:=Df.ext Ai;have Dj:=Dg.ext Ai;have Dk:=Aq.ext Ai;refine AO1 ?_;obtain ⟨dd,hd⟩:∃ x,Q[j / 32]? =some x:=⟨_,List.getElem?_eq_getElem AOq⟩;have hdb:=hQd dd<|List.mem_of_getElem? hd;obtain ⟨t,rfl⟩:=BEl hQd hd hQv;have hge:nv LB<=2 * nv R + x / 2 ^ (j % 32) % 2:=by rw [<- Ae,<- Ag];exact Aw0 (by assumption)
    have Ar:j % 32 < 32:=Nat.mod_lt _ AOs;have Bo:2 ^ (j % 32) < 4294967296:=by have:=A58 Ar hdb;omega
    refine Ayd AO4<|AOr<|AOr<|A9h rfl rfl AOq AOq AOq ?_;rw [show (((j + 1:Nat):Int) - 1) / 32=((j / 32:Nat):Int) by omega];refine Azy Ahl rfl Ba rfl (by rw [List.length_map];omega) ?_;refine Ahu Ajo rfl (Ali.cell Ba<|Azc hd) (AOr<|A1y rfl rfl AOq AOq ?_);rw [show (((j + 1:Nat):Int) - 1) % 32=((j % 32:Nat):Int) by omega];refine A8m (n:=j % 32) rfl rfl (by show j % 32<=32;omega) ?_;rw [BEy Ar];refine A14 rfl rfl (.inr<|.inl rfl) (BDa hdb Bo) ?_;rw [BIy];refine Azy Ahl rfl Ba rfl (by rw [List.length_map];omega) ?_;refine A1h (Q.set (j / 32)<|2 ^ (j % 32 + 1) * t + 2 ^ (j % 32)) Ajo rfl rfl Ba AOq rfl λh9 Bp U9=>?_;have Fm:=U9.1;have Dl:=Dh.thenUpd U9 (λk hk=>by have C2:k=g1:=hk;omega);have HR_107:=HR_101.updLo U9 AOq;have Fo:=Di.updLo U9 AOq;have Fp:=Dj.updLo U9 AOq;have Fq:=Dk.updLo U9 AOq;have Do:=Bl.updLo U9 AOq;refine Ahh<|q_b<|q_t<|Ag6<|AOr<|Aui rfl rfl AOq AOq ?_;rw [show (((j + 1:Nat):Int) - 1) - 1=((j:Nat):Int) - 1 by omega];refine AO1 ?_;exact ⟨j,(j,_,Q.set (j / 32)<|2 ^ (j % 32 + 1) * t + 2 ^ (j % 32),L6),by first | omega | (dsimp only;omega),⟨rfl,by first | omega | (dsimp only;omega),Dl,AOq,Bp,by simp [hQl],Azd hQd<|A58 (Nat.mod_lt _ AOs) hdb,by dsimp only;rw [(hst.2.1 hge).2,<- BI4,<- hQv,Awy j];have:=A16 (2 ^ (j % 32 + 1) * t + 2 ^ (j % 32)) hd;rw [Nat.mul_add] at this;omega,Do.mono AOq,Bm,by dsimp only;rw [Bn,Bi,Ag,Ae];exact (hst.2.1 hge).1.symm⟩,rfl,rfl,trivial⟩
   ·refine AOz<|Aht rfl (AO5<|q_b<|q_t<|Ag6<|AOr<|Aui rfl rfl AOq AOq ?_);rw [show (((j + 1:Nat):Int) - 1) - 1=((j:Nat):Int) - 1 by omega];refine AO1 ?_;have hlt:2 * nv R + x / 2 ^ (j % 32) % 2 < nv LB:=by rw [<- Ae,<- Ag];exact A4h (by assumption)
    exact ⟨j,(j,_,Q,L4),by first | omega | (dsimp only;omega),⟨rfl,by first | omega | (dsimp only;omega),A9,AOq,By,hQl,hQd,by dsimp only;rw [(hst.2.2 hlt).2,hQv,BI5],Af.mono AOq,Ap,by dsimp only;rw [Ag,Ae];exact (hst.2.2 hlt).1.symm⟩,rfl,rfl,trivial⟩
  ·refine AOz<|Aht rfl (Ahf<|Ahg<|Ahg<|Aio<|q_t<|AOx ?_);obtain rfl:i=0:=by omega
   rw [Nat.pow_zero,Nat.one_mul,Nat.div_one] at hQv;rw [Nat.pow_zero,Nat.div_one] at hRv;have HDq:=Ad.ds (lo:=0) hQd<|Nat.zero_le _;refine Ag6<|AOr<|Ahq trivial rfl (Aqe (DS.ext HDq<|Ext.refl _) AOq) λFr Ft hk=>?_;obtain ⟨Bb,L7,Bq,C4,A3,C5⟩:=hk;refine ⟨trivial,?_⟩;have Fu:=Bb.1;have Bz:=XQ.trans Bb;have Fv:=Ad.ext Bb;have HR_118:=HR.ext Bb;refine AOr (Aho<|AO1<|AO6<|⟨_,Aiz,?_⟩)
   first
   | exact ⟨Bz,_,_,rfl,L1,L2,lacks_HD1.mono AOq,lacks_HD2.mono AOq,Be,Bf,AOq,AOq⟩
   | exact ⟨Bz,_,_,rfl,L7,R,Bq.mono AOq,HR_118.mono AOq,by rw [A3];exact hQv,hRv,AOq,AOq⟩
end Go.Proofs.YtkakafabeobahaaGreatDoor
namespace Go.QF
open Go
section
variable {P:Program} {ops:Array Oper}
structure LsF (ops:Array Oper) (R:List Nat) (listed:Array Bool):Prop where
 pw:List.Pairwise (· < ·) R
 size:listed.size=ops.size
 mem:∀ j,j∈R↔(j < ops.size/\listed.getD j true=false)
 cl:∀ j oj,listed.getD j false=true->ops[j]? =some oj-> ∀ ed∈oj.after,Region.binds .any ed=true->listed.getD ed.on false=true
theorem LsF.step {R1 R2:List Nat} {oi:Oper} (L:LsF ops (R1 ++ i :: R2) listed) (hoi:ops[i]? =some oi) (hall:∀ ed∈oi.after,Region.binds .any ed=true->listed.getD ed.on false=true):LsF ops (R1 ++ R2) (listed.setIfInBounds i true):=by
 have hpw':=List.pairwise_append.1 L.pw;have his:i < ops.size:=(Array.getElem?_eq_some_iff.1 hoi).1;have his':i < listed.size:=by rw [L.size];exact his
 have Ab:∀ j,i≠j-> ∀ d,(listed.setIfInBounds i true).getD j d=listed.getD j d:=λj hij d=>by
  simp only [Array.getD_eq_getD_getElem?];rw [Array.getElem?_setIfInBounds_ne hij]
 have htr:∀ j,listed.getD j false=true->(listed.setIfInBounds i true).getD j false=true:=λj hj=>by
  by_cases h:i=j
  ·subst h;simp [his']
  ·rw [Ab j h];exact hj
 refine ⟨List.pairwise_append.2 ⟨hpw'.1,(List.pairwise_cons.1 hpw'.2.1).2,λx hx y hy=>hpw'.2.2 x hx y<|List.mem_cons_of_mem _ hy⟩,by simp [L.size],λj=>?_,?_⟩
 ·have hm:=L.mem j;constructor
  ·intro hj
   have hj':j∈R1 ++ i :: R2:=by
    rcases List.mem_append.1 hj with h | h
    ·exact List.mem_append_left _ h
    ·exact List.mem_append_right _<|List.mem_cons_of_mem _ h
   obtain ⟨h1,h2⟩:=hm.1 hj'
   have hne:i≠j:=by
    intro he
    subst he
    rcases List.mem_append.1 hj with h | h
    ·have:=hpw'.2.2 i h i<|List.mem_cons_self ..;omega
    ·have:=(List.pairwise_cons.1 hpw'.2.1).1 i h;omega
   exact ⟨h1,by rw [Ab j hne];exact h2⟩
  ·rintro ⟨h1,h2⟩
   have hne:i≠j:=by
    intro he
    subst he
    simp [his'] at h2
   rw [Ab j hne] at h2;have:=hm.2 ⟨h1,h2⟩;rcases List.mem_append.1 this with h | h
   ·exact List.mem_append_left _ h
   ·rcases List.mem_cons.1 h with h | h
    ·exact absurd h.symm hne
    ·exact List.mem_append_right _ h
 ·intro j oj hj hoj ed hed hbd;by_cases hij:i=j
  ·subst hij;rw [hoi] at hoj;injection hoj with hoj;subst hoj;exact htr _<|hall ed hed hbd
  ·rw [Ab j hij] at hj;exact htr _<|L.cl j oj hj hoj ed hed hbd
theorem LsF.notListed (L:LsF ops R listed) {k:Nat} (hk:k∈R):listed.getD k false=false:=by
 obtain ⟨h1,h2⟩:=(L.mem k).1 hk;have h3:k < listed.size:=by rw [L.size];exact h1
 simp [h3] at h2 ⊢;exact h2
theorem BI6 {a b:Nat} (h:Nat.blt a b=true):a < b:=Nat.le_of_ble_eq_true h
theorem BGl (ops:Array Oper):LsF ops (List.range ops.size) (Array.replicate ops.size false):=by
 refine ⟨List.pairwise_lt_range,Ah6,λj=>?_,λj oj hj _=>?_⟩
 ·simp only [List.mem_range];constructor
  ·intro h;exact ⟨h,by simp [h]⟩
  ·exact λh=>h.1
 ·exfalso;rcases Nat.lt_or_ge j ops.size with h' | h'
  ·simp [h'] at hj
  ·simp [h'] at hj
def W2 (P:Program) (n:Nat) (c:Code) (Q:Exit->Env->AO2->Prop) (e:Env) (h:AO2):Prop:=
 ∀ (a:Act) (w:World) (Q':Exit->Act->World->Prop),Rep n e a->w.heap=h->(∀ x e' a' w',Rep n e' a'->Same w w'->Q x e' w'.heap->Q' x a' w')->c.wp P Q' a w
theorem Ax0 {n:Nat} {c:Code} {Q:Exit->Env->AO2->Prop} {e:Env} (hmx:P.follows .mixedOrders=true) (hok:okC n c=true) (H:W P c Q e h):W2 P n c Q e h:=by
 intro a w Q' r hw hQ;subst hw;exact W.sound hmx hok r H hQ
theorem Aw1 {n:Nat} {x y:Code} {Q:Exit->Env->AO2->Prop} {e:Env} (H:W2 P n x (Av8 (λe h=>W2 P n y Q e h) Q) e h):W2 P n (.seq x y) Q e h:=by
 intro a w Q' r hw hQ;refine wp_seq<|H a w _ r hw λex e' a' w' r' s k=>?_;cases ex <;> first | exact hQ _ _ _ _ r' s k | exact k a' w' Q' r' rfl (λx e2 a2 w2 r2 s2 k2=>hQ _ _ _ _ r2 (s.trans s2) k2)
theorem A44:∀ (I:List Nat) (L:List Oper),I.map (λi=>ops[i]?)=L.map some-> ∀ e h,RL P B st ops L e h K->LI P B st ops I e h K:=by
 intro I
 induction I with
 | nil=>intro L hI e h H;cases L with | nil=>exact H | cons o L=>cases hI
 | cons i I ih=>
   intro L hI e h H
   cases L with
   | nil=>cases hI
   | cons o L=>
     simp only [List.map_cons,List.cons.injEq] at hI
     simp only [LI,hI.1]
     exact GOp.mono (λv h' hh=>ih L hI.2 _ _ hh) H
theorem BBd {fn:Func} {c:Code} {rs:List ResultVar} {n:Nat} {l:List Value} {K:Value->AO2->Prop} (hf:P.funcs[f]? =some fn) (hn:(fn.name == "runtime.NumGoroutine")=false) (hb:fn.body=some c) (hr:fn.results=rs.toArray) (hnt:fn.ntmps=n) (hl:Nat.ble l.length n=true) (H:W2 P n c (BO3 P rs K) (BAu l) h):Ahs P f l.toArray h K:=by
 refine ⟨⟨fn,hf,hn,by simp [hb]⟩,λw hw=>?_⟩;subst hw;have hl:=Nat.le_of_ble_eq_true hl;refine calls_of_wp hf hb<|H _ _ _ ⟨?_,rfl,λt=>?_⟩ rfl λx e' a' w' r s k=>?_
 ·simp [hnt];omega
 ·rw [BAv];simp only [Array.getD_eq_getD_getElem?];rw [Array.getElem?_append];split
  ·simp
  ·rename_i hge;simp at hge;simp only [List.size_toArray];rw [List.getElem?_eq_none hge];rw [Array.getElem?_replicate];split <;> rfl
 ·cases x with
  | normal=>obtain ⟨v,hv,hk⟩:=k;exact ⟨r.defers,v,hv fn _ w' hr r.get rfl,v,rfl,s,hk⟩
  | ret=>obtain ⟨v,hv,hk⟩:=k;exact ⟨r.defers,v,hv fn _ w' hr r.get rfl,v,rfl,s,hk⟩
  | exit id=>exact k.elim
  | goto t=>exact k.elim
  | panic ch=>exact k.elim
  | outgrown=>exact k.elim
end
end Go.QF
namespace Go.QF
open Go
def over {α:Type}:List α->Nat->List α->List α
 | l,0,[]=>l
 | [],_,_=>[]
 | _ :: l,0,v :: vs=>v :: over l 0 vs
 | x :: l,k + 1,vs=>x :: over l k vs
theorem BI7:∀ (l:List α) (k:Nat) (vs:List α),(over l k vs).length=l.length:=by
 intro l
 induction l with
 | nil=>intro k vs;cases k <;> cases vs <;> rfl
 | cons x l ih=>
   intro k vs
   cases k with
   | zero=>cases vs with
     | nil=>rfl
     | cons v vs=>simp [over,ih]
   | succ k=>simp [over,ih]
theorem Ayn:∀ (l:List α) (k:Nat) (vs:List α) (o:Nat),(over l k vs)[o]? =if k<=o/\o < k + vs.length/\o < l.length then vs[o - k]? else l[o]? :=by
 intro l
 induction l with
 | nil=>intro k vs o;cases k <;> cases vs <;> simp [over]
 | cons x l ih=>
   intro k vs o
   cases k with
   | zero=>cases vs with
     | nil=>simp [over]
     | cons v vs=>
       cases o with
       | zero=>simp [over]
       | succ o=>
         simp only [over,List.getElem?_cons_succ,ih]
         simp only [List.length_cons,Nat.zero_le,true_and,Nat.sub_zero,List.getElem?_cons_succ,Nat.zero_add,Nat.add_lt_add_iff_right]
   | succ k=>
     cases o with
     | zero=>simp [over]
     | succ o=>
       simp only [over,List.getElem?_cons_succ,ih,List.length_cons]
       by_cases hc:k<=o/\o < k + vs.length/\o < l.length
       ·rw [if_pos hc,if_pos AOq];congr 1;omega
       ·rw [if_neg hc,if_neg AOq]
theorem A9s {a b:Nat} (h:a≠b):Nat.beq a b=false:=by
 cases hb:Nat.beq a b with
 | false=>rfl
 | true=>exact absurd (Nat.eq_of_beq_eq_true hb) h
section
variable {P:Program} {B:AO2->Prop} {st:Bool} {ops:Array Oper} {rest:List Oper} {K:Env->AO2->Prop} {h:AO2} {G:List (Nat × Nat)} {e:Env} {H:AO2} {d:Nat} {ty:TypeId} {pos:String} {af:Array Edge}
end
end Go.QF
namespace Go.QF
open Go
theorem BGm (off:Nat):∀ (l:List Value) (k:Nat) (arr:Array Value),((l.zipIdx k).foldl (λ(cs:Array Value) (x:Value × Nat)=>cs.setIfInBounds (off + x.2) x.1) arr).toList=over arr.toList (off + k) l:=by
 intro l
 induction l with
 | nil=>
   intro k arr
   simp only [List.zipIdx_nil,List.foldl_nil]
   apply List.ext_getElem?
   intro o
   rw [Ayn,if_neg (by simp;omega)]
 | cons v l ih=>
   intro k arr
   simp only [List.zipIdx_cons,List.foldl_cons]
   rw [ih]
   apply List.ext_getElem?
   intro o
   rw [Ayn,Ayn]
   simp only [Array.toList_setIfInBounds,List.length_set,List.length_cons]
   by_cases hc:off + (k + 1)<=o/\o < off + (k + 1) + l.length/\o < arr.toList.length
   ·rw [if_pos hc,if_pos AOq,show o - (off + k)=o - (off + (k + 1)) + 1 by omega,List.getElem?_cons_succ]
   ·rw [if_neg hc,List.getElem?_set]
    by_cases he:off + k=o
    ·subst he
     rw [if_pos rfl]
     by_cases hl:off + k < arr.toList.length
     ·rw [if_pos hl,if_pos AOq,Nat.sub_self];rfl
     ·rw [if_neg hl,if_neg AOq,List.getElem?_eq_none AOq]
    ·rw [if_neg he,if_neg AOq]
theorem A8c (b:Nat):∀ (vs:List Value) (o:Nat) (w:World) (cs:Array Value) (t:TypeId) (q:Nat × Nat),w.heap[b]? =some (.cells cs t q)->o + vs.length<=cs.size->
 ∃ cs',(w.setCells b o vs).heap[b]? =some (.cells cs' t q)/\cs'.toList=over cs.toList o vs/\Upd (· =b) w.heap (w.setCells b o vs).heap/\Same w (w.setCells b o vs):=by
 intro vs
 induction vs with
 | nil=>
   intro o w cs t q hb ho
   refine ⟨cs,hb,?_,Upd.refl _ _,.refl w⟩
   apply List.ext_getElem?
   intro k
   rw [Ayn,if_neg (by simp;omega)]
 | cons v vs ih=>
   intro o w cs t q hb ho
   simp only [List.length_cons] at ho
   have h1:(w.setCell ⟨b,o,none⟩ v).heap[b]? =some (.cells (cs.setIfInBounds o v) t q):=by
    have:(w.setCell ⟨b,o,none⟩ v).heap=A24 w.heap ⟨b,o,none⟩ v:=rfl
    rw [this]
    simp only [A24,Array.getElem?_modify,if_true,hb,Option.map_some]
    rfl
   obtain ⟨cs',h2,h3,h4,h5⟩:=ih (o + 1) (w.setCell ⟨b,o,none⟩ v) _ t q h1 (by simp;omega)
   refine ⟨cs',h2,?_,(Aw9 w.heap ⟨b,o,none⟩ v).trans h4,(Same.trans (b:=w.setCell ⟨b,o,none⟩ v) ⟨rfl,rfl,rfl⟩ h5)⟩
   rw [h3]
   have:=BGm o (v :: vs) 0 cs
   apply List.ext_getElem?
   intro k
   rw [Ayn,Ayn]
   simp only [Array.toList_setIfInBounds,List.length_set,List.length_cons]
   by_cases hc:o + 1<=k/\k < o + 1 + vs.length/\k < cs.toList.length
   ·rw [if_pos hc,if_pos AOq,show k - o=k - (o + 1) + 1 by omega,List.getElem?_cons_succ]
   ·rw [if_neg hc,List.getElem?_set]
    by_cases he:o=k
    ·subst he
     rw [if_pos rfl,if_pos (by simp;omega),if_pos (by simp;omega),Nat.sub_self];rfl
    ·rw [if_neg he]
     by_cases hl:k < cs.toList.length
     ·rw [if_neg AOq]
     ·rw [if_neg AOq]
section
variable {P:Program} {B:AO2->Prop} {st:Bool} {ops:Array Oper} {rest:List Oper} {K:Env->AO2->Prop} {h:AO2} {G:List (Nat × Nat)} {e:Env} {H:AO2} {d:Nat} {ty:TypeId} {pos:String} {af:Array Edge}
theorem BPf {t:TypeId} {u:Value} (hB:B H) (hrun:∀ w,w.heap=H-> ∃ w',(Builtin.copy_ #[t,t2] ty #[e.ev s,e.ev x]).run P w= .ok u w'/\Same w w'/\B w'.heap/\RL P B st ops rest (e.set d u) w'.heap K):
 RL P B st ops (⟨some d,.call ⟨.builtin .copy,#[s,x],#[t,t2]⟩,ty,pos,af,none⟩ :: rest) e H K:=by
 refine Awu rfl rfl hB λw hw=>?_;obtain ⟨w',h1,h2,h3,h4⟩:=hrun w hw
 have:(execOp e.ev ⟨some d,.call ⟨.builtin .copy,#[s,x],#[t,t2]⟩,ty,pos,af,none⟩).run P w= .ok (.value u) w':=by
  simp [execOp,resolve,invoke,builtin,h1]
 rw [this];exact ⟨h2,h3,h4⟩
end
end Go.QF
namespace Go.QF
open Go
section
variable {P:Program} {ops:Array Oper}
structure BBe (n:Nat) (ops:Array Oper) (f:Nat):Prop where
 spec:∀ {j:Nat} {oj:Oper},ops[j]? =some oj->(∀ d,oj.dst=some d->d < n)/\Aqb oj=true/\((∀ ed∈oj.after,Region.binds .any ed=true->ed.on < j)/\
  ∀ i oi,i < j->i≠f->j≠f->ops[i]? =some oi->(∃ n,reach ops n i j=true)∨indep (Axl ops true) ops oi oj=true)
structure Lst (ops:Array Oper) (R:List Nat) (listed:Array Bool):Prop where
 pw:List.Pairwise (· < ·) R
 size:listed.size=ops.size
 mem:∀ j,j∈R↔(j < ops.size/\listed.getD j true=false)
 cl:∀ j oj,listed.getD j false=true->ops[j]? =some oj-> ∀ ed∈oj.after,Region.binds .any ed=true->listed.getD ed.on false=true
theorem Lst.step {R1 R2:List Nat} {oi:Oper} (L:Lst ops (R1 ++ i :: R2) listed) (hoi:ops[i]? =some oi) (hall:∀ ed∈oi.after,Region.binds .any ed=true->listed.getD ed.on false=true):Lst ops (R1 ++ R2) (listed.setIfInBounds i true):=by
 have hpw':=List.pairwise_append.1 L.pw;have his:i < ops.size:=(Array.getElem?_eq_some_iff.1 hoi).1;have his':i < listed.size:=by rw [L.size];exact his
 refine ⟨List.pairwise_append.2 ⟨hpw'.1,(List.pairwise_cons.1 hpw'.2.1).2,λx hx y hy=>hpw'.2.2 x hx y<|List.mem_cons_of_mem _ hy⟩,by simp [L.size],λj=>?_,?_⟩
 ·have hm:=L.mem j;constructor
  ·intro hj
   have hj':j∈R1 ++ i :: R2:=by
    rcases List.mem_append.1 hj with h | h
    ·exact List.mem_append_left _ h
    ·exact List.mem_append_right _<|List.mem_cons_of_mem _ h
   obtain ⟨h1,h2⟩:=hm.1 hj'
   have hne:i≠j:=by
    intro he
    subst he
    rcases List.mem_append.1 hj with h | h
    ·have:=hpw'.2.2 i h i<|List.mem_cons_self ..;omega
    ·have:=(List.pairwise_cons.1 hpw'.2.1).1 i h;omega
   exact ⟨h1,by rw [getD_set_ne true hne];exact h2⟩
  ·rintro ⟨h1,h2⟩
   have hne:i≠j:=by
    intro he
    subst he
    simp [his'] at h2
   rw [getD_set_ne true hne] at h2;have:=hm.2 ⟨h1,h2⟩;rcases List.mem_append.1 this with h | h
   ·exact List.mem_append_left _ h
   ·rcases List.mem_cons.1 h with h | h
    ·exact absurd h.symm hne
    ·exact List.mem_append_right _ h
 ·intro j oj hj hoj ed hed hbd;by_cases hij:i=j
  ·subst hij;rw [hoi] at hoj;injection hoj with hoj;subst hoj;exact getD_set_true<|hall ed hed hbd
  ·rw [getD_set_ne false hij] at hj;exact getD_set_true<|L.cl j oj hj hoj ed hed hbd
theorem Lst.notListed (L:Lst ops R listed) {k:Nat} (hk:k∈R):listed.getD k false=false:=by
 obtain ⟨h1,h2⟩:=(L.mem k).1 hk;have h3:k < listed.size:=by rw [L.size];exact h1
 simp [h3] at h2 ⊢;exact h2
theorem Lst.ready {n f:Nat} {R:List Nat} {listed:Array Bool} (hok:BBe n ops f) (L:Lst ops R listed) (hR:R≠[]):Region.ready .any ops listed≠[]:=by
 intro hr
 cases R with
 | nil=>exact hR rfl
 | cons j R=>
   obtain ⟨hjs,hjl⟩:=(L.mem j).1 (List.mem_cons_self ..)
   obtain ⟨oj,hoj⟩:∃ oj,ops[j]? =some oj:=⟨ops[j],Array.getElem?_eq_getElem hjs⟩
   have:j∈Region.ready .any ops listed:=mem_ready.2 ⟨hjl,oj,hoj,λed hed hbd=>by
    obtain ⟨_,_,hd⟩:=hok.spec hoj
    have hlt:=hd.1 ed hed hbd
    cases hl:listed.getD ed.on false with
    | true=>rfl
    | false=>
      exfalso
      have hs:ed.on < ops.size:=Nat.lt_trans hlt hjs
      have hm:ed.on∈j :: R:=(L.mem ed.on).2 ⟨hs,by
       have h':ed.on < listed.size:=by rw [L.size];exact hs
       simp [h'] at hl ⊢;exact hl⟩
      rcases List.mem_cons.1 hm with he | he
      ·omega
      ·have:=(List.pairwise_cons.1 L.pw).1 _ he
       omega⟩
   rw [hr] at this
   cases this
theorem Lst.indep {n f:Nat} {R1 R2:List Nat} {i:Nat} {listed:Array Bool} {oi:Oper} (hok:BBe n ops f) (L:Lst ops (R1 ++ i :: R2) listed) (hoi:ops[i]? =some oi) (hall:∀ ed∈oi.after,Region.binds .any ed=true->listed.getD ed.on false=true) (hfi:i≠f) {k:Nat} (hk:k∈R1) (hfk:k≠f):
 ∃ ok,ops[k]? =some ok/\Aqb ok=true/\indep (Axl ops true) ops ok oi=true:=by
 have hpw':=List.pairwise_append.1 L.pw;have his:i < ops.size:=(Array.getElem?_eq_some_iff.1 hoi).1;have hki:k < i:=hpw'.2.2 k hk i<|List.mem_cons_self ..;have hks:k < ops.size:=Nat.lt_trans hki his;obtain ⟨ok,hok'⟩:∃ ok,ops[k]? =some ok:=⟨ops[k],Array.getElem?_eq_getElem hks⟩;refine ⟨ok,hok',(hok.spec hok').2.1,?_⟩;rcases (hok.spec hoi).2.2.2 k ok hki hfk hfi hok' with ⟨nre,hre⟩ | h
 ·exfalso;have h1:listed.getD k false=true:=Av7 (L:=λj=>listed.getD j false=true) L.cl nre k i oi hoi hall hre;rw [L.notListed<|List.mem_append_left _ hk] at h1;cases h1
 ·exact h
theorem A9t {n f:Nat} (hok:BBe n ops f):∀ (fuel:Nat) (R:List Nat) (listed:Array Bool) (e:Env) (a:Act) (w:World) (K:Env->AO2->Prop),
 f ∉ R->R.length=fuel->Lst ops R listed->Rep n e a->LI P B (Axl ops true) ops R e w.heap K->(∀ e' a' w',Rep n e' a'->Same w w'->K e' w'.heap->Q .normal a' w')->
 wpAny P .any ops Q fuel listed a w:=by
 intro fuel
 induction fuel with
 | zero=>
   intro R listed e a w K hfR hlen L r H hK
   obtain rfl:R=[]:=List.length_eq_zero_iff.1 hlen
   refine ⟨?_,hK _ _ _ r (.refl w) H⟩
   refine List.eq_nil_iff_forall_not_mem.2 λj hj=>?_
   obtain ⟨hjl,oj,hoj,_⟩:=mem_ready.1 hj
   have:=(L.mem j).2 ⟨(Array.getElem?_eq_some_iff.1 hoj).1,hjl⟩
   cases this
 | succ fuel ih=>
   intro R listed e a w K hfR hlen L r H hK
   refine ⟨λhr=>absurd hr<|L.ready hok (λh0=>by subst h0;simp at hlen),λi hi=>?_⟩
   obtain ⟨hil,oi,hoi,hall⟩:=mem_ready.1 hi
   have his:i < ops.size:=(Array.getElem?_eq_some_iff.1 hoi).1
   obtain ⟨R1,R2,rfl⟩:=List.append_of_mem<|(L.mem i).2 ⟨his,hil⟩
   obtain ⟨hdi,hsi,_⟩:=hok.spec hoi
   have hb:LI P B (Axl ops true) ops (i :: (R1 ++ R2)) e w.heap K:=
    LI.bubble hoi hsi R1 (λk hk=>L.indep hok hoi hall (λhe=>hfR<|he ▸ List.mem_append_right _ (List.mem_cons_self ..)) hk λhe=>hfR<|he ▸ List.mem_append_left _ hk) H
   simp only [LI,hoi] at hb
   refine As5 hoi hdi r hb λe' a' w' r' hs hk=>?_
   exact ih (R1 ++ R2) _ e' a' w' K (λhf=>hfR (by rcases List.mem_append.1 hf with h | h;exact List.mem_append_left _ h;exact List.mem_append_right _<|List.mem_cons_of_mem _ h)) (by simp at hlen ⊢;omega) (L.step hoi hall) r' hk
    (λe2 a2 w2 r2 s2 k2=>hK _ _ _ r2 (hs.trans s2) k2)
def LF (P:Program) (B:AO2->Prop) (st:Bool) (ops:Array Oper) (f:Nat) (T:List Nat):List Nat->Env->AO2->(Env->AO2->Prop)->Prop
 | [],e,h,K=>LI P B st ops (f :: T) e h K
 | i :: R,e,h,K=>LI P B st ops (f :: i :: (R ++ T)) e h K/\match ops[i]? with
   | none=>LF P B st ops f T R e h K
   | some o=>GOp P B st ops o e h λe' h'=>LF P B st ops f T R e' h' K
theorem LF.now {f:Nat} {e:Env} (H:LF P B st ops f T R e h K):LI P B st ops (f :: (R ++ T)) e h K:=by
 cases R with
 | nil=>exact H
 | cons i R=>exact H.1
theorem SOp.and {o:Oper} {e:Env} {K1 K2:Env->AO2->Prop} (hk:kindOf o.op= .pure∨kindOf o.op= .read) (H1:SOp P B st o e h K1) (H2:SOp P B st o e h K2):SOp P B st o e h λe' h'=>K1 e' h'/\K2 e' h':=by
 have un:∀ {u u2:Value} {w:World},(execOp e.ev o).run P w= .ok (.value u) w->(execOp e.ev o).run P w= .ok (.value u2) w->u2=u:=by
  intro u u2 w a1 a2
  rw [a1] at a2
  injection a2 with a2 _
  injection a2 with a2
  exact a2.symm
 unfold SOp at H1 H2 ⊢;rcases hk with hk | hk
 ·simp only [hk] at H1 H2 ⊢;obtain ⟨v,hv,h1⟩:=H1;obtain ⟨v2,Ad,h2⟩:=H2;cases un (hv<|Av6 h) (Ad<|Av6 h);exact ⟨v,hv,h1,h2⟩
 ·cases st with
  | false=>
    simp only [hk] at H1 H2 ⊢
    obtain ⟨v,hv,h1⟩:=H1
    obtain ⟨v2,Ad,h2⟩:=H2
    cases un (hv (Av6 h) rfl) (Ad (Av6 h) rfl)
    exact ⟨v,hv,h1,h2⟩
  | true=>
    simp only [hk] at H1 H2 ⊢
    obtain ⟨v,hb,hv,h1⟩:=H1
    obtain ⟨v2,_,Ad,h2⟩:=H2
    cases un (hv (Av6 h) hb) (Ad (Av6 h) hb)
    exact ⟨v,hb,hv,h1,h2⟩
theorem GOp.and {B:AO2->Prop} {st:Bool} {o:Oper} {e:Env} {h:AO2} {K1 K2:Env->AO2->Prop} (hk:kindOf o.op= .pure∨kindOf o.op= .read) (H1:GOp P B st ops o e h K1) (H2:GOp P B st ops o e h K2):GOp P B st ops o e h λe' h'=>K1 e' h'/\K2 e' h':=by
 unfold GOp at *;split
 ·rename_i hw;rw [if_pos hw] at H1 H2;exact H1.and hk H2
 ·rename_i hw;rw [if_neg hw] at H1 H2;exact ⟨H1,H2⟩
theorem LF.bubbleA {f:Nat} {of oi:Oper} (hf:ops[f]? =some of) (hsf:Aqb of=true) (hi:ops[i]? =some oi) (hsi:Aqb oi=true) (hk:kindOf oi.op= .pure∨kindOf oi.op= .read) (hfi:indep st ops of oi=true) (R1:List Nat):∀ {R2:List Nat} {e:Env} {h:AO2} {K:Env->AO2->Prop},
 (∀ k∈R1,∃ ok,ops[k]? =some ok/\Aqb ok=true/\indep st ops ok oi=true)->LF P B st ops f T (R1 ++ i :: R2) e h K->GOp P B st ops oi e h λe' h'=>LF P B st ops f T (R1 ++ R2) e' h' K:=by
 induction R1 with
 | nil=>
   intro R2 e h K _ H;have:=H.2;simp only [hi] at this;exact this
 | cons k R1 ih=>
   intro R2 e h K hind H;obtain ⟨ok,hok,hsk,hik⟩:=hind k<|List.mem_cons_self ..;have h1:=H.1;have h2:=H.2;simp only [hok] at h2;have h3:GOp P B st ops ok e h λe' h'=>GOp P B st ops oi e' h' λe2 h2=>LF P B st ops f T (R1 ++ R2) e2 h2 K:=h2.mono λv h' hh=>ih (λk' hk'=>hind k'<|List.mem_cons_of_mem _ hk') hh;have h4:=GOp.swap hsk hsi hik h3;have h5:LI P B st ops ((f :: k :: R1) ++ i :: (R2 ++ T)) e h K:=by simpa using h1
   have h6:=LI.bubble hi hsi (f :: k :: R1) (λj hj=>by
    rcases List.mem_cons.1 hj with rfl | hj
    ·exact ⟨of,hf,hsf,hfi⟩
    ·exact hind j hj) h5
   simp only [LI,hi] at h6
   refine (GOp.and hk h6 h4).mono λv h' hh=>⟨?_,?_⟩
   ·have:=hh.1;simpa [LI] using this
   ·simp only [hok];exact hh.2
theorem LF.bubbleB {f:Nat} {of oi:Oper} (hf:ops[f]? =some of) (hsf:Aqb of=true) (hi:ops[i]? =some oi) (hsi:Aqb oi=true) (R1:List Nat):∀ {R2:List Nat} {e:Env} {h:AO2} {K:Env->AO2->Prop},
 (∀ k∈R1,∃ ok,ops[k]? =some ok/\Aqb ok=true/\indep st ops ok oi=true/\indep st ops ok of=true)->LF P B st ops f T (R1 ++ i :: R2) e h K->GOp P B st ops oi e h λe' h'=>LF P B st ops f T (R1 ++ R2) e' h' K:=by
 induction R1 with
 | nil=>
   intro R2 e h K _ H;have:=H.2;simp only [hi] at this;exact this
 | cons k R1 ih=>
   intro R2 e h K hind H;obtain ⟨ok,hok,hsk,hik,hfk⟩:=hind k<|List.mem_cons_self ..;have h2:=H.2;simp only [hok] at h2;have h3:GOp P B st ops ok e h λe' h'=>GOp P B st ops oi e' h' λe2 h2=>LF P B st ops f T (R1 ++ R2) e2 h2 K:=h2.mono λv h' hh=>ih (λk' hk'=>hind k'<|List.mem_cons_of_mem _ hk') hh
   refine (GOp.swap hsk hsi hik h3).mono λv h' hh=>⟨?_,?_⟩
   ·have h5:LI P B st ops ([k] ++ f :: (R1 ++ R2 ++ T)) (e.put oi.dst v) h' K:=by
     simp only [List.cons_append,List.nil_append,LI,hok];exact hh.mono λv2 h2 hl=>by have:=hl.now;simpa [LI] using this
    have:=LI.bubble hf hsf [k] (λj hj=>by rw [List.mem_singleton.1 hj];exact ⟨ok,hok,hsk,hfk⟩) h5;simpa using this
   ·simp only [hok];exact hh
theorem LF.lift {f k:Nat} {of ok:Oper} (hf:ops[f]? =some of) (hsf:Aqb of=true) (hok:ops[k]? =some ok) (hsk:Aqb ok=true) (hfk:indep st ops ok of=true) {e:Env} (H:GOp P B st ops ok e h λe' h'=>LF P B st ops f T R e' h' K):LF P B st ops f T (k :: R) e h K:=by
 refine ⟨?_,by simp only [hok];exact H⟩
 have h5:LI P B st ops ([k] ++ f :: (R ++ T)) e h K:=by
  simp only [List.cons_append,List.nil_append,LI,hok]
  exact H.mono λv2 h2 hl=>by have:=hl.now;simpa [LI] using this
 have:=LI.bubble hf hsf [k] (λj hj=>by rw [List.mem_singleton.1 hj];exact ⟨ok,hok,hsk,hfk⟩) h5;simpa using this
theorem A7a {x y:Oper} (h:indep st ops x y=true):indep st ops y x=true:=by
 unfold indep at h ⊢;rw [Bool.and_eq_true] at h ⊢;refine ⟨?_,?_⟩
 ·have:=Oper.apart_spec h.1;have h1:=h.1;unfold Oper.apart at h1 ⊢;simp only [Bool.and_eq_true] at h1 ⊢;revert h1;cases hx:x.dst <;> cases hy:y.dst <;> simp <;> intros <;> simp_all <;> (try exact λhh=>by simp_all)
 ·cases hx:kindOf x.op <;> cases hy:kindOf y.op <;> simp_all
end
end Go.QF
namespace Go.QF
open Go
section
variable {P:Program} {ops:Array Oper}
theorem BGo (ops:Array Oper):Lst ops (List.range ops.size) (Array.replicate ops.size false):=by
 refine ⟨List.pairwise_lt_range,Ah6,λj=>?_,λj oj hj _=>?_⟩
 ·simp only [List.mem_range];constructor
  ·intro h;exact ⟨h,by simp [h]⟩
  ·exact λh=>h.1
 ·exfalso;rcases Nat.lt_or_ge j ops.size with h' | h'
  ·simp [h'] at hj
  ·simp [h'] at hj
theorem range_split {f n:Nat} (h:f < n):List.range n=List.range f ++ f :: List.range' (f + 1) (n - f - 1):=by
 rw [List.range_eq_range',List.range_eq_range'];have h1:n=f + (1 + (n - f - 1)):=by omega
 conv=>lhs;rw [h1]
 rw [<- List.range'_append_1];congr 1;rw [Nat.zero_add,Nat.add_comm 1,List.range'_succ]
end
end Go.QF
namespace Go.QF
open Go
section
variable {P:Program} {ops:Array Oper}
theorem A8n {X1 X2:List Nat} (h:i ∉ X1):(X1 ++ i :: X2).erase i=X1 ++ X2:=by
 rw [List.erase_append_right _ h,List.erase_cons_head]
theorem A9u {n f:Nat} {of:Oper} (hof:ops[f]? =some of) (S:BBe n ops f) (R0 T:List Nat) (hT:∀ j∈T,∃ n,reach ops n f j=true) (hdn:∀ j∈R0,∀ oj,ops[j]? =some oj->kindOf oj.op= .pure∨kindOf oj.op= .read->indep (Axl ops true) ops of oj=true):
 ∀ (fuel:Nat) (R Ra Rb:List Nat) (listed:Array Bool) (e:Env) (a:Act) (w:World) (K:Env->AO2->Prop),(∀ j∈R,j∈R0)->Ra ++ Rb=R ++ T->f ∉ R ++ T->
 (Ra ++ f :: Rb).length=fuel->Lst ops (Ra ++ f :: Rb) listed->Rep n e a->LF P B (Axl ops true) ops f T R e w.heap K->(∀ e' a' w',Rep n e' a'->Same w w'->K e' w'.heap->Q .normal a' w')->
 wpAny P .any ops Q fuel listed a w:=by
 intro fuel;have hsf:=(S.spec hof).2.1
 induction fuel with
 | zero=>intro R Ra Rb listed e a w K _ _ _ hlen;simp at hlen
 | succ fuel ih=>
   intro R Ra Rb listed e a w K Ah hRT hfR hlen L r H hK
   refine ⟨λhr=>absurd hr<|L.ready S Ah6,λi hi=>?_⟩
   obtain ⟨hil,oi,hoi,hall⟩:=mem_ready.1 hi
   have his:i < ops.size:=(Array.getElem?_eq_some_iff.1 hoi).1
   have hfL:f∈Ra ++ f :: Rb:=List.mem_append_right _<|List.mem_cons_self ..
   have hpw:=List.pairwise_append.1 L.pw
   have hpc:=List.pairwise_cons.1 hpw.2.1
   by_cases hif:i=f
   ·subst hif
    rw [hof] at hoi;cases hoi
    have h1:=H.now
    simp only [LI,hof] at h1
    refine As5 hof (S.spec hof).1 r h1 λe' a' w' r' hs hk=>?_
    refine A9t S fuel (R ++ T) _ e' a' w' K hfR (by rw [<- hRT];simp at hlen ⊢;omega) (by rw [<- hRT];exact L.step hof hall) r' hk λe2 a2 w2 r2 s2 k2=>hK _ _ _ r2 (hs.trans s2) k2
   ·have hmem:∀ j,j≠f->(j∈Ra ++ f :: Rb↔j∈R ++ T):=by
     intro j hj
     rw [<- hRT]
     simp only [List.mem_append,List.mem_cons]
     constructor
     ·rintro (h | h | h)
      ·exact .inl h
      ·exact absurd h hj
      ·exact .inr h
     ·rintro (h | h)
      ·exact .inl h
      ·exact .inr<|.inr h
    have hiL:=(L.mem i).2 ⟨his,hil⟩
    have hiR:i∈R:=by
     rcases List.mem_append.1 ((hmem i hif).1 hiL) with h | h
     ·exact h
     ·exfalso
      obtain ⟨nre,hre⟩:=hT i h
      have h1:listed.getD f false=true:=Av7 (L:=λj=>listed.getD j false=true) L.cl nre f i oi hoi hall hre
      rw [L.notListed hfL] at h1
      cases h1
    obtain ⟨R1,R2,rfl⟩:=List.append_of_mem hiR
    have hpwRT:List.Pairwise (· < ·) ((R1 ++ i :: R2) ++ T):=by
     rw [<- hRT]
     exact List.pairwise_append.2 ⟨hpw.1,hpc.2,λx hx y hy=>hpw.2.2 x hx y<|List.mem_cons_of_mem _ hy⟩
    have hpR:=List.pairwise_append.1 (List.pairwise_append.1 hpwRT).1
    have Am:∀ k∈R1,k < i:=λk hk=>hpR.2.2 k hk i<|List.mem_cons_self ..
    obtain ⟨hdi,hsi,_⟩:=S.spec hoi
    obtain ⟨X1,X2,hX⟩:=List.append_of_mem hiL
    have LX:Lst ops (X1 ++ i :: X2) listed:=by rw [<- hX];exact L
    have hpX:=List.pairwise_append.1 LX.pw
    have Au:i ∉ X1:=λh=>by have:=hpX.2.2 i h i<|List.mem_cons_self ..;omega
    have Av:∀ k∈R1,k∈X1:=λk hk=>by
     have hkf:k≠f:=λhe=>hfR<|he ▸ (List.mem_append_left _<|List.mem_append_left _ hk)
     have:k∈X1 ++ i :: X2:=by rw [<- hX];exact (hmem k hkf).2 (List.mem_append_left _<|List.mem_append_left _ hk)
     have hlt:=Am k hk
     rcases List.mem_append.1 this with h | h
     ·exact h
     ·rcases List.mem_cons.1 h with h | h
      ·omega
      ·have:=(List.pairwise_cons.1 hpX.2.1).1 k h;omega
    have hind:∀ k∈R1,∃ ok,ops[k]? =some ok/\Aqb ok=true/\indep (Axl ops true) ops ok oi=true:=λk hk=>
     LX.indep S hoi hall hif (Av k hk) (λhe=>hfR<|he ▸ (List.mem_append_left _<|List.mem_append_left _ hk))
    have hg:GOp P B (Axl ops true) ops oi e w.heap λe' h'=>LF P B (Axl ops true) ops f T (R1 ++ R2) e' h' K:=by
     by_cases hk:kindOf oi.op= .pure∨kindOf oi.op= .read
     ·exact LF.bubbleA hof hsf hoi hsi hk (hdn i (Ah i hiR) oi hoi hk) R1 hind H
     ·refine LF.bubbleB hof hsf hoi hsi R1 (λk hk'=>?_) H
      obtain ⟨ok,h1,h2,h3⟩:=hind k hk'
      refine ⟨ok,h1,h2,h3,A7a<|hdn k (Ah k<|List.mem_append_left _ hk') ok h1 ?_⟩
      unfold indep at h3
      rw [Bool.and_eq_true] at h3
      have h4:=h3.2
      cases hx:kindOf ok.op with
      | pure=>exact .inl rfl
      | read=>exact .inr rfl
      | eff=>
        rw [hx] at h4
        cases hy:kindOf oi.op with
        | pure=>exact absurd (Or.inl hy) hk
        | read=>exact absurd (Or.inr hy) hk
        | eff=>rw [hy] at h4;cases h4
        | wr=>rw [hy] at h4;cases h4
      | wr=>
        rw [hx] at h4
        cases hy:kindOf oi.op with
        | pure=>exact absurd (Or.inl hy) hk
        | read=>exact absurd (Or.inr hy) hk
        | eff=>rw [hy] at h4;cases h4
        | wr=>rw [hy] at h4;cases h4
    refine As5 hoi hdi r hg λe' a' w' r' hs hk=>?_
    have LS:=LX.step hoi hall
    have hiRT:i ∉ R1:=λh=>by have:=Am i h;omega
    have herase:(Ra ++ Rb).erase i=(R1 ++ R2) ++ T:=by
     rw [hRT,List.append_assoc,List.cons_append,A8n hiRT,<- List.append_assoc]
    have hlen':X1.length + X2.length=fuel:=by
     have:=congrArg List.length hX
     simp at this hlen
     omega
    have fin:∀ Ra' Rb',X1 ++ X2=Ra' ++ f :: Rb'->Ra' ++ Rb'=(R1 ++ R2) ++ T->wpAny P .any ops Q fuel (listed.setIfInBounds i true) a' w':=by
     intro Ra' Rb' Ao Ax
     refine ih (R1 ++ R2) Ra' Rb' _ e' a' w' K (λj hj=>Ah j ?_) Ax (λhf=>hfR ?_) (by rw [<- Ao,List.length_append];exact hlen') (by rw [<- Ao];exact LS) r' hk λe2 a2 w2 r2 s2 k2=>hK _ _ _ r2 (hs.trans s2) k2
     ·rcases List.mem_append.1 hj with h | h
      ·exact List.mem_append_left _ h
      ·exact List.mem_append_right _<|List.mem_cons_of_mem _ h
     ·rcases List.mem_append.1 hf with h | h
      ·refine List.mem_append_left _ ?_
       rcases List.mem_append.1 h with h | h
       ·exact List.mem_append_left _ h
       ·exact List.mem_append_right _<|List.mem_cons_of_mem _ h
      ·exact List.mem_append_right _ h
    have hXe:X1 ++ X2=(Ra ++ f :: Rb).erase i:=by rw [hX,A8n Au]
    by_cases hia:i∈Ra
    ·refine fin (Ra.erase i) Rb (by rw [hXe,List.erase_append_left _ hia]) ?_
     rw [<- herase,List.erase_append_left _ hia]
    ·refine fin Ra (Rb.erase i) (by rw [hXe,List.erase_append_right _ hia,List.erase_cons_tail (by simpa using λhe:f=i=>hif he.symm)]) ?_
     rw [<- herase,List.erase_append_right _ hia]
def BI8 (n:Nat) (ops:Array Oper) (pre:List Nat) (f k:Nat) (T:List Nat):Bool:=match ops[f]?,ops[k]? with
 | some of,some ok=>of.after.all (λed=> !Region.binds .any ed) && (match kindOf ok.op with | .eff=>true | .wr=>true | _=>false) &&
   ((List.range ops.size).filter (λj=> !Nat.beq j f) == pre ++ k :: T) && T.all (λj=>ahead ops f j) &&
   pre.all (λj=>match ops[j]? with | some oj=>indep (Axl ops true) ops oj of | none=>false) &&
   (List.range ops.size).all λj=>match ops[j]? with
   | none=>false
   | some oj=>(match oj.dst with | some d=>decide (d < n) | none=>true) && Aqb oj && oj.after.all (λed=> !Region.binds .any ed || decide (ed.on < j)) &&
     (Nat.beq j f || ((List.range j).all λi=>match ops[i]? with
       | none=>false
       | some oi=>Nat.beq i f || ahead ops i j || indep (Axl ops true) ops oi oj))
 | _,_=>false
theorem BPg {f:Nat} {of:Oper} (hof:ops[f]? =some of) (hsf:Aqb of=true):∀ (pre:List Nat) (L:List Oper),pre.map (λi=>ops[i]?)=L.map some->(∀ j∈pre,∀ oj,ops[j]? =some oj->Aqb oj=true/\indep st ops oj of=true)-> ∀ e h,RL P B st ops L e h (λe' h'=>LF P B st ops f T R e' h' K)->LF P B st ops f T (pre ++ R) e h K:=by
 intro pre
 induction pre with
 | nil=>intro L hL _ e h H;cases L with | nil=>exact H | cons o L=>cases hL
 | cons k pre ih=>
   intro L hL hp e h H
   cases L with
   | nil=>cases hL
   | cons o L=>
     simp only [List.map_cons,List.cons.injEq] at hL
     obtain ⟨h1,h2⟩:=hp k (List.mem_cons_self ..) o hL.1
     refine LF.lift hof hsf hL.1 h1 h2<|GOp.mono (λv h' hh=>?_) H
     exact ih L hL.2 (λj hj=>hp j<|List.mem_cons_of_mem _ hj) _ _ hh
inductive A7b (ops:Array Oper):List Nat->List Oper->Prop
 | nil:A7b ops [] []
 | cons {i:Nat} {o:Oper} {I:List Nat} {L:List Oper} (h:ops[i]? =some o) (t:A7b ops I L):A7b ops (i :: I) (o :: L)
theorem A7b.map {I:List Nat} {L:List Oper} (h:A7b ops I L):I.map (λi=>ops[i]?)=L.map some:=by
 induction h with
 | nil=>rfl
 | cons h t ih=>simp only [List.map_cons,h,ih]
theorem A9v {n:Nat} (st:Bool) (pre:List Nat) (f k:Nat) (T:List Nat) {Lp Lt:List Oper} {of ok:Oper} {id:Nat} {Q:Exit->Env->AO2->Prop} {e:Env} (hmx:P.follows .mixedOrders=true) (hok:BI8 n ops pre f k T=true) (hst:Axl ops true=st) (hf:ops[f]? =some of) (hk:ops[k]? =some ok)
 (hLp':A7b ops pre Lp) (hLt':A7b ops T Lt)
 (H:RL P B st ops Lp e h λe' h'=>RL P B st ops (of :: ok :: Lt) e' h' (Q .normal)/\RL P B st ops (ok :: of :: Lt) e' h' (Q .normal)):
 W2 P n (.region id ops true) Q e h:=by
 intro a w Q' r hw hQ;subst hw;subst hst;have hLp:=hLp'.map;have hLt:=hLt'.map;unfold BI8 at hok;simp only [hf,hk,Bool.and_eq_true] at hok;obtain ⟨⟨⟨⟨⟨h0,hkk⟩,hrg⟩,hT⟩,hpre⟩,H2⟩:=hok
 have key:∀ {j:Nat} {oj:Oper},ops[j]? =some oj->(((match oj.dst with | some d=>decide (d < n) | none=>true)=true/\Aqb oj=true)/\oj.after.all (λed=> !Region.binds .any ed || decide (ed.on < j))=true)/\
  (Nat.beq j f || ((List.range j).all λi=>match ops[i]? with | none=>false | some oi=>Nat.beq i f || ahead ops i j || indep (Axl ops true) ops oi oj))=true:=by
  intro j oj hj;have hlt:j < ops.size:=(Array.getElem?_eq_some_iff.1 hj).1;have H:=List.all_eq_true.1 H2 j<|List.mem_range.2 hlt;simp only [hj,Bool.and_eq_true] at H;exact H
 have S:BBe n ops f:=⟨λ{j oj} hj=>by
  obtain ⟨⟨⟨h1,h2⟩,h3⟩,h4⟩:=key hj
  refine ⟨λd hd=>by simpa [hd] using h1,h2,λed hed hbd=>?_,λi oi hij hif hjf hoi=>?_⟩
  ·have:=Array.all_eq_true_iff_forall_mem.1 h3 ed hed;simpa [hbd] using this
  ·rw [A9s hjf,Bool.false_or] at h4;have:=List.all_eq_true.1 h4 i<|List.mem_range.2 hij;simp only [hoi,A9s hif,Bool.false_or,Bool.or_eq_true] at this
   rcases this with h | h
   ·exact .inl<|Axb h
   ·exact .inr h⟩
 have hrg2:(List.range ops.size).filter (λj=> !Nat.beq j f)=pre ++ k :: T:=by simpa using hrg
 have hfl:f < ops.size:=(Array.getElem?_eq_some_iff.1 hf).1;have hsp:=range_split hfl
 have hfil:(List.range ops.size).filter (λj=> !Nat.beq j f)=List.range f ++ List.range' (f + 1) (ops.size - f - 1):=by
  rw [hsp,List.filter_append,List.filter_cons];have hff:Nat.beq f f=true:=Nat.beq_eq.mpr rfl;simp only [hff,Bool.not_true,Bool.false_eq_true,if_false]
  rw [List.filter_eq_self.2,List.filter_eq_self.2]
  ·intro j hj;have:=List.mem_range'_1.1 hj;rw [A9s AOq];rfl
  ·intro j hj;have:=List.mem_range.1 hj;rw [A9s AOq];rfl
 have hsf:=(S.spec hf).2.1;refine wp_region_draw λt=>?_;simp only [Region.schedule,hmx,Bool.true_or,if_true]
 refine wpAny_sound ops.size t _ a _ (A9u (B:=B) (K:=Q .normal) hf S (pre ++ [k]) T (λj hj=>Axb<|List.all_eq_true.1 hT j hj) ?_ ops.size (pre ++ [k]) (List.range f) (List.range' (f + 1)<|ops.size - f - 1) (Array.replicate ops.size false) e a { w with drawn:=w.drawn + 1 } (λj hj=>hj) (by rw [<- hfil,hrg2];simp) ?_ (by rw [<- hsp];simp) (by rw [<- hsp];exact BGo ops) r ?_
  (λe' a' w' r' hs hk=>hQ .normal e' a' w' r' ⟨hs.os,hs.tape,hs.output⟩ hk))
 ·intro j hj oj hoj hkj
  rcases List.mem_append.1 hj with h | h
  ·have:=List.all_eq_true.1 hpre j h;simp only [hoj] at this;exact A7a this
  ·rw [List.mem_singleton.1 h,hk] at hoj;cases hoj;rcases hkj with hkj | hkj <;> (rw [hkj] at hkk;cases hkk)
 ·have:f ∉ (List.range ops.size).filter (λj=> !Nat.beq j f):=by
   intro hm;have:=(List.mem_filter.1 hm).2;have hff:Nat.beq f f=true:=Nat.beq_eq.mpr rfl;rw [hff] at this;cases this
  rw [hrg2] at this;simpa using this
 ·refine BPg hf hsf pre Lp hLp (λj hj oj hoj=>⟨(S.spec hoj).2.1,?_⟩) _ _<|RL.mono (λe' h' hh=>?_) H
  ·have:=List.all_eq_true.1 hpre j hj;simp only [hoj] at this;exact this
  ·refine ⟨?_,?_⟩
   ·exact A44 (f :: k :: ([] ++ T)) (of :: ok :: Lt) (by simp [hf,hk,hLt]) _ _ hh.1
   ·simp only [hk];refine GOp.mono (λv h2 hl=>?_) hh.2;exact A44 (f :: T) (of :: Lt) (by simp [hf,hLt]) _ _ hl
theorem BEz {n:Nat} {c:Operand} {x y:Code} {Q:Exit->Env->AO2->Prop} {e:Env} (hc:e.ev c= .bool true) (H:W2 P n x Q e h):W2 P n (.cond c x y) Q e h:=by
 intro a w Q' r hw hQ;exact wp_cond_split (t:=true) (by rw [r.eval];exact hc) (λ_=>H a w Q' r hw hQ) (λhh=>by cases hh)
theorem BBf {n:Nat} {c:Operand} {x y:Code} {Q:Exit->Env->AO2->Prop} {e:Env} (hc:e.ev c= .bool false) (H:W2 P n y Q e h):W2 P n (.cond c x y) Q e h:=by
 intro a w Q' r hw hQ;exact wp_cond_split (t:=false) (by rw [r.eval];exact hc) (λhh=>by cases hh) λ_=>H a w Q' r hw hQ
end
end Go.QF
namespace Go.QF
open Go
theorem BL5 (a b:Int):A9g .lss a b=some (decide (a < b)):=rfl
theorem BL6 (a b:Int):A9g .leq a b=some (decide (a<=b)):=rfl
theorem BL7 (a b:Int):A9g .gtr a b=some (decide (b < a)):=rfl
theorem BL8 (a b:Int):A9g .geq a b=some (decide (b<=a)):=rfl
theorem BL9 (a b:Int):A9g .eql a b=some (decide (a=b)):=by
 show some _=some _;grind
theorem BMa (a b:Int):A9g .neq a b=some (decide (¬ a=b)):=by
 show some (a != b)=some _;grind
theorem SlC.isOne {α:Type} {c:Cod α} {h:AO2} {v:Value} {L:List α} (H:SlC c h v L):isOne v=true:=by
 obtain ⟨Ls,⟨a,cap,rfl,_⟩,_⟩:=H;rfl
theorem Ajw.isOne {α:Type} {c:Cod α} {h:AO2} {v:Value} {L:List (List α)} (H:Ajw c h v L):isOne v=true:=by
 obtain ⟨_,Ls,⟨a,cap,rfl,_⟩,_⟩:=H;rfl
theorem Aj1.rowG {c:Cod α} {M:List (List α)} (H:Aj1 c er el h F Gs rs v M) {i:Int} {L:List α} (hL:gI M i=some L):∃ G,Gs[i.toNat]? =some G/\(∀ x∈G,x∈F)/\(∀ x∈G,Ax2 h x)/\ ∀ b,F=b :: Gs.flatten->b ∉ G:=by
 have hnd:=H.notD;have hn:=H.nodup;obtain ⟨n,rfl,hL⟩:=Aom hL;obtain ⟨b,r,hF,h2,hr,hm⟩:=A4d H hL;obtain ⟨G,hG,HR,hGF⟩:=H.row hr hL;refine ⟨G,hG,hGF,λx hx=>hnd x<|hGF x hx,λb' hb' hm'=>?_⟩;rw [hb'] at hn;exact (List.nodup_cons.1 hn).1 (Alg hG hm')
def swp (i j k:Nat):Nat:=if k=i then j else if k=j then i else k
theorem BMb {k l:Nat} (h:swp i j k=swp i j l):k=l:=by
 unfold swp at h;grind
theorem A7c {β:Type} {L:List β} {a b:β} (ha:L[i]? =some a) (hb:L[j]? =some b) (k:Nat):((L.set i b).set j a)[k]? =L[swp i j k]? :=by
 have hi:=(List.getElem?_eq_some_iff.1 ha).1;have hj:=(List.getElem?_eq_some_iff.1 hb).1;unfold swp;grind
theorem BBg:∀ {Gs:List (List Nat)},(∀ (i:Nat) (G:List Nat),Gs[i]? =some G->G.Nodup)->(∀ (i j:Nat) (G H:List Nat),i≠j->Gs[i]? =some G->Gs[j]? =some H-> ∀ x∈G,x ∉ H)->Gs.flatten.Nodup:=by
 intro Gs
 induction Gs with
 | nil=>intro _ _;simp
 | cons G Gs ih=>
   intro h1 h2
   rw [List.flatten_cons]
   refine List.nodup_append.2 ⟨h1 0 G rfl,ih (λi H hi=>h1 (i + 1) H<|by simpa using hi) λi j A B hij hA hB=>h2 (i + 1) (j + 1) A B AOq (by simpa using hA) (by simpa using hB),λx hx y hy he=>?_⟩
   obtain ⟨H,hH,hyH⟩:=List.mem_flatten.1 hy
   obtain ⟨j,hj⟩:=List.getElem?_of_mem hH
   exact h2 0 (j + 1) G H AOq rfl (by simpa using hj) x hx (he ▸ hyH)
section
variable {P:Program} {B:AO2->Prop} {st:Bool} {ops:Array Oper} {rest:List Oper} {e:Env} {h:AO2} {K:Env->AO2->Prop}
variable {d d' d2:Nat} {ty ty' ty2 ty3:TypeId} {pos pos' pos2 pos3:String} {af af' af2 af3:Array Edge}
theorem BGp {c:Cod α} {i:Operand} {d':Nat} {v1:Value} {m:Nat} {F1:List Nat} {M:List (List α)} {L L1:List α} (hTr:SlT P tr er0 1) (htl:NaT P tl)
 (HO:Aj1 c er el h0 F Gs rs v M) (hL0:M[m]? =some L) (hG:Gs[m]? =some G) (HR1:OwC c el h1 F1 v1 L1) (U1:UpT G h0 h1) (hF1:∀ x∈F1,x∈G∨h0.size<=x) (hx:e.ev x=v) (hi:e.ev i= .int κ (m:Int)) (hd1:∀ w,(e.set d2 w).ev (.tmp d')=v1)
 (H:∀ q F' Gs' rs' h',Aj1 c er el h' F' Gs' rs' v (sI M m L1)->UpT F h0 h'->(∀ x∈F',x∈F∨h0.size<=x)->RL P B st ops rest (e.set d2 q) h' K):
 RL P B st ops (⟨some d2,.indexAddr tr x i,ty2,pos2,af2,none⟩ :: ⟨none,.store tl (.tmp d2)<|.tmp d',ty3,pos3,af3,none⟩ :: rest) e h1 K:=by
 have hnd:=HO.notD;have hlt:=HO.lt;have hn:=HO.nodup;obtain ⟨b,r0,hFb,hb2,hr0,hm⟩:=A4d HO hL0;obtain ⟨G',hG',_,hGF⟩:=HO.row hr0 hL0;rw [hG] at hG';injection hG' with hG';subst hG';have hbG:b ∉ G:=λhm'=>by rw [hFb] at hn;exact (List.nodup_cons.1 hn).1 (Alg hG hm')
 have HO':=HO
 rcases HO' with ⟨rfl,_⟩ | ⟨b',hF',_,h2,h3,h4,h5,h6⟩
 ·simp at hL0
 rw [hFb] at hF';injection hF' with hF';subst hF';have h21:=h2.upd (S:=(· ∈G)) U1.1 hbG;have hml:m < M.length:=(List.getElem?_eq_some_iff.1 hL0).1;refine A4c (er:=er) (n:=m) hTr hx h21 hi (by simpa using hm) ?_;rw [Nat.mul_one];have hd2:((e.set d2<|.pointer<|some ⟨b,m,none⟩).ev (.tmp d2))= .pointer (some ⟨b,m,none⟩):=Env.set_same _ _ _;refine (Amg (n:=m) (el:=er) (g:=b) htl (by grind) (hd1 _) HR1.isOne) v _ h21 (by simpa using hm) λh' hS hU=>?_;have h22:=hS v _ h21 (by simpa using hm);have hnd1:∀ x∈F,Ax2 h1 x:=λx hx=>(hnd x hx).of U1;have U2:UpT [b] h1 h':=Awg hU Ah6 (λx hx _=>hnd1 x<|by grind)<|h22.notD h3;have UF:UpT F h0 h':=(U1.mono hGF λx hx _=>hnd x hx).then U2 λx hx=> .inl (by grind)
 have hbF1:b ∉ F1:=λhm'=>by
  grind
 have hsub:∀ x∈b :: (Gs.set m F1).flatten,x∈F∨h0.size<=x:=by
  intro z hz
  rcases List.mem_cons.1 hz with rfl | hz
  ·grind
  ·rcases Atd hz with h7 | ⟨j,G2,_,hG2,hz⟩
   ·grind
   ·exact .inl (by rw [hFb];exact List.mem_cons_of_mem _<|Alg hG2 hz)
 have hn2:=hn;rw [hFb] at hn2;have hnf:=List.nodup_cons.1 hn2
 refine H _ (b :: (Gs.set m F1).flatten) (Gs.set m F1) (rs.set m v1) h' (.inr ⟨b,rfl,?_,by simp_all,h3,by simp [sI,h4],by simp [sI,h5],λi' G2 r2 L2 hGi hri hLi=>?_⟩) UF hsub
 ·refine List.nodup_cons.2 ⟨λhz=>?_,Awi hnf.2 HR1.nodup λz hz j G2 hj hG2 hzG=>?_⟩
  ·rcases Atd hz with h7 | ⟨j,G2,_,hG2,hz⟩
   ·exact hbF1 h7
   ·exact hnf.1<|Alg hG2 hz
  ·rcases hF1 z hz with h7 | h7
   ·exact BBa hnf.2 hG hG2 (λhe=>hj he.symm) z h7 hzG
   ·have:=hlt z (by rw [hFb];exact List.mem_cons_of_mem _<|Alg hG2 hzG);omega
 ·by_cases hii:i'=m
  ·subst hii;rw [List.getElem?_set_self AOq] at hGi hri;simp only [sI,Int.toNat_natCast] at hLi;rw [List.getElem?_set_self AOq] at hLi;injection hGi with hGi;injection hri with hri;injection hLi with hLi;subst hGi;subst hri;subst hLi;exact HR1.upT U2 λz hz hzb=>hbF1<|List.mem_singleton.1 hzb ▸ hz
  ·rw [List.getElem?_set_ne λhe=>hii he.symm] at hGi hri;simp only [sI,Int.toNat_natCast] at hLi;rw [List.getElem?_set_ne λhe=>hii he.symm] at hLi
   exact ((h6 i' G2 r2 L2 hGi hri hLi).upT U1 λz hz hzG=>BBa hnf.2 hGi hG hii z hz hzG).upT U2 λz hz hzb=>by
    rw [List.mem_singleton.1 hzb] at hz;exact hnf.1<|Alg hGi hz
theorem BGq {c:Cod α} {i:Operand} {z r:Value} {n:Int} {M:List (List α)} {L:List α} {a:α} {cs:List Value} (hT:SlT P t el c.k) (hz:ZeT P el z bytes) (hzk:z.cells.size=c.k) (hel:Nat.beq el 200=false) (hTr:SlT P tr er0 1) (htl:NaT P tl)
 (HO:Aj1 c er el h F Gs rs v M) (hr:rs[n.toNat]? =some r) (hL:gI M n=some L) (hG:Gs[n.toNat]? =some G) (hb0:B h) (hbB:∀ h',UpT G h h'->B h') (hs:∀ p,(e.set d p).ev s=r) (hy:e.ev y=c.val cs) (hrep:c.rep h a cs) (hx:∀ p w,((e.set d p).set d' w).ev x=v) (hi:∀ p w,((e.set d p).set d' w).ev i= .int κ n) (hdd:Nat.beq d' d2=false) (hby:bytes<=1000) (hl:L.length<=100000000)
 (H:∀ p q F' Gs' rs' v' h',Aj1 c er el h' F' Gs' rs' v (sI M n<|L ++ [a])->UpT F h h'->(∀ x∈F',x∈F∨h.size<=x)->RL P B st ops rest (((e.set d p).set d' v').set d2 q) h' K):
 RL P B st ops (⟨some d,.buildSlice t 1 #[(0,y)],ty,pos,af,none⟩ :: ⟨some d',.call ⟨.builtin .append,#[s,.tmp d],#[t,t]⟩,ty',pos',af',none⟩ :: ⟨some d2,.indexAddr tr x i,ty2,pos2,af2,none⟩ :: ⟨none,.store tl (.tmp d2)<|.tmp d',ty3,pos3,af3,none⟩ :: rest) e h K:=by
 obtain ⟨m,rfl,hL0⟩:=Aom hL;rw [Int.toNat_natCast] at hr hG;obtain ⟨G',hG',HR,hGF⟩:=HO.row hr hL0;rw [hG] at hG';injection hG' with hG';subst hG';refine Ar6 hT hz hzk hel hb0 hbB hs hy hrep HR hby hl λp F1 v1 h1 HR1 U1 hF1=>?_
 exact BGp hTr htl HO hL0 hG HR1 U1 hF1 (hx p v1) (hi p v1) (λw=>by
  show (bif Nat.beq d' d2 then _ else (bif Nat.beq d' d' then _ else _))=_;rw [hdd,Nat.beq_eq.mpr rfl];rfl) λq F' Gs' rs' h' H1 H2 H3=>H p q F' Gs' rs' v1 h' H1 H2 H3
theorem Avr {c:Cod α} {x1 x2 y1 y2 i1 i2:Operand} {r1 r2:Value} {κ1 κ2:IntKind} {n1 n2:Int} {M:List (List α)} {L1 L2:List α} (hTr:SlT P tr er0 1) (htl:NaT P tl) (HO:Aj1 c er el h F Gs rs v M) (hr1:rs[n1.toNat]? =some r1) (hr2:rs[n2.toNat]? =some r2) (hL1:gI M n1=some L1) (hL2:gI M n2=some L2)
 (hx1:e.ev x1=v) (hi1:e.ev i1= .int κ1 n1) (hy1:∀ p,(e.set d p).ev y1=r2) (hx2:∀ p,(e.set d p).ev x2=v) (hi2:∀ p,(e.set d p).ev i2= .int κ2 n2) (hy2:∀ p q,((e.set d p).set d' q).ev y2=r1)
 (H:∀ p q F' Gs' rs' h',Aj1 c er el h' F' Gs' rs' v (sI (sI M n1 L2) n2 L1)->UpT F h h'->(∀ x∈F',x∈F∨h.size<=x)->RL P B st ops rest ((e.set d p).set d' q) h' K):
 RL P B st ops (⟨some d,.indexAddr tr x1 i1,ty,pos,af,none⟩ :: ⟨none,.store tl (.tmp d) y1,ty',pos',af',none⟩ :: ⟨some d',.indexAddr tr x2 i2,ty2,pos2,af2,none⟩ :: ⟨none,.store tl (.tmp d') y2,ty3,pos3,af3,none⟩ :: rest) e h K:=by
 obtain ⟨m1,rfl,hM1⟩:=Aom hL1;obtain ⟨m2,rfl,hM2⟩:=Aom hL2;rw [Int.toNat_natCast] at hr1 hr2;have hnd:=HO.notD;have hlt:=HO.lt;have hn:=HO.nodup;have hm1:=(List.getElem?_eq_some_iff.1 hM1).1;have hm2:=(List.getElem?_eq_some_iff.1 hM2).1;obtain ⟨G1,hG1,HR1,hGF1⟩:=HO.row hr1 hM1;obtain ⟨G2,hG2,HR2,hGF2⟩:=HO.row hr2 hM2
 rcases HO with ⟨rfl,_⟩ | ⟨b,hF,_,h2,h3,h4,h5,h6⟩
 ·simp at hM1
 rw [hF] at hn;have hnf:=List.nodup_cons.1 hn;refine A4c (er:=er) (n:=m1) hTr hx1 h2 hi1 (by grind) ?_;rw [Nat.mul_one];refine (Amg (n:=m1) (el:=er) (g:=b) htl (by rw [Nat.mul_one];exact Env.set_same _ _ _) (hy1 _) HR2.isOne) v _ h2 (by grind) λh1 hS1 hU1=>?_;have h21:=hS1 v _ h2 (by grind);refine A4c (er:=er) (n:=m2) hTr (hx2 _) h21 (hi2 _) (by grind) ?_;rw [Nat.mul_one];refine (Amg (n:=m2) (el:=er) (g:=b) htl (by rw [Nat.mul_one];exact Env.set_same _ _ _) (hy2 _ _) HR1.isOne) v _ h21 (by grind) λh' hS2 hU2=>?_;have h22:=hS2 v _ h21 (by grind);have N1:UpT [b] h h1:=Awg hU1 Ah6 (λx hx _=>hnd x<|by grind)<|h21.notD h3;have N2:UpT [b] h1 h':=Awg hU2 Ah6 (λx hx hl=>((hnd x<|by grind)).of N1)<|h22.notD h3;have N:UpT [b] h h':=N1.then N2 λx hx=> .inl hx;have UF:UpT F h h':=N.mono (λx hx=>by grind) λx hx _=>hnd x hx;have gG:=λk=>A7c (L:=Gs) hG1 hG2 k;have gR:=λk=>A7c (L:=rs) hr1 hr2 k;have gM:=λk=>A7c (L:=M) hM1 hM2 k
 have hsub:∀ x∈b :: ((Gs.set m1 G2).set m2 G1).flatten,x∈F:=by
  intro z hz;rw [hF]
  rcases List.mem_cons.1 hz with rfl | hz
  ·simp
  ·obtain ⟨G,hG,hzG⟩:=List.mem_flatten.1 hz;obtain ⟨k,hk⟩:=List.getElem?_of_mem hG;rw [gG] at hk;exact List.mem_cons_of_mem _<|Alg hk hzG
 refine H _ _ (b :: ((Gs.set m1 G2).set m2 G1).flatten) ((Gs.set m1 G2).set m2 G1) ((rs.set m1 r2).set m2 r1) h' (.inr ⟨b,rfl,?_,?_,h3,by simp [sI,h4],by simp [sI,h5],λk G r L hG hr hL=>?_⟩) UF λx hx=> .inl<|hsub x hx
 ·refine List.nodup_cons.2 ⟨λhz=>?_,BBg (λk G hk=>?_) λk l G G' hkl hk hl x hx hx'=>?_⟩
  ·obtain ⟨G,hG,hzG⟩:=List.mem_flatten.1 hz;obtain ⟨k,hk⟩:=List.getElem?_of_mem hG;rw [gG] at hk;exact hnf.1<|Alg hk hzG
  ·grind
  ·rw [gG] at hk hl;exact BBa hnf.2 hk hl (λhe=>hkl<|BMb he) x hx hx'
 ·simp_all
 ·simp only [sI,Int.toNat_natCast] at hL;rw [gG] at hG;rw [gR] at hr;rw [gM] at hL
  exact (h6 _ G r L hG hr hL).upT N λx hx hxb=>by
   rw [List.mem_singleton.1 hxb] at hx;exact hnf.1<|Alg hG hx
end
theorem Azq {a:Nat} {A B:List Nat} (h1:a ∉ A) (h2:a ∉ B):a ∉ A ++ B:=λh=>by
 grind
theorem Azr {a:Nat}:a ∉ ([]:List Nat):=by simp
theorem Aj1.gmem {c:Cod α} {M:List (List α)} (H:Aj1 c er el h F Gs rs v M) {g:Nat} (hG:Gs[i]? =some [g]):g∈F:=by
 rcases H with ⟨rfl,_,_,rfl,_⟩ | ⟨b,rfl,_⟩
 ·simp at hG
 ·exact List.mem_cons_of_mem _<|Alg hG Ah6
theorem SlC.shape {c:Cod α} {L:List α} (H:SlC c h v L):∃ a n cap,v= .slice a n cap:=by
 obtain ⟨Ls,⟨a,cap,rfl,_⟩,_⟩:=H;grind
theorem Ajw.shape {c:Cod α} {L:List (List α)} (H:Ajw c h v L):∃ a n cap,v= .slice a n cap:=by
 obtain ⟨_,Ls,⟨a,cap,rfl,_⟩,_⟩:=H;grind
def Alj:Nat:=4294967296 ^ 99
end Go.QF
namespace Go.Proofs.YtkakafabeobahaaGreatDoor
open Go Go.QF
section
variable {P:Program} {Q:Exit->Env->AO2->Prop} {K:Env->AO2->Prop} {e:Env} {h:AO2} {B:AO2->Prop} {st:Bool} {ops:Array Oper} {rest:List Oper} {d:Nat} {ty:TypeId} {pos:String} {af:Array Edge}
theorem cwf {fn:Func} {c:Code} {rs:List ResultVar} {l:List Value} {K:Value->AO2->Prop} (hf:Tryz.prog.funcs[f]? =some fn) (hb:fn.body=some c) (hr:fn.results=rs.toArray) (H:W Tryz.prog c (BO3 Tryz.prog rs K) (BAu l) h) (hn:(fn.name == "runtime.NumGoroutine")=false:=by rfl) (hl:Nat.ble l.length fn.ntmps=true:=by rfl) (hok:okC fn.ntmps c=true:=by kernel_rfl):Ahs Tryz.prog f l.toArray h K:=Aie mx hf hn hb hr rfl hl hok H
theorem Ah2 {f off ft b o:Nat} (hf:FdT P t f off ft) (hx:e.ev x= .pointer (some ⟨b,o,none⟩)) (H:RL P B st ops rest (e.set d<|.pointer<|some ⟨b,o + off,none⟩) h K) (hs:(P.info? ft).map (·.size)=some 1:=by kernel_rfl):RL P B st ops (⟨some d,.fieldAddr t x f,ty,pos,af,none⟩ :: rest) e h K:=Anh hf hs AOs hx H
theorem Ahn {t:TypeId} {b:Int} (hx:e.ev x= .int k a) (hy:e.ev y= .int k b) (H:RL P B st ops rest (e.set d<|.bool<|decide (a < b)) h K):RL P B st ops (⟨some d,.binOp .lss t x y t2,ty,pos,af,none⟩ :: rest) e h K:=A6q hx hy (BL5 _ _) H
theorem A3r {t:TypeId} {b:Int} (hx:e.ev x= .int k a) (hy:e.ev y= .int k b) (H:RL P B st ops rest (e.set d<|.bool<|decide (a<=b)) h K):RL P B st ops (⟨some d,.binOp .leq t x y t2,ty,pos,af,none⟩ :: rest) e h K:=A6q hx hy (BL6 _ _) H
theorem Anj {t:TypeId} {b:Int} (hx:e.ev x= .int k a) (hy:e.ev y= .int k b) (H:RL P B st ops rest (e.set d<|.bool<|decide (b < a)) h K):RL P B st ops (⟨some d,.binOp .gtr t x y t2,ty,pos,af,none⟩ :: rest) e h K:=A6q hx hy (BL7 _ _) H
theorem At7 {t:TypeId} {b:Int} (hx:e.ev x= .int k a) (hy:e.ev y= .int k b) (H:RL P B st ops rest (e.set d<|.bool<|decide (b<=a)) h K):RL P B st ops (⟨some d,.binOp .geq t x y t2,ty,pos,af,none⟩ :: rest) e h K:=A6q hx hy (BL8 _ _) H
theorem Ai0 {t:TypeId} {b:Int} (hx:e.ev x= .int k a) (hy:e.ev y= .int k b) (H:RL P B st ops rest (e.set d<|.bool<|decide (a=b)) h K):RL P B st ops (⟨some d,.binOp .eql t x y t2,ty,pos,af,none⟩ :: rest) e h K:=A6q hx hy (BL9 _ _) H
theorem Ajs {t:TypeId} {b:Int} (hx:e.ev x= .int k a) (hy:e.ev y= .int k b) (H:RL P B st ops rest (e.set d<|.bool<|decide (¬ a=b)) h K):RL P B st ops (⟨some d,.binOp .neq t x y t2,ty,pos,af,none⟩ :: rest) e h K:=A6q hx hy (BMa _ _) H
theorem Aqs {l:List Value} {K':Value->AO2->Prop} (hxs:xs.map e.ev=l) (HC:Ahs P f l.toArray h λx h'=>Ext h h'/\K' x h')
 (H:∀ v h',Ext h h'->K' v h'->RL P (λ_=>True) st ops rest (e.set d v) h' K):RL P (λ_=>True) st ops (⟨some d,.call ⟨.value<|.func f,xs.toArray,ts⟩,ty,pos,af,none⟩ :: rest) e h K:=Aj3 trivial (λ_ _=>trivial) hxs HC H
end
end Go.Proofs.YtkakafabeobahaaGreatDoor
namespace Go.QF
open Go
def A0z (op:BinOp) (k:IntKind) (a b:Int):Int:=match op with
 | .and=>k.wrap ((BitVec.ofInt k.bits a &&& BitVec.ofInt k.bits b).toNat:Int)
 | .or=>k.wrap ((BitVec.ofInt k.bits a ||| BitVec.ofInt k.bits b).toNat:Int)
 | .xor=>k.wrap ((BitVec.ofInt k.bits a ^^^ BitVec.ofInt k.bits b).toNat:Int)
 | .andNot=>k.wrap ((BitVec.ofInt k.bits a &&& ~~~BitVec.ofInt k.bits b).toNat:Int)
 | _=>0
theorem BI9 (op:BinOp) (k:IntKind) (a b:Int) (hop:op= .and∨op= .or∨op= .xor∨op= .andNot) (w:World):(Op.intBits op k a b).run P w= .ok (.int k<|A0z op k a b) w:=by
 rcases hop with rfl | rfl | rfl | rfl <;> rfl
section
variable {P:Program} {B:AO2->Prop} {st:Bool} {ops:Array Oper} {rest:List Oper} {e:Env} {h:AO2} {K:Env->AO2->Prop}
variable {d d':Nat} {ty ty':TypeId} {pos pos':String} {af af':Array Edge}
theorem A00 {t:TypeId} {k':IntKind} {n:Int} (hx:e.ev x= .int k a) (hy:e.ev y= .int k' n) (hn:0<=n/\n<=k.bits) (H:RL P B st ops rest (e.set d<|.int k<|k.wrap<|a * 2 ^ n.toNat) h K):
 RL P B st ops (⟨some d,.binOp .shl t x y t2,ty,pos,af,none⟩ :: rest) e h K:=by
 obtain ⟨m,rfl⟩:∃ m:Nat,n=m:=⟨n.toNat,AOq⟩;rw [Int.toNat_natCast] at H;exact A8m hx hy AOq H
theorem A3s {op:BinOp} {t:TypeId} {b:Int} (hx:e.ev x= .int k a) (hy:e.ev y= .int k b) (hop:op= .and∨op= .or∨op= .xor∨op= .andNot) (H:RL P B st ops rest (e.set d<|.int k<|A0z op k a b) h K):
 RL P B st ops (⟨some d,.binOp op t x y t2,ty,pos,af,none⟩ :: rest) e h K:=A14 hx hy hop (BI9 op k a b hop) H
theorem Azs {c:Cod α} {g:Nat} {u:Value} {L:List α} {n:Int} {a a':α} (ht:NaT P t) (hx:e.ev x= .pointer (some ⟨g,n.toNat * c.k + j,none⟩)) (hy:e.ev y=u) (h1:isOne u=true) (hj:j < c.k) (HO:OwC c el h F v L) (hF:F=[g]) (ha:gI L n=some a) (hrep:∀ cs,c.rep h a cs->c.rep h a' (cs.set j u))
 (H:∀ h',OwC c el h' F v (sI L n a')->UpT F h h'->RL P B st ops rest e h' K):RL P B st ops (⟨none,.store t x y,ty,pos,af,none⟩ :: rest) e h K:=by
 have hnd:=HO.notD;obtain ⟨m,rfl,ham⟩:=Aom ha;rw [Int.toNat_natCast] at hx
 rcases HO with ⟨rfl,_⟩ | ⟨g',Ls,hF',h2,h3,h4⟩
 ·simp at ham
 rw [hF] at hF';injection hF' with hg;subst hg;obtain ⟨cs,hcs,hr⟩:=h3.get ham;have hm:=(List.getElem?_eq_some_iff.1 hcs).1;obtain ⟨x0,hx0⟩:∃ x0,cs[j]? =some x0:=⟨cs[j]'(by rw [c.klen hr];exact hj),List.getElem?_eq_getElem _⟩;refine BLk ht hx hy h1 (h2.cell hcs hx0) (h2.free _) ?_;have h2':=h2.set u hcs hj;have U:UpT F h (A24 h ⟨g,m * c.k + j,none⟩ u):=Awg (Aw9 _ _ _) (by simp [hF]) (λb hb _=>hnd b hb)<|h2'.notD h4;refine H _ (.inr ⟨g,_,hF,h2',?_,h4⟩) U;rw [sI,Int.toNat_natCast];exact (h3.set m<|hrep cs hr).upT U
theorem BBh {c:Cod α} {z xv:Value} {L:List α} (hT:SlT P t el c.k) (hz:ZeT P el z bytes) (hzk:z.cells.size=c.k) (hel:Nat.beq el 200=false) (hb:B h) (hBE:∀ h',Ext h h'->B h') (hs:e.ev s= .slice none 0 0) (hx:e.ev x=xv) (HX:SlC c h xv L) (hby:bytes<=1000) (hl:L.length<=100000000)
 (H:∀ F v' h',OwC c el h' F v' L->Ext h h'->Sp h' h.size [F]->RL P B st ops rest (e.set d v') h' K):
 RL P B st ops (⟨some d,.call ⟨.builtin .append,#[s,x],#[t,t]⟩,ty,pos,af,none⟩ :: rest) e h K:=by
 obtain ⟨Ls,⟨xa,xc,rfl,hxc⟩,HA⟩:=HX;refine Awu rfl rfl hb λw hw=>?_;subst hw;obtain ⟨hu,i0,hi0,hs0⟩:=hT;obtain ⟨i,hi,hzz,hsz,hbyy⟩:=hz;rw [hi] at hi0;injection hi0 with hi0;subst hi0
 by_cases hL:Ls=[]
 ·subst hL;have hLn:L=[]:=by have:=HA.1;exact List.eq_nil_of_length_eq_zero this.symm
  subst hLn
  have hrun:(execOp e.ev ⟨some d,.call ⟨.builtin .append,#[s,x],#[t,t]⟩,ty,pos,af,none⟩).run P w= .ok (.value<|.slice none 0 0) w:=by
   have hc:(Builtin.firstCells i.size 0<|.slice xa 0 xc).run P w= .ok #[] w:=by
    cases xa with
    | none=>exact run_firstCells_none (P:=P) w _ 0 0 xc
    | some a=>exact run_firstCells_some (P:=P) w i.size 0 a 0 xc [] Ah6 (λj v hj=>by simp at hj)
   simp only [List.length_nil] at hx;simp [execOp,resolve,invoke,builtin,hs,hx,Builtin.append_,Au1 hu,Awt hi,Builtin.lenOf,hc]
  rw [hrun];exact ⟨⟨rfl,rfl,rfl⟩,hb,H [] _ _ (BEm c el _) (Ext.refl _) ⟨Ah6,λb hb=>by simp at hb⟩⟩
 ·have hlen:0 < Ls.length:=List.length_pos_iff.2 hL
  have hk:∀ r∈Ls,r.length=c.k:=λr hr=>by
   obtain ⟨q,hq⟩:=List.getElem?_of_mem hr;have hql:=(List.getElem?_eq_some_iff.1 hq).1;exact c.klen<|HA.2 q r (L[q]'(by rw [<- HA.1];exact hql)) hq<|List.getElem?_eq_getElem _
  obtain ⟨r0,hr0⟩:∃ r0,Ls[0]? =some r0:=⟨Ls[0],List.getElem?_eq_getElem _⟩;obtain ⟨b,o,rfl,_⟩:=hxc 0 r0 hr0
  have hnews:∀ q u,Ls.flatten[q]? =some u->w.cell? ((⟨b,o,none⟩:Addr).add q)=some u:=λq u hq=>by
   have hqk:q / c.k < Ls.length:=by
    have hq':=(List.getElem?_eq_some_iff.1 hq).1;rw [Awb hk] at hq';exact Nat.div_lt_of_lt_mul (by rw [Nat.mul_comm];exact hq')
   obtain ⟨row,hrow⟩:∃ row,Ls[q / c.k]? =some row:=⟨Ls[q / c.k],List.getElem?_eq_getElem hqk⟩;have hrl:=hk row<|List.mem_of_getElem? hrow;have hmod:=Nat.mod_lt q c.pos;have hg:=A13 hk hrow (j:=q % c.k) (x:=row[q % c.k]'AOq)<|List.getElem?_eq_getElem _;have e1:q / c.k * c.k + q % c.k=q:=by rw [Nat.mul_comm];exact Nat.div_add_mod q c.k
   rw [e1,hq] at hg;injection hg with hg;obtain ⟨b',o',hbo,hcell⟩:=hxc (q / c.k) row hrow;injection hbo with hbo;injection hbo with hb1 hb2;subst hb1;subst hb2;have:=hcell (q % c.k) u (by rw [hg];exact List.getElem?_eq_getElem _);rw [Anl,A35];rw [Nat.add_assoc,e1] at this;exact this
  have hmul:Ls.length * bytes<=100000000 * 1000:=Nat.mul_le_mul (by rw [HA.1];exact hl) hby;have hr:=run_append_nil (P:=P) w t ty el i z hu hi hzz ⟨b,o,none⟩ Ls.length xc Ls.flatten (by rw [Awb hk,hs0]) hnews hlen (by rw [HA.1];omega) (by rw [hbyy];omega)
  have hrun:(execOp e.ev ⟨some d,.call ⟨.builtin .append,#[s,x],#[t,t]⟩,ty,pos,af,none⟩).run P w= .ok (.value<|.slice (some ⟨w.heap.size,0,none⟩) Ls.length<|grownCap w Ls.length 0 el) (w.drew.alloc<|.cells (Ls.flatten.toArray ++ Builtin.zeroCells z.cells (grownCap w Ls.length 0 el - Ls.length)) el):=by
   simp [execOp,resolve,invoke,builtin,hs,hx,hr]
  rw [hrun];have hge:=grownCap_ge w Ls.length 0 el;have hcm':grownCap w Ls.length 0 el<=maxLen:=grownCap_le_maxLen w _ _ el (by unfold maxLen;rw [HA.1];omega);have E:Ext w.heap (w.drew.alloc<|.cells (Ls.flatten.toArray ++ Builtin.zeroCells z.cells (grownCap w Ls.length 0 el - Ls.length)) el).heap:=⟨Ah6,λk hk=>heap_alloc_old w.drew _ k hk⟩
  refine ⟨⟨rfl,rfl,rfl⟩,hBE _ E,H [w.heap.size] _ _ (.inr ⟨w.heap.size,Ls,rfl,⟨_,_,rfl,heap_alloc_new w.drew _,hge,hcm',?_,hk,?_⟩,HA.upT E.upT,hel⟩) E<|Anw (Nat.le_refl _) Ah6⟩
  ·rw [Array.size_append,size_zeroCells,hzk,List.size_toArray,Awb hk,Nat.sub_mul];have:=Nat.mul_le_mul_right c.k hge;omega
  ·simp only [Array.toList_append];rw [<- Awb hk];exact List.take_left
end
end Go.QF
namespace Go.QF
open Go
theorem A7d {e:Env} {t u q:Tmp} {ty s b:Nat} {l:List Value} (ht:AgT P ty s) (hl:l.length=s) (he:e t= .pointer (some ⟨b,0,none⟩)) (HB:Akd tb h b l):A9f P [.tmp u,.cell t ty,.tmp q] e h (.tuple #[e u,.agg l.toArray,e q]):=
 λfn tmps w hr hg hw=>by
  have h1:tmps[t]?.getD undef= .pointer (some ⟨b,0,none⟩):=by simp_all
  have h2:=Awd ht hl w (a:=⟨b,0,none⟩) (by rw [hw];exact HB.agg)
  rw [<- hg u,<- hg q]
  simp only [results,hr]
  simp [h1,asAddr,h2]
theorem BBi (h:isOne v=true):v.cells=[v].toArray:=by cases v <;> first | rfl | cases h
section
variable {P:Program} {B:AO2->Prop} {st:Bool} {ops:Array Oper} {rest:List Oper} {e:Env} {h:AO2} {K:Env->AO2->Prop} {d:Nat} {ty:TypeId} {pos:String} {af:Array Edge}
theorem BPh {z:Value} {cs:List Value} (hT:SlT P t el 2) (hz:ZeT P el z bytes) (hel:Nat.beq el 200=false) (hb:B h) (hBE:∀ h',Ext h h'->B h') (hr:cZ.rep h a cs) (hy:e.ev y= .agg cs.toArray) (H:∀ b v h',OwC cZ el h' [b] v [a]->Ext h h'->h.size<=b->b < h'.size->RL P B st ops rest (e.set d v) h' K):RL P B st ops (⟨some d,.buildSlice t 1 #[(0,y)],ty,pos,af,none⟩ :: rest) e h K:=by
 have hl:=cZ.klen hr;have E:Ext h (h.push<|.cells cs.toArray el (0,0)):=Ale _ _;refine BRl cs hT hz hb hy hl AOs AOs ⟨hBE _ E,H h.size _ _ (.inr ⟨h.size,[cs],rfl,⟨1,cs.toArray,rfl,Ah6,Ah6,AOs,by simp [hl],λr hr=>by rw [List.mem_singleton.1 hr];exact hl,?_⟩,⟨rfl,λi cs' a' h1 h2=>?_⟩,hel⟩) E (Nat.le_refl _) Ah6⟩
 ·have h2:cs.length=cZ.k:=hl;simp [<- h2]
 ·cases i with
  | zero=>simp at h1 h2;subst h1;subst h2;exact cZ.upT hr E.upT
  | succ i=>simp at h1
theorem A9w {n:Nat} {z:Value} (L:List Int) (hT:SlT P t el 1) (hz:ZeT P el z bytes) (h1:isOne z=true) (hel:Nat.beq el 200=false) (hb:B h) (hBE:∀ h',Ext h h'->B h') (hn:L.length=n) (Ab:Nat.ble n 16777216=true) (hpos:Nat.ble 1 n=true) (hp:(parts.map λ(i,x)=>(i,e.ev x))=partsOf 0 (L.map<|.int κ)) (H:∀ b v h',OwC (cI κ) el h' [b] v L->Ext h h'->h.size<=b->b < h'.size->RL P B st ops rest (e.set d v) h' K):RL P B st ops (⟨some d,.buildSlice t n parts.toArray,ty,pos,af,none⟩ :: rest) e h K:=by
 have Ab:=Nat.le_of_ble_eq_true Ab;have E:Ext h (h.push<|.cells (L.map<|Value.int κ).toArray el (0,0)):=Ale _ _;refine BLl (L.map<|.int κ) hT hz h1 hb (by rw [List.length_map];exact hn) Ab (Nat.le_of_ble_eq_true hpos) hp (λu hu=>?_) ⟨hBE _ E,H h.size _ _ (.inr ⟨h.size,L.map λa=>[.int κ a],rfl,⟨n,(L.map<|Value.int κ).toArray,by rw [List.length_map,hn],Ah6,by simp [hn],by unfold maxLen;omega,by show _=n * 1;simp [hn],λr hr=>?_,?_⟩,⟨Ah6,λi cs a h1 h2=>?_⟩,hel⟩) E (Nat.le_refl _) Ah6⟩
 ·obtain ⟨a,_,rfl⟩:=List.mem_map.1 hu;rfl
 ·obtain ⟨a,_,rfl⟩:=List.mem_map.1 hr;rfl
 ·have:(L.map λa=>[Value.int κ a]).flatten=L.map (Value.int κ):=by
   clear H E hp hn Ab
   induction L with
   | nil=>rfl
   | cons a L ih=>simp [ih]
  rw [this,List.take_of_length_le (by show _<=_ * 1;simp)]
 ·rw [List.getElem?_map,h2] at h1;injection h1 with h1;exact h1.symm
theorem BJa {c:Cod α} {r xv:Value} {M:List (List α)} {m:Int} {L L':List α} (hT:SlT P t el c.k) (hB:B h) (hs:e.ev s=r) (hx:e.ev x=xv) (HO:Aj1 c er el h F Gs rs v M) (hr:rs[m.toNat]? =some r) (hL:gI M m=some L) (HX:SlC c h xv L') (hn0:L'.length=L.length/\0 < L.length)
 (H:∀ h',Aj1 c er el h' F Gs rs v (sI M m L')->UpT F h h'->B h'/\RL P B st ops rest (e.set d<|.int .i64<|.ofNat L.length) h' K):RL P B st ops (⟨some d,.call ⟨.builtin .copy,#[s,x],#[t,t]⟩,ty,pos,af,none⟩ :: rest) e h K:=by
 obtain ⟨hlen,hpos⟩:=hn0;obtain ⟨i,rfl,hm0⟩:=Aom hL;clear hL;have hL:=hm0;rw [Int.toNat_natCast] at hr;have hnd:=HO.notD;obtain ⟨G,hG,HR,hGF⟩:=HO.row hr hL
 rcases HO with ⟨rfl,_⟩ | ⟨b',hF',hn,h2,h3,h4,h5,h6⟩
 ·simp at hL
 rcases HR with ⟨rfl,_,_⟩ | ⟨g,Ls,rfl,hk2,hk3,hk4⟩
 ·simp at hpos
 obtain ⟨Ls',⟨xa,xc,hxv,hxc⟩,HA⟩:=HX;have hLs':Ls'.length=L.length:=HA.1.trans hlen;have hLs:Ls.length=L.length:=hk3.1
 have hk:∀ q∈Ls',q.length=c.k:=λq hq=>by
  obtain ⟨j,hj⟩:=List.getElem?_of_mem hq;have hjl:=(List.getElem?_eq_some_iff.1 hj).1;exact c.klen<|HA.2 j q (L'[j]'AOq) hj<|List.getElem?_eq_getElem _
 have hone:∀ u∈Ls'.flatten,u.oneCell'=true:=λu hu=>by
  obtain ⟨q,hq,huq⟩:=List.mem_flatten.1 hu;obtain ⟨j,hj⟩:=List.getElem?_of_mem hq;have hjl:=(List.getElem?_eq_some_iff.1 hj).1;have:=c.one (HA.2 j q (L'[j]'AOq) hj<|List.getElem?_eq_getElem _) u huq;cases u <;> first | rfl | cases this
 obtain ⟨r0,hr0⟩:∃ r0,Ls'[0]? =some r0:=⟨Ls'[0]'AOq,List.getElem?_eq_getElem _⟩;obtain ⟨b,o,rfl,_⟩:=hxc 0 r0 hr0;obtain ⟨hu,i0,hi0,hs0⟩:=hT;have hk2':=hk2;obtain ⟨cap,cur,hv,hg,hl,hm,hsz,hkk,ht⟩:=hk2;have hfl:Ls'.flatten.length=Ls'.length * c.k:=Awb hk;have hcu:Ls'.flatten.length<=cur.size:=by rw [hfl,hsz,hLs',<- hLs];exact Nat.mul_le_mul_right _ hl
 refine BPf (u:= .int .i64<|.ofNat L.length) hB λw hw=>?_;subst hw
 have hnews:∀ q u,Ls'.flatten[q]? =some u->w.cell? ((⟨b,o,none⟩:Addr).add q)=some u:=λq u hq=>by
  have hqk:q / c.k < Ls'.length:=by
   have hq':=(List.getElem?_eq_some_iff.1 hq).1;rw [hfl] at hq';exact Nat.div_lt_of_lt_mul (by grind)
  obtain ⟨row,hrow⟩:∃ row,Ls'[q / c.k]? =some row:=⟨Ls'[q / c.k],List.getElem?_eq_getElem hqk⟩;have hrl:=hk row<|List.mem_of_getElem? hrow;have hmod:=Nat.mod_lt q c.pos;have hg:=A13 hk hrow (j:=q % c.k) (x:=row[q % c.k]'AOq)<|List.getElem?_eq_getElem _;have e1:q / c.k * c.k + q % c.k=q:=by rw [Nat.mul_comm];exact Nat.div_add_mod q c.k
  rw [e1,hq] at hg;injection hg with hg;obtain ⟨b',o',hbo,hcell⟩:=hxc (q / c.k) row hrow;injection hbo with hbo;injection hbo with hb1 hb2;subst hb1;subst hb2;have:=hcell (q % c.k) u (by grind);rw [Anl,A35];rw [Nat.add_assoc,e1] at this;exact this
 obtain ⟨cs',q2,q3,q4,q5⟩:=A8c g Ls'.flatten 0 w cur el (0,0) hg AOq
 have hst:(storeCells ⟨g,0,none⟩ Ls'.flatten).run P w= .ok () (w.setCells g 0 Ls'.flatten):=by
  have:=run_storeCells_cells (P:=P) g 0 Ls'.flatten 0 w (λj hj=>?_) (λj hj=>?_) hone
  ·simpa using this
  ·have:j < cur.size:=by omega
   simp [World.cell?,hg,this]
  ·simp [World.frozen?,hg]
 have hcs:cs'.size=cur.size:=by
  have:=congrArg List.length q3;rw [BI7] at this;simpa using this
 have hown:Aqw (w.setCells g 0 Ls'.flatten).heap el c.k g r Ls':=by
  refine ⟨cap,cs',by grind,q2,AOq,hm,by rw [hcs,hsz],hk,?_⟩;rw [q3];apply List.ext_getElem?;intro q;rw [List.getElem?_take,Ayn];grind
 have U:UpT F w.heap (w.setCells g 0 Ls'.flatten).heap:=Awg q4 (hGF g Ah6) (λb hb _=>hnd b hb)<|hown.notD hk4
 have hbg:b'≠g:=λhe=>by
  rw [hF'] at hn;exact (List.nodup_cons.1 hn).1 (he ▸ Alg hG Ah6)
 have H':=H _ (.inr ⟨b',hF',hn,h2.upd q4 hbg,h3,by simp [sI,h4],by simp [sI,h5],λi' G' r' L2 hGi hri hLi=>?_⟩) U
 ·refine ⟨_,?_,q5,H'.1,H'.2⟩;have hfc:=run_firstCells_some (P:=P) w i0.size L.length ⟨b,o,none⟩ Ls'.length xc Ls'.flatten (by grind) hnews;have hmin:Nat.min Ls'.length Ls.length=L.length:=by grind
  have hmin2:min Ls'.length Ls.length=L.length:=hmin;have hmin3:min Ls.length Ls'.length=L.length:=by omega
  rw [hs,hx,hv,hxv];simp [Builtin.copy_,Au1 hu,Awt hi0,Builtin.lenOf,hmin,hmin2,hmin3,hfc,hst,goInt]
 ·by_cases hii:i'=i
  ·subst hii;rw [hG] at hGi;injection hGi with hGi;subst hGi;rw [hr] at hri;injection hri with hri;subst hri
   have:L2=L':=by
    simp only [sI,Int.toNat_natCast] at hLi;grind
   subst this;exact .inr ⟨g,_,rfl,hown,Al.upT HA U,hk4⟩
  ·have hLi':M[i']? =some L2:=by
    simp only [sI,Int.toNat_natCast] at hLi;grind
   have U1:UpT [g] w.heap (w.setCells g 0 Ls'.flatten).heap:=Awg q4 Ah6 (λb hb _=>hnd b<|hGF b hb)<|hown.notD hk4
   exact (h6 i' G' r' L2 hGi hri hLi').upT U1 λx hx hxg=>by
    rw [List.mem_singleton.1 hxg] at hx;rw [hF'] at hn;exact hii (A19 (List.nodup_cons.1 hn).2 hG hGi hx).symm
end
end Go.QF
namespace Go.Proofs.YtkakafabeobahaaGreatDoor
open Go Go.QF
theorem BBj:ZeT Tryz.prog 146 (.slice none 0 0) 24:=Azk AO4
theorem Ard:FdT Tryz.prog 109 0 0 22:=⟨_,_,Tryz.underlying109,rfl,rfl,rfl⟩
theorem Aj9:FdT Tryz.prog 109 1 1 3:=⟨_,_,Tryz.underlying109,rfl,rfl,rfl⟩
end Go.Proofs.YtkakafabeobahaaGreatDoor
namespace Go.Proofs.YtkakafabeobahaaGreatDoor
open Go Go.QF
set_option maxRecDepth 100000
def BE0 (fuel:Nat) (a b:Int):Option Int:=if a.natAbs < Alj/\b.natAbs < Alj then some (a + b) else none
def BOr (fuel:Nat) (a b:Int):Option Int:=if a.natAbs < Alj/\b.natAbs < Alj then some (a - b) else none
def Ayo (fuel:Nat) (a b:Int):Option Int:=if a.natAbs * b.natAbs < Alj then some (a * b) else none
def BBk (fuel:Nat) (a:Int):Option Int:=some<|-a
def Azg (fuel:Nat) (a:Int):Option Int:=some a
def Ar9 (fuel:Nat) (a:Int):Option Int:=if -9223372036854775808<=a/\a<=9223372036854775807 then some a else none
def A45 (fuel:Nat) (a:Int):Option Int:=some<|Anx a
def A2u (fuel:Nat) (a:Int):Option (Int × Bool):=if a.natAbs < 9223372036854775808 then some (a,true) else none
theorem BJb {n:Nat} (h:n < Alj):n < 4294967296 ^ 100:=Nat.lt_trans h<|Nat.pow_lt_pow_right AOs AOs
theorem BDd {u:Value} {b:Int} (H1:ZZ h u a) (H2:ZZ h v b) (hp:BE0 fuel a b=some r):Ahs Tryz.prog 178 #[u,v] h (λx h'=>Ext h h'/\ ∃ (x0:Value),x=x0/\ZZ h' x0 r):=by
 obtain ⟨⟨h1,h2⟩,hp⟩:=ifN hp;cases hp;exact (A6b H1 H2 h1 h2).mono λx h' hk=>⟨hk.1,x,rfl,hk.2.zz⟩
theorem BPi {u:Value} {b:Int} (H1:ZZ h u a) (H2:ZZ h v b) (hp:BOr fuel a b=some r):Ahs Tryz.prog 173 #[u,v] h (λx h'=>Ext h h'/\ ∃ (x0:Value),x=x0/\ZZ h' x0 r):=by
 obtain ⟨⟨h1,h2⟩,hp⟩:=ifN hp;cases hp;exact (BEw H1 H2 h1 h2).mono λx h' hk=>⟨hk.1,x,rfl,hk.2.zz⟩
theorem Axq {u:Value} {b:Int} (H1:ZZ h u a) (H2:ZZ h v b) (hp:Ayo fuel a b=some r):Ahs Tryz.prog 174 #[u,v] h (λx h'=>Ext h h'/\ ∃ (x0:Value),x=x0/\ZZ h' x0 r):=by
 obtain ⟨h1,hp⟩:=ifN hp;cases hp;exact (BL4 H1 H2<|BJb h1).mono λx h' hk=>⟨hk.1,x,rfl,hk.2.zz⟩
theorem A9x {u:Value} (H1:ZZ h u a) (hp:BBk fuel a=some r):Ahs Tryz.prog 126 #[u] h (λx h'=>Ext h h'/\ ∃ (x0:Value),x=x0/\ZZ h' x0 r):=by
 cases hp;exact (BEu H1).mono λx h' hk=>⟨hk.1,x,rfl,hk.2.zz⟩
theorem A01 {u:Value} (H1:ZZ h u a) (hp:Azg fuel a=some r):Ahs Tryz.prog 125 #[u] h (λx h'=>Ext h h'/\ ∃ (x0:Value),x=x0/\ZZ h' x0 r):=by
 cases hp;exact (A8b H1).mono λx h' hk=>⟨hk.1,x,rfl,hk.2.zz⟩
theorem Are (hp:Ar9 fuel a=some r):Ahs Tryz.prog 116 #[.int .i64 a] h (λx h'=>Ext h h'/\ ∃ (x0:Value),x=x0/\ZZ h' x0 r):=by
 obtain ⟨h1,hp⟩:=ifN hp;cases hp;exact (A43 h1 h).mono λx h' hk=>⟨hk.1,x,rfl,hk.2.zz⟩
theorem A4i {u:Value} (H1:ZZ h u a) (hp:A45 fuel a=some r):Ahs Tryz.prog 169 #[u] h (λx h'=>Ext h h'/\x= .int .i64 r):=by
 cases hp;exact A2c H1
theorem A7e {u:Value} {r:Int × Bool} (H1:ZZ h u a) (hp:A2u fuel a=some r):Ahs Tryz.prog 132 #[u] h (λx h'=>Ext h h'/\x= .tuple #[.int .i64 r.1,.bool r.2]):=by
 obtain ⟨h1,hp⟩:=ifN hp;cases hp;exact BGk H1 h1
end Go.Proofs.YtkakafabeobahaaGreatDoor
namespace Go.QF
open Go
section
variable {P:Program} {ops:Array Oper} {B:AO2->Prop}
def Avv (o:Oper):Bool:=match kindOf o.op with | .pure=>false | .read=>false | _=>true
theorem Azh {o:Oper} (hl:Avv o=false):kindOf o.op= .pure∨kindOf o.op= .read:=by
 unfold Avv at hl;cases h:kindOf o.op <;> simp only [h] at hl <;> first | exact .inl rfl | exact .inr rfl | cases hl
theorem Ayp {o:Oper} {e:Env} (hl:Avv o=false) (H:GOp P B true ops o e h K):GOp P B true ops o e h λe' h'=>h'=h/\K e' h':=by
 unfold GOp at H ⊢;split
 ·rename_i hw;rw [if_pos hw] at H;unfold SOp at H ⊢;rcases Azh hl with hk | hk
  ·simp only [hk] at H ⊢;obtain ⟨v,h1,h2⟩:=H;exact ⟨v,h1,trivial,h2⟩
  ·simp only [hk] at H ⊢;obtain ⟨v,h0,h1,h2⟩:=H;exact ⟨v,h0,h1,trivial,h2⟩
 ·rename_i hw;rw [if_neg hw] at H;exact ⟨rfl,H⟩
theorem A7f {o:Oper} {e:Env} {h2:AO2} {K':Env->AO2->Prop} (hl:Avv o=false) (H:GOp P B true ops o e h1 K) (hB:B h1->B h2) (hK:∀ v,K (e.put o.dst v) h1->K' (e.put o.dst v) h2):GOp P B true ops o e h2 K':=by
 unfold GOp at H ⊢;split
 ·rename_i hw;rw [if_pos hw] at H;unfold SOp at H ⊢;rcases Azh hl with hk | hk
  ·simp only [hk] at H ⊢;obtain ⟨v,a1,a2⟩:=H;exact ⟨v,a1,hK v a2⟩
  ·simp only [hk] at H ⊢;obtain ⟨v,a0,a1,a2⟩:=H;exact ⟨v,hB a0,a1,hK v a2⟩
 ·rename_i hw;rw [if_neg hw] at H;exact hK undef H
theorem A7g {o:Oper} {e:Env} (hl:Avv o=false) (H:GOp P B true ops o e h K):∃ v,K (e.put o.dst v) h:=by
 unfold GOp at H;split at H
 ·unfold SOp at H;rcases Azh hl with hk | hk
  ·simp only [hk] at H;obtain ⟨v,a1,a2⟩:=H;exact ⟨v,a2⟩
  ·simp only [hk] at H;obtain ⟨v,a0,a1,a2⟩:=H;exact ⟨v,a2⟩
 ·exact ⟨undef,H⟩
abbrev Off (a c b:Nat):Prop:=b < a∨c<=b
def HI (P:Program) (B:AO2->Prop) (ops:Array Oper):List Nat->Env->AO2->(Nat->Prop)->(Env->AO2->(Nat->Prop)->Prop)->Prop
 | [],e,h,N,K=> ∀ h',Ext h h'->K e h' N
 | i :: l,e,h,N,K=>match ops[i]? with
   | none=>False
   | some o=>bif Avv o then ∀ h1,Ext h h1->GOp P B true ops o e h1 λe' h'=>Ext h1 h'/\HI P B ops l e' h' (λb=>N b/\Off h1.size h'.size b) K
     else GOp P B true ops o e h λe' h'=>HI P B ops l e' h' N K
def HRf (P:Program) (B:AO2->Prop) (ops:Array Oper):List Oper->Env->AO2->(Nat->Prop)->(Env->AO2->(Nat->Prop)->Prop)->Prop
 | [],e,h,N,K=> ∀ h',Ext h h'->K e h' N
 | o :: l,e,h,N,K=>bif Avv o then ∀ h1,Ext h h1->GOp P B true ops o e h1 λe' h'=>Ext h1 h'/\HRf P B ops l e' h' (λb=>N b/\Off h1.size h'.size b) K
    else GOp P B true ops o e h λe' h'=>HRf P B ops l e' h' N K
variable {K:Env->AO2->(Nat->Prop)->Prop}
theorem BJc:∀ (I:List Nat) (L:List Oper),I.map (λi=>ops[i]?)=L.map some-> ∀ e h N,HRf P B ops L e h N K->HI P B ops I e h N K:=by
 intro I
 induction I with
 | nil=>intro L hI e h N H;cases L with | nil=>exact H | cons o L=>cases hI
 | cons i I ih=>
   intro L hI e h N H
   cases L with
   | nil=>cases hI
   | cons o L=>
     simp only [List.map_cons,List.cons.injEq] at hI
     simp only [HI,hI.1]
     simp only [HRf] at H
     cases he:Avv o with
     | true=>simp only [he,cond_true] at H ⊢;exact λh1 E=>(H h1 E).mono λv h' hh=>⟨hh.1,ih L hI.2 _ _ _ hh.2⟩
     | false=>simp only [he,cond_false] at H ⊢;exact H.mono λv h' hh=>ih L hI.2 _ _ _ hh
theorem HI.anti (hKN:∀ e h (N N':Nat->Prop),(∀ b,N' b->N b)->K e h N->K e h N'):∀ (l:List Nat) {e:Env} {h:AO2} {N N':Nat->Prop},(∀ b,N' b->N b)->HI P B ops l e h N K->HI P B ops l e h N' K:=by
 intro l
 induction l with
 | nil=>intro e h N N' hN H h' E;exact hKN _ _ _ _ hN (H h' E)
 | cons i l ih=>
   intro e h N N' hN H
   simp only [HI] at H ⊢
   cases hoi:ops[i]? with
   | none=>simp only [hoi] at H
   | some o=>
     simp only [hoi] at H ⊢
     cases he:Avv o with
     | true=>simp only [he,cond_true] at H ⊢;exact λh1 E=>(H h1 E).mono λv h' hh=>⟨hh.1,ih (λb hb=>⟨hN b hb.1,hb.2⟩) hh.2⟩
     | false=>simp only [he,cond_false] at H ⊢;exact H.mono λv h' hh=>ih hN hh
theorem HI.ext (hBx:∀ h h',B h->Ext h h'->B h'):∀ (l:List Nat) {e:Env} {h h2:AO2} {N:Nat->Prop},Ext h h2->HI P B ops l e h N K->HI P B ops l e h2 N K:=by
 intro l
 induction l with
 | nil=>intro e h h2 N E H h' E';exact H h' (E.trans E')
 | cons i l ih=>
   intro e h h2 N E H
   simp only [HI] at H ⊢
   cases hoi:ops[i]? with
   | none=>simp only [hoi] at H
   | some o=>
     simp only [hoi] at H ⊢
     cases he:Avv o with
     | true=>simp only [he,cond_true] at H ⊢;exact λh1 E1=>H h1 (E.trans E1)
     | false=>simp only [he,cond_false] at H ⊢;exact A7f he H (λhb=>hBx _ _ hb E) λv hh=>ih E hh
theorem HI.swap (hBx:∀ h h',B h->Ext h h'->B h') {i j:Nat} {x y:Oper} (hi:ops[i]? =some x) (hj:ops[j]? =some y) (hx:Aqb x=true) (hy:Aqb y=true) (hin:indep true ops x y=true) {R:List Nat} {e:Env} {h:AO2} {N:Nat->Prop} (H:HI P B ops (i :: j :: R) e h N K):HI P B ops (j :: i :: R) e h N K:=by
 simp only [HI,hi,hj] at H ⊢
 cases hex:Avv x with
 | false=>
   simp only [hex,cond_false] at H ⊢
   cases hey:Avv y with
   | false=>
     simp only [hey,cond_false] at H ⊢
     exact GOp.swap hx hy hin H
   | true=>
     simp only [hey,cond_true] at H ⊢
     intro h2 E2
     have H1:GOp P B true ops x e h2 λe' h'=>GOp P B true ops y e' h' λe2 h3=>Ext h2 h3/\HI P B ops R e2 h3 (λb=>N b/\Off h2.size h3.size b) K:=
      A7f hex H (λhb=>hBx _ _ hb E2) λv hh=>hh h2 E2
     refine (GOp.swap hx hy hin H1).mono λv h3 hh=>?_
     obtain ⟨u,hu⟩:=A7g hex hh
     exact ⟨hu.1,(Ayp hex hh).mono λv h' hk=>by obtain ⟨rfl,hk⟩:=hk;exact hk.2⟩
 | true=>
   simp only [hex,cond_true] at H ⊢
   have hey:Avv y=false:=by
    simp only [indep,Bool.and_eq_true] at hin
    unfold Avv at hex ⊢
    cases h1:kindOf x.op <;> cases h2:kindOf y.op <;> simp_all
   simp only [hey,cond_false] at H ⊢
   have key:∀ h2,Ext h h2->GOp P B true ops y e h2 λe1 h'=>GOp P B true ops x e1 h2 λe2 h3=>Ext h2 h3/\HI P B ops R e2 h3 (λb=>N b/\Off h2.size h3.size b) K:=by
    intro h2 E2
    have H1:GOp P B true ops x e h2 λe' h'=>GOp P B true ops y e' h' λe2 h3=>Ext h2 h3/\HI P B ops R e2 h3 (λb=>N b/\Off h2.size h3.size b) K:=
     (H h2 E2).mono λv h' hh=>(Ayp hey hh.2).mono λv2 h3 hk=>by obtain ⟨rfl,hk⟩:=hk;exact ⟨hh.1,hk⟩
    refine (Ayp hey<|GOp.swap hx hy hin H1).mono λv h' hh=>?_
    obtain ⟨rfl,hh⟩:=hh
    exact hh
   have k0:=key h<|Ext.refl h
   obtain ⟨v0,-⟩:=A7g hey k0
   have kk:GOp P B true ops y e h λe1 h'=>h'=h/\ ∀ h2,Ext h h2->GOp P B true ops x e1 h2 λe2 h3=>Ext h2 h3/\HI P B ops R e2 h3 (λb=>N b/\Off h2.size h3.size b) K:=by
    by_cases hw:Region.wanted y (Arq ops e)=true
    ·have k1:=k0
     unfold GOp at k1 ⊢
     rw [if_pos hw] at k1 ⊢
     unfold SOp at k1 ⊢
     rcases Azh hey with hk | hk
     ·simp only [hk] at k1 ⊢
      obtain ⟨v,a1,a2⟩:=k1
      refine ⟨v,a1,trivial,λh2 E2=>?_⟩
      have k2:=key h2 E2
      unfold GOp at k2
      rw [if_pos hw] at k2
      unfold SOp at k2
      simp only [hk] at k2
      obtain ⟨u,b1,b2⟩:=k2
      have e1:=a1<|Av6 h
      rw [b1<|Av6 h] at e1
      cases e1
      exact b2
     ·simp only [hk] at k1 ⊢
      obtain ⟨v,a0,a1,a2⟩:=k1
      refine ⟨v,a0,a1,trivial,λh2 E2=>?_⟩
      have k2:=key h2 E2
      unfold GOp at k2
      rw [if_pos hw] at k2
      unfold SOp at k2
      simp only [hk] at k2
      obtain ⟨u,b0,b1,b2⟩:=k2
      have e1:=a1 (Av6 h) a0
      rw [b1 (Av6 h) a0] at e1
      cases e1
      exact b2
    ·unfold GOp
     rw [if_neg hw]
     refine ⟨rfl,λh2 E2=>?_⟩
     have k2:=key h2 E2
     unfold GOp at k2
     rw [if_neg hw] at k2
     exact k2
   refine kk.mono λv h' hh=>?_
   obtain ⟨rfl,hh⟩:=hh
   exact hh
theorem HI.bubble (hBx:∀ h h',B h->Ext h h'->B h') {oi:Oper} (hi:ops[i]? =some oi) (hsi:Aqb oi=true) (R1:List Nat):∀ {R2:List Nat} {e:Env} {h:AO2} {N:Nat->Prop},
 (∀ k∈R1,∃ ok,ops[k]? =some ok/\Aqb ok=true/\indep true ops ok oi=true)->HI P B ops (R1 ++ i :: R2) e h N K->HI P B ops (i :: (R1 ++ R2)) e h N K:=by
 induction R1 with
 | nil=>intro R2 e h N _ H;exact H
 | cons k R1 ih=>
   intro R2 e h N hind H
   obtain ⟨ok,hok,hsk,hik⟩:=hind k<|List.mem_cons_self ..
   have H2:HI P B ops (k :: i :: (R1 ++ R2)) e h N K:=by
    simp only [List.cons_append] at H
    rw [HI] at H ⊢
    simp only [hok] at H ⊢
    cases he:Avv ok with
    | true=>simp only [he,cond_true] at H ⊢;exact λh1 E=>(H h1 E).mono λv h' hh=>⟨hh.1,ih (λk' hk'=>hind k'<|List.mem_cons_of_mem _ hk') hh.2⟩
    | false=>simp only [he,cond_false] at H ⊢;exact H.mono λv h' hh=>ih (λk' hk'=>hind k'<|List.mem_cons_of_mem _ hk') hh
   exact HI.swap hBx hok hi hsk hsi hik H2
theorem BJd:∀ (l:List Nat) {e:Env} {h:AO2} {N:Nat->Prop},HI P B ops l e h N K->LI P B true ops l e h λe' h'=>Ext h h'/\ ∃ N':Nat->Prop,(∀ b,N b->b < h.size->N' b)/\K e' h' N':=by
 intro l;induction l with
 | nil=>intro e h N H;exact ⟨Ext.refl h,N,λb hb _=>hb,H h<|Ext.refl h⟩
 | cons i l ih=>
   intro e h N H;simp only [HI] at H;simp only [LI];cases hoi:ops[i]? with
   | none=>simp only [hoi] at H
   | some o=>
     simp only [hoi] at H ⊢;cases he:Avv o with
     | true=>
       simp only [he,cond_true] at H;refine (H h<|Ext.refl h).mono λv h' hh=>?_;refine LI.mono (λe2 h2 hk=>?_)<|ih hh.2;obtain ⟨E2,N',hN,hk⟩:=hk;exact ⟨hh.1.trans E2,N',λb hb hlt=>hN b ⟨hb,.inl hlt⟩<|Nat.lt_of_lt_of_le hlt hh.1.1,hk⟩
     | false=>
       simp only [he,cond_false] at H;refine (Ayp he H).mono λv h' hh=>?_;obtain ⟨rfl,hh⟩:=hh;exact ih hh
end
end Go.QF
namespace Go.QF
open Go
section
variable {P:Program} {ops:Array Oper} {B:AO2->Prop}
theorem A8o {n:Nat} (G:Nat->Prop) (hb:A4x n ops=true) (hdep:∀ (j:Nat) (oj:Oper),ops[j]? =some oj-> ∀ ed∈oj.after,Region.binds .any ed=true->ed.on < j) (hpair:∀ (i j:Nat) (oi oj:Oper),G i->G j->i < j->ops[i]? =some oi->ops[j]? =some oj->(∃ n,reach ops n i j=true)∨indep st ops oi oj=true):∀ (fuel:Nat) (R:List Nat) (listed:Array Bool) (e:Env) (a:Act) (w:World) (K:Env->AO2->Prop),
 (∀ j∈R,G j)->R.length=fuel->LsF ops R listed->Rep n e a->LI P B st ops R e w.heap K->(∀ e' a' w',Rep n e' a'->Same w w'->K e' w'.heap->Q .normal a' w')->
 wpAny P .any ops Q fuel listed a w:=by
 intro fuel
 induction fuel with
 | zero=>
   intro R listed e a w K hG hlen L r H hK
   obtain rfl:R=[]:=List.length_eq_zero_iff.1 hlen
   refine ⟨?_,hK _ _ _ r (.refl w) H⟩
   refine List.eq_nil_iff_forall_not_mem.2 λj hj=>?_
   obtain ⟨hjl,oj,hoj,_⟩:=mem_ready.1 hj
   have:=(L.mem j).2 ⟨(Array.getElem?_eq_some_iff.1 hoj).1,hjl⟩
   cases this
 | succ fuel ih=>
   intro R listed e a w K hG hlen L r H hK
   constructor
   ·intro hr
    exfalso
    cases R with
    | nil=>simp at hlen
    | cons j R=>
      obtain ⟨hjs,hjl⟩:=(L.mem j).1 (List.mem_cons_self ..)
      obtain ⟨oj,hoj⟩:∃ oj,ops[j]? =some oj:=⟨ops[j],Array.getElem?_eq_getElem hjs⟩
      have:j∈Region.ready .any ops listed:=mem_ready.2 ⟨hjl,oj,hoj,λed hed hbd=>by
       have hlt:=hdep j oj hoj ed hed hbd
       cases hl:listed.getD ed.on false with
       | true=>rfl
       | false=>
         exfalso
         have hs:ed.on < ops.size:=Nat.lt_trans hlt hjs
         have hm:ed.on∈j :: R:=(L.mem ed.on).2 ⟨hs,by
          have h':ed.on < listed.size:=by rw [L.size];exact hs
          simp [h'] at hl ⊢;exact hl⟩
         rcases List.mem_cons.1 hm with he | he
         ·omega
         ·have:=(List.pairwise_cons.1 L.pw).1 _ he
          omega⟩
      rw [hr] at this
      cases this
   ·intro i hi
    obtain ⟨hil,oi,hoi,hall⟩:=mem_ready.1 hi
    have his:i < ops.size:=(Array.getElem?_eq_some_iff.1 hoi).1
    have hiR:i∈R:=(L.mem i).2 ⟨his,hil⟩
    obtain ⟨R1,R2,rfl⟩:=List.append_of_mem hiR
    obtain ⟨hdi,hsi⟩:=Axc hb hoi
    have hpw':=List.pairwise_append.1 L.pw
    have hbu:LI P B st ops (i :: (R1 ++ R2)) e w.heap K:=by
     refine LI.bubble hoi hsi R1 (λk hk=>?_) H
     have hki:k < i:=hpw'.2.2 k hk i<|List.mem_cons_self ..
     have hks:k < ops.size:=Nat.lt_trans hki his
     obtain ⟨ok,hok'⟩:∃ ok,ops[k]? =some ok:=⟨ops[k],Array.getElem?_eq_getElem hks⟩
     refine ⟨ok,hok',(Axc hb hok').2,?_⟩
     rcases hpair k i ok oi (hG k<|List.mem_append_left _ hk) (hG i hiR) hki hok' hoi with ⟨nre,hre⟩ | h
     ·exfalso
      have h1:listed.getD k false=true:=Av7 (L:=λj=>listed.getD j false=true) L.cl nre k i oi hoi hall hre
      rw [L.notListed<|List.mem_append_left _ hk] at h1
      cases h1
     ·exact h
    simp only [LI,hoi] at hbu
    refine As5 hoi hdi r hbu λe' a' w' r' hs hk=>?_
    exact ih (R1 ++ R2) _ e' a' w' K (λj hj=>hG j (by rcases List.mem_append.1 hj with h | h;exact List.mem_append_left _ h;exact List.mem_append_right _<|List.mem_cons_of_mem _ h)) (by simp at hlen ⊢;omega) (L.step hoi hall) r' hk λe2 a2 w2 r2 s2 k2=>hK _ _ _ r2 (hs.trans s2) k2
structure Alv where
 d:Nat
 t:Nat
 z:List Value
def A25 (b:Nat):Value:= .pointer<|some ⟨b,0,none⟩
def setO:List Alv->List (Option Nat)->Env->Env
 | a :: A,some b :: bs,e=>(setO A bs e).set a.d (A25 b)
 | _ :: A,none :: bs,e=>setO A bs e
 | _,_,e=>e
theorem BGr:∀ (A:List Alv) (e:Env),setO A (List.replicate A.length none) e=e:=by
 intro A e
 induction A with
 | nil=>rfl
 | cons a A ih=>exact ih
theorem BMd {A:List Alv}:∀ {bs:List (Option Nat)} {e:Env} {t:Nat},(∀ a∈A,a.d≠t)->setO A bs e t=e t:=by
 induction A with
 | nil=>intro bs e t _;cases bs <;> rfl
 | cons a A ih=>
   intro bs e t h
   cases bs with
   | nil=>rfl
   | cons b bs=>
     cases b with
     | none=>exact ih λa ha=>h a (List.mem_cons_of_mem _ ha)
     | some b=>
       show (setO A bs e).set a.d (A25 b) t=e t
       rw [Env.set_other _ _ λhe=>h a (List.mem_cons_self ..) he.symm]
       exact ih λa ha=>h a<|List.mem_cons_of_mem _ ha
theorem BBl {A:List Alv}:∀ {bs:List (Option Nat)} {e:Env} {d:Option Nat} {v:Value},(∀ a∈A,d≠some a.d)->(setO A bs e).put d v=setO A bs (e.put d v):=by
 induction A with
 | nil=>intro bs e d v _;cases bs <;> rfl
 | cons a A ih=>
   intro bs e d v h
   cases bs with
   | nil=>rfl
   | cons b bs=>
     have ih':=ih (bs:=bs) (e:=e) (v:=v) λa ha=>h a<|List.mem_cons_of_mem _ ha
     cases b with
     | none=>exact ih'
     | some b=>
       show ((setO A bs e).set a.d (A25 b)).put d v=(setO A bs<|e.put d v).set a.d (A25 b)
       rw [<- ih']
       exact Env.put_comm (x:=some a.d) (y:=d) (setO A bs e) (A25 b) v (λk hk=>by cases hk;exact h a<|List.mem_cons_self ..)
theorem BJe {A:List Alv}:∀ {bs:List (Option Nat)} {e:Env} {q:Nat} {a:Alv} {b:Nat},(A.map Alv.d).Nodup->bs.length=A.length->A[q]? =some a->bs[q]? =some none->setO A (bs.set q<|some b) e=(setO A bs e).set a.d (A25 b):=by
 induction A with
 | nil=>intro bs e q a b _ _ h;cases h
 | cons c A ih=>
   intro bs e q a b hn hl ha hb
   cases bs with
   | nil=>cases hb
   | cons x bs=>
     cases q with
     | zero=>
       simp only [List.getElem?_cons_zero,Option.some.injEq] at ha hb
       subst ha;subst hb
       rfl
     | succ q=>
       simp only [List.getElem?_cons_succ] at ha hb
       simp only [List.map_cons,List.nodup_cons] at hn
       have ih':=ih (e:=e) (b:=b) hn.2 (by simpa using hl) ha hb
       cases x with
       | none=>exact ih'
       | some x=>
         show (setO A (bs.set q<|some b) e).set c.d (A25 x)=((setO A bs e).set c.d (A25 x)).set a.d (A25 b)
         rw [ih']
         have hne:a.d≠c.d:=λhe=>hn.1<|List.mem_map.2 ⟨a,List.mem_of_getElem? ha,he⟩
         exact Env.put_comm (x:=some a.d) (y:=some c.d) (setO A bs e) (A25 b) (A25 x) (λk hk he=>by cases hk;exact hne (Option.some.inj he).symm)
theorem BGs {o:Oper} (hs:Aqb o=true) {A:List Alv} (hA:∀ a∈A,a.d ∉ o.looksAt ops):∀ {bs:List (Option Nat)} {e:Env},execOp (setO A bs e).ev o=execOp e.ev o/\Region.wanted o (Arq ops<|setO A bs e)=Region.wanted o (Arq ops e):=by
 induction A with
 | nil=>intro bs e;cases bs <;> exact ⟨rfl,rfl⟩
 | cons a A ih=>
   intro bs e
   cases bs with
   | nil=>exact ⟨rfl,rfl⟩
   | cons b bs=>
     have ih':=ih (λa ha=>hA a<|List.mem_cons_of_mem _ ha) (bs:=bs) (e:=e)
     cases b with
     | none=>exact ih'
     | some b=>exact ⟨(A1t (ops:=ops) o hs (setO A bs e) (some a.d) (A25 b) (λk hk=>by cases hk;exact hA a<|List.mem_cons_self ..)).trans ih'.1,(A1u (ops:=ops) o (setO A bs e) (some a.d) (A25 b) (λk hk=>by cases hk;exact hA a<|List.mem_cons_self ..)).trans ih'.2⟩
def BPj (ops:Array Oper) (A:List Alv) (o:Oper):Prop:=(∀ a∈A,a.d ∉ o.looksAt ops)/\ ∀ a∈A,o.dst≠some a.d
theorem GOp.setO {st:Bool} {o:Oper} {A:List Alv} {bs:List (Option Nat)} {e:Env} {h:AO2} {K:Env->AO2->Prop} (hs:Aqb o=true) (hf:BPj ops A o) (H:GOp P B st ops o e h K):GOp P B st ops o (setO A bs e) h λe2 h'=> ∃ e',e2=Go.QF.setO A bs e'/\K e' h':=by
 obtain ⟨h1,h2⟩:=BGs hs hf.1 (bs:=bs) (e:=e);unfold GOp at H ⊢;rw [h2];split
 ·rename_i hw;rw [if_pos hw] at H;exact SOp.congr h1 (λv h' hk=>⟨_,BBl hf.2,hk⟩) H
 ·rename_i hw;rw [if_neg hw] at H;exact ⟨_,BBl hf.2,H⟩
theorem LI.setO {st:Bool} {A:List Alv} {bs:List (Option Nat)}:∀ {l:List Nat} {e:Env} {h:AO2} {K:Env->AO2->Prop},(∀ i∈l,∀ o,ops[i]? =some o->Aqb o=true/\BPj ops A o)->LI P B st ops l e h K->LI P B st ops l (setO A bs e) h λe2 h'=> ∃ e',e2=Go.QF.setO A bs e'/\K e' h':=by
 intro l
 induction l with
 | nil=>intro e h K _ H;exact ⟨e,rfl,H⟩
 | cons i l ih=>
   intro e h K hl H
   simp only [LI] at H ⊢
   cases hoi:ops[i]? with
   | none=>simp only [hoi] at H;exact ih (λi hi=>hl i<|List.mem_cons_of_mem _ hi) H
   | some o=>
     simp only [hoi] at H
     obtain ⟨h1,h2⟩:=hl i (List.mem_cons_self ..) o hoi
     refine (GOp.setO h1 h2 H).mono λv h' hk=>?_
     obtain ⟨e',he,hk⟩:=hk
     rw [he]
     exact ih (λi hi=>hl i<|List.mem_cons_of_mem _ hi) hk
theorem BGt {l1 l2:List Nat} {e:Env} (H:LI P B st ops l1 e h λe' h'=>LI P B st ops l2 e' h' K):LI P B st ops (l1 ++ l2) e h K:=by
 induction l1 generalizing e h with
 | nil=>exact H
 | cons i l ih=>
   simp only [LI,List.cons_append] at H ⊢
   cases hoi:ops[i]? with
   | none=>simp only [hoi] at H;exact ih H
   | some o=>simp only [hoi] at H;exact H.mono λv h' hk=>ih hk
def KA (A:List Alv) (h0:AO2) (G:List Nat->Env->AO2->Prop) (e:Env) (h:AO2) (N:Nat->Prop):Prop:=
 ∀ bl:List Nat,bl.length=A.length->bl.Nodup->(∀ (q:Nat) (b:Nat) (a:Alv),bl[q]? =some b->A[q]? =some a->Akd a.t h b a.z/\h0.size<=b/\N b)->G bl e h
theorem KA.anti {A:List Alv} {G:List Nat->Env->AO2->Prop} (e:Env) (h:AO2) (N N':Nat->Prop) (hN:∀ b,N' b->N b) (H:KA A h0 G e h N):KA A h0 G e h N':=
 λbl h1 h2 h3=>H bl h1 h2 λq b a hb ha=>let ⟨x,y,z⟩:=h3 q b a hb ha;⟨x,y,hN b z⟩
structure BE1 (ops:Array Oper) (m:Nat) (A:List Alv):Prop where
 le:m + A.length<=ops.size
 dep:∀ (j:Nat) (oj:Oper),ops[j]? =some oj-> ∀ ed∈oj.after,Region.binds .any ed=true->ed.on < j
 pair:∀ (i j:Nat) (oi oj:Oper),(i < m∨m + A.length<=i)->(j < m∨m + A.length<=j)->i < j->ops[i]? =some oi->ops[j]? =some oj->(∃ n,reach ops n i j=true)∨indep true ops oi oj=true
 tail:∀ (i j:Nat) (oj:Oper),m<=i->i < m + A.length->m + A.length<=j->ops[j]? =some oj-> ∃ n,reach ops n i j=true
 far:∀ (j:Nat) (oj:Oper),j < m->ops[j]? =some oj->BPj ops A oj
 nd:(A.map Alv.d).Nodup
 al:∀ (q:Nat) (a:Alv),A[q]? =some a-> ∃ o,ops[m + q]? =some o/\o.dst=some a.d
def BMe (P:Program) (B:AO2->Prop) (ops:Array Oper) (m:Nat) (A:List Alv):Prop:=
 ∀ (q:Nat) (a:Alv) (o:Oper),A[q]? =some a->ops[m + q]? =some o-> ∀ (e:Env) (h:AO2),B h->GOp P B true ops o e h λe' h'=> ∃ b,e'=e.set a.d (A25 b)/\Ext h h'/\Akd a.t h' b a.z/\h.size<=b
theorem BJf {n m:Nat} {A:List Alv} {Kq:Env->AO2->Prop} (S:BE1 ops m A) (hb:A4x n ops=true) (hBx:∀ h h',B h->Ext h h'->B h') (hal:BMe P B ops m A) (hT:∀ j∈T,m + A.length<=j):
 ∀ (fuel:Nat) (Rp Ra:List Nat) (bs:List (Option Nat)) (listed:Array Bool) (e:Env) (a:Act) (w:World) (N:Nat->Prop),
 (∀ j∈Rp,j < m)->(∀ j∈Ra,m<=j/\j < m + A.length/\bs[j - m]? =some none)->(∀ q:Nat,bs[q]? =some none->m + q∈Ra)->bs.length=A.length->(Rp ++ (Ra ++ T)).length=fuel->LsF ops (Rp ++ (Ra ++ T)) listed->Rep n (setO A bs e) a->Ext h0 w.heap->B w.heap->
 (∀ (q b:Nat) (x:Alv),bs[q]? =some (some b)->A[q]? =some x->Akd x.t w.heap b x.z/\h0.size<=b/\N b)->(∀ q q' b:Nat,bs[q]? =some (some b)->bs[q']? =some (some b)->q=q')->(∀ b:Nat,w.heap.size<=b->N b)->
 HI P B ops Rp e w.heap N (KA A h0 λbl e' h'=>LI P B true ops T (setO A (bl.map some) e') h' Kq)->
 (∀ e' a' w',Rep n e' a'->Same w w'->Kq e' w'.heap->Q .normal a' w')->wpAny P .any ops Q fuel listed a w:=by
 intro fuel
 induction fuel with
 | zero=>
   intro Rp Ra bs listed e a w N hRp hRa hbsR hbl hlen L r hE hB hbox hdis hNn H hK
   have Ap:Rp ++ (Ra ++ T)=[]:=List.length_eq_zero_iff.1 hlen
   simp only [List.append_eq_nil_iff] at Ap
   obtain ⟨rfl,rfl,rfl⟩:=Ap
   refine A8o (B:=B) (st:=true) (λj=>j < m∨m + A.length<=j) hb S.dep S.pair 0 [] listed _ a w Kq (λj hj=>by cases hj) rfl L r ?_ hK
   obtain ⟨bl,rfl⟩:∃ bl:List Nat,bs=bl.map some:=by
    have:∀ bs:List (Option Nat),(∀ q:Nat,bs[q]? ≠some none)-> ∃ bl:List Nat,bs=bl.map some:=by
     intro bs
     induction bs with
     | nil=>intro _;exact ⟨[],rfl⟩
     | cons b bs ih=>
       intro h
       obtain ⟨bl,rfl⟩:=ih λq=>by have:=h<|q + 1;simpa using this
       cases b with
       | none=>exact absurd rfl (h 0)
       | some b=>exact ⟨b :: bl,rfl⟩
    exact this bs λq hq=>by have:=hbsR q hq;cases this
   refine H w.heap (Ext.refl _) bl (by simpa using hbl) ?_ λq b x hq hx=>hbox q b x (by simp [hq]) hx
   refine List.pairwise_iff_getElem.2 λi j hi hj hij he=>?_
   have h1:bl[i]? =some bl[i]:=List.getElem?_eq_getElem hi
   have h2:bl[j]? =some bl[i]:=by rw [he];exact List.getElem?_eq_getElem hj
   have:=hdis i j bl[i] (by simp [h1]) (by simp [h2])
   omega
 | succ fuel ih=>
   intro Rp Ra bs listed e a w N hRp hRa hbsR hbl hlen L r hE hB hbox hdis hNn H hK
   by_cases Aq:Ra=[]
   ·subst Aq
    obtain ⟨bl,rfl⟩:∃ bl:List Nat,bs=bl.map some:=by
     have:∀ bs:List (Option Nat),(∀ q:Nat,bs[q]? ≠some none)-> ∃ bl:List Nat,bs=bl.map some:=by
      intro bs
      induction bs with
      | nil=>intro _;exact ⟨[],rfl⟩
      | cons b bs ih=>
        intro h
        obtain ⟨bl,rfl⟩:=ih λq=>by have:=h<|q + 1;simpa using this
        cases b with
        | none=>exact absurd rfl (h 0)
        | some b=>exact ⟨b :: bl,rfl⟩
     exact this bs λq hq=>by have:=hbsR q hq;cases this
    have hnod:bl.Nodup:=by
     refine List.pairwise_iff_getElem.2 λi j hi hj hij he=>?_
     have h1:bl[i]? =some bl[i]:=List.getElem?_eq_getElem hi
     have h2:bl[j]? =some bl[i]:=by rw [he];exact List.getElem?_eq_getElem hj
     have:=hdis i j bl[i] (by simp [h1]) (by simp [h2])
     omega
    simp only [List.nil_append] at hlen L
    refine A8o (B:=B) (st:=true) (λj=>j < m∨m + A.length<=j) hb S.dep S.pair (fuel + 1) (Rp ++ T) listed _ a w Kq (λj hj=>?_) hlen L r ?_ hK
    ·rcases List.mem_append.1 hj with h | h
     ·exact .inl<|hRp j h
     ·exact .inr<|hT j h
    ·refine BGt ?_
     have h1:=LI.setO (A:=A) (bs:=bl.map some) (λi hi o ho=>⟨(Axc hb ho).2,S.far i o (hRp i hi) ho⟩)<|BJd Rp H
     refine LI.mono (λe2 h2 hk=>?_) h1
     obtain ⟨e',rfl,E2,N',hN',hk⟩:=hk
     refine hk bl (by simpa using hbl) hnod λq b x hq hx=>?_
     obtain ⟨x1,x2,x3⟩:=hbox q b x (by simp [hq]) hx
     exact ⟨by unfold Akd;rw [E2.2 b x1.lt];exact x1,x2,hN' b x3 x1.lt⟩
   ·refine ⟨λhr=>?_,λi hi=>?_⟩
    ·exfalso
     cases hR:Rp ++ (Ra ++ T) with
     | nil=>rw [hR] at hlen;simp at hlen
     | cons j R=>
       rw [hR] at L
       obtain ⟨hjs,hjl⟩:=(L.mem j).1 (List.mem_cons_self ..)
       obtain ⟨oj,hoj⟩:∃ oj,ops[j]? =some oj:=⟨ops[j],Array.getElem?_eq_getElem hjs⟩
       have:j∈Region.ready .any ops listed:=mem_ready.2 ⟨hjl,oj,hoj,λed hed hbd=>by
        have hlt:=S.dep j oj hoj ed hed hbd
        cases hl:listed.getD ed.on false with
        | true=>rfl
        | false=>
          exfalso
          have hs:ed.on < ops.size:=Nat.lt_trans hlt hjs
          have hm:ed.on∈j :: R:=(L.mem ed.on).2 ⟨hs,by
           have h':ed.on < listed.size:=by rw [L.size];exact hs
           simp [h'] at hl ⊢;exact hl⟩
          rcases List.mem_cons.1 hm with he | he
          ·omega
          ·have:=(List.pairwise_cons.1 L.pw).1 _ he
           omega⟩
       rw [hr] at this
       cases this
    ·obtain ⟨hil,oi,hoi,hall⟩:=mem_ready.1 hi
     have his:i < ops.size:=(Array.getElem?_eq_some_iff.1 hoi).1
     obtain ⟨hdi,hsi⟩:=Axc hb hoi
     have hnl:∀ (k nre:Nat),k∈Rp ++ (Ra ++ T)->reach ops nre k i=true->False:=λk nre hk hre=>by
      have h1:listed.getD k false=true:=Av7 (L:=λj=>listed.getD j false=true) L.cl nre k i oi hoi hall hre
      rw [L.notListed hk] at h1
      cases h1
     rcases List.mem_append.1 ((L.mem i).2 ⟨his,hil⟩) with hip | hit
     ·
       obtain ⟨R1,R2,rfl⟩:=List.append_of_mem hip
       have hpw':=List.pairwise_append.1 (List.pairwise_append.1 L.pw).1
       have hbu:HI P B ops (i :: (R1 ++ R2)) e w.heap N (KA A h0 λbl e' h'=>LI P B true ops T (setO A (bl.map some) e') h' Kq):=by
        refine HI.bubble hBx hoi hsi R1 (λk hk=>?_) H
        have hki:k < i:=hpw'.2.2 k hk i<|List.mem_cons_self ..
        have hks:k < ops.size:=Nat.lt_trans hki his
        obtain ⟨ok,hok'⟩:∃ ok,ops[k]? =some ok:=⟨ops[k],Array.getElem?_eq_getElem hks⟩
        refine ⟨ok,hok',(Axc hb hok').2,?_⟩
        rcases S.pair k i ok oi (.inl<|hRp k<|List.mem_append_left _ hk) (.inl<|hRp i hip) hki hok' hoi with ⟨nre,hre⟩ | h
        ·exact (hnl k nre (List.mem_append_left _<|List.mem_append_left _ hk) hre).elim
        ·exact h
       have hg:GOp P B true ops oi e w.heap λe' h'=>Ext w.heap h'/\HI P B ops (R1 ++ R2) e' h' (λb=>N b/\Off w.heap.size h'.size b) (KA A h0 λbl e' h'=>LI P B true ops T (setO A (bl.map some) e') h' Kq):=by
        simp only [HI,hoi] at hbu
        cases he:Avv oi with
        | true=>simp only [he,cond_true] at hbu;exact hbu w.heap (Ext.refl _)
        | false=>
          simp only [he,cond_false] at hbu
          refine (Ayp he hbu).mono λv h' hk=>?_
          obtain ⟨rfl,hk⟩:=hk
          exact ⟨Ext.refl _,HI.anti KA.anti _ (λb hb=>hb.1) hk⟩
       refine As5 hoi hdi r (GOp.setO (bs:=bs) hsi (S.far i oi (hRp i hip) hoi) hg) λe' a' w' r' hs hk=>?_
       obtain ⟨e1,rfl,hE',hk⟩:=hk
       refine ih (R1 ++ R2) Ra bs _ e1 a' w' _ (λj hj=>hRp j (by rcases List.mem_append.1 hj with h | h;exact List.mem_append_left _ h;exact List.mem_append_right _<|List.mem_cons_of_mem _ h)) hRa hbsR hbl (by simp at hlen ⊢;omega) ?_ r' (hE.trans hE') (hBx _ _ hB hE') (λq b x hq hx=>?_) hdis (λb hb=>⟨hNn b<|Nat.le_trans hE'.1 hb,.inr hb⟩) hk λe2 a2 w2 r2 s2 k2=>hK _ _ _ r2 (hs.trans s2) k2
       ·have L2:LsF ops (R1 ++ i :: (R2 ++ (Ra ++ T))) listed:=by simpa using L
        have:=L2.step hoi hall
        simpa using this
       ·obtain ⟨x1,x2,x3⟩:=hbox q b x hq hx
        exact ⟨by unfold Akd;rw [hE'.2 b x1.lt];exact x1,x2,x3,.inl x1.lt⟩
     ·rcases List.mem_append.1 hit with hia | hiT
      ·
        obtain ⟨A1,A2,rfl⟩:=List.append_of_mem hia
        obtain ⟨Au,Av,hbq⟩:=hRa i hia
        obtain ⟨x,hx⟩:∃ x,A[i - m]? =some x:=⟨A[i - m]'AOq,List.getElem?_eq_getElem AOq⟩
        have hoi':ops[m + (i - m)]? =some oi:=by rw [show m + (i - m)=i by omega];exact hoi
        have hg:=hal (i - m) x oi hx hoi' (setO A bs e) w.heap hB
        refine As5 hoi hdi r hg λe' a' w' r' hs hk=>?_
        obtain ⟨b,rfl,hE',hbx,hbh⟩:=hk
        rw [<- BJe S.nd hbl hx hbq] at r'
        have hpwA:=List.pairwise_append.1 (List.pairwise_append.1 (List.pairwise_append.1 L.pw).2.1).1
        have hlq:i - m < bs.length:=by omega
        refine ih Rp (A1 ++ A2) (bs.set (i - m)<|some b) _ e a' w' N hRp (λj hj=>?_) (λq hq=>?_) (by simpa using hbl) (by simp at hlen ⊢;omega) ?_ r' (hE.trans hE') (hBx _ _ hB hE') (λq c y hq hy=>?_) (λq q' c hq hq'=>?_) (λc hc=>hNn c<|Nat.le_trans hE'.1 hc) (HI.ext hBx _ hE' H) λe2 a2 w2 r2 s2 k2=>hK _ _ _ r2 (hs.trans s2) k2
        ·have hj':j∈A1 ++ i :: A2:=by
          rcases List.mem_append.1 hj with h | h
          ·exact List.mem_append_left _ h
          ·exact List.mem_append_right _<|List.mem_cons_of_mem _ h
         obtain ⟨j1,j2,j3⟩:=hRa j hj'
         have hne:i≠j:=by
          rintro rfl
          rcases List.mem_append.1 hj with h | h
          ·have:=hpwA.2.2 i h i<|List.mem_cons_self ..;omega
          ·have:=(List.pairwise_cons.1 hpwA.2.1).1 i h;omega
         exact ⟨j1,j2,by rw [List.getElem?_set_ne AOq];exact j3⟩
        ·by_cases hqi:i - m=q
         ·subst hqi;rw [List.getElem?_set_self hlq] at hq;cases hq
         ·rw [List.getElem?_set_ne hqi] at hq
          have:=hbsR q hq
          rcases List.mem_append.1 this with h | h
          ·exact List.mem_append_left _ h
          ·rcases List.mem_cons.1 h with h | h
           ·omega
           ·exact List.mem_append_right _ h
        ·have L2:LsF ops ((Rp ++ A1) ++ i :: (A2 ++ T)) listed:=by simpa using L
         have:=L2.step hoi hall
         simpa using this
        ·by_cases hqi:i - m=q
         ·subst hqi
          rw [List.getElem?_set_self hlq] at hq
          cases hq
          rw [hx] at hy;cases hy
          exact ⟨hbx,Nat.le_trans hE.1 hbh,hNn b hbh⟩
         ·rw [List.getElem?_set_ne hqi] at hq
          obtain ⟨x1,x2,x3⟩:=hbox q c y hq hy
          exact ⟨by unfold Akd;rw [hE'.2 c x1.lt];exact x1,x2,x3⟩
        ·have old:∀ {q:Nat},bs[q]? =some (some c)->c < w.heap.size:=λ{q} hq=>by
          have hql:q < A.length:=by rw [<- hbl];exact (List.getElem?_eq_some_iff.1 hq).1
          exact (hbox q c A[q] hq<|List.getElem?_eq_getElem hql).1.lt
         by_cases hqi:i - m=q
         ·by_cases hqi':i - m=q'
          ·omega
          ·subst hqi
           rw [List.getElem?_set_self hlq] at hq
           rw [List.getElem?_set_ne hqi'] at hq'
           cases hq
           have:=old hq'
           omega
         ·rw [List.getElem?_set_ne hqi] at hq
          by_cases hqi':i - m=q'
          ·subst hqi'
           rw [List.getElem?_set_self hlq] at hq'
           cases hq'
           have:=old hq
           omega
          ·rw [List.getElem?_set_ne hqi'] at hq'
           exact hdis q q' c hq hq'
      ·
        exfalso
        cases hA:Ra with
        | nil=>exact Aq hA
        | cons j Ra'=>
          have hj:j∈Ra:=by rw [hA];exact List.mem_cons_self ..
          obtain ⟨Au,Av,_⟩:=hRa j hj
          obtain ⟨nre,hre⟩:=S.tail j i oi Au Av (hT i hiT) hoi
          exact hnl j nre (List.mem_append_right _<|List.mem_append_left _ hj) hre
end
end Go.QF
open Go
variable {A:List Go.QF.Alv}
namespace Go.QF
open Go
section
variable {P:Program} {ops:Array Oper} {B:AO2->Prop}
def isA (m k i:Nat):Bool:=Nat.ble m i && Nat.blt i (m + k)
def BJg (ops:Array Oper) (m:Nat) (ds:List Nat):Bool:=
 Nat.ble (m + ds.length) ops.size && (decide ds.Nodup && (List.range ds.length).all λq=>match ops[m + q]?,ds[q]? with | some o,some d=>o.dst == some d | _,_=>false) && (List.range ops.size).all λj=>match ops[j]? with
  | none=>false
  | some oj=>oj.after.all (λed=> !Region.binds .any ed || Nat.blt ed.on j) && (!Nat.blt j m || ds.all λd=> !(oj.looksAt ops).contains d && oj.dst != some d) &&
    (List.range j).all λi=>match ops[i]? with
      | none=>false
      | some oi=>match isA m ds.length i,isA m ds.length j with
        | false,false=>ahead ops i j || indep true ops oi oj
        | true,false=>ahead ops i j
        | _,true=>true
theorem BBm {m k:Nat}:(isA m k i=true↔m<=i/\i < m + k):=by
 unfold isA;rw [Bool.and_eq_true];constructor
 ·rintro ⟨h1,h2⟩;exact ⟨Nat.le_of_ble_eq_true h1,BI6 h2⟩
 ·rintro ⟨h1,h2⟩;exact ⟨Nat.ble_eq_true_of_le h1,Nat.ble_eq_true_of_le h2⟩
theorem A46 {m k:Nat} (h:i < m∨m + k<=i):isA m k i=false:=by
 cases hh:isA m k i with
 | false=>rfl
 | true=>have:=BBm.1 hh;omega
theorem BGu {m:Nat} (H:BJg ops m (A.map Alv.d)=true):BE1 ops m A:=by
 unfold BJg at H;rw [Bool.and_eq_true,Bool.and_eq_true] at H;obtain ⟨⟨h0,h1⟩,H⟩:=H;rw [Bool.and_eq_true] at h1;have h0:=Nat.le_of_ble_eq_true h0;rw [List.length_map] at h0 H
 have key:∀ {j:Nat} {oj:Oper},ops[j]? =some oj->(oj.after.all (λed=> !Region.binds .any ed || Nat.blt ed.on j)=true/\(!Nat.blt j m || (A.map Alv.d).all λd=> !(oj.looksAt ops).contains d && oj.dst != some d)=true)/\
  ((List.range j).all λi=>match ops[i]? with
    | none=>false
    | some oi=>match isA m A.length i,isA m A.length j with
      | false,false=>ahead ops i j || indep true ops oi oj
      | true,false=>ahead ops i j
      | _,true=>true)=true:=by
  intro j oj hj
  have hlt:j < ops.size:=(Array.getElem?_eq_some_iff.1 hj).1
  have H:=List.all_eq_true.1 H j<|List.mem_range.2 hlt
  simp only [hj,Bool.and_eq_true] at H
  exact H
 refine ⟨h0,λj oj hj ed hed hbd=>?_,λi j oi oj hi hj hij hoi hoj=>?_,λi j oj Ae Af hj hoj=>?_,λj oj hj hoj=>?_,of_decide_eq_true h1.1,λq a ha=>?_⟩
 ·have:=Array.all_eq_true_iff_forall_mem.1 (key hj).1.1 ed hed;rw [hbd] at this;exact BI6 (by simpa using this)
 ·have:=List.all_eq_true.1 (key hoj).2 i<|List.mem_range.2 hij;simp only [hoi,A46 hi,A46 hj,Bool.or_eq_true] at this;rcases this with h | h
  ·exact .inl<|Axb h
  ·exact .inr h
 ·have hij:i < j:=by omega
  have hs:i < ops.size:=Nat.lt_trans hij (Array.getElem?_eq_some_iff.1 hoj).1;have:=List.all_eq_true.1 (key hoj).2 i<|List.mem_range.2 hij;simp only [Array.getElem?_eq_getElem hs,BBm.2 ⟨Ae,Af⟩,A46<|.inr hj] at this;exact Axb this
 ·have:=(key hoj).1.2;have hb:Nat.blt j m=true:=Nat.ble_eq_true_of_le hj;rw [hb,Bool.not_true,Bool.false_or] at this
  have h2:∀ a∈A,a.d ∉ oj.looksAt ops/\oj.dst≠some a.d:=λa ha=>by
   have:=List.all_eq_true.1 this a.d<|List.mem_map.2 ⟨a,ha,rfl⟩
   simpa using this
  exact ⟨λa ha=>(h2 a ha).1,λa ha=>(h2 a ha).2⟩
 ·have hq:q < A.length:=(List.getElem?_eq_some_iff.1 ha).1;have h2:=List.all_eq_true.1 h1.2 q<|List.mem_range.2 (by simpa using hq);have h3:ops[m + q]? =some (ops[m + q]'AOq):=Array.getElem?_eq_getElem AOq;simp only [h3,List.getElem?_map,ha,Option.map_some,beq_iff_eq] at h2;exact ⟨_,h3,h2⟩
variable {Q:Exit->Env->AO2->Prop} {e:Env} {h:AO2}
theorem A02 {id:Nat} {l:List Oper} (m:Nat) (A:List Alv) (hBx:∀ h h',B h->Ext h h'->B h') (hok:BJg l.toArray m (A.map Alv.d)=true) (hB:B h) (hal:BMe P B l.toArray m A) (H:HRf P B l.toArray (l.take m) e h (λ_=>True) (KA A h λbl e' h'=>RL P B true l.toArray (l.drop<|m + A.length) (setO A (bl.map some) e') h'<|Q .normal)):W P (.region id l.toArray true) Q e h:=by
 intro hmx n id a w Q' hb r hw hQ;subst hw;have S:=BGu hok;have hle:=S.le;simp only [List.size_toArray] at hle;have hsz:l.toArray.size=l.length:=by simp
 have Ad:∀ (s n:Nat),s + n<=l.length->(List.range' s n).map (λi=>l.toArray[i]?)=((l.drop s).take n).map some:=by
  intro s n hn
  apply List.ext_getElem?
  intro k
  simp only [List.getElem?_map,List.getElem?_take,List.getElem?_drop]
  by_cases hk:k < n
  ·rw [List.getElem?_range' hk,if_pos hk]
   have:s + k < l.length:=by omega
   simp [this]
  ·rw [if_neg hk,List.getElem?_eq_none (by simp;omega)]
   rfl
 refine wp_region_draw λt=>?_;simp only [Region.schedule,hmx,Bool.true_or,if_true]
 have hs:List.range l.toArray.size=List.range m ++ (List.range' m A.length ++ List.range' (m + A.length) (l.length - (m + A.length))):=by
  rw [hsz,List.range_eq_range',List.range_eq_range']
  rw [List.range'_append_1]
  have:List.range' m (A.length + (l.length - (m + A.length)))=List.range' (0 + m) (A.length + (l.length - (m + A.length))):=by rw [Nat.zero_add]
  rw [this,List.range'_append_1]
  congr 1
  omega
 have htl:((l.drop<|m + A.length).take (l.length - (m + A.length)))=l.drop (m + A.length):=List.take_of_length_le Ah6
 have Hi:HI P B l.toArray (List.range m) e w.heap (λ_=>True) (KA A w.heap λbl e' h'=>LI P B true l.toArray (List.range' (m + A.length)<|l.length - (m + A.length)) (setO A (bl.map some) e') h' λe2 h2=>Q .normal e2 h2/\ ∀ t,(∀ o∈l,o.dst≠some t)->e2 t=e t):=by
  refine BJc (List.range m) (l.take m) (by rw [List.range_eq_range'];have:=Ad 0 m AOq;simpa using this) e w.heap _ ?_
  have frame:∀ (L:List Oper) (e:Env) (h:AO2) (N:Nat->Prop) (K K':Env->AO2->(Nat->Prop)->Prop),(∀ e1 h N,(∀ t,(∀ o∈L,o.dst≠some t)->e1 t=e t)->K e1 h N->K' e1 h N)->HRf P B l.toArray L e h N K->HRf P B l.toArray L e h N K':=by
   intro L
   induction L with
   | nil=>intro e h N K K' hK H h' E;exact hK _ _ _ (λt _=>rfl) (H h' E)
   | cons o L ih=>
     intro e h N K K' hK H
     have put:∀ v t,(∀ o'∈o :: L,o'.dst≠some t)->e.put o.dst v t=e t:=λv t ht=>by
      cases hd:o.dst with
      | none=>rfl
      | some d=>exact Env.set_other _ _ λhe=>ht o (List.mem_cons_self ..) (by rw [hd,he])
     simp only [HRf] at H ⊢
     cases he:Avv o with
     | true=>simp only [he,cond_true] at H ⊢;exact λh1 E=>(H h1 E).mono λv h' hh=>⟨hh.1,ih _ _ _ _ _ (λe1 h2 N2 hf hk=>hK _ _ _ (λt ht=>(hf t λo' ho'=>ht o'<|List.mem_cons_of_mem _ ho').trans (put v t ht)) hk) hh.2⟩
     | false=>simp only [he,cond_false] at H ⊢;exact H.mono λv h' hh=>ih _ _ _ _ _ (λe1 h2 N2 hf hk=>hK _ _ _ (λt ht=>(hf t λo' ho'=>ht o'<|List.mem_cons_of_mem _ ho').trans (put v t ht)) hk) hh
  refine frame _ _ _ _ _ _ (λe1 h1 N1 hf hk bl b1 b2 b3=>?_) H
  refine A44 _ (l.drop<|m + A.length) ?_ _ _<|RL.mono (λe2 h2 hq=>⟨hq.1,λt ht=>?_⟩)<|RL.frame0<|hk bl b1 b2 b3
  ·rw [Ad _ _ AOq,htl]
  ·rw [hq.2 t λo ho=>ht o<|List.mem_of_mem_drop ho,BMd,hf t λo ho=>ht o<|List.mem_of_mem_take ho]
   intro x hx he
   obtain ⟨q,Aj⟩:=List.getElem?_of_mem hx
   obtain ⟨o,ho,hd⟩:=S.al q x Aj
   exact ht o (List.mem_of_getElem?<|by simpa using ho) (by rw [hd,he])
 refine wpAny_sound l.toArray.size t _ a _ (BJf (B:=B) (T:=List.range' (m + A.length)<|l.length - (m + A.length)) S hb hBx hal (λj hj=>(List.mem_range'_1.1 hj).1) l.toArray.size (List.range m) (List.range' m A.length) (List.replicate A.length none) (Array.replicate l.toArray.size false) e a { w with drawn:=w.drawn + 1 } (λ_=>True) (λj hj=>List.mem_range.1 hj)
  (λj hj=>by
    have:=List.mem_range'_1.1 hj
    exact ⟨this.1,this.2,by rw [List.getElem?_replicate,if_pos AOq]⟩)
  (λq hq=>by
    rw [List.getElem?_replicate] at hq
    split at hq
    ·exact List.mem_range'_1.2 ⟨AOq,AOq⟩
    ·cases hq)
  Ah6 (by rw [<- hs];simp) (by rw [<- hs];exact BGl l.toArray) (by rw [BGr];exact r) (Ext.refl _) hB
  (λq b x hq hx=>by rw [List.getElem?_replicate] at hq;split at hq <;> cases hq) (λq q' b hq=>by rw [List.getElem?_replicate] at hq;split at hq <;> cases hq) (λb _=>trivial) Hi
  (λe' a' w' r' s k=>hQ e' a' w' r' ⟨s.os,s.tape,s.output⟩ k.1 λt ht=>k.2 t λo ho=>ht o<|by simpa using ho))
variable {K:Env->AO2->(Nat->Prop)->Prop} {N:Nat->Prop}
theorem h_l {o:Oper} {l:List Oper} (hl:Avv o=false) (H:RL P B true ops [o] e h λe' h'=>HRf P B ops l e' h' N K):HRf P B ops (o :: l) e h N K:=by
 simp only [HRf,hl,cond_false];exact H
theorem h_e {o:Oper} {l:List Oper} (hl:Avv o=true) (H:∀ h1,Ext h h1->RL P B true ops [o] e h1 λe' h'=>Ext h1 h'/\HRf P B ops l e' h' (λb=>N b/\Off h1.size h'.size b) K):HRf P B ops (o :: l) e h N K:=by
 simp only [HRf,hl,cond_true];exact H
theorem A7h (H:∀ h1,Ext h h1->K e h1 N):HRf P B ops [] e h N K:=H
theorem BMf {a:Alv} {G:List Nat->Env->AO2->Prop} (H:∀ b,Akd a.t h b a.z->h0.size<=b->N b->G [b] e h):KA [a] h0 G e h N:=by
 intro bl hl hn hb
 match bl,hl with
 | [b],_=>
   obtain ⟨h1,h2,h3⟩:=hb 0 b a rfl rfl
   exact H b h1 h2 h3
theorem BPk {a c:Alv} {G:List Nat->Env->AO2->Prop} (H:∀ b d,Akd a.t h b a.z->Akd c.t h d c.z->b≠d->h0.size<=b->h0.size<=d->N b->N d->G [b,d] e h):KA [a,c] h0 G e h N:=by
 intro bl hl hn hb
 match bl,hl with
 | [b,d],_=>
   obtain ⟨h1,h2,h3⟩:=hb 0 b a rfl rfl
   obtain ⟨g1,g2,g3⟩:=hb 1 d c rfl rfl
   exact H b d h1 g1 (λhe=>by simp [he] at hn) h2 g2 h3 g3
theorem BDf {d:Nat} {z:Value} {pos:String} {af:Array Edge} {l:List Value} (hz:ZeT P t z bytes) (hl:z.cells=l.toArray) (hBx:∀ h h',B h->Ext h h'->B h') (e:Env) (h:AO2) (hb:B h):GOp P B true ops ⟨some d,.alloc t,ty,pos,af,none⟩ e h λe' h'=> ∃ b,e'=e.set d (A25 b)/\Ext h h'/\Akd t h' b l/\h.size<=b:=
 A2a (rest:=[]) (K:=λe' h'=> ∃ b,e'=e.set d (A25 b)/\Ext h h'/\Akd t h' b l/\h.size<=b) l hz hl hb (λh' E=>hBx _ _ hb E) λb h' hx E S=>⟨b,rfl,E,hx,(S.lo 0 rfl b Ah6).1⟩
theorem A9y {m:Nat} {a:Alv} {pos:String} {af:Array Edge} {z:Value} (ho:ops[m]? =some ⟨some a.d,.alloc a.t,ty,pos,af,none⟩) (hz:ZeT P a.t z bytes) (hl:z.cells=a.z.toArray) (hBx:∀ h h',B h->Ext h h'->B h'):BMe P B ops m [a]:=by
 intro q x o hq hoq e h hb
 match q,hq with
 | 0,hq=>
   cases hq
   rw [Nat.add_zero,ho] at hoq
   cases hoq
   exact BDf hz hl hBx e h hb
theorem BDg {m:Nat} {a c:Alv} {ty':TypeId} {pos pos':String} {af af':Array Edge} {bytes':Nat} {z z':Value} (ho:ops[m]? =some ⟨some a.d,.alloc a.t,ty,pos,af,none⟩) (ho':ops[m + 1]? =some ⟨some c.d,.alloc c.t,ty',pos',af',none⟩) (hz:ZeT P a.t z bytes) (hl:z.cells=a.z.toArray) (hz':ZeT P c.t z' bytes') (hl':z'.cells=c.z.toArray) (hBx:∀ h h',B h->Ext h h'->B h'):BMe P B ops m [a,c]:=by
 intro q x o hq hoq e h hb
 match q,hq with
 | 0,hq=>
   cases hq
   rw [Nat.add_zero,ho] at hoq
   cases hoq
   exact BDf hz hl hBx e h hb
 | 1,hq=>
   cases hq
   rw [ho'] at hoq
   cases hoq
   exact BDf hz' hl' hBx e h hb
theorem BDh {b d:Nat} (h1:h.size<=b) (h2:h.size<=d) (h3:b < h'.size) (h4:d < h'.size) (hne:b≠d):Sp h' h.size [[b],[d]]:=⟨by simp [hne],λx hx=>by simp at hx;omega⟩
end
end Go.QF
namespace Go.QF
open Go
def A52 (h:AO2) (v:Value) (n d:Int):Prop:= ∃ c1 c2,v= .agg (c1 ++ c2).toArray/\cZ.rep h n c1/\cZ.rep h d c2
theorem Ajf {n:Int} (H1:cZ.rep h n c1) (H2:cZ.rep h' d c2):(c1 ++ c2).length=4:=by
 rw [List.length_append,cZ.klen H1,cZ.klen H2];rfl
theorem Aub {n:Int} (H1:cZ.rep h n c1) (H2:cZ.rep h' d c2):∀ u∈c1 ++ c2,isOne u=true:=λu hu=>
 (List.mem_append.1 hu).elim (cZ.one H1 u) (cZ.one H2 u)
theorem Akd.aggL {b:Nat} {l l2:List Value} (H:Akd t h b (l ++ l2)):∀ i u,l[i]? =some u->Al9 h ((⟨b,0,none⟩:Addr).add i)=some u:=by
 intro i u hu;refine H.agg i u ?_;grind
theorem Akd.aggR {b:Nat} {l l2:List Value} (H:Akd t h b (l ++ l2)) (hl:l.length=2):∀ i u,l2[i]? =some u->Al9 h ((⟨b,2,none⟩:Addr).add i)=some u:=by
 intro i u hu;have h1:=H.cell (i:=2 + i) (u:=u) (by grind);rw [Anl];exact h1
theorem BBn {z:Int} {cs:List Value} (H:cZ.rep h z cs):∃ b a n c,cs=[.bool b,.slice a n c]:=by
 obtain ⟨hl,n,s,L,h1,h2,h3⟩:=H;obtain ⟨a,m,c,rfl,_⟩:=h2.cap;grind
end Go.QF
namespace Go.Proofs.YtkakafabeobahaaGreatDoor
open Go Go.QF
theorem An2:AgT Tryz.prog 158 4:=A3l Tryz.underlying158 rfl AO4
theorem Axr:ZeT Tryz.prog 158 (.agg #[.bool false,.slice none 0 0,.bool false,.slice none 0 0]) 64:=Azk AO4
theorem A6c:FdT Tryz.prog 158 0 0 129:=⟨_,_,Tryz.underlying158,rfl,rfl,rfl⟩
theorem A2v:FdT Tryz.prog 158 1 2 129:=⟨_,_,Tryz.underlying158,rfl,rfl,rfl⟩
theorem BDi (w:World):(Instr.build 158 #[]).run Tryz.prog w= .ok (.agg #[.bool false,.slice none 0 0,.bool false,.slice none 0 0]) w:=by kernel_rfl
theorem BDj (b b':Bool) (a a':Option Addr) (n n' c c':Nat) (w:World):(Instr.build 158 #[(0,.agg #[.bool b,.slice a n c]),(1,.agg #[.bool b',.slice a' n' c'])]).run Tryz.prog w= .ok (.agg #[.bool b,.slice a n c,.bool b',.slice a' n' c']) w:=by kernel_rfl
theorem A2w {n:Int} (H1:cZ.rep h n c1) (H2:cZ.rep h' d c2) (w:World):(Instr.build 158 #[(0,.agg c1.toArray),(1,.agg c2.toArray)]).run Tryz.prog w= .ok (.agg (c1 ++ c2).toArray) w:=by
 obtain ⟨b,a,n,c,rfl⟩:=BBn H1;obtain ⟨b',a',n',c',rfl⟩:=BBn H2;exact BDj _ _ _ _ _ _ _ _ w
end Go.Proofs.YtkakafabeobahaaGreatDoor
namespace Go.Proofs.YtkakafabeobahaaGreatDoor
open Go Go.QF
set_option maxRecDepth 100000
structure Asr where
 F:List Nat
 P:AO2->Prop
 up:∀ {G:List Nat} {h h':AO2},UpT G h h'->(∀ b∈F,b ∉ G)->P h->P h'
def aZ (cs:List Value) (x:Int):Asr:=⟨[],λh=>cZ.rep h x cs,λU _ H=>cZ.upT H U⟩
def aB (t b:Nat) (l:List Value):Asr:=⟨[b],λh=>Akd t h b l,λU d H=>H.upT U d⟩
def aO {α:Type} (c:Cod α) (el:Nat) (F:List Nat) (v:Value) (x:List α):Asr:=⟨F,λh=>OwC c el h F v x,λU d H=>H.upT U d⟩
def aO2 {α:Type} (c:Cod α) (er el:Nat) (F:List Nat) (Gs:List (List Nat)) (rs:List Value) (v:Value) (x:List (List α)):Asr:=⟨F,λh=>Aj1 c er el h F Gs rs v x,λU d H=>H.upT U d⟩
def aC (p:Prop):Asr:=⟨[],λ_=>p,λ_ _ H=>H⟩
def A2d (h:AO2):List Asr->Prop
 | []=>True
 | a :: l=>a.P h/\A2d h l
def fps:List Asr->List (List Nat)
 | []=>[]
 | a :: l=>a.F :: fps l
def Ar4:List Asr->Nat->Asr
 | [],_=>aC True
 | a :: _,0=>a
 | _ :: l,i + 1=>Ar4 l i
def Aoz (l:List Asr):List Nat->List Asr
 | []=>[]
 | i :: is=>Ar4 l i :: Aoz l is
theorem BMg (l m:List Asr):fps (l ++ m)=fps l ++ fps m:=by
 induction l with
 | nil=>rfl
 | cons a l ih=>simp [fps,ih]
theorem Avo {l:List Asr} {a:Asr} (h:l[i]? =some a):(fps l)[i]? =some a.F:=by
 induction l generalizing i with
 | nil=>simp at h
 | cons b l ih=>
   cases i with
   | zero=>simp at h;subst h;rfl
   | succ i=>exact ih (by simpa using h)
theorem A4j {l:List Asr} {a:Asr}:fps (l.set i a)=(fps l).set i a.F:=by
 induction l generalizing i with
 | nil=>rfl
 | cons b l ih=>
   cases i with
   | zero=>rfl
   | succ i=>simp [fps,ih]
theorem BMh (l:List Asr) (i:Nat):(Ar4 l i).F=((fps l)[i]?).getD []:=by
 induction l generalizing i with
 | nil=>rfl
 | cons a l ih=>
   cases i with
   | zero=>rfl
   | succ i=>exact ih i
theorem BMi (l:List Asr) (is:List Nat):fps (Aoz l is)=is.map λi=>((fps l)[i]?).getD []:=by
 induction is with
 | nil=>rfl
 | cons i is ih=>simp [Aoz,fps,ih,BMh]
theorem Asi {l:List Asr} (H:A2d h l) {a:Asr} (e:l[i]? =some a):a.P h:=by
 induction l generalizing i with
 | nil=>simp at e
 | cons b l ih=>
   cases i with
   | zero=>simp at e;subst e;exact H.1
   | succ i=>exact ih H.2 (by simpa using e)
theorem BJh {l:List Asr} (H:A2d h l) (i:Nat):(Ar4 l i).P h:=by
 induction l generalizing i with
 | nil=>exact trivial
 | cons b l ih=>
   cases i with
   | zero=>exact H.1
   | succ i=>exact ih H.2 i
theorem BJi {l m:List Asr} (H:A2d h l) (K:A2d h m):A2d h (l ++ m):=by
 induction l with
 | nil=>exact K
 | cons b l ih=>exact ⟨H.1,ih H.2⟩
theorem BE2 {l:List Asr} (H:A2d h l) (U:UpT G h h') (d:∀ F∈fps l,∀ b∈F,b ∉ G):A2d h' l:=by
 induction l with
 | nil=>exact trivial
 | cons b l ih=>exact ⟨b.up U (d _<|by simp [fps]) H.1,ih H.2 λF hF=>d F<|by simp [fps,hF]⟩
theorem BBo {l:List Asr} {a a':Asr} {lo:Nat} (H:A2d h l) (S:Sp h lo (fps l)) (e:l[i]? =some a) (U:UpT a.F h h') (Ha:a'.P h'):A2d h' (l.set i a'):=by
 have key:∀ (m:List Asr) (q:Nat),(∀ j x,m[j]? =some x->j≠q-> ∀ b∈x.F,b ∉ a.F)->A2d h m->A2d h' (m.set q a'):=by
  intro m
  induction m with
  | nil=>intro q _ _;exact trivial
  | cons x m ih=>
    intro q hd hm
    cases q with
    | zero=>
      refine ⟨Ha,BE2 hm.2 U λF hF b hb=>?_⟩
      have:∃ (j:Nat) (y:Asr),m[j]? =some y/\y.F=F:=by
       clear ih hd hm e
       induction m with
       | nil=>simp [fps] at hF
       | cons y m ih=>
         simp only [fps,List.mem_cons] at hF
         rcases hF with rfl | hF
         ·exact ⟨0,y,rfl,rfl⟩
         ·obtain ⟨j,z,h1,h2⟩:=ih hF
          exact ⟨j + 1,z,by simpa using h1,h2⟩
      obtain ⟨j,y,h1,rfl⟩:=this
      exact hd (j + 1) y (by simpa using h1) AOq b hb
    | succ q=>
      refine ⟨x.up U (hd 0 x rfl AOq) hm.1,ih q (λj y hj hn=>hd (j + 1) y (by simpa using hj) AOq) hm.2⟩
 exact key l i (λj x hj hn=>S.dj j i (Avo hj) (Avo e) hn) H
theorem A8p {l:List Asr} (H:A2d h l) (j:Nat):A2d h (l.set j<|aC True):=by
 induction l generalizing j with
 | nil=>exact trivial
 | cons a l ih=>
   cases j with
   | zero=>exact ⟨trivial,H.2⟩
   | succ j=>exact ⟨H.1,ih H.2 j⟩
theorem _root_.Go.QF.Sp.appF {lo:Nat} {Fs Ks:List (List Nat)} (S:Sp h lo Fs) (S':Sp h' h.size Ks) (hs:h.size<=h'.size) (hl:lo<=h.size):Sp h' lo (Ks ++ Fs):=by
 have A:=S.app S' hs hl;refine ⟨?_,λb hb=>A.2 b<|by grind⟩;have:=A.1;grind
theorem _root_.Go.QF.Sp.put2 {lo:Nat} {Fs:List (List Nat)} (S:Sp h lo Fs) (i j:Nat) (hi:Fs[i]? =some F) (hj:Fs[j]? =some R) (hij:i≠j) (hn:F'.Nodup) (hs:h.size<=h'.size) (hl:lo<=h.size) (hF:∀ x∈F',x < h'.size) (hsub:∀ x∈F',x∈F∨x∈R∨h.size<=x):Sp h' lo ((Fs.set j []).set i F'):=by
 have S1:=S.put j hj List.nodup_nil (Nat.le_refl _) hl (λx hx=>by simp at hx) (λx hx=>by simp at hx)
 have at':∀ {k:Nat} {G:List Nat} {x:Nat},(Fs.set j [])[k]? =some G->x∈G->k≠j/\Fs[k]? =some G:=λ{k G x} hG hx=>by
  grind
 refine ⟨Awi S1.1 hn λx hx k G hk hG hxG=>?_,λb hb=>?_⟩
 ·obtain ⟨hkj,hG⟩:=at' hG hxG;rcases hsub x hx with h1 | h1 | h1
  ·exact S.dj i k hi hG (λhe=>hk he.symm) x h1 hxG
  ·exact S.dj j k hj hG (λhe=>hkj he.symm) x h1 hxG
  ·have:=(S.lo k hG x hxG).2;omega
 ·rcases Atd hb with h1 | ⟨k,G,hk,hG,hb⟩
  ·refine ⟨?_,hF b h1⟩;rcases hsub b h1 with h2 | h2 | h2
   ·exact (S.lo i hi b h2).1
   ·exact (S.lo j hj b h2).1
   ·omega
  ·obtain ⟨_,hG⟩:=at' hG hb;have:=S.lo k hG b hb;omega
def Rep (i:Nat) (l:List Asr) (a a':Asr) (l':List Asr):Prop:=l[i]? =some a/\l'=l.set i a'
theorem p0 {a a':Asr} {l:List Asr}:Rep 0 (a :: l) a a' (a' :: l):=⟨rfl,rfl⟩
theorem p1 {x0 a a':Asr} {l:List Asr}:Rep 1 (x0 :: a :: l) a a' (x0 :: a' :: l):=⟨rfl,rfl⟩
theorem p2 {x0 x1 a a':Asr} {l:List Asr}:Rep 2 (x0 :: x1 :: a :: l) a a' (x0 :: x1 :: a' :: l):=⟨rfl,rfl⟩
theorem p3 {x0 x1 x2 a a':Asr} {l:List Asr}:Rep 3 (x0 :: x1 :: x2 :: a :: l) a a' (x0 :: x1 :: x2 :: a' :: l):=⟨rfl,rfl⟩
theorem p4 {x0 x1 x2 x3 a a':Asr} {l:List Asr}:Rep 4 (x0 :: x1 :: x2 :: x3 :: a :: l) a a' (x0 :: x1 :: x2 :: x3 :: a' :: l):=⟨rfl,rfl⟩
theorem p5 {x0 x1 x2 x3 x4 a a':Asr} {l:List Asr}:Rep 5 (x0 :: x1 :: x2 :: x3 :: x4 :: a :: l) a a' (x0 :: x1 :: x2 :: x3 :: x4 :: a' :: l):=⟨rfl,rfl⟩
theorem p6 {x0 x1 x2 x3 x4 x5 a a':Asr} {l:List Asr}:Rep 6 (x0 :: x1 :: x2 :: x3 :: x4 :: x5 :: a :: l) a a' (x0 :: x1 :: x2 :: x3 :: x4 :: x5 :: a' :: l):=⟨rfl,rfl⟩
theorem p7 {x0 x1 x2 x3 x4 x5 x6 a a':Asr} {l:List Asr}:Rep 7 (x0 :: x1 :: x2 :: x3 :: x4 :: x5 :: x6 :: a :: l) a a' (x0 :: x1 :: x2 :: x3 :: x4 :: x5 :: x6 :: a' :: l):=⟨rfl,rfl⟩
theorem p8 {x0 x1 x2 x3 x4 x5 x6 x7 a a':Asr} {l:List Asr}:Rep 8 (x0 :: x1 :: x2 :: x3 :: x4 :: x5 :: x6 :: x7 :: a :: l) a a' (x0 :: x1 :: x2 :: x3 :: x4 :: x5 :: x6 :: x7 :: a' :: l):=⟨rfl,rfl⟩
theorem p9 {x0 x1 x2 x3 x4 x5 x6 x7 x8 a a':Asr} {l:List Asr}:Rep 9 (x0 :: x1 :: x2 :: x3 :: x4 :: x5 :: x6 :: x7 :: x8 :: a :: l) a a' (x0 :: x1 :: x2 :: x3 :: x4 :: x5 :: x6 :: x7 :: x8 :: a' :: l):=⟨rfl,rfl⟩
theorem p10 {x0 x1 x2 x3 x4 x5 x6 x7 x8 x9 a a':Asr} {l:List Asr}:Rep 10 (x0 :: x1 :: x2 :: x3 :: x4 :: x5 :: x6 :: x7 :: x8 :: x9 :: a :: l) a a' (x0 :: x1 :: x2 :: x3 :: x4 :: x5 :: x6 :: x7 :: x8 :: x9 :: a' :: l):=⟨rfl,rfl⟩
theorem p11 {x0 x1 x2 x3 x4 x5 x6 x7 x8 x9 Ak a a':Asr} {l:List Asr}:Rep 11 (x0 :: x1 :: x2 :: x3 :: x4 :: x5 :: x6 :: x7 :: x8 :: x9 :: Ak :: a :: l) a a' (x0 :: x1 :: x2 :: x3 :: x4 :: x5 :: x6 :: x7 :: x8 :: x9 :: Ak :: a' :: l):=⟨rfl,rfl⟩
theorem p13 {x0 x1 x2 x3 x4 x5 x6 x7 x8 x9 Ak Am Ao a a':Asr} {l:List Asr}:Rep 13 (x0 :: x1 :: x2 :: x3 :: x4 :: x5 :: x6 :: x7 :: x8 :: x9 :: Ak :: Am :: Ao :: a :: l) a a' (x0 :: x1 :: x2 :: x3 :: x4 :: x5 :: x6 :: x7 :: x8 :: x9 :: Ak :: Am :: Ao :: a' :: l):=⟨rfl,rfl⟩
structure Kst (h0 h:AO2) (l:List Asr):Prop where
 x:Ext h0 h
 s:Sp h h0.size (fps l)
 p:A2d h l
namespace Kst
variable {h0 h h':AO2} {l l':List Asr}
abbrev L (_:Kst h0 h l):List Asr:=l
theorem k0 (h:AO2):Kst h h []:=⟨Ext.refl h,BPc _ _,trivial⟩
theorem z (k:Kst h0 h l) {cs:List Value} {x:Int} (e:Rep i l (aZ cs x) (aZ cs x) l'):cZ.rep h x cs:=Asi k.p e.1
theorem b (k:Kst h0 h l) {i t b:Nat} {c:List Value} (e:Rep i l (aB t b c) (aB t b c) l'):Akd t h b c:=Asi k.p e.1
theorem o {c:Cod α} (k:Kst h0 h l) {x:List α} (e:Rep i l (aO c el F v x) (aO c el F v x) l'):OwC c el h F v x:=Asi k.p e.1
theorem o2 {c:Cod α} (k:Kst h0 h l) {x:List (List α)} (e:Rep i l (aO2 c er el F Gs rs v x) (aO2 c er el F Gs rs v x) l'):Aj1 c er el h F Gs rs v x:=Asi k.p e.1
theorem c (k:Kst h0 h l) {p:Prop} (e:Rep i l (aC p) (aC p) l'):p:=Asi k.p e.1
theorem zx (k:Kst h0 h l) {cs:List Value} {x:Int} (H:cZ.rep h0 x cs):cZ.rep h x cs:=cZ.upT H k.x.upT
theorem lo (k:Kst h0 h l) {a:Asr} (e:Rep i l a a l'):∀ b∈a.F,h0.size<=b:=k.s.loAll i<|Avo e.1
theorem dj {l2:List Asr} (k:Kst h0 h l) {i j:Nat} {a b:Asr} (e:Rep i l a a l') (f:Rep j l b b l2) (hij:i≠j):∀ x∈a.F,x ∉ b.F:=k.s.dj i j (Avo e.1) (Avo f.1) hij
theorem e (k:Kst h0 h l) (E:Ext h h'):Kst h0 h' l:=⟨k.x.trans E,k.s.keep E.1,BE2 k.p E.upT λ_ _ _ _=>by simp⟩
theorem n (k:Kst h0 h l) (E:Ext h h') (m:List Asr) (S:Sp h' h.size (fps m)) (P:A2d h' m):Kst h0 h' (m ++ l):=⟨k.x.trans E,by rw [BMg];exact k.s.appF S E.1 k.x.1,BJi P (k.e E).p⟩
theorem nb (k:Kst h0 h l) (E:Ext h h') {b:Nat} {c:List Value} (S:Sp h' h.size [[b]]) (V:Akd t h' b c):Kst h0 h' (aB t b c :: l):=k.n E [aB t b c] S ⟨V,trivial⟩
theorem nb2 (k:Kst h0 h l) (E:Ext h h') {b t2 b2:Nat} {c:List Value} (S:Sp h' h.size [[b],[b2]]) (V:Akd t h' b c) (V2:Akd t2 h' b2 c2):Kst h0 h' (aB t b c :: aB t2 b2 c2 :: l):=k.n E [aB t b c,aB t2 b2 c2] S ⟨V,V2,trivial⟩
theorem no {c:Cod α} (k:Kst h0 h l) (E:Ext h h') {x:List α} (S:Sp h' h.size [F]) (V:OwC c el h' F v x):Kst h0 h' (aO c el F v x :: l):=k.n E [aO c el F v x] S ⟨V,trivial⟩
theorem no2 {c:Cod α} (k:Kst h0 h l) (E:Ext h h') {x:List (List α)} (S:Sp h' h.size [F]) (V:Aj1 c er el h' F Gs rs v x):Kst h0 h' (aO2 c er el F Gs rs v x :: l):=k.n E [aO2 c er el F Gs rs v x] S ⟨V,trivial⟩
theorem az (k:Kst h0 h l) {cs:List Value} {x:Int} (Z:cZ.rep h x cs):Kst h0 h (aZ cs x :: l):=k.n (Ext.refl h) [aZ cs x] (by exact ⟨by simp [fps,aZ],λb hb=>by simp [fps,aZ] at hb⟩) ⟨Z,trivial⟩
theorem anil (c:Cod α) (el:Nat) (k:Kst h0 h l):Kst h0 h (aO c el [] (.slice none 0 0) [] :: l):=k.n (Ext.refl h) [aO c el [] (.slice none 0 0) []] (by exact ⟨by simp [fps,aO],λb hb=>by simp [fps,aO] at hb⟩) ⟨BEm c el h,trivial⟩
theorem anil2 (c:Cod α) (er el:Nat) (k:Kst h0 h l):Kst h0 h (aO2 c er el [] [] [] (.slice none 0 0) [] :: l):=k.n (Ext.refl h) [aO2 c er el [] [] [] (.slice none 0 0) []] (by exact ⟨by simp [fps,aO2],λb hb=>by simp [fps,aO2] at hb⟩) ⟨BI1 c er el h,trivial⟩
theorem u (k:Kst h0 h l) {a a':Asr} (e:Rep i l a a' l') (U:UpT a.F h h') (Ha:a'.P h') (hn:a'.F.Nodup) (hF:∀ x∈a'.F,x < h'.size) (hs:∀ x∈a'.F,x∈a.F∨h.size<=x):Kst h0 h' l':=by
 obtain ⟨e,rfl⟩:=e;exact ⟨k.x.thenT U<|k.s.loAll i<|Avo e,by rw [A4j];exact k.s.put i (Avo e) hn U.size k.x.1 hF hs,BBo k.p k.s e U Ha⟩
theorem ub (k:Kst h0 h l) {b:Nat} {c:List Value} (e:Rep i l (aB t b c) (aB t b c') l') (U:UpT [b] h h') (V:Akd t h' b c'):Kst h0 h' l':=k.u e U V (by simp [aB]) (λx hx=>by simp [aB] at hx;subst hx;exact V.lt) λx hx=> .inl hx
theorem sb (k:Kst h0 h l) {b:Nat} {c:List Value} (e:Rep i l (aB t b c) (aB t b c') l') (U:Upd (· =b) h h') (V:Akd t h' b c') (ht:Nat.beq t 200=false):Kst h0 h' l':=k.ub e (V.stA U (Ani (Asi k.p e.1) ht) ht) V
theorem uo {c:Cod α} (k:Kst h0 h l) {x x':List α} (e:Rep i l (aO c el F v x) (aO c el F' v' x') l') (U:UpT F h h') (V:OwC c el h' F' v' x') (hs:∀ z∈F',z∈F∨h.size<=z):Kst h0 h' l':=k.u e U V V.nodup V.lt hs
theorem uO {c:Cod α} (k:Kst h0 h l) {x x':List α} (e:Rep i l (aO c el F v x) (aO c el F v' x') l') (U:UpT F h h') (V:OwC c el h' F v' x'):Kst h0 h' l':=k.uo e U V λ_ h=> .inl h
theorem uo2 {c:Cod α} (k:Kst h0 h l) {x x':List (List α)} (e:Rep i l (aO2 c er el F Gs rs v x) (aO2 c er el F' Gs' rs' v' x') l') (U:UpT F h h') (V:Aj1 c er el h' F' Gs' rs' v' x') (hs:∀ z∈F',z∈F∨h.size<=z):Kst h0 h' l':=k.u e U V V.nodup V.lt hs
theorem uO2 {c:Cod α} (k:Kst h0 h l) {x x':List (List α)} (e:Rep i l (aO2 c er el F Gs rs v x) (aO2 c er el F Gs' rs' v' x') l') (U:UpT F h h') (V:Aj1 c er el h' F Gs' rs' v' x'):Kst h0 h' l':=k.uo2 e U V λ_ h=> .inl h
theorem sel (k:Kst h0 h l) (is:List Nat) (hn:is.Nodup):Kst h0 h (Aoz l is):=
 ⟨k.x,by rw [BMi];exact k.s.sel is hn,by
  have:∀ is:List Nat,A2d h (Aoz l is):=λis=>by
   induction is with
   | nil=>exact trivial
   | cons i is ih=>exact ⟨BJh k.p i,ih⟩
  exact this is⟩
theorem m (k:Kst h0 h l) {l1:List Asr} {a a' r:Asr} (er:Rep j l r (aC True) l1) (e:Rep i l1 a a' l') (hij:i≠j) (U:UpT a.F h h') (Ha:a'.P h') (hn:a'.F.Nodup) (hF:∀ x∈a'.F,x < h'.size) (hs:∀ x∈a'.F,x∈a.F ++ r.F∨h.size<=x):Kst h0 h' l':=by
 obtain ⟨er,rfl⟩:=er;obtain ⟨e',rfl⟩:=e;have e:l[i]? =some a:=by grind
 have S1:Sp h h0.size (fps<|l.set j<|aC True):=by
  rw [A4j];exact k.s.put j (Avo er) List.nodup_nil (Nat.le_refl _) k.x.1 (λx hx=>by simp [aC] at hx) (λx hx=>by simp [aC] at hx)
 refine ⟨k.x.thenT U<|k.s.loAll i<|Avo e,?_,BBo (A8p k.p j) S1 e' U Ha⟩;rw [A4j,A4j];exact k.s.put2 i j (Avo e) (Avo er) hij hn U.size k.x.1 hF λx hx=>(hs x hx).elim (λh=>(List.mem_append.1 h).elim .inl λh=> .inr<|.inl h) λh=> .inr<|.inr h
theorem m2 {c:Cod α} (k:Kst h0 h l) {l1:List Asr} {w:Value} {x x':List (List α)} {y:List α} (er':Rep j l (aO c el R w y) (aC True) l1) (e:Rep i l1 (aO2 c er el F Gs rs v x) (aO2 c er el F' Gs' rs' v' x') l') (hij:i≠j) (U:UpT F h h') (V:Aj1 c er el h' F' Gs' rs' v' x') (hs:∀ z∈F',z∈F ++ R∨h.size<=z):Kst h0 h' l':=k.m er' e hij U V V.nodup V.lt hs
end Kst
end Go.Proofs.YtkakafabeobahaaGreatDoor
open Go
variable {a' x0:Go.Proofs.YtkakafabeobahaaGreatDoor.Asr} {l:List Go.Proofs.YtkakafabeobahaaGreatDoor.Asr}
namespace Go.Proofs.YtkakafabeobahaaGreatDoor
open Go Go.QF
set_option maxRecDepth 100000
theorem BRv (c1 c2 c3:Int) (c4:Bool) (c5 d1 d2 d3:Int) (d4:Bool) (d5:Int) (w:World):(Op.equal 49 (.agg #[.int .i64 c1,.int .i64 c2,.int .i64 c3,.bool c4,.int .i64 c5])<|.agg #[.int .i64 d1,.int .i64 d2,.int .i64 d3,.bool d4,.int .i64 d5]).run Tryz.prog w= .ok (decide ((c1,c2,c3,c4,c5)=(d1,d2,d3,d4,d5))) w:=by
 show (Op.equalIn (9998 + 1 + 1) _ _ _).run _ w=_;rw [Op.equalIn];simp [Au1 Tryz.underlying49,BA8 Aii,BA8 Als,BGh Axn,BC6 A2t];by_cases h1:c1=d1 <;> by_cases h2:c2=d2 <;> by_cases h3:c3=d3 <;> by_cases h4:c4=d4 <;> by_cases h5:c5=d5 <;> simp [h1,h2,h3,h4,h5]
end Go.Proofs.YtkakafabeobahaaGreatDoor
namespace Go.QF
open Go
theorem Aon:∀ u∈([]:List Value),isOne u=true:=λu h=>by cases h
theorem Aic {l:List Value} (h:isOne v=true) (H:∀ u∈l,isOne u=true):∀ u∈v :: l,isOne u=true:=λu hu=>(List.mem_cons.1 hu).elim (λe=>e ▸ h) (H u)
theorem BE3 {c:Cod α}:∀ h,Al c h ([]:List α) []:=λh=>BC7 c h
theorem BE4 {c:Cod α} {a:α} {cs:List Value} {L:List α} {Ls:List (List Value)} (h1:∀ h,c.rep h a cs) (H:∀ h,Al c h L Ls):∀ h,Al c h (a :: L) (cs :: Ls):=λh=>⟨by simp [(H h).1],λi x y hx hy=>by
 cases i with
 | zero=>simp at hx hy;subst hx;subst hy;exact h1 h
 | succ i=>exact (H h).2 i x y (by simpa using hx) (by simpa using hy)⟩
section
variable {P:Program} {B:AO2->Prop} {st:Bool} {ops:Array Oper} {rest:List Oper} {e:Env} {h:AO2} {K:Env->AO2->Prop} {d:Nat} {ty:TypeId} {pos:String} {af:Array Edge}
theorem BJj (c:Cod α) (L:List α) (Ls:List (List Value)) (vs:List (Nat × Value)) {n:Nat} {z:Value} (hT:SlT P t el c.k) (hz:ZeT P el z bytes) (hel:Nat.beq el 200=false) (hb:B h) (hBE:∀ h',Ext h h'->B h') (Ac:Nat.ble (n * c.k) 1000=true) (hpos:Nat.ble 1 (n * c.k)=true) (hp:(parts.map λ(i,x)=>(i,e.ev x))=vs) (hf:Instr.fill (λj=>some (j * c.k,c.k)) ((Array.range<|n * c.k).map (z.cells[· % z.cells.size]!)) vs=some Ls.flatten.toArray) (hl:Ls.length=n) (ha:∀ h,Al c h L Ls) (H:∀ b v h',OwC c el h' [b] v L->Ext h h'->h.size<=b->b < h'.size->RL P B st ops rest (e.set d v) h' K):RL P B st ops (⟨some d,.buildSlice t n parts.toArray,ty,pos,af,none⟩ :: rest) e h K:=by
 have Ac:=Nat.le_of_ble_eq_true Ac;have hpos:=Nat.le_of_ble_eq_true hpos
 have hk:∀ r∈Ls,r.length=c.k:=λr hr=>by
  obtain ⟨i,hi⟩:=List.getElem?_of_mem hr
  have h1:=(List.getElem?_eq_some_iff.1 hi).1
  exact c.klen<|(ha h).2 i r (L[i]'(by have:=(ha h).1;omega)) hi (List.getElem?_eq_getElem _)
 have E:Ext h (h.push<|.cells Ls.flatten.toArray el (0,0)):=Ale _ _;refine Awu rfl rfl hb λw hw=>?_;subst hw;obtain ⟨hu,i0,Aa,Ab⟩:=hT;obtain ⟨i,hi,hzz,hsz,hby⟩:=hz;rw [hi] at Aa;injection Aa with Aa;subst Aa;have h3: ¬ (n * i.size > 2 ^ 24):=by rw [Ab];omega
 have h4: ¬ (n * i.size=0):=by rw [Ab];omega
 have:(execOp e.ev ⟨some d,.buildSlice t n parts.toArray,ty,pos,af,none⟩).run P w= .ok (.value<|.slice (some ⟨w.heap.size,0,none⟩) n n) (w.alloc<|.cells Ls.flatten.toArray el):=by
  simp only [execOp,List.map_toArray]
  rw [hp]
  simp only [Instr.buildSlice,Sem.run_bind,Au1 hu,Result.andThen,Awt hi,if_neg h3,if_neg h4,BAw hi hzz]
  have Af:Sem.run P (pure z.cells:Sem (Array Value)) w= .ok z.cells w:=rfl
  simp only [Af,Ab]
  rw [hf]
  simp [newRow]
 rw [this];have hfl:Ls.flatten.length=n * c.k:=by rw [Awb hk,hl]
 exact ⟨⟨rfl,rfl,rfl⟩,hBE _ E,H w.heap.size _ _ (.inr ⟨w.heap.size,Ls,rfl,⟨n,Ls.flatten.toArray,by rw [hl],by
  show (w.heap.push<|.cells Ls.flatten.toArray el (0,0))[w.heap.size]? =_
  simp,AOq,by
  have:=c.pos;have:=Nat.le_mul_of_pos_right n c.pos;unfold maxLen;omega,by simpa using hfl,hk,by rw [List.take_of_length_le (by rw [hl];show Ls.flatten.length<=_;omega)]⟩,ha _,hel⟩) E (Nat.le_refl _) Ah6⟩
end
end Go.QF
namespace Go.QF
open Go
theorem BJk (l:List Value):(l.map λr=>[r]).flatten=l:=by
 induction l with
 | nil=>rfl
 | cons a L ih=>simp [ih]
def A5r {α:Type} (c:Cod α) (el:Nat) (h:AO2):List (List Nat)->List Value->List (List α)->Prop
 | [],[],[]=>True
 | G :: Gs,r :: rs,L :: M=>OwC c el h G r L/\A5r c el h Gs rs M
 | _,_,_=>False
theorem A5r.len {α:Type} {c:Cod α} {el:Nat} {h:AO2}:∀ {Gs:List (List Nat)} {rs:List Value} {M:List (List α)},A5r c el h Gs rs M->rs.length=M.length/\Gs.length=M.length
 | [],[],[],_=>⟨rfl,rfl⟩
 | G :: Gs,r :: rs,L :: M,H=>by have:=A5r.len H.2;simp [this.1,this.2]
theorem A5r.get {α:Type} {c:Cod α} {el:Nat} {h:AO2}:∀ {Gs:List (List Nat)} {rs:List Value} {M:List (List α)},A5r c el h Gs rs M-> ∀ (i:Nat) (G:List Nat) (r:Value) (L:List α),Gs[i]? =some G->rs[i]? =some r->M[i]? =some L->OwC c el h G r L
 | [],[],[],_,i,G,r,L,h1,_,_=>by simp at h1
 | G0 :: Gs,r0 :: rs,L0 :: M,H,0,G,r,L,h1,h2,h3=>by simp at h1 h2 h3;subst h1;subst h2;subst h3;exact H.1
 | G0 :: Gs,r0 :: rs,L0 :: M,H,i + 1,G,r,L,h1,h2,h3=>A5r.get H.2 i G r L (by simpa using h1) (by simpa using h2) (by simpa using h3)
section
variable {P:Program} {B:AO2->Prop} {st:Bool} {ops:Array Oper} {rest:List Oper} {e:Env} {h:AO2} {K:Env->AO2->Prop} {d:Nat} {ty:TypeId} {pos:String} {af:Array Edge}
theorem A8q {c:Cod α} (Gs:List (List Nat)) (rs:List Value) (M:List (List α)) {n:Nat} {z:Value} (hT:SlT P t er 1) (hz:ZeT P er z bytes) (h1:isOne z=true) (hel:Nat.beq er 200=false) (hb:B h) (hBE:∀ h',Ext h h'->B h') (hn:rs.length=n) (Aa:Nat.ble n 16777216=true) (hpos:Nat.ble 1 n=true) (hp:(parts.map λ(i,x)=>(i,e.ev x))=partsOf 0 rs) (hone:∀ u∈rs,isOne u=true) (hr:A5r c el h Gs rs M) (hnd:Gs.flatten.Nodup) (H:∀ b v h',Aj1 c er el h' (b :: Gs.flatten) Gs rs v M->Ext h h'->(∀ z∈b :: Gs.flatten,z∈Gs.flatten∨h.size<=z)->RL P B st ops rest (e.set d v) h' K):RL P B st ops (⟨some d,.buildSlice t n parts.toArray,ty,pos,af,none⟩ :: rest) e h K:=by
 have Aa:=Nat.le_of_ble_eq_true Aa;have E:Ext h (h.push<|.cells rs.toArray er (0,0)):=Ale _ _;have HO:Aqw (h.push<|.cells rs.toArray er (0,0)) er 1 h.size (.slice (some ⟨h.size,0,none⟩) n n) (rs.map λr=>[r]):=⟨n,rs.toArray,by rw [List.length_map,hn],Ah6,by simp [hn],by unfold maxLen;omega,by simp [hn],λr hr=>by obtain ⟨a,_,rfl⟩:=List.mem_map.1 hr;rfl,by rw [BJk];simp⟩
 have hlt:∀ z∈Gs.flatten,z < h.size:=λz hz=>by
  obtain ⟨G,hG,hzG⟩:=List.mem_flatten.1 hz
  obtain ⟨i,hi⟩:=List.getElem?_of_mem hG
  have hi':=(List.getElem?_eq_some_iff.1 hi).1
  have hl:=hr.len
  exact (hr.get i G (rs[i]'AOq) (M[i]'AOq) hi (List.getElem?_eq_getElem _)<|List.getElem?_eq_getElem _).lt z hzG
 refine BLl rs hT hz h1 hb hn Aa (Nat.le_of_ble_eq_true hpos) hp hone ⟨hBE _ E,H h.size _ _ (.inr ⟨h.size,rfl,?_,HO,hel,hr.len.1,hr.len.2,λi G r L a1 a2 a3=>(hr.get i G r L a1 a2 a3).ext E⟩) E λz hz=>?_⟩
 ·exact List.nodup_cons.2 ⟨λhm=>by have:=hlt _ hm;omega,hnd⟩
 ·rcases List.mem_cons.1 hz with rfl | h2
  ·exact .inr<|Nat.le_refl _
  ·exact .inl h2
end
end Go.QF
namespace Go.Proofs.YtkakafabeobahaaGreatDoor
open Go Go.QF
def aT (F:List Nat):Asr:=⟨F,λh=> ∀ b∈F,Ax2 h b,λ{G h h'} U d H b hb=>by
 obtain ⟨o,h1,h2⟩:=H b hb;exact ⟨o,(U.1.2 b (Array.getElem?_eq_some_iff.1 h1).1<|d b hb).trans h1,h2⟩⟩
theorem BRw {b c n x:Int} (h:gI [a,b,c] n=some x) (w:World):(Instr.index 168 (.agg #[.int .i64 a,.int .i64 b,.int .i64 c])<|.int .i64 n).run Tryz.prog w= .ok (.int .i64 x) w:=by
 obtain ⟨i,rfl,hi⟩:=Aom h;have:=(List.getElem?_eq_some_iff.1 hi).1;rcases (show i=0∨i=1∨i=2 by simp at this;omega) with rfl | rfl | rfl <;> (cases hi;show _=_;kernel_rfl)
namespace Kst
variable {h0 h h':AO2} {l l':List Asr}
theorem a0 (k:Kst h0 h l):Kst h0 h (aT [] :: l):=k.n (Ext.refl h) [aT []] (by exact ⟨by simp [fps,aT],λb hb=>by simp [fps,aT] at hb⟩) ⟨λb hb=>by simp at hb,trivial⟩
theorem grab {c:Cod α} {w:Value} {y:List α} (k:Kst h0 h (aT F :: l)) (e:Rep j l (aO c el R w y) (aC True) l'):Kst h0 h (aT (F ++ R) :: l'):=by
 obtain ⟨e,rfl⟩:=e;have HR:OwC c el h R w y:=Asi k.p.2 e;have e1:(fps (aT F :: l))[j + 1]? =some R:=(Avo e:(fps l)[j]? =some R);have e0:(fps (aT F :: l))[0]? =some F:=rfl;have hd:=k.s.dj 0 (j + 1) e0 e1 AOq;have hF:F.Nodup:=(List.nodup_append.1 k.s.1).1;have:=k.s.put2 0 (j + 1) (F':=F ++ R) e0 e1 AOq (List.nodup_append.2 ⟨hF,HR.nodup,λa ha b hb hab=>hd a ha<|hab ▸ hb⟩) (Nat.le_refl _) k.x.1 (λx hx=>(List.mem_append.1 hx).elim (λh=>(k.s.lo 0 e0 x h).2) λh=>HR.lt x h) λx hx=>(List.mem_append.1 hx).elim .inl λh=> .inr<|.inl h;refine ⟨k.x,?_,λb hb=>(List.mem_append.1 hb).elim (k.p.1 b) (HR.notD b),A8p k.p.2 j⟩
 have e2:fps (aT (F ++ R) :: l.set j (aC True))=((fps (aT F :: l)).set (j + 1) []).set 0 (F ++ R):=by
  show (F ++ R) :: fps (l.set j<|aC True)=_
  rw [A4j];rfl
 rw [e2];exact this
theorem ndT (k:Kst h0 h (aT F :: l)):F.Nodup:=(List.nodup_append.1 k.s.1).1
theorem lit {c:Cod α} {x:List (List α)} (k:Kst h0 h (aT F :: l)) (E:Ext h h') (V:Aj1 c er el h' F' Gs rs v x) (hs:∀ z∈F',z∈F∨h.size<=z):Kst h0 h' (aO2 c er el F' Gs rs v x :: l):=
 k.u p0 (E.upT.mono (λx hx=>by simp at hx) λx hx _=>k.p.1 x hx) V V.nodup V.lt hs
end Kst
end Go.Proofs.YtkakafabeobahaaGreatDoor
namespace Go.QF
open Go
theorem SlC.drop {α:Type} {c:Cod α} {h:AO2} {a:Option Addr} {n cap k:Nat} {L:List α} (H:SlC c h (.slice a n cap) L) (hk:k<=n) (hc:n<=cap):
 SlC c h (.slice (if cap=k then a else a.map (·.add<|k * c.k)) (n - k)<|cap - k) (L.drop k):=by
 obtain ⟨Ls,⟨a',cap',hv,hcell⟩,HA⟩:=H;injection hv with h1 h2 h3;subst h1;subst h2;subst h3
 refine ⟨Ls.drop k,⟨_,_,by rw [List.length_drop],λi r hr=>?_⟩,by simp [HA.1],λi cs x h1 h2=>?_⟩
 ·rw [List.getElem?_drop] at hr;have hl:=(List.getElem?_eq_some_iff.1 hr).1;obtain ⟨b,o,rfl,h2⟩:=hcell _ r hr
  refine ⟨b,o + k * c.k,?_,λj x hx=>?_⟩
  ·rw [if_neg AOq];simp [Addr.add]
  grind
 ·rw [List.getElem?_drop] at h1 h2;exact HA.2 _ cs x h1 h2
theorem SlC.take {α:Type} {c:Cod α} {h:AO2} {a:Option Addr} {n cap k:Nat} {L:List α} (H:SlC c h (.slice a n cap) L) (hk:k<=n):SlC c h (.slice a k cap) (L.take k):=by
 obtain ⟨Ls,⟨a',cap',hv,hcell⟩,HA⟩:=H;injection hv with h1 h2 h3;subst h1;subst h2;subst h3
 refine ⟨Ls.take k,⟨_,_,by rw [List.length_take,Nat.min_eq_left hk],λi r hr=>?_⟩,by simp [HA.1],λi cs x h1 h2=>?_⟩
 ·grind
 ·have hl:=(List.getElem?_eq_some_iff.1 h1).1;rw [List.getElem?_take_of_lt (by simp at hl;omega)] at h1 h2;exact HA.2 _ cs x h1 h2
theorem SlC.len {c:Cod α} {L:List α} (H:SlC c h v L):∃ a cap,v= .slice a L.length cap:=by
 obtain ⟨Ls,⟨a,cap,rfl,_⟩,HA⟩:=H;exact ⟨a,cap,by rw [HA.1]⟩
theorem OwC.cap {α:Type} {c:Cod α} {el:Nat} {h:AO2} {F:List Nat} {v:Value} {L:List α} (H:OwC c el h F v L):Auj v:=by
 rcases H with ⟨rfl,rfl,_⟩ | ⟨g,Ls,rfl,⟨cap,cur,rfl,_,h2,_⟩,_⟩
 ·exact A42
 ·exact ⟨_,_,_,rfl,h2⟩
theorem Aj1.rowCap {c:Cod α} {M:List (List α)} (H:Aj1 c er el h F Gs rs v M) {n:Int} {r:Value} {L:List α} (hr:rs[n.toNat]? =some r) (hL:gI M n=some L):Auj r:=by
 obtain ⟨m,rfl,hL0⟩:=Aom hL;rw [Int.toNat_natCast] at hr;obtain ⟨G,_,HR,_⟩:=H.row hr hL0;exact HR.cap
section
variable {P:Program} {B:AO2->Prop} {st:Bool} {ops:Array Oper} {rest:List Oper} {e:Env} {h:AO2} {K:Env->AO2->Prop} {d d' d2:Nat} {ty ty2 ty3:TypeId} {pos pos2 pos3:String} {af af2 af3:Array Edge}
theorem BGv {c:Cod α} {L:List α} {k:Int} (hT:SlT P t el c.k) (hx:e.ev x=v) (HS:SlC c h0 v L) (hc:Auj v) (hy:e.ev y= .int κ k) (hk:0<=k/\k<=L.length) (H:∀ v',(∀ {h1},SlC c h1 v L->SlC c h1 v' (L.drop k.toNat))->Auj v'->RL P B st ops rest (e.set d v') h K):RL P B st ops (⟨some d,.slice t x (some y) none none,ty,pos,af,none⟩ :: rest) e h K:=by
 obtain ⟨m,rfl⟩:∃ m:Nat,k=m:=⟨k.toNat,AOq⟩;obtain ⟨a,n,cp,rfl,hnc⟩:=hc;obtain ⟨a',c',hv⟩:=HS.len;injection hv with _ hn _;exact A6u hT hx hy AOq hnc<|H _ (λH1=>H1.drop AOq hnc) ⟨_,_,_,rfl,AOq⟩
theorem BMj {c:Cod α} {L:List α} {k:Int} (hT:SlT P t el c.k) (hx:e.ev x=v) (HS:SlC c h0 v L) (hc:Auj v) (hy:e.ev y= .int κ k) (hk:0<=k/\k<=L.length) (H:∀ v',(∀ {h1},SlC c h1 v L->SlC c h1 v' (L.take k.toNat))->Auj v'->RL P B st ops rest (e.set d v') h K):RL P B st ops (⟨some d,.slice t x none (some y) none,ty,pos,af,none⟩ :: rest) e h K:=by
 obtain ⟨m,rfl⟩:∃ m:Nat,k=m:=⟨k.toNat,AOq⟩;obtain ⟨a,n,cp,rfl,hnc⟩:=hc;obtain ⟨a',c',hv⟩:=HS.len;injection hv with _ hn _;exact BH3 hT hx hy AOq<|H _ (λH1=>H1.take AOq) ⟨_,_,_,rfl,AOq⟩
end
end Go.QF
namespace Go.Proofs.YtkakafabeobahaaGreatDoor
open Go Go.QF
section
variable {P:Program} {B:AO2->Prop} {st:Bool} {ops:Array Oper} {rest:List Oper} {e:Env} {h h0:AO2} {C:Env->AO2->Prop} {l l':List Asr} {d d2:Nat} {ty ty2:TypeId} {pos pos2:String} {af af2:Array Edge}
theorem Ai6 {f off ft b o:Nat} {c:List Value} {u:Value} (hf:FdT P t f off ft) (htl:NaT P tl) (HB:Akd tb h b c) (i:Nat) (hc:c[i]? =some u) (H:RL P B false ops rest ((e.set d<|.pointer<|some ⟨b,i,none⟩).set d2 u) h C) (hx:e.ev x= .pointer (some ⟨b,o,none⟩):=by rfl) (hi:o + off=i:=by rfl) (hs:((P.info? ft).map λq=>Nat.ble 1 q.size)=some true:=by kernel_rfl):
 RL P B false ops (⟨some d,.fieldAddr t x f,ty,pos,af,none⟩ :: ⟨some d2,.load tl<|.tmp d,ty2,pos2,af2,none⟩ :: rest) e h C:=by
 subst hi;obtain ⟨q,hq,hs2⟩:=Option.map_eq_some_iff.1 hs;have hs3:=Nat.le_of_ble_eq_true hs2;exact Anh (fs:=q.size) hf (by rw [hq];rfl) AOq hx<|Ahu htl (Env.set_same _ _ _) (HB.cell hc) H
theorem Aiw {c:Cod α} {i:Operand} {M:List (List α)} {n:Int} {L:List α} (hT:SlT P t el0 1) (htl:NaT P tl) (HO:Aj1 c er el h F Gs rs v M) (ha:gI M n=some L) (H:∀ p r,rs[n.toNat]? =some r->RL P B false ops rest ((e.set d p).set d2 r) h C) (hx:e.ev x=v:=by rfl) (hi:e.ev i= .int κ n:=by rfl):RL P B false ops (⟨some d,.indexAddr t x i,ty,pos,af,none⟩ :: ⟨some d2,.load tl<|.tmp d,ty2,pos2,af2,none⟩ :: rest) e h C:=
 Aij hT hx HO hi ha λb r _ hr hc=>Ahu htl (Env.set_same _ _ _) hc<|H _ r hr
theorem Atw {i:Operand} {r:Value} {M:List (List Int)} {m n:Int} {L:List Int} (hT:SlT P t el0 1) (htl:NaT P tl) (HO:Aj1 (cI κ') er el h F Gs rs v M) (hr:rs[m.toNat]? =some r) (hL:gI M m=some L) (ha:gI L n=some a) (H:∀ p,RL P B false ops rest ((e.set d p).set d2 (.int κ' a)) h C) (hx:e.ev x=r:=by rfl) (hi:e.ev i= .int κ n:=by rfl):RL P B false ops (⟨some d,.indexAddr t x i,ty,pos,af,none⟩ :: ⟨some d2,.load tl<|.tmp d,ty2,pos2,af2,none⟩ :: rest) e h C:=
 Air (m:=m) hT hx HO hr hL hi ha λg hG=>by
  obtain ⟨cs,h1,h2⟩:=HO.cells hG hL ha;obtain rfl:=h1;exact Ahu htl (Env.set_same _ _ _) (h2 0 _ rfl)<|H _
theorem Aqv {i yo:Operand} {r:Value} {M:List (List Int)} {m n y:Int} {L:List Int} (k:Kst h0 h l) (p:Rep j l (aO2 (cI κ') er el F Gs rs v M) (aO2 (cI κ') er el F Gs rs v<|sI M m<|sI L n y) l') (hT:SlT P t el0 1) (htl:NaT P tl) (hr:rs[m.toNat]? =some r) (hL:gI M m=some L) (ha:gI L n=some a) (hy:∀ q,(e.set d q).ev yo= .int κ' y) (H:∀ q h',Kst h0 h' l'->RL P B st ops rest (e.set d q) h' C) (hx:e.ev x=r:=by rfl) (hi:e.ev i= .int κ n:=by rfl):RL P B st ops (⟨some d,.indexAddr t x i,ty,pos,af,none⟩ :: ⟨none,.store tl (.tmp d) yo,ty2,pos2,af2,none⟩ :: rest) e h C:=by
 have HO:Aj1 (cI κ') er el h F Gs rs v M:=Asi k.p p.1;refine Air (m:=m) hT hx HO hr hL hi ha λg hG=>?_;exact Aol (m:=m) (Amg (n:=n.toNat) (g:=g) htl (show (e.set d<|.pointer<|some ⟨g,n.toNat * 1,none⟩).ev (.tmp d)=_ from Env.set_same _ _ _) (hy _) rfl) HO hG hL ha (show (cI κ').rep _ y _ from rfl) λh' I U=>H _ _<|k.uO2 p U I
theorem A1l {i:Operand} {n:Int} {L:List Int} (hT:SlT P t el0 1) (htl:NaT P tl) (HS:SlC (cI κ') h1 v L) (E:Ext h1 h) (ha:gI L n=some a) (H:∀ p,RL P B false ops rest ((e.set d p).set d2 (.int κ' a)) h C) (hx:e.ev x=v:=by rfl) (hi:e.ev i= .int κ n:=by rfl):RL P B false ops (⟨some d,.indexAddr t x i,ty,pos,af,none⟩ :: ⟨some d2,.load tl<|.tmp d,ty2,pos2,af2,none⟩ :: rest) e h C:=
 Aqu (c:=cI κ') hT hx HS hi ha λb o cs hr hc=>by
  obtain rfl:=hr;exact Ahu htl (Env.set_same _ _ _) (AO8 (hc 0 _ rfl) E)<|H _
theorem An3 {c:Cod α} {i:Operand} {n:Int} {M:List (List α)} {L:List α} (hT:SlT P t el0 1) (htl:NaT P tl) (HS:Ajw c h1 v M) (E:Ext h1 h) (ha:gI M n=some L) (H:∀ p r,SlC c h1 r L->RL P B false ops rest ((e.set d p).set d2 r) h C) (hx:e.ev x=v:=by rfl) (hi:e.ev i= .int κ n:=by rfl):RL P B false ops (⟨some d,.indexAddr t x i,ty,pos,af,none⟩ :: ⟨some d2,.load tl<|.tmp d,ty2,pos2,af2,none⟩ :: rest) e h C:=
 Az4 hT hx HS hi ha λb o r hc hs=>Ahu htl (Env.set_same _ _ _) (AO8 hc E)<|H _ r hs
theorem Asj {b:Nat} {z:Int} {cs:List Value} (zf:cZ.rep h z cs) (HB:Akd tb h b cs) (H:RL Tryz.prog B false ops rest (e.set d<|.agg cs.toArray) h C) (hx:e.ev x= .pointer (some ⟨b,0,none⟩):=by rfl):RL Tryz.prog B false ops (⟨some d,.load 129 x,ty,pos,af,none⟩ :: rest) e h C:=
 Anm cs Aip (cZ.klen zf) hx HB.agg H
theorem Anz {b:Nat} {z z':Int} {c:List Value} (k:Kst h0 h l) (p:Rep i l (aB tb b c) (aB tb b c') l') (zo:cZ.rep h z c) (zn:cZ.rep h z' c') (H:∀ h',Kst h0 h' l'->RL Tryz.prog B st ops rest e h' C) (hx:e.ev x= .pointer (some ⟨b,0,none⟩):=by rfl) (hy:e.ev y= .agg c'.toArray:=by rfl) (ht:Nat.beq tb 200=false:=by rfl):
 RL Tryz.prog B st ops (⟨none,.store 129 x y,ty,pos,af,none⟩ :: rest) e h C:=
 Ai5 c' Aip (cZ.klen zn) (cZ.klen zo) hx hy (cZ.one zn) (Asi k.p p.1) λh' I U=>H h'<|k.sb p U I ht
theorem Ano (k:Kst h0 h l) (c:List Value) (H:∀ b h',Ext h h'->Kst h0 h' (aB t b c :: l)->RL P (λ_=>True) st ops rest (e.set d<|.pointer<|some ⟨b,0,none⟩) h' C) (hx:e.ev x=v:=by rfl) (hl:v.cells=c.toArray:=by rfl):
 RL P (λ_=>True) st ops (⟨some d,.box t x,ty,pos,af,none⟩ :: rest) e h C:=
 BI3 c trivial (λ_ _=>trivial) hx hl λb h' V E S=>H b h' E<|k.nb E S V
theorem Aj4 {z:Value} (k:Kst h0 h l) (c:List Value) (hz:ZeT P t z bytes) (H:∀ b h',Ext h h'->Kst h0 h' (aB t b c :: l)->RL P (λ_=>True) st ops rest (e.set d<|.pointer<|some ⟨b,0,none⟩) h' C) (hl:z.cells=c.toArray:=by rfl):
 RL P (λ_=>True) st ops (⟨some d,.alloc t,ty,pos,af,none⟩ :: rest) e h C:=
 A2a c hz hl trivial (λ_ _=>trivial) λb h' V E S=>H b h' E<|k.nb E S V
theorem Akb {a:List Value} (k:Kst h0 h l) (HC:Ahs P f a.toArray h λx h'=>Ext h h'/\x=v) (H:∀ h',Ext h h'->Kst h0 h' l->RL P (λ_=>True) st ops rest (e.set d v) h' C) (hxs:xs.map e.ev=a:=by rfl):
 RL P (λ_=>True) st ops (⟨some d,.call ⟨.value<|.func f,xs.toArray,ts⟩,ty,pos,af,none⟩ :: rest) e h C:=
 Aj3 trivial (λ_ _=>trivial) hxs HC λx h' E hk=>by subst hk;exact H h' E<|k.e E
theorem Avd {a:List Value} (k:Kst h0 h l) (HC:Ahs P f a.toArray h λx h'=>Ext h h'/\ ∃ x0:Value,x=x0/\ZZ h' x0 r) (H:∀ cs h',Ext h h'->Kst h0 h' (aZ cs r :: l)->RL P (λ_=>True) st ops rest (e.set d<|.agg cs.toArray) h' C) (hxs:xs.map e.ev=a:=by rfl):
 RL P (λ_=>True) st ops (⟨some d,.call ⟨.value<|.func f,xs.toArray,ts⟩,ty,pos,af,none⟩ :: rest) e h C:=
 Aj3 trivial (λ_ _=>trivial) hxs HC λx h' E hk=>by
  obtain ⟨x0,rfl,Z⟩:=hk;obtain ⟨cs,rfl,Z2⟩:=Z.cs;exact H cs h' E<|(k.e E).az Z2
theorem BRx {c:Cod α} {a:List Value} {r:List α} (k:Kst h0 h l) (HC:Ahs P f a.toArray h λx h'=>Ext h h'/\ ∃ (x0:Value) (F:List Nat),x=x0/\OwC c el h' F x0 r/\Sp h' (Array.size h) [F]) (H:∀ F v h',Ext h h'->Kst h0 h' (aO c el F v r :: l)->RL P (λ_=>True) st ops rest (e.set d v) h' C) (hxs:xs.map e.ev=a:=by rfl):
 RL P (λ_=>True) st ops (⟨some d,.call ⟨.value<|.func f,xs.toArray,ts⟩,ty,pos,af,none⟩ :: rest) e h C:=
 Aj3 trivial (λ_ _=>trivial) hxs HC λx h' E hk=>by
  obtain ⟨x0,F,rfl,I,S⟩:=hk;exact H F x h' E<|k.no E S I
theorem Aux {c:Cod α} {a:List Value} {r:List (List α)} (k:Kst h0 h l) (HC:Ahs P f a.toArray h λx h'=>Ext h h'/\ ∃ (x0:Value) (F:List Nat) (Gs:List (List Nat)) (rs:List Value),x=x0/\Aj1 c er el h' F Gs rs x0 r/\Sp h' (Array.size h) [F]) (H:∀ F Gs rs v h',Ext h h'->Kst h0 h' (aO2 c er el F Gs rs v r :: l)->RL P (λ_=>True) st ops rest (e.set d v) h' C) (hxs:xs.map e.ev=a:=by rfl):
 RL P (λ_=>True) st ops (⟨some d,.call ⟨.value<|.func f,xs.toArray,ts⟩,ty,pos,af,none⟩ :: rest) e h C:=
 Aj3 trivial (λ_ _=>trivial) hxs HC λx h' E hk=>by
  obtain ⟨x0,F,Gs,rs,rfl,I,S⟩:=hk;exact H F Gs rs x h' E<|k.no2 E S I
theorem Avw {b:Nat} {z:Int} {cs:List Value} {a:AO2} (zf:cZ.rep h z cs) (U:UpT [] a h) (HB:Akd tb a b cs) (H:RL Tryz.prog (λh'=>UpT [] a h') true ops rest (e.set d<|.agg cs.toArray) h C) (hx:e.ev x= .pointer (some ⟨b,0,none⟩):=by rfl):RL Tryz.prog (λh'=>UpT [] a h') true ops (⟨some d,.load 129 x,ty,pos,af,none⟩ :: rest) e h C:=
 Api (B:=λh'=>UpT [] a h') cs Aip (cZ.klen zf) hx U (λh' hb=>(HB.ext hb.ext).agg) H
theorem A5s {a:List Value} {g:AO2} (k:Kst h0 h l) (U:UpT [] g h) (HC:Ahs P f a.toArray h λx h'=>Ext h h'/\x=v) (H:∀ h',Ext h h'->Kst h0 h' l->UpT [] g h'->RL P (λh'=>UpT [] g h') st ops rest (e.set d v) h' C) (hxs:xs.map e.ev=a:=by rfl):
 RL P (λh'=>UpT [] g h') st ops (⟨some d,.call ⟨.value<|.func f,xs.toArray,ts⟩,ty,pos,af,none⟩ :: rest) e h C:=
 Aj3 (B:=λh'=>UpT [] g h') U (λ_ E=>U.thenE E) hxs HC λx h' E hk=>by subst hk;exact H h' E (k.e E)<|U.thenE E
theorem Am4 {a:List Value} {g:AO2} (k:Kst h0 h l) (U:UpT [] g h) (HC:Ahs P f a.toArray h λx h'=>Ext h h'/\ ∃ x0:Value,x=x0/\ZZ h' x0 r) (H:∀ cs h',Ext h h'->Kst h0 h' (aZ cs r :: l)->UpT [] g h'->RL P (λh'=>UpT [] g h') st ops rest (e.set d<|.agg cs.toArray) h' C) (hxs:xs.map e.ev=a:=by rfl):
 RL P (λh'=>UpT [] g h') st ops (⟨some d,.call ⟨.value<|.func f,xs.toArray,ts⟩,ty,pos,af,none⟩ :: rest) e h C:=
 Aj3 (B:=λh'=>UpT [] g h') U (λ_ E=>U.thenE E) hxs HC λx h' E hk=>by
  obtain ⟨x0,rfl,Z⟩:=hk;obtain ⟨cs,rfl,Z2⟩:=Z.cs;exact H cs h' E ((k.e E).az Z2)<|U.thenE E
end
section
variable {P:Program} {Q:Exit->Env->AO2->Prop} {e:Env} {h h0:AO2}
theorem Amy {c:Code} {X S E R:Type} {body:S->Option (S ⊕ E)} {f:E->Option R} {r:R} (m:Nat) (D:X->S) (x0:X) (hp:(iter body fuel<|D x0).bind f=some r) (live:X->List (Nat × Value)) (A:X->List Asr) (k:Kst h0 h (A x0)) (hl:A1g (live x0) e)
 (H:∀ x s h' y,Kst h0 h' (A x)->body (D x)=some y->(∀ z,y= .inr z->f z=some r)->W P c (Av8 (λe' h''=> ∃ x',y= .inl (D x')/\Kst h0 h'' (A x')/\A1g (live x') e') Q) (setL (live x)<|mix m s e) h') (hm:A3h m c=true:=by kernel_rfl):W P (.loop c) Q e h:=by
 obtain ⟨ex,hL,hp'⟩:=AOw hp;refine Aj7 m live (λk x h'=>iter body k (D x)=some ex/\Kst h0 h' (A x)) hm fuel x0 ⟨hL,k⟩ hl λk x s h' hk=>?_;obtain ⟨hk,K⟩:=hk;obtain ⟨k',y,rfl,hb,hr⟩:=Aq9 hk;refine W.mono (λex' e' h'' hq=>?_) (H x s h' y K hb λz hz=>by subst hz;obtain rfl:z=ex:=hr;exact hp');cases ex' <;> first | exact hq | skip
 obtain ⟨x',rfl,h2,h3⟩:=hq;exact ⟨k',x',Nat.lt_succ_self _,⟨hr,h2⟩,h3⟩
theorem Arf {c:Code} {S E R:Type} {body:S->Option (S ⊕ E)} {f:E->Option R} {r:R} {x0:S} (m:Nat) (hp:(iter body fuel x0).bind f=some r) (live:S->List (Nat × Value)) (A:S->List Asr) (k:Kst h0 h (A x0)) (hl:A1g (live x0) e) (H:∀ x s h' y,Kst h0 h' (A x)->body x=some y->(∀ z,y= .inr z->f z=some r)->W P c (Av8 (λe' h''=> ∃ x',y= .inl x'/\Kst h0 h'' (A x')/\A1g (live x') e') Q) (setL (live x)<|mix m s e) h') (hm:A3h m c=true:=by kernel_rfl):W P (.loop c) Q e h:=
 Amy m id x0 hp live A k hl H hm
end
end Go.Proofs.YtkakafabeobahaaGreatDoor
namespace Go.Proofs.YtkakafabeobahaaGreatDoor
open Go Go.QF
set_option maxRecDepth 100000
theorem At5 {b q:Int} (hb:b≠0) (h:a=b * q + r) (h0:0<=r) (h1:r < b.natAbs):a / b=q/\a % b=r:=by
 have hr:r % b=r:=by
  rcases A3c 0 b with hp | hn
  ·exact Int.emod_eq_of_lt h0 AOq
  ·rw [<- Int.emod_neg];exact Int.emod_eq_of_lt h0 AOq
 have hm:a % b=r:=by simp_all
 refine ⟨?_,hm⟩;have h2:=Int.mul_ediv_add_emod a b;rw [hm] at h2;have h3:b * (a / b)=b * q:=by omega
 exact Int.eq_of_mul_eq_mul_left hb h3
theorem A9z {z:Int}:Anx z < 0↔z < 0:=by
 unfold Anx;omega
theorem BPl {nb:Bool} {A B:Nat} (hB:B≠0) (h: ¬ sgn na (A % B) < 0):sgn na A / sgn nb B=sgn (!(na == nb)) (A / B)/\sgn na A % sgn nb B=sgn na (A % B):=by
 have h1:=Nat.div_add_mod A B;have hl:=Nat.mod_lt A<|Nat.pos_of_ne_zero hB;obtain ⟨q,hq⟩:∃ q,A / B=q:=⟨_,rfl⟩;obtain ⟨r,hr⟩:∃ r,A % B=r:=⟨_,rfl⟩;rw [hq,hr] at h1;rw [hr] at hl h;rw [hq,hr];have h2:(A:Int)=(B:Int) * q + r:=by omega
 refine At5 (by cases nb <;> simp [sgn] <;> omega) ?_ AOq (by cases na <;> cases nb <;> simp only [sgn] at h ⊢ <;> simp at h ⊢ <;> omega);cases na <;> cases nb <;> simp [sgn] at h ⊢ <;> grind
theorem BPm {nb:Bool} {A B:Nat} (hB:B≠0) (h:sgn na (A % B) < 0):sgn na A % sgn nb B=sgn na (A % B) + B/\(sgn nb B < 0->sgn na A / sgn nb B=sgn (!(na == nb)) (A / B) + 1)/\(¬ sgn nb B < 0->sgn na A / sgn nb B=sgn (!(na == nb)) (A / B) - 1):=by
 have h1:=Nat.div_add_mod A B;have hl:=Nat.mod_lt A<|Nat.pos_of_ne_zero hB;obtain ⟨q,hq⟩:∃ q,A / B=q:=⟨_,rfl⟩;obtain ⟨r,hr⟩:∃ r,A % B=r:=⟨_,rfl⟩;rw [hq,hr] at h1;rw [hr] at hl h;rw [hq,hr];have h2:(A:Int)=(B:Int) * q + r:=by omega
 cases na
 ·simp [sgn] at h;omega
 have key:∀ q':Int,sgn true A=sgn nb B * q' + (sgn true r + B)->sgn true A / sgn nb B=q'/\sgn true A % sgn nb B=sgn true r + B:=λq' hq'=>
  At5 (by cases nb <;> simp [sgn] <;> omega) hq' (by simp [sgn] at h ⊢;omega) (by cases nb <;> simp only [sgn] at h ⊢ <;> simp at h ⊢ <;> omega)
 cases nb
 ·have:=key (sgn true q - 1) (by simp [sgn];grind);exact ⟨this.2,λhh=>by simp [sgn] at hh;omega,λ_=>this.1⟩
 ·have:=key (sgn false q + 1) (by simp [sgn];grind);exact ⟨this.2,λ_=>this.1,λhh=>by simp [sgn] at hh;omega⟩
theorem BPn {lo:Nat} {s:Value} {L:List Nat} (H:DS h lo s L) (ht:TL L) (hl:L.length<=100):cZ.rep h (nv L:Int) [.bool false,s]:=⟨rfl,⟨false,s,L,rfl,H.mono<|Nat.zero_le _,ht,hl,rfl⟩⟩
theorem BMk {s:Value} {n:Int} (H:cZ.rep h n [.bool false,s]):∃ L,DS h 0 s L/\TL L/\L.length<=100/\(nv L:Int)=n:=by
 obtain ⟨n',s',L,h1,h2,h3,h4,h5⟩:=ZV.out H.2;injection h1 with h1;have:=congrArg Array.toList h1;simp at this;obtain ⟨rfl,rfl⟩:=this;exact ⟨L,h2,h3,h4,h5.symm⟩
def Az7 (fuel:Nat) (a b:Int):Option (Int × Int × Bool):=if a.natAbs < Alj/\b.natAbs < Alj/\b≠0 then some (a / b,a % b,true) else none
set_option maxHeartbeats 40000000 in
theorem A8r {u:Value} {b:Int} {r:Int × Int × Bool} (H1:ZZ h u a) (H2:ZZ h v b) (hp:Az7 fuel a b=some r):Ahs Tryz.prog 198 #[u,v] h (λx h'=>Ext h h'/\ ∃ (x0:Value) (x1:Value),x= .tuple #[x0,x1,.bool r.2.2]/\ZZ h' x0 r.1/\ZZ h' x1 r.2.1):=by
 obtain ⟨⟨hba,hbb,hb0⟩,hp⟩:=ifN hp;cases hp;have HA:=H1;have HB:=H2;obtain ⟨na,sa,LA,rfl,HDa,htla,hla,hza⟩:=HA.out;obtain ⟨nb,sb,LB,rfl,HDb,htlb,hlb,hzb⟩:=HB.out;have haa:=Amw hza;have hab:=Amw hzb;have hBz:nv LB≠0:=λh0=>hb0 (by rw [hzb,h0];cases nb <;> rfl);have hp99:(4294967296:Nat) ^ 99 < 4294967296 ^ 100:=Nat.pow_lt_pow_right AOs AOs;have hbz:Alj=4294967296 ^ 99:=rfl;rw [hbz] at hba hbb;have Zb:cZ.rep h b [.bool nb,sb]:=⟨rfl,H2⟩;refine BBd (l:=[_,_]) Tryz.func198 rfl rfl rfl rfl rfl ?_;refine Aw1 ?_;refine Ax0 mx AO4 ?_;refine Ag6 ?_;have K0:=Kst.k0 h;refine Ano K0 [.bool na,sa] λb1 h1 E1 K1=>?_;refine Ano K1 [.bool nb,sb] λb2 h2 E2 K2=>?_;refine Aj4 K2 [.bool false,.slice none 0 0] Ams λb3 h3 E3 K3=>?_;refine Aj4 K3 [.bool false,.slice none 0 0] Ams λb4 h4 E4 K4=>?_;refine AO1 ?_;refine Aw1 ?_;refine Ax0 mx AO4 ?_;refine Ai1 (λh'=>Ext h4 h') AO4 ?_;refine Anh (fs:=1) Atv AO4 AOs rfl (Ahm Apj rfl (Ext.refl h4) (λh' hb=>((K4.b p3).ext hb).cell (i:=1) rfl) (Aj3 (Ext.refl h4) (λ_ E=>E) rfl (Aqe (HDa.ext K4.x) AOq) λx5 h5 E5 hk=>?_));obtain ⟨L1,HD1,htl1,hv1,hl1⟩:=hk;have K5:=K4.e E5;refine Anh (fs:=1) Atv AO4 AOs rfl (Ahm Apj rfl E5 (λh' hb=>((K4.b p2).ext hb).cell (i:=1) rfl) (Aj3 E5 (λ_ E=>E5.trans E) rfl (Aqe (HDb.ext K5.x) AOq) λx6 h6 E6 hk=>?_));refine Aho<|AO1 ?_;obtain ⟨L2,HD2,htl2,hv2,hl2⟩:=hk;have K6:=(K5.e E6).az (BPn HD2 htl2 AOq);have hLB:L2≠[]:=λh0=>hBz (by rw [<- hv2,h0];rfl);have hLp:=List.length_pos_iff.2 hLB;refine Aw1 ?_;refine Ax0 mx AO4 ?_;refine AOx ?_;refine Ag6 ?_;refine AOr<|Ai4 Ahl rfl HD2 ?_;refine Az0 rfl rfl (λhc=>absurd hc AOq) (λ_=>?_);refine AOz ?_;refine Aht rfl ?_;refine AO5<|q_t ?_;refine Aw1 ?_;refine Ax0 mx AO4 ?_;refine Ag6 ?_;refine AOr<|AOr<|Aj3 trivial (λ_ _=>trivial) rfl (BDc (HD1.ext E6) HD2 htl2 (by rw [hv2];exact hBz) AOq AOq) λx7 h7 E7 hk=>?_;obtain ⟨qv,rv,rfl,LQ,LR,HQ,HR,hvq,hvr,hlq,hlr⟩:=hk;have K7:=K6.e E7;rw [hv1,hv2] at hvq hvr;have hqA:nv LQ<=nv LA:=by rw [hvq];exact Nat.div_le_self _ _
 have hrA:nv LR < nv LB:=by rw [hvr];exact Nat.mod_lt _<|Nat.pos_of_ne_zero hBz
 refine AOr<|Ait rfl rfl (Ait rfl rfl (Aho<|AO1 ?_));have U7:UpT [] h7 h7:=UpT.start all_nil;refine Aw1 ?_;refine Ax0 mx AO4 ?_;refine (A02 (B:=λh'=>UpT [] h7 h') 11 [⟨11,129,[.bool false,.slice none 0 0]⟩,⟨12,129,[.bool false,.slice none 0 0]⟩] (λ_ _ U E=>U.thenE E) AO4 U7 (BDg rfl rfl Ams rfl Ams rfl (λ_ _ U E=>U.thenE E)) ?_);refine h_l rfl (Anh (fs:=1) As7 AO4 AOs rfl (Ahh ?_));refine h_l rfl (Ahm Als rfl U7 (λh' hb=>((K7.b p4).ext hb.ext).cell (i:=0) rfl) (Ahh ?_));refine h_l rfl (Anh (fs:=1) As7 AO4 AOs rfl (Ahh ?_));refine h_l rfl (Ahm Als rfl U7 (λh' hb=>((K7.b p3).ext hb.ext).cell (i:=0) rfl) (Ahh ?_));refine h_l rfl (A64 A2t rfl rfl (Ahh ?_));refine h_l rfl (AOr<|Ahh ?_);refine h_e rfl λh8 E8=>?_;refine Aj3 (U7.thenE E8) (λ_ E=>(U7.thenE E8).thenE E) rfl (Aun (!(na == nb)) (HQ.ext E8) AOq AOq) λx9 h9 E9 Z9=>?_;obtain ⟨c9,rfl,W9⟩:=Z9.zz.cs;have U9:=(U7.thenE E8).thenE E9;refine Ahh ⟨E9,?_⟩;refine h_l rfl (Anh (fs:=1) As7 AO4 AOs rfl (Ahh ?_));refine h_l rfl (Ahm Als rfl U9 (λh' hb=>((K7.b p4).ext hb.ext).cell (i:=0) rfl) (Ahh ?_));refine h_l rfl (AOr<|Ahh ?_);refine h_e rfl λh10 E10=>?_;refine Aj3 (U9.thenE E10) (λ_ E=>(U9.thenE E10).thenE E) rfl (Aun na (HR.ext (U9.thenE E10).ext) AOq AOq) λx11 h11 E11 Z11=>?_;obtain ⟨c11,rfl,W11⟩:=Z11.zz.cs;have U11:=(U9.thenE E10).thenE E11;refine Ahh ⟨E11,?_⟩;refine A7h λh12 E12=>?_;refine BPk λbq br Vq Vr hne loq lor nbq nbr=>?_;have K14:=((K7.nb2 (U11.thenE E12).ext (BDh loq lor Vq.lt Vr.lt hne) Vq Vr).az (cZ.upT W9 ((E10.trans E11).trans E12).upT)).az (cZ.upT W11 E12.upT);refine Anz K14 p2 (Ahd _) (K14.z p1) λh13 K15=>?_;refine Anz K15 p3 (Ahd _) (K15.z p0) λh14 K16=>?_;refine AOz ?_;refine Aw1 ?_;refine Aw1 ?_;refine Ax0 mx AO4 ?_;refine Ag6 ?_;refine Asj (K16.z p0) (K16.b p3) ?_;refine Akb K16 (A2c (K16.z p0).2) λh15 E15 K17=>?_
 refine Amf rfl rfl (λhc1=>AOz ?_) (λhc1=>AOz ?_)
 ·have hk:=BPm (na:=na) (nb:=nb) (A:=nv LA) hBz (by rw [<- hvr];exact A9z.1 hc1);have hsg:sgn nb (nv LB) < 0↔Anx b < 0:=by rw [<- hzb];exact A9z.symm
  obtain ⟨Ln,HDn,htln,hln,hzn⟩:=BMk<|K17.z p4;have hnn:nv Ln=nv LB:=by omega
  refine BEz rfl ?_;refine Aw1 ?_;refine Ax0 mx AO4 ?_;refine Ai1 (λh'=>Ext h15 h') AO4 ?_;refine (Api c11 Aip (cZ.klen<|K17.z p0) rfl (Ext.refl h15) (λh' hb=>((K17.b p3).ext hb).agg) ?_);refine (AOr<|Aj3 (Ext.refl h15) (λ_ E=>E) rfl (Aun false HDn AOq AOq) λx h16 E16 Z=>?_);obtain ⟨c16,rfl,Y⟩:=Z.zz.cs;have K18:=(K17.e E16).az Y;refine Aj3 E16 (λ_ E=>E16.trans E) rfl (A6b (K18.z p1).2 (K18.z p0).2 (by rw [show (sgn na<|nv LR).natAbs=nv LR from Amw rfl];omega) (by rw [show (sgn false<|nv Ln).natAbs=nv Ln from Amw rfl];omega)) λx h17 E17 Z=>?_;obtain ⟨c17,rfl,Y⟩:=Z.zz.cs;have K19:=(K18.e E17).az Y;have hr9:sgn na (nv LR) + sgn false (nv Ln)=a % b:=by rw [hza,hzb,hk.1,hvr,hnn];rfl
  rw [hr9] at K19;refine Anz K19 p5 (K19.z p2) (K19.z p0) λh18 K20=>?_;refine AOz ?_;refine Aw1 ?_;refine Aw1 ?_;refine Ax0 mx AO4 ?_;refine Ag6 ?_;refine Asj (K20.zx Zb) (K20.b p9) ?_;refine Akb K20 (A2c (K20.zx Zb).2) λh19 E19 K21=>?_
  refine Amf rfl rfl (λhc2=>AOz ?_) (λhc2=>AOz ?_)
  ·refine BEz rfl ?_;refine Aw1 ?_;refine (A9v (B:=λh'=>Akd 129 h' bq c9/\Akd 129 h' br c17) true [0,1,2] 3 4 [5,6] mx AO4 AO4 rfl rfl (.cons rfl (.cons rfl (.cons rfl .nil))) (.cons rfl (.cons rfl .nil)) ?_);refine Api c9 Aip (cZ.klen<|K21.z p3) rfl ⟨K21.b p4,K21.b p5⟩ (λh' hb=>hb.1.agg) ?_;refine (Aj3 ⟨K21.b p4,K21.b p5⟩ (λ_ E=>⟨(K21.b p4).ext E,(K21.b p5).ext E⟩) rfl (A43 (n:=1) AOq _) λx h20 E20 Z=>?_);obtain ⟨c20,rfl,Y⟩:=Z.zz.cs;have K22:=(K21.e E20).az Y;refine Aj3 ⟨K22.b p5,K22.b p6⟩ (λ_ E=>⟨(K22.b p5).ext E,(K22.b p6).ext E⟩) rfl (A6b (K22.z p4).2 (K22.z p0).2 (by rw [show (sgn (!(na == nb))<|nv LQ).natAbs=nv LQ from Amw rfl];omega) AOs) λx h21 E21 Z=>?_;obtain ⟨c21,rfl,Y⟩:=Z.zz.cs;have K23:=(K22.e E21).az Y;have hq9:sgn (!(na == nb)) (nv LQ) + 1=a / b:=by rw [hza,hzb,hk.2.1<|hsg.2 hc2,hvq]
   rw [hq9] at K23
   refine Ahh ⟨?_,?_⟩
   ·refine Api c17 Aip (cZ.klen<|K23.z p2) rfl ⟨K23.b p6,K23.b p7⟩ (λh' hb=>hb.2.agg) ?_;refine Anz K23 p10 (Ahd _) (K23.z p0) λh22 K24=>?_;refine Anz K24 p9 (Ahd _) (K24.z p2) λh23 K25=>?_;refine AO1 ?_;refine Ax0 mx AO4<|AO6<|Ag7<|Ag7 ?_;exact ⟨_,Awe Aip (cZ.klen<|K25.z p0) rfl (K25.b p10) Aip (cZ.klen<|K25.z p2) rfl (K25.b p9),K25.x,_,_,rfl,(K25.z p0).2,(K25.z p2).2⟩
   ·refine Anz K23 p10 (Ahd _) (K23.z p0) λh22 K24=>?_;refine Api c17 Aip (cZ.klen<|K24.z p2) rfl ⟨K24.b p6,K24.b p7⟩ (λh' hb=>hb.2.agg) ?_;refine Anz K24 p9 (Ahd _) (K24.z p2) λh23 K25=>?_;refine AO1 ?_;refine Ax0 mx AO4<|AO6<|Ag7<|Ag7 ?_;exact ⟨_,Awe Aip (cZ.klen<|K25.z p0) rfl (K25.b p10) Aip (cZ.klen<|K25.z p2) rfl (K25.b p9),K25.x,_,_,rfl,(K25.z p0).2,(K25.z p2).2⟩
  ·refine BBf rfl ?_;refine Ax0 mx AO4 ?_;refine AO5<|q_t ?_;refine Aw1 ?_;refine (A9v (B:=λh'=>Akd 129 h' bq c9/\Akd 129 h' br c17) true [0,1,2] 3 4 [5,6] mx AO4 AO4 rfl rfl (.cons rfl (.cons rfl (.cons rfl .nil))) (.cons rfl (.cons rfl .nil)) ?_);refine Api c9 Aip (cZ.klen<|K21.z p3) rfl ⟨K21.b p4,K21.b p5⟩ (λh' hb=>hb.1.agg) ?_;refine (Aj3 ⟨K21.b p4,K21.b p5⟩ (λ_ E=>⟨(K21.b p4).ext E,(K21.b p5).ext E⟩) rfl (A43 (n:=1) AOq _) λx h20 E20 Z=>?_);obtain ⟨c20,rfl,Y⟩:=Z.zz.cs;have K22:=(K21.e E20).az Y;refine Aj3 ⟨K22.b p5,K22.b p6⟩ (λ_ E=>⟨(K22.b p5).ext E,(K22.b p6).ext E⟩) rfl (BEw (K22.z p4).2 (K22.z p0).2 (by rw [show (sgn (!(na == nb))<|nv LQ).natAbs=nv LQ from Amw rfl];omega) AOs) λx h21 E21 Z=>?_;obtain ⟨c21,rfl,Y⟩:=Z.zz.cs;have K23:=(K22.e E21).az Y;have hq9:sgn (!(na == nb)) (nv LQ) - 1=a / b:=by rw [hza,hzb,hk.2.2 (λh=>by have:=hsg.1 h;omega),hvq]
   rw [hq9] at K23
   refine Ahh ⟨?_,?_⟩
   ·refine Api c17 Aip (cZ.klen<|K23.z p2) rfl ⟨K23.b p6,K23.b p7⟩ (λh' hb=>hb.2.agg) ?_;refine Anz K23 p10 (Ahd _) (K23.z p0) λh22 K24=>?_;refine Anz K24 p9 (Ahd _) (K24.z p2) λh23 K25=>?_;refine AO1 ?_;refine Ax0 mx AO4<|AO6<|Ag7 ?_;exact ⟨_,Awe Aip (cZ.klen<|K25.z p0) rfl (K25.b p10) Aip (cZ.klen<|K25.z p2) rfl (K25.b p9),K25.x,_,_,rfl,(K25.z p0).2,(K25.z p2).2⟩
   ·refine Anz K23 p10 (Ahd _) (K23.z p0) λh22 K24=>?_;refine Api c17 Aip (cZ.klen<|K24.z p2) rfl ⟨K24.b p6,K24.b p7⟩ (λh' hb=>hb.2.agg) ?_;refine Anz K24 p9 (Ahd _) (K24.z p2) λh23 K25=>?_;refine AO1 ?_;refine Ax0 mx AO4<|AO6<|Ag7 ?_;exact ⟨_,Awe Aip (cZ.klen<|K25.z p0) rfl (K25.b p10) Aip (cZ.klen<|K25.z p2) rfl (K25.b p9),K25.x,_,_,rfl,(K25.z p0).2,(K25.z p2).2⟩
 ·have hk:=BPl (na:=na) (nb:=nb) (A:=nv LA) hBz (λhh=>by have:=(A9z (z:=sgn na<|nv LR)).2 (by rw [hvr];exact hh);omega);have hq9:sgn (!(na == nb)) (nv LQ)=a / b:=by rw [hza,hzb,hk.1,hvq]
  have hr9:sgn na (nv LR)=a % b:=by rw [hza,hzb,hk.2,hvr]
  rw [hq9,hr9] at K17;refine BBf rfl ?_;refine Ax0 mx AO4 ?_;refine AO5<|q_t ?_;refine Aw1 ?_;refine (A9v (B:=λ_=>True) false [0] 1 2 [3,4] mx AO4 AO4 rfl rfl (.cons rfl .nil) (.cons rfl (.cons rfl .nil)) ?_);refine Asj (K17.z p1) (K17.b p2) ?_
  refine Ahh ⟨?_,?_⟩
  ·refine Asj (K17.z p0) (K17.b p3) ?_;refine Anz K17 p6 (Ahd _) (K17.z p1) λh22 K24=>?_;refine Anz K24 p5 (Ahd _) (K24.z p0) λh23 K25=>?_;refine AO1 ?_;refine Ax0 mx AO4<|AO6 ?_;exact ⟨_,Awe Aip (cZ.klen<|K25.z p1) rfl (K25.b p6) Aip (cZ.klen<|K25.z p0) rfl (K25.b p5),K25.x,_,_,rfl,(K25.z p1).2,(K25.z p0).2⟩
  ·refine Anz K17 p6 (Ahd _) (K17.z p1) λh22 K24=>?_;refine Asj (K24.z p0) (K24.b p3) ?_;refine Anz K24 p5 (Ahd _) (K24.z p0) λh23 K25=>?_;refine AO1 ?_;refine Ax0 mx AO4<|AO6 ?_;exact ⟨_,Awe Aip (cZ.klen<|K25.z p1) rfl (K25.b p6) Aip (cZ.klen<|K25.z p0) rfl (K25.b p5),K25.x,_,_,rfl,(K25.z p1).2,(K25.z p0).2⟩
end Go.Proofs.YtkakafabeobahaaGreatDoor
namespace Go.Proofs.YtkakafabeobahaaGreatDoor
open Go Go.QF
set_option maxRecDepth 100000
set_option maxHeartbeats 40000000
abbrev LnN:=List<|List Nat
abbrev LnA:=List Nat
abbrev LvA:=List Value
abbrev LiI:=List<|List Int
abbrev LiA:=List Int
theorem AOu {α:Type _} {a b:α} (h:some a=some b):a=b:=Option.some.inj h
theorem tt2 {α:Sort _} {β:α->Sort _}:∀ x,β x->True:=λ_ _=>trivial
def Ajy (fuel:Nat) (a1 a5:Int):Option Int:=
 (Az7 fuel a1 a5).bind λ(Ac,Ad,Ae)=>some Ac
theorem Ap1 {Af:Value} {a5:Int} (H3:ZZ h Ad a1) (H7:ZZ h Af a5) (hp:Ajy fuel a1 a5=some r):Ahs Tryz.prog 172 #[Ad,Af] h (λx h'=>Ext h h'/\ ∃ (x0:Value),x=x0/\ZZ h' x0 r):=by
 unfold Ajy at hp;obtain ⟨Ar,rfl,Ai⟩:=H3.cs;obtain ⟨Au,rfl,Aj⟩:=H7.cs;refine cwf (l:=[_,_]) Tryz.func172 rfl rfl (AOv<|Ano (Kst.k0 h) Ar λb9 Bc Be Av=>Ano Av Au λBf Bg Bh Aw=>Aj4 Aw [.bool false,.slice none 0 0] Ams λBi Bj Bl Aa=>Apt<|Asj (Aa.zx Ai) (Aa.b p2)<|Asj (Aa.zx Aj) (Aa.b p1) ?_);obtain ⟨⟨Bm,Bn,Bo⟩,Ax,Ak⟩:=AOw hp;dsimp only at Ak;refine Aqs rfl (A8r (Aa.zx Ai).2 (Aa.zx Aj).2 Ax) λBp Bq Ay Az=>?_;obtain ⟨Br,Bt,rfl,A3,A4⟩:=Az;obtain ⟨Bu,rfl,A5⟩:=A3.cs;obtain ⟨Bv,rfl,A6⟩:=A4.cs;refine AOr<|Ait rfl rfl (Ait rfl rfl (Ait rfl rfl (Aj4 (((Aa.e Ay).az A5).az A6) [.bool false,.slice none 0 0] Ams λBw Bx By A7=>Aj4 A7 [.bool false,.slice none 0 0] Ams λBz A8 B1 Am=>Anz Am p1 (Ahd A8) (Am.z p3) λA9 Ao=>Anz Ao p0 (Ahd A9) (Ao.z p2) λBa Ab=>Ah7<|Asj (Ab.z p3) (Ab.b p1)<|Anz Ab p4 (Ahd Ba) (Ab.z p3) λB3 Ac=>AOz<|AO6 ?_)));obtain rfl:=AOu Ak;exact ⟨_,Ai3 Aip (cZ.klen<|Ac.z p3) rfl (Ac.b p4),Ac.x,_,rfl,(Ac.z p3).2⟩
def Alq (fuel:Nat) (a1 a5:Int):Option Int:=
 (Az7 fuel a1 a5).bind λ(Ad,Ac,Ae)=>some Ac
theorem Awl {Af:Value} {a5:Int} (H3:ZZ h Ad a1) (H7:ZZ h Af a5) (hp:Alq fuel a1 a5=some r):Ahs Tryz.prog 186 #[Ad,Af] h (λx h'=>Ext h h'/\ ∃ (x0:Value),x=x0/\ZZ h' x0 r):=by
 unfold Alq at hp;obtain ⟨Ar,rfl,Ai⟩:=H3.cs;obtain ⟨Au,rfl,Aj⟩:=H7.cs;refine cwf (l:=[_,_]) Tryz.func186 rfl rfl (AOv<|Ano (Kst.k0 h) Ar λb9 Bc Be Av=>Ano Av Au λBf Bg Bh Aw=>Aj4 Aw [.bool false,.slice none 0 0] Ams λBi Bj Bl Aa=>Apt<|Asj (Aa.zx Ai) (Aa.b p2)<|Asj (Aa.zx Aj) (Aa.b p1) ?_);obtain ⟨⟨Bm,Bn,Bo⟩,Ax,Ak⟩:=AOw hp;dsimp only at Ak;refine Aqs rfl (A8r (Aa.zx Ai).2 (Aa.zx Aj).2 Ax) λBp Bq Ay Az=>?_;obtain ⟨Br,Bt,rfl,A3,A4⟩:=Az;obtain ⟨Bu,rfl,A5⟩:=A3.cs;obtain ⟨Bv,rfl,A6⟩:=A4.cs;refine AOr<|Ait rfl rfl (Ait rfl rfl (Ait rfl rfl (Aj4 (((Aa.e Ay).az A5).az A6) [.bool false,.slice none 0 0] Ams λBw Bx By A7=>Aj4 A7 [.bool false,.slice none 0 0] Ams λBz A8 B1 Am=>Anz Am p1 (Ahd A8) (Am.z p3) λA9 Ao=>Anz Ao p0 (Ahd A9) (Ao.z p2) λBa Ab=>Ah7<|Asj (Ab.z p2) (Ab.b p0)<|Anz Ab p4 (Ahd Ba) (Ab.z p2) λB3 Ac=>AOz<|AO6 ?_)));obtain rfl:=AOu Ak;exact ⟨_,Ai3 Aip (cZ.klen<|Ac.z p2) rfl (Ac.b p4),Ac.x,_,rfl,(Ac.z p2).2⟩
def Asl (fuel:Nat) (a1 a2 Aa:Int) (Ac:LiI):Option ((Int × LiI) ⊕ LiI):=
 if Aa < ((List.replicate (Int.toNat a1) ([]:List Int)).length:Int) then if 0<=a2/\a2<=100000000 then (gI Ac Aa).bind λAe=>some (.inl (w64<|Aa + 1,sI Ac Aa<|List.replicate (Int.toNat a2) (0:Int))) else none else some<|.inr Ac
def Akj (fuel:Nat) (a1 a2:Int):Option LiI:=
 if 0<=a1/\a1<=100000000 then (iter (λs=>Asl fuel a1 a2 s.1 s.2) fuel (0,List.replicate (Int.toNat a1) ([]:List Int))).bind (λ(Ac:LiI)=>some Ac) else none
theorem Ape {a2:Int} {r:LiI} (hp:Akj fuel a1 a2=some r):Ahs Tryz.prog 115 #[(.int .i64 a1),(.int .i64 a2)] h (λx h'=>Ext h h'/\ ∃ (x0:Value) (F0:List Nat) (Ak:List LnA) (Am:List Value),x=x0/\Aj1 cZ 146 129 h' F0 Ak Am x0 r/\Sp h' h.size [F0]):=by
 unfold Akj at hp;refine cwf (l:=[_,_]) Tryz.func115 rfl rfl (AOv<|Ah7<|AOr ?_);obtain ⟨Ao,Ap⟩:=ifN hp;refine Ayj cZ 129 Ai9 BBj rfl trivial tt2 rfl rfl AOs Ao λAq Ar Au v9 h7 I8 E5 S6=>AO1<|AOx<|AOv<|AOr ?_;have Ad:=(Kst.k0 h).no2 E5 S6 I8;refine Ahx Ai9 rfl (Ad.o2 p0).rd (AOr<|AOz<|AO0<|Amy 1046592 (λx:(Int) × (LiI) × LnA × LnN × LvA=>(x.1,x.2.1)) ((0,(List.replicate (Int.toNat a1) ([]:List Int)),Aq,Ar,Au):(Int) × (LiI) × LnA × LnN × LvA) Ap (λx=>[(11,(.int .i64 x.1))]) (λx=>Ad.L.set 0<|aO2 cZ 146 129 x.2.2.1 x.2.2.2.1 x.2.2.2.2 v9 x.2.1) Ad ⟨rfl,trivial⟩ ?_);rintro ⟨Bg,Bh,Bi,Bj,Bl⟩ Bm Bn Bo Ab Ae Az;unfold Asl at Ae;refine AOv<|Ahn rfl rfl (AOz<|AOx<|⟨_,rfl,λAf=>?_,λAf=>?_⟩)
 ·refine AO5<|q_t<|AOx<|AO0<|AOv<|AOr<|AO1<|Ag6<|AOr<|AOr<|AOr ?_;obtain ⟨A3,A4⟩:=ifN<|Ahy Ae Af;refine BC9 Aj8 Ams rfl trivial tt2 rfl rfl AOs A3 λBp Bq Br A5 A6 A7 A8=>?_;have Aa:=Ab.no A6 (Anw A7 A8) A5;obtain ⟨Bt,Aj,A9⟩:=AOw A4;refine Aij Ai9 rfl (Aa.o2 p1) rfl Aj λBu Bv Ba Bw Bx=>Azf Alp (Aa.o2 p1) Aj Ba rfl rfl (Aa.o p0) (Aa.dj p0 p1 AOs) λBy Bb Bc Be=>Ahh<|q_b<|q_t<|Ag6<|Ahk rfl rfl (AOr<|AOz ?_);exact ⟨(_,_,_,_,_),(AOu A9).symm,(Aa.m2 p0 p1 AOs Bc Bb λz hz=> .inl<|Be z hz).sel [1] AOs,rfl,trivial⟩
 ·refine Ahf<|Ahg<|Ahg<|Aio<|q_t<|AOv<|AOr<|AO1<|AO6 ?_;obtain rfl:=AOu<|Az _ (AOu<|Ahz Ae Af).symm;exact ⟨_,AO7,Ab.x,_,_,_,_,rfl,(Ab.o2 p0),Ab.s.sel [0] AOs⟩
def Ap2 (fuel:Nat) (a3:LiI) (Ab:Int) (Af:LiA) (Aa:Int) (Ac:LiI):Option ((Int × LiI) ⊕ LiI):=
 if Aa < (Af.length:Int) then (gI Ac Ab).bind λAd=>(gI a3 Ab).bind λAg=>(gI Ag Aa).bind λAh=>(Ar9 fuel Ah).bind λAi=>(gI Ad Aa).bind λAj=>some (.inl (w64<|Aa + 1,sI Ac Ab<|sI Ad Aa Ai)) else some<|.inr Ac
def Ap3 (fuel:Nat) (a3:LiI) (Aa:Int) (Ac:LiI):Option ((Int × LiI) ⊕ LiI):=
 if Aa < (a3.length:Int) then (gI a3 Aa).bind λAd=>(iter (λs=>Ap2 fuel a3 Aa Ad s.1 s.2) fuel (0,Ac)).bind (λ(Ae:LiI)=>some<|.inl (w64<|Aa + 1,Ae)) else some<|.inr Ac
def Ap4 (fuel:Nat) (a3:LiI) (Ab:Int):Option (Int ⊕ ((LiI × Bool) ⊕ Unit)):=
 if Ab < (a3.length:Int) then (gI a3 Ab).bind λAc=>if (Ac.length:Int) < 1 then some (.inr<|.inl ([],false)) else if 16 < (Ac.length:Int) then some (.inr<|.inl ([],false)) else (gI a3 0).bind λAd=>if ¬ (Ac.length:Int)=(Ad.length:Int) then some (.inr<|.inl ([],false)) else some (.inl<|w64<|Ab + 1) else some<|.inr<|.inr ()
def Ajg (fuel:Nat) (a3:LiI):Option (LiI × Bool):=
 ((if (a3.length:Int) < 1 then some (.inl ([],false)) else if 16 < (a3.length:Int) then some (.inl ([],false)) else some<|.inr ()):Option ((LiI × Bool) ⊕ Unit)).bind (λex=>match ex with | .inl Ab=>(some Ab) | .inr _=>(iter (λs=>Ap4 fuel a3 s) fuel 0).bind (λex=>match ex with | .inl Ac=>(some Ac) | .inr _=>(gI a3 0).bind λAd=>(Akj fuel (a3.length:Int) (Ad.length:Int)).bind λAe=>(iter (λs=>Ap3 fuel a3 s.1 s.2) fuel (0,Ae)).bind (λ(Af:LiI)=>some (Af,true))))
theorem Auc {Ba:Value} {a3:LiI} {r:(LiI × Bool)} (H2:Ajw (cI .i64) h Ba a3) (hp:Ajg fuel a3=some r):Ahs Tryz.prog 60 #[Ba] h (λx h'=>Ext h h'/\ ∃ (x0:Value) (F0:List Nat) (Bq:List LnA) (Br:List Value),x= .tuple #[x0,.bool r.2]/\Aj1 cZ 146 129 h' F0 Bq Br x0 r.1/\Sp h' h.size [F0]):=by
 unfold Ajg at hp;refine cwf (l:=[_]) Tryz.func60 rfl rfl (AOv<|Aho<|AO1 ?_);have K0:=Kst.k0 h;obtain ⟨Bt,Be,Ao⟩:=AOw hp;refine Arb 130572 (λx:Unit=>[]) (λx h'=>(Sum.inr <| ())=Bt/\Kst h h' (K0.L)) ?_ ?_
 ·refine AOv<|AOr<|Ahx APa rfl H2 (Ahn rfl rfl (AOr ?_));by_cases Ag:(a3.length:Int) < 1
  ·rw [decide_eq_true Ag];refine Aki 12 true<|Ahc rfl (AOz<|Ahp rfl (AOv<|Aho<|AO1 ?_));obtain rfl:=AOu<|ifT Be Ag;refine AO6<|Ag7 ?_;have Ap:=Kst.anil2 cZ 146 129 K0;obtain rfl:=AOu Ao;exact ⟨_,Aiz,Ap.x,_,_,_,_,rfl,(Ap.o2 p0),Ap.s.sel [0] AOs⟩
  ·have Bf:=ifF Be Ag;rw [decide_eq_false Ag];refine Ahb 12 false<|AOr<|Ahb 12 false<|Ahx APa rfl H2 (Ahb 12 false<|Anj rfl rfl (APd rfl (AOz<|⟨_,rfl,λAq=>?_,λAq=>?_⟩)))
   ·refine AOv<|Aho<|AO1 ?_;obtain rfl:=AOu<|Ahy Bf Aq;refine AO6<|Ag7 ?_;have Ar:=Kst.anil2 cZ 146 129 K0;obtain rfl:=AOu Ao;exact ⟨_,Aiz,Ar.x,_,_,_,_,rfl,(Ar.o2 p0),Ar.s.sel [0] AOs⟩
   ·refine AO5<|q_t ?_;exact ⟨(():Unit),⟨AOu<|Ahz Bf Aq,K0⟩,trivial⟩
 rintro ⟨⟩ C3 C4 ⟨Bu,Bg⟩;subst Bu;refine AOx<|AOv<|AOr<|Ahx APa rfl H2 (AOr<|AOz<|AO0<|Arf 2199022731308 Ao (λx=>[(19,(.int .i64 x))]) (λx=>Bg.L) Bg ⟨rfl,trivial⟩ ?_);rintro C5 C6 C7 C8 Ab Au Ah;unfold Ap4 at Au;refine AOv<|Ahn rfl rfl (AOz<|AOx<|⟨_,rfl,λAv=>?_,λAv=>?_⟩)
 ·refine AO5<|q_t<|AOx<|AO0<|AOv ?_;obtain ⟨Bh,Bv,Bi⟩:=AOw<|Ahy Au Av;refine An3 APa Aha H2 Ab.x Bv λ_ C9 Aw=>Ah7<|AOr<|Aim APe rfl Aw (Ahn rfl rfl (AOr ?_));by_cases Ai:(Bh.length:Int) < 1
  ·rw [decide_eq_true Ai];refine Aki 26 true<|Ahc rfl (AOr<|An1 31 true<|Aqc 31 true<|Ahc rfl (AOz<|Ahp rfl (AOv<|Aho<|AO1<|AO6<|Ail<|Ag7<|Ag7<|Ail<|Ag7 ?_)));have Ax:=Kst.anil2 cZ 146 129 Ab;obtain rfl:=AOu<|Ah _ (AOu<|ifT Bi Ai).symm;exact ⟨_,Aiz,Ax.x,_,_,_,_,rfl,(Ax.o2 p0),Ax.s.sel [0] AOs⟩
  ·have Bj:=ifF Bi Ai;rw [decide_eq_false Ai];refine Ahb 26 false<|AOr<|Ahb 26 false<|Aim APe rfl Aw (Ahb 26 false<|Anj rfl rfl (APd rfl (AOr ?_)));by_cases Aj:16 < (Bh.length:Int)
   ·rw [decide_eq_true Aj];refine An1 31 true<|Aqc 31 true<|Ahc rfl (AOz<|Ahp rfl (AOv<|Aho<|AO1<|AO6<|Ail<|Ag7<|Ag7<|Ail<|Ag7 ?_));have Ay:=Kst.anil2 cZ 146 129 Ab;obtain rfl:=AOu<|Ah _ (AOu<|ifT Bj Aj).symm;exact ⟨_,Aiz,Ay.x,_,_,_,_,rfl,(Ay.o2 p0),Ay.s.sel [0] AOs⟩
   ·rw [decide_eq_false Aj];refine Ahb 31 false<|AOr<|Ahb 31 false<|Aim APe rfl Aw (Ahb 31 false<|AOr<|Ahb 31 false ?_);obtain ⟨Da,Bw,Bl⟩:=AOw<|ifF Bj Aj;refine Az4 APa rfl H2 rfl Bw λDb Dc Dd Bx By=>Ahb 31 false<|Ahu Aha rfl (AO8 Bx Ab.x) (Ahb 31 false<|Aim APe rfl By (Ahb 31 false<|Ajs rfl rfl (APd rfl (AOz<|⟨_,rfl,λAz=>?_,λAz=>?_⟩))))
    ·refine AOv<|Aho<|AO1<|AO6<|Ail<|Ag7<|Ag7<|Ail<|Ag7 ?_;have A3:=Kst.anil2 cZ 146 129 Ab;obtain rfl:=AOu<|Ah _ (AOu<|Ahy Bl Az).symm;exact ⟨_,Aiz,A3.x,_,_,_,_,rfl,(A3.o2 p0),A3.s.sel [0] AOs⟩
    ·refine AO5<|q_b<|q_t<|Ag6<|Ahk rfl rfl (AOr<|AOz ?_);exact ⟨_,(AOu<|Ahz Bl Az).symm,Ab,rfl,trivial⟩
 ·refine Ahf<|Ahg<|Ahg<|Aio<|q_t<|AOv<|AOr<|Ahx APa rfl H2 (AOr ?_);obtain ⟨De,Bz,B1⟩:=AOw<|Ah _ (AOu<|Ahz Au Av).symm;refine An3 APa Aha H2 Ab.x Bz λ_ Df B3=>Aim APe rfl B3 ?_;obtain ⟨B4,B5,B6⟩:=AOw B1;refine Aux Ab (Ape B5) λB7 B8 B9 Bm Dg Dh Bn=>AO1<|AOx<|AOv<|AOr<|Ahx APa rfl H2 (AOr<|AOz<|AO0<|Amy 151115726325928739996032 (λx:(Int) × (LiI) × LnA × LnN × LvA=>(x.1,x.2.1)) ((0,B4,B7,B8,B9):(Int) × (LiI) × LnA × LnN × LvA) B6 (λx=>[(50,(.int .i64 x.1))]) (λx=>Bn.L.set 0<|aO2 cZ 146 129 x.2.2.1 x.2.2.2.1 x.2.2.2.2 Bm x.2.1) Bn ⟨rfl,trivial⟩ ?_);rintro ⟨Bo,Ca,Cb,Cd,Ce⟩ Di Dj Dk Ac A4 Cf;unfold Ap3 at A4;refine AOv<|Ahn rfl rfl (AOz<|AOx<|⟨_,rfl,λA5=>?_,λA5=>?_⟩)
  ·refine AO5<|q_t<|AOx<|AO0<|AOv<|AOr<|Ah7<|AOr<|AOr ?_;obtain ⟨Dl,Cg,Ch⟩:=AOw<|Ahy A4 A5;refine An3 APa Aha H2 Ac.x Cg λ_ Do Ci=>Aim APe rfl Ci (AOr<|AOz<|AO0<|Amy 75557575495538171707648 (λx:(Int) × (LiI) × LnA × LnN × LvA=>(x.1,x.2.1)) ((0,Ca,Cb,Cd,Ce):(Int) × (LiI) × LnA × LnN × LvA) Ch (λx=>[(58,(.int .i64 x.1))]) (λx=>Ac.L.set 0<|aO2 cZ 146 129 x.2.2.1 x.2.2.2.1 x.2.2.2.2 Bm x.2.1) Ac ⟨rfl,trivial⟩ ?_);rintro ⟨Dp,Dq,Dr,Ds,Dt⟩ Du A6 Dv Ad A7 Cj;unfold Ap2 at A7;refine AOv<|Ahn rfl rfl (AOz<|AOx<|⟨_,rfl,λA8=>?_,λA8=>?_⟩)
   ·refine AO5<|q_t<|AOx<|AO0<|AOv<|AOr<|AO1<|Ai1 (λh'=>UpT [] A6 h') AO4 ?_;have Ak:UpT [] A6 A6:=UpT.start all_nil;refine AOr<|AOr ?_;obtain ⟨Dw,A9,Ck⟩:=AOw<|Ahy A7 A8;refine Aij Ai9 rfl (Ad.o2 p0) rfl A9 λDx Dy Dz Cm Cn=>Ahm Alp rfl Ak (λh' hb=>AO8 Cn hb.ext) (AOr<|AOr<|AOr ?_);obtain ⟨D0,Co,Cp⟩:=AOw Ck;refine Az4 APa rfl H2 rfl Co λD1 D2 D3 Cq Cr=>Ahm Aha rfl Ak (λh' hb=>AO8 Cq<|Ad.x.trans hb.ext) (AOr ?_);obtain ⟨D4,Ct,Cu⟩:=AOw Cp;refine Aqu (c:=(cI .i64)) APe rfl Cr rfl Ct λD5 D6 D7 Cv Cw=>?_;obtain rfl:=Cv;refine Ahm AO9 rfl Ak (λh' hb=>AO8 (Cw 0 _ rfl)<|Ad.x.trans hb.ext) ?_;obtain ⟨D8,Cx,Cy⟩:=AOw Cu;refine Am4 Ad Ak (Are Cx) λD9 Ea Eb Ae Ec=>?_;obtain ⟨Ed,Bp,Cz⟩:=AOw Cy;refine Air (m:=Bo) Aj8 rfl (Ad.o2 p0) Cm A9 rfl Bp λEe C0=>Aol (m:=Bo) (Aze Aip (cZ.klen<|Ae.z p0) rfl rfl (cZ.one<|Ae.z p0)) (Ae.o2 p1) C0 A9 Bp (Ae.z p0) λEf C1 C2=>Ahh<|q_b<|q_t<|Ag6<|Ahk rfl rfl (AOr<|AOz ?_);exact ⟨(_,_,_,_,_),(AOu Cz).symm,(Ae.uO2 p1 C2 C1).sel [1] AOs,rfl,trivial⟩
   ·refine Ahf<|Ahg<|Ahg<|Aio<|q_b<|q_t<|Ag6<|Ahk rfl rfl (AOr<|AOz ?_);exact ⟨(_,_,_,_,_),(AOu<|Cj _ (AOu<|Ahz A7 A8).symm).symm,Ad,rfl,trivial⟩
  ·refine Ahf<|Ahg<|Ahg<|Aio<|q_t<|AOv<|AOr<|Aho<|AO1<|AO6 ?_;obtain rfl:=AOu<|Cf _ (AOu<|Ahz A4 A5).symm;exact ⟨_,Aiz,Ac.x,_,_,_,_,rfl,(Ac.o2 p0),Ac.s.sel [0] AOs⟩
def Ak9 (fuel:Nat) (a3:LiI):Option LiI:=
 (Ajg fuel a3).bind λ(x5,x6)=>some x5
theorem Aqn {Ab:Value} {a3 r:LiI} (H2:Ajw (cI .i64) h Ab a3) (hp:Ak9 fuel a3=some r):Ahs Tryz.prog 30 #[Ab] h (λx h'=>Ext h h'/\ ∃ (x0:Value) (F0:List Nat) (Ai:List LnA) (Aj:List Value),x=x0/\Aj1 cZ 146 129 h' F0 Ai Aj x0 r/\Sp h' h.size [F0]):=by
 unfold Ak9 at hp;refine cwf (l:=[_]) Tryz.func30 rfl rfl (AOv<|Ah7<|AOr ?_);have K0:=Kst.k0 h;obtain ⟨⟨x5,x6⟩,Ak,Ag⟩:=AOw hp;dsimp only at Ag;refine Aqs rfl (Auc (H2.ext K0.x) Ak) λAv Aw E9 Ao=>?_;obtain ⟨Ax,Ay,Az,A3,rfl,Ap,Aq⟩:=Ao;refine AOr<|Ait rfl rfl (Ait rfl rfl (Aho<|Ah7<|AOr<|AO1<|AO6 ?_));have Aa:=K0.no2 E9 Aq Ap;obtain rfl:=AOu Ag;exact ⟨_,AO7,Aa.x,_,_,_,_,rfl,(Aa.o2 p0),Aa.s.sel [0] AOs⟩
def Am5 (fuel:Nat) (a3:LiI) (Ab:Int):Option (Int ⊕ ((Int × Int × Bool) ⊕ Unit)):=
 if Ab < (a3.length:Int) then (gI a3 Ab).bind λAc=>if (Ac.length:Int) < 1 then some (.inr<|.inl (0,0,false)) else if 16 < (Ac.length:Int) then some (.inr<|.inl (0,0,false)) else (gI a3 0).bind λAd=>if ¬ (Ac.length:Int)=(Ad.length:Int) then some (.inr<|.inl (0,0,false)) else some (.inl<|w64<|Ab + 1) else some<|.inr<|.inr ()
def Aje (fuel:Nat) (a3:LiI):Option (Int × Int × Bool):=
 ((if (a3.length:Int) < 1 then some (.inl (0,0,false)) else if 16 < (a3.length:Int) then some (.inl (0,0,false)) else some<|.inr ()):Option ((Int × Int × Bool) ⊕ Unit)).bind (λex=>match ex with | .inl Ab=>(some Ab) | .inr _=>(iter (λs=>Am5 fuel a3 s) fuel 0).bind (λex=>match ex with | .inl Ac=>(some Ac) | .inr _=>(gI a3 0).bind λAd=>some ((a3.length:Int),(Ad.length:Int),true)))
theorem Ao5 {Aq:Value} {a3:LiI} {r:(Int × Int × Bool)} (H2:Ajw cZ h Aq a3) (hp:Aje fuel a3=some r):Ahs Tryz.prog 131 #[Aq] h (λx h'=>Ext h h'/\x= .tuple #[.int .i64 r.1,.int .i64 r.2.1,.bool r.2.2]):=by
 unfold Aje at hp;refine cwf (l:=[_]) Tryz.func131 rfl rfl (AOv<|Aho<|Aho<|AO1 ?_);have K0:=Kst.k0 h;obtain ⟨A3,Ar,Ai⟩:=AOw hp;refine Arb 32668 (λx:Unit=>[]) (λx h'=>(Sum.inr <| ())=A3/\Kst h h' (K0.L)) ?_ ?_
 ·refine AOv<|AOr<|Ahx Ai9 rfl H2 (Ahn rfl rfl (AOr ?_));by_cases Ad:(a3.length:Int) < 1
  ·rw [decide_eq_true Ad];refine Aki 10 true<|Ahc rfl (AOz<|Ahp rfl (AOv<|Aho<|Aho<|AO1 ?_));obtain rfl:=AOu<|ifT Ar Ad;refine AO6<|Ag7 ?_;obtain rfl:=AOu Ai;exact ⟨_,Arr,K0.x,rfl⟩
  ·have Au:=ifF Ar Ad;rw [decide_eq_false Ad];refine Ahb 10 false<|AOr<|Ahb 10 false<|Ahx Ai9 rfl H2 (Ahb 10 false<|Anj rfl rfl (APd rfl (AOz<|⟨_,rfl,λAj=>?_,λAj=>?_⟩)))
   ·refine AOv<|Aho<|Aho<|AO1 ?_;obtain rfl:=AOu<|Ahy Au Aj;refine AO6<|Ag7 ?_;obtain rfl:=AOu Ai;exact ⟨_,Arr,K0.x,rfl⟩
   ·refine AO5<|q_t ?_;exact ⟨(():Unit),⟨AOu<|Ahz Au Aj,K0⟩,trivial⟩
 rintro ⟨⟩ Bc Be ⟨A4,Av⟩;subst A4;refine AOx<|AOv<|AOr<|Ahx Ai9 rfl H2 (AOr<|AOz<|AO0<|Arf 549755682908 Ai (λx=>[(17,(.int .i64 x))]) (λx=>Av.L) Av ⟨rfl,trivial⟩ ?_);rintro Bf Bg Bh Bi Aa Ak Ae;unfold Am5 at Ak;refine AOv<|Ahn rfl rfl (AOz<|AOx<|⟨_,rfl,λAm=>?_,λAm=>?_⟩)
 ·refine AO5<|q_t<|AOx<|AO0<|AOv ?_;obtain ⟨Aw,A5,Ax⟩:=AOw<|Ahy Ak Am;refine An3 Ai9 Alp H2 Aa.x A5 λ_ Bj Ao=>Ah7<|AOr<|Aim Aj8 rfl Ao (Ahn rfl rfl (AOr ?_));by_cases Af:(Aw.length:Int) < 1
  ·rw [decide_eq_true Af];refine Aki 24 true<|Ahc rfl (AOr<|An1 29 true<|Aqc 29 true<|Ahc rfl (AOz<|Ahp rfl (AOv<|Aho<|Aho<|AO1<|AO6<|Ail<|Ag7<|Ag7<|Ail<|Ag7 ?_)));obtain rfl:=AOu<|Ae _ (AOu<|ifT Ax Af).symm;exact ⟨_,Arr,Aa.x,rfl⟩
  ·have Ay:=ifF Ax Af;rw [decide_eq_false Af];refine Ahb 24 false<|AOr<|Ahb 24 false<|Aim Aj8 rfl Ao (Ahb 24 false<|Anj rfl rfl (APd rfl (AOr ?_)));by_cases Ag:16 < (Aw.length:Int)
   ·rw [decide_eq_true Ag];refine An1 29 true<|Aqc 29 true<|Ahc rfl (AOz<|Ahp rfl (AOv<|Aho<|Aho<|AO1<|AO6<|Ail<|Ag7<|Ag7<|Ail<|Ag7 ?_));obtain rfl:=AOu<|Ae _ (AOu<|ifT Ay Ag).symm;exact ⟨_,Arr,Aa.x,rfl⟩
   ·rw [decide_eq_false Ag];refine Ahb 29 false<|AOr<|Ahb 29 false<|Aim Aj8 rfl Ao (Ahb 29 false<|AOr<|Ahb 29 false ?_);obtain ⟨Bl,A6,Az⟩:=AOw<|ifF Ay Ag;refine Az4 Ai9 rfl H2 rfl A6 λBm Bn Bo A7 A8=>Ahb 29 false<|Ahu Alp rfl (AO8 A7 Aa.x) (Ahb 29 false<|Aim Aj8 rfl A8 (Ahb 29 false<|Ajs rfl rfl (APd rfl (AOz<|⟨_,rfl,λAp=>?_,λAp=>?_⟩))))
    ·refine AOv<|Aho<|Aho<|AO1<|AO6<|Ail<|Ag7<|Ag7<|Ail<|Ag7 ?_;obtain rfl:=AOu<|Ae _ (AOu<|Ahy Az Ap).symm;exact ⟨_,Arr,Aa.x,rfl⟩
    ·refine AO5<|q_b<|q_t<|Ag6<|Ahk rfl rfl (AOr<|AOz ?_);exact ⟨_,(AOu<|Ahz Az Ap).symm,Aa,rfl,trivial⟩
 ·refine Ahf<|Ahg<|Ahg<|Aio<|q_t<|AOx<|Ame<|AOr<|Ahx Ai9 rfl H2 (AOr ?_);obtain ⟨Bp,A9,Ba⟩:=AOw<|Ae _ (AOu<|Ahz Ak Am).symm;refine An3 Ai9 Alp H2 Aa.x A9 λ_ Bq Bb=>Aim Aj8 rfl Bb (Aho<|Aho<|AO1<|AO6 ?_);obtain rfl:=AOu Ba;exact ⟨_,Arr,Aa.x,rfl⟩
def Ala (fuel:Nat) (a3:LiI):Option (Int × Bool):=
 (Aje fuel a3).bind λ(x5,x6,x7)=>if (!x7)=true then some (0,false) else if ¬ x5=x6 then some (0,false) else some (x5,true)
theorem Au3 {a3:LiI} {r:(Int × Bool)} (H2:Ajw cZ h Ad a3) (hp:Ala fuel a3=some r):Ahs Tryz.prog 117 #[Ad] h (λx h'=>Ext h h'/\x= .tuple #[.int .i64 r.1,.bool r.2]):=by
 unfold Ala at hp;refine cwf (l:=[_]) Tryz.func117 rfl rfl (AOv<|Aho<|Ah7<|AOr ?_);have K0:=Kst.k0 h;obtain ⟨⟨x5,x6,x7⟩,Ak,Aa⟩:=AOw hp;dsimp only at Aa;refine Akb K0 (Ao5 (H2.ext K0.x) Ak) λAp Aq Ab=>AOr<|Ait rfl rfl (Ait rfl rfl (Ait rfl rfl (Aho<|Aho<|AO1<|AOx<|AOv<|AOr<|Akc rfl (AOr ?_))));cases Ag:(!x7)
 ·refine Ahb 15 false<|AOr<|Ahb 15 false<|AOr<|Ahb 15 false<|Ajs rfl rfl (APd rfl (AOz ?_));have Ah:=Aok Aa Ag;refine ⟨_,rfl,λAc=>?_,λAc=>?_⟩
  ·refine AOv<|Aho<|AO1<|AO6<|Ag7 ?_;obtain rfl:=AOu<|Ahy Ah Ac;exact ⟨_,Aiz,Ab.x,rfl⟩
  ·refine AO5<|q_t<|AOv<|AOr<|Aho<|AO1<|AO6 ?_;obtain rfl:=AOu<|Ahz Ah Ac;exact ⟨_,Aiz,Ab.x,rfl⟩
 ·refine Aki 15 true<|Ahc rfl (AOz<|Ahp rfl (AOv<|Aho<|AO1<|AO6<|Ag7 ?_));obtain rfl:=AOu<|ifT Aa Ag;exact ⟨_,Aiz,Ab.x,rfl⟩
def Asm (fuel:Nat) (Ac:Int) (Ad:LiA) (Aa:Int) (Ab:LiI):Option ((Int × LiI) ⊕ LiI):=
 if Aa < (Ad.length:Int) then (gI Ad Aa).bind λAf=>(gI Ab Ac).bind λAe=>(Azg fuel Af).bind λAg=>if Ae.length<=100000000 then some (.inl (w64<|Aa + 1,sI Ab Ac<|Ae ++ [Ag])) else none else some<|.inr Ab
def Asn (fuel:Nat) (a3:LiI) (Aa:Int) (Ac:LiI):Option ((Int × LiI) ⊕ LiI):=
 if Aa < (a3.length:Int) then (gI a3 Aa).bind λAd=>(iter (λs=>Asm fuel Aa Ad s.1 s.2) fuel (0,Ac)).bind (λ(Ae:LiI)=>some<|.inl (w64<|Aa + 1,Ae)) else some<|.inr Ac
def Anp (fuel:Nat) (a3:LiI):Option LiI:=
 if 0<=(a3.length:Int)/\(a3.length:Int)<=100000000 then (iter (λs=>Asn fuel a3 s.1 s.2) fuel (0,List.replicate (Int.toNat (a3.length:Int)) ([]:List Int))).bind (λ(Ab:LiI)=>some Ab) else none
theorem Avy {Aq:Value} {a3 r:LiI} (H2:Ajw cZ h Aq a3) (hp:Anp fuel a3=some r):Ahs Tryz.prog 66 #[Aq] h (λx h'=>Ext h h'/\ ∃ (x0:Value) (F0:List Nat) (A4:List LnA) (A5:List Value),x=x0/\Aj1 cZ 146 129 h' F0 A4 A5 x0 r/\Sp h' h.size [F0]):=by
 unfold Anp at hp;refine cwf (l:=[_]) Tryz.func66 rfl rfl (AOv<|Ah7<|AOr<|Ahx Ai9 rfl H2 ?_);obtain ⟨A6,A7⟩:=ifN hp;refine Ayj cZ 129 Ai9 BBj rfl trivial tt2 rfl rfl AOs A6 λA8 A9 Ba v11 h9 Bb E7 S8=>AO1<|AOx<|AOv<|AOr<|Ahx Ai9 rfl H2 (AOr<|AOz<|AO0 ?_);have Av:=(Kst.k0 h).no2 E7 S8 Bb;refine Amy 137438949456 (λx:(Int) × (LiI) × LnA × LnN × LvA=>(x.1,x.2.1)) ((0,(List.replicate (Int.toNat (a3.length:Int)) ([]:List Int)),A8,A9,Ba):(Int) × (LiI) × LnA × LnN × LvA) A7 (λx=>[(12,(.int .i64 x.1))]) (λx=>Av.L.set 0<|aO2 cZ 146 129 x.2.2.1 x.2.2.2.1 x.2.2.2.2 v11 x.2.1) Av ⟨rfl,trivial⟩ ?_;rintro ⟨Cg,Bf,Bg,Bh,Bi⟩ Ch Ci Cj Ab Ah Bj;unfold Asn at Ah;refine AOv<|Ahn rfl rfl (AOz<|AOx<|⟨_,rfl,λAi=>?_,λAi=>?_⟩)
 ·refine AO5<|q_t<|AOx<|AO0<|AOv<|AOr<|Ah7<|AOr<|AOr ?_;obtain ⟨Ck,Bl,Bm⟩:=AOw<|Ahy Ah Ai;refine An3 Ai9 Alp H2 Ab.x Bl λ_ Cm Aw=>Aim Aj8 rfl Aw (AOr<|AOz<|AO0<|Amy 68718428224 (λx:(Int) × (LiI) × LnA × LnN × LvA=>(x.1,x.2.1)) ((0,Bf,Bg,Bh,Bi):(Int) × (LiI) × LnA × LnN × LvA) Bm (λx=>[(20,(.int .i64 x.1))]) (λx=>Ab.L.set 0<|aO2 cZ 146 129 x.2.2.1 x.2.2.2.1 x.2.2.2.2 v11 x.2.1) Ab ⟨rfl,trivial⟩ ?_);rintro ⟨Cn,Co,Cp,Cq,Cr⟩ Ct Cu Cv Ad Aj Bn;unfold Asm at Aj;refine AOv<|Ahn rfl rfl (AOz<|AOx<|⟨_,rfl,λAk=>?_,λAk=>?_⟩)
  ·refine AO5<|q_t<|AOx<|AO0<|AOv ?_;obtain ⟨Cw,Bo,Bp⟩:=AOw<|Ahy Aj Ak;refine Aqu (c:=cZ) Aj8 rfl Aw rfl Bo λCx Cy Bq Ae Br=>Aum (c:=cZ) Aip rfl (Ad.zx Ae) (λj u hu=>(AO8 (Br j u hu) Ad.x)) (Aj4 Ad [.bool false,.slice none 0 0] Ams λCz Bt C0 Ax=>Anz Ax p0 (Ahd Bt) (Ax.zx Ae) λAm Aa=>AOz ?_);obtain ⟨C1,Ao,Bu⟩:=AOw Bp;obtain ⟨Ay,Bv,Bw,Bx,By⟩:=(Aa.o2 p1).rowG Ao;refine Ai1 (λh'=>UpT (Ay ++ []) Am h') AO4 ?_;have Ac:UpT (Ay ++ []) Am Am:=UpT.start<|Aiv Bx all_nil;refine AOr<|AOr<|AOr<|AOr<|Aij Ai9 rfl (Aa.o2 p1) rfl Ao λC2 C3 Bz B1 B3=>Ahm Alp rfl Ac (λh' hb=>At4 B3 hb<|Azq (By _ Bz) Azr) (Api Bq Aip (cZ.klen<|Aa.zx Ae) rfl Ac (λh' hb=>((Aa.b p0).upT hb (A17 (λb hb hg=>(Aa.dj p0 p1 AOs) b hb (Bw b hg)) A9n)).agg) ?_);obtain ⟨C4,B4,B5⟩:=AOw Bu;refine Aj3 Ac (λ_ E=>Ac.thenE E) rfl (A01 (Aa.zx Ae).2 B4) λC5 C6 Az B6=>?_;obtain ⟨C7,rfl,B7⟩:=B6;have A3:=Ac.thenE Az;obtain ⟨C8,rfl,B8⟩:=B7.cs;have Ap:=(Aa.e Az).az B8;obtain ⟨B9,Ca⟩:=ifN B5;refine BGq Aj8 Ams rfl rfl Ai9 Alp (Ap.o2 p2) B1 Ao Bv A3 (λ_ U=>A3.then U<|Am3 rfl) (λ_=>rfl) rfl (Ap.z p0) (λ_ _=>rfl) (λ_ _=>rfl) rfl AOs B9 λC9 Da Db Dc Dd De Df Cb Cd Ce=>Ahh<|q_b<|q_t<|Ag6<|Ahk rfl rfl (AOr<|AOz ?_);exact ⟨(_,_,_,_,_),(AOu Ca).symm,(Ap.uo2 p2 Cd Cb Ce).sel [2] AOs,rfl,trivial⟩
  ·refine Ahf<|Ahg<|Ahg<|Aio<|q_b<|q_t<|Ag6<|Ahk rfl rfl (AOr<|AOz ?_);exact ⟨(_,_,_,_,_),(AOu<|Bn _ (AOu<|Ahz Aj Ak).symm).symm,Ad,rfl,trivial⟩
 ·refine Ahf<|Ahg<|Ahg<|Aio<|q_t<|AOv<|AOr<|AO1<|AO6 ?_;obtain rfl:=AOu<|Bj _ (AOu<|Ahz Ah Ai).symm;exact ⟨_,AO7,Ab.x,_,_,_,_,rfl,(Ab.o2 p0),Ab.s.sel [0] AOs⟩
def Aqy (fuel:Nat) (a3:LiI) (Ac:LiA) (Ae:Int) (Aa:LiA) (Ab:Int):Option ((LiA × Int) ⊕ LiA):=
 if Ab < (Ac.length:Int) then (gI Ac Ab).bind λAf=>(gI a3 Ae).bind λAg=>(gI Ag Af).bind λAh=>if Aa.length<=100000000 then some (.inl (Aa ++ [Ah],w64<|Ab + 1)) else none else some<|.inr Aa
def Aqz (fuel:Nat) (a3:LiI) (a7 Ae:LiA) (Aa:LiI) (Ab:Int):Option ((LiI × Int) ⊕ LiI):=
 if Ab < (a7.length:Int) then (gI a7 Ab).bind λAf=>(iter (λs=>Aqy fuel a3 Ae Af s.1 s.2) fuel ([],0)).bind (λ(Ag:LiA)=>if Aa.length<=100000000 then some (.inl (Aa ++ [Ag],w64<|Ab + 1)) else none) else some<|.inr Aa
def Amh (fuel:Nat) (a3:LiI) (a7 Ac:LiA):Option LiI:=
 (iter (λs=>Aqz fuel a3 a7 Ac s.1 s.2) fuel ([],0)).bind (λ(Ad:LiI)=>some Ad)
theorem Au4 {Ag:Value} {a3:LiI} {Ai:Value} {a7:LiA} {Ak:Value} {Am:LiA} {r:LiI} (H2:Ajw cZ h Ag a3) (H6:SlC (cI .i64) h Ai a7) (Ap:SlC (cI .i64) h Ak Am) (hp:Amh fuel a3 a7 Am=some r):Ahs Tryz.prog 175 #[Ag,Ai,Ak] h (λx h'=>Ext h h'/\ ∃ (x0:Value) (F0:List Nat) (Ay:List LnA) (Az:List Value),x=x0/\Aj1 cZ 146 129 h' F0 Ay Az x0 r/\Sp h' h.size [F0]):=by
 unfold Amh at hp;refine cwf (l:=[_,_,_]) Tryz.func175 rfl rfl (AOv<|Ah7<|AO1<|AOx<|AOv<|AOr<|Aim A3d rfl H6 (AOr<|AOz<|AO0 ?_));have Au:=Kst.anil2 cZ 146 129<|Kst.k0 h;refine Amy 2199023228544 (λx:(LiI) × (Value) × LnA × LnN × LvA × (Int)=>(x.1,x.2.2.2.2.2)) (([],(.slice none 0 0),[],[],[],0):(LiI) × (Value) × LnA × LnN × LvA × (Int)) hp (λx=>[(7,x.2.1),(15,(.int .i64 x.2.2.2.2.2))]) (λx=>Au.L.set 0<|aO2 cZ 146 129 x.2.2.1 x.2.2.2.1 x.2.2.2.2.1 x.2.1 x.1) Au ⟨rfl,rfl,trivial⟩ ?_;rintro ⟨Br,Bt,Bu,Bv,Bw,Bx⟩ By Bz B1 Ab Ac A3;unfold Aqz at Ac;refine AOv<|Ahn rfl rfl (AOz<|AOx<|⟨_,rfl,λAd=>?_,λAd=>?_⟩)
 ·refine AO5<|q_t<|AOx<|AO0<|AOv ?_;obtain ⟨B3,A4,A5⟩:=AOw<|Ahy Ac Ad;refine A1l A3d Aii H6 Ab.x A4 λ_=>(Ah7<|AO1<|AOx<|AOv<|AOr<|Aim A3d rfl Ap (AOr<|AOz<|AO0 ?_));have Av:=Kst.anil cZ 129 Ab;refine Amy 68717384704 (λx:(LiA) × (Value) × LnA × (Int)=>(x.1,x.2.2.2)) (([],(.slice none 0 0),[],0):(LiA) × (Value) × LnA × (Int)) A5 (λx=>[(10,x.2.1),(21,(.int .i64 x.2.2.2))]) (λx=>Av.L.set 0<|aO cZ 129 x.2.2.1 x.2.1 x.1) Av ⟨rfl,rfl,trivial⟩ ?_;rintro ⟨B4,B5,B6,B7⟩ B8 B9 Ca Aa Ae A6;unfold Aqy at Ae;refine AOv<|Ahn rfl rfl (AOz<|AOx<|⟨_,rfl,λAf=>?_,λAf=>?_⟩)
  ·refine AO5<|q_t<|AOx<|AO0<|AOv ?_;obtain ⟨Cb,A7,A8⟩:=AOw<|Ahy Ae Af;refine A1l A3d Aii Ap Aa.x A7 λ_=>(AO1<|Ag6<|AOr<|AOr<|AOr ?_);obtain ⟨Cd,A9,Ba⟩:=AOw A8;refine An3 Ai9 Alp H2 Aa.x A9 λ_ Ce Bb=>AOr ?_;obtain ⟨Cf,Bc,Be⟩:=AOw Ba;refine Aqu (c:=cZ) Aj8 rfl Bb rfl Bc λCg Ch Ci Aw Bf=>Aum (c:=cZ) Aip rfl (Aa.zx Aw) (λj u hu=>(AO8 (Bf j u hu) Aa.x)) ?_;obtain ⟨Bg,Bh⟩:=ifN Be;refine Ar6 Aj8 Ams rfl rfl trivial tt2 (λ_=>rfl) rfl (Aa.zx Aw) (Aa.o p0) AOs Bg λCj Ck Cm Cn Bi Bj Bl=>Aho<|Ahh<|q_b<|q_t<|Ag6<|Ahk rfl rfl (AOr<|AOz ?_);exact ⟨(_,_,_,_),(AOu Bh).symm,(Aa.uo p0 Bj Bi Bl),rfl,rfl,trivial⟩
  ·refine Ahf<|Ahg<|Ahg<|Aio<|q_t<|Ag6<|AOr<|AOr ?_;obtain ⟨Bm,Bn⟩:=ifN<|A6 _ (AOu<|Ahz Ae Af).symm;refine A2s Ai9 BBj rfl rfl trivial tt2 (λ_=>rfl) rfl (Aa.o p0) (Aa.o2 p1) (Aa.dj p0 p1 AOs) AOs Bm λCo Cp Cq Cr Bo Bp Bq=>Aho<|Ahh<|q_b<|q_t<|Ag6<|Ahk rfl rfl (AOr<|AOz ?_);exact ⟨(_,_,_,_,_,_),(AOu Bn).symm,(Aa.m2 p0 p1 AOs Bp Bo Bq).sel [1] AOs,rfl,rfl,trivial⟩
 ·refine Ahf<|Ahg<|Ahg<|Aio<|q_t<|AOv<|AOr<|AO1<|AO6 ?_;obtain rfl:=AOu<|A3 _ (AOu<|Ahz Ac Ad).symm;exact ⟨_,AO7,Ab.x,_,_,_,_,rfl,(Ab.o2 p0),Ab.s.sel [0] AOs⟩
def Ami (fuel:Nat) (Ab:LiI) (Ac:Int) (Ad:LiI) (Aa:Int):Option (Int ⊕ Int):=
 ((if Aa < (Ab.length:Int) then (gI Ad Aa).bind λAe=>(gI Ae Ac).bind λAf=>(A45 fuel Af).bind λAg=>if Ag=0 then some (.inl ()) else some (.inr ()) else some<|.inr ()):Option (Unit ⊕ Unit)).bind (λex=>match ex with | .inl _=>(some<|.inl<|w64<|Aa + 1) | .inr _=>some<|.inr Aa)
def Amj (fuel:Nat) (Ag:LiI) (Ac Ah Ae Aa:Int) (Ab:LiI):Option ((Int × LiI) ⊕ LiI):=
 if Aa < (Ag.length:Int) then (gI Ab Ae).bind λAd=>(gI Ab Ac).bind λAf=>(gI Af Ac).bind λAi=>(gI Ad Aa).bind λAj=>(Ayo fuel Ai Aj).bind λAk=>(gI Ad Ac).bind λAm=>(gI Af Aa).bind λAo=>(Ayo fuel Am Ao).bind λAp=>(BOr fuel Ak Ap).bind λAq=>(Ajy fuel Aq Ah).bind λAr=>some (.inl (w64<|Aa + 1,sI Ab Ae<|sI Ad Aa Ar)) else some<|.inr Ab
def Amk (fuel:Nat) (Ab:LiI) (Ac Ae Aa:Int) (Ad:LiI):Option ((Int × LiI) ⊕ LiI):=
 if Aa < (Ab.length:Int) then (iter (λs=>Amj fuel Ab Ac Ae Aa s.1 s.2) fuel (w64<|Ac + 1,Ad)).bind (λ(Af:LiI)=>some<|.inl (w64<|Aa + 1,Af)) else some<|.inr Ad
def Aml (fuel:Nat) (Ac:LiI) (Ae:Bool) (Aa:Int) (Ab:LiI) (Af:Int):Option ((Bool × Int × LiI × Int) ⊕ (Int ⊕ (Bool × Int))):=
 if Aa < (Ac.length:Int) then (((((iter (λs=>Ami fuel Ac Aa Ab s) fuel Aa).bind (λ(Ah:Int)=>some Ah)):Option Int).bind (λ(Ad:Int)=>if Ad=(Ac.length:Int) then some (.inl 0) else ((if Aa < Ad then (gI Ab Aa).bind λAi=>(gI Ab Ad).bind λAj=>some (!Ae,sI (sI Ab Ad Ai) Aa Aj) else some (Ae,Ab)):Option (Bool × LiI)).bind (λ((Ak,Am):Bool × LiI)=>(iter (λs=>Amk fuel Ac Aa Af s.1 s.2) fuel (w64<|Aa + 1,Am)).bind (λ(Ag:LiI)=>(gI Ag Aa).bind λAo=>(gI Ao Aa).bind λAp=>some<|.inr (Ak,Ag,Ap))))):Option (Int ⊕ (Bool × LiI × Int))).bind (λex=>match ex with | .inl Aq=>(some<|.inr<|.inl Aq) | .inr (Ar,Au,Av)=>some<|.inl (Ar,w64<|Aa + 1,Au,Av)) else some<|.inr<|.inr (Ae,Af)
def Aif (fuel:Nat) (a3:LiI):Option Int:=
 (Anp fuel a3).bind λAa=>(Ar9 fuel 1).bind λAd=>(iter (λs=>Aml fuel Aa s.1 s.2.1 s.2.2.1 s.2.2.2) fuel (false,0,Aa,Ad)).bind (λex=>match ex with | .inl Ae=>(some Ae) | .inr (Af,Ab)=>if Af=true then (BBk fuel Ab).bind λAg=>some Ag else some Ab)
theorem Ajt {Bj:Value} {a3:LiI} (H2:Ajw cZ h Bj a3) (hp:Aif fuel a3=some r):Ahs Tryz.prog 121 #[Bj] h (λx h'=>Ext h h'/\ ∃ (x0:Value),x=x0/\ZZ h' x0 r):=by
 unfold Aif at hp;refine cwf (l:=[_]) Tryz.func121 rfl rfl (AOv<|Aj4 (Kst.k0 h) [.bool false,.slice none 0 0] Ams λb5 h6 E8 Bn=>Apt<|AOr ?_);obtain ⟨Bo,Cx,Cy⟩:=AOw hp;refine Aux Bn (Avy (H2.ext Bn.x) Cx) λCz C0 C1 v20 Gh Gi Bp=>Ah7<|AOr<|Ahx Ai9 rfl (Bp.o2 p0).rd (Ah7 ?_);obtain ⟨C2,C3,C4⟩:=AOw Cy;refine Avd Bp (Are C3) λC5 Gj Gk C6=>Aj4 C6 [.bool false,.slice none 0 0] Ams λBq C7 Gl Br=>Anz Br p0 (Ahd C7) (Br.z p1) λGm Bt=>AO1<|AOx<|AOv<|AO1<|AO0<|Amy 2658455991569831745807614120560625600 (λx:(Bool) × (Int) × (LiI) × LnA × LnN × LvA × (Int) × LvA=>(x.1,x.2.1,x.2.2.1,x.2.2.2.2.2.2.1)) ((false,0,Bo,Cz,C0,C1,C2,C5):(Bool) × (Int) × (LiI) × LnA × LnN × LvA × (Int) × LvA) C4 (λx=>[(6,(.bool x.1)),(7,(.int .i64 x.2.1))]) (λx=>((Bt.L.set 2<|aO2 cZ 146 129 x.2.2.2.1 x.2.2.2.2.1 x.2.2.2.2.2.1 v20 x.2.2.1).set 1 (aZ x.2.2.2.2.2.2.2 x.2.2.2.2.2.2.1)).set 0 (aB 129 Bq x.2.2.2.2.2.2.2)) Bt ⟨rfl,rfl,trivial⟩ ?_;rintro ⟨Bu,Ag,Bv,C8,C9,Da,Gn,Gp⟩ Gq Db Gr Ab Ax Bw;unfold Aml at Ax;refine AOx<|AOv<|AOr<|AOr<|Ahn rfl rfl (AOz<|⟨_,rfl,λAy=>?_,λAy=>?_⟩)
 ·refine AO5<|q_t ?_;obtain ⟨Dc,Dd,Bx⟩:=AOw<|Ahy Ax Ay;refine Arb 2658455991569831745807614120558593856 (λx:(Bool) × (LiI) × LnA × LnN × LvA × (Int) × LvA=>[(6,(.bool x.1))]) (λx h'=>(Sum.inr <| (x.1,x.2.1,x.2.2.2.2.2.1))=Dc/\Kst h h' (((Ab.L.set 2<|aO2 cZ 146 129 x.2.2.1 x.2.2.2.1 x.2.2.2.2.1 v20 x.2.1).set 1 (aZ x.2.2.2.2.2.2 x.2.2.2.2.2.1)).set 0 (aB 129 Bq x.2.2.2.2.2.2))) ?_ ?_
  ·refine AO0<|AOv<|AOr<|AO1 ?_;obtain ⟨De,Df,By⟩:=AOw Dd;refine Arb 274873712896 (λx:(Int)=>[(8,(.int .i64 x))]) (λx h'=>( x)=De/\Kst h h' (Ab.L)) ?_ ?_
   ·refine AO0<|Arf 274873712896 Df (λx=>[(8,(.int .i64 x))]) (λx=>Ab.L) Ab ⟨rfl,trivial⟩ ?_;rintro Am Gt Gu Gv Ah Bz B1;unfold Ami at Bz;obtain ⟨Dg,B3,Az⟩:=AOw Bz;refine Arb 68715282432 (λx:Unit=>[]) (λx h'=>(Sum.inl <| ())=Dg/\Kst h h' (Ah.L)) ?_ ?_
    ·refine AOv<|AOr<|AOr<|Ahn rfl rfl (AOr ?_);by_cases Ao:Am < (Bo.length:Int)
     ·rw [decide_eq_true Ao];refine Ahb 25 true<|AOr<|Ahb 25 true<|AOr<|Ahb 25 true ?_;obtain ⟨Gw,A3,Dh⟩:=AOw<|ifT B3 Ao;refine Aij Ai9 rfl (Ah.o2 p2) rfl A3 λGx Gy Gz Di Dj=>Ahb 25 true<|Ahu Alp rfl Dj (Ahb 25 true<|AOr<|Ahb 25 true ?_);obtain ⟨G3,B4,Dk⟩:=AOw Dh;refine Air (m:=Am) Aj8 rfl (Ah.o2 p2) Di A3 rfl B4 λG4 Dl=>Ahb 25 true ?_;obtain ⟨G5,Do,Dp⟩:=(Ah.o2 p2).cells Dl A3 B4;have A4:=Ah.az Do;refine Aum (c:=cZ) Aip rfl (A4.z p0) (λj u hu=>(Dp j u hu)) (Ahb 25 true ?_);obtain ⟨G6,Dq,B5⟩:=AOw Dk;refine Akb A4 (A4i (A4.z p0).2 Dq) λG7 G8 B6=>Ahb 25 true<|Ai0 rfl rfl (Ahc rfl (AOz<|⟨_,rfl,λA5=>?_,λA5=>?_⟩))
      ·refine AO5<|q_t ?_;exact ⟨(():Unit),⟨AOu<|Ahy B5 A5,B6.sel [1,2,3,4] AOs⟩,trivial⟩
      ·obtain rfl:=AOu<|Ahz B5 A5;refine Ahf<|Ahg<|Ahg<|Aio<|q_t ?_;exact ⟨(Am:(Int)),⟨AOu<|B1 _ (AOu Az).symm,B6.sel [1,2,3,4] AOs⟩,rfl,trivial⟩
     ·rw [decide_eq_false Ao];refine An1 25 false<|Alf 25 false<|APd rfl (AOz<|Aht rfl ?_);obtain rfl:=AOu<|ifF B3 Ao;refine Ahf<|Ahg<|Ahg<|Aio<|q_t ?_;exact ⟨(Am:(Int)),⟨AOu<|B1 _ (AOu Az).symm,Ah⟩,rfl,trivial⟩
    rintro ⟨⟩ G9 Hb ⟨Dr,Ds⟩;subst Dr;refine AO0<|Ag6<|AOr<|Ahk rfl rfl (Aho<|Ahh<|q_b<|q_t ?_);exact ⟨_,(AOu Az).symm,Ds,rfl,trivial⟩
   rintro Dt Hc B7 ⟨Du,Ae⟩;subst Du;refine AOx<|AOv<|AOr<|AOr<|Ai0 rfl rfl (AOz<|⟨_,rfl,λA6=>?_,λA6=>?_⟩)
   ·refine AOv<|Alh (Awk )<|Anz Ae p3 (Ahd B7) (Ahd B7) λB8 B9=>AOz ?_;obtain rfl:=AOu<|Ahy By A6;refine AO6<|Ag7<|Ail<|Ag7<|Ag7<|Ail<|Ag7 ?_;obtain rfl:=AOu<|Bw _ (AOu Bx).symm;exact ⟨_,Ai3 Aip (cZ.klen<|Ahd B8) rfl (B9.b p3),B9.x,_,rfl,(Ahd B8).2⟩
   ·refine AO5<|q_t ?_;obtain ⟨Dv,Ca,Dw⟩:=AOw<|Ahz By A6;refine Arb 2305838611167182912 (λx:(Bool) × (LiI) × LnA × LnN × LvA=>[(6,(.bool x.1))]) (λx h'=>( (x.1,x.2.1))=Dv/\Kst h h' (Ae.L.set 2<|aO2 cZ 146 129 x.2.2.1 x.2.2.2.1 x.2.2.2.2 v20 x.2.1)) ?_ ?_
    ·refine AOv<|AOr<|AOr<|Anj rfl rfl (AOz<|⟨_,rfl,λA7=>?_,λA7=>?_⟩)
     ·refine AOx<|Ame<|AOr<|AOr<|AOr<|AOr<|AOr<|AOr ?_;obtain ⟨Dx,Cb,Dy⟩:=AOw<|Ahy Ca A7;refine Aiw Ai9 Alp (Ae.o2 p2) Cb λ_ Hd Dz=>AOr<|AOr ?_;obtain ⟨D0,Cd,D1⟩:=AOw Dy;refine Aiw Ai9 Alp (Ae.o2 p2) Cd λ_ He D2=>Avr Ai9 Alp (Ae.o2 p2) D2 Dz Cd Cb rfl rfl (λ_=>rfl) (λ_=>rfl) (λ_=>rfl) (λ_ _=>rfl) λHf Hg D3 D4 D5 Hh D6 D7 D8=>AOz<|Ag6<|AOr<|Akc rfl (AO1 ?_);exact ⟨(((!Bu),(sI (sI Bv Dt Dx) Ag D0),D3,D4,D5):(Bool) × (LiI) × LnA × LnN × LvA),⟨AOu D1,(Ae.uo2 p2 D7 D6 D8)⟩,rfl,trivial⟩
     ·refine AO5<|q_t ?_;exact ⟨((Bu,Bv,C8,C9,Da):(Bool) × (LiI) × LnA × LnN × LvA),⟨AOu<|Ahz Ca A7,Ae⟩,rfl,trivial⟩
    rintro ⟨D9,Ea,Eb,Ec,Ed⟩ Hj Hk ⟨Ee,Ce⟩;subst Ee;refine AOx<|AOv<|AOr<|Ahk rfl rfl (AO1<|AO0<|Amy 20769187434139301290749948462106112 (λx:(Int) × (LiI) × LnA × LnN × LvA=>(x.1,x.2.1)) (((w64<|Ag + 1),Ea,Eb,Ec,Ed):(Int) × (LiI) × LnA × LnN × LvA) Dw (λx=>[(9,(.int .i64 x.1))]) (λx=>Ce.L.set 2<|aO2 cZ 146 129 x.2.2.1 x.2.2.2.1 x.2.2.2.2 v20 x.2.1) Ce ⟨rfl,trivial⟩ ?_);rintro ⟨Ap,Cf,Cg,Ch,Ci⟩ Hl Hm Hn Ai A8 Ef;unfold Amk at A8;refine AOx<|AOv<|AOr<|AOr<|Ahn rfl rfl (AOz<|⟨_,rfl,λA9=>?_,λA9=>?_⟩)
    ·refine AO5<|q_t<|AOx<|AO0<|AOv<|AOr<|Ahk rfl rfl (AO1<|AO0<|Amy 20769187434138129922501267905577984 (λx:(Int) × (LiI) × LnA × LnN × LvA=>(x.1,x.2.1)) (((w64<|Ag + 1),Cf,Cg,Ch,Ci):(Int) × (LiI) × LnA × LnN × LvA) (Ahy A8 A9) (λx=>[(10,(.int .i64 x.1))]) (λx=>Ai.L.set 2<|aO2 cZ 146 129 x.2.2.1 x.2.2.2.1 x.2.2.2.2 v20 x.2.1) Ai ⟨rfl,trivial⟩ ?_);rintro ⟨Ho,Hq,Hr,Hs,Ht⟩ Hu Ba Hv Aa Bb Eg;unfold Amj at Bb;refine AOx<|AOv<|AOr<|AOr<|Ahn rfl rfl (AOz<|⟨_,rfl,λBc=>?_,λBc=>?_⟩)
     ·refine AO5<|q_t<|AOx<|AO0<|Ai1 (λh'=>UpT [] Ba h') AO4 ?_;have Ad:UpT [] Ba Ba:=UpT.start all_nil;refine AOr<|AOr ?_;obtain ⟨Hw,Ac,Eh⟩:=AOw<|Ahy Bb Bc;refine Aij Ai9 rfl (Aa.o2 p2) rfl Ac λHx Hy Hz Ei Ej=>Ahm Alp rfl Ad (λh' hb=>AO8 Ej hb.ext) (AOr<|AOr<|AOr ?_);obtain ⟨H5,Aj,Ek⟩:=AOw Eh;refine Aij Ai9 rfl (Aa.o2 p2) rfl Aj λIa Ib Ic El Em=>Ahm Alp rfl Ad (λh' hb=>AO8 Em hb.ext) (AOr ?_);obtain ⟨Id,Cj,En⟩:=AOw Ek;refine Air (m:=Ag) Aj8 rfl (Aa.o2 p2) El Aj rfl Cj λIe Eo=>?_;obtain ⟨If,Ck,Ep⟩:=(Aa.o2 p2).cells Eo Aj Cj;refine Azp (c:=cZ) Aip rfl Ck Ad (λh' hb j u hu=>AO8 (Ep j u hu) hb.ext) (AOr<|AOr<|Aij Ai9 rfl (Aa.o2 p2) rfl Ac λIh Ii Ij Er Es=>Ahm Alp rfl Ad (λh' hb=>AO8 Es hb.ext) (AOr ?_));obtain ⟨Ik,Aq,Et⟩:=AOw En;refine Air (m:=Ap) Aj8 rfl (Aa.o2 p2) Er Ac rfl Aq λIl Eu=>?_;obtain ⟨Im,Cm,Ev⟩:=(Aa.o2 p2).cells Eu Ac Aq;refine Azp (c:=cZ) Aip rfl Cm Ad (λh' hb j u hu=>AO8 (Ev j u hu) hb.ext) ?_;have Be:=(Aa.az<|cZ.upT Ck Ad).az (cZ.upT Cm Ad);obtain ⟨Io,Ew,Ey⟩:=AOw Et;refine Am4 Be Ad (Axq (Be.z p1).2 (Be.z p0).2 Ew) λIp Iq Ir Ez Af=>AOr<|AOr<|Aij Ai9 rfl (Aa.o2 p2) rfl Ac λIs It Iu Fa Fb=>Ahm Alp rfl Af (λh' hb=>AO8 Fb hb.ext) (AOr ?_);obtain ⟨Iv,Cn,Fc⟩:=AOw Ey;refine Air (m:=Ap) Aj8 rfl (Aa.o2 p2) Fa Ac rfl Cn λIw Fd=>?_;obtain ⟨Ix,Co,Fe⟩:=(Aa.o2 p2).cells Fd Ac Cn;refine Azp (c:=cZ) Aip rfl Co Af (λh' hb j u hu=>AO8 (Fe j u hu) hb.ext) (AOr<|AOr<|Aij Ai9 rfl (Aa.o2 p2) rfl Aj λIy Iz I0 Ff Fg=>Ahm Alp rfl Af (λh' hb=>AO8 Fg hb.ext) (AOr ?_));obtain ⟨I1,Cp,Fh⟩:=AOw Fc;refine Air (m:=Ag) Aj8 rfl (Aa.o2 p2) Ff Aj rfl Cp λI2 Fi=>?_;obtain ⟨I3,Cq,Fj⟩:=(Aa.o2 p2).cells Fi Aj Cp;refine Azp (c:=cZ) Aip rfl Cq Af (λh' hb j u hu=>AO8 (Fj j u hu) hb.ext) ?_;have Bf:=(Ez.az<|cZ.upT Co Af).az (cZ.upT Cq Af);obtain ⟨I6,Fk,Fl⟩:=AOw Fh;refine Am4 Bf Af (Axq (Bf.z p1).2 (Bf.z p0).2 Fk) λI7 I9 Ja Bg Fm=>?_;obtain ⟨Jc,Fo,Fp⟩:=AOw Fl;refine Am4 Bg Fm (BPi (Bg.z p3).2 (Bg.z p0).2 Fo) λJe Jf Jg Ar Cr=>Avw (Ar.z p8) Cr (Aa.b p0) ?_;obtain ⟨Jh,Fq,Fr⟩:=AOw Fp;refine Am4 Ar Cr (Ap1 (Ar.z p0).2 (Ar.z p8).2 Fq) λJi Jj Jk Ak Jl=>Air (m:=Ap) Aj8 rfl (Aa.o2 p2) Ei Ac rfl Aq λJm Ft=>Aol (m:=Ap) (Aze Aip (cZ.klen<|Ak.z p0) rfl rfl (cZ.one<|Ak.z p0)) (Ak.o2 p10) Ft Ac Aq (Ak.z p0) λJn Fu Fv=>Ahh<|q_b<|q_t<|Ag6<|AOr<|Ahk rfl rfl (AO1 ?_);exact ⟨(_,_,_,_,_),(AOu Fr).symm,(Ak.uO2 p10 Fv Fu).sel [8,9,10,11] AOs,rfl,trivial⟩
     ·refine Ahf<|Ahg<|Ahg<|Aio<|q_b<|q_t<|Ag6<|AOr<|Ahk rfl rfl (AO1 ?_);exact ⟨(_,_,_,_,_),(AOu<|Eg _ (AOu<|Ahz Bb Bc).symm).symm,Aa,rfl,trivial⟩
    ·refine Ahf<|Ahg<|Ahg<|Aio<|q_t<|Ag6<|AOr<|AOr ?_;obtain ⟨Jo,Bh,Fw⟩:=AOw<|Ef _ (AOu<|Ahz A8 A9).symm;refine Aiw Ai9 Alp (Ai.o2 p2) Bh λ_ Jp Fx=>AOr ?_;obtain ⟨Fy,Ct,Fz⟩:=AOw Fw;refine Air (m:=Ag) Aj8 rfl (Ai.o2 p2) Fx Bh rfl Ct λJq F4=>?_;obtain ⟨F5,F6,F7⟩:=(Ai.o2 p2).cells F4 Bh Ct;have Au:=Ai.az F6;refine Aum (c:=cZ) Aip rfl (Au.z p0) (λj u hu=>(F7 j u hu)) (Anz Au p1 (Au.z p2) (Au.z p0) λJr F8=>Ahh<|q_b<|q_t ?_);exact ⟨((D9,Cf,Cg,Ch,Ci,Fy,F5):(Bool) × (LiI) × LnA × LnN × LvA × (Int) × LvA),⟨AOu Fz,F8.sel [1,0,3,4] AOs⟩,rfl,trivial⟩
  rintro ⟨Js,Jt,Ju,Jv,Jw,Jx,Jy⟩ Jz J0 ⟨F9,Ga⟩;subst F9;refine Ag6<|AOr<|Ahk rfl rfl (AO1 ?_);exact ⟨(_,_,_,_,_,_,_,_),(AOu Bx).symm,Ga,rfl,rfl,trivial⟩
 ·refine Ahf<|Ahg<|Ahg<|Aio<|q_t<|AOx<|AOv<|AOr<|AOz ?_;have Cu:=Bw _ (AOu<|Ahz Ax Ay).symm;refine ⟨_,rfl,λBi=>?_,λBi=>?_⟩
  ·refine AOv<|Asj (Ab.z p1) (Ab.b p0) ?_;obtain ⟨J1,Gb,Gc⟩:=AOw<|ifT Cu Bi;refine Avd Ab (A9x (Ab.z p1).2 Gb) λJ2 Gd J3 Cv=>Anz Cv p4 (Ahd Gd) (Cv.z p0) λJ4 Av=>AOz<|AO6<|Ag7 ?_;obtain rfl:=AOu Gc;exact ⟨_,Ai3 Aip (cZ.klen<|Av.z p0) rfl (Av.b p4),Av.x,_,rfl,(Av.z p0).2⟩
  ·refine AO5<|q_t<|AOv<|Asj (Ab.z p1) (Ab.b p0)<|Anz Ab p3 (Ahd Db) (Ab.z p1) λJ5 Aw=>AOz<|AO6 ?_;obtain rfl:=AOu<|Aok Cu Bi;exact ⟨_,Ai3 Aip (cZ.klen<|Aw.z p1) rfl (Aw.b p3),Aw.x,_,rfl,(Aw.z p1).2⟩
end Go.Proofs.YtkakafabeobahaaGreatDoor
namespace Go.Proofs.YtkakafabeobahaaGreatDoor
open Go Go.QF
set_option maxRecDepth 100000
theorem BJl {m:Nat} {z:Int} (h:z=sgn na m):Anx z=1->z=m:=by
 cases na
 ·intro _;rw [h];rfl
 ·intro h1;rw [h] at h1 ⊢;unfold Anx sgn at h1;unfold sgn;simp at h1 ⊢;split at h1 <;> (try split at h1) <;> omega
theorem BJm {m:Nat} {z:Int} (h:z=sgn na m):Anx z= -1->z= -(m:Int):=by
 cases na
 ·intro h1;rw [h] at h1 ⊢;unfold Anx sgn at h1;unfold sgn;simp at h1 ⊢;split at h1 <;> (try split at h1) <;> omega
 ·intro _;rw [h];rfl
def Az8 (a b:Int):Int:=if a < b then -1 else if a=b then 0 else 1
theorem BDk {b:Int} (h:Anx a≠Anx b) (h2:Anx a < Anx b):Az8 a b= -1:=by
 unfold Anx at h h2;unfold Az8;repeat' split at h2
 all_goals (rw [if_pos AOq])
theorem BDl {b:Int} (h:Anx a≠Anx b) (h2: ¬ Anx a < Anx b):Az8 a b=1:=by
 unfold Anx at h h2;unfold Az8
 rw [if_neg (by
  repeat' split at h2
  all_goals (repeat' split at h)
  all_goals omega),if_neg (by
   repeat' split at h2
   all_goals (repeat' split at h)
   all_goals omega)]
theorem A90 {nb:Bool} {m k:Nat} {b:Int} (ha:a=sgn na m) (hb:b=sgn nb k) (h:Anx a=Anx b):Anx a * Au9 m k=Az8 a b:=by
 have h3:Anx a= -1∨Anx a=0∨Anx a=1:=by unfold Anx;split;exact .inl rfl;split;exact .inr<|.inl rfl;exact .inr<|.inr rfl
 rcases h3 with h1 | h1 | h1
 ·have e1:=BJm ha h1;have e2:=BJm hb<|h ▸ h1;rw [h1];unfold Au9 Az8;repeat' split
  all_goals omega
 ·have z:∀ x:Int,Anx x=0->x=0:=λx hx=>by unfold Anx at hx;repeat' split at hx;all_goals omega
  have e1:=z a h1;have e2:=z b<|h ▸ h1;rw [h1,e1,e2];simp [Az8]
 ·have e1:=BJl ha h1;have e2:=BJl hb<|h ▸ h1;rw [h1];unfold Au9 Az8;repeat' split
  all_goals omega
theorem BMl (a b:Nat): -1<=Au9 a b/\Au9 a b<=1:=by
 unfold Au9;repeat' split;all_goals omega
theorem BMm (a:Int): -1<=Anx a/\Anx a<=1:=by
 unfold Anx;repeat' split;all_goals omega
theorem BMn {x y:Int} (hx: -1<=x/\x<=1) (hy: -1<=y/\y<=1):IntKind.i64.wrap (x * y)=x * y:=by
 obtain ⟨x1,x2⟩:=hx;obtain ⟨y1,y2⟩:=hy;have Aa:x= -1∨x=0∨x=1:=by omega
 have Ab:y= -1∨y=0∨y=1:=by omega
 rcases Aa with rfl | rfl | rfl <;> rcases Ab with rfl | rfl | rfl <;> decide
theorem BMo {lo:Nat} {z:Int} (HA:ZV h lo va z):Ahs Tryz.prog 177 #[va] h λx h'=>Ext h h'/\ZV h' (Array.size h) x (z.natAbs:Int):=by
 obtain ⟨na,sa,LA,rfl,HDa,htla,hla,hza⟩:=HA.out;have hna:LA.length<=1000000:=by omega
 have hba:nv LA < 4294967296 ^ 100:=Nat.lt_of_lt_of_le (Au2 HDa.dig)<|Nat.pow_le_pow_right AOs hla;refine Aie (l:=[_]) mx Tryz.func177 rfl rfl rfl rfl rfl AO4 (AOv<|Aqx [.bool na,sa] (λ_=>trivial) rfl rfl λAg h2 V3 E4 Ao Be=>?_);have Bf:Array.size h<=Ag:=Ao;have Bg:=E4.1;have Z8:=(Ext.refl h).trans E4;refine Aov [.bool false,.slice none 0 0] Ams rfl (λ_=>trivial) λAa Bh Aq Ab Ar Bi=>?_;have Bj:Array.size h<=Aa:=Nat.le_trans E4.1 Ar;have nebq1bq9:Ag≠Aa:=by have:=V3.lt;omega
 have Bl:=Ab.1;have Au:=Z8.trans Ab;have Ai:=E4.trans Ab;have Av:=E4.trans Ab;refine Apt<|Anh (fs:=1) Atv AO4 AOs rfl (Ahu Apj rfl ((V3.ext Ab).cell (i:=1) rfl) (Ahq trivial rfl (Aun false (HDa.ext Ai) hna hba) λBm Bn hk=>?_));obtain ⟨Ac,Aw⟩:=hk;refine ⟨trivial,?_⟩;have Bo:=Ac.1;have Ax:=Au.trans Ac;have Ay:=Ai.trans Ac;have Az:=Av.trans Ac;have A3:=Aq.ext Ac;have A4:=Ab.trans Ac;obtain ⟨Aj,s3,L3,rfl,Am,A6,A7,A8⟩:=Aw.out;refine Ai5 [.bool Aj,s3] Aip rfl rfl rfl rfl (Aqt Am.cap) A3 λBp A9 Ad=>?_;have Ba:=Ay.thenUpd Ad (λk hk=>by have Af:k=Aa:=hk;omega);have Bq:=Ad.1;have Br:=Ax.thenUpd Ad (λk hk=>by have Af:k=Aa:=hk;omega);have Bt:=A4.thenUpd Ad (λk hk=>by have Af:k=Aa:=hk;omega);have Bu:=Az.thenUpd Ad (λk hk=>by have Af:k=Aa:=hk;omega);have Bb:=Am.updLo Ad AOq;refine AOz<|AO6<|⟨_,Ai3 Aip rfl rfl A9,?_⟩;exact ⟨Ba,⟨Aj,s3,L3,rfl,Bb.mono AOq,A6,A7,by rw [<- A8,Amw hza];rfl⟩⟩
theorem BMp {b:Int} (HA:ZV h la va a) (HB:ZV h lb vb b):Ahs Tryz.prog 120 #[va,vb] h λx h'=>Ext h h'/\x= .int .i64 (Az8 a b):=by
 obtain ⟨na,sa,LA,rfl,HDa,htla,hla,hza⟩:=HA.out;obtain ⟨nb,sb,LB,rfl,HDb,htlb,hlb,hzb⟩:=HB.out;refine Aie (l:=[_,_]) mx Tryz.func120 rfl rfl rfl rfl rfl AO4 (AOv<|Aqx [.bool na,sa] (λ_=>trivial) rfl rfl λAq h2 V3 E4 A7 B4=>?_);have B5:Array.size h<=Aq:=A7;have B6:=E4.1;have Z8:=(Ext.refl h).trans E4;refine Aqx [.bool nb,sb] (λ_=>trivial) rfl rfl λAu Av Aw Ag A9 B7=>?_;have B8:Array.size h<=Au:=Nat.le_trans E4.1 A9;have nebq1bq9:Aq≠Au:=by have:=V3.lt;omega
 have B9:=Ag.1;have Ba:=Z8.trans Ag;have Ax:=E4.trans Ag;have Ay:=V3.ext Ag;have Bb:=E4.trans Ag;refine AO1<|AOx<|Ai1 (λh'=>Ext Av h') AO4 ?_;have Af:=Ext.refl Av;refine Api [.bool na,sa] Aip rfl rfl Af (λh' hb=>(Ay.ext hb).agg) (Ahq Af rfl (A2c<|HA.ext Ax) λCa Cb hk=>?_);obtain ⟨Ab,rfl⟩:=hk;have Ai:=Af.trans Ab;refine ⟨Ai,?_⟩;have Cd:=Ab.1;have Bc:=Ba.trans Ab;have Az:=Ax.trans Ab;have Be:=Ay.ext Ab;have Bf:=Bb.trans Ab;have Bg:=Aw.ext Ab;have Bh:=Ag.trans Ab;refine Api [.bool nb,sb] Aip rfl rfl Ai (λh' hb=>(Aw.ext hb).agg) (Ahq Ai rfl (A2c<|HB.ext Az) λCe A3 hk=>?_);obtain ⟨Ac,rfl⟩:=hk;have Bi:=Ai.trans Ac;refine ⟨Bi,?_⟩;have Cf:=Ac.1;have Bj:=Bc.trans Ac;have Ad:=Az.trans Ac;have A4:=Be.ext Ac;have Bl:=Bf.trans Ac;have A5:=Bg.ext Ac;have Bm:=Bh.trans Ac;refine Aho<|AO1<|AOx<|AOv<|AOr<|AOr<|BA0 rfl rfl (λBn=>?_) (λBn=>?_)
 ·refine AOz<|Ahp rfl (AOx<|AOv<|AOr<|AOr<|Amf rfl rfl (λBo=>?_) (λBo=>?_))
  ·refine AOz<|Ahp rfl (AOv<|AO1<|AO6<|Ag7<|Ag7<|⟨_,AO7,?_⟩);first | exact ⟨Ad,congrArg (Value.int .i64) (by rw [Ak,Am];exact A90 hza hzb AOq)⟩ | exact ⟨Ad,congrArg (Value.int .i64) (BDk (by assumption)<|by assumption).symm⟩ | exact ⟨Ad,congrArg (Value.int .i64) (BDl (by assumption) AOq).symm⟩
  ·refine AOz<|Aht rfl (AO5<|q_t<|AOv<|AO1<|AO6<|Ag7<|⟨_,AO7,?_⟩);first | exact ⟨Ad,congrArg (Value.int .i64) (by rw [Ak,Am];exact A90 hza hzb AOq)⟩ | exact ⟨Ad,congrArg (Value.int .i64) (BDk (by assumption)<|by assumption).symm⟩ | exact ⟨Ad,congrArg (Value.int .i64) (BDl (by assumption) AOq).symm⟩
 ·refine AOz<|Aht rfl (AO5<|q_t<|AOx<|Ai1 (λh'=>Ext A3 h') AO4 ?_);have Af:=Ext.refl A3;refine AOr<|Anh (fs:=1) Atv AO4 AOs rfl (Ahm Apj rfl Af (λh' hb=>(A4.ext hb).cell (i:=1) rfl) (Ahq Af rfl (Aqe (DS.ext HDa Ad) AOq) λCg Ch hk=>?_));obtain ⟨Ae,L1,Bp,Bq,Ak,Cj⟩:=hk;have Aj:=Af.trans Ae;refine ⟨Aj,?_⟩;have Ck:=Ae.1;have Br:=Bj.trans Ae;have A6:=Ad.trans Ae;have Bt:=A4.ext Ae;have Bu:=Bl.trans Ae;have Bv:=A5.ext Ae;have Bw:=Bm.trans Ae;refine Anh (fs:=1) Atv AO4 AOs rfl (Ahm Apj rfl Aj (λh' hb=>(A5.ext hb).cell (i:=1) rfl) (Ahq Aj rfl (Aqe (DS.ext HDb A6) AOq) λCm Bx hk=>?_));obtain ⟨Aa,L2,By,Bz,Am,Co⟩:=hk;have Ao:=Aj.trans Aa;refine ⟨Ao,?_⟩;have Cp:=Aa.1;have Cq:=Br.trans Aa;have Ap:=A6.trans Aa;have Cr:=Bt.ext Aa;have Ct:=Bu.trans Aa;have Cu:=Bv.ext Aa;have Cv:=Bw.trans Aa;have B1:=Bp.ext Aa;refine Ahq Ao rfl (A6a B1 By Bq Bz AOq AOq) λCw Bx hk=>?_;obtain ⟨rfl,rfl⟩:=hk;refine ⟨Ao,?_⟩;refine Aou rfl rfl ?_;rw [BMn (BMm _)<|BMl _ _];refine AO1<|AO6<|⟨_,AO7,?_⟩;first | exact ⟨Ap,congrArg (Value.int .i64) (by rw [Ak,Am];exact A90 hza hzb AOq)⟩ | exact ⟨Ap,congrArg (Value.int .i64) (BDk (by assumption)<|by assumption).symm⟩ | exact ⟨Ap,congrArg (Value.int .i64) (BDl (by assumption) AOq).symm⟩
def BE5 (fuel:Nat) (a:Int):Option Int:=some (a.natAbs:Int)
def A8s (fuel:Nat) (a b:Int):Option Int:=some<|Az8 a b
theorem BDm {u:Value} (H1:ZZ h u a) (hp:BE5 fuel a=some r):Ahs Tryz.prog 177 #[u] h (λx h'=>Ext h h'/\ ∃ (x0:Value),x=x0/\ZZ h' x0 r):=by
 cases hp;exact (BMo H1).mono λx h' hk=>⟨hk.1,x,rfl,hk.2.zz⟩
theorem A7i {u:Value} {b:Int} (H1:ZZ h u a) (H2:ZZ h v b) (hp:A8s fuel a b=some r):Ahs Tryz.prog 120 #[u,v] h (λx h'=>Ext h h'/\x= .int .i64 r):=by
 cases hp;exact BMp H1 H2
end Go.Proofs.YtkakafabeobahaaGreatDoor
