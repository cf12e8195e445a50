/-
  Texts of a proof, joined. Conditions stand in each statement.
-/
import Derived.Lib.SmallJoins
import Derived.Test.YtkakafabeobahaaGreatDoorMDyadicShape4
set_option linter.unusedVariables false
set_option linter.unusedSimpArgs false
open Go
variable {r:Bool} {a3:Go.Proofs.YtkakafabeobahaaGreatDoor.LiI} {h:Go.QF.AG0} {G F A H T G':Go.QF.ATa} {a1 Ac a2 d p v a5 x q:Int} {body:Int × List (List Int)->Option ((Int × List (List Int)) ⊕ List (List Int))} {M:List (List Int)} {i fuel N q0 k j a K l:Nat} {g:Nat->Int} {E:Type} {Ao:Value}
namespace Go.Proofs.YtkakafabeobahaaGreatDoor
open Go Go.QF
set_option maxRecDepth 100000
def part (n i:Nat) (G:ATa):List (List Int):=AV0 n λr=>if r < i then AV0 n (G r) else []
theorem Adx {n r:Nat} (hr:r < i) (hn:r < n):(part n i G)[r]? =some (AV0 n<|G r):=by
 unfold part;rw [AT4 hn,if_pos hr]
theorem Ai6 {n:Nat} (hn:i < n):(part n i G)[i]? =some []:=by
 unfold part;rw [AT4 hn,if_neg<|Nat.lt_irrefl i]
theorem Afk {n r:Nat} (hr:r < i):(part n i G).set r (AV0 n g)=part n i (AU4 G r g):=by
 unfold part;rw [AWi];refine AUq λk _=>?_;by_cases h:k=r
 ·subst h;rw [if_pos rfl,if_pos hr,AU8]
 ·rw [if_neg h,AYq _ _ h]
theorem Ahb {n:Nat}:(part n i G).set i (AV0 n g)=part n (i + 1) (AU4 G i g):=by
 unfold part;rw [AWi];refine AUq λk _=>?_;by_cases h:k=i
 ·subst h;rw [if_pos rfl,if_pos AGp,AU8]
 ·rw [if_neg h,AYq _ _ h];grind
theorem Afr (n:Nat) (G:ATa):part n n G=tab n n G:=by
 unfold part;rw [Aib];exact AUq λk hk=>if_pos hk
theorem Afs (n:Nat) (G:ATa):List.replicate n ([]:List Int)=part n 0 G:=by
 rw [AYx];exact AUq λk _=>(if_neg AGp).symm
theorem Amm {L:List Int} {q:Nat} (hq:q < 4611686018427387904):Ok (if (L.length:Int)<=((q:Nat):Int) then (some ((0:Int),((q:Nat):Int))) else ((gI L<|w64<|(w64<|((q:Nat):Int) + 1) - 1).bind λx=>(some ((w64 x),(w64<|((q:Nat):Int) + 1))))) λe=> ∃ p:Nat,e.2=(p:Int)/\p<=q + 1:=by
 refine AT2 (λh=>AGy ⟨q,rfl,AGp⟩) λh=>?_;have hl:q < L.length:=by omega
 refine AT0 (n:=q) (List.getElem?_eq_getElem hl) (by rw [AW1 (x:=(q:Int) + 1) AGp AGp,wk AGp];omega)<|AGy ⟨q + 1,?_,AGp⟩;rw [AW1 (x:=(q:Int) + 1) AGp AGp];omega
theorem Alm (x:Int) (m:Nat) (hm:0 < m):0<=Int.tmod (w64<|IntKind.wrap .u8 x) (m:Int)/\Int.tmod (w64<|IntKind.wrap .u8 x) (m:Int) < m:=by
 have h1:IntKind.wrap .u8 x=x % 256:=by rw [IntKind.wrap_u8]
 rw [h1];have a1:=Int.emod_nonneg x (show (256:Int)≠0 by decide);have a2:=Int.emod_lt_of_pos x (show (0:Int) < 256 by decide);rw [wk AGp,Int.tmod_eq_emod_of_nonneg a1];exact ⟨Int.emod_nonneg _ AGp,Int.emod_lt_of_pos _ AGp⟩
def dgF (f:Nat->Int) (r c:Nat):Int:=if c=r then f r else 0
theorem BFg {L:List Int} (hN:w64 (1 + (Int.tmod (w64 a1) Ac))=(N:Int)) (Af:N<=8) (Ag:q0<=1000) (hf:100 < fuel):
 Ok (iter (λs=>AXn fuel a1 L Ac s.1 s.2.1 s.2.2) fuel (0,(q0:Int),(List.replicate (Int.toNat<|w64<|1 + (Int.tmod (w64 a1) Ac)) ([]:List Int)))) λe=> ∃ (q:Nat) (f:Nat->Int),e=((q:Int),tab N N<|dgF f)/\q<=q0 + N/\ ∀ r,r < N->1<=f r/\f r<=6:=by
 refine AUk (λi s=> ∃ (q:Nat) (f:Nat->Int),s=(((i:Nat):Int),(q:Int),part N i<|dgF f)/\i<=N/\q<=q0 + i/\ ∀ r,r < i->1<=f r/\f r<=6) N ⟨q0,λ_=>0,by rw [hN,Int.toNat_natCast,Afs N<|dgF λ_=>0];rfl,AGp,AGp,λr hr=>by omega⟩ AGp λi s hi hI=>?_;obtain ⟨q,f,rfl,hiN,hq,Ad⟩:=hI;unfold AXn;dsimp only;rw [List.length_replicate,hN,Int.toNat_natCast];refine AT2 (λh=>AVb AGp ?_) λh=>AGy ?_
 ·have hi':i < N:=by omega
  refine AT0 (Ai6 hi') rfl ?_;rw [AU1,AYx N (0:Int),Ahb];refine AT0 (Adx AGp hi') rfl ?_;rw [AU8];refine AG4 (Q:=λe:Int × Int=>0<=e.1/\e.1 < 6/\ ∃ p:Nat,e.2=(p:Int)/\p<=q + 1) (AG4 (Amm (L:=L) (q:=q) AGp) λe he=>?_) λe he=>AT0 (AT4 hi') rfl (AGy ⟨AGp,?_⟩)
  ·exact AGy ⟨(Alm _ 6 AGr).1,(Alm _ 6 AGr).2,he⟩
  ·obtain ⟨h1,h2,p,h3,h4⟩:=he;refine ⟨p,λr=>if r=i then 1 + e.1 else f r,?_,AGp,AGp,λr hr=>?_⟩
   ·rw [AW1 (x:=(i:Int) + 1) AGp AGp,AW1 (x:=1 + e.1) AGp AGp,h3,AU1,AU1,AWi,Afk AGp];refine congrArg (λz=>(((i + 1:Nat):Int),(p:Int),z))<|AUq λr hr=>?_;split
    ·refine AUq λc hc=>?_;rw [AT6];unfold dgF;dsimp only;split
     ·omega
     ·next h=>rw [AT6,if_neg h]
    ·rfl
   grind
 ·obtain rfl:i=N:=by omega
  exact ⟨q,f,by rw [Afr],AGp,Ad⟩
theorem BDh {L:List Int} (hN:w64 (1 + (Int.tmod (w64 a1) Ac))=(N:Int)) (Af:N<=8) (Ag:q0<=1000) (hf:100 < fuel):
 Ok (iter (λs=>AW8 fuel a1 L Ac s.1 s.2.1 s.2.2) fuel (0,(q0:Int),(List.replicate (Int.toNat<|w64<|1 + (Int.tmod (w64 a1) Ac)) ([]:List Int)))) λe=> ∃ (q:Nat) (f:Nat->Int),e=((q:Int),tab N N<|dgF f)/\q<=q0 + N/\ ∀ r,r < N->1<=f r/\f r<=9:=by
 refine AUk (λi s=> ∃ (q:Nat) (f:Nat->Int),s=(((i:Nat):Int),(q:Int),part N i<|dgF f)/\i<=N/\q<=q0 + i/\ ∀ r,r < i->1<=f r/\f r<=9) N ⟨q0,λ_=>0,by rw [hN,Int.toNat_natCast,Afs N<|dgF λ_=>0];rfl,AGp,AGp,λr hr=>by omega⟩ AGp λi s hi hI=>?_;obtain ⟨q,f,rfl,hiN,hq,Ad⟩:=hI;unfold AW8;dsimp only;rw [List.length_replicate,hN,Int.toNat_natCast];refine AT2 (λh=>AVb AGp ?_) λh=>AGy ?_
 ·have hi':i < N:=by omega
  refine AT0 (Ai6 hi') rfl ?_;rw [AU1,AYx N (0:Int),Ahb];refine AT0 (Adx AGp hi') rfl ?_;rw [AU8];refine AG4 (Q:=λe:Int × Int=>0<=e.1/\e.1 < 9/\ ∃ p:Nat,e.2=(p:Int)/\p<=q + 1) (AG4 (Amm (L:=L) (q:=q) AGp) λe he=>?_) λe he=>AT0 (AT4 hi') rfl (AGy ⟨AGp,?_⟩)
  ·exact AGy ⟨(Alm _ 9 AGr).1,(Alm _ 9 AGr).2,he⟩
  ·obtain ⟨h1,h2,p,h3,h4⟩:=he;refine ⟨p,λr=>if r=i then 1 + e.1 else f r,?_,AGp,AGp,λr hr=>?_⟩
   ·rw [AW1 (x:=(i:Int) + 1) AGp AGp,AW1 (x:=1 + e.1) AGp AGp,h3,AU1,AU1,AWi,Afk AGp];refine congrArg (λz=>(((i + 1:Nat):Int),(p:Int),z))<|AUq λr hr=>?_;split
    ·refine AUq λc hc=>?_;rw [AT6];unfold dgF;dsimp only;split
     ·omega
     ·next h=>rw [AT6,if_neg h]
    ·rfl
   grind
 ·obtain rfl:i=N:=by omega
  exact ⟨q,f,by rw [Afr],AGp,Ad⟩
theorem BDi {L:List Int} (hN:w64 (1 + (Int.tmod (w64 a1) Ac))=(N:Int)) (Af:N<=8) (Ag:q0<=1000) (hf:100 < fuel):
 Ok (iter (λs=>AW9 fuel a1 L Ac s.1 s.2.1 s.2.2) fuel (0,(q0:Int),(List.replicate (Int.toNat<|w64<|1 + (Int.tmod (w64 a1) Ac)) ([]:List Int)))) λe=> ∃ (q:Nat) (f:Nat->Int),e=((q:Int),tab N N<|dgF f)/\q<=q0 + N/\ ∀ r,r < N->1<=f r/\f r<=1:=by
 refine AUk (λi s=> ∃ (q:Nat) (f:Nat->Int),s=(((i:Nat):Int),(q:Int),part N i<|dgF f)/\i<=N/\q<=q0 + i/\ ∀ r,r < i->1<=f r/\f r<=1) N ⟨q0,λ_=>0,by rw [hN,Int.toNat_natCast,Afs N<|dgF λ_=>0];rfl,AGp,AGp,λr hr=>by omega⟩ AGp λi s hi hI=>?_;obtain ⟨q,f,rfl,hiN,hq,Ad⟩:=hI;unfold AW9;dsimp only;rw [List.length_replicate,hN,Int.toNat_natCast];refine AT2 (λh=>AVb AGp ?_) λh=>AGy ?_
 ·have hi':i < N:=by omega
  refine AT0 (Ai6 hi') rfl ?_;rw [AU1,AYx N (0:Int),Ahb];refine AT0 (Adx AGp hi') rfl ?_;rw [AU8];refine AG4 (Q:=λe:Int × Int=>0<=e.1/\e.1 < 1/\ ∃ p:Nat,e.2=(p:Int)/\p<=q + 1) (AG4 (Amm (L:=L) (q:=q) AGp) λe he=>?_) λe he=>AT0 (AT4 hi') rfl (AGy ⟨AGp,?_⟩)
  ·exact AGy ⟨(Alm _ 1 AGr).1,(Alm _ 1 AGr).2,he⟩
  ·obtain ⟨h1,h2,p,h3,h4⟩:=he;refine ⟨p,λr=>if r=i then 1 + e.1 else f r,?_,AGp,AGp,λr hr=>?_⟩
   ·rw [AW1 (x:=(i:Int) + 1) AGp AGp,AW1 (x:=1 + e.1) AGp AGp,h3,AU1,AU1,AWi,Afk AGp];refine congrArg (λz=>(((i + 1:Nat):Int),(p:Int),z))<|AUq λr hr=>?_;split
    ·refine AUq λc hc=>?_;rw [AT6];unfold dgF;dsimp only;split
     ·omega
     ·next h=>rw [AT6,if_neg h]
    ·rfl
   grind
 ·obtain rfl:i=N:=by omega
  exact ⟨q,f,by rw [Afr],AGp,Ad⟩
theorem BDj {L:List Int} (hN:w64 (1 + (Int.tmod (w64 a1) Ac))=(N:Int)) (Af:N<=8) (Ag:q0<=1000) (hf:100 < fuel):
 Ok (iter (λs=>AXa fuel a1 L Ac s.1 s.2.1 s.2.2) fuel (0,(q0:Int),(List.replicate (Int.toNat<|w64<|1 + (Int.tmod (w64 a1) Ac)) ([]:List Int)))) λe=> ∃ (q:Nat) (f:Nat->Int),e=((q:Int),tab N N<|dgF f)/\q<=q0 + N/\ ∀ r,r < N->1<=f r/\f r<=2:=by
 refine AUk (λi s=> ∃ (q:Nat) (f:Nat->Int),s=(((i:Nat):Int),(q:Int),part N i<|dgF f)/\i<=N/\q<=q0 + i/\ ∀ r,r < i->1<=f r/\f r<=2) N ⟨q0,λ_=>0,by rw [hN,Int.toNat_natCast,Afs N<|dgF λ_=>0];rfl,AGp,AGp,λr hr=>by omega⟩ AGp λi s hi hI=>?_;obtain ⟨q,f,rfl,hiN,hq,Ad⟩:=hI;unfold AXa;dsimp only;rw [List.length_replicate,hN,Int.toNat_natCast];refine AT2 (λh=>AVb AGp ?_) λh=>AGy ?_
 ·have hi':i < N:=by omega
  refine AT0 (Ai6 hi') rfl ?_;rw [AU1,AYx N (0:Int),Ahb];refine AT0 (Adx AGp hi') rfl ?_;rw [AU8];refine AG4 (Q:=λe:Int × Int=>0<=e.1/\e.1 < 2/\ ∃ p:Nat,e.2=(p:Int)/\p<=q + 1) (AG4 (Amm (L:=L) (q:=q) AGp) λe he=>?_) λe he=>AT0 (AT4 hi') rfl (AGy ⟨AGp,?_⟩)
  ·exact AGy ⟨(Alm _ 2 AGr).1,(Alm _ 2 AGr).2,he⟩
  ·obtain ⟨h1,h2,p,h3,h4⟩:=he;refine ⟨p,λr=>if r=i then 1 + e.1 else f r,?_,AGp,AGp,λr hr=>?_⟩
   ·rw [AW1 (x:=(i:Int) + 1) AGp AGp,AW1 (x:=1 + e.1) AGp AGp,h3,AU1,AU1,AWi,Afk AGp];refine congrArg (λz=>(((i + 1:Nat):Int),(p:Int),z))<|AUq λr hr=>?_;split
    ·refine AUq λc hc=>?_;rw [AT6];unfold dgF;dsimp only;split
     ·omega
     ·next h=>rw [AT6,if_neg h]
    ·rfl
   grind
 ·obtain rfl:i=N:=by omega
  exact ⟨q,f,by rw [Afr],AGp,Ad⟩
theorem BDk {L:List Int} {F0:ATa} (Ag:N<=8) (Ah:q0<=1000) (Ad:∀ i j,i < N->j < N->(F0 i j).natAbs<=9) (hf:100 < fuel):
 Ok (iter (λs=>AXo fuel L (tab N N F0) s.1 s.2.1 s.2.2) fuel (0,(q0:Int),tab N N F0)) λe=> ∃ (q:Nat) (F:ATa),e=((q:Int),tab N N F)/\q<=q0 + 8 * N/\ ∀ i j,i < N->j < N->(F i j).natAbs<=9:=by
 refine AUk (λi s=> ∃ (q:Nat) (F:ATa),s=(((i:Nat):Int),(q:Int),tab N N F)/\i<=N/\q<=q0 + 8 * i/\ ∀ i j,i < N->j < N->(F i j).natAbs<=9) N ⟨q0,F0,rfl,AGp,AGp,Ad⟩ AGp λi s hi hI=>?_;obtain ⟨q,F,rfl,hiN,hq,hF⟩:=hI;unfold AXo;dsimp only;rw [AUe];refine AT2 (λh=>?_) λh=>AGy ⟨q,F,rfl,AGp,hF⟩;have hi':i < N:=by omega
 refine AG4 (AUk (λj s=> ∃ (p:Nat) (F:ATa),s=(((j:Nat):Int),(p:Int),tab N N F)/\j<=i/\p<=q + j/\ ∀ i j,i < N->j < N->(F i j).natAbs<=9) i (Q:=λe=> ∃ (p:Nat) (F:ATa),e=((p:Int),tab N N F)/\p<=q + i/\ ∀ i j,i < N->j < N->(F i j).natAbs<=9) ⟨q,F,rfl,AGp,AGp,hF⟩ AGp λj s hj hJ=>?_) λe he=>?_
 ·obtain ⟨p,F,rfl,hji,hp,hF⟩:=hJ;unfold AZm;dsimp only;refine AT2 (λh=>?_) λh=>AGy ⟨p,F,rfl,AGp,hF⟩;have hj':j < i:=by omega
  refine AT0 (AUl hi') rfl (AG4 (Amm (L:=L) (q:=p) AGp) λe he=>AT0 (AT4 AGp) rfl ?_);obtain ⟨p2,h3,h4⟩:=he;rw [AU1,AU1,AWi,show (AV0 N λc=>if c=j then Int.tmod e.1 3 else F i c)=(List.range N).map λc=>if c=j then Int.tmod e.1 3 else F i c from rfl,Ade];refine AT0 (AUl AGp) rfl (AT0 (AUl hi') rfl (AT0 (AT4 AGp) rfl (AT0 (AT4 hi') rfl (AGy ⟨AGp,p2,?_⟩))));generalize Af:(AU4 F i λc=>if c=j then Int.tmod e.1 3 else F i c)=F1
  have hv:(Int.tmod e.1 3).natAbs<=9:=by
   grind
  have hF1b:∀ i j,i < N->j < N->(F1 i j).natAbs<=9:=λa b ha hb=>by
   subst Af
   rw [AT6]
   split
   ·split
    ·exact hv
    grind
   grind
  refine ⟨AU4 F1 j λc=>if c=i then F1 i j else F1 j c,?_,AGp,AGp,λa b ha hb=>?_⟩
  ·rw [wk AGp,h3,AU1,AU1,AWi,show (AV0 N λc=>if c=i then F1 i j else F1 j c)=(List.range N).map λc=>if c=i then F1 i j else F1 j c from rfl,Ade];rfl
  ·rw [AT6];split
   ·split
    ·grind
    grind
   grind
 ·obtain ⟨p,F,rfl,hp,hF⟩:=he;exact AGy ⟨AGp,p,F,by rw [wk AGp];rfl,AGp,AGp,hF⟩
theorem A2l {b:Bool} (Ag:1<=N) (Ah:N<=8) (hf:100 < fuel):Ok (AYj fuel (N:Int) b) λe=> ∃ F,e=tab N N F/\ ∀ i j,i < N->j < N->(F i j).natAbs<=2:=by
 unfold AYj;refine AVb AGp ?_;rw [Int.toNat_natCast];refine AG4 (AUk (λi s=> ∃ G:ATa,s=(((i:Nat):Int),part N i G)/\i<=N/\ ∀ r c,(G r c).natAbs<=2) N (Q:=λe=> ∃ F,e=tab N N F/\ ∀ i j,i < N->j < N->(F i j).natAbs<=2) ⟨λ_ _=>0,by rw [Afs N λ_ _=>0];rfl,AGp,λ_ _=>Nat.zero_le _⟩ AGp λi s hi hI=>?_) λe he=>AGy he;obtain ⟨G,rfl,hiN,hG⟩:=hI;unfold Adl;dsimp only;rw [List.length_replicate,Int.toNat_natCast];refine AT2 (λh=>AVb AGp ?_) λh=>AGy ?_
 ·have hi':i < N:=by omega
  refine AT0 (Ai6 hi') rfl ?_;rw [AU1,AYx N (0:Int),Ahb];refine AT0 (Adx AGp hi') rfl ?_;rw [AU8];refine AT0 (AT4 hi') rfl ?_;rw [AU1,AU1,AWi,Afk AGp]
  have Ab:∀ r c,(AU4 (AU4 G i λx=>0) i (λc=>if c=i then 2 else 0) r c).natAbs<=2:=λr c=>by
   rw [AT6]
   split
   ·split <;> decide
   ·rw [AT6]
    grind
  generalize (AU4 (AU4 G i λx=>0) i λc=>if c=i then 2 else 0)=G1 at Ab;have wi:w64 ((i:Int) + 1)=((i + 1:Nat):Int):=by rw [wk AGp];omega
  refine AG4 (Q:=λk=>k=(i:Int) - 1∨k=(i:Int) - 2) ?_ λk hk=>?_
  ·have w1:w64 ((i:Int) - 1)=(i:Int) - 1:=wk AGp;have w2:w64 ((i:Int) - 2)=(i:Int) - 2:=wk AGp;rw [w1,w2];exact AT2 (λ_=>AT2 (λ_=>AT2 (λ_=>AGy<|.inr rfl) λ_=>AGy<|.inl rfl) λ_=>AGy<|.inl rfl) λ_=>AGy<|.inl rfl
  ·refine AT2 (λh=>?_) λh=>AGy ⟨AGp,G1,by rw [wi],AGp,Ab⟩;obtain ⟨k,rfl⟩:∃ q:Nat,k=q:=⟨k.toNat,AGp⟩;have hki:k < i:=by omega
   refine AT0 (Adx AGp hi') rfl (AT0 (Adx AGp AGp) rfl (AT0 (AT4 AGp) rfl ?_));rw [AU1,AU1,AWi,Afk AGp]
   have Af:∀ r c,(AU4 G1 i (λc=>if c=k then -1 else G1 i c) r c).natAbs<=2:=λr c=>by
    rw [AT6]
    grind
   generalize (AU4 G1 i λc=>if c=k then -1 else G1 i c)=G2 at Af;refine AT0 (Adx AGp AGp) rfl (AT0 (AT4 hi') rfl (AGy ⟨AGp,AU4 G2 k λc=>if c=i then -1 else G2 k c,?_,AGp,λr c=>?_⟩))
   ·rw [wi,AU1,AU1,AWi,Afk AGp]
   ·rw [AT6];grind
 ·obtain rfl:i=N:=by omega
  exact ⟨G,Afr _ _,λa b _ _=>hG a b⟩
theorem A7m {n B:Nat} (hB:B < 9223372036854775808) (h:∀ i j,i < n->j < n->(F i j).natAbs<=B):∀ z∈tab n n F,∀ x∈z,-9223372036854775808<=x/\x<=9223372036854775807:=λz hz x hx=>by
 obtain ⟨i,hi⟩:=List.getElem?_of_mem hz
 have hin:i < n:=by have:=(List.getElem?_eq_some_iff.1 hi).1;rwa [AUe] at this
 rw [AUl hin] at hi
 cases hi
 obtain ⟨j,hj⟩:=List.getElem?_of_mem hx
 have hjn:j < n:=by have:=(List.getElem?_eq_some_iff.1 hj).1;rwa [AUv] at this
 rw [AT4 hjn] at hj
 grind
theorem BAp {n:Nat} (hn:1<=n) (Aa:n<=16):okM (tab n n F)=true:=by
 have hc:Ah8 (tab n n F)=n:=A40 hn;unfold okM;rw [decide_eq_true_iff,AUe,hc];exact ⟨hn,Aa,λz hz=>by rw [Apg z hz];omega⟩
theorem Awn {n:Nat} (hn:1<=n) (Aa:n<=16) (h:∀ i j,i < n->j < n->(F i j).natAbs<=9223372036854775807) (hf:17 < fuel):AV4 fuel (tab n n F)=some (tab n n F):=by
 rw [BE6 (A7m AGr h) hf,if_pos<|BAp hn Aa]
theorem BDl {n:Nat} (Ab:1<=n) (hn:n<=8) (hb:∀ i j,i < n->j < n->(F i j).natAbs<=1000000) (hf:100 < fuel):Ok (Aam fuel<|tab n n F) λr=>r=true↔Ac4 n F/\Afi n F/\det n F<=10000:=by
 have Ac:∀ i j,i < n->j < n->(F i j).natAbs<=mN n:=λi j hi hj=>Nat.le_trans (hb i j hi hj)<|Nat.le_trans AGr<|Ayh n;unfold Aam;refine AG4 (AUn<|Awn Ab AGp (λi j hi hj=>Nat.le_trans (hb i j hi hj) AGr) AGp) λx hx=>?_;subst hx;refine AG4 (Atf Ab hn Ac hf) λv hv=>AT2 (λh=>?_) λh=>AGy<|Iff.intro (λh2=>nomatch h2) λh2=>absurd (hv.2 ⟨h2.1,h2.2.1⟩) h;have h1:=hv.1 h;refine AG4 (AUn<|Apt hn (Nat.le_refl _) Ac AGp) λd hd=>AG4 (Q:=(· =10000)) ⟨10000,if_pos AGp,rfl⟩ λt ht=>AG4 (AUn (a:=Ala d t) rfl) λc hc=>AGy ?_;subst hd;subst ht;subst hc;rw [decide_eq_true_iff,Awf];grind
theorem BDm {n:Nat} {f:Nat->Int} (hn:n<=8) (h:∀ r,r < n->1<=f r/\f r<=2):Ac4 n (dgF f)/\Afi n (dgF f)/\det n (dgF f)<=10000:=by
 have hd:∀ k,k<=n->det k (dgF f)=AY5 f k:=λk hk=>by
  rw [Ald (F:=dgF f) (λc i hc hci hi=>by unfold dgF;omega)]
  exact Ann λi _=>by unfold dgF;rw [if_pos rfl]
 have hb:∀ k,k<=n->0 < AY5 f k/\AY5 f k<=2 ^ k:=λk=>by
  induction k with
  | zero=>intro _;simp [AY5]
  | succ k ih=>
    intro hk
    have h1:=ih AGp
    have h2:=h k AGp
    simp only [AY5]
    refine ⟨Int.mul_pos h1.1 AGp,?_⟩
    rw [Int.pow_succ]
    exact Int.mul_le_mul h1.2 h2.2 AGp<|Int.le_of_lt<|Anv k
 refine ⟨λi j hi hj=>?_,λk hk=>by grind,?_⟩
 ·unfold dgF;grind
 ·rw [hd n<|Nat.le_refl n];have:=(hb n<|Nat.le_refl n).2;have h2:=Aoe hn;omega
structure BBu (n:Nat) (A:ATa):Prop where
 n1:1<=n
 n8:n<=8
 sym:Ac4 n A
 pos:Afi n A
 bd:∀ i j,i < n->j < n->(A i j).natAbs<=9
 dt:det n A<=10000
theorem A2m {n m:Nat} {f:Nat->Int} (h:∀ r,r < n->1<=f r/\f r<=(m:Int)):∀ i j,i < n->j < n->(dgF f i j).natAbs<=m:=λi j hi hj=>by
 unfold dgF
 grind
theorem BDn {most:Int} {L L2:List Int} (h1:0<=a1/\a1 < 256) (hm:1<=most/\most<=8) (hf:100 < fuel):Ok (AVq fuel a1 a2 L L2 most) λr=> ∃ n A,r=tab n n A/\BBu n A/\(n:Int)=1 + Int.tmod a1 most:=by
 have t1:=Int.emod_nonneg a1 (show most≠0 by omega);have t2:=Int.emod_lt_of_pos a1 (show 0 < most by omega);have t3:Int.tmod a1 most=a1 % most:=Int.tmod_eq_emod_of_nonneg h1.1
 have hN:w64 (1 + Int.tmod (w64 a1) most)=((1 + a1 % most).toNat:Int):=by
  rw [AW1 (x:=a1) AGp AGp,t3,wk AGp];omega
 generalize hNN:(1 + a1 % most).toNat=N at hN;have Ad:1<=N:=by omega
 have Ab:N<=8:=by omega
 unfold AVq;refine AVb AGp<|AG4 (Q:=λe=> ∃ (q:Nat) (F:ATa),e=(tab N N F,(q:Int))/\q<=200/\ ∀ i j,i < N->j < N->(F i j).natAbs<=9) (AG4 (Q:=λ_=>True) ?_ λk _=>AT2 (λ_=>?_) λ_=>AT2 (λ_=>?_) λ_=>AT2 (λ_=>?_) λ_=>AT2 (λ_=>?_) λ_=>?_) λe he=>?_
 ·exact AT2 (λ_=>AGy trivial) λ_=>AT2 (λ_=>AGy trivial) λ_=>AT2 (λ_=>AGy trivial) λ_=>AGy trivial
 ·refine AG4 (Q:=λe=> ∃ (q:Nat) (F:ATa),e=(tab N N F,(q:Int))/\q<=200/\ ∀ i j,i < N->j < N->(F i j).natAbs<=9) (AG4 (Q:=λe=> ∃ (q:Nat) (f:Nat->Int),e=(tab N N<|dgF f,(q:Int))/\q<=8/\ ∀ r,r < N->1<=f r/\f r<=6) (AVb (by rw [hN];omega)<|AG4 (BFg (q0:=0) (L:=L) hN Ab AGp hf) λe he=>AGy ?_) λe he=>?_) λe he=>AGy he
  ·obtain ⟨q,f,rfl,h2,h3⟩:=he;grind
  ·obtain ⟨q,f,rfl,h2,h3⟩:=he;refine AG4 (BDk (L:=L) (q0:=q) Ab AGp (λi j hi hj=>Nat.le_trans (A2m (m:=6) h3 i j hi hj) AGr) hf) λe he=>AGy ?_;obtain ⟨q,F,rfl,h4,h5⟩:=he;grind
 ·rw [hN];refine AG4 (A2l Ad Ab hf) λF hF=>?_;obtain ⟨F,rfl,hF⟩:=hF;refine AT0 (n:=0) (AUl AGp) rfl (AT0 (n:=0) (AT4 AGp) rfl (AG4 (Q:=λe:Int × Int=>0<=e.1/\e.1 < 3/\ ∃ p:Nat,e.2=(p:Int)/\p<=0 + 1) (AG4 (Amm (L:=L) (q:=0) AGp) λe he=>AGy ⟨(Alm _ 3 AGr).1,(Alm _ 3 AGr).2,he⟩) λe he=>AGy ?_));obtain ⟨c1,c2,p,c3,c4⟩:=he;have c5:=hF 0 0 AGp AGp;refine ⟨p,AU4 F 0 λc=>if c=0 then F 0 0 + e.1 else F 0 c,?_,AGp,λi j hi hj=>?_⟩
  ·rw [c3,wk AGp];refine congrArg (λz=>(z,(p:Int))) ?_;show (tab N N F).set 0 ((AV0 N<|F 0).set 0 (F 0 0 + e.1))=_;rw [AWi];exact Ade
  ·rw [AT6];split
   ·grind
   grind
 ·rw [hN];refine AG4 (A2l Ad Ab hf) λF hF=>?_;obtain ⟨F,rfl,hF⟩:=hF;have w1:w64 ((N:Int) - 1)=((N - 1:Nat):Int):=by rw [wk AGp];omega
  rw [w1];refine AT0 (AUl AGp) rfl (AT0 (AT4 AGp) rfl (AG4 (Q:=λe:Int × Int=>0<=e.1/\e.1 < 2/\ ∃ p:Nat,e.2=(p:Int)/\p<=0 + 1) (AG4 (Amm (L:=L) (q:=0) AGp) λe he=>AGy ⟨(Alm _ 2 AGr).1,(Alm _ 2 AGr).2,he⟩) λe he=>AGy ?_));obtain ⟨c1,c2,p,c3,c4⟩:=he;have c5:=hF (N - 1) (N - 1) AGp AGp;refine ⟨p,AU4 F (N - 1) λc=>if c=N - 1 then F (N - 1) (N - 1) + e.1 else F (N - 1) c,?_,AGp,λi j hi hj=>?_⟩
  ·rw [c3,wk AGp,AU1,AU1];refine congrArg (λz=>(z,(p:Int))) ?_;rw [AWi];exact Ade
  ·rw [AT6];split
   ·split
    ·omega
    grind
   grind
 ·refine AG4 (Q:=λe=> ∃ (q:Nat) (F:ATa),e=(tab N N F,(q:Int))/\q<=200/\ ∀ i j,i < N->j < N->(F i j).natAbs<=9) (AVb (by rw [hN];omega)<|AG4 (BDh (q0:=0) (L:=L) hN Ab AGp hf) λe he=>AGy ?_) λe he=>AGy he;obtain ⟨q,f,rfl,h2,h3⟩:=he;exact ⟨q,dgF f,rfl,AGp,λi j hi hj=>A2m (m:=9) h3 i j hi hj⟩
 ·refine AG4 (Q:=λe=> ∃ (q:Nat) (F:ATa),e=(tab N N F,(q:Int))/\q<=200/\ ∀ i j,i < N->j < N->(F i j).natAbs<=9) (AVb (by rw [hN];omega)<|AG4 (BDi (q0:=0) (L:=L) hN Ab AGp hf) λe he=>AGy ?_) λe he=>AGy he;obtain ⟨q,f,rfl,h2,h3⟩:=he;exact ⟨q,dgF f,rfl,AGp,λi j hi hj=>Nat.le_trans (A2m (m:=1) h3 i j hi hj) AGr⟩
 ·obtain ⟨q,F,rfl,h2,h3⟩:=he;dsimp only;refine AG4 (BDl Ad Ab (λi j hi hj=>Nat.le_trans (h3 i j hi hj) AGr) hf) λb hb=>AT2 (λhn=>?_) λhn=>AGy ?_
  ·refine AG4 (Q:=λe=> ∃ f:Nat->Int,e.1=tab N N (dgF f)/\ ∀ r,r < N->1<=f r/\f r<=2) (AVb (by rw [hN];omega)<|AG4 (BDj (q0:=q) (L:=L) hN Ab AGp hf) λe he=>AGy ?_) λe he=>AGy ?_
   ·grind
   ·obtain ⟨f,h4,h5⟩:=he;obtain ⟨d1,d2,d3⟩:=BDm Ab h5;exact ⟨N,dgF f,h4,⟨Ad,Ab,d1,d2,λi j hi hj=>Nat.le_trans (A2m (m:=2) h5 i j hi hj) AGr,d3⟩,by rw [t3];omega⟩
  ·have hg:Ac4 N F/\Afi N F/\det N F<=10000:=hb.1 (by simpa using hn);exact ⟨N,F,rfl,⟨Ad,Ab,hg.1,hg.2.1,h3,hg.2.2⟩,by rw [t3];omega⟩
theorem A7n (h1:LvF A k) (h2:SzF A (k + 1) k) (hp:0 < det (k + 1) A):det (k + 1) A * det (k + 1) A<=2 * (det k A * det (k + 2) A):=by
 unfold LvF at h1;unfold SzF at h2;have h3:(2 * Mn k A (k + 1) k) * (2 * Mn k A (k + 1) k)<=det (k + 1) A * det (k + 1) A:=Anu AGp h2.2;grind
theorem Aef {x y:Int} (h0:0<=x) (h:x<=y):∀ k:Nat,x ^ k<=y ^ k
 | 0=>by simp
 | k + 1=>by
   rw [Int.pow_succ,Int.pow_succ]
   exact Int.mul_le_mul (Aef h0 h k) h h0<|Int.le_trans (Int.pow_nonneg h0)<|Aef h0 h k
def tri:Nat->Nat
 | 0=>0
 | k + 1=>tri k + (k + 1)
theorem A0s {n:Nat} (hp:Afi n A) (hs:Apx A n) (hl:Aq8 A n):∀ k,k + 1<=n->det k A ^ (k + 1)<=det (k + 1) A ^ k * 2 ^ tri k:=by
 intro k;induction k with
 | zero=>intro _;simp [det,tri]
 | succ k ih=>
   intro hk;have ih:=ih AGp;have p0:=hp k AGp;have p1:=hp (k + 1) AGp;have p2:=hp (k + 2) AGp;have h1:=A7n (hl k AGp) (hs (k + 1) k AGp AGp) p1;generalize det k A=a at *
   generalize det (k + 1) A=b at *
   generalize det (k + 2) A=c at *
   have h2:(b * b) ^ (k + 1)<=(2 * (a * c)) ^ (k + 1):=Aef (Int.le_of_lt<|Int.mul_pos p1 p1) h1 _;rw [Int.mul_pow,Int.mul_pow,Int.mul_pow] at h2;have h3:a ^ (k + 1) * c ^ (k + 1)<=b ^ k * 2 ^ tri k * c ^ (k + 1):=Int.mul_le_mul_of_nonneg_right ih<|Int.le_of_lt<|Int.pow_pos p2;have h4:2 ^ (k + 1) * (a ^ (k + 1) * c ^ (k + 1))<=2 ^ (k + 1) * (b ^ k * 2 ^ tri k * c ^ (k + 1)):=Int.mul_le_mul_of_nonneg_left h3<|Int.le_of_lt<|Anv _;have h5:=Int.le_trans h2 h4;have e1:b ^ (k + 1) * b ^ (k + 1)=b ^ k * b ^ (k + 1 + 1):=by grind
   have e2:(2:Int) ^ (k + 1) * (b ^ k * 2 ^ tri k * c ^ (k + 1))=b ^ k * (c ^ (k + 1) * 2 ^ tri (k + 1)):=by
    have:(2:Int) ^ tri (k + 1)=2 ^ tri k * 2 ^ (k + 1):=by rw [<- Int.pow_add];rfl
    rw [this];grind
   rw [e1,e2] at h5;exact Int.le_of_mul_le_mul_left h5<|Int.pow_pos p1
def dU:Nat->Int
 | 8=>10000
 | 7=>35777
 | 6=>64000
 | 5=>57243
 | 4=>25600
 | _=>10000
theorem BFh (k:Nat):dU k<=64000:=by unfold dU;split <;> omega
theorem BBv (k:Nat):10000<=dU k:=by unfold dU;split <;> omega
theorem BAq:∀ k,k < 8->dU (k + 1) ^ k * 2 ^ tri k < (dU k + 1) ^ (k + 1):=by decide
theorem A39 {n:Nat} (hn:n<=8) (hp:Afi n A) (hs:Apx A n) (hl:Aq8 A n) (hd:det n A<=10000):∀ m k,k + m=n->det k A<=dU k:=by
 intro m
 induction m with
 | zero=>
    intro k hk;obtain rfl:k=n:=by omega
    exact Int.le_trans hd (BBv _)
 | succ m ih=>
   intro k hk
   have h1:=ih (k + 1) AGp
   have h2:=A0s hp hs hl k AGp
   have p0:=hp k AGp
   have p1:=hp (k + 1) AGp
   rcases Int.lt_or_le (dU k) (det k A) with h | h
   ·exfalso
    have h3:(dU k + 1) ^ (k + 1)<=det k A ^ (k + 1):=Aef (by have:=BBv k;omega) AGp _
    have h4:det (k + 1) A ^ k * 2 ^ tri k<=dU (k + 1) ^ k * 2 ^ tri k:=Int.mul_le_mul_of_nonneg_right (Aef (Int.le_of_lt p1) h1 k)<|Int.le_of_lt<|Anv _
    have h5:=BAq k AGp
    omega
   ·exact h
theorem Apz {n:Nat} (hn:n<=8) (R:At2 n A) (hk:k<=n):0 < det k A/\det k A<=64000:=
 ⟨R.pos k hk,Int.le_trans (A39 hn R.pos R.sz R.lv R.dt (n - k) k AGp)<|BFh k⟩
theorem Ary {n:Nat} (hn:n<=8) (R:At2 n A) (hi:i < n) (hj:j < n): -192000<=A i j/\A i j<=192000:=
 Ay3 R.sym R.pos (λk hk=>Ays (Dm:=64000) hn R.sym R.pos hk (λk hk=>(Apz hn R hk).2) λl hl=>R.sz k l hl hk) hi hj
structure RB (n:Nat) (A:ATa) (k:Nat):Prop where
 pos:∀ j,k < j->j<=n->0 < det j A
 lt:∀ j,k < j->j < n->det j A < 65536
 sz:∀ l i,k<=l->l < i->i < n->SzF A i l
 lv:∀ l,k<=l->l + 1 < n->LvF A l
 dt:det n A<=10000
theorem BDo {m:Nat} (h0:0 < det k A) (hF:∀ i j,i < m + 1->j < m + 1->F i j=Mn k A (k + i) (k + j)) (hi:i < m) (hj:j < m):Aj5 F (det k A) i j=Mn (k + 1) A (k + 1 + i) (k + 1 + j):=by
 unfold Aj5;rw [hF 0 0 AGp AGp,hF (i + 1) (j + 1) AGp AGp,hF (i + 1) 0 AGp AGp,hF 0 (j + 1) AGp AGp,Nat.add_zero,An9 AGp,Int.mul_tdiv_cancel_left _ AGp];grind
theorem Ay5 {n:Nat}:∀ (m k:Nat) (F:ATa),k + m=n->1<=m->0 < det k A->(∀ i j,i < m->j < m->F i j=Mn k A (k + i) (k + j))->(Aiu m F (det k A)=true↔RB n A k):=by
 intro m
 induction m with
 | zero=>omega
 | succ m ih=>
   intro k F hk _ h0 hF
   have Ad:F 0 0=det (k + 1) A:=by rw [hF 0 0 AGp AGp];exact Abw k A
   cases m with
   | zero=>
     obtain rfl:k + 1=n:=hk
     show decide (0 < F 0 0/\F 0 0<=10000)=true↔_
     rw [decide_eq_true_iff,Ad]
     exact ⟨λh=>⟨λj h1 h2=>by grind,λj h1 h2=>by omega,λl i h1 h2 h3=>by omega,λl h1 h2=>by omega,h.2⟩,λh=>⟨h.pos (k + 1) AGp<|Nat.le_refl _,h.dt⟩⟩
   | succ m=>
     have hN:∀ i j,i < m + 1->j < m + 1->Aj5 F (det k A) i j=Mn (k + 1) A (k + 1 + i) (k + 1 + j):=λi j hi hj=>BDo h0 hF hi hj
     have hS:Ait (m + 1 + 1) F↔(0 < det (k + 1) A/\det (k + 1) A < 65536)/\ ∀ i,k < i->i < n->SzF A i k:=by
      unfold Ait
      rw [Ad]
      refine and_congr_right λ_=>⟨λh i h1 h2=>?_,λh i h1 h2=>?_⟩
      ·have h3:=h (i - k) AGp AGp
       rw [hF (i - k) 0 AGp AGp,show k + (i - k)=i by omega] at h3
       unfold SzF
       grind
      ·have h3:=h (k + i) AGp AGp
       unfold SzF at h3
       grind
     have hL:Aol F (det k A)↔LvF A k:=by
      unfold Aol LvF
      rw [Ad,hN 0 0 AGp AGp,Nat.add_zero,Abw (k + 1) A,hF 1 0 AGp AGp,Nat.add_zero]
      grind
     show (decide (Ait (m + 1 + 1) F) && (decide (Aol F<|det k A) && Aiu (m + 1) (Aj5 F<|det k A) (F 0 0)))=true↔_
     rw [Bool.and_eq_true,Bool.and_eq_true,decide_eq_true_iff,decide_eq_true_iff,hS,hL,Ad]
     constructor
     ·rintro ⟨⟨⟨h1,h2⟩,h3⟩,h4,h5⟩
      have R:=(ih (k + 1) _ AGp AGp h1 hN).1 h5
      refine ⟨λj a b=>?_,λj a b=>?_,λl i a b c=>?_,λl a b=>?_,R.dt⟩
      ·by_cases e:j=k + 1
       ·grind
       ·exact R.pos j AGp b
      ·by_cases e:j=k + 1
       ·grind
       ·exact R.lt j AGp b
      ·by_cases e:l=k
       ·grind
       ·exact R.sz l i AGp b c
      ·by_cases e:l=k
       ·grind
       ·exact R.lv l AGp b
     ·intro R
      have h1:=R.pos (k + 1) AGp AGp
      exact ⟨⟨⟨h1,R.lt (k + 1) AGp AGp⟩,λi a b=>R.sz k i (Nat.le_refl k) a b⟩,R.lv k (Nat.le_refl k) AGp,(ih (k + 1) _ AGp AGp h1 hN).2 ⟨λj a b=>R.pos j AGp b,λj a b=>R.lt j AGp b,λl i a b c=>R.sz l i AGp b c,λl a b=>R.lv l AGp b,R.dt⟩⟩
def Arh (M:List (List Int)):Prop:=(1<=M.length/\M.length<=8)/\(∀ z∈M,z.length=M.length)/\At2 M.length (ent M)
theorem Au4 (M:List (List Int)):isRed M=true↔Arh M:=by
 unfold isRed;rw [Bool.and_eq_true];constructor
 ·rintro ⟨h1,h2⟩;have S:=As6 h1;have R:=(Ay5 (A:=ent M) (n:=M.length) M.length 0 (ent M) AGp S.1.1 (by simp [det]) λi j _ _=>by rw [Aez,Nat.zero_add,Nat.zero_add]).1 (by simpa [det] using h2);refine ⟨S.1,S.2.1,λi j hi hj=>(S.2.2 i j hi hj).1,λk hk=>?_,λr l h3 h4=>R.sz l r (Nat.zero_le _) h3 h4,λl hl=>R.lv l (Nat.zero_le _) hl,R.dt⟩;rcases Nat.eq_zero_or_pos k with h | h
  ·subst h;simp [det]
  ·exact R.pos k h hk
 ·rintro ⟨h1,h2,R⟩;refine ⟨(AZn ⟨h1,h2,λi j hi hj=>⟨R.sym i j hi hj,?_,?_⟩⟩).symm,?_⟩
  ·have:=Ary h1.2 R hi hj;omega
  ·have:=Ary h1.2 R hi hj;omega
  ·have h3:=(Ay5 (A:=ent M) (n:=M.length) M.length 0 (ent M) AGp h1.1 (by simp [det]) λi j _ _=>by rw [Aez,Nat.zero_add,Nat.zero_add]).2 ⟨λj _ hj=>R.pos j hj,λj _ hj=>by have:=Apz h1.2 R (k:=j) AGp;omega,λl i _ a b=>R.sz i l a b,λl _ hl=>R.lv l hl,R.dt⟩;simpa [det] using h3
end Go.Proofs.YtkakafabeobahaaGreatDoor
namespace Go.Proofs.YtkakafabeobahaaGreatDoor
open Go Go.QF
open Go.ChangeShapes Go.WideShapes Go.ChangeAt Go.RowKit
set_option maxRecDepth 100000
theorem A4a:Tryz.prog.cellsOf 24=4:=by kernel_rfl
theorem A7o {H:Type} {enc:TypeId × Value->H} {W:World} {r:Reach} {b0:Nat} {v:Value} {d:DataW H} {p:List MemPlace} (hv:Value.okWide Tryz.prog W r b0 24 v) (h:DataW.Trod enc Tryz.prog W 0 (λ_=>true) true 24 v d p):
 ∃ (g k:Int) (lv bv:Value) (Z Y:List Int),v= .agg #[.int .u8 g,.int .u8 k,lv,bv]/\SlC (cI .i8) W.heap lv Z/\SlC (cI .i8) W.heap bv Y/\(0<=g/\g < 256)/\(0<=k/\k < 256)/\(∀ z∈Z,-128<=z/\z<=127)/\ ∀ z∈Y,-128<=z/\z<=127:=by
 obtain ⟨cs,rfl,hsz⟩:=okWide_struct Tryz.underlying24 hv;rw [A4a] at hsz;obtain ⟨l⟩:=cs
 match l,hsz with
 | [c0,c1,c2,c3],_=>
   obtain ⟨fuel,hf⟩:=h;obtain ⟨y0,y1,y2,y3,n,_,_,h0,h1,h2,h3⟩:=Joins.trod_struct4 Tryz.underlying24 hf;simp [Value.cells,A5a,A5b] at h0 h1 h2 h3;obtain ⟨x0,e0,_,w0⟩:=DataW.trod_int Tryz.underlying5 h0;obtain ⟨x1,e1,_,w1⟩:=DataW.trod_int Tryz.underlying5 h1;simp at e0 e1;subst e0;subst e1;have b0:=wf_u8 w0;have b1:=wf_u8 w1;obtain ⟨Z,HZ,hZ⟩:=A5c h2;obtain ⟨Y,HY,hY⟩:=A5c h3;exact ⟨x0,x1,c2,c3,Z,Y,rfl,A60 HZ,A60 HY,AGp,AGp,hZ,hY⟩
end Go.Proofs.YtkakafabeobahaaGreatDoor
namespace Go.Proofs.YtkakafabeobahaaGreatDoor
open Go Go.QF
set_option maxRecDepth 100000
theorem A2n {n:Nat} (hn:n<=8) (R:At2 n A) (hk:k<=n) (hi:i < n) (hj:j < n):(Mn k A i j).natAbs<=12288000000:=by
 have h1:=Aqq R.sym R.pos hk hi hj
 have b:∀ i,i < n->Mn k A i i<=12288000000:=λi hi=>by
  have h2:=A64 R.sym R.pos hi k hk
  have h3:=Apz hn R hk
  have h4:=Ary hn R hi hi
  have h5:det k A * A i i<=det k A * 192000:=Int.mul_le_mul_of_nonneg_left h4.2 AGp
  omega
 have p:=λi (hi:i < n)=>Aqr R.sym R.pos hk hi;have h2:=Int.mul_le_mul (b i hi) (b j hj) (p j hj) AGp;have:=Ayq (x:=Mn k A i j) (y:=12288000000) AGp<|Int.le_trans h1 h2;omega
theorem BDp {n:Nat} (Aq:1<=n) (hn:n<=8) (R:At2 n A) (hf:100 < fuel):AZz fuel (tab n n A)=some (det n A):=by
 apply ok_eq;unfold AZz;rw [AUe];refine AVb AGp ?_;rw [Int.toNat_natCast];refine AG4 (AUk (λi s=>s=(((i:Nat):Int),part n i A)/\i<=n) n (Q:=(· =tab n n A)) ⟨by rw [Afs n A];rfl,Nat.zero_le _⟩ AGp λi s hi hI=>?_) λe he=>?_
 ·obtain ⟨rfl,hin⟩:=hI;unfold Adv;dsimp only;rw [AUe];refine AT2 (λh=>AT0 (AUl AGp) rfl (AVb AGp<|AT0 (Ai6 AGp) rfl ?_)) λh=>AGy ?_
  ·have hi':i < n:=by omega
   rw [Int.toNat_natCast,AU1,AYx n (0:Int),Ahb];refine AT0 (Adx AGp hi') rfl (AVb (by rw [AUv,AUv];omega)<|AGy ⟨hi',?_,AGp⟩);rw [wk AGp,AU1,Afk AGp,An8,Aht];grind
  ·obtain rfl:i=n:=by omega
   exact Afr _ _
 subst he;refine AG4 (Q:=(· =1)) ⟨1,if_pos AGp,rfl⟩ λone h1=>?_;subst h1;refine AG4 (AUk (λk s=> ∃ G,s=(false,((k:Int),tab n n G,det k A))/\k<=n/\ ∀ r c,k<=r->r < n->k<=c->c < n->G r c=Mn k A r c) n (Q:=λex=>match ex with | .inl e=>False | .inr (neg,last)=>neg=false/\last=det n A) ⟨A,rfl,Nat.zero_le _,λr c _ _ _ _=>(Aez A r c).symm⟩ AGp λk s hk hI=>?_) λex hex=>?_
 ·obtain ⟨G,rfl,hkn,hG⟩:=hI;unfold Adu;dsimp only;rw [AUe];refine AT2 (λh=>?_) λh=>AGy ⟨rfl,?_⟩
  ·have hk':k < n:=by omega
   have hGk:G k k=det (k + 1) A:=by rw [hG k k AGp hk' AGp hk',Abw]
   have hpos:0 < det (k + 1) A:=R.pos (k + 1) AGp;have hlast:=Apz hn R (k:=k) AGp;refine AG4 (Q:=(· =(k:Int))) (AG4 (AUk (λ_ s=>s=(k:Int)) 0 (Q:=(· =(k:Int))) rfl AGp λi s hi hI=>?_) λe he=>AGy he) λe he=>?_
   ·subst hI;unfold Adr;rw [AUe];refine AG4 (Q:=λex=>match ex with | .inl _=>False | .inr _=>True) (AT2 (λh2=>AT0 (AUl hk') rfl (AT0 (AT4 hk') rfl (AG4 (AUn (a:=AYp<|G k k) rfl) λsg hsg=>AT2 (λh3=>?_) λh3=>AGy trivial))) λh2=>absurd h h2) λex hex=>?_
    ·exfalso;rw [hsg] at h3;have:=(Ai4 _).1 h3;omega
    ·cases ex with
     | inl u=>exact hex.elim
     | inr u=>exact AGy rfl
   ·subst he;refine AT2 (λh2=>by omega) λ_=>AG4 (Q:=(· =(false,tab n n G))) (AT2 (λh2=>absurd rfl h2) λ_=>AGy rfl) λr hr=>?_;subst hr;dsimp only;refine AT0 (AUl hk') rfl (AT0 (AT4 hk') rfl ?_);rw [wk AGp]
    have hq:∀ r c,k < r->r < n->k < c->c < n->bQ k G (det k A) r c=Mn (k + 1) A r c:=λr c h1 h2 h3 h4=>by
     unfold bQ
     rw [hGk,hG r c AGp h2 AGp h4,hG r k AGp h2 AGp hk',hG k c AGp hk' AGp h4,<- Abw k A,An9 AGp,Int.mul_ediv_cancel_left _ AGp]
    have habs:∀ r c,k<=r->r < n->k<=c->c < n->(G r c).natAbs<=12288000000:=λr c h1 h2 h3 h4=>by rw [hG r c h1 h2 h3 h4];exact A2n hn R AGp h2 h4
    refine AG4 (AUk (λi s=>s=(((k + 1 + i:Nat):Int),tab n n<|bF k G (det k A) (k + 1 + i)<|k + 1)/\k + 1 + i<=n) (n - (k + 1)) (Q:=(· =tab n n (bF k G (det k A) n<|k + 1))) ⟨by rw [Nat.add_zero,Aye];simp,AGp⟩ AGp λi s hi hI=>?_) λa3 Ag=>?_
    ·obtain ⟨rfl,hin⟩:=hI;unfold Adt;dsimp only;rw [AUe];obtain ⟨q,hqe⟩:∃ q,k + 1 + i=q:=⟨_,rfl⟩;rw [hqe] at hin ⊢;refine AT2 (λh3=>?_) λh3=>AGy ?_
     ·have hqn:q < n:=by omega
      rw [wk AGp];refine AG4 (AUk (λj s=>s=(((k + 1 + j:Nat):Int),tab n n<|bF k G (det k A) q<|k + 1 + j)/\k + 1 + j<=n) (n - (k + 1)) (Q:=(· =tab n n (bF k G (det k A) q n))) ⟨AT5,AGp⟩ AGp λj s hj hJ=>?_) λa4 Ah=>AGy ?_
      ·obtain ⟨rfl,hjn⟩:=hJ;unfold Ads;dsimp only;rw [AUe];obtain ⟨c,hc⟩:∃ c,k + 1 + j=c:=⟨_,rfl⟩;rw [hc] at hjn ⊢;refine AT2 (λh4=>?_) λh4=>AGy ?_
       ·have hcn:c < n:=by omega
        have a1:=habs k k AGp hk' AGp hk';have a2:=habs q c AGp hqn AGp hcn;have a3:=habs q k AGp hqn AGp hk';have a4:=habs k c AGp hk' AGp hcn;have m1:=Nat.mul_le_mul a1 a2;have m2:=Nat.mul_le_mul a3 a4;have hB:12288000000 * 12288000000 < AXw:=by decide
        refine AT0 (AUl hqn) rfl (AT0 (AT4 hcn) rfl ?_);rw [BBn];refine AG4 (AUn (a:=G k k * G q c)<|if_pos AGp) λx1 Ak=>AT0 (AT4 hk') rfl (AT0 (AUl hk') rfl (AT0 (AT4 hcn) rfl ?_));subst Ak;rw [BBm,A10];refine AG4 (AUn (a:=G q k * G k c)<|if_pos AGp) λx2 Am=>?_;subst Am;refine AG4 (AUn (a:=G k k * G q c - G q k * G k c)<|if_pos ⟨by rw [Int.natAbs_mul];omega,by rw [Int.natAbs_mul];omega⟩) λx3 Ao=>?_;subst Ao
        have hnum:G k k * G q c - G q k * G k c=det k A * Mn (k + 1) A q c:=by
         rw [hGk,hG q c AGp hqn AGp hcn,hG q k AGp hqn AGp hk',hG k c AGp hk' AGp hcn,<- Abw k A,An9 AGp]
        have m3:(det k A * Mn (k + 1) A q c).natAbs<=64000 * 12288000000:=by
         rw [Int.natAbs_mul]
         exact Nat.mul_le_mul AGp<|A2n hn R AGp hqn hcn
        refine AG4 (Q:=λx=>x.1=bQ k G (det k A) q c) ⟨_,if_pos ⟨by rw [hnum];omega,AGp,AGp⟩,rfl⟩ λx4 Ap=>AGy ⟨AGp,?_,AGp⟩;rw [Ap,wk AGp,As1,A6p k G (det k A) AGp AGp];grind
       grind
      ·subst Ah;refine ⟨AGp,?_,AGp⟩;rw [wk AGp];congr 1
       ·omega
       ·refine Agk λr c hr hc=>?_;rw [A6o k n G (det k A) q hc,<- Nat.add_assoc,hqe]
     grind
    ·subst Ag;refine AGy ⟨hk',bF k G (det k A) n<|k + 1,?_,AGp,λr c h1 h2 h3 h4=>?_⟩
     ·rw [hGk];rfl
     ·have:bF k G (det k A) n (k + 1) r c=bQ k G (det k A) r c:=by unfold bF;omega
      grind
  grind
 ·match ex,hex with
  | .inl e,hex=>exact hex.elim
  | .inr (neg,last),hex=>
    obtain ⟨rfl,rfl⟩:=hex
    dsimp only
    exact AT2 (λh=>nomatch h) λ_=>AGy rfl
theorem Ay6 {n:Nat} (hn:1<=n) (Ab:n<=16) (hf:100 < fuel):AZy fuel (tab n n F)=some ((n:Int),(n:Int),true)/\AYy fuel (tab n n F)=some ((n:Int),(n:Int),true):=by
 constructor <;>
 ·apply ok_eq;first | unfold AZy | unfold AYy
  rw [AUe];refine AG4 (Q:=λex=>match ex with | .inl _=>False | .inr _=>True) (AT2 (λh=>by omega) λh=>AT2 (λh2=>by omega) λh2=>AGy trivial) λex hex=>?_
  cases ex with
  | inl e=>exact hex.elim
  | inr u=>
    dsimp only
    refine AT0 (n:=0) (AUl AGp) rfl ?_
    rw [AUv]
    refine AG4 (Q:=λex=>match ex with | .inl _=>False | .inr _=>True) (AT2 (λh=>by omega) λh=>AT2 (λh2=>by omega) λh2=>AGy trivial) λex hex=>?_
    cases ex with
    | inl e=>exact hex.elim
    | inr u=>
      dsimp only
      refine AG4 (AUk (λi (s:Int)=>s=i) n (Q:=λex=>match ex with | .inl _=>False | .inr _=>True) rfl AGp λi s hi hI=>?_) λex hex=>?_
      ·subst hI
       first | unfold Adq | unfold Acg
       rw [AUe]
       refine AT2 (λh=>AT0 (AUl AGp) rfl ?_) λh=>AGy trivial
       rw [AUv,AUv]
       exact AT2 (λh2=>absurd rfl h2) λ_=>AGy ⟨AGp,wk AGp⟩
      ·cases ex with
       | inl e=>exact hex.elim
       | inr u=>exact AGy rfl
theorem BAr {n:Nat} (hn:1<=n) (Aa:n<=16) (hb:∀ i j,i < n->j < n->(F i j).natAbs<=9223372036854775807) (hf:100 < fuel):Acp fuel (tab n n F)=some (tab n n F,true):=by
 apply ok_eq;unfold Acp;refine AG4 (AUn (Ay6 hn Aa hf).1) λx hx=>?_;subst hx;dsimp only;refine AT2 (λh=>nomatch h) λ_=>AG4 (Q:=(· =tab n n F)) (AVb AGp ?_) λe he=>AGy (by rw [he]);rw [Int.toNat_natCast];refine AG4 (AUk (λi s=>s=(((i:Nat):Int),part n i F)/\i<=n) n (Q:=(· =tab n n F)) ⟨by rw [Afs n F];rfl,Nat.zero_le _⟩ AGp λi s hi hI=>?_) λe he=>AGy he;obtain ⟨rfl,hin⟩:=hI;unfold Aff;dsimp only;rw [List.length_replicate,Int.toNat_natCast];refine AT2 (λh=>AVb AGp<|AT0 (Ai6 AGp) rfl ?_) λh=>AGy ?_
 ·have hi':i < n:=by omega
  rw [AU1,AYx n (0:Int),Ahb];refine AT0 (Adx AGp hi') rfl ?_;rw [AU8];refine AG4 (AUk (λj s=>s=(((j:Nat):Int),part n (i + 1)<|AU4 F i λc=>if c < j then F i c else 0)/\j<=n) n (Q:=(· =part n (i + 1) F)) ⟨?_,Nat.zero_le _⟩ AGp λj s hj hJ=>?_) λe he=>AGy ⟨hi',?_,AGp⟩
  ·grind
  ·obtain ⟨rfl,hjn⟩:=hJ;unfold Afe;dsimp only;rw [AUv];refine AT2 (λh=>?_) λh=>AGy ?_
   ·have hj':j < n:=by omega
    refine AT0 (Adx AGp hi') rfl ?_;rw [AU8];have:=hb i j hi' hj';refine AG4 (Q:=(· =F i j)) (AT0 (AUl hi') rfl (AT0 (AT4 hj') rfl (AG4 (Q:=(· =F i j)) ⟨_,if_pos AGp,rfl⟩ λx hx=>AGy hx))) λx hx=>?_;subst hx;refine AT0 (AT4 hj') rfl (AGy ⟨AGp,?_,AGp⟩);rw [wk AGp,AU1,AU1,AWi,Afk AGp,An8];grind
   ·obtain rfl:j=n:=by omega
    unfold part;refine AUq λr hr=>?_;split
    ·refine AUq λc hc=>?_;rw [AT6];grind
    ·rfl
  ·rw [he,wk AGp];rfl
 ·obtain rfl:i=n:=by omega
  exact Afr _ _
def Awo (d p e:Int):Prop:= ∃ (k:Nat) (r:Int),e=k/\d=r * p ^ k/\¬ p ∣ r
theorem Awp {a b:Int} (hp:2<=p) (ha:Awo d p a) (hb:Awo d p b):a=b:=by
 have key:∀ (k l:Nat) (r s:Int),k < l->r * p ^ k=s * p ^ l->p ∣ r:=λk l r s hkl h=>by
  obtain ⟨m,rfl⟩:∃ m,l=k + 1 + m:=⟨l - k - 1,AGp⟩
  rw [Int.pow_add,Int.pow_add,Int.pow_one] at h
  have h1:p ^ k * r=p ^ k * (p * (s * p ^ m)):=by grind
  exact ⟨_,Int.eq_of_mul_eq_mul_left (Int.pow_ne_zero AGp) h1⟩
 obtain ⟨k,r,rfl,h1,h2⟩:=ha;obtain ⟨l,s,rfl,h3,h4⟩:=hb;grind
theorem Aog {r:Int} (hp:2<=p) (hr:0 < r) (hd:d<=10000) (h:d=r * p ^ k):k<=13:=by
 rcases Nat.lt_or_ge 13 k with h1 | h1
 ·exfalso;have h2:(2:Int) ^ 14<=2 ^ k:=Aoe h1;have h3:(2:Int) ^ k<=p ^ k:=Aef AGp hp k;have h4:1 * p ^ k<=r * p ^ k:=Int.mul_le_mul_of_nonneg_right AGp AGp;omega
 ·exact h1
theorem BDq (Ac:1<=d) (hd:d<=10000) (hp:2<=p) (Ad:p<=9973) (hf:100 < fuel):Ok (Acz fuel d p) (Awo d p):=by
 unfold Acz;refine AG4 (AUk (λi s=> ∃ r:Int,s=(r,(i:Int))/\0 < r/\d=r * p ^ i) 14 (Q:=Awo d p) ⟨d,rfl,AGp,AT5⟩ AGp λi s hi hI=>?_) λe he=>AGy he;obtain ⟨r,rfl,hr,hdr⟩:=hI;have Ae:=Aog hp hr hd hdr
 have hrd:r<=d:=by
  have h1:r * 1<=r * p ^ i:=Int.mul_le_mul_of_nonneg_left (Int.pow_pos AGp) AGp
  omega
 unfold Ae1;dsimp only;refine AG4 (Q:=λex=>match ex with | .inl _=>p ∣ r | .inr _=> ¬ p ∣ r) (AT2 (λh=>AVb AGp<|AT2 (λh2=>AGy ?_) λh2=>AGy ?_) λh=>by omega) λex hex=>?_
 ·exact Int.dvd_of_tmod_eq_zero h2
 ·exact λh3=>h2<|Int.tmod_eq_zero_of_dvd h3
 ·cases ex with
  | inl u=>
    obtain ⟨q,rfl⟩:p ∣ r:=hex
    have hq:0 < q:=Int.pos_of_mul_pos_right hr AGp
    have hqr:1 * q<=p * q:=Int.mul_le_mul_of_nonneg_right AGp AGp
    refine AVb AGp<|AGy ⟨AGp,q,?_,hq,by grind⟩
    rw [Int.mul_tdiv_cancel_left _ AGp,AW1 (x:=q) AGp AGp,wk AGp]
    rfl
  | inr u=>exact AGy ⟨i,r,rfl,hdr,hex⟩
def pwL (p:Int) (m:Nat):List Int:=AV0 m λi=>p ^ (2 ^ i)
theorem A7p {a b:Int} (ha:a.natAbs < 18446744073709551616) (hb:b.natAbs < 18446744073709551616) (h0:b≠0):Anp fuel a b=some (a / b,a % b,true):=if_pos ⟨ha,hb,h0⟩
theorem BDr (Am:1<=d) (hd:d<=10000) (hp:Pr p) (Ag:p<=9973) (hf:100 < fuel):Ok (Acq fuel d p) λr=>Awo d p r.1:=by
 have Ae:2<=p:=hp.1;have pw:∀ k:Nat,0 < p ^ k:=λk=>Int.pow_pos AGp;unfold Acq;refine AG4 (AUn (a:=Adc p) rfl) λb hb=>?_;rw [<- Apf AGp hp] at hb;subst hb;refine AT2 (λh=>nomatch h) λ_=>AG4 (AUn (a:=AYp d) rfl) λs hs=>?_;subst hs;refine AT2 (λh=>absurd ((Ai4 d).1 h) AGp) λ_=>AG4 (AUn (a:=d) rfl) λx hx=>AG4 (Q:=(· =p)) ⟨p,if_pos AGp,rfl⟩ λy hy=>?_;subst hx;subst hy;refine AG4 (AUk (λj s=> ∃ r:Int,s=(pwL y<|j + 1,r,((2 ^ j - 1:Nat):Int))/\0 < r/\x=r * y ^ (2 ^ j - 1)) 5 (Q:=λe=> ∃ (j:Nat) (r:Int),e=(pwL y<|j + 1,r,((2 ^ j - 1:Nat):Int))/\0 < r/\x=r * y ^ (2 ^ j - 1)/\¬ y ^ (2 ^ j) ∣ r/\j<=4) ⟨x,?_,AGp,AT5⟩ AGp λj s hj hI=>?_) λe he=>?_
 ·refine congrArg (λl=>(l,x,(0:Int))) ?_;show [y]=[y ^ 1];rw [Int.pow_one]
 ·obtain ⟨r,rfl,hr,hxr⟩:=hI;have Ao:=Aog Ae hr hd hxr
  have Af:j<=3:=by
   rcases Nat.lt_or_ge 3 j with h | h
   ·exfalso
    have:=Nat.pow_le_pow_right (show 0 < 2 by omega) h
    omega
   ·exact h
  have hrx:r<=x:=by
   have h1:r * 1<=r * y ^ (2 ^ j - 1):=Int.mul_le_mul_of_nonneg_left (pw _) AGp
   omega
  have hjp:1<=2 ^ j:=Nat.one_le_two_pow
  have Ap:2 ^ j<=8:=by
   have:=Nat.pow_le_pow_right (show 0 < 2 by omega) Af
   omega
  have hyb:y ^ (2 ^ j)<=10000 * 9973:=by
   have e1:y ^ (2 ^ j)=y ^ (2 ^ j - 1) * y:=by rw [<- Int.pow_succ];congr 1;omega
   have h2:1 * y ^ (2 ^ j - 1)<=r * y ^ (2 ^ j - 1):=Int.mul_le_mul_of_nonneg_right AGp<|Int.le_of_lt<|pw _
   rw [e1]
   exact Int.mul_le_mul AGp Ag AGp AGp
  have Ad:=pw<|2 ^ j;unfold Afh;dsimp only;have hl:(pwL y<|j + 1).length=j + 1:=AUv _ _;rw [hl,AW1 (x:=((j + 1:Nat):Int) - 1) AGp AGp];refine AT0 (n:=j) (AT4 AGp) AGp<|AVb AGp ?_;rw [show (((j + 1:Nat):Int) - 1).toNat=j by omega,show (1:Int) * 2 ^ j=((2 ^ j:Nat):Int) by simp,AW1 (x:=((2 ^ j:Nat):Int)) AGp AGp];refine AG4 (Q:=λe:Bool × Int × Int=>if y ^ (2 ^ j) ∣ r then e=(true,r / y ^ (2 ^ j),((2 ^ (j + 1) - 1:Nat):Int)) else e=(false,r,((2 ^ j - 1:Nat):Int))) (AG4 (AUn<|A7p (fuel:=fuel) (a:=r) (b:=y ^ (2 ^ j)) AGp AGp AGp) λq hq=>AG4 (AUn (a:=AYp q.2.1) rfl) λs hs=>?_) λe he=>?_
  ·subst hq;subst hs;dsimp only;refine AT2 (λh=>AGy ?_) λh=>AGy ?_
   ·have hnd: ¬ y ^ (2 ^ j) ∣ r:=λh2=>h<|(Ai4 _).2 (Int.emod_eq_zero_of_dvd h2);rw [if_neg hnd]
   ·have hdv:y ^ (2 ^ j) ∣ r:=Int.dvd_of_emod_eq_zero<|(Ai4 _).1 (Classical.not_not.1 h);rw [if_pos hdv,wk AGp,Nat.pow_succ];grind
  ·by_cases hdv:y ^ (2 ^ j) ∣ r
   ·rw [if_pos hdv] at he;subst he;dsimp only;refine AT2 (λ_=>?_) λh=>absurd rfl h;obtain ⟨q,rfl⟩:=hdv;have Ah:0 < q:=Int.pos_of_mul_pos_right hr Ad;have hqm:y ^ (2 ^ j) * 1<=y ^ (2 ^ j) * q:=Int.mul_le_mul_of_nonneg_left AGp AGp;have hB:10000 * 10000 < AXw:=by decide
    have m1:(y ^ (2 ^ j)).natAbs * (y ^ (2 ^ j)).natAbs<=10000 * 10000:=Nat.mul_le_mul AGp AGp;refine AG4 (AUn (a:=y ^ (2 ^ j) * y ^ (2 ^ j))<|if_pos AGp) λz hz=>AVb AGp<|AGy ⟨AGp,q,?_,Ah,?_⟩
    ·subst hz;rw [Int.mul_ediv_cancel_left _ AGp];refine congrArg (λl=>(l,q,((2 ^ (j + 1) - 1:Nat):Int))) ?_;have e1:y ^ (2 ^ j) * y ^ (2 ^ j)=y ^ (2 ^ (j + 1)):=by rw [<- Int.pow_add,Nat.pow_succ];congr 1;omega
     rw [e1];exact Ahs (j + 1) λi=>y ^ (2 ^ i)
    ·rw [hxr];have e1:y ^ (2 ^ (j + 1) - 1)=y ^ (2 ^ j) * y ^ (2 ^ j - 1):=by rw [<- Int.pow_add,Nat.pow_succ];congr 1;omega
     rw [e1];grind
   ·rw [if_neg hdv] at he;subst he;exact AT2 (λh=>nomatch h) λ_=>AGy ⟨j,r,rfl,hr,hxr,hdv,AGp⟩
 ·obtain ⟨j,r,rfl,hr,hxr,hnd,Af⟩:=he;dsimp only
  have hY:∀ q,q < j->y ^ (2 ^ q)<=10000:=λq hq=>by
   have h0:=Nat.pow_le_pow_right (show 0 < 2 by omega) (show q + 1<=j by omega)
   have h1:=Nat.one_le_two_pow (n:=q)
   rw [Nat.pow_succ] at h0
   have e1:y ^ (2 ^ j - 1)=y ^ (2 ^ q) * y ^ (2 ^ j - 1 - 2 ^ q):=by rw [<- Int.pow_add];congr 1;omega
   have h2:y ^ (2 ^ q) * 1<=y ^ (2 ^ q) * y ^ (2 ^ j - 1 - 2 ^ q):=Int.mul_le_mul_of_nonneg_left (pw _)<|Int.le_of_lt<|pw _
   have h3:1 * y ^ (2 ^ j - 1)<=r * y ^ (2 ^ j - 1):=Int.mul_le_mul_of_nonneg_right AGp<|Int.le_of_lt<|pw _
   omega
  have hl:(pwL y<|j + 1).length=j + 1:=AUv _ _;rw [hl,AW1 (x:=((j + 1:Nat):Int) - 2) AGp AGp];refine AG4 (AUk (λi s=> ∃ (r:Int) (k:Nat),s=((j:Int) - 1 - i,r,(k:Int))/\i<=j/\0 < r/\x=r * y ^ k/\¬ y ^ (2 ^ (j - i)) ∣ r) j (Q:=λe=> ∃ (r:Int) (k:Nat),e=(r,(k:Int))/\x=r * y ^ k/\¬ y ∣ r) ⟨r,2 ^ j - 1,by grind,AGp,hr,hxr,AGp⟩ AGp λi s hi hI=>?_) λe he=>?_
  ·obtain ⟨r,k,rfl,hij,hr,hxr,hnd⟩:=hI;have Au:=Aog Ae hr hd hxr
   have hrx:r<=x:=by
    have h1:r * 1<=r * y ^ k:=Int.mul_le_mul_of_nonneg_left (pw _) AGp
    omega
   unfold Afg;dsimp only;refine AT2 (λh=>?_) λh=>AGy ⟨r,k,rfl,hxr,?_⟩
   ·obtain ⟨q,hq⟩:∃ q:Nat,(j:Int) - 1 - i=q:=⟨j - 1 - i,AGp⟩;rw [hq];have hqj:q < j + 1:=by omega
    have Aj:q<=3:=by omega
    have Av:1<=2 ^ q:=Nat.one_le_two_pow;have Aw:2 ^ q<=8:=by have:=Nat.pow_le_pow_right (show 0 < 2 by omega) Aj;omega
    have hyb:=hY q AGp;have Ad:=pw<|2 ^ q;have hsmall:y ^ (2 ^ q) ∣ r->y ^ (2 ^ q)<=r:=λh=>Int.le_of_dvd hr h;refine AT0 (n:=q) (AT4 hqj) rfl (AVb AGp ?_);rw [Int.toNat_natCast,show (1:Int) * 2 ^ q=((2 ^ q:Nat):Int) by simp,AW1 (x:=((2 ^ q:Nat):Int)) AGp AGp];refine AG4 (Q:=λe:Bool × Int × Int=>if y ^ (2 ^ q) ∣ r then e=(true,r / y ^ (2 ^ q),((k + 2 ^ q:Nat):Int)) else e=(false,r,(k:Int))) (AG4 (AUn<|A7p (fuel:=fuel) (a:=r) (b:=y ^ (2 ^ q)) AGp AGp AGp) λt ht=>AG4 (AUn (a:=AYp t.2.1) rfl) λs hs=>?_) λe he=>?_
    ·subst ht;subst hs;dsimp only;refine AT2 (λh=>AGy ?_) λh=>AGy ?_
     ·have hnd: ¬ y ^ (2 ^ q) ∣ r:=λh2=>h<|(Ai4 _).2 (Int.emod_eq_zero_of_dvd h2);rw [if_neg hnd]
     ·have hdv:y ^ (2 ^ q) ∣ r:=Int.dvd_of_emod_eq_zero<|(Ai4 _).1 (Classical.not_not.1 h);rw [if_pos hdv,wk AGp];grind
    ·rw [AW1 (x:=(q:Int) - 1) AGp AGp];by_cases hdv:y ^ (2 ^ q) ∣ r
     ·rw [if_pos hdv] at he;subst he;obtain ⟨w,rfl⟩:=hdv;have Ak:0 < w:=Int.pos_of_mul_pos_right hr Ad;refine AGy ⟨AGp,w,k + 2 ^ q,?_,AGp,Ak,?_,?_⟩
      ·rw [Int.mul_ediv_cancel_left _ AGp];grind
      ·grind
      ·rw [show j - (i + 1)=q by omega];rintro ⟨u,rfl⟩;refine hnd ⟨u,?_⟩;rw [show j - i=q + 1 by omega,Nat.pow_succ,Nat.mul_two,Int.pow_add];grind
     ·rw [if_neg hdv] at he;subst he;refine AGy ⟨AGp,r,k,?_,AGp,hr,hxr,by grind⟩;grind
   ·have:j - i=0:=by omega
    rw [this,Nat.pow_zero,Int.pow_one] at hnd;exact hnd
  ·obtain ⟨r,k,rfl,h1,h2⟩:=he;exact AGy ⟨k,r,rfl,h1,h2⟩
theorem Atk (R:Arh M):M=tab M.length M.length (ent M):=Azu R.2.1
theorem A2o {n:Nat} (Ac:1<=n) (hn:n<=8) (R:At2 n A):Arh (tab n n A):=by
 refine ⟨by rw [AUe];omega,λz hz=>by rw [AUe];exact Apg z hz,?_⟩;rw [AUe];have e:∀ i j,i < n->j < n->ent (tab n n A) i j=A i j:=λi j hi hj=>Avi hi hj;have hd:∀ k,k<=n->det k (ent<|tab n n A)=det k A:=λk hk=>AUd λi j hi hj=>e i j AGp AGp
 have hm:∀ k i j,k<=n->i < n->j < n->Mn k (ent<|tab n n A) i j=Mn k A i j:=λk i j hk hi hj=>by
  unfold Mn
  exact AUd λa b ha hb=>e _ _ (Aha hk hi)<|Aha hk hj
 refine ⟨λi j hi hj=>by rw [e i j hi hj,e j i hj hi];exact R.sym i j hi hj,λk hk=>by rw [hd k hk];exact R.pos k hk,λr l h1 h2=>?_,λr hr=>?_,by rw [hd n<|Nat.le_refl n];exact R.dt⟩
 ·have:=R.sz r l h1 h2;unfold SzF at this ⊢;grind
 ·have:=R.lv r hr;unfold LvF at this ⊢;grind
theorem Ap0 (R:Arh M):1<=det M.length (ent M)/\det M.length (ent M)<=10000:=⟨by have:=R.2.2.pos _<|Nat.le_refl _;omega,R.2.2.dt⟩
theorem A2p (R:Arh M) (hi:i < M.length) (hj:j < M.length):(ent M i j).natAbs<=192000:=by have:=Ary R.1.2 R.2.2 hi hj;omega
theorem A4b (R:Arh M) (hf:100 < fuel):Af3 fuel M=some (det M.length<|ent M):=by
 apply ok_eq;obtain ⟨v1,v2⟩:=Ap0 R;have hT:=Atk R;have h1:=R.1;unfold Af3;generalize hF:ent M=F at *;generalize hL:M.length=n at *;have hb:∀ i j,i < n->j < n->(F i j).natAbs<=192000:=λi j hi hj=>by subst hF;subst hL;exact A2p R hi hj
 rw [hT];refine AG4 (AUn<|Awn h1.1 AGp (λi j hi hj=>Nat.le_trans (hb i j hi hj) AGr) AGp) λx hx=>?_;subst hx;refine AG4 (AUn<|Apt h1.2 (Nat.le_refl _) (λi j hi hj=>Nat.le_trans (hb i j hi hj)<|Nat.le_trans AGr<|Ayh _) AGp) λy hy=>?_;subst hy;refine AG4 (AUn (a:=(det n F,true))<|if_pos AGp) λz hz=>AGy ?_;rw [hz]
theorem BDs (Ab:1<=d) (hd:d<=10000) (hp:2<=p) (h:Awo d p v):0<=v/\v<=13:=by
 obtain ⟨k,r,rfl,h1,h2⟩:=h
 have hr:0 < r:=by
  have hpk:0 < p ^ k:=Int.pow_pos AGp
  rcases Int.lt_or_le 0 r with h | h
  ·exact h
  ·have:=Int.mul_nonpos_of_nonpos_of_nonneg h<|Int.le_of_lt hpk;omega
 have:=Aog hp hr hd h1;omega
theorem Aqv (R:Arh M) (hp:Pr p) (hp2:p<=9973) (hf:100 < fuel):∃ v,Awo (det M.length<|ent M) p v/\(0<=v/\v<=13)/\AZo fuel M p=some (if p=2 then v + 3 else v + 1)/\Ag9 fuel M p=some (if p=2 then v + 3 else v + 1):=by
 obtain ⟨v1,v2⟩:=Ap0 R;obtain ⟨⟨v,r0,e0⟩,hv1,hv⟩:=BDr v1 v2 hp hp2 hf;dsimp only at hv;have hvb:=BDs v1 v2 hp.1 hv
 refine ⟨v,hv,hvb,?_,?_⟩
 ·apply ok_eq;have hT:=Atk R;have h1:=R.1;have RF:=R.2.2;unfold AZo;generalize hF:ent M=F at *
  generalize hL:M.length=n at *
  have hb:∀ i j,i < n->j < n->(F i j).natAbs<=192000:=λi j hi hj=>by subst hF;subst hL;exact A2p R hi hj
  rw [hT];refine AG4 (AUn<|BAr h1.1 AGp (λi j hi hj=>Nat.le_trans (hb i j hi hj) AGr) hf) λx hx=>?_;subst hx;dsimp only
  refine AG4 (Q:=(· =(det n F,true))) ?_ λy hy=>?_
  ·unfold Ai3;refine AG4 (AUn (Ay6 h1.1 AGp hf).2) λx hx=>?_;subst hx;dsimp only;exact AT2 (λh=>nomatch h) λ_=>AT2 (λh=>absurd rfl h) λ_=>AG4 (AUn<|BDp h1.1 h1.2 RF hf) λz hz=>AGy (by rw [hz])
  ·subst hy;dsimp only;refine AG4 (AUn hv1) λz hz=>?_;subst hz;dsimp only
   refine AT2 (λh=>AGy ?_) λh=>AGy ?_
   ·rw [if_pos h,wk AGp]
   ·rw [if_neg h,wk AGp]
 ·apply ok_eq;unfold Ag9;refine AG4 (AUn<|A4b R hf) λd hd=>?_;subst hd;refine AG4 (BDq v1 v2 hp.1 hp2 hf) λw hw=>?_;obtain rfl:=Awp hp.1 hv hw
  refine AT2 (λh=>AGy ?_) λh=>AGy ?_
  ·rw [if_pos h,wk AGp]
  ·rw [if_neg h,wk AGp]
end Go.Proofs.YtkakafabeobahaaGreatDoor
namespace Go.Proofs.YtkakafabeobahaaGreatDoor
open Go Go.QF
set_option maxRecDepth 100000
set_option maxHeartbeats 40000000
def Aeg (fuel:Nat) (a3:LiI) (Ab:Int):Option (Int ⊕ (Bool ⊕ Unit)):=
 if Ab < (a3.length:Int) then (gI a3 Ab).bind λAc=>(gI a3 0).bind λAd=>if ¬ (Ac.length:Int)=(Ad.length:Int) then some (.inr<|.inl false) else some (.inl<|w64<|Ab + 1) else some<|.inr<|.inr ()
def AYd (fuel:Nat) (a3:LiI):Option Bool:=
 ((if (a3.length:Int) < 1 then some (.inl false) else if 16 < (a3.length:Int) then some (.inl false) else (gI a3 0).bind λAb=>if (Ab.length:Int) < 1 then some (.inl false) else if 16 < (Ab.length:Int) then some (.inl false) else some<|.inr ()):Option (Bool ⊕ Unit)).bind (λex=>match ex with | .inl Ac=>(some Ac) | .inr _=>(iter (λs=>Aeg fuel a3 s) fuel 0).bind (λex=>match ex with | .inl Ad=>(some Ad) | .inr _=>some true))
theorem Aeh (H2:AX8 (cI .i64) h Ao a3) (hp:AYd fuel a3=some r):AT3 Tryz.prog 98 #[Ao] h (λx h'=>Ext h h'/\x= .bool r):=by
 unfold AYd at hp;refine cwf (l:=[_]) Tryz.func98 rfl rfl (AGt<|AG1 ?_);have K0:=Kst.k0 h;obtain ⟨Az,Ap,Ac⟩:=AGu hp;refine Ae6 134217700 (λx:Unit=>[]) (λx h'=>(Sum.inr <| ())=Az/\Kst h h' (K0.L)) ?_ ?_
 ·refine AGt<|AGq<|AUb ATg rfl H2 (ATz rfl rfl (AGq ?_));by_cases Af:(a3.length:Int) < 1
  ·rw [decide_eq_true Af];refine Acj 8 true<|ATn rfl (AGq<|AY4 13 true<|ATn rfl (AGq<|AY4 20 true<|ATn rfl (AGw<|ATv rfl (AGt<|AG1 ?_))));obtain rfl:=AGs<|ifT Ap Af;refine AG6<|ATj ?_;obtain rfl:=AGs Ac;exact ⟨_,AS9,K0.x,rfl⟩
  ·have Aq:=ifF Ap Af;rw [decide_eq_false Af];refine ATt 8 false<|AGq<|ATt 8 false<|AUb ATg rfl H2 (ATt 8 false<|AZv rfl rfl (ATx rfl (AGq ?_)));by_cases Ag:16 < (a3.length:Int)
   ·rw [decide_eq_true Ag];refine AY4 13 true<|ATn rfl (AGq<|AY4 20 true<|ATn rfl (AGw<|ATv rfl (AGt<|AG1 ?_)));obtain rfl:=AGs<|ifT Aq Ag;refine AG6<|ATj ?_;obtain rfl:=AGs Ac;exact ⟨_,AS9,K0.x,rfl⟩
   ·rw [decide_eq_false Ag];refine ATt 13 false<|AGq<|ATt 13 false ?_;obtain ⟨A3,Ar,Au⟩:=AGu<|ifF Aq Ag;refine Anh ATg rfl H2 rfl Ar λBf Bg Bh A4 A5=>ATt 13 false<|AT1 ATq rfl (ATw A4 K0.x) (ATt 13 false<|AUu ATe rfl A5 (ATt 13 false<|ATz rfl rfl (ATx rfl (AGq ?_))));by_cases Ah:(A3.length:Int) < 1
    ·rw [decide_eq_true Ah];refine AY4 20 true<|ATn rfl (AGw<|ATv rfl (AGt<|AG1 ?_));obtain rfl:=AGs<|ifT Au Ah;refine AG6<|ATj ?_;obtain rfl:=AGs Ac;exact ⟨_,AS9,K0.x,rfl⟩
    ·have Av:=ifF Au Ah;rw [decide_eq_false Ah];refine ATt 20 false<|AGq<|ATt 20 false<|Anh ATg rfl H2 rfl Ar λBi Bj Bl A6 A7=>ATt 20 false<|AT1 ATq rfl (ATw A6 K0.x) (ATt 20 false<|AUu ATe rfl A7 (ATt 20 false<|AZv rfl rfl (ATx rfl (AGw<|⟨_,rfl,λAi=>?_,λAi=>?_⟩))))
     ·refine AGt<|AG1 ?_;obtain rfl:=AGs<|AT9 Av Ai;refine AG6<|ATj ?_;obtain rfl:=AGs Ac;exact ⟨_,AS9,K0.x,rfl⟩
     ·refine AG5<|q_t ?_;exact ⟨(():Unit),⟨AGs<|AUa Av Ai,K0⟩,trivial⟩
 rintro ⟨⟩ Bm Bn ⟨A8,Aw⟩;subst A8;refine AGv<|AGt<|AGq<|AUb ATg rfl H2 (AGq<|AGw<|AGx<|AZp 2198486384660 Ac (λx=>[(29,(.int .i64 x))]) (λx=>Aw.L) Aw ⟨rfl,trivial⟩ ?_);rintro Bo Bp Bq Br Ad Aj Ax;unfold Aeg at Aj;refine AGt<|ATz rfl rfl (AGw<|AGv<|⟨_,rfl,λAk=>?_,λAk=>?_⟩)
 ·refine AG5<|q_t<|AGv<|AGx<|AGt ?_;obtain ⟨Bt,A9,Ba⟩:=AGu<|AT9 Aj Ak;refine Ad3 ATg ATq H2 Ad.x A9 λ_ Bu Bb=>AT7<|AGq<|AUu ATe rfl Bb (AGq ?_);obtain ⟨Bv,Bc,Ay⟩:=AGu Ba;refine Ad3 ATg ATq H2 Ad.x Bc λ_ Bw Be=>AUu ATe rfl Be (AV2 rfl rfl (AGw<|⟨_,rfl,λAm=>?_,λAm=>?_⟩))
  ·refine AGt<|AG1<|AG6<|AUp<|ATj<|ATj<|AUp<|ATj ?_;obtain rfl:=AGs<|Ax _ (AGs<|AT9 Ay Am).symm;exact ⟨_,AS9,Ad.x,rfl⟩
  ·refine AG5<|q_b<|q_t<|ATc<|ATp rfl rfl (AGq<|AGw ?_);exact ⟨_,(AGs<|AUa Ay Am).symm,Ad,rfl,trivial⟩
 ·refine ATk<|ATl<|ATl<|AUi<|q_t<|AGt<|AG1<|AG6 ?_;obtain rfl:=AGs<|Ax _ (AGs<|AUa Aj Ak).symm;exact ⟨_,AS9,Ad.x,rfl⟩
def Aag (fuel:Nat) (a3:LiI):Option Bool:=
 (AYd fuel a3).bind λx5=>if x5=true then (gI a3 0).bind λAc=>if (a3.length:Int)=(Ac.length:Int) then some (decide ((a3.length:Int)<=8)) else some false else some false
theorem Ajs {Ae:Value} (H2:AX8 (cI .i64) h Ae a3) (hp:Aag fuel a3=some r):AT3 Tryz.prog 137 #[Ae] h (λx h'=>Ext h h'/\x= .bool r):=by
 unfold Aag at hp;refine cwf (l:=[_]) Tryz.func137 rfl rfl (AGt<|AT7<|AGq ?_);have K0:=Kst.k0 h;obtain ⟨x5,Ak,Ag⟩:=AGu hp;refine AYn K0 (Aeh (H2.ext K0.x) Ak) λh9 E8 Ab=>AGq ?_;cases Ah:x5
 ·refine AY4 5 false<|Ab3 5 false<|ATx rfl (AGq<|Acj 14 false<|ATx rfl (AG1<|AG6 ?_));obtain rfl:=AGs<|Abh Ag Ah;exact ⟨_,AS9,Ab.x,rfl⟩
 ·refine ATt 5 true<|AGq<|ATt 5 true<|AUb ATg rfl H2 (ATt 5 true<|AGq<|ATt 5 true ?_);obtain ⟨Am,Ao,Ai⟩:=AGu<|ifT Ag Ah;refine Anh ATg rfl H2 rfl Ao λAv Aw Ax Ap Aq=>ATt 5 true<|AT1 ATq rfl (ATw Ap Ab.x) (ATt 5 true<|AUu ATe rfl Aq (ATt 5 true<|AWe rfl rfl (ATn rfl (AGq ?_))));by_cases Ac:(a3.length:Int)=(Am.length:Int)
  ·rw [decide_eq_true Ac];refine ATt 14 true<|AGq<|ATt 14 true<|AUb ATg rfl H2 (ATt 14 true<|Ast rfl rfl (ATn rfl (AG1<|AG6 ?_)));obtain rfl:=AGs<|ifT Ai Ac;exact ⟨_,AS9,Ab.x,rfl⟩
  ·rw [decide_eq_false Ac];refine Acj 14 false<|ATx rfl (AG1<|AG6 ?_);obtain rfl:=AGs<|ifF Ai Ac;exact ⟨_,AS9,Ab.x,rfl⟩
def AVr (fuel:Nat) (a1:Int):Option Int:=
 if a1 < 2 then some 1 else if 2147483647 < a1 then some 1 else some 0
theorem AY7 {r:Int} (hp:AVr fuel a1=some r):AT3 Tryz.prog 99 #[(.int .i64 a1)] h (λx h'=>Ext h h'/\x= .int .i64 r):=by
 unfold AVr at hp;refine cwf (l:=[_]) Tryz.func99 rfl rfl (AGt<|AG1<|AGv<|AGt<|AGq<|ATz rfl rfl (AGq ?_));have K0:=Kst.k0 h;by_cases Aa:a1 < 2
 ·rw [decide_eq_true Aa];refine Ab3 5 true<|ATn rfl (AGw<|ATv rfl (AGt<|AG1<|AG6<|ATj ?_));obtain rfl:=AGs<|ifT hp Aa;exact ⟨_,AS9,K0.x,rfl⟩
 ·have Ae:=ifF hp Aa;rw [decide_eq_false Aa];refine ATt 5 false<|AGq<|ATt 5 false<|AZv rfl rfl (ATx rfl (AGw<|⟨_,rfl,λAd=>?_,λAd=>?_⟩))
  ·refine AGt<|AG1<|AG6<|ATj ?_;obtain rfl:=AGs<|AT9 Ae Ad;exact ⟨_,AS9,K0.x,rfl⟩
  ·refine AG5<|q_t<|AGt<|AG1<|AG6 ?_;obtain rfl:=AGs<|AUa Ae Ad;exact ⟨_,AS9,K0.x,rfl⟩
def Abx (fuel:Nat) (a5 Ad:Int) (Ae:LiA) (Ab:Int) (Ac:LiI):Option ((Int × LiI) ⊕ LiI):=
 if Ab < (Ae.length:Int) then (gI Ae Ab).bind λAg=>(gI Ac Ad).bind λAf=>if a5≠0 then if a5≠0 then (gI Af Ab).bind λAh=>some (.inl (w64<|Ab + 1,sI Ac Ad<|sI Af Ab<|Int.tmod (w64<|Int.tmod Ag a5 + a5) a5)) else none else none else some<|.inr Ac
def Aby (fuel:Nat) (a3:LiI) (a5 Aa:Int) (Ac:LiI):Option ((Int × LiI) ⊕ LiI):=
 if Aa < (a3.length:Int) then (gI a3 Aa).bind λAb=>if 0<=(Ab.length:Int)/\(Ab.length:Int)<=100000000 then (gI Ac Aa).bind λAg=>(iter (λs=>Abx fuel a5 Aa Ab s.1 s.2) fuel (0,sI Ac Aa<|List.replicate (Int.toNat (Ab.length:Int)) (0:Int))).bind (λ(Af:LiI)=>some<|.inl (w64<|Aa + 1,Af)) else none else some<|.inr Ac
def AVw (fuel:Nat) (a3:LiI) (a5:Int):Option LiI:=
 if 0<=(a3.length:Int)/\(a3.length:Int)<=100000000 then (iter (λs=>Aby fuel a3 a5 s.1 s.2) fuel (0,List.replicate (Int.toNat (a3.length:Int)) ([]:List Int))).bind (λ(Ac:LiI)=>some Ac) else none
theorem AZd {r:LiI} (H2:AX8 (cI .i64) h Ao a3) (hp:AVw fuel a3 a5=some r):AT3 Tryz.prog 100 #[Ao,(.int .i64 a5)] h (λx h'=>Ext h h'/\ ∃ (x0:Value) (F0:List Nat) (A3:List LnA) (A4:List Value),x=x0/\AV3 (cI .i64) 61 2 h' F0 A3 A4 x0 r/\Sp h' h.size [F0]):=by
 unfold AVw at hp;refine cwf (l:=[_,_]) Tryz.func100 rfl rfl (AGt<|AT7<|AGq<|AUb ATg rfl H2 ?_);obtain ⟨A5,A6⟩:=ifN hp;refine Ajk (cI .i64) 2 ATg Ae8 rfl trivial tt2 rfl rfl AGr A5 λA7 A8 A9 Au Cf Ba E8 S9=>AG1<|AGv<|AGt<|AGq<|AUb ATg rfl H2 (AGq<|AGw<|AGx ?_);have Av:=(Kst.k0 h).no2 E8 S9 Ba;refine AYo 281474976678848 (λx:(Int) × (LiI) × LnA × LnN × LvA=>(x.1,x.2.1)) ((0,(List.replicate (Int.toNat (a3.length:Int)) ([]:List Int)),A7,A8,A9):(Int) × (LiI) × LnA × LnN × LvA) A6 (λx=>[(15,(.int .i64 x.1))]) (λx=>Av.L.set 0<|aO2 (cI .i64) 61 2 x.2.2.1 x.2.2.2.1 x.2.2.2.2 Au x.2.1) Av ⟨rfl,trivial⟩ ?_;rintro ⟨Aa,Be,Cg,Aw,Bf⟩ Ch Ci Cj Ab Ag Bg;unfold Aby at Ag;refine AGt<|ATz rfl rfl (AGw<|AGv<|⟨_,rfl,λAh=>?_,λAh=>?_⟩)
 ·refine AG5<|q_t<|AGv<|AGx<|AGt<|AGq ?_;obtain ⟨Bh,Bi,Bj⟩:=AGu<|AT9 Ag Ah;refine Ad3 ATg ATq H2 Ab.x Bi λ_ Ck Ai=>ATu<|AT7<|AGq<|AGq<|AGq<|AUu ATe rfl Ai ?_;obtain ⟨Bl,Bm⟩:=ifN Bj;refine Aip (c:=(cI .i64)) (a:=0) ATe Acs rfl rfl (λ_=>rfl) rfl trivial tt2 rfl rfl AGr Bl λAx Bn Cm Bo Bp Bq Br=>?_;have Ac:=Ab.no Bp (AX4 Bq Br) Bo;obtain ⟨Cn,Ay,Bt⟩:=AGu Bm;refine AUy ATg rfl (Ac.o2 p1) rfl Ay λBu Co Bv Cp Cq=>Ajj ATq (Ac.o2 p1) Ay Bv rfl rfl (Ac.o p0) (Ac.dj p0 p1 AGr) λCr Bw Bx By=>AZ4<|AGq<|AUu ATe rfl Ai (AGq<|AGw<|AGx ?_);have Aj:=(Ac.m2 p0 p1 AGr Bx Bw λz hz=> .inl<|By z hz).sel [1] AGr;dsimp only [AY6,Acl] at Aj;refine AYo 140737219920640 (λx:(Int) × (LiI) × LnA × LnN × LvA=>(x.1,x.2.1)) ((0,(sI Be Aa<|List.replicate (Int.toNat (Bh.length:Int)) (0:Int)),(Bu :: (Aw.set (Int.toNat Aa) [Ax]).flatten),(Aw.set (Int.toNat Aa) [Ax]),(Bf.set (Int.toNat Aa) Bn)):(Int) × (LiI) × LnA × LnN × LvA) Bt (λx=>[(28,(.int .i64 x.1))]) (λx=>Aj.L.set 0<|aO2 (cI .i64) 61 2 x.2.2.1 x.2.2.2.1 x.2.2.2.2 Au x.2.1) Aj ⟨rfl,trivial⟩ ?_;rintro ⟨Ct,Cu,Cv,Cw,Cx⟩ Cy Cz C0 Ad Ak Bz;unfold Abx at Ak;refine AGt<|ATz rfl rfl (AGw<|AGv<|⟨_,rfl,λAm=>?_,λAm=>?_⟩)
  ·refine AG5<|q_t<|AGv<|AGx<|AGt<|AGq ?_;obtain ⟨C1,B3,B4⟩:=AGu<|AT9 Ak Am;refine Asy ATe ATh Ai Ad.x B3 λ_=>(ATu<|AG1<|AWg<|AGq<|AGq ?_);obtain ⟨C2,Az,B5⟩:=AGu B4;refine AUs ATg ATq (Ad.o2 p0) Az λ_ C3 B6=>AGq<|AGq<|AGq ?_;obtain ⟨B7,B8⟩:=ifN B5;refine Aft rfl rfl B7 (AGq<|ATp rfl rfl (AGq ?_));obtain ⟨B9,Ca⟩:=ifN B8;refine Aft rfl rfl B9 ?_;obtain ⟨C4,Cb,Cd⟩:=AGu Ca;refine AZ7 (m:=Aa) Ad p0 ATe ATh B6 Az Cb (λ_=>rfl) λ_ C5 Ce=>ATr<|q_b<|q_t<|ATc<|ATp rfl rfl (AGq<|AGw ?_);exact ⟨(_,_,_,_,_),(AGs Cd).symm,Ce,rfl,trivial⟩
  ·refine ATk<|ATl<|ATl<|AUi<|q_b<|q_t<|ATc<|ATp rfl rfl (AGq<|AGw ?_);exact ⟨(_,_,_,_,_),(AGs<|Bz _ (AGs<|AUa Ak Am).symm).symm,Ad,rfl,trivial⟩
 ·refine ATk<|ATl<|ATl<|AUi<|q_t<|AGt<|AGq<|AG1<|AG6 ?_;obtain rfl:=AGs<|Bg _ (AGs<|AUa Ag Ah).symm;exact ⟨_,AS9,Ab.x,_,_,_,_,rfl,(Ab.o2 p0),Ab.s.sel [0] AGr⟩
def Ahc (fuel:Nat) (a3:LiI) (Ab Aa:Int) (Ac:LiI):Option ((Int × LiI) ⊕ LiI):=
 if Aa < (a3.length:Int) then (gI a3 Aa).bind λAf=>(gI Ac Ab).bind λAe=>(gI Af Ab).bind λAg=>(gI Ae Aa).bind λAh=>some (.inl (w64<|Aa + 1,sI Ac Ab<|sI Ae Aa Ag)) else some<|.inr Ac
def Ahd (fuel:Nat) (a3:LiI) (x5:LiA) (Aa:Int) (Ac:LiI):Option ((Int × LiI) ⊕ LiI):=
 if Aa < ((List.replicate (Int.toNat (x5.length:Int)) ([]:List Int)).length:Int) then if 0<=(a3.length:Int)/\(a3.length:Int)<=100000000 then (gI Ac Aa).bind λAf=>(iter (λs=>Ahc fuel a3 Aa s.1 s.2) fuel (0,sI Ac Aa<|List.replicate (Int.toNat (a3.length:Int)) (0:Int))).bind (λ(Ae:LiI)=>some<|.inl (w64<|Aa + 1,Ae)) else none else some<|.inr Ac
def Af4 (fuel:Nat) (a3:LiI):Option LiI:=
 (gI a3 0).bind λx5=>if 0<=(x5.length:Int)/\(x5.length:Int)<=100000000 then (iter (λs=>Ahd fuel a3 x5 s.1 s.2) fuel (0,List.replicate (Int.toNat (x5.length:Int)) ([]:List Int))).bind (λ(Ac:LiI)=>some Ac) else none
theorem Amn {r:LiI} (H2:AX8 (cI .i64) h Ao a3) (hp:Af4 fuel a3=some r):AT3 Tryz.prog 140 #[Ao] h (λx h'=>Ext h h'/\ ∃ (x0:Value) (F0:List Nat) (Az:List LnA) (A3:List Value),x=x0/\AV3 (cI .i64) 61 2 h' F0 Az A3 x0 r/\Sp h' h.size [F0]):=by
 unfold Af4 at hp;refine cwf (l:=[_]) Tryz.func140 rfl rfl (AGt<|AT7<|AGq ?_);have K0:=Kst.k0 h;obtain ⟨x5,A5,A6⟩:=AGu hp;refine Ad3 ATg ATq H2 K0.x A5 λ_ r8 H9=>AUu ATe rfl H9 ?_;obtain ⟨A8,A9⟩:=ifN A6;refine Ajk (cI .i64) 2 ATg Ae8 rfl trivial tt2 rfl rfl AGr A8 λBa Bb Bc Au Cf Be Bf Bg=>AG1<|AGv<|AGt<|AGq ?_;have Ag:=K0.no2 Bf Bg Be;refine AUb ATg rfl (Ag.o2 p0).rd (AGq<|AGw<|AGx<|AYo 4398046494832 (λx:(Int) × (LiI) × LnA × LnN × LvA=>(x.1,x.2.1)) ((0,(List.replicate (Int.toNat (x5.length:Int)) ([]:List Int)),Ba,Bb,Bc):(Int) × (LiI) × LnA × LnN × LvA) A9 (λx=>[(14,(.int .i64 x.1))]) (λx=>Ag.L.set 0<|aO2 (cI .i64) 61 2 x.2.2.1 x.2.2.2.1 x.2.2.2.2 Au x.2.1) Ag ⟨rfl,trivial⟩ ?_);rintro ⟨Aa,Bh,Cg,Av,Bi⟩ Ch Ci Cj Ae Ah Bj;unfold Ahd at Ah;refine AGt<|ATz rfl rfl (AGw<|AGv<|⟨_,rfl,λAi=>?_,λAi=>?_⟩)
 ·refine AG5<|q_t<|AGv<|AGx<|AGt<|AGq<|AT7<|AGq<|AGq<|AGq<|AUb ATg rfl H2 ?_;obtain ⟨Bl,Bm⟩:=ifN<|AT9 Ah Ai;refine Aip (c:=(cI .i64)) (a:=0) ATe Acs rfl rfl (λ_=>rfl) rfl trivial tt2 rfl rfl AGr Bl λAw Bn Ck Bo Bp Bq Br=>?_;have Ab:=Ae.no Bp (AX4 Bq Br) Bo;obtain ⟨Cm,Ax,Bt⟩:=AGu Bm;refine AUy ATg rfl (Ab.o2 p1) rfl Ax λBu Cn Bv Co Cp=>Ajj ATq (Ab.o2 p1) Ax Bv rfl rfl (Ab.o p0) (Ab.dj p0 p1 AGr) λCq Bw Bx By=>AZ4<|AGq<|AUb ATg rfl H2 (AGq<|AGw<|AGx ?_);have Aj:=(Ab.m2 p0 p1 AGr Bx Bw λz hz=> .inl<|By z hz).sel [1] AGr;dsimp only [AY6,Acl] at Aj;refine AYo 2198989701216 (λx:(Int) × (LiI) × LnA × LnN × LvA=>(x.1,x.2.1)) ((0,(sI Bh Aa<|List.replicate (Int.toNat (a3.length:Int)) (0:Int)),(Bu :: (Av.set (Int.toNat Aa) [Aw]).flatten),(Av.set (Int.toNat Aa) [Aw]),(Bi.set (Int.toNat Aa) Bn)):(Int) × (LiI) × LnA × LnN × LvA) Bt (λx=>[(25,(.int .i64 x.1))]) (λx=>Aj.L.set 0<|aO2 (cI .i64) 61 2 x.2.2.1 x.2.2.2.1 x.2.2.2.2 Au x.2.1) Aj ⟨rfl,trivial⟩ ?_;rintro ⟨Cr,Ct,Cu,Cv,Cw⟩ Cx Cy Cz Ac Ak Bz;unfold Ahc at Ak;refine AGt<|ATz rfl rfl (AGw<|AGv<|⟨_,rfl,λAm=>?_,λAm=>?_⟩)
  ·refine AG5<|q_t<|AGv<|AGx<|AGt<|AGq ?_;obtain ⟨C0,B3,B4⟩:=AGu<|AT9 Ak Am;refine Ad3 ATg ATq H2 Ac.x B3 λ_ C1 B5=>ATu<|AG1<|AWg<|AGq<|AGq ?_;obtain ⟨C2,Ay,B6⟩:=AGu B4;refine AUs ATg ATq (Ac.o2 p0) Ay λ_ C3 B7=>AGq<|AGq<|AGq ?_;obtain ⟨C4,B8,B9⟩:=AGu B6;refine Asy ATe ATh B5 Ac.x B8 λ_=>?_;obtain ⟨C5,Ca,Cb⟩:=AGu B9;refine AZ7 (m:=Aa) Ac p0 ATe ATh B7 Ay Ca (λ_=>rfl) λ_ C6 Cd=>ATr<|q_b<|q_t<|ATc<|ATp rfl rfl (AGq<|AGw ?_);exact ⟨(_,_,_,_,_),(AGs Cb).symm,Cd,rfl,trivial⟩
  ·refine ATk<|ATl<|ATl<|AUi<|q_b<|q_t<|ATc<|ATp rfl rfl (AGq<|AGw ?_);exact ⟨(_,_,_,_,_),(AGs<|Bz _ (AGs<|AUa Ak Am).symm).symm,Ac,rfl,trivial⟩
 ·refine ATk<|ATl<|ATl<|AUi<|q_t<|AGt<|AGq<|AG1<|AG6 ?_;obtain rfl:=AGs<|Bj _ (AGs<|AUa Ah Ai).symm;exact ⟨_,AS9,Ae.x,_,_,_,_,rfl,(Ae.o2 p0),Ae.s.sel [0] AGr⟩
def Aif (fuel:Nat) (a9 Ad Ag:Int) (Ae:LiA) (Aa:Int) (Ab:LiI):Option ((Int × LiI) ⊕ LiI):=
 if Aa < (Ae.length:Int) then (gI Ae Aa).bind λAh=>(gI Ab Ad).bind λAf=>(gI Af Aa).bind λAi=>if a9≠0 then some (.inl (w64<|Aa + 1,sI Ab Ad<|sI Af Aa<|Int.tmod (w64<|Ai + w64 (Ag * Ah)) a9)) else none else some<|.inr Ab
def Aig (fuel:Nat) (a7:LiI) (a9 Af:Int) (Ab:LiA) (Aa:Int) (Ac:LiI):Option ((Int × LiI) ⊕ LiI):=
 if Aa < (Ab.length:Int) then (gI Ab Aa).bind λAg=>(gI a7 Aa).bind λAh=>(iter (λs=>Aif fuel a9 Af Ag Ah s.1 s.2) fuel (0,Ac)).bind (λ(Ai:LiI)=>some<|.inl (w64<|Aa + 1,Ai)) else some<|.inr Ac
def Aih (fuel:Nat) (a3 a7:LiI) (a9 Aa:Int) (Ab:LiI):Option ((Int × LiI) ⊕ LiI):=
 if Aa < (a3.length:Int) then (gI a3 Aa).bind λAg=>(gI a7 0).bind λAc=>if 0<=(Ac.length:Int)/\(Ac.length:Int)<=100000000 then (gI Ab Aa).bind λAi=>(iter (λs=>Aig fuel a7 a9 Aa Ag s.1 s.2) fuel (0,sI Ab Aa<|List.replicate (Int.toNat (Ac.length:Int)) (0:Int))).bind (λ(Ah:LiI)=>some<|.inl (w64<|Aa + 1,Ah)) else none else some<|.inr Ab
def Ae2 (fuel:Nat) (a3 a7:LiI) (a9:Int):Option LiI:=
 if 0<=(a3.length:Int)/\(a3.length:Int)<=100000000 then (iter (λs=>Aih fuel a3 a7 a9 s.1 s.2) fuel (0,List.replicate (Int.toNat (a3.length:Int)) ([]:List Int))).bind (λ(Ad:LiI)=>some Ad) else none
theorem Aii {Au:Value} {Av:Value} {a7:LiI} {a9:Int} {r:LiI} (H2:AX8 (cI .i64) h Au a3) (H6:AX8 (cI .i64) h Av a7) (hp:Ae2 fuel a3 a7 a9=some r):AT3 Tryz.prog 139 #[Au,Av,(.int .i64 a9)] h (λx h'=>Ext h h'/\ ∃ (x0:Value) (F0:List Nat) (Bb:List LnA) (Bc:List Value),x=x0/\AV3 (cI .i64) 61 2 h' F0 Bb Bc x0 r/\Sp h' h.size [F0]):=by
 unfold Ae2 at hp;refine cwf (l:=[_,_,_]) Tryz.func139 rfl rfl (AGt<|AT7<|AGq<|AUb ATg rfl H2 ?_);obtain ⟨Be,Bf⟩:=ifN hp;refine Ajk (cI .i64) 2 ATg Ae8 rfl trivial tt2 rfl rfl AGr Be λBg Bh Bi Ai Cz Bj Bl Bm=>AG1<|AGv<|AGt<|AGq<|AUb ATg rfl H2 (AGq<|AGw<|AGx ?_);have A4:=(Kst.k0 h).no2 Bl Bm Bj;refine AYo 2361183241434822098688 (λx:(Int) × (LiI) × LnA × LnN × LvA=>(x.1,x.2.1)) ((0,(List.replicate (Int.toNat (a3.length:Int)) ([]:List Int)),Bg,Bh,Bi):(Int) × (LiI) × LnA × LnN × LvA) Bf (λx=>[(19,(.int .i64 x.1))]) (λx=>A4.L.set 0<|aO2 (cI .i64) 61 2 x.2.2.1 x.2.2.2.1 x.2.2.2.2 Ai x.2.1) A4 ⟨rfl,trivial⟩ ?_;rintro ⟨Aa,Bn,C0,A5,Bo⟩ C1 C2 C3 Ab Aj Bp;unfold Aih at Aj;refine AGt<|ATz rfl rfl (AGw<|AGv<|⟨_,rfl,λAk=>?_,λAk=>?_⟩)
 ·refine AG5<|q_t<|AGv<|AGx<|AGt<|AGq ?_;obtain ⟨C4,Bq,Br⟩:=AGu<|AT9 Aj Ak;refine Ad3 ATg ATq H2 Ab.x Bq λ_ C5 A6=>ATu<|AT7<|AGq<|AGq<|AGq ?_;obtain ⟨Bt,Bu,Bv⟩:=AGu Br;refine Ad3 ATg ATq H6 Ab.x Bu λ_ C6 Bw=>AUu ATe rfl Bw ?_;obtain ⟨Bx,By⟩:=ifN Bv;refine Aip (c:=(cI .i64)) (a:=0) ATe Acs rfl rfl (λ_=>rfl) rfl trivial tt2 rfl rfl AGr Bx λA7 Bz C7 B3 B4 B5 B6=>?_;have Ad:=Ab.no B4 (AX4 B5 B6) B3;obtain ⟨C8,A8,B7⟩:=AGu By;refine AUy ATg rfl (Ad.o2 p1) rfl A8 λB8 C9 B9 Da Db=>Ajj ATq (Ad.o2 p1) A8 B9 rfl rfl (Ad.o p0) (Ad.dj p0 p1 AGr) λDc Ca Cb Cd=>AZ4<|AGq<|AUu ATe rfl A6 (AGq<|AGw<|AGx ?_);have Am:=(Ad.m2 p0 p1 AGr Cb Ca λz hz=> .inl<|Cd z hz).sel [1] AGr;dsimp only [AY6,Acl] at Am;refine AYo 1180591620700231449600 (λx:(Int) × (LiI) × LnA × LnN × LvA=>(x.1,x.2.1)) ((0,(sI Bn Aa<|List.replicate (Int.toNat (Bt.length:Int)) (0:Int)),(B8 :: (A5.set (Int.toNat Aa) [A7]).flatten),(A5.set (Int.toNat Aa) [A7]),(Bo.set (Int.toNat Aa) Bz)):(Int) × (LiI) × LnA × LnN × LvA) B7 (λx=>[(34,(.int .i64 x.1))]) (λx=>Am.L.set 0<|aO2 (cI .i64) 61 2 x.2.2.1 x.2.2.2.1 x.2.2.2.2 Ai x.2.1) Am ⟨rfl,trivial⟩ ?_;rintro ⟨Dd,Ce,Cf,Cg,Ch⟩ De Df Dg Ae Ao Ci;unfold Aig at Ao;refine AGt<|ATz rfl rfl (AGw<|AGv<|⟨_,rfl,λAp=>?_,λAp=>?_⟩)
  ·refine AG5<|q_t<|AGv<|AGx<|AGt<|AGq ?_;obtain ⟨Dh,Cj,Ck⟩:=AGu<|AT9 Ao Ap;refine Asy ATe ATh A6 Ae.x Cj λ_=>(ATu<|AT7<|AGq<|AGq ?_);obtain ⟨Di,Cm,Cn⟩:=AGu Ck;refine Ad3 ATg ATq H6 Ae.x Cm λ_ Dj A9=>AUu ATe rfl A9 (AGq<|AGw<|AGx<|AYo 590295792766519619584 (λx:(Int) × (LiI) × LnA × LnN × LvA=>(x.1,x.2.1)) ((0,Ce,Cf,Cg,Ch):(Int) × (LiI) × LnA × LnN × LvA) Cn (λx=>[(44,(.int .i64 x.1))]) (λx=>Ae.L.set 0<|aO2 (cI .i64) 61 2 x.2.2.1 x.2.2.2.1 x.2.2.2.2 Ai x.2.1) Ae ⟨rfl,trivial⟩ ?_);rintro ⟨Dk,Dl,Do,Dp,Dq⟩ Dr Ds Dt Ac Aq Co;unfold Aif at Aq;refine AGt<|ATz rfl rfl (AGw<|AGv<|⟨_,rfl,λAr=>?_,λAr=>?_⟩)
   ·refine AG5<|q_t<|AGv<|AGx<|AGt<|AGq ?_;obtain ⟨Du,Cp,Cq⟩:=AGu<|AT9 Aq Ar;refine Asy ATe ATh A9 Ac.x Cp λ_=>(ATu<|AG1<|AWg<|AGq<|AGq ?_);obtain ⟨Dv,Af,Cr⟩:=AGu Cq;refine AUs ATg ATq (Ac.o2 p0) Af λ_ Dw Ct=>AGq<|AGq<|AGq<|AUs ATg ATq (Ac.o2 p0) Af λ_ Dx Cu=>AGq ?_;obtain ⟨Dy,Ba,Cv⟩:=AGu Cr;refine AW5 (m:=Aa) ATe ATh (Ac.o2 p0) Cu Af Ba λ_=>(AGq<|AGq<|Aai rfl rfl (ATp rfl rfl (AGq ?_)));obtain ⟨Cw,Cx⟩:=ifN Cv;refine Aft rfl rfl Cw (AZ7 (m:=Aa) Ac p0 ATe ATh Ct Af Ba (λ_=>rfl) λ_ Dz Cy=>ATr<|q_b<|q_t<|ATc<|ATp rfl rfl (AGq<|AGw ?_));exact ⟨(_,_,_,_,_),(AGs Cx).symm,Cy,rfl,trivial⟩
   ·refine ATk<|ATl<|ATl<|AUi<|q_b<|q_t<|ATc<|ATp rfl rfl (AGq<|AGw ?_);exact ⟨(_,_,_,_,_),(AGs<|Co _ (AGs<|AUa Aq Ar).symm).symm,Ac,rfl,trivial⟩
  ·refine ATk<|ATl<|ATl<|AUi<|q_b<|q_t<|ATc<|ATp rfl rfl (AGq<|AGw ?_);exact ⟨(_,_,_,_,_),(AGs<|Ci _ (AGs<|AUa Ao Ap).symm).symm,Ae,rfl,trivial⟩
 ·refine ATk<|ATl<|ATl<|AUi<|q_t<|AGt<|AGq<|AG1<|AG6 ?_;obtain rfl:=AGs<|Bp _ (AGs<|AUa Aj Ak).symm;exact ⟨_,AS9,Ab.x,_,_,_,_,rfl,(Ab.o2 p0),Ab.s.sel [0] AGr⟩
def Abq (fuel:Nat) (a3:LiI) (a5:Int):Option (LiI × Int):=
 (AYd fuel a3).bind λx6=>if (!x6)=true then some ([],3) else (AVr fuel a5).bind λAc=>if ¬ Ac=0 then some ([],Ac) else (AVw fuel a3 a5).bind λAe=>some (Ae,0)
theorem Amz {Ag:Value} {r:(LiI × Int)} (H2:AX8 (cI .i64) h Ag a3) (hp:Abq fuel a3 a5=some r):AT3 Tryz.prog 53 #[Ag,(.int .i64 a5)] h (λx h'=>Ext h h'/\ ∃ (x0:Value) (F0:List Nat) (Au:List LnA) (Av:List Value),x= .tuple #[x0,.int .i64 r.2]/\AV3 (cI .i64) 61 2 h' F0 Au Av x0 r.1/\Sp h' h.size [F0]):=by
 unfold Abq at hp;refine cwf (l:=[_,_]) Tryz.func53 rfl rfl (AGt<|ATu<|AG1<|AGv<|AGt<|AGq ?_);have K0:=Kst.k0 h;obtain ⟨x6,Aw,Ap⟩:=AGu hp;refine AYn K0 (Aeh (H2.ext K0.x) Aw) λA4 E9 Aq=>AW0 rfl (AGw<|⟨_,rfl,λAa=>?_,λAa=>?_⟩)
 ·refine AGt<|ATu<|AG1<|AG6<|ATj ?_;have Ab:=Kst.anil2 (cI .i64) 61 2 Aq;obtain rfl:=AGs<|ifT Ap Aa;exact ⟨_,AU0,Ab.x,_,_,_,_,rfl,(Ab.o2 p0),Ab.s.sel [0] AGr⟩
 ·refine AG5<|q_t<|AGv<|AGt<|AGq ?_;obtain ⟨A6,Ax,Ar⟩:=AGu<|Abh Ap Aa;refine AYn Aq (AY7 Ax) λA7 A8 Ac=>AT7<|AGq<|AV2 rfl rfl (AGw<|⟨_,rfl,λAd=>?_,λAd=>?_⟩)
  ·refine AGt<|AGq<|ATu<|AG1<|AG6<|ATj ?_;have Ae:=Kst.anil2 (cI .i64) 61 2 Ac;obtain rfl:=AGs<|AT9 Ar Ad;exact ⟨_,AU0,Ae.x,_,_,_,_,rfl,(Ae.o2 p0),Ae.s.sel [0] AGr⟩
  ·refine AG5<|q_t<|AGt<|AGq<|AGq ?_;obtain ⟨A9,Ay,Az⟩:=AGu<|AUa Ar Ad;refine Ahr Ac (AZd (H2.ext Ac.x) Ay) λBa Bb Bc Be Bf Bg Af=>ATu<|AG1<|AG6 ?_;obtain rfl:=AGs Az;exact ⟨_,AU0,Af.x,_,_,_,_,rfl,(Af.o2 p0),Af.s.sel [0] AGr⟩
def Afl (fuel:Nat) (a3 a7:LiI) (a9:Int):Option (LiI × Int):=
 (((AYd fuel a3).bind λAf=>if (!Af)=true then some (.inl ([],3)) else (AYd fuel a7).bind λAg=>if (!Ag)=true then some (.inl ([],3)) else (gI a3 0).bind λAh=>if ¬ (a3.length:Int)=(Ah.length:Int) then some (.inl ([],3)) else if ¬ (a7.length:Int)=(a3.length:Int) then some (.inl ([],3)) else some<|.inr ()):Option ((LiI × Int) ⊕ Unit)).bind (λex=>match ex with | .inl Ai=>(some Ai) | .inr _=>(AVr fuel a9).bind λAd=>if ¬ Ad=0 then some ([],Ad) else (AVw fuel a7 a9).bind λAe=>(Af4 fuel Ae).bind λAj=>(AVw fuel a3 a9).bind λAk=>(Ae2 fuel Ak Ae a9).bind λAm=>(Ae2 fuel Aj Am a9).bind λAo=>some (Ao,0))
theorem Aln {Ax:Value} {Ay:Value} {a7:LiI} {a9:Int} {r:(LiI × Int)} (H2:AX8 (cI .i64) h Ax a3) (H6:AX8 (cI .i64) h Ay a7) (hp:Afl fuel a3 a7 a9=some r):AT3 Tryz.prog 86 #[Ax,Ay,(.int .i64 a9)] h (λx h'=>Ext h h'/\ ∃ (x0:Value) (F0:List Nat) (Bg:List LnA) (Bh:List Value),x= .tuple #[x0,.int .i64 r.2]/\AV3 (cI .i64) 61 2 h' F0 Bg Bh x0 r.1/\Sp h' h.size [F0]):=by
 unfold Afl at hp;refine cwf (l:=[_,_,_]) Tryz.func86 rfl rfl (AGt<|ATu<|AG1 ?_);have K0:=Kst.k0 h;obtain ⟨Bi,Bj,Ab⟩:=AGu hp;refine Ae6 17179868352 (λx:Unit=>[]) (λx h'=>(Sum.inr <| ())=Bi/\Kst h h' (K0.L)) ?_ ?_
 ·refine AGt<|AGq ?_;obtain ⟨Bl,Bm,A6⟩:=AGu Bj;refine AYn K0 (Aeh (H2.ext K0.x) Bm) λCa Cb Ah=>AW0 rfl (AGq ?_);cases A7:(!Bl)
  ·refine ATt 13 false<|AGq<|ATt 13 false ?_;obtain ⟨Bn,Bo,A8⟩:=AGu<|Abh A6 A7;refine AYn Ah (Aeh (H6.ext Ah.x) Bo) λCd Ce Ac=>ATt 13 false<|AW0 rfl (ATx rfl (AGq ?_));cases A9:(!Bn)
   ·refine ATt 18 false<|AGq<|ATt 18 false<|AUb ATg rfl H2 (ATt 18 false<|AGq<|ATt 18 false ?_);obtain ⟨Bp,Bq,Ba⟩:=AGu<|Abh A8 A9;refine Anh ATg rfl H2 rfl Bq λCf Cg Ch Br Bt=>ATt 18 false<|AT1 ATq rfl (ATw Br Ac.x) (ATt 18 false<|AUu ATe rfl Bt (ATt 18 false<|AV2 rfl rfl (ATx rfl (AGq ?_))));by_cases Ad: ¬ (a3.length:Int)=(Bp.length:Int)
    ·rw [decide_eq_true Ad];refine AY4 27 true<|ATn rfl (AGw<|ATv rfl (AGt<|ATu<|AG1 ?_));obtain rfl:=AGs<|ifT Ba Ad;refine AG6<|ATj ?_;have Ai:=Kst.anil2 (cI .i64) 61 2 Ac;obtain rfl:=AGs Ab;exact ⟨_,AU0,Ai.x,_,_,_,_,rfl,(Ai.o2 p0),Ai.s.sel [0] AGr⟩
    ·have Bb:=ifF Ba Ad;rw [decide_eq_false Ad];refine ATt 27 false<|AGq<|ATt 27 false<|AUb ATg rfl H6 (ATt 27 false<|AGq<|ATt 27 false<|AUb ATg rfl H2 (ATt 27 false<|AV2 rfl rfl (ATx rfl (AGw<|⟨_,rfl,λAj=>?_,λAj=>?_⟩))))
     ·refine AGt<|ATu<|AG1 ?_;obtain rfl:=AGs<|AT9 Bb Aj;refine AG6<|ATj ?_;have Ak:=Kst.anil2 (cI .i64) 61 2 Ac;obtain rfl:=AGs Ab;exact ⟨_,AU0,Ak.x,_,_,_,_,rfl,(Ak.o2 p0),Ak.s.sel [0] AGr⟩
     ·refine AG5<|q_t ?_;exact ⟨(():Unit),⟨AGs<|AUa Bb Aj,Ac⟩,trivial⟩
   ·refine AY4 18 true<|Ab3 18 true<|ATn rfl (AGq<|AY4 27 true<|ATn rfl (AGw<|ATv rfl (AGt<|ATu<|AG1 ?_)));obtain rfl:=AGs<|ifT A8 A9;refine AG6<|ATj ?_;have Am:=Kst.anil2 (cI .i64) 61 2 Ac;obtain rfl:=AGs Ab;exact ⟨_,AU0,Am.x,_,_,_,_,rfl,(Am.o2 p0),Am.s.sel [0] AGr⟩
  ·refine Acj 13 true<|ATn rfl (AGq<|AY4 18 true<|Ab3 18 true<|ATn rfl (AGq<|AY4 27 true<|ATn rfl (AGw<|ATv rfl (AGt<|ATu<|AG1 ?_))));obtain rfl:=AGs<|ifT A6 A7;refine AG6<|ATj ?_;have Ao:=Kst.anil2 (cI .i64) 61 2 Ah;obtain rfl:=AGs Ab;exact ⟨_,AU0,Ao.x,_,_,_,_,rfl,(Ao.o2 p0),Ao.s.sel [0] AGr⟩
 rintro ⟨⟩ Ci Cj ⟨Bu,Bv⟩;subst Bu;refine AGv<|AGt<|AGq ?_;obtain ⟨Ck,Bw,Bc⟩:=AGu Ab;refine AYn Bv (AY7 Bw) λCm Cn Ap=>AT7<|AGq<|AV2 rfl rfl (AGw<|⟨_,rfl,λAq=>?_,λAq=>?_⟩)
 ·refine AGt<|AGq<|ATu<|AG1<|AG6<|ATj ?_;have Ar:=Kst.anil2 (cI .i64) 61 2 Ap;obtain rfl:=AGs<|AT9 Bc Aq;exact ⟨_,AU0,Ar.x,_,_,_,_,rfl,(Ar.o2 p0),Ar.s.sel [0] AGr⟩
 ·refine AG5<|q_t<|AGt<|AGq<|AGq ?_;obtain ⟨Co,Bx,By⟩:=AGu<|AUa Bc Aq;refine Ahr Ap (AZd (H6.ext Ap.x) Bx) λCp Cq Cr Ct Cu Cv Be=>AT7<|AGq ?_;obtain ⟨Cw,Bz,B3⟩:=AGu By;refine Ahr Be (Amn (Be.o2 p0).rd Bz) λCx Cy Cz C0 C1 C2 Bf=>AGq<|AGq ?_;obtain ⟨C3,B4,B5⟩:=AGu B3;refine Ahr Bf (AZd (H2.ext Bf.x) B4) λC4 C5 C6 C7 C8 C9 Au=>AGq<|AGq ?_;obtain ⟨Da,B6,B7⟩:=AGu B5;refine Ahr Au (Aii (Au.o2 p0).rd (Au.o2 p2).rd B6) λDb Dc Dd De Df Dg Av=>AGq ?_;obtain ⟨Dh,B8,B9⟩:=AGu B7;refine Ahr Av (Aii (Av.o2 p2).rd (Av.o2 p0).rd B8) λDi Dj Dk Dl Do Dp Aw=>ATu<|AG1<|AG6 ?_;obtain rfl:=AGs B9;exact ⟨_,AU0,Aw.x,_,_,_,_,rfl,(Aw.o2 p0),Aw.s.sel [0] AGr⟩
end Go.Proofs.YtkakafabeobahaaGreatDoor
namespace Go.Proofs.YtkakafabeobahaaGreatDoor
open Go Go.QF
set_option maxRecDepth 100000
theorem AZs {α β:Type} {L:List α} {n:Nat} {x:α} {f:α->Option β} (hx:L[n]? =some x):(gI L (n:Int)).bind f=f x:=by
 unfold gI;grind
theorem Atl {α β:Type} {L:List α} {x:α} {f:α->Option β} (hx:L[0]? =some x):(gI L 0).bind f=f x:=AZs (n:=0) hx
theorem AW3 (h:i<=1000000000):w64 ((i:Int) + 1)=((i + 1:Nat):Int):=by rw [wk AGp];omega
theorem Atm {n r:Nat} {g':Nat->Int} (h:∀ c,c < n->g c=g' c):part n i (AU4 G r g)=part n i (AU4 G r g'):=by
 unfold part;refine AUq λk _=>?_;split
 ·refine AUq λc hc=>?_;by_cases hk:k=r
  ·subst hk;rw [AU8,AU8,h c hc]
  ·rw [AYq _ _ hk,AYq _ _ hk]
 ·rfl
theorem A7q {n:Nat} (h:∀ c,c < n->g c=F i c):part n (i + 1) (AU4 F i g)=part n (i + 1) F:=by
 rw [Atm h,Aht]
theorem BAs {n:Nat} (v:Nat->Int) (hf:n < fuel)
 (hs:∀ (j:Nat) (g:Nat->Int),j < n->g j=G i j->body ((j:Int),part n (i + 1)<|AU4 G i g)=some (.inl (((j + 1:Nat):Int),part n (i + 1)<|AU4 G i λc=>if c=j then v j else g c)))
 (he:∀ X,body ((n:Int),X)=some (.inr X)):iter body fuel (0,part n (i + 1) G)=some (part n (i + 1)<|AU4 G i v):=by
 apply ok_eq
 refine AUk (λj s=>s=((j:Int),part n (i + 1)<|AU4 G i λc=>if c < j then v c else G i c)) n ?_ hf λj s hj hI=>?_
 ·have:(λc=>if c < 0 then v c else G i c)=G i:=funext λc=>if_neg AGp;rw [this,Aht];rfl
 ·subst hI
  by_cases h:j < n
  ·rw [hs j _ h<|if_neg AGp];refine AGy ⟨h,?_⟩;refine congrArg (λz=>(((j + 1:Nat):Int),part n (i + 1)<|AU4 G i z))<|funext λc=>?_
   by_cases h1:c=j
   ·grind
   omega
  ·obtain rfl:j=n:=by omega
   rw [he];exact AGy<|Atm λc hc=>if_pos hc
theorem A7r {n:Nat} (F:ATa) (hf:n < fuel)
 (hs:∀ i:Nat,i < n->body ((i:Int),part n i F)=some (.inl (((i + 1:Nat):Int),part n (i + 1) F))) (he:∀ X,body ((n:Int),X)=some (.inr X)):iter body fuel (0,List.replicate n ([]:List Int))=some (tab n n F):=by
 apply ok_eq;refine AUk (λi s=>s=((i:Int),part n i F)) n (by rw [Afs n F];rfl) hf λi s hi hI=>?_;subst hI
 by_cases h:i < n
 ·rw [hs i h];exact AGy ⟨h,rfl⟩
 ·obtain rfl:i=n:=by omega
  rw [he];exact AGy<|Afr _ _
theorem Au5 {m:Int} (hm:2<=m) (Ab:m<=2147483647):Int.tmod (w64<|Int.tmod x m + m) m=x % m:=by
 have h1:=Int.tmod_lt_of_pos x (show 0 < m by omega);have h2:=Int.tmod_lt_of_pos (-x) (show 0 < m by omega);rw [Int.neg_tmod] at h2;rw [wk AGp,Int.tmod_eq_emod_of_nonneg AGp,Int.add_emod_right,Int.tmod_def,Int.sub_mul_emod_self_left]
theorem A7s {n:Nat} {m:Int} (hn:n<=8) (hm:2<=m) (Aa:m<=2147483647) (hf:100 < fuel):AVw fuel (tab n n F) m=some (tab n n λi j=>F i j % m):=by
 unfold AVw;rw [AUe,if_pos AGp,Int.toNat_natCast,A7r (n:=n) (λi j=>F i j % m) AGp (λi hi=>?_) λX=>?_]
 ·rfl
 ·unfold Aby;dsimp only;rw [AUe,if_pos AGp,AZs<|AUl hi,AUv,if_pos AGp,AZs<|Ai6 hi,AU1,Int.toNat_natCast,AYx n (0:Int),Ahb,BAs (n:=n) (λj=>F i j % m) AGp (λj g hj hg=>?_) λX=>?_]
  ·dsimp only [Option.bind_some];rw [An8,A7q λc _=>rfl,AW3 AGp]
  ·unfold Abx;dsimp only;rw [AUv,if_pos AGp,AZs<|AT4 hj,AZs<|Adx AGp hi,if_pos AGp,if_pos AGp,AU8,AZs<|AT4 hj,Au5 hm Aa,AU1,AU1,AWi,Afk AGp,An8,AW3 AGp]
  ·unfold Abx;dsimp only;rw [AUv,if_neg AGp]
 ·unfold Aby;dsimp only;rw [AUe,if_neg AGp]
def Awq (n:Nat) (m:Int) (F:ATa):Prop:= ∀ i j,i < n->j < n->0<=F i j/\F i j < m
end Go.Proofs.YtkakafabeobahaaGreatDoor
namespace Go.Proofs.YtkakafabeobahaaGreatDoor
open Go Go.QF
set_option maxRecDepth 100000
set_option maxHeartbeats 40000000
def Alo (fuel:Nat) (Ac Ad Af:Int) (Ag:LiA) (Ah Ai Aa:Int) (Ab:LiI):Option ((Int × LiI) ⊕ LiI):=
 if Aa < (Ag.length:Int) then (gI Ab Af).bind λAj=>(gI Aj Aa).bind λAk=>(gI Ab Ad).bind λAe=>(gI Ae Aa).bind λAm=>if Ac≠0 then some (.inl (w64<|Aa + 1,sI Ab Ad<|sI Ae Aa<|Int.tmod (w64<|Am + w64 (w64 (Ac - w64 (Int.tdiv Ai Ah)) * Ak)) Ac)) else none else some<|.inr Ab
def Alp (fuel:Nat) (Ah Aa Ab Af:Int) (Ac:LiI):Option ((Int × LiI) ⊕ (Int × LiI)):=
 (gI Ac Ab).bind λAg=>(gI Ag Aa).bind λAd=>if ¬ Ad=0 then (gI Ac Aa).bind λAi=>(gI Ai Aa).bind λAj=>if Ad≠0 then (((iter (λs=>Alo fuel Ah Aa Ab Ag Ad Aj s.1 s.2) fuel (0,Ac)).bind (λ(Ak:LiI)=>some Ak)):Option LiI).bind λAe=>(gI Ae Ab).bind λAm=>(gI Ae Aa).bind λAo=>some (.inl (w64<|0 - Af,sI (sI Ae Aa Am) Ab Ao)) else none else some<|.inr (Af,Ac)
def Alq (fuel:Nat) (Ad Ae Ac Aa:Int) (Ab:LiI):Option ((Int × Int × LiI) ⊕ (Int × LiI)):=
 if Aa < (Ab.length:Int) then (iter (λs=>Alp fuel Ad Ae Aa s.1 s.2) fuel (Ac,Ab)).bind (λ((Af,Ag):Int × LiI)=>some<|.inl (Af,w64<|Aa + 1,Ag)) else some<|.inr (Ac,Ab)
def Alr (fuel:Nat) (Ad:LiI) (Ae Ab Aa:Int) (Ac:LiI):Option ((Int × Int × LiI) ⊕ (Int × LiI)):=
 if Aa < (Ad.length:Int) then (iter (λs=>Alq fuel Ae Aa s.1 s.2.1 s.2.2) fuel (Ab,w64<|Aa + 1,Ac)).bind (λ((Af,Ag):Int × LiI)=>some<|.inl (Af,w64<|Aa + 1,Ag)) else some<|.inr (Ab,Ac)
def Als (fuel:Nat) (a5:Int) (Ac:LiI) (Ad Ab:Int):Option ((Int × Int) ⊕ Int):=
 if Ab < (Ac.length:Int) then (gI Ac Ab).bind λAe=>if a5≠0 then (gI Ae Ab).bind λAf=>if a5≠0 then some (.inl (Int.tmod (w64<|Int.tmod Ad a5 * Af) a5,w64<|Ab + 1)) else none else none else some<|.inr Ad
def Akz (fuel:Nat) (a3:LiI) (a5:Int):Option (Int × Int):=
 (Aag fuel a3).bind λx6=>if (!x6)=true then some (0,3) else (AVr fuel a5).bind λAc=>if ¬ Ac=0 then some (0,Ac) else (AVw fuel a3 a5).bind λAd=>((((some a5):Option Int).bind λAf=>(iter (λs=>Alr fuel Ad Af s.1 s.2.1 s.2.2) fuel (1,0,Ad)).bind (λ((Ag,Ah):Int × LiI)=>some (Ag,Ah))):Option (Int × LiI)).bind λ(Ai,Aj)=>(iter (λs=>Als fuel a5 Aj s.1 s.2) fuel (w64<|Ai + a5,0)).bind (λ(Ak:Int)=>some (Ak,0))
theorem Aqw {A8:Value} {r:(Int × Int)} (H2:AX8 (cI .i64) h A8 a3) (hp:Akz fuel a3 a5=some r):AT3 Tryz.prog 84 #[A8,(.int .i64 a5)] h (λx h'=>Ext h h'/\x= .tuple #[.int .i64 r.1,.int .i64 r.2]):=by
 unfold Akz at hp;refine cwf (l:=[_,_]) Tryz.func84 rfl rfl (AGt<|ATu<|AG1<|AGv<|AGt<|AGq ?_);have K0:=Kst.k0 h;obtain ⟨x6,B3,Bc⟩:=AGu hp;refine AYn K0 (Ajs (H2.ext K0.x) B3) λEd E9 Be=>AW0 rfl (AGw<|⟨_,rfl,λAj=>?_,λAj=>?_⟩)
 ·refine AGt<|ATu<|AG1<|AG6<|ATj ?_;obtain rfl:=AGs<|ifT Bc Aj;exact ⟨_,AU0,Be.x,rfl⟩
 ·refine AG5<|q_t<|AGv<|AGt<|AGq ?_;obtain ⟨Ef,B4,Bf⟩:=AGu<|Abh Bc Aj;refine AYn Be (AY7 B4) λEg Eh Ak=>AT7<|AGq<|AV2 rfl rfl (AGw<|⟨_,rfl,λAm=>?_,λAm=>?_⟩)
  ·refine AGt<|AGq<|ATu<|AG1<|AG6<|ATj ?_;obtain rfl:=AGs<|AT9 Bf Am;exact ⟨_,AU0,Ak.x,rfl⟩
  ·refine AG5<|q_t<|AGt<|AGq<|AGq ?_;obtain ⟨B5,B6,B7⟩:=AGu<|AUa Bf Am;refine Ahr Ak (AZd (H2.ext Ak.x) B6) λB8 B9 Ca Ab Ei Ej Ao=>AT7<|AGq<|AGq ?_;obtain ⟨Cb,Cd,Ce⟩:=AGu B7;refine ATm (K':=(λxr h'=> ∃ x:(Int) × (LiI) × LnA × LnN × LvA,(x.1,x.2.1)=Cb/\xr=(.int .i64 x.1)/\Kst h h' (Ao.L.set 0<|aO2 (cI .i64) 61 2 x.2.2.1 x.2.2.2.1 x.2.2.2.2 Ab x.2.1))) trivial rfl ?_ λEk El Cf=>?_
   ·refine cwf (l:=[_,_]) Tryz.func138 rfl rfl (AGt<|AT7<|AGq ?_);obtain ⟨Cg,Ch,Ci⟩:=AGu Cd;refine ATm (K':=(λxr h'=> ∃ x:(Nat) × (Int),x.2=Cg/\xr=(.func (.func 197) #[] #[(.pointer<|some ⟨x.1,0,none⟩)])/\Kst h h' (aB 2 x.1 [(.int .i64 x.2)] :: Ao.L))) trivial rfl ?_ λEm En Cj=>?_
    ·refine cwf (l:=[_]) Tryz.func161 rfl rfl (AGt<|AZa Ao [(.int .i64 a5)] λCk Eo Ep Cm=>AT7<|A4w rfl (AG1<|AG6<|⟨_,AS9,((Ck,a5):(Nat) × (Int)),?_,rfl,?_⟩))
     ·exact AGs Ch
     ·exact Cm
    obtain ⟨⟨Cn,Er⟩,Co,rfl,Ap⟩:=Cj;refine ⟨trivial,?_⟩;subst Co;refine AT7<|AG1<|AGv<|AGt<|AGq<|AUb ATg rfl (Ap.o2 p1).rd (AGq<|AGw<|AGx<|AYo 18889465931478580847040 (λx:(Int) × (Int) × (LiI) × LnA × LnN × LvA=>(x.1,x.2.1,x.2.2.1)) ((1,0,B5,B8,B9,Ca):(Int) × (Int) × (LiI) × LnA × LnN × LvA) Ci (λx=>[(6,(.int .i64 x.1)),(13,(.int .i64 x.2.1))]) (λx=>Ap.L.set 1<|aO2 (cI .i64) 61 2 x.2.2.2.1 x.2.2.2.2.1 x.2.2.2.2.2 Ab x.2.2.1) Ap ⟨rfl,rfl,trivial⟩ ?_);rintro ⟨Bg,Af,Bh,Bi,Bj,Bl⟩ Es Et Eu Aq Ar Cp;unfold Alr at Ar;refine AGt<|ATz rfl rfl (AGw<|AGv<|⟨_,rfl,λAu=>?_,λAu=>?_⟩)
    ·refine AG5<|q_t<|AGv<|AGx<|AGt<|AGq<|AT7<|AGq<|ATp rfl rfl (AG1<|AGx<|AYo 9444732965739290165568 (λx:(Int) × (Int) × (LiI) × LnA × LnN × LvA=>(x.1,x.2.1,x.2.2.1)) ((Bg,(w64<|Af + 1),Bh,Bi,Bj,Bl):(Int) × (Int) × (LiI) × LnA × LnN × LvA) (AT9 Ar Au) (λx=>[(6,(.int .i64 x.1)),(8,(.int .i64 x.2.1))]) (λx=>Aq.L.set 1<|aO2 (cI .i64) 61 2 x.2.2.2.1 x.2.2.2.2.1 x.2.2.2.2.2 Ab x.2.2.1) Aq ⟨rfl,rfl,trivial⟩ ?_);rintro ⟨Cq,Av,Cr,Ct,Cu,Cv⟩ Ev Ew Ey Ag Aw Cw;unfold Alq at Aw;refine AGv<|AGt<|AGq<|AGq<|AUb ATg rfl (Ag.o2 p1).rd (ATz rfl rfl (AGw<|⟨_,rfl,λAx=>?_,λAx=>?_⟩))
     ·refine AG5<|q_t<|AGv<|AGx<|AGx<|AYo 9444732965739273650240 (λx:(Int) × (LiI) × LnA × LnN × LvA=>(x.1,x.2.1)) ((Cq,Cr,Ct,Cu,Cv):(Int) × (LiI) × LnA × LnN × LvA) (AT9 Aw Ax) (λx=>[(6,(.int .i64 x.1))]) (λx=>Ag.L.set 1<|aO2 (cI .i64) 61 2 x.2.2.1 x.2.2.2.1 x.2.2.2.2 Ab x.2.1) Ag ⟨rfl,trivial⟩ ?_;rintro ⟨Ez,Fa,Bm,Bn,Bo⟩ Fb Fc Fd Aa Bp Cx;unfold Alp at Bp;refine AGv<|AGt<|AGq<|AGq ?_;obtain ⟨Fe,Ac,Cy⟩:=AGu Bp;refine AUs ATg ATq (Aa.o2 p1) Ac λ_ Ff Cz=>AGq ?_;obtain ⟨C0,Bq,Br⟩:=AGu Cy;refine AW5 (m:=Av) ATe ATh (Aa.o2 p1) Cz Ac Bq λ_=>(AV2 rfl rfl (AGw<|⟨_,rfl,λAy=>?_,λAy=>?_⟩))
      ·refine AG5<|q_t<|AGx<|AGv<|AWg<|AGq<|AGq<|AGq ?_;obtain ⟨Fg,Az,C1⟩:=AGu<|AT9 Br Ay;refine AUs ATg ATq (Aa.o2 p1) Az λ_ C2 Bt=>AGq<|AGq<|AUs ATg ATq (Aa.o2 p1) Ac λ_ C3 Bu=>AGq<|AGq<|AUs ATg ATq (Aa.o2 p1) Az λ_ Fh C4=>AGq ?_;obtain ⟨C5,C6,C7⟩:=AGu C1;refine AW5 (m:=Af) ATe ATh (Aa.o2 p1) C4 Az C6 λ_=>(AGq<|AGq<|AUs ATg ATq (Aa.o2 p1) Ac λ_ Fi C8=>AGq<|AW5 (m:=Av) ATe ATh (Aa.o2 p1) C8 Ac Bq λ_=>?_);obtain ⟨C9,Da⟩:=ifN C7;refine At8 rfl rfl C9 ?_;obtain ⟨Db,Dc,Dd⟩:=AGu Da;refine Ari (l:=[C2,C3,(.int .i64<|w64<|Int.tdiv C5 C0)]) (cl:=[(.pointer<|some ⟨Cn,0,none⟩)]) (K':=(λxr h'=> ∃ x:(LiI),x=Db/\xr= .tuple #[]/\Kst h h' (Aa.L.set 1<|aO2 (cI .i64) 61 2 Bm Bn Bo Ab x))) trivial rfl rfl ?_ λFj Fk De=>?_
       ·refine cwf (l:=[_,_,_,_]) Tryz.func197 rfl rfl (AGt<|AGq<|AUu ATe rfl ((Aa.o2 p1).rowI Bu Ac) (AGq<|AGw<|AGx<|AZp 4294965632 Dc (λx=>[(11,(.int .i64 x.1))]) (λx=>Aa.L.set 1<|aO2 (cI .i64) 61 2 Bm Bn Bo Ab x.2) Aa ⟨rfl,trivial⟩ ?_));rintro ⟨Fl,Df⟩ Fm Fo Fp Ad A3 Dg;unfold Alo at A3;refine AGt<|ATz rfl rfl (AGw<|AGv<|⟨_,rfl,λA4=>?_,λA4=>?_⟩)
        ·refine AG5<|q_t<|AGv<|AGx<|AGt<|AGq ?_;obtain ⟨Fq,Dh,Di⟩:=AGu<|AT9 A3 A4;obtain ⟨Ft,Dj,Dk⟩:=AGu Di;refine AW5 (m:=Av) ATe ATh (Ad.o2 p1) Bu Dh Dj λ_=>(ATu<|AG1<|AWg<|AGq<|AGq<|AGq<|AGq ?_);obtain ⟨Fu,Bv,Dl⟩:=AGu Dk;obtain ⟨Fv,Bw,Do⟩:=AGu Dl;refine AW5 (m:=Af) ATe ATh (Ad.o2 p1) Bt Bv Bw λ_=>AT1 ATh rfl ((Ad.b p0).cell (i:=0) rfl) (AGq<|AVm rfl rfl (AGq<|Aai rfl rfl (ATp rfl rfl (AT1 ATh rfl ((Ad.b p0).cell (i:=0) rfl) ?_))));obtain ⟨Dp,Dq⟩:=ifN Do;refine Aft rfl rfl Dp (AZ7 (m:=Af) Ad p1 ATe ATh Bt Bv Bw (λ_=>rfl) λ_ Fw Dr=>ATr<|q_b<|q_t<|ATc<|ATp rfl rfl (AGq<|AGw ?_));exact ⟨_,(AGs Dq).symm,Dr,rfl,trivial⟩
        ·refine ATk<|ATl<|ATl<|AUi<|⟨_,AZ5,(Df:(LiI)),?_,rfl,?_⟩
         ·exact AGs<|Dg _ (AGs<|AUa A3 A4).symm
         ·exact Ad
       obtain ⟨Fx,Ds,rfl,Ah⟩:=De;refine ⟨trivial,?_⟩;subst Ds;refine AGw<|AGv<|AWg<|AGq<|AGq<|AGq<|AGq<|AGq<|AGq ?_;obtain ⟨Fy,Bx,Dt⟩:=AGu Dd;refine AUs ATg ATq (Ah.o2 p1) Bx λ_ Fz Du=>AGq<|AGq ?_;obtain ⟨F4,By,Dv⟩:=AGu Dt;refine AUs ATg ATq (Ah.o2 p1) By λ_ F5 Dw=>Agj ATg ATq (Ah.o2 p1) Dw Du By Bx rfl rfl (λ_=>rfl) (λ_=>rfl) (λ_=>rfl) (λ_ _=>rfl) λF6 F7 F8 F9 Ga Gb Dx Dy Dz=>AGw<|ATc<|AGq<|Aq1 rfl (ATu<|ATr<|q_b<|q_t ?_);exact ⟨(_,_,_,_,_),(AGs Dv).symm,(Ah.uo2 p1 Dy Dx Dz),rfl,trivial⟩
      ·refine ATk<|ATl<|ATl<|AUi<|q_b<|q_t<|ATc<|AGq<|ATp rfl rfl (AG1 ?_);exact ⟨(_,_,_,_,_,_),(AGs<|Cx _ (AGs<|AUa Br Ay).symm).symm,Aa,rfl,rfl,trivial⟩
     ·refine ATk<|ATl<|ATl<|AUi<|q_b<|q_t<|ATc<|ATp rfl rfl (AGq<|AGw ?_);exact ⟨(_,_,_,_,_,_),(AGs<|Cw _ (AGs<|AUa Aw Ax).symm).symm,Ag,rfl,rfl,trivial⟩
    ·refine ATk<|ATl<|ATl<|AUi<|q_t<|AGt<|AGq<|AG1<|AG6<|⟨_,AS9,((Bg,Bh,Bi,Bj,Bl):(Int) × (LiI) × LnA × LnN × LvA),?_,rfl,?_⟩
     ·exact AGs<|Cp _ (AGs<|AUa Ar Au).symm
     ·exact Aq.sel [1] AGr
   obtain ⟨⟨Gc,Gd,Ge,Gf,Gg⟩,D0,rfl,A5⟩:=Cf;refine ⟨trivial,?_⟩;subst D0;refine AGq<|ATp rfl rfl (AG1<|AGv<|AGt<|AGq<|AUb ATg rfl (A5.o2 p0).rd (AGq<|AGw<|AGx<|AZp 35183835219712 Ce (λx=>[(8,(.int .i64 x.1)),(29,(.int .i64 x.2))]) (λx=>A5.L) A5 ⟨rfl,rfl,trivial⟩ ?_));rintro ⟨Gh,D2⟩ Gi Gj Gk Ai A6 D3;unfold Als at A6;refine AGt<|ATz rfl rfl (AGw<|AGv<|⟨_,rfl,λA7=>?_,λA7=>?_⟩)
   ·refine AG5<|q_t<|AGv<|AGx<|AGt<|AGq ?_;obtain ⟨Gl,Bz,D4⟩:=AGu<|AT9 A6 A7;refine AUs ATg ATq (Ai.o2 p0) Bz λ_ Gm D5=>ATu<|AG1<|AWg<|AGq<|AGq ?_;obtain ⟨D6,D7⟩:=ifN D4;refine Aft rfl rfl D6 (AGq<|AGq ?_);obtain ⟨Gn,D8,D9⟩:=AGu D7;refine AW5 (m:=D2) ATe ATh (Ai.o2 p0) D5 Bz D8 λ_=>(Aai rfl rfl (AGq ?_));obtain ⟨Ea,Eb⟩:=ifN D9;refine Aft rfl rfl Ea (ATu<|ATr<|q_b<|q_t<|ATc<|ATp rfl rfl (AGq<|AGw ?_));exact ⟨_,(AGs Eb).symm,Ai,rfl,rfl,trivial⟩
   ·refine ATk<|ATl<|ATl<|AUi<|q_t<|AGt<|AGq<|ATu<|AG1<|AG6 ?_;obtain rfl:=AGs<|D3 _ (AGs<|AUa A6 A7).symm;exact ⟨_,AU0,Ai.x,rfl⟩
end Go.Proofs.YtkakafabeobahaaGreatDoor
namespace Go.Proofs.YtkakafabeobahaaGreatDoor
open Go Go.QF
set_option maxRecDepth 100000
theorem A7t {body:Int->Option (Int ⊕ E)} {n:Nat} {e:E} (hf:n < fuel) (hs:∀ i:Nat,i < n->body (i:Int)=some (.inl ((i + 1:Nat):Int))) (he:body (n:Int)=some (.inr e)):iter body fuel 0=some e:=by
 apply ok_eq;refine AUk (λi s=>s=(i:Int)) n rfl hf λi s hi hI=>?_;subst hI;by_cases h:i < n
 ·rw [hs i h];exact AGy ⟨h,rfl⟩
 ·obtain rfl:i=n:=by omega
  rw [he];exact AGy rfl
theorem Ay7 {n:Nat} (Aa:1<=n) (hn:n<=8) (hf:100 < fuel):AYd fuel (tab n n F)=some true:=by
 unfold AYd;rw [AUe,if_neg AGp,if_neg AGp,Atl<|AUl AGp,AUv,if_neg AGp,if_neg AGp];simp only [Option.bind_some];rw [A7t (n:=n) (e:= .inr ()) AGp (λi hi=>?_) ?_]
 ·rfl
 ·unfold Aeg;rw [AUe,if_neg AGp]
 ·unfold Aeg;rw [AUe,if_pos AGp,AZs<|AUl hi,Atl<|AUl AGp,AUv,AUv,if_neg λh=>h rfl,AW3 AGp]
theorem Ap1 {n:Nat}:sI (AV0 n g) (j:Int) x=AV0 n λc=>if c=j then x else g c:=by rw [AU1,AWi]
theorem Abt {n:Nat}:sI (tab n n F) (i:Int) (AV0 n g)=tab n n (AU4 F i g):=by
 rw [AU1];exact Ade
theorem Ay8 {n r:Nat} {g':Nat->Int} (h:∀ c,c < n->g c=g' c):tab n n (AU4 F r g)=tab n n (AU4 F r g'):=Agk λi j _ hj=>by
 rw [AT6,AT6,h j hj]
end Go.Proofs.YtkakafabeobahaaGreatDoor
namespace Go.Proofs.YtkakafabeobahaaGreatDoor
open Go Go.QF
set_option maxRecDepth 100000
set_option maxHeartbeats 40000000
def Ae3 (fuel:Nat) (a3 a7:List AWo) (Ac:Int):Option (Int ⊕ (Bool ⊕ Unit)):=
 if Ac < (a3.length:Int) then (gI a3 Ac).bind λAa=>(gI a7 Ac).bind λAb=>if (!(decide ((Aa.1,Aa.2.1,Aa.2.2.1,Aa.2.2.2.1,Aa.2.2.2.2)=(Ab.1,Ab.2.1,Ab.2.2.1,Ab.2.2.2.1,Ab.2.2.2.2))))=true then some (.inr<|.inl false) else some (.inl<|w64<|Ac + 1) else some<|.inr<|.inr ()
def Ac0 (fuel:Nat) (a3 a7:List AWo):Option Bool:=
 if ¬ (a3.length:Int)=(a7.length:Int) then some false else (iter (λs=>Ae3 fuel a3 a7 s) fuel 0).bind (λex=>match ex with | .inl Ac=>(some Ac) | .inr _=>some true)
theorem Ai7 {Ah:Value} {a3:(List AWo)} {Aj:Value} {a7:(List AWo)} (H2:SlC Ag0 h Ah a3) (H6:SlC Ag0 h Aj a7) (hp:Ac0 fuel a3 a7=some r):AT3 Tryz.prog 23 #[Ah,Aj] h (λx h'=>Ext h h'/\x= .bool r):=by
 unfold Ac0 at hp;refine cwf (l:=[_,_]) Tryz.func23 rfl rfl (AGt<|AG1<|AGv<|AGt<|AGq<|AUu Af9 rfl H2 (AGq<|AUu Af9 rfl H6 (AV2 rfl rfl (AGw ?_))));have K0:=Kst.k0 h;refine ⟨_,rfl,λAd=>?_,λAd=>?_⟩
 ·refine AGt<|AG1<|AG6<|ATj ?_;obtain rfl:=AGs<|AT9 hp Ad;exact ⟨_,AS9,K0.x,rfl⟩
 ·refine AG5<|q_t<|AGv<|AGt<|AGq<|AUu Af9 rfl H2 (AGq<|AGw<|AGx<|AZp 67100720 (AUa hp Ad) (λx=>[(13,(.int .i64 x))]) (λx=>K0.L) K0 ⟨rfl,trivial⟩ ?_);rintro Az A3 A4 A5 Aa Ae Ao;unfold Ae3 at Ae;refine AGt<|ATz rfl rfl (AGw<|AGv<|⟨_,rfl,λAf=>?_,λAf=>?_⟩)
  ·refine AG5<|q_t<|AGv<|AGx<|AGt<|AGq<|AG1<|AGv<|AWg<|AGq<|AGq ?_;obtain ⟨A6,Aq,Ar⟩:=AGu<|AT9 Ae Af;refine Ack (c:=Ag0) Af9 rfl H2 rfl Aq λA7 A8 A9 Au Av=>?_;obtain rfl:=Au;refine Agm (c:=Ag0) Avp rfl rfl (λj u hu=>(ATw (Av j u hu) Aa.x)) (AGq<|AGq ?_);obtain ⟨Ba,Aw,Ap⟩:=AGu Ar;refine Ack (c:=Ag0) Af9 rfl H6 rfl Aw λBb Bc Be Ax Ay=>?_;obtain rfl:=Ax;refine Agm (c:=Ag0) Avp rfl rfl (λj u hu=>(ATw (Ay j u hu) Aa.x)) (BEr AG3 rfl rfl (BE0 _ _ _ _ _ _ _ _ _ _) (AGw<|⟨_,rfl,λAg=>?_,λAg=>?_⟩))
   ·refine AGt<|AG1<|AG6<|AUp<|ATj<|ATj<|AUp<|ATj ?_;obtain rfl:=AGs<|Ao _ (AGs<|ifT Ap Ag).symm;exact ⟨_,AS9,Aa.x,rfl⟩
   ·refine AG5<|q_b<|q_t<|ATc<|ATp rfl rfl (AGq<|AGw ?_);exact ⟨_,(AGs<|Abh Ap Ag).symm,Aa,rfl,trivial⟩
  ·refine ATk<|ATl<|ATl<|AUi<|q_t<|AGt<|AG1<|AG6 ?_;obtain rfl:=AGs<|Ao _ (AGs<|AUa Ae Af).symm;exact ⟨_,AS9,Aa.x,rfl⟩
end Go.Proofs.YtkakafabeobahaaGreatDoor
namespace Go.Proofs.YtkakafabeobahaaGreatDoor
open Go Go.QF
set_option maxRecDepth 100000
theorem Aei (hp:1<=p) {b:Nat} (h:a<=b):p ^ a<=p ^ b:=by
 obtain ⟨c,rfl⟩:∃ c,b=a + c:=⟨b - a,AGp⟩;rw [Int.pow_add];have h1:0 < p ^ a:=Int.pow_pos AGp;have h2:0 < p ^ c:=Int.pow_pos AGp;have:=Int.mul_le_mul_of_nonneg_left (show 1<=p ^ c by omega)<|Int.le_of_lt h1;omega
theorem A7u (hp:2<=p) (h:p ^ k<=2147483647):k<=30:=by
 rcases Nat.lt_or_ge 30 k with h1 | h1
 ·exfalso;have h2:=Aei (p:=p) AGp (show 31<=k by omega);have h3:(2:Int) ^ 31<=p ^ 31:=Aef AGp hp 31;omega
 ·exact h1
def At3 (F:ATa) (r c:Nat) (x:Int):ATa:=AU4 F r λq=>if q=c then x else F r q
theorem Ady (F:ATa) (r c:Nat) (x:Int) (i j:Nat):At3 F r c x i j=if i=r/\j=c then x else F i j:=by
 unfold At3;rw [AT6];grind
def A0t (F:ATa) (r:Nat) (a b c:Int):ATa:=At3 (At3 (At3 (At3 F r r a) r (r + 1) b) (r + 1) r b) (r + 1) (r + 1) c
def Aom (p:Int):List AUr->Nat->(ATa)->(ATa)
 | [],_,F=>F
 | b :: l,r,F=>if b.2.1=2 then Aom p l (r + 2) (A0t F r (p ^ b.1.toNat * b.2.2.1) (p ^ b.1.toNat * b.2.2.2.1)<|p ^ b.1.toNat * b.2.2.2.2) else Aom p l (r + 1)<|At3 F r r<|p ^ b.1.toNat * b.2.2.1
def Ac5:List AUr->Nat
 | []=>0
 | b :: l=>b.2.1.toNat + Ac5 l
def A7v (p:Int) (k:Nat) (b:AUr):Prop:=(0<=b.1/\b.1<=if p=2 then (k:Int) - 3 else (k:Int) - 1)/\
 if b.2.1=1 then (0 < b.2.2.1/\b.2.2.1 < p ^ (k - b.1.toNat))/\¬ p ∣ b.2.2.1/\b.2.2.2.1=0/\b.2.2.2.2=0
 else ((0<=b.2.2.1/\b.2.2.1 < p ^ (k - b.1.toNat))/\(0<=b.2.2.2.1/\b.2.2.2.1 < p ^ (k - b.1.toNat))/\0<=b.2.2.2.2/\b.2.2.2.2 < p ^ (k - b.1.toNat))/\b.2.2.1 % 2=0/\b.2.2.2.1 % 2=1/\b.2.2.2.2 % 2=0
def Asc (L:List AUr) (i:Nat):Prop:=0 < i-> ∀ b c,L[i]? =some b->L[i - 1]? =some c->c.1<=b.1
def RG (p:Int) (k:Nat) (L:List AUr) (i:Nat):Prop:=(∀ b,L[i]? =some b->A7v p k b)/\Asc L i
end Go.Proofs.YtkakafabeobahaaGreatDoor
namespace Go.Proofs.YtkakafabeobahaaGreatDoor
open Go Go.QF
structure Eli (n K:Nat) (p:Int) (H T G:ATa):Prop where
 c:Car n K p H T G
 d:Eqm (p ^ K) (det n T * det n T) 1
theorem Alu {n:Nat} {m:Int} {A' B B':ATa} (hA:∀ k,k < n->Eqm m (A i k) (A' i k)) (hB:∀ k,k < n->Eqm m (B k j) (B' k j)):Eqm m (AUg n A B i j) (AUg n A' B' i j):=Eqm.psum λk hk=>(hA k hk).mul (hB k hk)
theorem Eli.step {n:Nat} {E T':ATa} (S:Eli n K p H T G) (hE:det n E * det n E=1) (hT:∀ i j,i < n->j < n->Eqm (p ^ K) (T' i j) (AUg n T E i j)) (hG:∀ i j,i < n->j < n->Eqm (p ^ K) (G' i j) (AUg n (trF E) (AUg n G E) i j)):Eli n K p H T' G':=by
 refine ⟨λi j hi hj=>?_,?_⟩
 ·have h1:Eqm (p ^ K) (AUg n (trF T') (AUg n H T') i j) (AUg n (trF<|AUg n T E) (AUg n H<|AUg n T E) i j):=Alu (λk hk=>hT k i hk hi) λk hk=>Alu (λl hl=>Eqm.refl _ _) λl hl=>hT l j hl hj;refine h1.trans<|Eqm.trans (Eqm.of_eq ?_)<|(Alu (λk hk=>Eqm.refl _ _) λk hk=>Alu (λl hl=>S.c k l hk hl) λl hl=>Eqm.refl _ _).trans (hG i j hi hj).symm;rw [AYz (λk hk=>Aml i k) λk hk=>rfl,AWy];refine AYz (λ_ _=>rfl) λk hk=>?_;rw [AWy];refine AYz (λ_ _=>rfl) λl hl=>?_;rw [AWy]
 ·have h1:Eqm (p ^ K) (det n T') (det n T * det n E):=by rw [<- Ac9];exact Av8 hT
  refine (h1.mul h1).trans (Eqm.trans (Eqm.of_eq ?_) S.d);grind
theorem BDt {n:Nat} (hG:∀ i j,i < n->j < n->Eqm (p ^ K) (G i j) (H i j)):Eli n K p H dl G:=by
 refine ⟨λi j hi hj=>?_,by rw [Ano];exact Eqm.refl _ _⟩
 ·refine Eqm.trans (Eqm.of_eq ?_) (hG i j hi hj).symm;exact (Awl (n:=n) (A:=H) i j hi hj).symm
def A0u (j k:Nat) (c:Int):ATa:=AU4 dl k λx=>dl k x + c * dl j x
theorem A7w (j k:Nat) (c:Int) (a b:Nat):A0u j k c a b=dl a b + (if a=k then c * dl j b else 0):=by
 unfold A0u;rw [AT6];grind
theorem A7x {n:Nat} {c:Int} (hj:j < n) (hk:k < n) (hne:k≠j):det n (A0u j k c) * det n (A0u j k c)=1:=by
 unfold A0u;rw [Afd hk hj hne,Ano];rfl
theorem Ap2 {n:Nat} {c:Int} {b:Nat} (hk:k < n) (hb:b < n):AUg n T (A0u j k c) a b=T a b + (if b=j then c * T a k else 0):=by
 unfold AUg
 rw [ATf (g:=λl=>T a l * dl l b + (if l=k then T a k * (c * dl j b) else 0)) λl _=>by
  rw [A7w];grind,Acn,A0f hb,Ach hk λl _ hne=>if_neg hne,if_pos rfl]
 unfold dl;grind
theorem BAt {n:Nat} {c:Int} {M:ATa} {b:Nat} (hk:k < n) (ha:a < n):AUg n (trF<|A0u j k c) M a b=M a b + (if a=j then c * M k b else 0):=by
 have:=Ap2 (T:=trF M) (j:=j) (c:=c) (a:=b) hk ha;rw [<- show trF (trF M)=M from rfl,<- Aml];exact this
theorem Eli.add {n:Nat} {T':ATa} {c:Int} (S:Eli n K p H T G) (hj:j < n) (hk:k < n) (hne:k≠j) (hT:∀ a b,a < n->b < n->Eqm (p ^ K) (T' a b) (T a b + if b=j then c * T a k else 0)) (hG:∀ a b,a < n->b < n->Eqm (p ^ K) (G' a b) (G a b + (if b=j then c * G a k else 0) + if a=j then c * (G k b + if b=j then c * G k k else 0) else 0)):Eli n K p H T' G':=
 S.step (A7x hj hk hne) (λa b ha hb=>by rw [Ap2 hk hb];exact hT a b ha hb) λa b ha hb=>by
  rw [BAt hk ha,Ap2 hk hb,Ap2 hk hb]
  grind
def sw2 (i j a:Nat):Nat:=if a=j then i else if a=i then j else a
theorem Ao6 {n:Nat} (hi:i < n) (hj:j < n) (ha:a < n):sw2 i j a < n:=by
 unfold sw2;grind
theorem A2q (i j a:Nat):sw2 i j (sw2 i j a)=a:=by
 unfold sw2;grind
theorem Awr (i j a b:Nat):AYg dl i j a b=dl (sw2 i j a) b:=by
 rw [Afq];unfold sw2;grind
theorem BAu {n:Nat} (hi:i < n) (hj:j < n):det n (AYg dl i j) * det n (AYg dl i j)=1:=by
 by_cases h:i=j
 ·subst h
  rw [AUd (G:=dl) λa b _ _=>by
   rw [Awr];unfold sw2;grind,Ano];rfl
 ·rw [Ajr hi hj h,Ano];rfl
theorem Aws {n:Nat} {b:Nat} (hi:i < n) (hj:j < n) (hb:b < n):AUg n T (AYg dl i j) a b=T a (sw2 i j b):=by
 unfold AUg;rw [Ach (Ao6 hi hj hb) λk _ hne=>?_]
 ·rw [Awr,A2q];unfold dl;grind
 ·rw [Awr];unfold dl;rw [if_neg λh=>hne<|by rw [<- h,A2q]];simp
theorem BDu {n:Nat} {M:ATa} {b:Nat} (hi:i < n) (hj:j < n) (ha:a < n):AUg n (trF<|AYg dl i j) M a b=M (sw2 i j a) b:=by
 have:=Aws (T:=trF M) (a:=b) hi hj ha;rw [<- show trF (trF M)=M from rfl,<- Aml];exact this
theorem Eli.swap {n:Nat} {T':ATa} (S:Eli n K p H T G) (hi:i < n) (hj:j < n) (hT:∀ a b,a < n->b < n->T' a b=T a (sw2 i j b)) (hG:∀ a b,a < n->b < n->G' a b=G (sw2 i j a) (sw2 i j b)):Eli n K p H T' G':=
 S.step (BAu hi hj) (λa b ha hb=>by rw [Aws hi hj hb,hT a b ha hb];exact Eqm.refl _ _) λa b ha hb=>by
  rw [BDu hi hj ha,Aws hi hj hb,hG a b ha hb];exact Eqm.refl _ _
theorem Eli.sym {n:Nat} (S:Eli n K p H T G) (hs:∀ i j,i < n->j < n->H i j=H j i) (hG:Awq n (p ^ K) G) (hi:i < n) (hj:j < n):G i j=G j i:=by
 refine A3p ?_ (hG i j hi hj)<|hG j i hj hi;refine (S.c i j hi hj).symm.trans (Eqm.trans (Eqm.of_eq ?_)<|S.c j i hj hi);show psum (λa=>T a i * psum (λb=>H a b * T b j) n) n=psum (λa=>T a j * psum (λb=>H a b * T b i) n) n;rw [ATf (g:=λa=>psum (λb=>T a i * (H a b * T b j)) n) λa _=>(AWb _ _ _).symm,Ai8,ATf (f:=λa=>T a j * psum (λb=>H a b * T b i) n) (g:=λa=>psum (λb=>T a j * (H a b * T b i)) n) λa _=>(AWb _ _ _).symm];refine ATf λa ha=>ATf λb hb=>?_;grind
theorem Eli.det {n K:Nat} {p:Int} {H T G:ATa} (S:Eli n K p H T G):Eqm (p ^ K) (QF.det n G) (QF.det n H):=by
 have h1:Eqm (p ^ K) (QF.det n G) (QF.det n<|AUg n (trF T)<|AUg n H T):=Av8 λi j hi hj=>(S.c i j hi hj).symm;refine h1.trans ?_;rw [Ac9,Ac9,Aec];refine Eqm.trans (Eqm.of_eq<|show QF.det n T * (QF.det n H * QF.det n T)=QF.det n H * (QF.det n T * QF.det n T) by grind) ?_;have:=(Eqm.refl (p ^ K)<|QF.det n H).mul S.d;grind
theorem Eli.some {n:Nat} (S:Eli n K p H T G) (hd: ¬ p ^ K ∣ QF.det n H) (hk:k < n) (hz:∀ j,j < k->G k j=0):∃ j,k<=j/\j < n/\G k j≠0:=by
 refine Classical.byContradiction λhn=>hd ?_
 have h0:QF.det n G=0:=Ag8 hk λj hj=>Classical.byContradiction λh=>hn ⟨j,by
  grind,hj,h⟩
 have:=S.det;rw [h0] at this;exact Ai5.1 this.symm
def Ao7 (q:Int) (j l:Nat) (c:Int) (T:ATa):ATa:=λa b=>if b=j then (T a j + c * T a l) % q else T a b
def A7y (q:Int) (j l:Nat) (c:Int) (G:ATa):ATa:=λa b=>if a=j then (G j b + c * G l b) % q else G a b
def Atn (q:Int) (j l:Nat) (c:Int) (G:ATa):ATa:=A7y q j l c<|Ao7 q j l c G
def swC (i j:Nat) (T:ATa):ATa:=λa b=>T a<|sw2 i j b
def swG (i j:Nat) (G:ATa):ATa:=λa b=>G (sw2 i j a)<|sw2 i j b
theorem Afm (q:Int) (j l:Nat) (c:Int) (G:ATa) (a b:Nat):Atn q j l c G a b=if a=j then (if b=j then ((G j j + c * G j l) % q + c * ((G l j + c * G l l) % q)) % q else (G j b + c * G l b) % q) else if b=j then (G a j + c * G a l) % q else G a b:=by
 unfold Atn A7y Ao7;grind
theorem A2r (hq:d ∣ q) (hx:d ∣ x):d ∣ x % q:=by
 rw [Int.emod_def];exact Int.dvd_sub hx<|Int.dvd_trans hq ⟨_,rfl⟩
theorem Arz (hq:0 < q) (x:Int):0<=x % q/\x % q < q:=⟨Int.emod_nonneg _ AGp,Int.emod_lt_of_pos _ hq⟩
theorem Au6 {n:Nat} {c:Int} (hq:0 < q) (h:Awq n q T):Awq n q (Ao7 q j l c T):=λa b ha hb=>by
 unfold Ao7;split
 ·exact Arz hq _
 ·exact h a b ha hb
theorem A4c {n:Nat} {c:Int} (hq:0 < q) (h:Awq n q G):Awq n q (Atn q j l c G):=λa b ha hb=>by
 unfold Atn A7y;split
 ·exact Arz hq _
 ·exact Au6 hq h a b ha hb
theorem A0v (hi:k<=i) (hj:k<=j) (ha:k<=a):k<=sw2 i j a:=by
 unfold sw2;grind
theorem Awt (hi:a≠i) (hj:a≠j):sw2 i j a=a:=by unfold sw2;grind
def Ahx (L:List AUr):Prop:= ∀ b∈L,b.2.1=1∨b.2.1=2
theorem AYl (c:AUr) (L:List AUr):Ac5 (c :: L)=c.2.1.toNat + Ac5 L:=rfl
theorem Agr (p:Int) (c:AUr) (L:List AUr) (r:Nat) (F:ATa):Aom p (c :: L) r F=if c.2.1=2 then Aom p L (r + 2) (A0t F r (p ^ c.1.toNat * c.2.2.1) (p ^ c.1.toNat * c.2.2.2.1)<|p ^ c.1.toNat * c.2.2.2.2) else Aom p L (r + 1) (At3 F r r<|p ^ c.1.toNat * c.2.2.1):=rfl
theorem Ap3 {p:Int} {b:AUr}:∀ {L:List AUr} {r:Nat} {F:ATa},Ahx L->Aom p (L ++ [b]) r F=Aom p [b] (r + Ac5 L) (Aom p L r F)
 | [],r,F,_=>rfl
 | c :: L,r,F,h=>by
   have h1:Ahx L:=λx hx=>h x<|List.mem_cons_of_mem _ hx
   rw [List.cons_append,Agr p c<|L ++ [b],Agr p c L,AYl]
   rcases h c AT5 with hc | hc
   ·rw [if_neg AGp,if_neg AGp,Ap3 h1,show r + 1 + Ac5 L=r + (c.2.1.toNat + Ac5 L) by omega]
   ·rw [if_pos hc,if_pos hc,Ap3 h1,show r + 2 + Ac5 L=r + (c.2.1.toNat + Ac5 L) by omega]
theorem Abr (F:ATa) (r:Nat) (a b c:Int) (i j:Nat):A0t F r a b c i j=if i=r/\j=r then a else if i=r/\j=r + 1 then b else if i=r + 1/\j=r then b else if i=r + 1/\j=r + 1 then c else F i j:=by
 unfold A0t;rw [Ady,Ady,Ady,Ady];grind
theorem Ato {p:Int} {i j:Nat}:∀ {L:List AUr} {r:Nat} {F:ATa},Ahx L->(r + Ac5 L<=i∨r + Ac5 L<=j)->Aom p L r F i j=F i j
 | [],r,F,_,_=>rfl
 | c :: L,r,F,h,ho=>by
   have h1:Ahx L:=λx hx=>h x<|List.mem_cons_of_mem _ hx
   rw [AYl] at ho
   rw [Agr]
   rcases h c AT5 with hc | hc
   ·rw [if_neg AGp,Ato h1 AGp,Ady,if_neg AGp]
   ·rw [if_pos hc,Ato h1 AGp,Abr,if_neg AGp,if_neg AGp,if_neg AGp,if_neg AGp]
theorem Atp {L:List AUr} {b:AUr}:Ac5 (L ++ [b])=Ac5 L + b.2.1.toNat:=by
 induction L with
 | nil=>simp [Ac5]
 | cons c L ih=>rw [List.cons_append,AYl,AYl,ih];omega
abbrev bm (L:List AUr):ATa:=Aom 2 L 0 λ_ _=>0
structure DS (n K:Nat) (H T G:ATa) (L:List AUr) (k E:Nat):Prop where
 rt:Awq n (2 ^ K) T
 rg:Awq n (2 ^ K) G
 e:Eli n K 2 H T G
 z:∀ i j,i < k->k<=j->j < n->G i j=0
 w:∀ i j,i < k->j < k->G i j=bm L i j
 fl:∀ i j,k<=i->i < n->k<=j->j < n->(2:Int) ^ E ∣ G i j
section
variable {n K k E:Nat} {H T G:ATa} {L:List AUr}
theorem DS.add {j l:Nat} {c:Int} (S:DS n K H T G L k E) (hE:E<=K) (hj:k<=j) (hjn:j < n) (hl:k<=l) (hln:l < n) (hne:l≠j):DS n K H (Ao7 (2 ^ K) j l c T) (Atn (2 ^ K) j l c G) L k E:=by
 have hq:(0:Int) < 2 ^ K:=Int.pow_pos AGr;refine ⟨Au6 hq S.rt,A4c hq S.rg,?_,λa b ha hb hbn=>?_,λa b ha hb=>?_,λa b ha han hb hbn=>?_⟩
 ·exact S.e.add (c:=c) hjn hln hne (λa b ha hb=>by
   unfold Ao7;by_cases h:b=j
   ·subst h;rw [if_pos rfl,if_pos rfl];exact Eqm.mod _ _
   ·rw [if_neg h,if_neg h,Int.add_zero];exact Eqm.refl _ _) λa b ha hb=>by
   rw [Afm]
   by_cases h:a=j
   ·subst h;rw [if_pos rfl,if_pos rfl];by_cases h2:b=a
    ·subst h2;rw [if_pos rfl,if_pos rfl,if_pos rfl]
     exact (Eqm.mod _ _).trans ((Eqm.mod _ _).add ((Eqm.refl _ _).mul (Eqm.mod _ _)))
    ·rw [if_neg h2,if_neg h2,if_neg h2,Int.add_zero,Int.add_zero];exact Eqm.mod _ _
   ·rw [if_neg h,if_neg h,Int.add_zero];by_cases h2:b=j
    ·subst h2;rw [if_pos rfl,if_pos rfl];exact Eqm.mod _ _
    ·rw [if_neg h2,if_neg h2,Int.add_zero];exact Eqm.refl _ _
 ·rw [Afm,if_neg AGp];by_cases h:b=j
  ·subst h;rw [if_pos rfl,S.z a b ha hb hbn,S.z a l ha hl hln];simp
  ·rw [if_neg h];exact S.z a b ha hb hbn
 ·rw [Afm,if_neg AGp,if_neg AGp];exact S.w a b ha hb
 ·have hd:(2:Int) ^ E ∣ 2 ^ K:=AWd hE;have key:∀ x y,k<=x->x < n->k<=y->y < n-> ∀ u v,k<=u->u < n->k<=v->v < n->(2:Int) ^ E ∣ (G x y + c * G u v) % 2 ^ K:=λx y h1 h2 h3 h4 u v h5 h6 h7 h8=>A2r hd<|Int.dvd_add (S.fl x y h1 h2 h3 h4)<|Int.dvd_trans (S.fl u v h5 h6 h7 h8) ⟨c,Int.mul_comm _ _⟩;rw [Afm];by_cases h:a=j
  ·rw [if_pos h];by_cases h2:b=j
   ·rw [if_pos h2];exact A2r hd<|Int.dvd_add (key j j hj hjn hj hjn j l hj hjn hl hln)<|Int.dvd_trans (key l j hl hln hj hjn l l hl hln hl hln) ⟨c,Int.mul_comm _ _⟩
   grind
  ·rw [if_neg h];by_cases h2:b=j
   ·grind
   ·rw [if_neg h2];exact S.fl a b ha han hb hbn
theorem DS.swap {i j:Nat} (S:DS n K H T G L k E) (hi:k<=i) (hin:i < n) (hj:k<=j) (hjn:j < n):DS n K H (swC i j T) (swG i j G) L k E:=by
 refine ⟨(λa b ha hb=>S.rt a _ ha<|Ao6 hin hjn hb),(λa b ha hb=>S.rg _ _ (Ao6 hin hjn ha)<|Ao6 hin hjn hb),S.e.swap hin hjn (λ_ _ _ _=>rfl) λ_ _ _ _=>rfl,λa b ha hb hbn=>?_,λa b ha hb=>?_,(λa b ha han hb hbn=>S.fl _ _ (A0v hi hj ha) (Ao6 hin hjn han) (A0v hi hj hb)<|Ao6 hin hjn hbn)⟩
 ·unfold swG;rw [Awt (a:=a) AGp AGp];exact S.z a _ ha (A0v hi hj hb)<|Ao6 hin hjn hbn
 ·unfold swG;rw [Awt (a:=a) AGp AGp,Awt (a:=b) AGp AGp];exact S.w a b ha hb
theorem DS.low (S:DS n K H T G L k E) (hs:∀ i j,i < n->j < n->H i j=H j i) {E':Nat} (h:∀ a e,k<=a->a + e < n->(2:Int) ^ E' ∣ G a (a + e)):DS n K H T G L k E':=⟨S.rt,S.rg,S.e,S.z,S.w,λi j hi hin hj hjn=>by
 rcases Nat.lt_or_ge j i with hl | hl
 ·rw [S.e.sym hs S.rg hin hjn]
  have:=h j (i - j) hj AGp
  grind
 ·have:=h i (j - i) hi AGp
  grind⟩
theorem DS.some (S:DS n K H T G L k E) (hs:∀ i j,i < n->j < n->H i j=H j i) (hd: ¬ (2:Int) ^ K ∣ det n H) (hk:k < n):∃ e,k + e < n/\G k (k + e)≠0:=by
 obtain ⟨j,h1,h2,h3⟩:=S.e.some hd hk λj hj=>by rw [S.e.sym hs S.rg hk AGp];exact S.z j k hj (Nat.le_refl k) hk
 exact ⟨j - k,AGp,by grind⟩
theorem DS.bound (S:DS n K H T G L k E) (hs:∀ i j,i < n->j < n->H i j=H j i) {v:Nat} (hd: ¬ (2:Int) ^ v ∣ det n H) (hv:v<=K) (hk:k < n):E < v:=by
 rcases Nat.lt_or_ge E v with h | h
 ·exact h
 ·exfalso;have hp:(2:Int) ^ v≠0:=Int.pow_ne_zero AGr
  have hrow:∀ q,q < n->(2:Int) ^ v ∣ G k q:=λq hq=>by
   rcases Nat.lt_or_ge q k with hl | hl
   ·rw [S.e.sym hs S.rg hk hq,S.z q k hl (Nat.le_refl k) hk];simp_all
   ·exact Int.dvd_trans (AWd h)<|S.fl k q (Nat.le_refl k) hk hl hq
  have h1:det n G=2 ^ v * det n (AU4 G k λq=>G k q / 2 ^ v):=by
   rw [<- Auo _ _ hk];refine AUd λi j hi hj=>?_;rw [AT6]
   by_cases h:i=k
   ·subst h;rw [if_pos rfl,Int.mul_ediv_cancel'<|hrow j hj]
   ·rw [if_neg h]
  have h2:Eqm (2 ^ v) (det n G) (det n H):=S.e.det.down<|AWd hv;exact hd<|Apy h2.symm (Int.dvd_refl _) ⟨_,h1⟩
theorem BDx {a:Int} (hL:Ahx L) (hk:Ac5 L=k) (i j:Nat):bm (L ++ [((E:Int),1,a,0,0)]) i j=if i=k/\j=k then 2 ^ E * a else bm L i j:=by
 unfold bm;rw [Ap3 hL,Nat.zero_add,hk];show At3 _ k k ((2:Int) ^ E * a) i j=_;rw [Ady]
theorem BDy {a b c:Int} (hL:Ahx L) (hk:Ac5 L=k) (i j:Nat):bm (L ++ [((E:Int),2,a,b,c)]) i j=if i=k/\j=k then 2 ^ E * a else if i=k/\j=k + 1 then 2 ^ E * b else if i=k + 1/\j=k then 2 ^ E * b else if i=k + 1/\j=k + 1 then 2 ^ E * c else bm L i j:=by
 unfold bm;rw [Ap3 hL,Nat.zero_add,hk];show A0t _ k ((2:Int) ^ E * a) (2 ^ E * b) (2 ^ E * c) i j=_;rw [Abr]
theorem Awu (hL:Ahx L) (hk:Ac5 L=k) (h:k<=i∨k<=j):bm L i j=0:=Ato hL AGp
theorem DS.next1 {a:Int} (S:DS n K H T G L k E) (hs:∀ i j,i < n->j < n->H i j=H j i) (hL:Ahx L) (hkL:Ac5 L=k) (hk:k < n) (hz:∀ j,k < j->j < n->G k j=0) (ha:G k k=2 ^ E * a):DS n K H T G (L ++ [((E:Int),1,a,0,0)]) (k + 1) E:=by
 refine ⟨S.rt,S.rg,S.e,λi j hi hj hjn=>?_,λi j hi hj=>?_,(λi j hi hin hj hjn=>S.fl i j AGp hin AGp hjn)⟩
 ·by_cases h:i=k
  ·grind
  ·exact S.z i j AGp AGp hjn
 ·rw [BDx hL hkL];by_cases h:i=k
  ·by_cases h2:j=k
   ·grind
   ·rw [if_neg AGp,Awu hL hkL<|.inl AGp,S.e.sym hs S.rg AGp AGp,h];exact S.z j k AGp (Nat.le_refl k) hk
  ·rw [if_neg AGp];by_cases h2:j=k
   ·rw [Awu hL hkL<|.inr AGp,h2];exact S.z i k AGp (Nat.le_refl k) hk
   ·exact S.w i j AGp AGp
theorem DS.next2 {a b c:Int} (S:DS n K H T G L k E) (hs:∀ i j,i < n->j < n->H i j=H j i) (hL:Ahx L) (hkL:Ac5 L=k) (hk:k + 1 < n) (hz:∀ j,k + 1 < j->j < n->G k j=0/\G (k + 1) j=0) (ha:G k k=2 ^ E * a) (hb:G k (k + 1)=2 ^ E * b) (hc:G (k + 1) (k + 1)=2 ^ E * c):DS n K H T G (L ++ [((E:Int),2,a,b,c)]) (k + 2) E:=by
 refine ⟨S.rt,S.rg,S.e,λi j hi hj hjn=>?_,λi j hi hj=>?_,(λi j hi hin hj hjn=>S.fl i j AGp hin AGp hjn)⟩
 ·by_cases h:i=k
  ·grind
  ·by_cases h2:i=k + 1
   ·grind
   ·exact S.z i j AGp AGp hjn
 ·rw [BDy hL hkL];have Ab:G (k + 1) k=2 ^ E * b:=by rw [S.e.sym hs S.rg hk AGp,hb]
  by_cases h:k<=i
  ·rcases Nat.lt_or_ge j k with h2 | h2
   ·rw [if_neg AGp,if_neg AGp,if_neg AGp,if_neg AGp,Awu hL hkL<|.inl h,S.e.sym hs S.rg AGp AGp];exact S.z j i h2 h AGp
   grind
  ·rw [if_neg AGp,if_neg AGp,if_neg AGp,if_neg AGp];rcases Nat.lt_or_ge j k with h2 | h2
   ·exact S.w i j AGp h2
   ·rw [Awu hL hkL<|.inr h2];exact S.z i j AGp h2 AGp
end
structure DL (K:Nat) (L:List AUr) (k E:Nat):Prop where
 sum:Ac5 L=k
 sz:Ahx L
 rg:∀ i,i < L.length->RG 2 K L i
 le:∀ b∈L,b.1<=E
theorem DL.nil:DL K [] 0 0:=⟨rfl,λb h=>(nomatch h),λi h=>absurd h<|Nat.not_lt_zero i,λb h=>(nomatch h)⟩
theorem DL.push {E F m:Nat} {L:List AUr} {b:AUr} (B:DL K L k E) (hE:E<=F) (hb:b.1=F) (hP:A7v 2 K b) (hm:b.2.1=m) (Ab:m=1∨m=2):DL K (L ++ [b]) (k + m) F:=by
 refine ⟨by rw [Atp,B.sum];omega,λx hx=>?_,λi hi=>⟨λx hx=>?_,λh0 x y hx hy=>?_⟩,λx hx=>?_⟩
 ·rcases List.mem_append.1 hx with h | h
  ·exact B.sz x h
  grind
 ·rcases Nat.lt_or_ge i L.length with h | h
  ·rw [List.getElem?_append_left h] at hx;exact (B.rg i h).1 x hx
  grind
 ·rw [List.length_append,List.length_singleton] at hi;rcases Nat.lt_or_ge i L.length with h | h
  ·rw [List.getElem?_append_left h] at hx;rw [List.getElem?_append_left AGp] at hy;exact (B.rg i h).2 h0 x y hx hy
  ·rw [List.getElem?_append_right h] at hx;rw [show i - L.length=0 by omega] at hx;obtain rfl:b=x:=by simpa using hx
   rw [List.getElem?_append_left AGp] at hy;have:=B.le y<|List.mem_of_getElem? hy;omega
 ·rcases List.mem_append.1 hx with h | h
  ·have:=B.le x h;omega
  grind
end Go.Proofs.YtkakafabeobahaaGreatDoor
namespace Go.Proofs.YtkakafabeobahaaGreatDoor
open Go Go.QF
theorem Aaw:FdT Tryz.prog 94 0 0 3:=⟨_,_,Tryz.underlying94,rfl,rfl,rfl⟩
theorem AVs:FdT Tryz.prog 94 1 1 25:=⟨_,_,Tryz.underlying94,rfl,rfl,rfl⟩
theorem Ah3:FdT Tryz.prog 94 2 2 25:=⟨_,_,Tryz.underlying94,rfl,rfl,rfl⟩
theorem Aax:SlT Tryz.prog 181 25 1:=Akl Tryz.underlying181 AG3
theorem Au7:ZeT Tryz.prog 25 (.slice none 0 0) 24:=Aje AG3
end Go.Proofs.YtkakafabeobahaaGreatDoor
namespace Go.Proofs.YtkakafabeobahaaGreatDoor
open Go Go.QF
set_option maxRecDepth 100000
set_option maxHeartbeats 40000000
def Adz (fuel:Nat) (Ab Aa Ac Ad:Int):Option ((Int × Int × Int × Int) ⊕ (Int × Int)):=
 if ¬ Aa=0 then if Aa≠0 then some (.inl (Aa,w64<|Ab - w64 (w64 (Int.tdiv Ab Aa) * Aa),Ad,w64<|Ac - w64 (w64 (Int.tdiv Ab Aa) * Ad))) else none else some<|.inr (Ab,Ac)
def AZ0 (fuel:Nat) (a1 a2:Int):Option (Int × Bool):=
 (iter (λs=>Adz fuel s.1 s.2.1 s.2.2.1 s.2.2.2) fuel (a2,a1,0,1)).bind (λ((Ac,Ad):Int × Int)=>if a2≠0 then if a2≠0 then some (Int.tmod (w64<|Int.tmod Ad a2 + a2) a2,decide (Ac=1)) else none else none)
theorem Alw {r:(Int × Bool)} (hp:AZ0 fuel a1 a2=some r):AT3 Tryz.prog 162 #[(.int .i64 a1),(.int .i64 a2)] h (λx h'=>Ext h h'/\x= .tuple #[.int .i64 r.1,.bool r.2]):=by
 unfold AZ0 at hp;refine cwf (l:=[_,_]) Tryz.func162 rfl rfl (AGt<|ATu<|AT7<|AGq<|AGq<|ATu<|AT7<|ATu<|AG1<|AGv<|AGx ?_);have K0:=Kst.k0 h;refine AZp 1073735616 hp (λx=>[(6,(.int .i64 x.1)),(7,(.int .i64 x.2.1)),(8,(.int .i64 x.2.2.1)),(9,(.int .i64 x.2.2.2))]) (λx=>K0.L) K0 ⟨rfl,rfl,rfl,rfl,trivial⟩ ?_;rintro ⟨u9,Aq,Ar,Au⟩ Av h6 y5 K8 Aa Ag;unfold Adz at Aa;refine AGv<|AGt<|AGq<|AV2 rfl rfl (AGw<|⟨_,rfl,λAb=>?_,λAb=>?_⟩)
 ·refine AG5<|q_t<|AGx<|AGt<|AGq<|AGq ?_;obtain ⟨Ah,Ai⟩:=ifN<|AT9 Aa Ab;refine At8 rfl rfl Ah (AT7<|AGq<|AGq<|AGq<|AGq<|Aai rfl rfl (AVm rfl rfl (ATu<|AG1<|ATc<|AGq<|AGq<|AGq<|AGq<|Aai rfl rfl (AVm rfl rfl (ATu<|ATu<|ATr<|q_b<|q_t ?_)))));exact ⟨_,(AGs Ai).symm,K8,rfl,rfl,rfl,rfl,trivial⟩
 ·refine ATk<|ATl<|ATl<|AUi<|q_t<|AGt<|AGq<|AGq ?_;obtain ⟨Aj,Ak⟩:=ifN<|Ag _ (AGs<|AUa Aa Ab).symm;refine Aft rfl rfl Aj (AGq<|ATp rfl rfl (AGq ?_));obtain ⟨Am,Ao⟩:=ifN Ak;refine Aft rfl rfl Am (AGq<|AWe rfl rfl (ATu<|AG1<|AG6 ?_));obtain rfl:=AGs Ao;exact ⟨_,AU0,K8.x,rfl⟩
def Afn (fuel:Nat) (Aa:LiI) (Ab Ac:Int):Option ((Int × Int) ⊕ Int):=
 if Ac < (Aa.length:Int) then none else some<|.inr Ab
def AZ1 (fuel:Nat) (Ab:LiI) (Ac Aa:Int):Option ((Int × Int) ⊕ Int):=
 if Aa < (Ab.length:Int) then (iter (λs=>Afn fuel Ab s.1 s.2) fuel (Ac,w64<|Aa + 1)).bind (λ(Ad:Int)=>some<|.inl (Ad,w64<|Aa + 1)) else some<|.inr Ac
def AXg (fuel:Nat) (a5 Ad:Int) (Af:LiA) (Ag Aa:Int) (Ab:LiI):Option ((Int × LiI) ⊕ LiI):=
 if Aa < (Af.length:Int) then (gI Ab Ad).bind λAe=>(gI Ae Aa).bind λAh=>if a5≠0 then some (.inl (w64<|Aa + 1,sI Ab Ad<|sI Ae Aa<|Int.tmod (w64<|Ah * Ag) a5)) else none else some<|.inr Ab
def Aet (fuel:Nat) (Aa Ab:Int):Option (Int ⊕ Unit):=
 if Ab < Aa then none else some<|.inr ()
def Aeu (fuel:Nat) (a3 Ae:LiI) (Ab:Int) (Ac:LiI):Option ((Int × LiI) ⊕ LiI):=
 if Ab < (Ae.length:Int) then (gI Ac Ab).bind λAd=>if 0<=(a3.length:Int)/\(a3.length:Int)<=(Ad.length:Int) then if (List.drop (Int.toNat (a3.length:Int)) Ad).length<=100000000 then some (.inl (w64<|Ab + 1,sI Ac Ab<|List.drop (Int.toNat (a3.length:Int)) Ad)) else none else none else some<|.inr Ac
def AZ2 (fuel:Nat) (a5 Aa:Int) (Ab:LiI):Option ((Int × LiI) ⊕ ((LiI × Int) ⊕ LiI)):=
 if 0<=Aa then (gI Ab Aa).bind λAd=>(gI Ad Aa).bind λAe=>(AZ0 fuel Ae a5).bind λ(Af,Ag)=>if (!Ag)=true then some (.inr<|.inl ([],8)) else (((iter (λs=>AXg fuel a5 Aa Ad Af s.1 s.2) fuel (0,Ab)).bind (λ(Ah:LiI)=>some Ah)):Option LiI).bind λAi=>(iter (λs=>Aet fuel Aa s) fuel 0).bind (λ(_:Unit)=>some<|.inl (w64<|Aa - 1,Ai)) else some<|.inr<|.inr Ab
def Afo (fuel:Nat) (a3 Af:LiI) (Aa:Int) (Ac:LiI):Option ((Int × LiI) ⊕ LiI):=
 if Aa < (Af.length:Int) then (gI Ac Aa).bind λAd=>if 0 < Ad.length/\Ad.length<=100000/\0 < (a3.length:Int)/\(a3.length:Int)<=100000 then (gI (sI Ac Aa<|Ad ++ List.replicate (Int.toNat (a3.length:Int)) 0) Aa).bind λAe=>(gI Ae<|w64<|(a3.length:Int) + Aa).bind λAg=>some (.inl (w64<|Aa + 1,sI (sI Ac Aa<|Ad ++ List.replicate (Int.toNat (a3.length:Int)) 0) Aa<|sI Ae (w64<|(a3.length:Int) + Aa) 1)) else none else some<|.inr Ac
def AZ9 (fuel:Nat) (a3:LiI) (a5:Int):Option (LiI × Int):=
 (Aag fuel a3).bind λx6=>if (!x6)=true then some ([],3) else (AVr fuel a5).bind λAc=>if ¬ Ac=0 then some ([],Ac) else (AVw fuel a3 a5).bind λAd=>(iter (λs=>Afo fuel a3 Ad s.1 s.2) fuel (0,Ad)).bind (λ(Ae:LiI)=>((((some a5):Option Int).bind λAk=>(iter (λs=>AZ1 fuel Ae s.1 s.2) fuel (1,0)).bind (λ(Ah:Int)=>some Ah)):Option Int).bind λAm=>((some a5):Option Int).bind λAo=>(iter (λs=>AZ2 fuel a5 s.1 s.2) fuel (w64<|(a3.length:Int) - 1,Ae)).bind (λex=>match ex with | .inl Ai=>(some Ai) | .inr Af=>(iter (λs=>Aeu fuel a3 Af s.1 s.2) fuel (0,Af)).bind (λ(Aj:LiI)=>some (Aj,0))))
theorem Aij {Bq:Value} {r:(LiI × Int)} (H2:AX8 (cI .i64) h Bq a3) (hp:AZ9 fuel a3 a5=some r):AT3 Tryz.prog 104 #[Bq,(.int .i64 a5)] h (λx h'=>Ext h h'/\ ∃ (x0:Value) (F0:List Nat) (Cd:List LnA) (Ce:List Value),x= .tuple #[x0,.int .i64 r.2]/\AV3 (cI .i64) 61 2 h' F0 Cd Ce x0 r.1/\Sp h' h.size [F0]):=by
 unfold AZ9 at hp;refine cwf (l:=[_,_]) Tryz.func104 rfl rfl (AGt<|ATu<|AG1<|AGv<|AGt<|AGq ?_);have K0:=Kst.k0 h;obtain ⟨x6,Cf,Bw⟩:=AGu hp;refine AYn K0 (Ajs (H2.ext K0.x) Cf) λEu E9 Bx=>AW0 rfl (AGw<|⟨_,rfl,λAp=>?_,λAp=>?_⟩)
 ·refine AGt<|ATu<|AG1<|AG6<|ATj ?_;have Aq:=Kst.anil2 (cI .i64) 61 2 Bx;obtain rfl:=AGs<|ifT Bw Ap;exact ⟨_,AU0,Aq.x,_,_,_,_,rfl,(Aq.o2 p0),Aq.s.sel [0] AGr⟩
 ·refine AG5<|q_t<|AGv<|AGt<|AGq ?_;obtain ⟨Ew,Cg,By⟩:=AGu<|Abh Bw Ap;refine AYn Bx (AY7 Cg) λEy Ez Ar=>AT7<|AGq<|AV2 rfl rfl (AGw<|⟨_,rfl,λAu=>?_,λAu=>?_⟩)
  ·refine AGt<|AGq<|ATu<|AG1<|AG6<|ATj ?_;have Av:=Kst.anil2 (cI .i64) 61 2 Ar;obtain rfl:=AGs<|AT9 By Au;exact ⟨_,AU0,Av.x,_,_,_,_,rfl,(Av.o2 p0),Av.s.sel [0] AGr⟩
  ·refine AG5<|q_t<|AGt<|AGq<|AUb ATg rfl H2 (AT7<|AGq<|AGq ?_);obtain ⟨Ch,Ci,Cj⟩:=AGu<|AUa By Au;refine Ahr Ar (AZd (H2.ext Ar.x) Ci) λCk Cm Cn Af Fa Fb Aw=>AG1<|AGv<|AGt<|AGq<|AUb ATg rfl (Aw.o2 p0).rd (AGq<|AGw<|AGx<|AYo 4503597479887360 (λx:(Int) × (LiI) × LnA × LnN × LvA=>(x.1,x.2.1)) ((0,Ch,Ck,Cm,Cn):(Int) × (LiI) × LnA × LnN × LvA) Cj (λx=>[(31,(.int .i64 x.1))]) (λx=>Aw.L.set 0<|aO2 (cI .i64) 61 2 x.2.2.1 x.2.2.2.1 x.2.2.2.2 Af x.2.1) Aw ⟨rfl,trivial⟩ ?_);rintro ⟨Co,Fc,Ai,Aj,Ak⟩ Fd Fe Ff Ac Ax Cp;unfold Afo at Ax;refine AGt<|ATz rfl rfl (AGw<|AGv<|⟨_,rfl,λAy=>?_,λAy=>?_⟩)
   ·refine AG5<|q_t<|AGv<|AGx<|AGt<|AGq<|AT7<|AGq<|AGq<|AGq<|AGq ?_;obtain ⟨Fg,Bz,Cq⟩:=AGu<|AT9 Ax Ay;refine AUs ATg ATq (Ac.o2 p0) Bz λ_ Fh Cr=>AGq ?_;obtain ⟨Ct,Cu⟩:=ifN Cq;refine A9s ATe Ajf Acs ATg ATq (Ac.o2 p0) Cr Bz trivial tt2 rfl rfl (λ_=>rfl) (λ_=>rfl) rfl AGr Ct λFi Fj Fk Fl Fm Fo Cv Cw Cx=>AGw<|ATc<|AGq<|AGq ?_;have B3:=Ac.uo2 p0 Cw Cv Cx;obtain ⟨Fp,B4,Cy⟩:=AGu Cu;refine AUs ATg ATq (B3.o2 p0) B4 λ_ Fq Cz=>AGq<|AGq<|ATp rfl rfl ?_;obtain ⟨Ft,C0,C1⟩:=AGu Cy;refine AZ7 (m:=Co) B3 p0 ATe ATh Cz B4 C0 (λ_=>rfl) λ_ Fu C2=>ATr<|q_b<|q_t<|ATc<|ATp rfl rfl (AGq<|AGw ?_);exact ⟨(_,_,_,_,_),(AGs C1).symm,C2,rfl,trivial⟩
   ·refine ATk<|ATl<|ATl<|AUi<|q_t<|AGt<|AGq<|AGq ?_;obtain ⟨C3,C4,C5⟩:=AGu<|Cp _ (AGs<|AUa Ax Ay).symm;refine ATm (K':=(λxr h'=> ∃ x:(Int),x=C3/\xr=(.int .i64 x)/\Kst h h' (Ac.L))) trivial rfl ?_ λFv Fw C6=>?_
    ·refine cwf (l:=[_,_]) Tryz.func138 rfl rfl (AGt<|AT7<|AGq ?_);obtain ⟨C7,C8,C9⟩:=AGu C4;refine ATm (K':=(λxr h'=> ∃ x:(Nat) × (Int),x.2=C7/\xr=(.func (.func 197) #[] #[(.pointer<|some ⟨x.1,0,none⟩)])/\Kst h h' (aB 2 x.1 [(.int .i64 x.2)] :: Ac.L))) trivial rfl ?_ λFx Fy Da=>?_
     ·refine cwf (l:=[_]) Tryz.func161 rfl rfl (AGt<|AZa Ac [(.int .i64 a5)] λDb Fz F4 Dc=>AT7<|A4w rfl (AG1<|AG6<|⟨_,AS9,((Db,a5):(Nat) × (Int)),?_,rfl,?_⟩))
      ·exact AGs C8
      ·exact Dc
     obtain ⟨⟨F5,F6⟩,Dd,rfl,Az⟩:=Da;refine ⟨trivial,?_⟩;subst Dd;refine AT7<|AG1<|AGv<|AGt<|AGq<|AUb ATg rfl (Az.o2 p1).rd (AGq<|AGw<|AGx<|AZp 18889465931478580847040 C9 (λx=>[(6,(.int .i64 x.1)),(13,(.int .i64 x.2))]) (λx=>Az.L) Az ⟨rfl,rfl,trivial⟩ ?_);rintro ⟨De,F7⟩ F8 F9 Ga A3 A4 Df;unfold AZ1 at A4;refine AGt<|ATz rfl rfl (AGw<|AGv<|⟨_,rfl,λA5=>?_,λA5=>?_⟩)
     ·refine AG5<|q_t<|AGv<|AGx<|AGt<|AGq<|AT7<|AGq<|ATp rfl rfl (AG1<|AGx<|AZp 9444732965739290165568 (AT9 A4 A5) (λx=>[(6,(.int .i64 x.1)),(8,(.int .i64 x.2))]) (λx=>A3.L) A3 ⟨rfl,rfl,trivial⟩ ?_);rintro ⟨Gb,Gc⟩ Gd Ge Gf B5 A6 Dg;unfold Afn at A6;refine AGv<|AGt<|AGq<|AGq<|AUb ATg rfl (B5.o2 p1).rd (ATz rfl rfl (AGw<|⟨_,rfl,λA7=>?_,λA7=>?_⟩))
      ·refine AG5<|q_t<|AGv ?_;have Dh:=AT9 A6 A7;cases Dh
      ·refine ATk<|ATl<|ATl<|AUi<|q_b<|q_t<|ATc<|ATp rfl rfl (AGq<|AGw ?_);exact ⟨_,(AGs<|Dg _ (AGs<|AUa A6 A7).symm).symm,B5,rfl,rfl,trivial⟩
     ·refine ATk<|ATl<|ATl<|AUi<|q_t<|AGt<|AGq<|AG1<|AG6<|⟨_,AS9,(De:(Int)),?_,rfl,?_⟩
      ·exact AGs<|Df _ (AGs<|AUa A4 A5).symm
      ·exact A3.sel [1] AGr
    obtain ⟨Gg,Di,rfl,B6⟩:=C6;refine ⟨trivial,?_⟩;subst Di;refine AZ4<|AGq ?_;obtain ⟨Dj,Dk,Dl⟩:=AGu C5;refine ATm (K':=(λxr h'=> ∃ x:(Nat) × (Int),x.2=Dj/\xr=(.func (.func 197) #[] #[(.pointer<|some ⟨x.1,0,none⟩)])/\Kst h h' (aB 2 x.1 [(.int .i64 x.2)] :: B6.L))) trivial rfl ?_ λGh Gi Do=>?_
    ·refine cwf (l:=[_]) Tryz.func161 rfl rfl (AGt<|AZa B6 [(.int .i64 a5)] λDp Gj Gk Dq=>AT7<|A4w rfl (AG1<|AG6<|⟨_,AS9,((Dp,a5):(Nat) × (Int)),?_,rfl,?_⟩))
     ·exact AGs Dk
     ·exact Dq
    obtain ⟨⟨Gl,Gm⟩,Dr,rfl,B7⟩:=Do;refine ⟨trivial,?_⟩;subst Dr;refine AG1<|AGv<|AGt<|AGq<|AVm rfl rfl (AG1<|AGx<|AZp 81129638414606105235036701751344 Dl (λx=>[(11,(.int .i64 x.1))]) (λx=>B7.L.set 1<|aO2 (cI .i64) 61 2 Ai Aj Ak Af x.2) B7 ⟨rfl,trivial⟩ ?_);rintro ⟨A8,Ds⟩ Gn Gp Gq Ag A9 B8;unfold AZ2 at A9;refine AGv<|AGt<|AGq<|Afb rfl rfl (AGw<|⟨_,rfl,λBa=>?_,λBa=>?_⟩)
    ·refine AG5<|q_t<|AGv<|AGx<|AGt<|AGq<|AGq ?_;obtain ⟨Gr,Am,Dt⟩:=AGu<|AT9 A9 Ba;refine AUs ATg ATq (Ag.o2 p1) Am λ_ Gt Du=>AGq ?_;obtain ⟨Gu,Dv,Dw⟩:=AGu Dt;refine AW5 (m:=A8) ATe ATh (Ag.o2 p1) Du Am Dv λ_=>(AGq ?_);obtain ⟨⟨Gv,Gw⟩,Dx,Bb⟩:=AGu Dw;dsimp only at Bb;refine AYn Ag (Alw Dx) λGx Gy Ad=>AGq<|AUh rfl rfl (AUh rfl rfl (ATu<|AG1<|AGv<|AGt<|AGq<|AW0 rfl (AGw<|⟨_,rfl,λBc=>?_,λBc=>?_⟩)))
     ·refine AGt<|ATu<|AG1<|AG6<|ATj<|AUp<|ATj<|ATj<|AUp<|ATj ?_;have Be:=Kst.anil2 (cI .i64) 61 2 Ad;obtain rfl:=AGs<|B8 _ (AGs<|ifT Bb Bc).symm;exact ⟨_,AU0,Be.x,_,_,_,_,rfl,(Be.o2 p0),Be.s.sel [0] AGr⟩
     ·refine AG5<|q_t<|AGt<|AGq<|AGq<|AUs ATg ATq (Ad.o2 p1) Am λ_ Gz Bf=>AGq<|AGq ?_;obtain ⟨Dy,Dz,D0⟩:=AGu<|Abh Bb Bc;refine ATm (K':=(λxr h'=> ∃ x:(LiI),x=Dy/\xr= .tuple #[]/\Kst h h' (Ad.L.set 1<|aO2 (cI .i64) 61 2 Ai Aj Ak Af x))) trivial rfl ?_ λG3 G4 D2=>?_
      ·refine cwf (l:=[_,_,_]) Tryz.func163 rfl rfl (AGt<|AGq<|AUu ATe rfl ((Ad.o2 p1).rowI Bf Am) (AGq<|AGw<|AGx<|AZp 16776384 Dz (λx=>[(10,(.int .i64 x.1))]) (λx=>Ad.L.set 1<|aO2 (cI .i64) 61 2 Ai Aj Ak Af x.2) Ad ⟨rfl,trivial⟩ ?_));rintro ⟨G5,D3⟩ G6 G7 G8 Bg Bh D4;unfold AXg at Bh;refine AGt<|ATz rfl rfl (AGw<|AGv<|⟨_,rfl,λBi=>?_,λBi=>?_⟩)
       ·refine AG5<|q_t<|AGv<|AGx<|AGt<|AGq ?_;obtain ⟨G9,B9,D5⟩:=AGu<|AT9 Bh Bi;obtain ⟨Hb,Ca,D6⟩:=AGu D5;refine AW5 (m:=A8) ATe ATh (Bg.o2 p1) Bf B9 Ca λ_=>(ATu<|AG1<|ATc<|AGq<|AGq<|AGq<|AGq<|Aai rfl rfl (AGq ?_));obtain ⟨D7,D8⟩:=ifN D6;refine Aft rfl rfl D7 (AZ7 (m:=A8) Bg p1 ATe ATh Bf B9 Ca (λ_=>rfl) λ_ Hc D9=>ATr<|q_b<|q_t<|ATc<|ATp rfl rfl (AGq<|AGw ?_));exact ⟨_,(AGs D8).symm,D9,rfl,trivial⟩
       ·refine ATk<|ATl<|ATl<|AUi<|⟨_,AZ5,(D3:(LiI)),?_,rfl,?_⟩
        ·exact AGs<|D4 _ (AGs<|AUa Bh Bi).symm
        ·exact Bg
      obtain ⟨Hd,Ea,rfl,Cb⟩:=D2;refine ⟨trivial,?_⟩;subst Ea;refine AZ4<|AGq<|AGq<|AGw<|AGx<|AZp 81129599728980454027655414562816 D0 (λx=>[(85,(.int .i64 x))]) (λx=>Cb.L) Cb ⟨rfl,trivial⟩ ?_;rintro He Hf Hg Hh Eb Bj Ec;unfold Aet at Bj;refine AGt<|ATz rfl rfl (AGw<|AGv<|⟨_,rfl,λBl=>?_,λBl=>?_⟩)
      ·refine AG5<|q_t<|AGv ?_;have Ed:=AT9 Bj Bl;cases Ed
      ·refine ATk<|ATl<|ATl<|AUi<|q_b<|q_t<|ATc<|AGq<|AVm rfl rfl (AG1 ?_);exact ⟨_,(AGs<|Ec _ (AGs<|AUa Bj Bl).symm).symm,Eb,rfl,trivial⟩
    ·refine ATk<|ATl<|ATl<|AUi<|q_t<|AGv<|AGt<|AGq<|AUb ATg rfl (Ag.o2 p1).rd (AGq<|AGw<|AGx ?_);have Bm:=Ag.sel [1] AGr;dsimp only [AY6,Acl] at Bm;refine AYo 5316587464586005064888445085100834816 (λx:(Int) × (LiI) × LnA × LnN × LvA=>(x.1,x.2.1)) ((0,Ds,Ai,Aj,Ak):(Int) × (LiI) × LnA × LnN × LvA) (B8 _ (AGs<|AUa A9 Ba).symm) (λx=>[(108,(.int .i64 x.1))]) (λx=>Bm.L.set 0<|aO2 (cI .i64) 61 2 x.2.2.1 x.2.2.2.1 x.2.2.2.2 Af x.2.1) Bm ⟨rfl,trivial⟩ ?_;rintro ⟨Hj,Hk,Hl,Hm,Hn⟩ Ho Hq Hr Aa Bn Ee;unfold Aeu at Bn;refine AGt<|ATz rfl rfl (AGw<|AGv<|⟨_,rfl,λBo=>?_,λBo=>?_⟩)
     ·refine AG5<|q_t<|AGv<|AGx<|AGt<|AGq<|AG1<|ATc<|AGq<|AGq<|AGq<|AGq ?_;obtain ⟨Hs,Ae,Ef⟩:=AGu<|AT9 Bn Bo;refine AUs ATg ATq (Aa.o2 p0) Ae λ_ Ht Bp=>AGq ?_;obtain ⟨Eg,Eh⟩:=ifN Ef;refine A3o ATe rfl ((Aa.o2 p0).rowI Bp Ae) ((Aa.o2 p0).rowCap Bp Ae) rfl Eg λHu Ei Hv=>?_;obtain ⟨Ej,Ek⟩:=ifN Eh;refine A5z ATe Acs rfl rfl trivial tt2 rfl rfl (Ei<|(Aa.o2 p0).rowI Bp Ae) AGr Ej λHw Hx Hy El Em En=>?_;have Ah:=Aa.no Em En El;refine AUy ATg rfl (Ah.o2 p1) rfl Ae λHz Ia Eo Ib Ic=>Ajj ATq (Ah.o2 p1) Ae Eo rfl rfl (Ah.o p0) (Ah.dj p0 p1 AGr) λId Ep Er Es=>ATr<|q_b<|q_t<|ATc<|ATp rfl rfl (AGq<|AGw ?_);exact ⟨(_,_,_,_,_),(AGs Ek).symm,(Ah.m2 p0 p1 AGr Er Ep λz hz=> .inl<|Es z hz).sel [1] AGr,rfl,trivial⟩
     ·refine ATk<|ATl<|ATl<|AUi<|q_t<|AGt<|AGq<|ATu<|AG1<|AG6 ?_;obtain rfl:=AGs<|Ee _ (AGs<|AUa Bn Bo).symm;exact ⟨_,AU0,Aa.x,_,_,_,_,rfl,(Aa.o2 p0),Aa.s.sel [0] AGr⟩
end Go.Proofs.YtkakafabeobahaaGreatDoor
namespace Go.Proofs.YtkakafabeobahaaGreatDoor
open Go Go.QF
set_option maxRecDepth 100000
theorem Awv {m:Int} (hx:0<=x) (hxm:x < m) (hm:2<=m) (Aa:m<=2147483647) (hf:2147483648 < fuel):Ok (AZ0 fuel x m) λr=>(r.2=true->Ar9 m x r.1)/\(r.2=false->¬ ∃ y,Ar9 m x y):=by
 unfold AZ0;refine AG4 (Atg (λs:Int × Int × Int × Int=>EI m x s.1 s.2.1 s.2.2.1 s.2.2.2) (λs=>s.2.1.toNat) (Q:=λe:Int × Int=> ∃ v,EI m x e.1 0 e.2 v) (λs hE=>?_) (EI.start hx hxm)<|by grind) λe he=>?_
 ·obtain ⟨a,b,u,v⟩:=s;dsimp only at hE ⊢;have Ad:0<=b:=hE.1;have Ab:0<=a:=hE.2.1;have ham:a<=m:=hE.2.2.1;unfold Adz;refine AT2 (λh=>AVb h ?_) λh=>?_
  ·have hbd:=hE.bounds AGp;rw [Int.tdiv_eq_ediv_of_nonneg Ab,AW1 (x:=a / b) AGp AGp,AW1 (x:=a / b * b) AGp AGp,AW1 (x:=a - a / b * b) AGp AGp,AW1 (x:=a / b * v) AGp AGp,AW1 (x:=u - a / b * v) AGp AGp];have hs:=hE.step AGp;refine AGy ⟨hs,?_⟩;have h2:=Int.emod_lt_of_pos a (b:=b) AGp;rw [Int.emod_def,Int.mul_comm] at h2;grind
  ·obtain rfl:b=0:=by omega
   exact AGy ⟨v,hE⟩
 ·obtain ⟨v,hE⟩:=he;obtain ⟨a,u⟩:=e;dsimp only at hE ⊢;have hd:=EI.done hm hE;refine AVb AGp<|AVb AGp<|AGy ⟨λh=>?_,λh=>?_⟩
  ·dsimp only at h ⊢;rw [Au5 hm Aa];grind
  grind
theorem A7z {n:Nat} (Aa:1<=n) (hn:n<=8) (hf:100 < fuel):Aag fuel (tab n n T)=some true:=by
 unfold Aag;rw [Ay7 Aa hn hf];simp only [Option.bind_some,reduceIte];rw [Atl<|AUl AGp,AUv,AUe,if_pos rfl,decide_eq_true AGp]
theorem Akj {S:Type} {body:S->Option (S ⊕ E)} {s s':S} (h:body s=some (.inl s')):iter body (fuel + 1) s=iter body fuel s':=by simp [iter,h]
theorem Aik {S:Type} {body:S->Option (S ⊕ E)} {s:S} {e:E} (h:body s=some (.inr e)):iter body (fuel + 1) s=some e:=by simp [iter,h]
theorem A70 {f:Nat} {m:Int} (hm:2<=m) (Aa:m<=2147483647) (hg:∃ y,Ar9 m (x % m) y) (hf:2147483648 < f):∃ v,AZ9 f [[x]] m=some ([[v]],0)/\Ar9 m (x % m) v:=by
 obtain ⟨f,rfl⟩:∃ g,f=g + 3:=⟨f - 3,AGp⟩;have Ab:=Int.emod_nonneg x (show m≠0 by omega);have Ac:=Int.emod_lt_of_pos x (show 0 < m by omega);have h0:Aag (f + 3) [[x]]=some true:=A7z (n:=1) (T:=λ_ _=>x) AGp AGp AGp;have h1:AVr (f + 3) m=some 0:=by unfold AVr;grind
 have h2:AVw (f + 3) [[x]] m=some [[x % m]]:=A7s (n:=1) (F:=λ_ _=>x) AGp hm Aa AGp;generalize x % m=r at Ab Ac hg h2 ⊢;obtain ⟨⟨v,b⟩,h3,h4,h5⟩:=Awv Ab Ac hm Aa hf
 obtain rfl:b=true:=by
  grind
 have hv:=h4 rfl;dsimp only at hv;have Ae:=hv.1;have Aj:=hv.2.1;have e3:Int.tmod (w64<|1 * v) m=v:=by rw [Int.one_mul,AW1 (x:=v) AGp AGp,Int.tmod_eq_emod_of_nonneg Ae,Int.emod_eq_of_lt Ae Aj]
 refine ⟨v,?_,hv⟩
 have a1:iter (λs:Int × List (List Int)=>Afo (f + 3) [[x]] [[r]] s.1 s.2) (f + 3) (0,[[r]])=some [[r,1]]:=by
  rw [Akj (s':=(1,[[r,1]])) rfl,Aik rfl]
 have a2:iter (λs:Int × Int=>AZ1 (f + 3) [[r,1]] s.1 s.2) (f + 3) (1,0)=some 1:=by
  have b5:iter (λs:Int × Int=>Afn (f + 3) [[r,1]] s.1 s.2) (f + 3) (1,1)=some 1:=Aik rfl
  rw [Akj (s':=(1,1)) ?_,Aik rfl]
  show AZ1 (f + 3) [[r,1]] 1 0=_
  unfold AZ1
  rw [if_pos (by grind),show w64 (0 + 1)=1 from rfl,b5]
  rfl
 have a3:iter (λs:Int × List (List Int)=>AZ2 (f + 3) m s.1 s.2) (f + 3) (0,[[r,1]])=some (Sum.inr [[Int.tmod (w64<|r * v) m,v]]):=by
  have Aq:m≠0:=by omega
  have Ar:iter (λs:Int × List (List Int)=>AXg (f + 3) m 0 [r,1] v s.1 s.2) (f + 3) (0,[[r,1]])=some [[Int.tmod (w64<|r * v) m,v]]:=by
   rw [Akj (s':=(1,[[Int.tmod (w64<|r * v) m,1]])) ?_,Akj (s':=(2,[[Int.tmod (w64<|r * v) m,v]])) ?_,Aik rfl]
   ·show AXg (f + 3) m 0 [r,1] v 1 [[Int.tmod (w64<|r * v) m,1]]=_
    unfold AXg
    rw [if_pos<|by grind]
    show (if m≠0 then some (Sum.inl ((2:Int),[[Int.tmod (w64<|r * v) m,Int.tmod (w64<|1 * v) m]])) else none)=_
    grind
   ·show AXg (f + 3) m 0 [r,1] v 0 [[r,1]]=_
    unfold AXg
    rw [if_pos<|by grind]
    show (if m≠0 then some (Sum.inl ((1:Int),[[Int.tmod (w64<|r * v) m,1]])) else none)=_
    rw [if_pos Aq]
  have Au:iter (λs:Int=>Aet (f + 3) 0 s) (f + 3) 0=some ():=Aik rfl
  rw [Akj (s':=(-1,[[Int.tmod (w64<|r * v) m,v]])) ?_,Aik rfl]
  show AZ2 (f + 3) m 0 [[r,1]]=_
  unfold AZ2
  rw [if_pos AGr,show gI [[r,1]] (0:Int)=some [r,1] from rfl]
  simp only [Option.bind_some]
  rw [show gI [r,1] (0:Int)=some r from rfl]
  simp only [Option.bind_some]
  rw [h3]
  simp only [Option.bind_some]
  rw [if_neg AGr,Ar]
  simp only [Option.bind_some]
  rw [Au]
  rfl
 have a4:iter (λs:Int × List (List Int)=>Aeu (f + 3) [[x]] [[Int.tmod (w64<|r * v) m,v]] s.1 s.2) (f + 3) (0,[[Int.tmod (w64<|r * v) m,v]])=some [[v]]:=by
  rw [Akj (s':=(1,[[v]])) rfl,Aik rfl]
 unfold AZ9;rw [h0];simp only [Option.bind_some];rw [if_neg AGr,h1];simp only [Option.bind_some];rw [if_neg AGr,h2];simp only [Option.bind_some];rw [a1];simp only [Option.bind_some];rw [a2];simp only [Option.bind_some];rw [show w64 (([[x]].length:Nat) - 1:Int)=0 from rfl,a3];grind
end Go.Proofs.YtkakafabeobahaaGreatDoor
namespace Go.Proofs.YtkakafabeobahaaGreatDoor
open Go Go.QF
set_option maxRecDepth 100000
theorem A2s {n:Nat} (hf:n < fuel)
 (hs:∀ (r:Nat) (M:ATa),r < n->(∀ b,M r b=G r b)->body ((r:Int),tab n n M)=some (.inl (((r + 1:Nat):Int),tab n n<|AU4 M r<|G' r))) (he:∀ X,body ((n:Int),X)=some (.inr X)):iter body fuel (0,tab n n G)=some (tab n n G'):=by
 apply ok_eq;refine AUk (λr st=> ∃ M,st=((r:Int),tab n n M)/\r<=n/\ ∀ a b,M a b=if a < r then G' a b else G a b) n ⟨G,rfl,Nat.zero_le _,λa b=>by omega⟩ hf λr st hr hI=>?_;obtain ⟨M,rfl,hrn,hM⟩:=hI
 rcases Nat.lt_or_ge r n with h | h
 ·rw [hs r M h λb=>by grind];refine AGy ⟨h,_,rfl,h,λa b=>?_⟩;rw [AT6];grind
 ·obtain rfl:r=n:=by omega
  rw [he];exact AGy (Agk λa b ha hb=>by grind)
theorem BAv {n:Nat} (hf:n < fuel)
 (hs:∀ (s:Nat) (M:ATa),s < n->(∀ a b,a≠j->M a b=G a b)->M j s=G j s->body ((s:Int),tab n n M)=some (.inl (((s + 1:Nat):Int),tab n n<|AU4 M j λb=>if b=s then g s else M j b))) (he:∀ X,body ((n:Int),X)=some (.inr X)):iter body fuel (0,tab n n G)=some (tab n n<|AU4 G j g):=by
 apply ok_eq;refine AUk (λs st=> ∃ M,st=((s:Int),tab n n M)/\s<=n/\ ∀ a b,M a b=if a=j/\b < s then g b else G a b) n ⟨G,rfl,Nat.zero_le _,λa b=>by omega⟩ hf λs st hr hI=>?_;obtain ⟨M,rfl,hrn,hM⟩:=hI
 rcases Nat.lt_or_ge s n with h | h
 ·rw [hs s M h (λa b ha=>by grind)<|by grind];refine AGy ⟨h,_,rfl,h,λa b=>?_⟩;rw [AT6]
  by_cases h1:a=j
  ·subst h1;rw [if_pos rfl]
   by_cases h2:b=s
   ·grind
   ·rw [if_neg h2,hM];omega
  grind
 ·obtain rfl:s=n:=by omega
  rw [he];refine AGy<|Agk λa b ha hb=>?_;rw [hM,AT6];omega
theorem BAw {n:Nat} {c:Int}:tab n n (AU4 G j λb=>(G j b + c * G l b) % q)=tab n n (A7y q j l c G):=Agk λa b _ _=>by
 unfold A7y;rw [AT6]
theorem A71 {n r:Nat} {c:Int} {M:ATa} (h:∀ b,M r b=G r b):tab n n (AU4 M r λb=>if b=j then (M r j + c * M r l) % q else M r b)=tab n n (AU4 M r<|Ao7 q j l c G r):=Ay8 λb _=>by
 unfold Ao7;rw [h,h,h]
theorem A72 {n r:Nat} {M:ATa} (hi:i < n) (hk:k < n) (hr:r < n) (hn:n<=8):
 ((gI (tab n n M) (r:Int)).bind λx=>(gI x (i:Int)).bind λy=>(gI x (k:Int)).bind λz=>(gI (sI (tab n n M) (r:Int)<|sI x (k:Int) y) (r:Int)).bind λu=>(gI u (i:Int)).bind λw=>some<|Sum.inl (β:=List<|List Int) (w64<|(r:Int) + 1,sI (sI (tab n n M) (r:Int)<|sI x (k:Int) y) (r:Int)<|sI u (i:Int) z))=some (.inl (((r + 1:Nat):Int),tab n n<|AU4 M r λb=>M r<|sw2 k i b)):=by
 rw [AZs<|AUl hr,AZs<|AT4 hi,AZs<|AT4 hk,Ap1,Abt,AZs<|AUl hr,AU8,AZs<|AT4 hi,Ap1,Abt,AW3 AGp];congr 3;refine Agk λa b ha hb=>?_;rw [AT6,AT6,AT6];by_cases h:a=r
 ·rw [if_pos h,if_pos h];unfold sw2;grind
 omega
theorem A73 {body:Int × List (List Int) × List (List Int)->Option ((Int × List (List Int) × List (List Int)) ⊕ (List (List Int) × List (List Int)))} {g t g' t':List (List Int)} (hf:3 < fuel) (h0:body (0,g,t)=some (.inl (1,g',t))) (h1:body (1,g',t)=some (.inl (2,g',t'))) (h2:body (2,g',t')=some (.inr (g',t'))):iter body fuel (0,g,t)=some (g',t'):=by
 obtain ⟨f,rfl⟩:∃ f,fuel=f + 3:=⟨fuel - 3,AGp⟩;rw [Akj h0,Akj h1,Aik h2]
section
variable {fuel n i j k:Nat} {q c:Int} {G T:ATa}
end
end Go.Proofs.YtkakafabeobahaaGreatDoor
namespace Go.Proofs.YtkakafabeobahaaGreatDoor
open Go Go.QF
set_option maxRecDepth 100000
structure PV (n k:Nat) (p:Int) (G:ATa) (r c E:Nat):Prop where
 hr:k<=r
 hrc:r<=c
 hc:c < n
 u:∃ u,G r c=u * p ^ E/\¬ p ∣ u
 dg:r≠c-> ∀ a,k<=a->a < n->p ^ (E + 1) ∣ G a a
def Dn (n k d i a e:Nat):Prop:=k<=a/\a + e < n/\(e < d∨e=d/\a < i)
section
variable {fuel n k f:Nat} {p q:Int} {G:ATa}
end
end Go.Proofs.YtkakafabeobahaaGreatDoor
namespace Go.Proofs.YtkakafabeobahaaGreatDoor
open Go Go.QF
theorem Ay9 (hk:k<=30) (a:Int):AZw .and .i64 a (2 ^ k - 1)=a % 2 ^ k:=by
 show w64 (((BitVec.ofInt 64 a &&& BitVec.ofInt 64 (2 ^ k - 1)).toNat:Nat):Int)=_;have h1:(2:Int) ^ k<=2 ^ 30:=Aei AGr hk;have h2:0 < (2:Int) ^ k:=Int.pow_pos AGr;have h3:(2:Int) ^ 30=1073741824:=by decide
 have h4:((2:Int) ^ k)=((2 ^ k:Nat):Int):=by grind
 have h5:0 < 2 ^ k:=Nat.pow_pos AGr
 have e1:(((2:Int) ^ k - 1) % ((2 ^ 64:Nat):Int)).toNat=2 ^ k - 1:=by
  omega
 have e2:=Arz (q:=(2:Int) ^ k) h2 a;rw [BitVec.toNat_and,BitVec.toNat_ofInt,BitVec.toNat_ofInt,e1,Nat.and_two_pow_sub_one_eq_mod,Int.natCast_emod,Int.toNat_of_nonneg<|Int.emod_nonneg _ AGr,<- h4,Int.emod_emod_of_dvd _ (show (2:Int) ^ k ∣ ((2 ^ 64:Nat):Int) from ⟨2 ^ (64 - k),by rw [<- Int.pow_add,show k + (64 - k)=64 by omega];decide⟩),wk AGp]
theorem A4d {P A B C y c:Int} (hc:Eqm q c ((B * y - C * x) * v)) (hd:Eqm q d ((B * x - A * y) * v)) (hv:Eqm q (v * (A * C - B * B)) 1):((P * x + c * (P * A)) % q + d * (P * B)) % q=0/\((P * y + c * (P * B)) % q + d * (P * C)) % q=0:=by
 have one:∀ z:Int,Eqm q (P * z - P * z * (v * (A * C - B * B))) 0:=λz=>by
  have:=(Eqm.refl q<|P * z).sub ((Eqm.refl q<|P * z).mul hv);grind
 constructor
 ·refine Eqm.zero<|((Eqm.mod _ _).add (Eqm.refl _ _)).trans ((((Eqm.refl _ _).add (hc.mul<|Eqm.refl _ _)).add (hd.mul<|Eqm.refl _ _)).trans (Eqm.trans (Eqm.of_eq ?_)<|one x));grind
 ·refine Eqm.zero<|((Eqm.mod _ _).add (Eqm.refl _ _)).trans ((((Eqm.refl _ _).add (hc.mul<|Eqm.refl _ _)).add (hd.mul<|Eqm.refl _ _)).trans (Eqm.trans (Eqm.of_eq ?_)<|one y));grind
def mvF (c i a:Nat):Nat:=if a=c then i else if c < a/\a<=i then a - 1 else a
theorem A0w (i a:Nat):mvF i i a=a:=by
 unfold mvF;grind
theorem Atq {c:Nat} (hc:c + 1<=i) (a:Nat):mvF (c + 1) i (sw2 c (c + 1) a)=mvF c i a:=by
 unfold sw2;by_cases h1:a=c + 1
 ·rw [if_pos h1];unfold mvF;grind
 ·rw [if_neg h1];by_cases h2:a=c
  ·rw [if_pos h2];unfold mvF;grind
  ·rw [if_neg h2];unfold mvF;grind
def mvG (c i:Nat) (G:ATa):ATa:=λa b=>G (mvF c i a)<|mvF c i b
def mvC (c i:Nat) (T:ATa):ATa:=λa b=>T a<|mvF c i b
theorem A74 (i:Nat) (G:ATa):mvG i i G=G:=by funext a b;unfold mvG;rw [A0w,A0w]
theorem A75 (i:Nat) (T:ATa):mvC i i T=T:=by funext a b;unfold mvC;rw [A0w]
theorem Aza {c:Nat} (hc:c + 1<=i) (G:ATa):swG c (c + 1) (mvG (c + 1) i G)=mvG c i G:=by funext a b;unfold swG mvG;rw [Atq hc,Atq hc]
theorem Azb {c:Nat} (hc:c + 1<=i) (T:ATa):swC c (c + 1) (mvC (c + 1) i T)=mvC c i T:=by funext a b;unfold swC mvC;rw [Atq hc]
theorem A0x (c i:Nat):mvF c i c=i:=by unfold mvF;rw [if_pos rfl]
theorem A76 {c:Nat} (h:c < a) (h2:a<=i):mvF c i a=a - 1:=by unfold mvF;grind
theorem BAx {f:Nat} (hf:f<=i) (hij:i < j) (G:ATa):mvG f (i + 1) (mvG f j G) f f=G i i/\mvG f (i + 1) (mvG f j G) f (f + 1)=G i j/\mvG f (i + 1) (mvG f j G) (f + 1) (f + 1)=G j j:=by
 unfold mvG;rw [A0x,A76 (show f < f + 1 by omega) AGp,show f + 1 - 1=f by omega,A0x,A76 (show f < i + 1 by omega) AGp];grind
def QSt (n k K:Nat) (G:ATa) (d i r c l:Nat):Prop:=
 (l=K/\r=k/\c=k/\ ∀ a e,Dn n k d i a e->G a (a + e)=0)∨(l < K/\PV n k 2 G r c l/\ ∀ a e,Dn n k d i a e->(2:Int) ^ l ∣ G a (a + e))
section
variable {n k K d i r c l:Nat} {G:ATa}
theorem QSt.init:QSt n k K G 0 k k k K:= .inl ⟨rfl,rfl,rfl,λa e h=>by unfold Dn at h;omega⟩
theorem QSt.new {e:Nat} {u:Int} (H:QSt n k K G d i r c l) (hi:k<=i) (hin:i + d < n) (hx:G i (i + d)=u * 2 ^ e) (hu: ¬ (2:Int) ∣ u) (hl:e < l):QSt n k K G d (i + 1) i (i + d) e:=by
 have key:∀ a e',Dn n k d (i + 1) a e'->Dn n k d i a e'∨(a=i/\e'=d):=λa e h=>by unfold Dn at *;omega
 have hK:e < K:=by
  rcases H with ⟨h1,_⟩ | ⟨h1,_⟩ <;> omega
 have all:∀ a e',Dn n k d i a e'->(2:Int) ^ (e + 1) ∣ G a (a + e'):=λa e' h=>by
  rcases H with ⟨h1,_,_,h4⟩ | ⟨_,_,h3⟩
  ·simp_all
  ·exact Int.dvd_trans (AWd AGp)<|h3 a e' h
 refine .inr ⟨hK,⟨hi,AGp,hin,⟨u,hx,hu⟩,λhne a h1 h2=>?_⟩,λa e' h=>?_⟩
 ·exact all a 0 (by unfold Dn;omega)
 ·rcases key a e' h with h | ⟨rfl,rfl⟩
  ·exact Int.dvd_trans (AWd AGp) (all a e' h)
  simp_all
theorem QSt.old (H:QSt n k K G d i r c l) (hx:(2:Int) ^ l ∣ G i (i + d)) (h0:l=K->G i (i + d)=0):QSt n k K G d (i + 1) r c l:=by
 have key:∀ a e',Dn n k d (i + 1) a e'->Dn n k d i a e'∨(a=i/\e'=d):=λa e h=>by unfold Dn at *;omega
 rcases H with ⟨h1,h2,h3,h4⟩ | ⟨h1,h2,h3⟩
 ·refine .inl ⟨h1,h2,h3,λa e h=>?_⟩;grind
 ·refine .inr ⟨h1,h2,λa e' h=>?_⟩;grind
theorem QSt.row (H:QSt n k K G d i r c l) (hi: ¬ i + d < n):QSt n k K G (d + 1) k r c l:=by
 have key:∀ a e,Dn n k (d + 1) k a e->Dn n k d i a e:=λa e h=>by unfold Dn at *;omega
 rcases H with ⟨h1,h2,h3,h4⟩ | ⟨h1,h2,h3⟩
 ·exact .inl ⟨h1,h2,h3,λa e h=>h4 a e<|key a e h⟩
 ·exact .inr ⟨h1,h2,λa e h=>h3 a e<|key a e h⟩
theorem QSt.done (H:QSt n k K G (n - k) i r c l) (hk:k < n) (hne:∃ e,k + e < n/\G k (k + e)≠0):l < K/\PV n k 2 G r c l/\ ∀ a e,k<=a->a + e < n->(2:Int) ^ l ∣ G a (a + e):=by
 rcases H with ⟨_,_,_,h4⟩ | ⟨h1,h2,h3⟩
 ·obtain ⟨e,he,hx⟩:=hne;exact absurd (h4 k e (by unfold Dn;omega)) hx
 ·exact ⟨h1,h2,λa e h4 h5=>h3 a e (by unfold Dn;omega)⟩
end
end Go.Proofs.YtkakafabeobahaaGreatDoor
namespace Go.Proofs.YtkakafabeobahaaGreatDoor
open Go Go.QF
set_option maxRecDepth 100000
theorem A77 (R:Arh M) (hp:2<=p) (hp2:p<=9973) (h:Awo (det M.length<|ent M) p v):∃ k:Nat,((if p=2 then v + 3 else v + 1)=(k:Int))/\p ^ k<=2147483647/\1<=k/\(p=2->3<=k):=by
 obtain ⟨v1,v2⟩:=Ap0 R;obtain ⟨e,r,rfl,h1,h2⟩:=h;have hpe:0 < p ^ e:=Int.pow_pos AGp
 have hr:0 < r:=by
  rcases Int.lt_or_le 0 r with h | h
  ·exact h
  ·have:=Int.mul_nonpos_of_nonpos_of_nonneg h<|Int.le_of_lt hpe;omega
 have hle:1 * p ^ e<=r * p ^ e:=Int.mul_le_mul_of_nonneg_right AGp AGp
 by_cases h:p=2
 ·subst h;refine ⟨e + 3,AGp,?_,AGp,λ_=>by omega⟩;grind
 ·refine ⟨e + 1,AGp,?_,AGp,λh2=>absurd h2 h⟩;rw [Int.pow_succ];have:=Int.mul_le_mul (show p ^ e<=10000 by omega) hp2 AGp AGp;omega
end Go.Proofs.YtkakafabeobahaaGreatDoor
namespace Go.Proofs.YtkakafabeobahaaGreatDoor
open Go Go.QF
set_option maxRecDepth 100000
set_option maxHeartbeats 40000000
def AXz (fuel:Nat) (a1 a2 a3 a4 a5:Int):Option Bool:=
 if a2=1 then if AZw .and .i64 a3 1=1 then if a4=0 then some (decide (a5=0)) else some false else some false else if a2=2 then if AZw .and .i64 a3 1=0 then if AZw .and .i64 a4 1=1 then some (decide (AZw .and .i64 a5 1=0)) else some false else some false else some false
theorem Ahe {a3 a4:Int} (hp:AXz fuel a1 a2 a3 a4 a5=some r):AT3 Tryz.prog 64 #[(.agg #[(.int .i64 a1),(.int .i64 a2),(.int .i64 a3),(.int .i64 a4),(.int .i64 a5)])] h (λx h'=>Ext h h'/\x= .bool r):=by
 unfold AXz at hp;refine cwf (l:=[_]) Tryz.func64 rfl rfl (AGt<|AZa (Kst.k0 h) [(.int .i64 a1),(.int .i64 a2),(.int .i64 a3),(.int .i64 a4),(.int .i64 a5)] λb6 h7 E9 Aa=>AG1<|AGv<|AGt<|AU9 Agc AT8 (Aa.b p0) 1 rfl (AGw<|AGx<|AGt<|AWe rfl rfl (AG1 ?_)));refine ⟨_,rfl,λAk=>?_,λAk=>?_⟩
 ·refine AGt<|AU9 Ag2 ATh (Aa.b p0) 2 rfl (Abm rfl rfl AGr (AWe rfl rfl (AGq ?_)));have Ao:=AT9 hp Ak;by_cases Ad:(AZw .and .i64 a3 1)=1
  ·have Ap:=ifT Ao Ad;rw [decide_eq_true Ad];refine ATt 11 true<|AVa Agd rfl (ATt 11 true<|AT1 ATh rfl ((Aa.b p0).cell (i:=3) rfl) (ATt 11 true<|AWe rfl rfl (ATn rfl (AGq ?_))));by_cases Ae:a4=0
   ·rw [decide_eq_true Ae];refine ATt 16 true<|AVa Akb rfl (ATt 16 true<|AT1 ATh rfl ((Aa.b p0).cell (i:=4) rfl) (ATt 16 true<|AWe rfl rfl (ATn rfl (AG1<|AG6<|AUp<|ATj ?_))));obtain rfl:=AGs<|ifT Ap Ae;exact ⟨_,AS9,Aa.x,rfl⟩
   ·rw [decide_eq_false Ae];refine Acj 16 false<|ATx rfl (AG1<|AG6<|AUp<|ATj ?_);obtain rfl:=AGs<|ifF Ap Ae;exact ⟨_,AS9,Aa.x,rfl⟩
  ·rw [decide_eq_false Ad];refine Acj 11 false<|ATx rfl (AGq<|Acj 16 false<|ATx rfl (AG1<|AG6<|AUp<|ATj ?_));obtain rfl:=AGs<|ifF Ao Ad;exact ⟨_,AS9,Aa.x,rfl⟩
 ·refine AGt<|AWe rfl rfl (AG1 ?_);have Aq:=AUa hp Ak;refine ⟨_,rfl,λAm=>?_,λAm=>?_⟩
  ·refine AGt<|AU9 Ag2 ATh (Aa.b p0) 2 rfl (Abm rfl rfl AGr (AWe rfl rfl (AGq ?_)));have Ar:=AT9 Aq Am;by_cases Af:(AZw .and .i64 a3 1)=0
   ·have Au:=ifT Ar Af;rw [decide_eq_true Af];refine ATt 27 true<|AVa Agd rfl (ATt 27 true<|AT1 ATh rfl ((Aa.b p0).cell (i:=3) rfl) (ATt 27 true<|Abm rfl rfl AGr (ATt 27 true<|AWe rfl rfl (ATn rfl (AGq ?_)))));by_cases Ag:(AZw .and .i64 a4 1)=1
    ·rw [decide_eq_true Ag];refine ATt 33 true<|AVa Akb rfl (ATt 33 true<|AT1 ATh rfl ((Aa.b p0).cell (i:=4) rfl) (ATt 33 true<|Abm rfl rfl AGr (ATt 33 true<|AWe rfl rfl (ATn rfl (AG1<|AG6<|AUp<|ATj ?_)))));obtain rfl:=AGs<|ifT Au Ag;exact ⟨_,AS9,Aa.x,rfl⟩
    ·rw [decide_eq_false Ag];refine Ah6 33 false<|ATx rfl (AG1<|AG6<|AUp<|ATj ?_);obtain rfl:=AGs<|ifF Au Ag;exact ⟨_,AS9,Aa.x,rfl⟩
   ·rw [decide_eq_false Af];refine Ah6 27 false<|ATx rfl (AGq<|Ah6 33 false<|ATx rfl (AG1<|AG6<|AUp<|ATj ?_));obtain rfl:=AGs<|ifF Ar Af;exact ⟨_,AS9,Aa.x,rfl⟩
  ·refine AG5<|q_b<|q_t<|AGt<|AG1<|AG6 ?_;obtain rfl:=AGs<|AUa Aq Am;exact ⟨_,AS9,Aa.x,rfl⟩
def Ac1 (fuel:Nat) (a8:List AUr) (Ae:List AWo) (Am Ad:Int):Option ((List AWo × Int × Int) ⊕ ((List AWo × Bool) ⊕ List AWo)):=
 if Ad < (a8.length:Int) then (gI a8 Ad).bind λAa=>((if Aa.1 < 0 then some (.inl ([],false)) else if 60 < Aa.1 then some (.inl ([],false)) else (AXz fuel Aa.1 Aa.2.1 Aa.2.2.1 Aa.2.2.2.1 Aa.2.2.2.2).bind λAq=>if (!Aq)=true then some (.inl ([],false)) else if 0 < Ad then (gI a8<|w64<|Ad - 1).bind λAr=>if Aa.1 < Ar.1 then some (.inl ([],false)) else some (.inr ()) else some<|.inr ()):Option ((List AWo × Bool) ⊕ Unit)).bind (λex=>match ex with | .inl Au=>(some<|.inr<|.inl Au) | .inr _=>if 8 < w64 (Am + Aa.2.1) then some (.inr<|.inl ([],false)) else ((if Ad=0 then if Ae.length<=100000000 then some (Ae ++ [(Aa.1,0,1,false,0)]) else none else (gI a8<|w64<|Ad - 1).bind λAv=>if Av.1 < Aa.1 then if Ae.length<=100000000 then some (Ae ++ [(Aa.1,0,1,false,0)]) else none else some Ae):Option (List AWo)).bind (λ(Ab:(List AWo))=>(gI Ab<|w64<|(Ab.length:Int) - 1).bind λAx=>((((if Aa.2.1=1 then (gI Ab<|w64<|(Ab.length:Int) - 1).bind λAc=>(gI (sI Ab (w64<|(Ab.length:Int) - 1) (Ac.1,Ac.2.1,Ac.2.2.1,true,Ac.2.2.2.2))<|w64<|(Ab.length:Int) - 1).bind λAf=>some (Aa.2.2.1,sI (sI Ab (w64<|(Ab.length:Int) - 1) (Ac.1,Ac.2.1,Ac.2.2.1,true,Ac.2.2.2.2)) (w64<|(Ab.length:Int) - 1) (Af.1,Af.2.1,Af.2.2.1,Af.2.2.2.1,AZw .and .i64 (w64<|Af.2.2.2.2 + AZw .and .i64 Aa.2.2.1 7) 7)) else some (w64<|w64 (Aa.2.2.1 * Aa.2.2.2.2) - w64 (Aa.2.2.2.1 * Aa.2.2.2.1),Ab)):Option (Int × List AWo)).bind (λ((Ao,Ag):Int × List AWo)=>((if AZw .and .i64 Ao 7=3 then (gI Ag<|w64<|(Ab.length:Int) - 1).bind λAh=>some (sI Ag (w64<|(Ab.length:Int) - 1) (Ah.1,Ah.2.1,w64<|0 - Ah.2.2.1,Ah.2.2.2.1,Ah.2.2.2.2)) else if AZw .and .i64 Ao 7=5 then (gI Ag<|w64<|(Ab.length:Int) - 1).bind λAi=>some (sI Ag (w64<|(Ab.length:Int) - 1) (Ai.1,Ai.2.1,w64<|0 - Ai.2.2.1,Ai.2.2.2.1,Ai.2.2.2.2)) else some Ag):Option (List AWo)).bind (λ(Ap:(List AWo))=>(gI Ap<|w64<|(Ab.length:Int) - 1).bind λAj=>some<|sI Ap (w64<|(Ab.length:Int) - 1) (Aj.1,w64<|Aj.2.1 + Aa.2.1,Aj.2.2.1,Aj.2.2.2.1,Aj.2.2.2.2)))):Option (List AWo)).bind λAw=>some<|.inl (Aw,w64<|Am + Aa.2.1,w64<|Ad + 1))) else some<|.inr<|.inr Ae
def AVy (fuel:Nat) (a1:Int) (a4:LiI) (a8:List AUr):Option ((List AWo) × Bool):=
 ((if ¬ a1=2 then some (.inl ([],false)) else if (a8.length:Int) < 1 then some (.inl ([],false)) else some<|.inr ()):Option ((List AWo × Bool) ⊕ Unit)).bind (λex=>match ex with | .inl Ac=>(some Ac) | .inr _=>(iter (λs=>Ac1 fuel a8 s.1 s.2.1 s.2.2) fuel ([],0,0)).bind (λex=>match ex with | .inl Ad=>(some Ad) | .inr Ae=>some (Ae,true)))
theorem AZt {A9:Value} {a4:LiI} {Ba:Value} {a8:(List AUr)} {r:((List AWo) × Bool)} (H3:AX8 (cI .i64) h A9 a4) (H7:SlC Ak7 h Ba a8) (hp:AVy fuel a1 a4 a8=some r):AT3 Tryz.prog 27 #[(.agg #[(.int .i64 a1),A9,Ba])] h (λx h'=>Ext h h'/\ ∃ (x0:Value) (F0:List Nat),x= .tuple #[x0,.bool r.2]/\OwC Ag0 49 h' F0 x0 r.1/\Sp h' h.size [F0]):=by
 unfold AVy at hp;refine cwf (l:=[_]) Tryz.func27 rfl rfl (AGt<|AZa (Kst.k0 h) [(.int .i64 a1),A9,Ba] λFe Ff Fg Ap=>ATu<|AG1 ?_);obtain ⟨Ct,B5,Bb⟩:=AGu hp;refine Ae6 130828 (λx:Unit=>[]) (λx h'=>(Sum.inr <| ())=Ct/\Kst h h' (Ap.L)) ?_ ?_
 ·refine AGt<|AU9 A1h ATh (Ap.b p0) 0 rfl (AV2 rfl rfl (AGq ?_));by_cases Ay: ¬ a1=2
  ·rw [decide_eq_true Ay];refine Ah6 11 true<|ATn rfl (AGw<|ATv rfl (AGt<|ATu<|AG1 ?_));obtain rfl:=AGs<|ifT B5 Ay;refine AG6<|ATj ?_;have Bc:=Kst.anil Ag0 49 Ap;obtain rfl:=AGs Bb;exact ⟨_,AU0,Bc.x,_,_,rfl,(Bc.o p0),Bc.s.sel [0] AGr⟩
  ·have B6:=ifF B5 Ay;rw [decide_eq_false Ay];refine ATt 11 false<|AVa Aka rfl (ATt 11 false<|AT1 Aq4 rfl ((Ap.b p0).cell (i:=2) rfl) (ATt 11 false<|AUu Anj rfl H7 (ATt 11 false<|ATz rfl rfl (ATx rfl (AGw<|⟨_,rfl,λBe=>?_,λBe=>?_⟩)))))
   ·refine AGt<|ATu<|AG1 ?_;obtain rfl:=AGs<|AT9 B6 Be;refine AG6<|ATj ?_;have Bf:=Kst.anil Ag0 49 Ap;obtain rfl:=AGs Bb;exact ⟨_,AU0,Bf.x,_,_,rfl,(Bf.o p0),Bf.s.sel [0] AGr⟩
   ·refine AG5<|q_t ?_;exact ⟨(():Unit),⟨AGs<|AUa B6 Be,Ap⟩,trivial⟩
 rintro ⟨⟩ Fh Fi ⟨Cu,B7⟩;subst Cu;refine AGt<|AT7<|AG1<|AGv<|AGt<|AU9 Aka Aq4 (B7.b p0) 2 rfl (AUu Anj rfl H7 (AGq<|AGw<|AGx ?_));have B8:=Kst.anil Ag0 49 B7;refine AYo 309485009821345068723732732 (λx:((List AWo)) × (Value) × LnA × (Int) × (Int)=>(x.1,x.2.2.2.1,x.2.2.2.2)) (([],(.slice none 0 0),[],0,0):((List AWo)) × (Value) × LnA × (Int) × (Int)) Bb (λx=>[(4,x.2.1),(5,(.int .i64 x.2.2.2.1)),(20,(.int .i64 x.2.2.2.2))]) (λx=>B8.L.set 0<|aO Ag0 49 x.2.2.1 x.2.1 x.1) B8 ⟨rfl,rfl,rfl,trivial⟩ ?_;rintro ⟨Bg,Cv,Cw,Fj,B9⟩ Fk Fl Fm Av Bh Aq;unfold Ac1 at Bh;refine AGt<|ATz rfl rfl (AGw<|AGv<|⟨_,rfl,λBi=>?_,λBi=>?_⟩)
 ·refine AG5<|q_t<|AGv<|AGx<|AGt<|AGq ?_;obtain ⟨Aa,Cx,Cy⟩:=AGu<|AT9 Bh Bi;refine Ack (c:=Ak7) Anj rfl H7 rfl Cx λFo Fp Fq Cz C0=>?_;obtain rfl:=Cz;refine Agm (c:=Ak7) Adf rfl rfl (λj u hu=>(ATw (C0 j u hu) Av.x)) (AV7 Av [(.int .i64 0),(.int .i64 0),(.int .i64 0),(.int .i64 0),(.int .i64 0)] Ank λFt Fu Fv Ca=>ATu<|AVf [(.int .i64 Aa.1),(.int .i64 Aa.2.1),(.int .i64 Aa.2.2.1),(.int .i64 Aa.2.2.2.1),(.int .i64 Aa.2.2.2.2)] Adf rfl rfl rfl rfl (by simp [isOne]) (Ca.b p0) λFw C1 C2=>AGw ?_);have Ak:=Ca.sb p0 C2 C1 rfl;obtain ⟨C3,Cb,Ar⟩:=AGu Cy;refine Ae6 18014398475927564 (λx:Unit=>[]) (λx h'=>(Sum.inr <| ())=C3/\Kst h h' (Ak.L)) ?_ ?_
  ·refine AGv<|AWg<|AU9 Ac7 AT8 (Ak.b p0) 0 rfl (ATz rfl rfl (AGq ?_));by_cases Az:Aa.1 < 0
   ·rw [decide_eq_true Az];refine Acj 28 true<|ATn rfl (AGq<|Acj 33 true<|ATn rfl (AGq<|Acj 38 true<|AWq 41 AG3 rfl (AWq 41 AG3 rfl (AWq 41 AG3 rfl (AWq 41 AG3 rfl (AWq 41 AG3 rfl (AWq 41 AG3 rfl (AWq 41 AG3 rfl (AWq 41 AG3 rfl (AWq 41 AG3 rfl (AWq 41 AG3 rfl (Aud 38 true<|ATn rfl (AGw<|ATv rfl (AGt<|ATu<|AG1 ?_))))))))))))));obtain rfl:=AGs<|ifT Cb Az;refine AG6<|ATj<|AUp<|ATj<|ATj<|AUp<|ATj ?_;have Bj:=Kst.anil Ag0 49 Ak;obtain rfl:=AGs<|Aq _ (AGs Ar).symm;exact ⟨_,AU0,Bj.x,_,_,rfl,(Bj.o p0),Bj.s.sel [0] AGr⟩
   ·have Cd:=ifF Cb Az;rw [decide_eq_false Az];refine ATt 28 false<|AVa Ac7 rfl (ATt 28 false<|AT1 AT8 rfl ((Ak.b p0).cell (i:=0) rfl) (ATt 28 false<|AZv rfl rfl (ATx rfl (AGq ?_))));by_cases A3:60 < Aa.1
    ·rw [decide_eq_true A3];refine Acj 33 true<|ATn rfl (AGq<|Acj 38 true<|AWq 41 AG3 rfl (AWq 41 AG3 rfl (AWq 41 AG3 rfl (AWq 41 AG3 rfl (AWq 41 AG3 rfl (AWq 41 AG3 rfl (AWq 41 AG3 rfl (AWq 41 AG3 rfl (AWq 41 AG3 rfl (AWq 41 AG3 rfl (Aud 38 true<|ATn rfl (AGw<|ATv rfl (AGt<|ATu<|AG1 ?_)))))))))))));obtain rfl:=AGs<|ifT Cd A3;refine AG6<|ATj<|AUp<|ATj<|ATj<|AUp<|ATj ?_;have Bl:=Kst.anil Ag0 49 Ak;obtain rfl:=AGs<|Aq _ (AGs Ar).symm;exact ⟨_,AU0,Bl.x,_,_,rfl,(Bl.o p0),Bl.s.sel [0] AGr⟩
    ·rw [decide_eq_false A3];refine ATt 33 false<|Abi [(.int .i64 Aa.1),(.int .i64 Aa.2.1),(.int .i64 Aa.2.2.1),(.int .i64 Aa.2.2.2.1),(.int .i64 Aa.2.2.2.2)] Adf rfl rfl (Ak.b p0).agg (ATt 33 false ?_);obtain ⟨C4,C5,Ce⟩:=AGu<|ifF Cd A3;refine AYn Ak (Ahe C5) λFx Fy Am=>ATt 33 false<|AW0 rfl (ATx rfl (AGq ?_));cases Cf:(!C4)
     ·refine ATt 38 false<|AGq<|ATt 38 false<|AZv rfl rfl (ATt 38 false<|AGq ?_);have Cg:=Abh Ce Cf;by_cases A4:0 < B9
      ·rw [decide_eq_true A4];refine ATt 41 true<|AVa Ac7 rfl (ATt 41 true<|AT1 AT8 rfl ((Am.b p0).cell (i:=0) rfl) (ATt 41 true<|AVa Aka rfl (ATt 41 true<|AT1 Aq4 rfl ((Am.b p2).cell (i:=2) rfl) (ATt 41 true<|AGq<|ATt 41 true<|AVm rfl rfl (ATt 41 true ?_)))));obtain ⟨Fz,C6,Ch⟩:=AGu<|ifT Cg A4;refine Ack (c:=Ak7) Anj rfl H7 rfl C6 λF4 F5 F6 C7 C8=>?_;obtain rfl:=C7;refine ATt 41 true<|AVa Ac7 rfl (ATt 41 true<|AT1 AT8 rfl (ATw (C8 0 _ rfl) Am.x) (ATt 41 true<|ATz rfl rfl (ATt 38 false<|ATn rfl (ATx rfl (AGw<|⟨_,rfl,λBm=>?_,λBm=>?_⟩)))))
       ·refine AGt<|ATu<|AG1 ?_;obtain rfl:=AGs<|AT9 Ch Bm;refine AG6<|ATj<|AUp<|ATj<|ATj<|AUp<|ATj ?_;have Bn:=Kst.anil Ag0 49 Am;obtain rfl:=AGs<|Aq _ (AGs Ar).symm;exact ⟨_,AU0,Bn.x,_,_,rfl,(Bn.o p0),Bn.s.sel [0] AGr⟩
       ·refine AG5<|q_t ?_;exact ⟨(():Unit),⟨AGs<|AUa Ch Bm,Am⟩,trivial⟩
      ·rw [decide_eq_false A4];refine AY4 41 false<|AY4 41 false<|ATt 38 false<|ATx rfl (ATx rfl (AGw<|ATy rfl (AG5<|q_t ?_)));exact ⟨(():Unit),⟨AGs<|ifF Cg A4,Am⟩,trivial⟩
     ·refine Acj 38 true<|AWq 41 AG3 rfl (AWq 41 AG3 rfl (AWq 41 AG3 rfl (AWq 41 AG3 rfl (AWq 41 AG3 rfl (AWq 41 AG3 rfl (AWq 41 AG3 rfl (AWq 41 AG3 rfl (AWq 41 AG3 rfl (AWq 41 AG3 rfl (Aud 38 true<|ATn rfl (AGw<|ATv rfl (AGt<|ATu<|AG1 ?_))))))))))));obtain rfl:=AGs<|ifT Ce Cf;refine AG6<|ATj<|AUp<|ATj<|ATj<|AUp<|ATj ?_;have Bo:=Kst.anil Ag0 49 Am;obtain rfl:=AGs<|Aq _ (AGs Ar).symm;exact ⟨_,AU0,Bo.x,_,_,rfl,(Bo.o p0),Bo.s.sel [0] AGr⟩
  rintro ⟨⟩ F7 F8 ⟨C9,Ab⟩;subst C9;refine AGt<|AGq<|AU9 Agc AT8 (Ab.b p0) 1 rfl (ATp rfl rfl (AG1<|AGv<|AGt<|AGq<|AZv rfl rfl (AGw<|⟨_,rfl,λBp=>?_,λBp=>?_⟩)))
  ·refine AGt<|ATu<|AG1<|AG6<|ATj<|AUp<|ATj<|ATj<|AUp<|ATj ?_;have Bq:=Kst.anil Ag0 49 Ab;obtain rfl:=AGs<|Aq _ (AGs<|AT9 Ar Bp).symm;exact ⟨_,AU0,Bq.x,_,_,rfl,(Bq.o p0),Bq.s.sel [0] AGr⟩
  ·refine AG5<|q_t ?_;obtain ⟨Da,Ci,Db⟩:=AGu<|AUa Ar Bp;refine Ae6 1208924666693124567859216 (λx:((List AWo)) × (Value) × LnA=>[(4,x.2.1)]) (λx h'=>( x.1)=Da/\Kst h h' (Ab.L.set 1<|aO Ag0 49 x.2.2 x.2.1 x.1)) ?_ ?_
   ·refine AGv<|AWg<|AGq<|AWe rfl rfl (AGq ?_);by_cases A5:B9=0
    ·rw [decide_eq_true A5];refine AY4 62 true<|AY4 62 true<|ATn rfl (AGw<|ATv rfl (ATc<|AGq<|AU9 Ac7 AT8 (Ab.b p0) 0 rfl (AWr (v:=(.agg #[(.int .i64 Aa.1),(.int .i64 0),(.int .i64 1),(.bool false),(.int .i64 0)])) (λ_=>by kernel_rfl) ?_)));obtain ⟨Dc,Dd⟩:=ifN<|ifT Ci A5;refine Afp Af9 Avq rfl rfl trivial tt2 (λ_=>rfl) rfl (show (Ag0).rep _ (Aa.1,0,1,false,0) [(.int .i64 Aa.1),(.int .i64 0),(.int .i64 1),(.bool false),(.int .i64 0)] from rfl) (Ab.o p1) AGr Dc λF9 De Df Ga Dg Dh Di=>AG1 ?_;exact ⟨(((Bg ++ [(Aa.1,0,1,false,0)]),Df,De):((List AWo)) × (Value) × LnA),⟨AGs Dd,(Ab.uo p1 Dh Dg Di)⟩,rfl,trivial⟩
    ·rw [decide_eq_false A5];refine ATt 62 false<|AVa Ac7 rfl (ATt 62 false<|AT1 AT8 rfl ((Ab.b p0).cell (i:=0) rfl) (ATt 62 false<|AVa Aka rfl (ATt 62 false<|AT1 Aq4 rfl ((Ab.b p2).cell (i:=2) rfl) (ATt 62 false<|AGq<|ATt 62 false<|AVm rfl rfl (ATt 62 false ?_)))));obtain ⟨Gb,Dj,Cj⟩:=AGu<|ifF Ci A5;refine Ack (c:=Ak7) Anj rfl H7 rfl Dj λGc Gd Ge Dk Dl=>?_;obtain rfl:=Dk;refine ATt 62 false<|AVa Ac7 rfl (ATt 62 false<|AT1 AT8 rfl (ATw (Dl 0 _ rfl) Ab.x) (ATt 62 false<|AZv rfl rfl (ATx rfl (AGw<|⟨_,rfl,λBr=>?_,λBr=>?_⟩))))
     ·refine ATc<|AGq<|AU9 Ac7 AT8 (Ab.b p0) 0 rfl (AWr (v:=(.agg #[(.int .i64 Aa.1),(.int .i64 0),(.int .i64 1),(.bool false),(.int .i64 0)])) (λ_=>by kernel_rfl) ?_);obtain ⟨Do,Dp⟩:=ifN<|AT9 Cj Br;refine Afp Af9 Avq rfl rfl trivial tt2 (λ_=>rfl) rfl (show (Ag0).rep _ (Aa.1,0,1,false,0) [(.int .i64 Aa.1),(.int .i64 0),(.int .i64 1),(.bool false),(.int .i64 0)] from rfl) (Ab.o p1) AGr Do λGf Dq Dr Gg Ds Dt Du=>AG1 ?_;exact ⟨(((Bg ++ [(Aa.1,0,1,false,0)]),Dr,Dq):((List AWo)) × (Value) × LnA),⟨AGs Dp,(Ab.uo p1 Dt Ds Du)⟩,rfl,trivial⟩
     ·refine AG5<|q_t ?_;exact ⟨((Bg,Cv,Cw):((List AWo)) × (Value) × LnA),⟨AGs<|AUa Cj Br,Ab⟩,rfl,trivial⟩
   rintro ⟨Ao,Bt,Bu⟩ Gh Gi ⟨Dv,Aw⟩;subst Dv;refine AWg<|AGq<|AGq<|AUu Af9 rfl (Aw.o p1).rd (AVm rfl rfl ?_);obtain ⟨Gj,Dw,Dx⟩:=AGu Db;refine Ak8 Af9 rfl (Aw.o p1) rfl Dw λGk Ah=>Abi [(.int .i64 Aa.1),(.int .i64 Aa.2.1),(.int .i64 Aa.2.2.1),(.int .i64 Aa.2.2.2.1),(.int .i64 Aa.2.2.2.2)] Adf rfl rfl (Aw.b p0).agg ?_;obtain ⟨Dy,Dz,D0⟩:=AGu Dx;refine ATm (K':=(λxr h'=> ∃ x:((List AWo)),x=Dy/\xr= .tuple #[]/\Kst h h' (Aw.L.set 1<|aO Ag0 49 Bu Bt x))) trivial rfl ?_ λGl Gm D2=>?_
   ·refine cwf (l:=[_,_]) Tryz.func65 rfl rfl (AGt<|AZa Aw [(.int .i64 Aa.1),(.int .i64 Aa.2.1),(.int .i64 Aa.2.2.1),(.int .i64 Aa.2.2.2.1),(.int .i64 Aa.2.2.2.2)] λGn Gp Gq Ac=>AZ4<|AU9 Ag2 ATh (Ac.b p0) 2 rfl (AG1 ?_));obtain ⟨D3,Ck,D4⟩:=AGu Dz;refine Ae6 137438953232 (λx:(Int) × ((List AWo))=>[(4,(.int .i64 x.1))]) (λx h'=>( (x.1,x.2))=D3/\Kst h h' (Ac.L.set 2<|aO Ag0 49 Bu Bt x.2)) ?_ ?_
    ·refine AGt<|AU9 Agc AT8 (Ac.b p0) 1 rfl (AWe rfl rfl (AGw<|⟨_,rfl,λBv=>?_,λBv=>?_⟩))
     ·refine AGt<|AGq<|AUw rfl (AVa Arn rfl ?_);obtain ⟨Ai,D5,D6⟩:=AGu<|AT9 Ck Bv;refine Asu (c:=Ag0) (a':=(Ai.1,Ai.2.1,Ai.2.2.1,true,Ai.2.2.2.2)) AWm rfl rfl rfl AGr (Ac.o p2) Ah D5 (λ_ q=>by cases q;rfl) λGr D7 D8=>AGw<|AWg<|AGq<|AGq<|AUw rfl (AVa A1i rfl ?_);have A6:=Ac.uO p2 D8 D7;obtain ⟨Ad,Cm,D9⟩:=AGu D6;obtain ⟨Gt,Ea,Eb⟩:=(A6.o p2).cells Ah Cm;obtain rfl:=Ea;refine AT1 AT8 rfl (Eb 4 _ rfl) (AU9 Ag2 ATh (A6.b p0) 2 rfl (Abm rfl rfl AGr (ATp rfl rfl (Abm rfl rfl AGr (AUw rfl (AVa A1i rfl (Asu (c:=Ag0) (a':=(Ad.1,Ad.2.1,Ad.2.2.1,Ad.2.2.2.1,(AZw .and .i64 (w64<|Ad.2.2.2.2 + (AZw .and .i64 Aa.2.2.1 7)) 7))) AT8 rfl rfl rfl AGr (A6.o p2) Ah Cm (λ_ q=>by cases q;rfl) λGu Ec Ed=>AGw ?_)))))));exact ⟨((Aa.2.2.1,(sI (sI Ao (w64<|(Ao.length:Int) - 1) (Ai.1,Ai.2.1,Ai.2.2.1,true,Ai.2.2.2.2)) (w64<|(Ao.length:Int) - 1) (Ad.1,Ad.2.1,Ad.2.2.1,Ad.2.2.2.1,(AZw .and .i64 (w64<|Ad.2.2.2.2 + (AZw .and .i64 Aa.2.2.1 7)) 7)))):(Int) × ((List AWo))),⟨AGs D9,(A6.uO p2 Ed Ec)⟩,rfl,trivial⟩
     ·refine ATc<|AU9 Ag2 ATh (Ac.b p0) 2 rfl (AU9 Akb ATh (Ac.b p0) 4 rfl (Aai rfl rfl (AU9 Agd ATh (Ac.b p0) 3 rfl (AU9 Agd ATh (Ac.b p0) 3 rfl (Aai rfl rfl (AVm rfl rfl (AG1 ?_)))))));exact ⟨(((w64<|(w64<|Aa.2.2.1 * Aa.2.2.2.2) - (w64<|Aa.2.2.2.1 * Aa.2.2.2.1)),Ao):(Int) × ((List AWo))),⟨AGs<|AUa Ck Bv,Ac⟩,rfl,trivial⟩
    rintro ⟨Ee,Bw⟩ Gv Gw ⟨Ef,Aj⟩;subst Ef;obtain ⟨Eg,Cn,Eh⟩:=AGu D4;refine Ae6 9007061815787552 (λx:((List AWo))=>[]) (λx h'=>( x)=Eg/\Kst h h' (Aj.L.set 2<|aO Ag0 49 Bu Bt x)) ?_ ?_
    ·refine AGt<|AGq<|Abm rfl rfl AGr (AT7<|AGq<|AWe rfl rfl (AGq ?_));by_cases A7:(AZw .and .i64 Ee 7)=3
     ·rw [decide_eq_true A7];refine Ab3 41 true<|ATn rfl (AGw<|ATv rfl (ATc<|AGq<|AGq<|AUw rfl (AVa Arm rfl ?_)));obtain ⟨Ae,Co,Ei⟩:=AGu<|ifT Cn A7;obtain ⟨Gx,Ej,Ek⟩:=(Aj.o p2).cells Ah Co;obtain rfl:=Ej;refine AT1 AT8 rfl (Ek 2 _ rfl) (Aq1 rfl (AUw rfl (AVa Arm rfl (Asu (c:=Ag0) (a':=(Ae.1,Ae.2.1,(w64<|0 - Ae.2.2.1),Ae.2.2.2.1,Ae.2.2.2.2)) AT8 rfl rfl rfl AGr (Aj.o p2) Ah Co (λ_ q=>by cases q;rfl) λGy El Em=>AGw ?_))));exact ⟨((sI Bw (w64<|(Ao.length:Int) - 1) (Ae.1,Ae.2.1,(w64<|0 - Ae.2.2.1),Ae.2.2.2.1,Ae.2.2.2.2)):((List AWo))),⟨AGs Ei,(Aj.uO p2 Em El)⟩,trivial⟩
     ·have Cp:=ifF Cn A7;rw [decide_eq_false A7];refine ATt 41 false<|AGq<|ATt 41 false<|AWe rfl rfl (ATx rfl (AGw<|⟨_,rfl,λBx=>?_,λBx=>?_⟩))
      ·refine ATc<|AGq<|AGq<|AUw rfl (AVa Arm rfl ?_);obtain ⟨Af,Cq,En⟩:=AGu<|AT9 Cp Bx;obtain ⟨Gz,Eo,Ep⟩:=(Aj.o p2).cells Ah Cq;obtain rfl:=Eo;refine AT1 AT8 rfl (Ep 2 _ rfl) (Aq1 rfl (AUw rfl (AVa Arm rfl (Asu (c:=Ag0) (a':=(Af.1,Af.2.1,(w64<|0 - Af.2.2.1),Af.2.2.2.1,Af.2.2.2.2)) AT8 rfl rfl rfl AGr (Aj.o p2) Ah Cq (λ_ q=>by cases q;rfl) λG3 Er Es=>AGw ?_))));exact ⟨((sI Bw (w64<|(Ao.length:Int) - 1) (Af.1,Af.2.1,(w64<|0 - Af.2.2.1),Af.2.2.2.1,Af.2.2.2.2)):((List AWo))),⟨AGs En,(Aj.uO p2 Es Er)⟩,trivial⟩
      ·refine AG5<|q_t ?_;exact ⟨(Bw:((List AWo))),⟨AGs<|AUa Cp Bx,Aj⟩,trivial⟩
    rintro Et G4 G5 ⟨Eu,A8⟩;subst Eu;refine AWg<|AGq<|AUw rfl (AVa Arl rfl ?_);obtain ⟨Ag,Cr,Ev⟩:=AGu Eh;obtain ⟨G6,Ew,Ey⟩:=(A8.o p2).cells Ah Cr;obtain rfl:=Ew;refine AT1 AT8 rfl (Ey 1 _ rfl) (AU9 Agc AT8 (A8.b p0) 1 rfl (ATp rfl rfl (AUw rfl (AVa Arl rfl (Asu (c:=Ag0) (a':=(Ag.1,(w64<|Ag.2.1 + Aa.2.1),Ag.2.2.1,Ag.2.2.2.1,Ag.2.2.2.2)) AT8 rfl rfl rfl AGr (A8.o p2) Ah Cr (λ_ q=>by cases q;rfl) λG7 Ez Fa=>ATr<|⟨_,AZ5,((sI Et (w64<|(Ao.length:Int) - 1) (Ag.1,(w64<|Ag.2.1 + Aa.2.1),Ag.2.2.1,Ag.2.2.2.1,Ag.2.2.2.2)):((List AWo))),?_,rfl,?_⟩)))))
    ·exact AGs Ev
    ·exact (A8.uO p2 Fa Ez).sel [1,2,3] AGr
   obtain ⟨G8,Fb,rfl,Fc⟩:=D2;refine ⟨trivial,?_⟩;subst Fb;refine ATr<|q_b<|q_t<|ATc<|ATp rfl rfl (AGq<|AGw ?_);exact ⟨(_,_,_,_,_),(AGs D0).symm,Fc.sel [1,2] AGr,rfl,rfl,rfl,trivial⟩
 ·refine ATk<|ATl<|ATl<|AUi<|q_t<|AGt<|AGq<|ATu<|AG1<|AG6 ?_;obtain rfl:=AGs<|Aq _ (AGs<|AUa Bh Bi).symm;exact ⟨_,AU0,Av.x,_,_,rfl,(Av.o p0),Av.s.sel [0] AGr⟩
def Alx (fuel:Nat) (Ab:List AWo) (Aa:Int):Option (Int ⊕ (Bool ⊕ Unit)):=
 if Aa < (Ab.length:Int) then (gI Ab Aa).bind λAc=>if Ac.1=0 then if Ac.2.2.2.1=true then some (.inr<|.inl false) else some (.inl<|w64<|Aa + 1) else some (.inl<|w64<|Aa + 1) else some<|.inr<|.inr ()
def Ak0 (fuel:Nat) (a1:Int) (a4:LiI) (a8:List AUr):Option Bool:=
 (AVy fuel a1 a4 a8).bind λ(Ad,Ae)=>if (!Ae)=true then some false else (iter (λs=>Alx fuel Ad s) fuel 0).bind (λex=>match ex with | .inl Af=>(some Af) | .inr _=>some true)
theorem Aqx {Ad:Value} {a4:LiI} {Ae:Value} {a8:(List AUr)} (H3:AX8 (cI .i64) h Ad a4) (H7:SlC Ak7 h Ae a8) (hp:Ak0 fuel a1 a4 a8=some r):AT3 Tryz.prog 46 #[(.agg #[(.int .i64 a1),Ad,Ae])] h (λx h'=>Ext h h'/\x= .bool r):=by
 unfold Ak0 at hp;refine cwf (l:=[_]) Tryz.func46 rfl rfl (AGt<|AZa (Kst.k0 h) [(.int .i64 a1),Ad,Ae] λBg Bh Bi Af=>AT7<|Abi [(.int .i64 a1),Ad,Ae] Af1 rfl rfl (Af.b p0).agg ?_);obtain ⟨⟨Bj,Bl⟩,A5,Ai⟩:=AGu hp;dsimp only at Ai;refine Aeq rfl (AZt (H3.ext Af.x) (H7.ext Af.x) A5) λBm Bn A6 A7=>?_;obtain ⟨Bo,Bp,rfl,A8,A9⟩:=A7;refine AGq<|AUh rfl rfl (AUh rfl rfl (ATu<|AG1<|AGv<|AGt<|AGq<|AW0 rfl (AGw ?_)));have Aj:=Af.no A6 A9 A8;refine ⟨_,rfl,λAk=>?_,λAk=>?_⟩
 ·refine AGt<|AG1<|AG6<|ATj ?_;obtain rfl:=AGs<|ifT Ai Ak;exact ⟨_,AS9,Aj.x,rfl⟩
 ·refine AG5<|q_t<|AGv<|AGt<|AGq<|AUu Af9 rfl (Aj.o p0).rd (AGq<|AGw<|AGx ?_);have Am:=Aj.sel [0] AGr;dsimp only [AY6,Acl] at Am;refine AZp 268369988 (Abh Ai Ak) (λx=>[(16,(.int .i64 x))]) (λx=>Am.L) Am ⟨rfl,trivial⟩ ?_;rintro Bq Br Bt Bu Ag Ao Av;unfold Alx at Ao;refine AGt<|ATz rfl rfl (AGw<|AGv<|⟨_,rfl,λAp=>?_,λAp=>?_⟩)
  ·refine AG5<|q_t<|AGv<|AGx<|AGt ?_;obtain ⟨Aa,Aw,Ax⟩:=AGu<|AT9 Ao Ap;refine Ak8 Af9 rfl (Ag.o p0) rfl Aw λBv Ba=>?_;obtain ⟨Bw,Bb,Bc⟩:=(Ag.o p0).cells Ba Aw;obtain rfl:=Bb;refine Agm (c:=Ag0) Avp rfl rfl (λj u hu=>(Bc j u hu)) (AV7 Ag [(.int .i64 0),(.int .i64 0),(.int .i64 0),(.bool false),(.int .i64 0)] Avq λBx By Bz Ay=>AVf [(.int .i64 Aa.1),(.int .i64 Aa.2.1),(.int .i64 Aa.2.2.1),(.bool Aa.2.2.2.1),(.int .i64 Aa.2.2.2.2)] Avp rfl rfl rfl rfl (by simp [isOne]) (Ay.b p0) λB3 Be Bf=>AZ4 ?_);have Ab:=Ay.sb p0 Bf Be rfl;refine AU9 Avr AT8 (Ab.b p0) 0 rfl (AWe rfl rfl (AGq ?_));by_cases Ah:Aa.1=0
   ·have Az:=ifT Ax Ah;rw [decide_eq_true Ah];refine ATt 23 true<|AVa Arn rfl (ATt 23 true<|AT1 AWm rfl ((Ab.b p0).cell (i:=3) rfl) (ATn rfl (AGw<|⟨_,rfl,λAq=>?_,λAq=>?_⟩)))
    ·refine AGt<|AG1<|AG6<|AUp<|ATj<|ATj<|AUp<|ATj ?_;obtain rfl:=AGs<|Av _ (AGs<|ifT Az Aq).symm;exact ⟨_,AS9,Ab.x,rfl⟩
    ·refine AG5<|q_b<|q_t<|ATc<|ATp rfl rfl (AGq<|AGw ?_);exact ⟨_,(AGs<|Abh Az Aq).symm,Ab.sel [1] AGr,rfl,trivial⟩
   ·rw [decide_eq_false Ah];refine Ab3 23 false<|ATx rfl (AGw<|ATy rfl (AG5<|q_b<|q_t<|ATc<|ATp rfl rfl (AGq<|AGw ?_)));exact ⟨_,(AGs<|ifF Ax Ah).symm,Ab.sel [1] AGr,rfl,trivial⟩
  ·refine ATk<|ATl<|ATl<|AUi<|q_t<|AGt<|AG1<|AG6 ?_;obtain rfl:=AGs<|Av _ (AGs<|AUa Ao Ap).symm;exact ⟨_,AS9,Ag.x,rfl⟩
def Aix (fuel:Nat) (a1 a3 a4 a5 a6 Ac:Int):Option (Int ⊕ (Bool ⊕ Unit)):=
 if Ac < 3 then (gI ([a3,a4,a5]:List Int) Ac).bind λAd=>if Ad < 0 then some (.inr<|.inl false) else if 0<=w64 (a6 - a1)/\w64 (a6 - a1)<=64 then if w64 (1 * 2 ^ Int.toNat (w64<|a6 - a1))<=Ad then some (.inr<|.inl false) else some (.inl<|w64<|Ac + 1) else none else some<|.inr<|.inr ()
def Ahy (fuel:Nat) (a1 a2 a3 a4 a5 a6:Int):Option Bool:=
 (iter (λs=>Aix fuel a1 a3 a4 a5 a6 s) fuel 0).bind (λex=>match ex with | .inl Af=>(some Af) | .inr _=>some true)
theorem Aon {a3 a4 a6:Int} (hp:Ahy fuel a1 a2 a3 a4 a5 a6=some r):AT3 Tryz.prog 85 #[(.agg #[(.int .i64 a1),(.int .i64 a2),(.int .i64 a3),(.int .i64 a4),(.int .i64 a5)]),(.int .i64 a6)] h (λx h'=>Ext h h'/\x= .bool r):=by
 unfold Ahy at hp;refine cwf (l:=[_,_]) Tryz.func85 rfl rfl (AGt<|AZa (Kst.k0 h) [(.int .i64 a1),(.int .i64 a2),(.int .i64 a3),(.int .i64 a4),(.int .i64 a5)] λb7 h8 Ay Aa=>AG1<|AGv<|AGt<|AU9 Ag2 ATh (Aa.b p0) 2 rfl (AU9 Agd ATh (Aa.b p0) 3 rfl (AU9 Akb ATh (Aa.b p0) 4 rfl (AWr (v:=(.agg #[(.int .i64 a3),(.int .i64 a4),(.int .i64 a5)])) (λ_=>by kernel_rfl)<|AGq<|AGw<|AGx<|AZp 536854608 hp (λx=>[(14,(.int .i64 x))]) (λx=>Aa.L) Aa ⟨rfl,trivial⟩ ?_))));rintro Az A3 A4 A5 Ab Ai Aj;unfold Aix at Ai;refine AGt<|ATz rfl rfl (AGw<|AGv<|⟨_,rfl,λAk=>?_,λAk=>?_⟩)
 ·refine AG5<|q_t<|AGv<|AGx<|AGt ?_;obtain ⟨Ar,Au,Ap⟩:=AGu<|AT9 Ai Ak;refine A4v (cs:= #[]) (v:=undef) (BE1 Au)<|AT7<|AGq<|ATz rfl rfl (AGq ?_);by_cases Af:Ar < 0
  ·rw [decide_eq_true Af];refine AY4 19 true<|Ab3 19 true<|ATn rfl (AGw<|ATv rfl (AGt<|AG1<|AG6<|AUp<|ATj<|ATj<|AUp<|ATj ?_));obtain rfl:=AGs<|Aj _ (AGs<|ifT Ap Af).symm;exact ⟨_,AS9,Ab.x,rfl⟩
  ·rw [decide_eq_false Af];refine ATt 19 false<|AGq<|ATt 19 false<|AGq<|ATt 19 false<|AVa Ac7 rfl (ATt 19 false<|AT1 AT8 rfl ((Ab.b p0).cell (i:=0) rfl) (ATt 19 false<|AVm rfl rfl (ATt 19 false ?_)));obtain ⟨Av,Aq⟩:=ifN<|ifF Ap Af;refine AZh rfl rfl Av (ATt 19 false<|Afb rfl rfl (ATx rfl (AGw<|⟨_,rfl,λAm=>?_,λAm=>?_⟩)))
   ·refine AGt<|AG1<|AG6<|AUp<|ATj<|ATj<|AUp<|ATj ?_;obtain rfl:=AGs<|Aj _ (AGs<|AT9 Aq Am).symm;exact ⟨_,AS9,Ab.x,rfl⟩
   ·refine AG5<|q_b<|q_t<|ATc<|ATp rfl rfl (AGq<|AGw ?_);exact ⟨_,(AGs<|AUa Aq Am).symm,Ab,rfl,trivial⟩
 ·refine ATk<|ATl<|ATl<|AUi<|q_t<|AGt<|AG1<|AG6 ?_;obtain rfl:=AGs<|Aj _ (AGs<|AUa Ai Ak).symm;exact ⟨_,AS9,Ab.x,rfl⟩
def Ajt (fuel:Nat) (Aa:Int) (Ac:LiA) (Ab:Int):Option (Int ⊕ (Bool ⊕ Unit)):=
 if Ab < (Ac.length:Int) then (gI Ac Ab).bind λAd=>if Ad < 0 then some (.inr<|.inl false) else if 0<=Aa/\Aa<=64 then if w64 (1 * 2 ^ Int.toNat Aa)<=Ad then some (.inr<|.inl false) else some (.inl<|w64<|Ab + 1) else none else some<|.inr<|.inr ()
def Aju (fuel:Nat) (Ac Ad:LiI) (Ab:Int) (Ae:LiA) (Aa:Int):Option (Int ⊕ (Bool ⊕ Unit)):=
 if Aa < (Ae.length:Int) then (gI Ad Ab).bind λAf=>(gI Af Aa).bind λAg=>(gI Ac Ab).bind λAh=>(gI Ah Aa).bind λAi=>if ¬ Ag=Ai then some (.inr<|.inl false) else some (.inl<|w64<|Aa + 1) else some<|.inr<|.inr ()
def Ajv (fuel:Nat) (Ac Ab:LiI) (Aa:Int):Option (Int ⊕ (Bool ⊕ Unit)):=
 if Aa < (Ab.length:Int) then (gI Ab Aa).bind λAd=>(iter (λs=>Aju fuel Ac Ab Aa Ad s) fuel 0).bind (λex=>match ex with | .inl Ae=>(some<|.inr<|.inl Ae) | .inr _=>some<|.inl<|w64<|Aa + 1) else some<|.inr<|.inr ()
def Ajw (fuel:Nat) (Ah:List AUr) (Ai Ab Ak Af:Int) (Ac:LiI):Option ((Int × Int × Int × LiI) ⊕ (Bool ⊕ LiI)):=
 if Af < (Ah.length:Int) then (gI Ah Af).bind λAa=>((if Aa.1 < Ak then some (.inl false) else if w64 (Ai - 3) < Aa.1 then some (.inl false) else (Ahy fuel Aa.1 Aa.2.1 Aa.2.2.1 Aa.2.2.2.1 Aa.2.2.2.2 Ai).bind λAm=>if (!Am)=true then some (.inl false) else (AXz fuel Aa.1 Aa.2.1 Aa.2.2.1 Aa.2.2.2.1 Aa.2.2.2.2).bind λAo=>if (!Ao)=true then some (.inl false) else some<|.inr ()):Option (Bool ⊕ Unit)).bind (λex=>match ex with | .inl Ap=>(some<|.inr<|.inl Ap) | .inr _=>(gI Ac Ab).bind λAd=>if 0<=Aa.1/\Aa.1<=64 then (gI Ad Ab).bind λAr=>((if Aa.2.1=2 then (gI (sI Ac Ab<|sI Ad Ab<|w64<|Aa.2.2.1 * 2 ^ Int.toNat Aa.1) Ab).bind λAe=>if 0<=Aa.1/\Aa.1<=64 then (gI Ae<|w64<|Ab + 1).bind λAu=>(gI (sI (sI Ac Ab<|sI Ad Ab<|w64<|Aa.2.2.1 * 2 ^ Int.toNat Aa.1) Ab<|sI Ae (w64<|Ab + 1)<|w64<|Aa.2.2.2.1 * 2 ^ Int.toNat Aa.1)<|w64<|Ab + 1).bind λAg=>if 0<=Aa.1/\Aa.1<=64 then (gI Ag Ab).bind λAv=>(gI (sI (sI (sI Ac Ab<|sI Ad Ab<|w64<|Aa.2.2.1 * 2 ^ Int.toNat Aa.1) Ab<|sI Ae (w64<|Ab + 1)<|w64<|Aa.2.2.2.1 * 2 ^ Int.toNat Aa.1) (w64<|Ab + 1)<|sI Ag Ab<|w64<|Aa.2.2.2.1 * 2 ^ Int.toNat Aa.1)<|w64<|Ab + 1).bind λAj=>if 0<=Aa.1/\Aa.1<=64 then (gI Aj<|w64<|Ab + 1).bind λAw=>some (sI (sI (sI (sI Ac Ab<|sI Ad Ab<|w64<|Aa.2.2.1 * 2 ^ Int.toNat Aa.1) Ab<|sI Ae (w64<|Ab + 1)<|w64<|Aa.2.2.2.1 * 2 ^ Int.toNat Aa.1) (w64<|Ab + 1)<|sI Ag Ab<|w64<|Aa.2.2.2.1 * 2 ^ Int.toNat Aa.1) (w64<|Ab + 1)<|sI Aj (w64<|Ab + 1)<|w64<|Aa.2.2.2.2 * 2 ^ Int.toNat Aa.1) else none else none else none else some<|sI Ac Ab<|sI Ad Ab<|w64<|Aa.2.2.1 * 2 ^ Int.toNat Aa.1):Option LiI).bind (λ(Aq:LiI)=>some<|.inl (w64<|Ab + Aa.2.1,Aa.1,w64<|Af + 1,Aq)) else none) else some<|.inr<|.inr Ac
def Ajx (fuel:Nat) (a3:LiI) (Ab:Int) (Ac:LiI):Option ((Int × LiI) ⊕ LiI):=
 if Ab < ((List.replicate (Int.toNat (a3.length:Int)) ([]:List Int)).length:Int) then if 0<=(a3.length:Int)/\(a3.length:Int)<=100000000 then (gI Ac Ab).bind λAd=>some (.inl (w64<|Ab + 1,sI Ac Ab<|List.replicate (Int.toNat (a3.length:Int)) (0:Int))) else none else some<|.inr Ac
def Ajy (fuel:Nat) (a8:LiI) (Ac Aa:Int):Option (Int ⊕ (Bool ⊕ Unit)):=
 if Aa < (a8.length:Int) then (gI a8 Aa).bind λAd=>(iter (λs=>Ajt fuel Ac Ad s) fuel 0).bind (λex=>match ex with | .inl Ae=>(some<|.inr<|.inl Ae) | .inr _=>some<|.inl<|w64<|Aa + 1) else some<|.inr<|.inr ()
def Aiv (fuel:Nat) (a3:LiI) (a5:Int) (a8:LiI) (Ad:List AUr) (Ab:Int):Option Bool:=
 (iter (λs=>Ajy fuel a8 Ab s) fuel 0).bind (λex=>match ex with | .inl Ae=>(some Ae) | .inr _=>(Akz fuel a8 2).bind λ(Af,Ao)=>if Af=0 then some false else if 0<=(a3.length:Int)/\(a3.length:Int)<=100000000 then (iter (λs=>Ajx fuel a3 s.1 s.2) fuel (0,List.replicate (Int.toNat (a3.length:Int)) ([]:List Int))).bind (λ(Ag:LiI)=>(iter (λs=>Ajw fuel Ad Ab s.1 s.2.1 s.2.2.1 s.2.2.2) fuel (0,0,0,Ag)).bind (λex=>match ex with | .inl Ah=>(some Ah) | .inr Ai=>if 0<=Ab/\Ab<=64 then (Afl fuel a3 a8<|w64<|1 * 2 ^ Int.toNat Ab).bind λ(Aj,Ap)=>(iter (λs=>Ajv fuel Ai Aj s) fuel 0).bind (λex=>match ex with | .inl Ak=>(some Ak) | .inr _=>some true) else none)) else none)
theorem Ao8 {B3:Value} {A3:Value} {a8:LiI} {A4:Value} {B5:(List AUr)} {A5:Int} (H2:AX8 (cI .i64) h B3 a3) (H7:AX8 (cI .i64) h A3 a8) (B6:SlC Ak7 h A4 B5) (hp:Aiv fuel a3 a5 a8 B5 A5=some r):AT3 Tryz.prog 43 #[B3,(.agg #[(.int .i64 a5),A3,A4]),(.int .i64 A5)] h (λx h'=>Ext h h'/\x= .bool r):=by
 unfold Aiv at hp;refine cwf (l:=[_,_,_]) Tryz.func43 rfl rfl (AGt<|AZa (Kst.k0 h) [(.int .i64 a5),A3,A4] λF7 F8 F9 A7=>AG1<|AGv<|AGt<|AU9 An3 AVg (A7.b p0) 1 rfl (AUb ATg rfl H7 (AGq<|AGw<|AGx<|AZp 281474708276544 hp (λx=>[(28,(.int .i64 x))]) (λx=>A7.L) A7 ⟨rfl,trivial⟩ ?_)));rintro Ga Gb Gc Gd Ae A8 A9;unfold Ajy at A8;refine AGt<|ATz rfl rfl (AGw<|AGv<|⟨_,rfl,λBa=>?_,λBa=>?_⟩)
 ·refine AG5<|q_t<|AGv<|AGx<|AGt ?_;obtain ⟨Ge,C5,C6⟩:=AGu<|AT9 A8 Ba;refine Ad3 ATg ATq H7 Ae.x C5 λ_ Gf B7=>AT7<|AGq<|AUu ATe rfl B7 (AGq<|AGw<|AGx<|AZp 140720308487232 C6 (λx=>[(34,(.int .i64 x))]) (λx=>Ae.L) Ae ⟨rfl,trivial⟩ ?_);rintro Gg Gh Gi Gj Ah Bb Bc;unfold Ajt at Bb;refine AGt<|ATz rfl rfl (AGw<|AGv<|⟨_,rfl,λBe=>?_,λBe=>?_⟩)
  ·refine AG5<|q_t<|AGv<|AGx<|AGt ?_;obtain ⟨C7,C8,B8⟩:=AGu<|AT9 Bb Be;refine Asy ATe ATh B7 Ah.x C8 λ_=>(AT7<|AGq<|ATz rfl rfl (AGq ?_));by_cases Ap:C7 < 0
   ·rw [decide_eq_true Ap];refine Ah6 40 true<|ATn rfl (AGw<|ATv rfl (AGt<|AG1<|AG6<|AUp<|ATj<|ATj<|AUp<|AUp<|ATj<|ATj<|AUp<|ATj ?_));obtain rfl:=AGs<|A9 _ (AGs<|Bc _ (AGs<|ifT B8 Ap).symm).symm;exact ⟨_,AS9,Ah.x,rfl⟩
   ·rw [decide_eq_false Ap];refine ATt 40 false<|AGq<|ATt 40 false<|AGq<|ATt 40 false ?_;obtain ⟨C9,B9⟩:=ifN<|ifF B8 Ap;refine AZh rfl rfl C9 (ATt 40 false<|Afb rfl rfl (ATx rfl (AGw<|⟨_,rfl,λBf=>?_,λBf=>?_⟩)))
    ·refine AGt<|AG1<|AG6<|AUp<|ATj<|ATj<|AUp<|AUp<|ATj<|ATj<|AUp<|ATj ?_;obtain rfl:=AGs<|A9 _ (AGs<|Bc _ (AGs<|AT9 B9 Bf).symm).symm;exact ⟨_,AS9,Ah.x,rfl⟩
    ·refine AG5<|q_b<|q_t<|ATc<|ATp rfl rfl (AGq<|AGw ?_);exact ⟨_,(AGs<|AUa B9 Bf).symm,Ah,rfl,trivial⟩
  ·refine ATk<|ATl<|ATl<|AUi<|q_b<|q_t<|ATc<|ATp rfl rfl (AGq<|AGw ?_);exact ⟨_,(AGs<|Bc _ (AGs<|AUa Bb Be).symm).symm,Ah,rfl,trivial⟩
 ·refine ATk<|ATl<|ATl<|AUi<|q_t<|AGv<|AGt<|AU9 An3 AVg (Ae.b p0) 1 rfl ?_;obtain ⟨⟨Gk,Gl⟩,Da,Bg⟩:=AGu<|A9 _ (AGs<|AUa A8 Ba).symm;dsimp only at Bg;refine AYn Ae (Aqw (H7.ext Ae.x) Da) λGm Gn Ca=>AGq<|AUh rfl rfl (AUh rfl rfl (ATu<|AT7<|AGq<|AWe rfl rfl (AGw<|⟨_,rfl,λBh=>?_,λBh=>?_⟩)))
  ·refine AGt<|AG1<|AG6<|ATj ?_;obtain rfl:=AGs<|AT9 Bg Bh;exact ⟨_,AS9,Ca.x,rfl⟩
  ·refine AG5<|q_t<|AGt<|AGq<|AUb ATg rfl H2 ?_;obtain ⟨Db,Dc⟩:=ifN<|AUa Bg Bh;refine Ajk (cI .i64) 2 ATg Ae8 rfl trivial tt2 rfl rfl AGr Db λDd De Df Bi Gp Dg Dh Di=>AG1<|AGv<|AGt<|AGq ?_;have Bj:=Ca.no2 Dh Di Dg;refine AUb ATg rfl (Bj.o2 p0).rd (AGq<|AGw<|AGx<|AYo 2358877398425608929280 (λx:(Int) × (LiI) × LnA × LnN × LvA=>(x.1,x.2.1)) ((0,(List.replicate (Int.toNat (a3.length:Int)) ([]:List Int)),Dd,De,Df):(Int) × (LiI) × LnA × LnN × LvA) Dc (λx=>[(61,(.int .i64 x.1))]) (λx=>Bj.L.set 0<|aO2 (cI .i64) 61 2 x.2.2.1 x.2.2.2.1 x.2.2.2.2 Bi x.2.1) Bj ⟨rfl,trivial⟩ ?_);rintro ⟨Gq,Dj,Dk,Dl,Do⟩ Gr Gt Gu Aq Bl Dp;unfold Ajx at Bl;refine AGt<|ATz rfl rfl (AGw<|AGv<|⟨_,rfl,λBm=>?_,λBm=>?_⟩)
   ·refine AG5<|q_t<|AGv<|AGx<|AGt<|AGq<|AG1<|ATc<|AGq<|AGq<|AGq<|AUb ATg rfl H2 ?_;obtain ⟨Dq,Dr⟩:=ifN<|AT9 Bl Bm;refine Aip (c:=(cI .i64)) (a:=0) ATe Acs rfl rfl (λ_=>rfl) rfl trivial tt2 rfl rfl AGr Dq λGv Gw Gx Ds Dt Du Dv=>?_;have Ai:=Aq.no Dt (AX4 Du Dv) Ds;obtain ⟨Gy,Cb,Dw⟩:=AGu Dr;refine AUy ATg rfl (Ai.o2 p1) rfl Cb λGz G3 Dx G4 G5=>Ajj ATq (Ai.o2 p1) Cb Dx rfl rfl (Ai.o p0) (Ai.dj p0 p1 AGr) λG6 Dy Dz D0=>ATr<|q_b<|q_t<|ATc<|ATp rfl rfl (AGq<|AGw ?_);exact ⟨(_,_,_,_,_),(AGs Dw).symm,(Ai.m2 p0 p1 AGr Dz Dy λz hz=> .inl<|D0 z hz).sel [1,2] AGr,rfl,trivial⟩
   ·refine ATk<|ATl<|ATl<|AUi<|q_t<|AGt<|ATu<|AG1<|AGv<|AGt<|AU9 Aka Aq4 (Aq.b p1) 2 rfl (AUu Anj rfl B6 (AGq<|AGw<|AGx<|AYo 365375409332725729550921189289604823435402641472 (λx:(Int) × (Int) × (Int) × (LiI) × LnA × LnN × LvA=>(x.1,x.2.1,x.2.2.1,x.2.2.2.1)) ((0,0,0,Dj,Dk,Dl,Do):(Int) × (Int) × (Int) × (LiI) × LnA × LnN × LvA) (Dp _ (AGs<|AUa Bl Bm).symm) (λx=>[(15,(.int .i64 x.1)),(16,(.int .i64 x.2.1)),(74,(.int .i64 x.2.2.1))]) (λx=>Aq.L.set 0<|aO2 (cI .i64) 61 2 x.2.2.2.2.1 x.2.2.2.2.2.1 x.2.2.2.2.2.2 Bi x.2.2.2.1) Aq ⟨rfl,rfl,rfl,trivial⟩ ?_));rintro ⟨Ab,D2,G7,Cd,Ce,Cf,Cg⟩ G8 G9 Hb Af Bn Aj;unfold Ajw at Bn;refine AGt<|ATz rfl rfl (AGw<|AGv<|⟨_,rfl,λBo=>?_,λBo=>?_⟩)
    ·refine AG5<|q_t<|AGv<|AGx<|AGt ?_;obtain ⟨Aa,D3,D4⟩:=AGu<|AT9 Bn Bo;refine Ack (c:=Ak7) Anj rfl B6 rfl D3 λHc Hd He D5 D6=>?_;obtain rfl:=D5;refine Agm (c:=Ak7) Adf rfl rfl (λj u hu=>(ATw (D6 j u hu) Af.x)) (AV7 Af [(.int .i64 0),(.int .i64 0),(.int .i64 0),(.int .i64 0),(.int .i64 0)] Ank λHf Hg Hh Ch=>AVf [(.int .i64 Aa.1),(.int .i64 Aa.2.1),(.int .i64 Aa.2.2.1),(.int .i64 Aa.2.2.2.1),(.int .i64 Aa.2.2.2.2)] Adf rfl rfl rfl rfl (by simp [isOne]) (Ch.b p0) λHj D7 D8=>AGw ?_);have Ac:=Ch.sb p0 D8 D7 rfl;obtain ⟨D9,Ci,Ak⟩:=AGu D4;refine Ae6 1267650297996774497839409528896 (λx:Unit=>[]) (λx h'=>(Sum.inr <| ())=D9/\Kst h h' (Ac.L)) ?_ ?_
     ·refine AGt<|AU9 Ac7 AT8 (Ac.b p0) 0 rfl (AGq<|ATz rfl rfl (AGq ?_));by_cases Ar:Aa.1 < D2
      ·rw [decide_eq_true Ar];refine AY4 82 true<|ATn rfl (AGq<|Ah6 89 true<|ATn rfl (AGq<|Acj 95 true<|ATn rfl (AGw<|ATv rfl (AGt<|AG1 ?_))));obtain rfl:=AGs<|ifT Ci Ar;refine AG6<|ATj<|AUp<|ATj<|ATj<|AUp<|ATj ?_;obtain rfl:=AGs<|Aj _ (AGs Ak).symm;exact ⟨_,AS9,Ac.x,rfl⟩
      ·have Cj:=ifF Ci Ar;rw [decide_eq_false Ar];refine ATt 82 false<|AVa Ac7 rfl (ATt 82 false<|AT1 AT8 rfl ((Ac.b p0).cell (i:=0) rfl) (ATt 82 false<|AGq<|ATt 82 false<|AVm rfl rfl (ATt 82 false<|AZv rfl rfl (ATx rfl (AGq ?_)))));by_cases Au:(w64<|A5 - 3) < Aa.1
       ·rw [decide_eq_true Au];refine Ah6 89 true<|ATn rfl (AGq<|Acj 95 true<|ATn rfl (AGw<|ATv rfl (AGt<|AG1 ?_)));obtain rfl:=AGs<|ifT Cj Au;refine AG6<|ATj<|AUp<|ATj<|ATj<|AUp<|ATj ?_;obtain rfl:=AGs<|Aj _ (AGs Ak).symm;exact ⟨_,AS9,Ac.x,rfl⟩
       ·rw [decide_eq_false Au];refine ATt 89 false<|Abi [(.int .i64 Aa.1),(.int .i64 Aa.2.1),(.int .i64 Aa.2.2.1),(.int .i64 Aa.2.2.2.1),(.int .i64 Aa.2.2.2.2)] Adf rfl rfl (Ac.b p0).agg (ATt 89 false<|AGq<|ATt 89 false ?_);obtain ⟨Ea,Eb,Ck⟩:=AGu<|ifF Cj Au;refine AYn Ac (Aon Eb) λHk Hl Bp=>ATt 89 false<|AW0 rfl (ATx rfl (AGq ?_));cases Cm:(!Ea)
        ·refine ATt 95 false<|Abi [(.int .i64 Aa.1),(.int .i64 Aa.2.1),(.int .i64 Aa.2.2.1),(.int .i64 Aa.2.2.2.1),(.int .i64 Aa.2.2.2.2)] Adf rfl rfl (Bp.b p0).agg (ATt 95 false ?_);obtain ⟨Hm,Ec,Cn⟩:=AGu<|Abh Ck Cm;refine AYn Bp (Ahe Ec) λHn Ho Co=>ATt 95 false<|AW0 rfl (ATx rfl (AGw<|⟨_,rfl,λBq=>?_,λBq=>?_⟩))
         ·refine AGt<|AG1 ?_;obtain rfl:=AGs<|ifT Cn Bq;refine AG6<|ATj<|AUp<|ATj<|ATj<|AUp<|ATj ?_;obtain rfl:=AGs<|Aj _ (AGs Ak).symm;exact ⟨_,AS9,Co.x,rfl⟩
         ·refine AG5<|q_t ?_;exact ⟨(():Unit),⟨AGs<|Abh Cn Bq,Co⟩,trivial⟩
        ·refine Acj 95 true<|ATn rfl (AGw<|ATv rfl (AGt<|AG1 ?_));obtain rfl:=AGs<|ifT Ck Cm;refine AG6<|ATj<|AUp<|ATj<|ATj<|AUp<|ATj ?_;obtain rfl:=AGs<|Aj _ (AGs Ak).symm;exact ⟨_,AS9,Bp.x,rfl⟩
     rintro ⟨⟩ Hq Hr ⟨Ed,Av⟩;subst Ed;refine AGv<|AWg<|AGq<|AGq ?_;obtain ⟨Cp,Cq,Ee⟩:=AGu Ak;refine AUs ATg ATq (Av.o2 p1) Cq λ_ Hs Ef=>AGq<|AU9 Ag2 ATh (Av.b p0) 2 rfl (AU9 Ac7 AT8 (Av.b p0) 0 rfl ?_);obtain ⟨Eg,Eh⟩:=ifN Ee;refine AZh rfl rfl Eg ?_;obtain ⟨Ht,Ei,Ej⟩:=AGu Eh;refine AZ7 (m:=Ab) Av p1 ATe ATh Ef Cq Ei (λ_=>rfl) λ_ Hu Ad=>AGw ?_;obtain ⟨Ek,Cr,El⟩:=AGu Ej;refine Ae6 2854495385409323613687304525084725024600883200 (λx:(LiI) × LnA × LnN × LvA=>[]) (λx h'=>( x.1)=Ek/\Kst h h' (Ad.L.set 1<|aO2 (cI .i64) 61 2 x.2.1 x.2.2.1 x.2.2.2 Bi x.1)) ?_ ?_
     ·refine AGt<|AU9 Agc AT8 (Ad.b p0) 1 rfl (AWe rfl rfl (AGw<|⟨_,rfl,λBr=>?_,λBr=>?_⟩))
      ·refine AGv<|AWg<|AGq<|AGq ?_;obtain ⟨Em,Ct,En⟩:=AGu<|AT9 Cr Br;refine AUs ATg ATq (Ad.o2 p1) Ct λ_ Hv Eo=>AGq<|ATp rfl rfl (AU9 Agd ATh (Ad.b p0) 3 rfl (AU9 Ac7 AT8 (Ad.b p0) 0 rfl ?_));obtain ⟨Ep,Er⟩:=ifN En;refine AZh rfl rfl Ep ?_;obtain ⟨Hw,Es,Et⟩:=AGu Er;refine AZ7 (m:=Ab) Ad p1 ATe ATh Eo Ct Es (λ_=>rfl) λ_ Hx Aw=>AGw<|AGv<|AWg<|AGq<|AGq<|ATp rfl rfl ?_;obtain ⟨Eu,Cu,Ev⟩:=AGu Et;refine AUs ATg ATq (Aw.o2 p1) Cu λ_ Hy Ew=>AGq<|AU9 Agd ATh (Aw.b p0) 3 rfl (AU9 Ac7 AT8 (Aw.b p0) 0 rfl ?_);obtain ⟨Ey,Ez⟩:=ifN Ev;refine AZh rfl rfl Ey ?_;obtain ⟨Hz,Fa,Fb⟩:=AGu Ez;refine AZ7 (m:=(w64<|Ab + 1)) Aw p1 ATe ATh Ew Cu Fa (λ_=>rfl) λ_ Ia Ax=>AGw<|AWg<|AGq<|AGq<|ATp rfl rfl ?_;obtain ⟨Fc,Cv,Fd⟩:=AGu Fb;refine AUs ATg ATq (Ax.o2 p1) Cv λ_ Ib Fe=>AGq<|ATp rfl rfl (AU9 Akb ATh (Ax.b p0) 4 rfl (AU9 Ac7 AT8 (Ax.b p0) 0 rfl ?_));obtain ⟨Ff,Fg⟩:=ifN Fd;refine AZh rfl rfl Ff ?_;obtain ⟨Ic,Fh,Fi⟩:=AGu Fg;refine AZ7 (m:=(w64<|Ab + 1)) Ax p1 ATe ATh Fe Cv Fh (λ_=>rfl) λ_ Id Fj=>AGw ?_;exact ⟨(((sI (sI (sI (sI Cd Ab<|sI Cp Ab<|w64<|Aa.2.2.1 * 2 ^ Int.toNat Aa.1) Ab<|sI Em (w64<|Ab + 1)<|w64<|Aa.2.2.2.1 * 2 ^ Int.toNat Aa.1) (w64<|Ab + 1)<|sI Eu Ab<|w64<|Aa.2.2.2.1 * 2 ^ Int.toNat Aa.1) (w64<|Ab + 1)<|sI Fc (w64<|Ab + 1)<|w64<|Aa.2.2.2.2 * 2 ^ Int.toNat Aa.1),Ce,Cf,Cg):(LiI) × LnA × LnN × LvA),⟨AGs Fi,Fj⟩,trivial⟩
      ·refine AG5<|q_t ?_;exact ⟨(((sI Cd Ab<|sI Cp Ab<|w64<|Aa.2.2.1 * 2 ^ Int.toNat Aa.1),Ce,Cf,Cg):(LiI) × LnA × LnN × LvA),⟨AGs<|AUa Cr Br,Ad⟩,trivial⟩
     rintro ⟨Ie,If,Ih,Ii⟩ Ij Ik ⟨Fk,Bt⟩;subst Fk;refine AGt<|AGq<|AU9 Agc AT8 (Bt.b p0) 1 rfl (ATp rfl rfl (AG1<|ATc<|AU9 Ac7 AT8 (Bt.b p0) 0 rfl (ATu<|ATr<|q_b<|q_t<|ATc<|ATp rfl rfl (AGq<|AGw ?_))));exact ⟨(_,_,_,_,_,_,_),(AGs El).symm,Bt.sel [1,2] AGr,rfl,rfl,rfl,trivial⟩
    ·refine ATk<|ATl<|ATl<|AUi<|q_t<|AGv<|AWg<|AGq<|AU9 An3 AVg (Af.b p1) 1 rfl (AGq ?_);obtain ⟨Fl,Fm⟩:=ifN<|Aj _ (AGs<|AUa Bn Bo).symm;refine AZh rfl rfl Fl ?_;obtain ⟨⟨Il,Im⟩,Fo,Cw⟩:=AGu Fm;dsimp only at Cw;refine Aeq rfl (Aln (H2.ext Af.x) (H7.ext Af.x) Fo) λIo Ip Fp Fq=>?_;obtain ⟨Iq,Ir,Is,It,rfl,Ft,Fu⟩:=Fq;refine AGq<|AUh rfl rfl (AUh rfl rfl (ATu<|AG1<|AGv<|AGt<|AGq ?_));have Cx:=Af.no2 Fp Fu Ft;refine AUb ATg rfl (Cx.o2 p0).rd (AGq<|AGw<|AGx ?_);have Bu:=Cx.sel [0,1] AGr;dsimp only [AY6,Acl] at Bu;refine AZp 6277100987097842450413495302921032065365449380626603966528 Cw (λx=>[(169,(.int .i64 x))]) (λx=>Bu.L) Bu ⟨rfl,trivial⟩ ?_;rintro Cy Iu Iv Iw Am Bv Cz;unfold Ajv at Bv;refine AGt<|ATz rfl rfl (AGw<|AGv<|⟨_,rfl,λBw=>?_,λBw=>?_⟩)
     ·refine AG5<|q_t<|AGv<|AGx<|AGt<|AGq ?_;obtain ⟨Ix,C0,Fv⟩:=AGu<|AT9 Bv Bw;refine AUs ATg ATq (Am.o2 p0) C0 λ_ Iy C1=>ATu<|AT7<|AGq<|AUu ATe rfl ((Am.o2 p0).rowI C1 C0) (AGq<|AGw<|AGx<|AZp 3138455086722036263864247314914636313727201551036905947200 Fv (λx=>[(176,(.int .i64 x))]) (λx=>Am.L) Am ⟨rfl,trivial⟩ ?_);rintro Iz I0 I1 I2 Ag Bx C2;unfold Aju at Bx;refine AGt<|ATz rfl rfl (AGw<|AGv<|⟨_,rfl,λBy=>?_,λBy=>?_⟩)
      ·refine AG5<|q_t<|AGv<|AGx<|AGt<|AGq ?_;obtain ⟨I3,Fw,Fx⟩:=AGu<|AT9 Bx By;obtain ⟨I6,Fy,Fz⟩:=AGu Fx;refine AW5 (m:=Cy) ATe ATh (Ag.o2 p0) C1 Fw Fy λ_=>(ATu<|AT7<|AGq<|AGq<|AGq ?_);obtain ⟨I7,C3,F4⟩:=AGu Fz;refine AUs ATg ATq (Ag.o2 p1) C3 λ_ I9 F5=>AGq ?_;obtain ⟨Ja,F6,C4⟩:=AGu F4;refine AW5 (m:=Cy) ATe ATh (Ag.o2 p1) F5 C3 F6 λ_=>(AV2 rfl rfl (AGw<|⟨_,rfl,λBz=>?_,λBz=>?_⟩))
       ·refine AGt<|AG1<|AG6<|AUp<|ATj<|ATj<|AUp<|AUp<|ATj<|ATj<|AUp<|ATj ?_;obtain rfl:=AGs<|Cz _ (AGs<|C2 _ (AGs<|AT9 C4 Bz).symm).symm;exact ⟨_,AS9,Ag.x,rfl⟩
       ·refine AG5<|q_b<|q_t<|ATc<|ATp rfl rfl (AGq<|AGw ?_);exact ⟨_,(AGs<|AUa C4 Bz).symm,Ag,rfl,trivial⟩
      ·refine ATk<|ATl<|ATl<|AUi<|q_b<|q_t<|ATc<|ATp rfl rfl (AGq<|AGw ?_);exact ⟨_,(AGs<|C2 _ (AGs<|AUa Bx By).symm).symm,Ag,rfl,trivial⟩
     ·refine ATk<|ATl<|ATl<|AUi<|q_t<|AGt<|AG1<|AG6 ?_;obtain rfl:=AGs<|Cz _ (AGs<|AUa Bv Bw).symm;exact ⟨_,AS9,Am.x,rfl⟩
noncomputable def Ajz (fuel:Nat) (a3:LiI) (Ae:List AUr) (Aa Ab:Int):Option ((Int × Int) ⊕ (Int ⊕ Int)):=
 if Ab < (Ae.length:Int) then (gI Ae Ab).bind λAc=>((if ¬ Ac.2.1=1 then if ¬ Ac.2.1=2 then some (.inl 3) else if (a3.length:Int) < Aa then some (.inl 3) else some (.inr ()) else if (a3.length:Int) < Aa then some (.inl 3) else some<|.inr ()):Option (Int ⊕ Unit)).bind (λex=>match ex with | .inl Af=>(some<|.inr<|.inl Af) | .inr _=>some<|.inl (w64<|Aa + Ac.2.1,w64<|Ab + 1)) else some<|.inr<|.inr Aa
noncomputable def Aj0 (fuel:Nat) (a3 a8:LiI) (Aa:Int):Option (Int ⊕ (Int ⊕ Unit)):=
 if Aa < (a8.length:Int) then (gI a8 Aa).bind λAd=>if ¬ (Ad.length:Int)=(a3.length:Int) then some (.inr<|.inl 3) else some (.inl<|w64<|Aa + 1) else some<|.inr<|.inr ()
noncomputable def Agg (fuel:Nat) (a3:LiI) (a5:Int) (a8:LiI) (Ad:List AUr):Option Int:=
 (Ali fuel a3).bind λAe=>if (!Ae)=true then some 6 else if ¬ a5=2 then some 20 else if ¬ (a8.length:Int)=(a3.length:Int) then some 3 else (iter (λs=>Aj0 fuel a3 a8 s) fuel 0).bind (λex=>match ex with | .inl Af=>(some Af) | .inr _=>(iter (λs=>Ajz fuel a3 Ad s.1 s.2) fuel (0,0)).bind (λex=>match ex with | .inl Ag=>(some Ag) | .inr Ah=>if ¬ Ah=(a3.length:Int) then some 3 else (AXf fuel a3 2).bind λ(Ai,Ak)=>(Aiv fuel a3 a5 a8 Ad Ai).bind λAj=>if (!Aj)=true then some 10 else some 0))
theorem Ao9 {A9:Value} {Ah:Value} {a8:LiI} {Ai:Value} {Bc:(List AUr)} {r:Int} (H2:AX8 (cI .i64) h A9 a3) (H7:AX8 (cI .i64) h Ah a8) (Ar:SlC Ak7 h Ai Bc) (HO:Aoi h) (hp:Agg fuel a3 a5 a8 Bc=some r):AT3 Tryz.prog 12 #[A9,(.agg #[(.int .i64 a5),Ah,Ai])] h (λx h'=>Ext h h'/\x= .int .i64 r):=by
 unfold Agg at hp;refine cwf (l:=[_,_]) Tryz.func12 rfl rfl (AGt<|AZa (Kst.k0 h) [(.int .i64 a5),Ah,Ai] λCd Ce Cf Be=>AG1<|AGv<|AGt<|AGq ?_);obtain ⟨Cg,Bw,Bf⟩:=AGu hp;refine AYn Be (As8 (H2.ext Be.x) Bw) λCh Ci Aa=>AW0 rfl (AGw<|⟨_,rfl,λAu=>?_,λAu=>?_⟩)
 ·refine AGt<|AG1<|AG6<|ATj ?_;obtain rfl:=AGs<|ifT Bf Au;exact ⟨_,AS9,Aa.x,rfl⟩
 ·refine AG5<|q_t<|AGv<|AGt<|AU9 A1h ATh (Aa.b p0) 0 rfl (AV2 rfl rfl (AGw ?_));have Bg:=Abh Bf Au;refine ⟨_,rfl,λAv=>?_,λAv=>?_⟩
  ·refine AGt<|AG1<|AG6<|ATj ?_;obtain rfl:=AGs<|AT9 Bg Av;exact ⟨_,AS9,Aa.x,rfl⟩
  ·refine AG5<|q_t<|AGt<|AGq<|AUb ATg rfl H2 (AG1<|AGv<|AGt<|AU9 An3 AVg (Aa.b p0) 1 rfl (AUb ATg rfl H7 (AGq<|AV2 rfl rfl (AGw ?_))));have Bh:=AUa Bg Av;refine ⟨_,rfl,λAw=>?_,λAw=>?_⟩
   ·refine AGt<|AG1<|AG6<|ATj ?_;obtain rfl:=AGs<|AT9 Bh Aw;exact ⟨_,AS9,Aa.x,rfl⟩
   ·refine AG5<|q_t<|AGv<|AGt<|AU9 An3 AVg (Aa.b p0) 1 rfl (AUb ATg rfl H7 (AGq<|AGw<|AGx<|AZp 274341036176 (AUa Bh Aw) (λx=>[(29,(.int .i64 x))]) (λx=>Aa.L) Aa ⟨rfl,trivial⟩ ?_));rintro Cj Ck Cm Cn Ad Ax Bi;unfold Aj0 at Ax;refine AGt<|ATz rfl rfl (AGw<|AGv<|⟨_,rfl,λAy=>?_,λAy=>?_⟩)
    ·refine AG5<|q_t<|AGv<|AGx<|AGt ?_;obtain ⟨Co,Bx,Bj⟩:=AGu<|AT9 Ax Ay;refine Ad3 ATg ATq H7 Ad.x Bx λ_ Cp By=>AT7<|AGq<|AUu ATe rfl By (AGq<|AV2 rfl rfl (AGw<|⟨_,rfl,λAz=>?_,λAz=>?_⟩))
     ·refine AGt<|AG1<|AG6<|AUp<|ATj<|ATj<|AUp<|ATj ?_;obtain rfl:=AGs<|Bi _ (AGs<|AT9 Bj Az).symm;exact ⟨_,AS9,Ad.x,rfl⟩
     ·refine AG5<|q_b<|q_t<|ATc<|ATp rfl rfl (AGq<|AGw ?_);exact ⟨_,(AGs<|AUa Bj Az).symm,Ad,rfl,trivial⟩
    ·refine ATk<|ATl<|ATl<|AUi<|q_t<|AGt<|AG1<|AGv<|AGt<|AU9 Aka Aq4 (Ad.b p0) 2 rfl (AUu Anj rfl Ar (AGq<|AGw<|AGx<|AZp 9223369837831521552 (Bi _ (AGs<|AUa Ax Ay).symm) (λx=>[(8,(.int .i64 x.1)),(41,(.int .i64 x.2))]) (λx=>Ad.L) Ad ⟨rfl,rfl,trivial⟩ ?_));rintro ⟨Cq,Cr⟩ Ct Cu Cv Ae A3 Am;unfold Ajz at A3;refine AGt<|ATz rfl rfl (AGw<|AGv<|⟨_,rfl,λA4=>?_,λA4=>?_⟩)
     ·refine AG5<|q_t<|AGv<|AGx<|AGt ?_;obtain ⟨Ac,Bz,B3⟩:=AGu<|AT9 A3 A4;refine Ack (c:=Ak7) Anj rfl Ar rfl Bz λCw Cx Cy B4 B5=>?_;obtain rfl:=B4;refine Agm (c:=Ak7) Adf rfl rfl (λj u hu=>(ATw (B5 j u hu) Ae.x)) (AV7 Ae [(.int .i64 0),(.int .i64 0),(.int .i64 0),(.int .i64 0),(.int .i64 0)] Ank λCz C0 C1 Bl=>AVf [(.int .i64 Ac.1),(.int .i64 Ac.2.1),(.int .i64 Ac.2.2.1),(.int .i64 Ac.2.2.2.1),(.int .i64 Ac.2.2.2.2)] Adf rfl rfl rfl rfl (by simp [isOne]) (Bl.b p0) λC2 B6 B7=>AGw ?_);have Ab:=Bl.sb p0 B7 B6 rfl;obtain ⟨B8,Bm,Ao⟩:=AGu B3;refine Ae6 288195191779622928 (λx:Unit=>[]) (λx h'=>(Sum.inr <| ())=B8/\Kst h h' (Ab.L)) ?_ ?_
      ·refine AGt<|AU9 Agc AT8 (Ab.b p0) 1 rfl (AV2 rfl rfl (AGq ?_));by_cases Ap: ¬ Ac.2.1=1
       ·have Bn:=ifT Bm Ap;rw [decide_eq_true Ap];refine ATt 48 true<|AVa Agc rfl (ATt 48 true<|AT1 AT8 rfl ((Ab.b p0).cell (i:=1) rfl) (ATt 48 true<|AV2 rfl rfl (ATn rfl (AGq ?_))));by_cases Aq: ¬ Ac.2.1=2
        ·rw [decide_eq_true Aq];refine Acj 53 true<|ATn rfl (AGw<|ATv rfl (AGt<|AG1 ?_));obtain rfl:=AGs<|ifT Bn Aq;refine AG6<|ATj<|AUp<|ATj<|ATj<|AUp<|ATj ?_;obtain rfl:=AGs<|Am _ (AGs Ao).symm;exact ⟨_,AS9,Ab.x,rfl⟩
        ·have Bo:=ifF Bn Aq;rw [decide_eq_false Aq];refine ATt 53 false<|AGq<|ATt 53 false<|AGq<|ATt 53 false<|AZv rfl rfl (ATx rfl (AGw<|⟨_,rfl,λA5=>?_,λA5=>?_⟩))
         ·refine AGt<|AG1 ?_;obtain rfl:=AGs<|AT9 Bo A5;refine AG6<|ATj<|AUp<|ATj<|ATj<|AUp<|ATj ?_;obtain rfl:=AGs<|Am _ (AGs Ao).symm;exact ⟨_,AS9,Ab.x,rfl⟩
         ·refine AG5<|q_t ?_;exact ⟨(():Unit),⟨AGs<|AUa Bo A5,Ab⟩,trivial⟩
       ·have Bp:=ifF Bm Ap;rw [decide_eq_false Ap];refine Acj 48 false<|ATx rfl (AGq<|ATt 53 false<|AGq<|ATt 53 false<|AGq<|ATt 53 false<|AZv rfl rfl (ATx rfl (AGw<|⟨_,rfl,λA6=>?_,λA6=>?_⟩)))
        ·refine AGt<|AG1 ?_;obtain rfl:=AGs<|AT9 Bp A6;refine AG6<|ATj<|AUp<|ATj<|ATj<|AUp<|ATj ?_;obtain rfl:=AGs<|Am _ (AGs Ao).symm;exact ⟨_,AS9,Ab.x,rfl⟩
        ·refine AG5<|q_t ?_;exact ⟨(():Unit),⟨AGs<|AUa Bp A6,Ab⟩,trivial⟩
      rintro ⟨⟩ C3 C4 ⟨B9,Bq⟩;subst B9;refine ATc<|AGq<|AU9 Agc AT8 (Bq.b p0) 1 rfl (ATp rfl rfl (ATu<|ATr<|q_b<|q_t<|ATc<|ATp rfl rfl (AGq<|AGw ?_)));exact ⟨_,(AGs Ao).symm,Bq.sel [1] AGr,rfl,rfl,trivial⟩
     ·refine ATk<|ATl<|ATl<|AUi<|q_t<|AGv<|AGt<|AGq<|AGq<|AV2 rfl rfl (AGw ?_);have Br:=Am _ (AGs<|AUa A3 A4).symm;refine ⟨_,rfl,λA7=>?_,λA7=>?_⟩
      ·refine AGt<|AG1<|AG6<|ATj ?_;obtain rfl:=AGs<|AT9 Br A7;exact ⟨_,AS9,Ae.x,rfl⟩
      ·refine AG5<|q_t<|AGt<|AGq ?_;obtain ⟨⟨C5,C6⟩,Ca,Bt⟩:=AGu<|AUa Br A7;dsimp only at Bt;refine AYn Ae (Ahm (H2.ext Ae.x) (HO.ext Ae.x) Ca) λC7 C8 Af=>AGq<|AUh rfl rfl (AUh rfl rfl (ATu<|AG1<|AGv<|AGt<|AGq<|Abi [(.int .i64 a5),Ah,Ai] Af1 rfl rfl (Af.b p0).agg (AGq ?_)));obtain ⟨C9,Cb,Bu⟩:=AGu Bt;refine AYn Af (Ao8 (H2.ext Af.x) (H7.ext Af.x) (Ar.ext Af.x) Cb) λDa Db Bv=>AW0 rfl (AGw<|⟨_,rfl,λA8=>?_,λA8=>?_⟩)
       ·refine AGt<|AG1<|AG6<|ATj ?_;obtain rfl:=AGs<|ifT Bu A8;exact ⟨_,AS9,Bv.x,rfl⟩
       ·refine AG5<|q_t<|AGt<|AG1<|AG6 ?_;obtain rfl:=AGs<|Abh Bu A8;exact ⟨_,AS9,Bv.x,rfl⟩
noncomputable def AZe (fuel:Nat):Option Bool:=
 (AVy fuel 2 ([([1,0]:List Int),([0,1]:List Int)]:List LiA) ([(0,2,2,1,2)]:List AUr)).bind λ(Aa,Ab)=>if Ab=true then (Agg fuel ([([2,1]:List Int),([1,2]:List Int)]:List LiA) 2 ([([1,0]:List Int),([0,1]:List Int)]:List LiA) ([(0,2,2,1,2)]:List AUr)).bind λAc=>if Ac=0 then (Ak0 fuel 2 ([([1,0]:List Int),([0,1]:List Int)]:List LiA) ([(0,2,2,1,2)]:List AUr)).bind λAd=>if Ad=true then (Ac0 fuel Aa ([(0,2,-1,false,0)]:List AWo)).bind λAe=>some Ae else some false else some false else some false
theorem Ak1 (HO:Aoi h) (hp:AZe fuel=some r):AT3 Tryz.prog 14 #[] h (λx h'=>Ext h h'/\x= .bool r):=by
 unfold AZe at hp;refine cwf (l:=[]) Tryz.func14 rfl rfl (AGt<|AT7<|Aqg (κ:= .i64) [2,1] ATe Acs rfl rfl trivial tt2 rfl rfl rfl rfl λb1 v2 h3 I4 E5 A3 A4=>Aqg (κ:= .i64) [1,2] ATe Acs rfl rfl trivial tt2 rfl rfl rfl rfl λA5 A6 Cr A7 A8 A9 Ba=>?_);have Ab:=((Kst.k0 h).no E5 (AX4 A3 A4) I4).no A8 (AX4 A9 Ba) A7;have Ao:=(((Ab.a0).grab p1).grab p0);refine An7 (c:=(cI .i64)) (el:=2) [[b1],[A5]] [v2,A6] [([2,1]:List Int),([1,2]:List Int)] ATg Ae8 rfl rfl trivial tt2 rfl rfl rfl rfl (AY9 (Ab.o p1).isOne<|AY9 (Ab.o p0).isOne Akf) ⟨(Ab.o p1),(Ab.o p0),trivial⟩ (by simpa using Ao.ndT) λCt Cu Cv Bb Bc Be=>AT7<|Aqg (κ:= .i64) [1,0] ATe Acs rfl rfl trivial tt2 rfl rfl rfl rfl λBf Bg Cw Bh Bi Bj Bl=>Aqg (κ:= .i64) [0,1] ATe Acs rfl rfl trivial tt2 rfl rfl rfl rfl λBm Bn Cx Bo Bp Bq Br=>?_;have Ac:=((Ao.lit Bc Bb<|by simpa using Be).no Bi (AX4 Bj Bl) Bh).no Bp (AX4 Bq Br) Bo;have Ap:=(((Ac.a0).grab p1).grab p0);refine An7 (c:=(cI .i64)) (el:=2) [[Bf],[Bm]] [Bg,Bn] [([1,0]:List Int),([0,1]:List Int)] ATg Ae8 rfl rfl trivial tt2 rfl rfl rfl rfl (AY9 (Ac.o p1).isOne<|AY9 (Ac.o p0).isOne Akf) ⟨(Ac.o p1),(Ac.o p0),trivial⟩ (by simpa using Ap.ndT) λCy Ad Cz Bt Bu Bv=>AWr (v:=(.agg #[(.int .i64 0),(.int .i64 2),(.int .i64 2),(.int .i64 1),(.int .i64 2)])) (λ_=>by kernel_rfl)<|A6a Ak7 ([(0,2,2,1,2)]:List AUr) [[(.int .i64 0),(.int .i64 2),(.int .i64 2),(.int .i64 1),(.int .i64 2)]] [(0,(.agg #[(.int .i64 0),(.int .i64 2),(.int .i64 2),(.int .i64 1),(.int .i64 2)]))] Anj Ank rfl trivial tt2 rfl rfl rfl AG3 rfl (A1t (λ_=>rfl) A1s) λC0 Ae C1 Bw Bx By Bz=>?_;have Aj:=(Ap.lit Bu Bt<|by simpa using Bv).no Bx (AX4 By Bz) Bw;obtain ⟨_,_,_,B3⟩:=(Aj.o2 p1).rd.shape;obtain ⟨_,_,_,B4⟩:=(Aj.o p0).rd.shape;refine AWr (v:=(.agg #[(.int .i64 2),Ad,Ae])) (λ_=>by subst B3;subst B4;kernel_rfl)<|AV7 Aj [(.int .i64 0),(.slice none 0 0),(.slice none 0 0)] Asl λC2 C3 C4 Ag=>AVf [(.int .i64 2),Ad,Ae] Af1 rfl rfl rfl rfl (AY9 rfl (AY9 (Ag.o2 p2).isOne<|AY9 (Ag.o p1).isOne Akf)) (Ag.b p0) λC5 B5 B6=>AZ4 ?_;have Ah:=Ag.sb p0 B6 B5 rfl;refine Abi [(.int .i64 2),Ad,Ae] Af1 rfl rfl (Ah.b p0).agg ?_;obtain ⟨⟨C6,B7⟩,B8,Ak⟩:=AGu hp;dsimp only at Ak;refine Aeq rfl (AZt (Ah.o2 p2).rd (Ah.o p1).rd B8) λC7 C8 B9 Ca=>?_;obtain ⟨C9,Da,rfl,Cb,Cd⟩:=Ca;refine AGq<|AUh rfl rfl (AUh rfl rfl (ATu<|AT7<|AGq<|AGq ?_));have Aa:=Ah.no B9 Cd Cb;cases Aq:B7
 ·refine Ah6 20 false<|ATx rfl (AGq<|Ab3 26 false<|ATx rfl (AGq<|Ah6 30 false<|ATx rfl (AG1<|AG6 ?_)));obtain rfl:=AGs<|Abh Ak Aq;exact ⟨_,AS9,Aa.x,rfl⟩
 ·refine ATt 20 true<|AGq<|ATt 20 true<|Abi [(.int .i64 2),Ad,Ae] Af1 rfl rfl (Aa.b p1).agg (ATt 20 true ?_);obtain ⟨Ce,Cf,Ar⟩:=AGu<|ifT Ak Aq;refine AYn Aa (Ao9 (Aa.o2 p6).rd (Aa.o2 p3).rd (Aa.o p2).rd (HO.ext Aa.x) Cf) λDb Dc Af=>ATt 20 true<|AWe rfl rfl (ATn rfl (AGq ?_));by_cases Ai:Ce=0
  ·rw [decide_eq_true Ai];refine ATt 26 true<|Abi [(.int .i64 2),Ad,Ae] Af1 rfl rfl (Af.b p1).agg (ATt 26 true ?_);obtain ⟨Cg,Ch,Au⟩:=AGu<|ifT Ar Ai;refine AYn Af (Aqx (Af.o2 p3).rd (Af.o p2).rd Ch) λDd De Av=>ATn rfl (AGq ?_);cases Aw:Cg
   ·refine Ah6 30 false<|ATx rfl (AG1<|AG6 ?_);obtain rfl:=AGs<|Abh Au Aw;exact ⟨_,AS9,Av.x,rfl⟩
   ·refine ATt 30 true<|AGq<|ATt 30 true<|AWr (v:=(.agg #[(.int .i64 0),(.int .i64 2),(.int .i64<|-1),(.bool false),(.int .i64 0)])) (λ_=>by kernel_rfl)<|ATt 30 true<|A6a Ag0 ([(0,2,(-1),false,0)]:List AWo) [[(.int .i64 0),(.int .i64 2),(.int .i64<|-1),(.bool false),(.int .i64 0)]] [(0,(.agg #[(.int .i64 0),(.int .i64 2),(.int .i64<|-1),(.bool false),(.int .i64 0)]))] Af9 Avq rfl trivial tt2 rfl rfl rfl AG3 rfl (A1t (λ_=>rfl) A1s) λDf Dg Dh Ci Cj Ck Cm=>ATt 30 true ?_;have Am:=Av.no Cj (AX4 Ck Cm) Ci;obtain ⟨Di,Cn,Co⟩:=AGu<|ifT Au Aw;refine AYn Am (Ai7 (Am.o p1).rd (Am.o p0).rd Cn) λDj Dk Cp=>ATn rfl (AG1<|AG6 ?_);obtain rfl:=AGs Co;exact ⟨_,AS9,Cp.x,rfl⟩
  ·rw [decide_eq_false Ai];refine Ab3 26 false<|ATx rfl (AGq<|Ah6 30 false<|ATx rfl (AG1<|AG6 ?_));obtain rfl:=AGs<|ifF Ar Ai;exact ⟨_,AS9,Af.x,rfl⟩
end Go.Proofs.YtkakafabeobahaaGreatDoor
namespace Go.Proofs.YtkakafabeobahaaGreatDoor
open Go Go.QF
set_option maxRecDepth 100000
theorem BAy (a:Int):AZw .and .i64 a 1=a % 2:=by
 show w64 (((BitVec.ofInt 64 a &&& BitVec.ofInt 64 1).toNat:Nat):Int)=_;rw [BitVec.toNat_and,BitVec.toNat_ofInt,BitVec.toNat_ofInt,show ((1:Int) % ((2 ^ 64:Nat):Int)).toNat=1 by decide,Nat.and_one_is_mod,wk AGp];omega
theorem Ar0 (hk:k<=30):w64 (1 * 2 ^ Int.toNat (k:Int))=(2:Int) ^ k:=by
 have h1:(2:Int) ^ k<=2 ^ 30:=Aei AGr hk;have h2:0 < (2:Int) ^ k:=Int.pow_pos AGr;have h3:(2:Int) ^ 30=1073741824:=by decide
 rw [Int.toNat_natCast,Int.one_mul,wk AGp]
theorem BFi {e s a b c:Int}:Ok (AXz fuel e s a b c) λr=>r=true↔if s=1 then a % 2=1/\b=0/\c=0 else s=2/\a % 2=0/\b % 2=1/\c % 2=0:=by
 unfold AXz;rw [BAy,BAy,BAy];refine AT2 (λh=>?_) λh=>?_
 ·rw [if_pos h];refine AT2 (λh1=>AT2 (λh2=>AGy ?_) λh2=>AGy ?_) λh1=>AGy ?_
  ·grind
  ·grind
  grind
 ·rw [if_neg h];refine AT2 (λh0=>AT2 (λh1=>AT2 (λh2=>AGy ?_) λh2=>AGy ?_) λh1=>AGy ?_) λh0=>AGy ?_
  ·grind
  ·grind
  ·grind
  grind
end Go.Proofs.YtkakafabeobahaaGreatDoor
namespace Go.Proofs.YtkakafabeobahaaGreatDoor
open Go Go.QF
set_option maxRecDepth 100000
set_option maxHeartbeats 40000000
noncomputable def Abz (fuel:Nat) (Ab Ac Aa:Int):Option (Int ⊕ Int):=
 ((if Aa < Ab then if 0<=Aa/\Aa<=64 then if AZw .and .i64 (Ac / 2 ^ Int.toNat Aa) 1=0 then some (.inl ()) else some (.inr ()) else none else some<|.inr ()):Option (Unit ⊕ Unit)).bind (λex=>match ex with | .inl _=>(some<|.inl<|w64<|Aa + 1) | .inr _=>some<|.inr Aa)
noncomputable def Ab0 (fuel:Nat) (Ah:Int) (Ad:LiI) (Ab Ae Af Ac Aa:Int):Option ((Int × Int × Int × Int) ⊕ (Int × Int × Int)):=
 if w64 (Aa + Ab) < (Ad.length:Int) then (((gI Ad Aa).bind λAi=>(gI Ai<|w64<|Aa + Ab).bind λAj=>(((iter (λs=>Abz fuel Ah Aj s) fuel 0).bind (λ(Ak:Int)=>some Ak)):Option Int).bind λAg=>if Ag < Ac then some (Aa,w64<|Aa + Ab,Ag) else some (Ae,Af,Ac)):Option (Int × Int × Int)).bind (λ((Am,Ao,Ap):Int × Int × Int)=>some<|.inl (Am,Ao,Ap,w64<|Aa + 1)) else some<|.inr (Ae,Af,Ac)
noncomputable def Ab1 (fuel:Nat) (Ag Ab:Int) (Ac:LiI) (Ad Ae Af Aa:Int):Option ((Int × Int × Int × Int) ⊕ (Int × Int × Int)):=
 if Aa < w64 ((Ac.length:Int) - Ab) then (iter (λs=>Ab0 fuel Ag Ac Aa s.1 s.2.1 s.2.2.1 s.2.2.2) fuel (Ad,Ae,Af,Ab)).bind (λ((Ah,Ai,Aj):Int × Int × Int)=>some<|.inl (Ah,Ai,Aj,w64<|Aa + 1)) else some<|.inr (Ad,Ae,Af)
noncomputable def Aay (fuel:Nat) (Ab:Int) (Ag:LiI) (Aa:Int) (Ac:LiI):Option ((Int × LiI) ⊕ LiI):=
 if Aa < (Ag.length:Int) then (gI Ac Aa).bind λAd=>(gI Ad Ab).bind λAe=>(gI Ad<|w64<|Ab - 1).bind λAh=>(gI (sI Ac Aa<|sI Ad (w64<|Ab - 1) Ae) Aa).bind λAf=>(gI Af Ab).bind λAi=>some (.inl (w64<|Aa + 1,sI (sI Ac Aa<|sI Ad (w64<|Ab - 1) Ae) Aa<|sI Af Ab Ah)) else some<|.inr Ac
noncomputable def Aaz (fuel:Nat) (Ab:Int) (Ag:LiI) (Aa:Int) (Ac:LiI):Option ((Int × LiI) ⊕ LiI):=
 if Aa < (Ag.length:Int) then (gI Ac Aa).bind λAd=>(gI Ad Ab).bind λAe=>(gI Ad<|w64<|Ab - 1).bind λAh=>(gI (sI Ac Aa<|sI Ad (w64<|Ab - 1) Ae) Aa).bind λAf=>(gI Af Ab).bind λAi=>some (.inl (w64<|Aa + 1,sI (sI Ac Aa<|sI Ad (w64<|Ab - 1) Ae) Aa<|sI Af Ab Ah)) else some<|.inr Ac
noncomputable def AXp (fuel:Nat) (Ad Aa:Int) (Ab Ac:LiI):Option ((Int × LiI × LiI) ⊕ (LiI × LiI)):=
 if Aa < 2 then if Aa=0 then (iter (λs=>Aay fuel Ad Ab s.1 s.2) fuel (0,Ab)).bind (λ(Ae:LiI)=>some<|.inl (w64<|Aa + 1,Ae,Ac)) else if Aa=1 then (iter (λs=>Aaz fuel Ad Ac s.1 s.2) fuel (0,Ac)).bind (λ(Af:LiI)=>some<|.inl (w64<|Aa + 1,Ab,Af)) else none else some<|.inr (Ab,Ac)
noncomputable def AY0 (fuel:Nat) (Ad Aa:Int) (Ab Ac:LiI):Option ((Int × LiI × LiI) ⊕ (LiI × LiI)):=
 if Ad < Aa then (((gI Ab Aa).bind λAe=>(gI Ab<|w64<|Aa - 1).bind λAf=>(iter (λs=>AXp fuel Aa s.1 s.2.1 s.2.2) fuel (0,sI (sI Ab (w64<|Aa - 1) Ae) Aa Af,Ac)).bind (λ((Ag,Ah):LiI × LiI)=>some (Ag,Ah))):Option (LiI × LiI)).bind λ(Ai,Aj)=>some (.inl (w64<|Aa - 1,Ai,Aj)) else some<|.inr (Ab,Ac)
noncomputable def Aa0 (fuel:Nat) (Ab:Int) (Ag:LiI) (Aa:Int) (Ac:LiI):Option ((Int × LiI) ⊕ LiI):=
 if Aa < (Ag.length:Int) then (gI Ac Aa).bind λAd=>(gI Ad Ab).bind λAe=>(gI Ad<|w64<|Ab - 1).bind λAh=>(gI (sI Ac Aa<|sI Ad (w64<|Ab - 1) Ae) Aa).bind λAf=>(gI Af Ab).bind λAi=>some (.inl (w64<|Aa + 1,sI (sI Ac Aa<|sI Ad (w64<|Ab - 1) Ae) Aa<|sI Af Ab Ah)) else some<|.inr Ac
noncomputable def Aa1 (fuel:Nat) (Ab:Int) (Ag:LiI) (Aa:Int) (Ac:LiI):Option ((Int × LiI) ⊕ LiI):=
 if Aa < (Ag.length:Int) then (gI Ac Aa).bind λAd=>(gI Ad Ab).bind λAe=>(gI Ad<|w64<|Ab - 1).bind λAh=>(gI (sI Ac Aa<|sI Ad (w64<|Ab - 1) Ae) Aa).bind λAf=>(gI Af Ab).bind λAi=>some (.inl (w64<|Aa + 1,sI (sI Ac Aa<|sI Ad (w64<|Ab - 1) Ae) Aa<|sI Af Ab Ah)) else some<|.inr Ac
noncomputable def AXq (fuel:Nat) (Ad Aa:Int) (Ab Ac:LiI):Option ((Int × LiI × LiI) ⊕ (LiI × LiI)):=
 if Aa < 2 then if Aa=0 then (iter (λs=>Aa0 fuel Ad Ab s.1 s.2) fuel (0,Ab)).bind (λ(Ae:LiI)=>some<|.inl (w64<|Aa + 1,Ae,Ac)) else if Aa=1 then (iter (λs=>Aa1 fuel Ad Ac s.1 s.2) fuel (0,Ac)).bind (λ(Af:LiI)=>some<|.inl (w64<|Aa + 1,Ab,Af)) else none else some<|.inr (Ab,Ac)
noncomputable def AY1 (fuel:Nat) (Ad Aa:Int) (Ab Ac:LiI):Option ((Int × LiI × LiI) ⊕ (LiI × LiI)):=
 if Ad < Aa then (((gI Ab Aa).bind λAe=>(gI Ab<|w64<|Aa - 1).bind λAf=>(iter (λs=>AXq fuel Aa s.1 s.2.1 s.2.2) fuel (0,sI (sI Ab (w64<|Aa - 1) Ae) Aa Af,Ac)).bind (λ((Ag,Ah):LiI × LiI)=>some (Ag,Ah))):Option (LiI × LiI)).bind λ(Ai,Aj)=>some (.inl (w64<|Aa - 1,Ai,Aj)) else some<|.inr (Ab,Ac)
noncomputable def Aa2 (fuel:Nat) (Ab:Int) (Ag:LiI) (Aa:Int) (Ac:LiI):Option ((Int × LiI) ⊕ LiI):=
 if Aa < (Ag.length:Int) then (gI Ac Aa).bind λAd=>(gI Ad Ab).bind λAe=>(gI Ad<|w64<|Ab - 1).bind λAh=>(gI (sI Ac Aa<|sI Ad (w64<|Ab - 1) Ae) Aa).bind λAf=>(gI Af Ab).bind λAi=>some (.inl (w64<|Aa + 1,sI (sI Ac Aa<|sI Ad (w64<|Ab - 1) Ae) Aa<|sI Af Ab Ah)) else some<|.inr Ac
noncomputable def Aa3 (fuel:Nat) (Ab:Int) (Ag:LiI) (Aa:Int) (Ac:LiI):Option ((Int × LiI) ⊕ LiI):=
 if Aa < (Ag.length:Int) then (gI Ac Aa).bind λAd=>(gI Ad Ab).bind λAe=>(gI Ad<|w64<|Ab - 1).bind λAh=>(gI (sI Ac Aa<|sI Ad (w64<|Ab - 1) Ae) Aa).bind λAf=>(gI Af Ab).bind λAi=>some (.inl (w64<|Aa + 1,sI (sI Ac Aa<|sI Ad (w64<|Ab - 1) Ae) Aa<|sI Af Ab Ah)) else some<|.inr Ac
noncomputable def AXr (fuel:Nat) (Ad Aa:Int) (Ab Ac:LiI):Option ((Int × LiI × LiI) ⊕ (LiI × LiI)):=
 if Aa < 2 then if Aa=0 then (iter (λs=>Aa2 fuel Ad Ab s.1 s.2) fuel (0,Ab)).bind (λ(Ae:LiI)=>some<|.inl (w64<|Aa + 1,Ae,Ac)) else if Aa=1 then (iter (λs=>Aa3 fuel Ad Ac s.1 s.2) fuel (0,Ac)).bind (λ(Af:LiI)=>some<|.inl (w64<|Aa + 1,Ab,Af)) else none else some<|.inr (Ab,Ac)
noncomputable def AY2 (fuel:Nat) (Ad Aa:Int) (Ab Ac:LiI):Option ((Int × LiI × LiI) ⊕ (LiI × LiI)):=
 if Ad < Aa then (((gI Ab Aa).bind λAe=>(gI Ab<|w64<|Aa - 1).bind λAf=>(iter (λs=>AXr fuel Aa s.1 s.2.1 s.2.2) fuel (0,sI (sI Ab (w64<|Aa - 1) Ae) Aa Af,Ac)).bind (λ((Ag,Ah):LiI × LiI)=>some (Ag,Ah))):Option (LiI × LiI)).bind λ(Ai,Aj)=>some (.inl (w64<|Aa - 1,Ai,Aj)) else some<|.inr (Ab,Ac)
noncomputable def Aa4 (fuel:Nat) (Ab Af Ae Ag:Int) (Ah:LiI) (Aa:Int) (Ac:LiI):Option ((Int × LiI) ⊕ LiI):=
 if Aa < (Ah.length:Int) then (gI Ac Aa).bind λAd=>(gI Ad Ae).bind λAi=>(gI Ad Af).bind λAj=>((if 0<=Ab/\Ab<=64 then some (AZw .and .i64 (w64<|Ai + w64 (Ag * Aj))<|w64<|w64 (1 * 2 ^ Int.toNat Ab) - 1) else none):Option Int).bind λAk=>some (.inl (w64<|Aa + 1,sI Ac Aa<|sI Ad Ae Ak)) else some<|.inr Ac
noncomputable def Aa5 (fuel:Nat) (Ab Af Ae Ag:Int) (Ah:LiI) (Aa:Int) (Ac:LiI):Option ((Int × LiI) ⊕ LiI):=
 if Aa < (Ah.length:Int) then (gI Ac Aa).bind λAd=>(gI Ad Ae).bind λAi=>(gI Ad Af).bind λAj=>((if 0<=Ab/\Ab<=64 then some (AZw .and .i64 (w64<|Ai + w64 (Ag * Aj))<|w64<|w64 (1 * 2 ^ Int.toNat Ab) - 1) else none):Option Int).bind λAk=>some (.inl (w64<|Aa + 1,sI Ac Aa<|sI Ad Ae Ak)) else some<|.inr Ac
noncomputable def Aa6 (fuel:Nat) (Ac Af Ad Ag:Int) (Ah:LiA) (Aa:Int) (Ab:LiI):Option ((Int × LiI) ⊕ LiI):=
 if Aa < (Ah.length:Int) then (gI Ab Af).bind λAi=>(gI Ai Aa).bind λAj=>(gI Ab Ad).bind λAe=>(gI Ae Aa).bind λAk=>((if 0<=Ac/\Ac<=64 then some (AZw .and .i64 (w64<|Ak + w64 (Ag * Aj))<|w64<|w64 (1 * 2 ^ Int.toNat Ac) - 1) else none):Option Int).bind λAm=>some (.inl (w64<|Aa + 1,sI Ab Ad<|sI Ae Aa Am)) else some<|.inr Ab
noncomputable def AXs (fuel:Nat) (Ad Ae Af Ag Aa:Int) (Ab Ac:LiI):Option ((Int × LiI × LiI) ⊕ (LiI × LiI)):=
 if Aa < 2 then if Aa=0 then (iter (λs=>Aa4 fuel Ad Ae Af Ag Ab s.1 s.2) fuel (0,Ab)).bind (λ(Ah:LiI)=>some<|.inl (w64<|Aa + 1,Ah,Ac)) else if Aa=1 then (iter (λs=>Aa5 fuel Ad Ae Af Ag Ac s.1 s.2) fuel (0,Ac)).bind (λ(Ai:LiI)=>some<|.inl (w64<|Aa + 1,Ab,Ai)) else none else some<|.inr (Ab,Ac)
noncomputable def Aa7 (fuel:Nat) (Aa Ac Ae Ai Ab:Int) (Ad Af:LiI):Option ((Int × LiI × LiI) ⊕ (LiI × LiI)):=
 if Ab < (Ad.length:Int) then (gI Ad Ac).bind λAj=>(gI Aj Ab).bind λAk=>if 0<=Ae/\Ae<=64 then ((if 0<=Aa/\Aa<=64 then some (AZw .and .i64 (w64<|w64 (0 - (Ak / 2 ^ Int.toNat Ae)) * Ai)<|w64<|w64 (1 * 2 ^ Int.toNat Aa) - 1) else none):Option Int).bind λAg=>(((iter (λs=>AXs fuel Aa Ac Ab Ag s.1 s.2.1 s.2.2) fuel (0,Ad,Af)).bind (λ((Ah,Am):LiI × LiI)=>(gI Ah Ac).bind λAo=>(iter (λs=>Aa6 fuel Aa Ac Ab Ag Ao s.1 s.2) fuel (0,Ah)).bind (λ(Ap:LiI)=>some (Ap,Am)))):Option (LiI × LiI)).bind λ(Aq,Ar)=>some (.inl (w64<|Ab + 1,Aq,Ar)) else none else some<|.inr (Ad,Af)
noncomputable def Aa8 (fuel:Nat) (Ab Af Ae Ag:Int) (Ah:LiI) (Aa:Int) (Ac:LiI):Option ((Int × LiI) ⊕ LiI):=
 if Aa < (Ah.length:Int) then (gI Ac Aa).bind λAd=>(gI Ad Ae).bind λAi=>(gI Ad Af).bind λAj=>((if 0<=Ab/\Ab<=64 then some (AZw .and .i64 (w64<|Ai + w64 (Ag * Aj))<|w64<|w64 (1 * 2 ^ Int.toNat Ab) - 1) else none):Option Int).bind λAk=>some (.inl (w64<|Aa + 1,sI Ac Aa<|sI Ad Ae Ak)) else some<|.inr Ac
noncomputable def Aa9 (fuel:Nat) (Ab Af Ae Ag:Int) (Ah:LiI) (Aa:Int) (Ac:LiI):Option ((Int × LiI) ⊕ LiI):=
 if Aa < (Ah.length:Int) then (gI Ac Aa).bind λAd=>(gI Ad Ae).bind λAi=>(gI Ad Af).bind λAj=>((if 0<=Ab/\Ab<=64 then some (AZw .and .i64 (w64<|Ai + w64 (Ag * Aj))<|w64<|w64 (1 * 2 ^ Int.toNat Ab) - 1) else none):Option Int).bind λAk=>some (.inl (w64<|Aa + 1,sI Ac Aa<|sI Ad Ae Ak)) else some<|.inr Ac
noncomputable def Aba (fuel:Nat) (Ac Af Ad Ag:Int) (Ah:LiA) (Aa:Int) (Ab:LiI):Option ((Int × LiI) ⊕ LiI):=
 if Aa < (Ah.length:Int) then (gI Ab Af).bind λAi=>(gI Ai Aa).bind λAj=>(gI Ab Ad).bind λAe=>(gI Ae Aa).bind λAk=>((if 0<=Ac/\Ac<=64 then some (AZw .and .i64 (w64<|Ak + w64 (Ag * Aj))<|w64<|w64 (1 * 2 ^ Int.toNat Ac) - 1) else none):Option Int).bind λAm=>some (.inl (w64<|Aa + 1,sI Ab Ad<|sI Ae Aa Am)) else some<|.inr Ab
noncomputable def AXt (fuel:Nat) (Ad Ae Af Ag Aa:Int) (Ab Ac:LiI):Option ((Int × LiI × LiI) ⊕ (LiI × LiI)):=
 if Aa < 2 then if Aa=0 then (iter (λs=>Aa8 fuel Ad Ae Af Ag Ab s.1 s.2) fuel (0,Ab)).bind (λ(Ah:LiI)=>some<|.inl (w64<|Aa + 1,Ah,Ac)) else if Aa=1 then (iter (λs=>Aa9 fuel Ad Ae Af Ag Ac s.1 s.2) fuel (0,Ac)).bind (λ(Ai:LiI)=>some<|.inl (w64<|Aa + 1,Ab,Ai)) else none else some<|.inr (Ab,Ac)
noncomputable def Abb (fuel:Nat) (Ab Af Ae Ag:Int) (Ah:LiI) (Aa:Int) (Ac:LiI):Option ((Int × LiI) ⊕ LiI):=
 if Aa < (Ah.length:Int) then (gI Ac Aa).bind λAd=>(gI Ad Ae).bind λAi=>(gI Ad<|w64<|Af + 1).bind λAj=>((if 0<=Ab/\Ab<=64 then some (AZw .and .i64 (w64<|Ai + w64 (Ag * Aj))<|w64<|w64 (1 * 2 ^ Int.toNat Ab) - 1) else none):Option Int).bind λAk=>some (.inl (w64<|Aa + 1,sI Ac Aa<|sI Ad Ae Ak)) else some<|.inr Ac
noncomputable def Abc (fuel:Nat) (Ab Af Ae Ag:Int) (Ah:LiI) (Aa:Int) (Ac:LiI):Option ((Int × LiI) ⊕ LiI):=
 if Aa < (Ah.length:Int) then (gI Ac Aa).bind λAd=>(gI Ad Ae).bind λAi=>(gI Ad<|w64<|Af + 1).bind λAj=>((if 0<=Ab/\Ab<=64 then some (AZw .and .i64 (w64<|Ai + w64 (Ag * Aj))<|w64<|w64 (1 * 2 ^ Int.toNat Ab) - 1) else none):Option Int).bind λAk=>some (.inl (w64<|Aa + 1,sI Ac Aa<|sI Ad Ae Ak)) else some<|.inr Ac
noncomputable def Abd (fuel:Nat) (Ac Af Ad Ag:Int) (Ah:LiA) (Aa:Int) (Ab:LiI):Option ((Int × LiI) ⊕ LiI):=
 if Aa < (Ah.length:Int) then (gI Ab<|w64<|Af + 1).bind λAi=>(gI Ai Aa).bind λAj=>(gI Ab Ad).bind λAe=>(gI Ae Aa).bind λAk=>((if 0<=Ac/\Ac<=64 then some (AZw .and .i64 (w64<|Ak + w64 (Ag * Aj))<|w64<|w64 (1 * 2 ^ Int.toNat Ac) - 1) else none):Option Int).bind λAm=>some (.inl (w64<|Aa + 1,sI Ab Ad<|sI Ae Aa Am)) else some<|.inr Ab
noncomputable def AXu (fuel:Nat) (Ad Ae Af Ag Aa:Int) (Ab Ac:LiI):Option ((Int × LiI × LiI) ⊕ (LiI × LiI)):=
 if Aa < 2 then if Aa=0 then (iter (λs=>Abb fuel Ad Ae Af Ag Ab s.1 s.2) fuel (0,Ab)).bind (λ(Ah:LiI)=>some<|.inl (w64<|Aa + 1,Ah,Ac)) else if Aa=1 then (iter (λs=>Abc fuel Ad Ae Af Ag Ac s.1 s.2) fuel (0,Ac)).bind (λ(Ai:LiI)=>some<|.inl (w64<|Aa + 1,Ab,Ai)) else none else some<|.inr (Ab,Ac)
noncomputable def Abe (fuel:Nat) (Aa Ac Ab Aq Af Ar Ag Ad:Int) (Ae Ah:LiI):Option ((Int × LiI × LiI) ⊕ (LiI × LiI)):=
 if Ad < (Ae.length:Int) then (gI Ae Ac).bind λAu=>(gI Au Ad).bind λAi=>if 0<=Ab/\Ab<=64 then (gI Ae<|w64<|Ac + 1).bind λAv=>(gI Av Ad).bind λAj=>if 0<=Ab/\Ab<=64 then ((if 0<=Aa/\Aa<=64 then some (AZw .and .i64 (w64<|w64 ((Af / 2 ^ Int.toNat Ab) * (Aj / 2 ^ Int.toNat Ab)) - w64 ((Ar / 2 ^ Int.toNat Ab) * (Ai / 2 ^ Int.toNat Ab)))<|w64<|w64 (1 * 2 ^ Int.toNat Aa) - 1) else none):Option Int).bind λAw=>((if 0<=Aa/\Aa<=64 then some (AZw .and .i64 (w64<|w64 ((Af / 2 ^ Int.toNat Ab) * (Ai / 2 ^ Int.toNat Ab)) - w64 ((Aq / 2 ^ Int.toNat Ab) * (Aj / 2 ^ Int.toNat Ab)))<|w64<|w64 (1 * 2 ^ Int.toNat Aa) - 1) else none):Option Int).bind λAx=>((if 0<=Aa/\Aa<=64 then some (AZw .and .i64 (w64<|Aw * Ag)<|w64<|w64 (1 * 2 ^ Int.toNat Aa) - 1) else none):Option Int).bind λAk=>(((iter (λs=>AXt fuel Aa Ac Ad Ak s.1 s.2.1 s.2.2) fuel (0,Ae,Ah)).bind (λ((Am,Ay):LiI × LiI)=>(gI Am Ac).bind λAz=>(iter (λs=>Aba fuel Aa Ac Ad Ak Az s.1 s.2) fuel (0,Am)).bind (λ(A3:LiI)=>some (A3,Ay)))):Option (LiI × LiI)).bind λ(A4,A5)=>((if 0<=Aa/\Aa<=64 then some (AZw .and .i64 (w64<|Ax * Ag)<|w64<|w64 (1 * 2 ^ Int.toNat Aa) - 1) else none):Option Int).bind λAo=>(((iter (λs=>AXu fuel Aa Ac Ad Ao s.1 s.2.1 s.2.2) fuel (0,A4,A5)).bind (λ((Ap,A6):LiI × LiI)=>(gI Ap<|w64<|Ac + 1).bind λA7=>(iter (λs=>Abd fuel Aa Ac Ad Ao A7 s.1 s.2) fuel (0,Ap)).bind (λ(A8:LiI)=>some (A8,A6)))):Option (LiI × LiI)).bind λ(A9,Ba)=>some (.inl (w64<|Ad + 1,A9,Ba)) else none else none else some<|.inr (Ae,Ah)
noncomputable def AWz (fuel:Nat) (a3:LiI) (Ac Ab:Int) (Ae Ah:LiI) (Ai:List AUr):Option ((Int × LiI × LiI × List AUr) ⊕ (LiI × LiI × List AUr)):=
 if Ab < (a3.length:Int) then (((((iter (λs=>Ab1 fuel Ac Ab Ae s.1 s.2.1 s.2.2.1 s.2.2.2) fuel (Ab,Ab,Ac,0)).bind (λ((Av,Aw,Ax):Int × Int × Int)=>some (Av,Aw,Ax))):Option (Int × Int × Int)).bind λ(Aj,Ao,Aa)=>((if Aj < Ao then (((iter (λs=>AY0 fuel Ab s.1 s.2.1 s.2.2) fuel (Ao,Ae,Ah)).bind (λ((Ay,Az):LiI × LiI)=>some (Ay,Az))):Option (LiI × LiI)).bind λ(A3,A4)=>(((iter (λs=>AY1 fuel Ab s.1 s.2.1 s.2.2) fuel (w64<|Aj + 1,A3,A4)).bind (λ((A5,A6):LiI × LiI)=>some (A5,A6))):Option (LiI × LiI)).bind λ(A7,A8)=>some (A7,A8,2) else (((iter (λs=>AY2 fuel Ab s.1 s.2.1 s.2.2) fuel (Aj,Ae,Ah)).bind (λ((A9,Ba):LiI × LiI)=>some (A9,Ba))):Option (LiI × LiI)).bind λ(Bb,Bc)=>some (Bb,Bc,1)):Option (LiI × LiI × Int)).bind (λ((Af,Ap,Ak):LiI × LiI × Int)=>(gI Af Ab).bind λAq=>(gI Aq Ab).bind λAd=>if 0<=Aa/\Aa<=64 then if Ak=1 then ((if 0<=Ac/\Ac<=64 then (AZ9 fuel ([([(Ad / 2 ^ Int.toNat Aa)]:List Int)]:List LiA)<|w64<|1 * 2 ^ Int.toNat Ac).bind λ(Be,B7)=>(gI Be 0).bind λBf=>(gI Bf 0).bind λBg=>some Bg else none):Option Int).bind λBh=>(((iter (λs=>Aa7 fuel Ac Ab Aa Bh s.1 s.2.1 s.2.2) fuel (w64<|Ab + 1,Af,Ap)).bind (λ((Bi,Bj):LiI × LiI)=>some (Bi,Bj))):Option (LiI × LiI)).bind λ(Bl,Bm)=>some (Aa,Ak,Ad / 2 ^ Int.toNat Aa,0,0,Bl,Bm) else (gI Aq<|w64<|Ab + 1).bind λAg=>if 0<=Aa/\Aa<=64 then (gI Af<|w64<|Ab + 1).bind λBn=>(gI Bn<|w64<|Ab + 1).bind λAm=>if 0<=Aa/\Aa<=64 then ((((if 0<=Ac/\Ac<=64 then some (AZw .and .i64 (w64<|w64 ((Ad / 2 ^ Int.toNat Aa) * (Am / 2 ^ Int.toNat Aa)) - w64 ((Ag / 2 ^ Int.toNat Aa) * (Ag / 2 ^ Int.toNat Aa)))<|w64<|w64 (1 * 2 ^ Int.toNat Ac) - 1) else none):Option Int).bind λBo=>((if 0<=Ac/\Ac<=64 then (AZ9 fuel ([([Bo]:List Int)]:List LiA)<|w64<|1 * 2 ^ Int.toNat Ac).bind λ(Bp,B8)=>(gI Bp 0).bind λBq=>(gI Bq 0).bind λBr=>some Br else none):Option Int).bind λBt=>(iter (λs=>Abe fuel Ac Ab Aa Ad Ag Am Bt s.1 s.2.1 s.2.2) fuel (w64<|Ab + 2,Af,Ap)).bind (λ((Bu,Bv):LiI × LiI)=>some (Bu,Bv))):Option (LiI × LiI)).bind λ(Bw,Bx)=>some (Aa,Ak,Ad / 2 ^ Int.toNat Aa,Ag / 2 ^ Int.toNat Aa,Am / 2 ^ Int.toNat Aa,Bw,Bx) else none else none else none)):Option (Int × Int × Int × Int × Int × LiI × LiI)).bind λ(By,Ar,Bz,B3,B4,B5,B6)=>if Ai.length<=100000000 then some (.inl (w64<|Ab + Ar,B5,B6,Ai ++ [(By,Ar,Bz,B3,B4)])) else none else some<|.inr (Ae,Ah,Ai)
noncomputable def Ab2 (fuel:Nat) (a3:LiI) (Aa:Int) (Ac:LiI):Option ((Int × LiI) ⊕ LiI):=
 if Aa < (a3.length:Int) then if 0<=(a3.length:Int)/\(a3.length:Int)<=100000000 then if Ac.length<=100000000 then (gI (Ac ++ [List.replicate (Int.toNat (a3.length:Int)) (0:Int)]) Aa).bind λAd=>(gI Ad Aa).bind λAe=>some (.inl (w64<|Aa + 1,sI (Ac ++ [List.replicate (Int.toNat (a3.length:Int)) (0:Int)]) Aa<|sI Ad Aa 1)) else none else none else some<|.inr Ac
noncomputable def AYf (fuel:Nat) (a3:LiI):Option ((Int × LiI × List AUr) × Int):=
 (AXf fuel a3 2).bind λ(Ab,Ac)=>if ¬ Ac=0 then some ((0,[],[]),Ac) else if 0<=Ab/\Ab<=64 then (Abq fuel a3<|w64<|1 * 2 ^ Int.toNat Ab).bind λ(Ad,Ah)=>(iter (λs=>Ab2 fuel a3 s.1 s.2) fuel (0,[])).bind (λ(Ae:LiI)=>(iter (λs=>AWz fuel a3 Ab s.1 s.2.1 s.2.2.1 s.2.2.2) fuel (0,Ad,Ae,[])).bind (λ((Ai,Af,Ag):LiI × LiI × List AUr)=>some ((2,Af,Ag),0))) else none
theorem Ahn {Ik:Value} {r:((Int × LiI × (List AUr)) × Int)} (H2:AX8 (cI .i64) h Ik a3) (HO:Aoi h) (hp:AYf fuel a3=some r):AT3 Tryz.prog 25 #[Ik] h (λx h'=>Ext h h'/\ ∃ (Im:Value) (Io:Value) (Ip:List Nat) (Ly:List LnA) (Lz:List Value) (Iq:List Nat),x= .tuple #[.agg #[.int .i64 r.1.1,Im,Io],.int .i64 r.2]/\AV3 (cI .i64) 61 2 h' Ip Ly Lz Im r.1.2.1/\OwC Ak7 60 h' Iq Io r.1.2.2/\Sp h' h.size [Ip,Iq]):=by
 unfold AYf at hp;refine cwf (l:=[_]) Tryz.func25 rfl rfl (AGt<|AV7 (Kst.k0 h) [(.int .i64 0),(.slice none 0 0),(.slice none 0 0)] Asl λb5 h6 E8 Dt=>AT7<|AGq ?_);obtain ⟨⟨Ag,x13⟩,L9,Du⟩:=AGu hp;dsimp only at Du;refine AYn Dt (Ahm (H2.ext Dt.x) (HO.ext Dt.x) L9) λh17 E16 Dv=>AGq<|AUh rfl rfl (AUh rfl rfl (ATu<|AG1<|AGv<|AGt<|AGq<|AV2 rfl rfl (AGw<|⟨_,rfl,λDw=>?_,λDw=>?_⟩)))
 ·refine AGt<|AWr (v:=(.agg #[(.int .i64 0),(.slice none 0 0),(.slice none 0 0)])) (λ_=>by kernel_rfl)<|AGq<|AVf [(.int .i64 0),(.slice none 0 0),(.slice none 0 0)] Af1 rfl rfl rfl rfl (by simp [isOne]) (Dv.b p0) λh23 Ma Mb=>AG1<|AG6<|ATj ?_;have B6:=Kst.anil Ak7 60<|Kst.anil2 (cI .i64) 61 2<|Dv.sb p0 Mb Ma rfl;obtain rfl:=AGs<|AT9 Du Dw;exact ⟨_,Al4 Af1 rfl rfl (B6.b p2),B6.x,_,_,_,_,_,_,rfl,(B6.o2 p1),(B6.o p0),B6.s.sel [1,0] AGr⟩
 ·refine AG5<|q_t<|AGt<|AGq<|AWr (v:=(.agg #[(.int .i64 Ag),(.slice none 0 0),(.slice none 0 0)])) (λ_=>by kernel_rfl)<|AZa Dv [(.int .i64 Ag),(.slice none 0 0),(.slice none 0 0)] λMc h35 E37 Ir=>AT7<|AGq<|AGq<|AGq ?_;obtain ⟨Md,Me⟩:=ifN<|AUa Du Dw;refine AZh rfl rfl Md ?_;obtain ⟨⟨Mf,x44⟩,Mg,Is⟩:=AGu Me;dsimp only at Is;refine Aeq rfl (Amz (H2.ext Ir.x) Mg) λAGz h48 Mh Mi=>?_;obtain ⟨Ab,Mj,Mk,Ml,rfl,Mm,Mo⟩:=Mi;refine AGq<|AUh rfl rfl (AUh rfl rfl (AUw rfl (AVa AVs rfl ?_)));have Dx:=Ir.no2 Mh Mo Mm;refine Af7 [(.int .i64 Ag),Ab,(.slice none 0 0)] AVg rfl rfl (Dx.o2 p0).isOne (Dx.b p1) (Nat.le_of_ble_eq_true rfl) rfl λh60 Mq Mr=>AGw<|AGv<|AGt<|AGq<|AUb ATg rfl H2 (AGq<|AGw<|AGx ?_);have It:=Kst.anil2 (cI .i64) 61 2<|Dx.sb p1 Mr Mq rfl;refine AYo 1152921470247108736 (λx:(Int) × (LiI) × (Value) × LnA × LnN × LvA=>(x.1,x.2.1)) ((0,[],(.slice none 0 0),[],[],[]):(Int) × (LiI) × (Value) × LnA × LnN × LvA) Is (λx=>[(35,(.int .i64 x.1))]) (λx=>(It.L.set 0<|aO2 (cI .i64) 61 2 x.2.2.2.1 x.2.2.2.2.1 x.2.2.2.2.2 x.2.2.1 x.2.1).set 2 (aB 94 Mc [(.int .i64 Ag),Ab,x.2.2.1])) It ⟨rfl,trivial⟩ ?_;rintro ⟨Ms,Mt,Ac,Ad,Ae,Af⟩ AG2 Dy y70 B7 Dz Mu;unfold Ab2 at Dz;refine AGt<|ATz rfl rfl (AGw<|AGv<|⟨_,rfl,λD0=>?_,λD0=>?_⟩)
  ·refine AG5<|q_t<|AGv<|AGx<|AGt<|AGq<|AG1<|AGv<|AVl (λh'=>UpT (Ad ++ []) Dy h') AG3 ?_;have Cp:UpT (Ad ++ []) Dy Dy:=UpT.start<|AV1 (B7.o2 p0).notD all_nil;refine AGq<|AGq<|AUw rfl (AVa Ah3 rfl (AVe AVg rfl Cp (λh' hb=>((B7.b p2).upT hb (A5q (B7.dj p2 p0 AGr) A5r)).cell (i:=2) rfl) (AGq<|AUb ATg rfl H2 ?_)));obtain ⟨Mv,Mw⟩:=ifN<|AT9 Dz D0;refine Aip (c:=(cI .i64)) (a:=0) ATe Acs rfl rfl (λ_=>rfl) rfl Cp (λ_ E=>Cp.thenE E) rfl rfl AGr Mv λb92 v91 h89 Mx Iu My Mz=>?_;have Iv:=Cp.thenE Iu;have Cq:=B7.no Iu (AX4 My Mz) Mx;obtain ⟨M0,M1⟩:=ifN Mw;refine A1g ATg Ae8 rfl rfl Iv (λ_ U=>Iv.then U<|Afv rfl) (λ_=>rfl) rfl (Cq.o p0) (Cq.o2 p1) (Cq.dj p0 p1 AGr) AGr M0 λAG7 AG8 M2 AG9 M3 M4 M5=>AUw rfl (AVa Ah3 rfl ?_);have D2:=Cq.m2 p0 p1 AGr M4 M3 M5;refine Af7 [(.int .i64 Ag),Ab,M2] AVg rfl rfl (D2.o2 p1).isOne (D2.b p3) (Nat.le_of_ble_eq_true rfl) rfl λAHa M6 M7=>AGw<|ATc ?_;have D3:=D2.sb p3 M7 M6 rfl;refine AGq<|AUw rfl (AU9 Ah3 AVg (D3.b p3) 2 rfl (AGq ?_));obtain ⟨AHb,Iw,M8⟩:=AGu M1;refine AUs ATg ATq (D3.o2 p1) Iw λ_ AHc M9=>AGq ?_;obtain ⟨AHd,Na,Nb⟩:=AGu M8;refine AZ7 (m:=Ms) D3 p1 ATe ATh M9 Iw Na (λ_=>rfl) λ_ AHe Nc=>ATr<|q_b<|q_t<|ATc<|ATp rfl rfl (AGq<|AGw ?_);exact ⟨(_,_,_,_,_,_),(AGs Nb).symm,Nc.sel [1,2,3,4] AGr,rfl,trivial⟩
  ·refine ATk<|ATl<|ATl<|AUi<|q_t<|AGt<|AWr (v:=(.agg #[(.int .i64 2),(.slice none 0 0),(.slice none 0 0)])) (λ_=>by kernel_rfl)<|AV7 B7 [(.int .i64 0),(.slice none 0 0),(.slice none 0 0)] Asl λNd AHf AHg Ix=>AVf [(.int .i64 2),(.slice none 0 0),(.slice none 0 0)] Af1 rfl rfl rfl rfl (by simp [isOne]) (Ix.b p0) λAHh Nf Ng=>AGw<|AGv<|AGt<|AG1<|AGx ?_;have Iy:=Kst.anil Ak7 60<|Ix.sb p0 Ng Nf rfl;refine AYo 302229149060648079984128 (λx:(Int) × (LiI) × LnA × LnN × LvA × (LiI) × ((List AUr)) × (Value) × LnA=>(x.1,x.2.1,x.2.2.2.2.2.1,x.2.2.2.2.2.2.1)) ((0,Mf,Mj,Mk,Ml,Mt,[],(.slice none 0 0),[]):(Int) × (LiI) × LnA × LnN × LvA × (LiI) × ((List AUr)) × (Value) × LnA) (Mu _ (AGs<|AUa Dz D0).symm) (λx=>[(9,(.int .i64 x.1))]) (λx=>(((Iy.L.set 3<|aO2 (cI .i64) 61 2 x.2.2.1 x.2.2.2.1 x.2.2.2.2.1 Ab x.2.1).set 2 (aO2 (cI .i64) 61 2 Ad Ae Af Ac x.2.2.2.2.2.1)).set 0 (aO Ak7 60 x.2.2.2.2.2.2.2.2 x.2.2.2.2.2.2.2.1 x.2.2.2.2.2.2.1)).set 1 (aB 29 Nd [(.int .i64 2),(.slice none 0 0),x.2.2.2.2.2.2.2.1])) Iy ⟨rfl,trivial⟩ ?_;rintro ⟨A5,Iz,I0,I1,I2,I3,AHi,D4,AHj⟩ AHk AHl AHm Bo D5 Nh;unfold AWz at D5;refine AGv<|AGt<|AGq<|AGq<|AUb ATg rfl H2 (ATz rfl rfl (AGw<|⟨_,rfl,λD6=>?_,λD6=>?_⟩))
   ·refine AG5<|q_t<|AGx<|AGt<|AGq<|AGq ?_;obtain ⟨Ni,Nj,Nk⟩:=AGu<|AT9 D5 D6;refine ATm (K':=(λxr h'=> ∃ x:(Int) × (Int) × (Int) × (Int) × (Int) × (LiI) × LnA × LnN × LvA × (LiI),(x.1,x.2.1,x.2.2.1,x.2.2.2.1,x.2.2.2.2.1,x.2.2.2.2.2.1,x.2.2.2.2.2.2.2.2.2)=Ni/\xr=(.agg #[(.int .i64 x.1),(.int .i64 x.2.1),(.int .i64 x.2.2.1),(.int .i64 x.2.2.2.1),(.int .i64 x.2.2.2.2.1)])/\Kst h h' ((Bo.L.set 3<|aO2 (cI .i64) 61 2 x.2.2.2.2.2.2.1 x.2.2.2.2.2.2.2.1 x.2.2.2.2.2.2.2.2.1 Ab x.2.2.2.2.2.1).set 2 (aO2 (cI .i64) 61 2 Ad Ae Af Ac x.2.2.2.2.2.2.2.2.2)))) trivial rfl ?_ λAHn AHo Nl=>?_
    ·refine cwf (l:=[_,_]) Tryz.func59 rfl rfl (AGt<|AV7 Bo [(.int .i64 0),(.int .i64 0),(.int .i64 0),(.int .i64 0),(.int .i64 0)] Ank λAHp AHq AHr Bp=>AZ4<|AGq<|AGq ?_);obtain ⟨Nm,Nn,Np⟩:=AGu Nj;refine ATm (K':=(λxr h'=> ∃ x:(Int) × (Int) × (Int),(x.1,x.2.1,x.2.2)=Nm/\xr= .tuple #[(.int .i64 x.1),(.int .i64 x.2.1),(.int .i64 x.2.2)]/\Kst h h' (Bp.L))) trivial rfl ?_ λAHs AHt Nq=>?_
     ·refine cwf (l:=[_,_]) Tryz.func110 rfl rfl (AGt<|ATu<|ATu<|AG1<|AGv<|AWg<|AGq<|AGq<|AGq<|AUw rfl (AU9 Aaw AT8 (Bp.b p5) 0 rfl (ATu<|ATu<|AG1<|AGv<|AGt<|AGq<|AUw rfl (AU9 AVs AVg (Bp.b p5) 1 rfl (AUb ATg rfl (Bp.o2 p4).rd (AGq<|AVm rfl rfl (AGq<|AGw<|AGx ?_)))))));refine AZp 18446744073642450816 Nn (λx=>[(7,(.int .i64 x.1)),(8,(.int .i64 x.2.1)),(9,(.int .i64 x.2.2.1)),(26,(.int .i64 x.2.2.2))]) (λx=>Bp.L) Bp ⟨rfl,rfl,rfl,rfl,trivial⟩ ?_;rintro ⟨Nr,Ns,Nt,Nu⟩ AHu AHv AHw D7 D8 Nv;unfold Ab1 at D8;refine AGt<|ATz rfl rfl (AGw<|AGv<|⟨_,rfl,λD9=>?_,λD9=>?_⟩)
      ·refine AG5<|q_t<|AGv<|AGx<|AGt<|AGq<|AT7<|AGq<|AG1<|AGx<|AZp 9223372035781041024 (AT9 D8 D9) (λx=>[(7,(.int .i64 x.1)),(8,(.int .i64 x.2.1)),(9,(.int .i64 x.2.2.1)),(11,(.int .i64 x.2.2.2))]) (λx=>D7.L) D7 ⟨rfl,rfl,rfl,rfl,trivial⟩ ?_;rintro ⟨Nw,Ny,Nz,Ea⟩ AHx AHy AHz Ay Eb N0;unfold Ab0 at Eb;refine AGv<|AGt<|AGq<|AGq<|ATp rfl rfl (AGq<|AUw rfl (AU9 AVs AVg (Ay.b p5) 1 rfl (AUb ATg rfl (Ay.o2 p4).rd (ATz rfl rfl (AGw<|⟨_,rfl,λEc=>?_,λEc=>?_⟩)))))
       ·refine AG5<|q_t ?_;obtain ⟨N3,N4,N5⟩:=AGu<|AT9 Eb Ec;refine Ae6 9223369837831525248 (λx:(Int) × (Int) × (Int)=>[(7,(.int .i64 x.1)),(8,(.int .i64 x.2.1)),(9,(.int .i64 x.2.2))]) (λx h'=>( (x.1,x.2.1,x.2.2))=N3/\Kst h h' (Ay.L)) ?_ ?_
        ·refine AGx<|AGt<|AGq<|AGq<|AUw rfl (AU9 AVs AVg (Ay.b p5) 1 rfl (AGq ?_));obtain ⟨AH0,I6,N6⟩:=AGu N4;refine AUs ATg ATq (Ay.o2 p4) I6 λ_ AH1 N7=>AGq<|AGq<|ATp rfl rfl ?_;obtain ⟨AH2,N8,N9⟩:=AGu N6;refine AW5 (m:=Ea) ATe ATh (Ay.o2 p4) N7 I6 N8 λ_=>?_;obtain ⟨Oa,Ob,I7⟩:=AGu N9;refine ATm (K':=(λxr h'=> ∃ x:(Int),x=Oa/\xr=(.int .i64 x)/\Kst h h' (Ay.L))) trivial rfl ?_ λAH3 AH4 Oc=>?_
         ·refine cwf (l:=[_,_]) Tryz.func164 rfl rfl (AGt<|AT7<|AG1<|AGv<|AGx<|AZp 2097120 Ob (λx=>[(5,(.int .i64 x))]) (λx=>Ay.L) Ay ⟨rfl,trivial⟩ ?_);rintro Ed AH5 AH6 AH7 B8 I9 Ja;unfold Abz at I9;obtain ⟨Od,Jc,Ee⟩:=AGu I9;refine Ae6 524224 (λx:Unit=>[]) (λx h'=>(Sum.inl <| ())=Od/\Kst h h' (B8.L)) ?_ ?_
          ·refine AGt<|AGq<|AGq<|AUw rfl (AU9 Aaw AT8 (B8.b p5) 0 rfl (ATz rfl rfl (AGq ?_)));by_cases Cr:Ed < Ag
           ·rw [decide_eq_true Cr];refine ATt 12 true<|AGq<|ATt 12 true<|AGq<|ATt 12 true ?_;obtain ⟨Oe,Je⟩:=ifN<|ifT Jc Cr;refine Ao2 rfl rfl Oe (ATt 12 true<|Abm rfl rfl AGr (ATt 12 true<|AWe rfl rfl (ATn rfl (AGw<|⟨_,rfl,λEf=>?_,λEf=>?_⟩))))
            ·refine AG5<|q_t ?_;exact ⟨(():Unit),⟨AGs<|AT9 Je Ef,B8⟩,trivial⟩
            ·obtain rfl:=AGs<|AUa Je Ef;refine ATk<|ATl<|ATl<|AUi<|q_t<|AGt<|AGq<|AG1<|AG6<|⟨_,AS9,(Ed:(Int)),?_,rfl,?_⟩
             ·exact AGs<|Ja _ (AGs Ee).symm
             ·exact B8
           ·rw [decide_eq_false Cr];refine AY4 12 false<|ATx rfl (AGw<|ATy rfl ?_);obtain rfl:=AGs<|ifF Jc Cr;refine ATk<|ATl<|ATl<|AUi<|q_t<|AGt<|AGq<|AG1<|AG6<|⟨_,AS9,(Ed:(Int)),?_,rfl,?_⟩
            ·exact AGs<|Ja _ (AGs Ee).symm
            ·exact B8
          rintro ⟨⟩ AH8 AH9 ⟨Og,Oh⟩;subst Og;refine AGx<|ATc<|AGq<|ATp rfl rfl (ATu<|ATr<|q_b<|q_t ?_);exact ⟨_,(AGs Ee).symm,Oh,rfl,trivial⟩
         obtain ⟨Oi,Oj,rfl,Jf⟩:=Oc;refine ⟨trivial,?_⟩;subst Oj;refine AT7<|AGq<|AGq<|ATz rfl rfl (AGw<|⟨_,rfl,λEg=>?_,λEg=>?_⟩)
         ·refine ATc<|AGq<|AGq<|AGq<|ATp rfl rfl (AGq<|ATu<|ATu<|ATu<|ATr<|q_b<|q_t ?_);exact ⟨((Ea,(w64<|Ea + Nu),Oi):(Int) × (Int) × (Int)),⟨AGs<|AT9 I7 Eg,Jf⟩,rfl,rfl,rfl,trivial⟩
         ·refine AG5<|q_b<|q_t ?_;exact ⟨((Nw,Ny,Nz):(Int) × (Int) × (Int)),⟨AGs<|AUa I7 Eg,Jf⟩,rfl,rfl,rfl,trivial⟩
        rintro ⟨AIa,AIb,AIc⟩ AId AIe ⟨Ol,Om⟩;subst Ol;refine ATc<|AGq<|ATp rfl rfl (AG1 ?_);exact ⟨_,(AGs N5).symm,Om,rfl,rfl,rfl,rfl,trivial⟩
       ·refine ATk<|ATl<|ATl<|AUi<|q_b<|q_t<|ATc<|ATp rfl rfl (AGq<|AGw ?_);exact ⟨_,(AGs<|N0 _ (AGs<|AUa Eb Ec).symm).symm,Ay,rfl,rfl,rfl,rfl,trivial⟩
      ·refine ATk<|ATl<|ATl<|AUi<|q_t<|AGt<|AGq<|AGq<|AGq<|ATu<|ATu<|AG1<|AG6<|⟨_,Ab5,((Nr,Ns,Nt):(Int) × (Int) × (Int)),?_,rfl,?_⟩
       ·exact AGs<|Nv _ (AGs<|AUa D8 D9).symm
       ·exact D7
     obtain ⟨⟨Jg,On,Aa⟩,Oo,rfl,Oq⟩:=Nq;refine ⟨trivial,?_⟩;subst Oo;refine AGq<|AUh rfl rfl (AUh rfl rfl (AUh rfl rfl (ATu<|ATu<|AT7<|AGq<|AWr (v:=(.agg #[(.int .i64 Aa),(.int .i64 1),(.int .i64 0),(.int .i64 0),(.int .i64 0)])) (λ_=>by kernel_rfl)<|AV7 Oq [(.int .i64 0),(.int .i64 0),(.int .i64 0),(.int .i64 0),(.int .i64 0)] Ank λOt AIf AIg Jh=>AVf [(.int .i64 Aa),(.int .i64 1),(.int .i64 0),(.int .i64 0),(.int .i64 0)] Adf rfl rfl rfl rfl (by simp [isOne]) (Jh.b p0) λAIh Ou Ov=>AGw ?_)));have Bq:=Jh.sb p0 Ov Ou rfl;obtain ⟨Ow,Ji,Ox⟩:=AGu Np;refine Ae6 8589672480 (λx:(LiI) × LnA × LnN × LvA × (LiI) × (Int)=>[]) (λx h'=>( (x.1,x.2.2.2.2.1,x.2.2.2.2.2))=Ow/\Kst h h' (((Bq.L.set 5<|aO2 (cI .i64) 61 2 x.2.1 x.2.2.1 x.2.2.2.1 Ab x.1).set 4 (aO2 (cI .i64) 61 2 Ad Ae Af Ac x.2.2.2.2.1)).set 0 (aB 60 Ot [(.int .i64 Aa),(.int .i64 x.2.2.2.2.2),(.int .i64 0),(.int .i64 0),(.int .i64 0)]))) ?_ ?_
     ·refine AGx<|AGv<|AGx<|AGv<|AGx<|AGv<|AGt<|AGq<|AGq<|ATz rfl rfl (AG1<|⟨_,rfl,λEh=>?_,λEh=>?_⟩)
      ·refine ATk<|ATl<|AUi<|q_t<|AGt<|AVa Agc rfl (Af7 [(.int .i64 Aa),(.int .i64 2),(.int .i64 0),(.int .i64 0),(.int .i64 0)] AT8 rfl rfl rfl (Bq.b p0) (Nat.le_of_ble_eq_true rfl) rfl λAIi Oy Oz=>AZ4<|AGq<|AGq<|AGq ?_);have Ei:=Bq.sb p0 Oz Oy rfl;obtain ⟨O0,O1,O2⟩:=AGu<|AT9 Ji Eh;refine ATm (K':=(λxr h'=> ∃ x:(LiI) × LnA × LnN × LvA × (LiI),(x.1,x.2.2.2.2)=O0/\xr= .tuple #[]/\Kst h h' ((Ei.L.set 5<|aO2 (cI .i64) 61 2 x.2.1 x.2.2.1 x.2.2.2.1 Ab x.1).set 4 (aO2 (cI .i64) 61 2 Ad Ae Af Ac x.2.2.2.2)))) trivial rfl ?_ λAIj AIk O3=>?_
       ·refine cwf (l:=[_,_,_]) Tryz.func111 rfl rfl (AGx<|AYo 65474 (λx:(Int) × (LiI) × LnA × LnN × LvA × (LiI)=>(x.1,x.2.1,x.2.2.2.2.2)) ((On,Iz,I0,I1,I2,I3):(Int) × (LiI) × LnA × LnN × LvA × (LiI)) O1 (λx=>[(1,(.int .i64 x.1))]) (λx=>(Ei.L.set 5<|aO2 (cI .i64) 61 2 x.2.2.1 x.2.2.2.1 x.2.2.2.2.1 Ab x.2.1).set 4 (aO2 (cI .i64) 61 2 Ad Ae Af Ac x.2.2.2.2.2)) Ei ⟨rfl,trivial⟩ ?_);rintro ⟨AIl,O4,O5,O6,O7,O8⟩ AIm AIn AIo Az Ej O9;unfold AY0 at Ej;refine AGv<|AGt<|AGq<|AGq<|AZv rfl rfl (AGw<|⟨_,rfl,λEk=>?_,λEk=>?_⟩)
        ·refine AG5<|q_t<|AGv<|AGx<|ATc<|AGq<|AGq<|AVm rfl rfl (AGq ?_);obtain ⟨Pa,Pb,Pc⟩:=AGu<|AT9 Ej Ek;refine ATm (K':=(λxr h'=> ∃ x:(LiI) × LnA × LnN × LvA × (LiI),(x.1,x.2.2.2.2)=Pa/\xr= .tuple #[]/\Kst h h' ((Az.L.set 5<|aO2 (cI .i64) 61 2 x.2.1 x.2.2.1 x.2.2.2.1 Ab x.1).set 4 (aO2 (cI .i64) 61 2 Ad Ae Af Ac x.2.2.2.2)))) trivial rfl ?_ λAIp AIq Pd=>?_
         ·refine cwf (l:=[_,_,_]) Tryz.func165 rfl rfl (AGv<|AWg<|AGq<|AUw rfl (AU9 AVs AVg (Az.b p6) 1 rfl (AGq<|AGq<|AUw rfl (AU9 AVs AVg (Az.b p6) 1 rfl (AGq<|AGq<|AUw rfl (AU9 AVs AVg (Az.b p6) 1 rfl (AGq ?_)))))));obtain ⟨AIr,Jj,Pe⟩:=AGu Pb;refine AUs ATg ATq (Az.o2 p5) Jj λ_ AIs Pf=>AGq<|AUw rfl (AU9 AVs AVg (Az.b p6) 1 rfl (AGq ?_));obtain ⟨AIt,Jk,Pg⟩:=AGu Pe;refine AUs ATg ATq (Az.o2 p5) Jk λ_ AIu Ph=>Agj ATg ATq (Az.o2 p5) Ph Pf Jk Jj rfl rfl (λ_=>rfl) (λ_=>rfl) (λ_=>rfl) (λ_ _=>rfl) λAIv AIw El Em En AIx Pj Pk Pl=>AGw<|AGv<|AWg ?_;have B9:=Az.uo2 p5 Pk Pj Pl;refine AGq<|AUw rfl (AU9 AVs AVg (B9.b p6) 1 rfl (AGq<|AUw rfl (AU9 Ah3 AVg (B9.b p6) 2 rfl (Aqj Aax Au7 rfl trivial tt2 rfl (B9.o2 p5).isOne (B9.o2 p4).isOne λAIy AIz Pm Pn Po=>Am6 Aax rfl (AGq<|AGw<|AGx ?_)))));have Jl:=B9.nb Pn Po Pm;refine AZp 4722366412500901036672 Pg (λx=>[(46,(.int .i64 x.1))]) (λx=>(Jl.L.set 6<|aO2 (cI .i64) 61 2 El Em En Ab x.2.1).set 5 (aO2 (cI .i64) 61 2 Ad Ae Af Ac x.2.2)) Jl ⟨rfl,trivial⟩ ?_;rintro ⟨Jm,Pp,Pq⟩ AI0 AI1 AI2 A6 Eo Ps;unfold AXp at Eo;refine AGt<|ATz rfl rfl (AGw<|AGv<|⟨_,rfl,λEp=>?_,λEp=>?_⟩)
          ·refine AG5<|q_t<|AGv<|AGx<|AGt ?_;have Jn:=AT9 Eo Ep;by_cases Er:Jm=0
           ·refine Amv 0 Aax rfl rfl Er AGr (AT1 AVg rfl ((A6.b p0).cell (i:=0) rfl) (AT7<|AGq<|AUb ATg rfl (A6.o2 p6).rd (AGq<|AGw<|AGx<|AZp 2361178737835195236864 (ifT Jn Er) (λx=>[(52,(.int .i64 x.1))]) (λx=>A6.L.set 6<|aO2 (cI .i64) 61 2 El Em En Ab x.2) A6 ⟨rfl,trivial⟩ ?_)));rintro ⟨Ct,AI3⟩ AI4 AI5 AI6 Ca Es Pt;unfold Aay at Es;refine AGt<|ATz rfl rfl (AGw<|AGv<|⟨_,rfl,λEt=>?_,λEt=>?_⟩)
            ·refine AG5<|q_t<|AGv<|AGx<|AGt ?_;obtain ⟨AI7,Cu,Pu⟩:=AGu<|AT9 Es Et;refine AUs ATg ATq (Ca.o2 p6) Cu λ_ AI8 Cv=>AG1<|AWg<|AGq<|AGq<|AGq<|AGq<|AGq<|AGq ?_;obtain ⟨AI9,Pw,Px⟩:=AGu Pu;refine AW5 (m:=Ct) ATe ATh (Ca.o2 p6) Cv Cu Pw λ_=>(AGq<|AGq ?_);obtain ⟨AJa,Jo,Py⟩:=AGu Px;refine AW5 (m:=Ct) ATe ATh (Ca.o2 p6) Cv Cu Jo λ_=>AZ7 (m:=Ct) Ca p6 ATe ATh Cv Cu Jo (λ_=>rfl) λ_ AJb Pz=>?_;obtain ⟨AJc,P0,P1⟩:=AGu Py;obtain ⟨AJd,P2,P3⟩:=AGu P1;refine AZ7 (m:=Ct) Pz p6 ATe ATh Cv P0 P2 (λ_=>rfl) λ_ AJe P4=>ATr<|q_b<|q_t<|ATc<|ATp rfl rfl (AGq<|AGw ?_);exact ⟨_,(AGs P3).symm,P4,rfl,trivial⟩
            ·refine ATk<|ATl<|ATl<|AUi<|q_b<|q_t<|ATc<|ATp rfl rfl (AGq<|AGw ?_);exact ⟨_,(AGs<|Pt _ (AGs<|AUa Es Et).symm).symm,Ca,rfl,trivial⟩
           ·have Jp:=ifF Jn Er;by_cases Eu:Jm=1
            ·refine Amv 1 Aax rfl rfl Eu AGr (AT1 AVg rfl ((A6.b p0).cell (i:=1) rfl) (AT7<|AGq<|AUb ATg rfl (A6.o2 p5).rd (AGq<|AGw<|AGx<|AZp 2361178737835195236864 (ifT Jp Eu) (λx=>[(52,(.int .i64 x.1))]) (λx=>A6.L.set 5<|aO2 (cI .i64) 61 2 Ad Ae Af Ac x.2) A6 ⟨rfl,trivial⟩ ?_)));rintro ⟨Cw,AJf⟩ AJg AJh AJi Cb Ev P5;unfold Aaz at Ev;refine AGt<|ATz rfl rfl (AGw<|AGv<|⟨_,rfl,λEw=>?_,λEw=>?_⟩)
             ·refine AG5<|q_t<|AGv<|AGx<|AGt ?_;obtain ⟨AJj,Cx,P6⟩:=AGu<|AT9 Ev Ew;refine AUs ATg ATq (Cb.o2 p5) Cx λ_ AJk Cy=>AG1<|AWg<|AGq<|AGq<|AGq<|AGq<|AGq<|AGq ?_;obtain ⟨AJl,P7,P8⟩:=AGu P6;refine AW5 (m:=Cw) ATe ATh (Cb.o2 p5) Cy Cx P7 λ_=>(AGq<|AGq ?_);obtain ⟨AJm,Jq,P9⟩:=AGu P8;refine AW5 (m:=Cw) ATe ATh (Cb.o2 p5) Cy Cx Jq λ_=>AZ7 (m:=Cw) Cb p5 ATe ATh Cy Cx Jq (λ_=>rfl) λ_ AJn Qa=>?_;obtain ⟨AJo,Qb,Qc⟩:=AGu P9;obtain ⟨AJp,Qd,Qe⟩:=AGu Qc;refine AZ7 (m:=Cw) Qa p5 ATe ATh Cy Qb Qd (λ_=>rfl) λ_ AJq Qf=>ATr<|q_b<|q_t<|ATc<|ATp rfl rfl (AGq<|AGw ?_);exact ⟨_,(AGs Qe).symm,Qf,rfl,trivial⟩
             ·refine ATk<|ATl<|ATl<|AUi<|q_b<|q_t<|ATc<|ATp rfl rfl (AGq<|AGw ?_);exact ⟨_,(AGs<|P5 _ (AGs<|AUa Ev Ew).symm).symm,Cb,rfl,trivial⟩
            ·have Qg:=ifF Jp Eu;cases Qg
          ·refine ATk<|ATl<|ATl<|AUi<|⟨_,AZ5,((Pp,El,Em,En,Pq):(LiI) × LnA × LnN × LvA × (LiI)),?_,rfl,?_⟩
           ·exact AGs<|Ps _ (AGs<|AUa Eo Ep).symm
           ·exact A6.sel [1,2,3,4,5,6,7,8] AGr
         obtain ⟨⟨AJr,AJs,AJt,AJu,AJv⟩,Qh,rfl,Qi⟩:=Pd;refine ⟨trivial,?_⟩;subst Qh;refine ATr<|q_b<|q_t<|ATc<|AGq<|AVm rfl rfl (AG1 ?_);exact ⟨(_,_,_,_,_,_),(AGs Pc).symm,Qi,rfl,trivial⟩
        ·refine ATk<|ATl<|ATl<|AUi<|⟨_,AZ5,((O4,O5,O6,O7,O8):(LiI) × LnA × LnN × LvA × (LiI)),?_,rfl,?_⟩
         ·exact AGs<|O9 _ (AGs<|AUa Ej Ek).symm
         ·exact Az
       obtain ⟨⟨Qj,Qk,Ql,Qm,Qn⟩,Qo,rfl,Ey⟩:=O3;refine ⟨trivial,?_⟩;subst Qo;refine AGw<|ATc<|AGq<|ATp rfl rfl (ATu<|ATr<|q_b<|q_t<|AGt<|AGq<|AGq<|AGq ?_);obtain ⟨Qp,Qq,Qr⟩:=AGu O2;refine ATm (K':=(λxr h'=> ∃ x:(LiI) × LnA × LnN × LvA × (LiI),(x.1,x.2.2.2.2)=Qp/\xr= .tuple #[]/\Kst h h' ((Ey.L.set 5<|aO2 (cI .i64) 61 2 x.2.1 x.2.2.1 x.2.2.2.1 Ab x.1).set 4 (aO2 (cI .i64) 61 2 Ad Ae Af Ac x.2.2.2.2)))) trivial rfl ?_ λAJw AJx Qs=>?_
       ·refine cwf (l:=[_,_,_]) Tryz.func111 rfl rfl (AGx<|AYo 65474 (λx:(Int) × (LiI) × LnA × LnN × LvA × (LiI)=>(x.1,x.2.1,x.2.2.2.2.2)) (((w64<|Jg + 1),Qj,Qk,Ql,Qm,Qn):(Int) × (LiI) × LnA × LnN × LvA × (LiI)) Qq (λx=>[(1,(.int .i64 x.1))]) (λx=>(Ey.L.set 5<|aO2 (cI .i64) 61 2 x.2.2.1 x.2.2.2.1 x.2.2.2.2.1 Ab x.2.1).set 4 (aO2 (cI .i64) 61 2 Ad Ae Af Ac x.2.2.2.2.2)) Ey ⟨rfl,trivial⟩ ?_);rintro ⟨AJy,Qt,Qu,Qv,Qw,Qx⟩ AJz AJ0 AJ1 A3 Ez Qy;unfold AY1 at Ez;refine AGv<|AGt<|AGq<|AGq<|AZv rfl rfl (AGw<|⟨_,rfl,λFa=>?_,λFa=>?_⟩)
        ·refine AG5<|q_t<|AGv<|AGx<|ATc<|AGq<|AGq<|AVm rfl rfl (AGq ?_);obtain ⟨Qz,Q0,Q1⟩:=AGu<|AT9 Ez Fa;refine ATm (K':=(λxr h'=> ∃ x:(LiI) × LnA × LnN × LvA × (LiI),(x.1,x.2.2.2.2)=Qz/\xr= .tuple #[]/\Kst h h' ((A3.L.set 5<|aO2 (cI .i64) 61 2 x.2.1 x.2.2.1 x.2.2.2.1 Ab x.1).set 4 (aO2 (cI .i64) 61 2 Ad Ae Af Ac x.2.2.2.2)))) trivial rfl ?_ λAJ2 AJ3 Q2=>?_
         ·refine cwf (l:=[_,_,_]) Tryz.func165 rfl rfl (AGv<|AWg<|AGq<|AUw rfl (AU9 AVs AVg (A3.b p6) 1 rfl (AGq<|AGq<|AUw rfl (AU9 AVs AVg (A3.b p6) 1 rfl (AGq<|AGq<|AUw rfl (AU9 AVs AVg (A3.b p6) 1 rfl (AGq ?_)))))));obtain ⟨AJ4,Jr,Q3⟩:=AGu Q0;refine AUs ATg ATq (A3.o2 p5) Jr λ_ AJ5 Q4=>AGq<|AUw rfl (AU9 AVs AVg (A3.b p6) 1 rfl (AGq ?_));obtain ⟨AJ6,Js,Q6⟩:=AGu Q3;refine AUs ATg ATq (A3.o2 p5) Js λ_ AJ7 Q7=>Agj ATg ATq (A3.o2 p5) Q7 Q4 Js Jr rfl rfl (λ_=>rfl) (λ_=>rfl) (λ_=>rfl) (λ_ _=>rfl) λAJ8 AJ9 Fb Fc Fd AKa Q8 Q9 Rc=>AGw<|AGv<|AWg ?_;have Cd:=A3.uo2 p5 Q9 Q8 Rc;refine AGq<|AUw rfl (AU9 AVs AVg (Cd.b p6) 1 rfl (AGq<|AUw rfl (AU9 Ah3 AVg (Cd.b p6) 2 rfl (Aqj Aax Au7 rfl trivial tt2 rfl (Cd.o2 p5).isOne (Cd.o2 p4).isOne λAKb AKc Rd Re Rf=>Am6 Aax rfl (AGq<|AGw<|AGx ?_)))));have Jt:=Cd.nb Re Rf Rd;refine AZp 4722366412500901036672 Q6 (λx=>[(46,(.int .i64 x.1))]) (λx=>(Jt.L.set 6<|aO2 (cI .i64) 61 2 Fb Fc Fd Ab x.2.1).set 5 (aO2 (cI .i64) 61 2 Ad Ae Af Ac x.2.2)) Jt ⟨rfl,trivial⟩ ?_;rintro ⟨Ju,Rg,Rh⟩ AKd AKe AKf A7 Fe Ri;unfold AXq at Fe;refine AGt<|ATz rfl rfl (AGw<|AGv<|⟨_,rfl,λFf=>?_,λFf=>?_⟩)
          ·refine AG5<|q_t<|AGv<|AGx<|AGt ?_;have Jv:=AT9 Fe Ff;by_cases Fg:Ju=0
           ·refine Amv 0 Aax rfl rfl Fg AGr (AT1 AVg rfl ((A7.b p0).cell (i:=0) rfl) (AT7<|AGq<|AUb ATg rfl (A7.o2 p6).rd (AGq<|AGw<|AGx<|AZp 2361178737835195236864 (ifT Jv Fg) (λx=>[(52,(.int .i64 x.1))]) (λx=>A7.L.set 6<|aO2 (cI .i64) 61 2 Fb Fc Fd Ab x.2) A7 ⟨rfl,trivial⟩ ?_)));rintro ⟨Cz,AKg⟩ AKh AKi AKj Ce Fh Rj;unfold Aa0 at Fh;refine AGt<|ATz rfl rfl (AGw<|AGv<|⟨_,rfl,λFi=>?_,λFi=>?_⟩)
            ·refine AG5<|q_t<|AGv<|AGx<|AGt ?_;obtain ⟨AKk,C0,Rm⟩:=AGu<|AT9 Fh Fi;refine AUs ATg ATq (Ce.o2 p6) C0 λ_ AKl C1=>AG1<|AWg<|AGq<|AGq<|AGq<|AGq<|AGq<|AGq ?_;obtain ⟨AKm,Rn,Ro⟩:=AGu Rm;refine AW5 (m:=Cz) ATe ATh (Ce.o2 p6) C1 C0 Rn λ_=>(AGq<|AGq ?_);obtain ⟨AKn,Jw,Rq⟩:=AGu Ro;refine AW5 (m:=Cz) ATe ATh (Ce.o2 p6) C1 C0 Jw λ_=>AZ7 (m:=Cz) Ce p6 ATe ATh C1 C0 Jw (λ_=>rfl) λ_ AKo Rr=>?_;obtain ⟨AKp,Rs,Rt⟩:=AGu Rq;obtain ⟨AKq,Ru,Rv⟩:=AGu Rt;refine AZ7 (m:=Cz) Rr p6 ATe ATh C1 Rs Ru (λ_=>rfl) λ_ AKr Rw=>ATr<|q_b<|q_t<|ATc<|ATp rfl rfl (AGq<|AGw ?_);exact ⟨_,(AGs Rv).symm,Rw,rfl,trivial⟩
            ·refine ATk<|ATl<|ATl<|AUi<|q_b<|q_t<|ATc<|ATp rfl rfl (AGq<|AGw ?_);exact ⟨_,(AGs<|Rj _ (AGs<|AUa Fh Fi).symm).symm,Ce,rfl,trivial⟩
           ·have Jx:=ifF Jv Fg;by_cases Fj:Ju=1
            ·refine Amv 1 Aax rfl rfl Fj AGr (AT1 AVg rfl ((A7.b p0).cell (i:=1) rfl) (AT7<|AGq<|AUb ATg rfl (A7.o2 p5).rd (AGq<|AGw<|AGx<|AZp 2361178737835195236864 (ifT Jx Fj) (λx=>[(52,(.int .i64 x.1))]) (λx=>A7.L.set 5<|aO2 (cI .i64) 61 2 Ad Ae Af Ac x.2) A7 ⟨rfl,trivial⟩ ?_)));rintro ⟨C2,AKs⟩ AKt AKu AKv Cf Fk Rx;unfold Aa1 at Fk;refine AGt<|ATz rfl rfl (AGw<|AGv<|⟨_,rfl,λFl=>?_,λFl=>?_⟩)
             ·refine AG5<|q_t<|AGv<|AGx<|AGt ?_;obtain ⟨AKw,C3,Ry⟩:=AGu<|AT9 Fk Fl;refine AUs ATg ATq (Cf.o2 p5) C3 λ_ AKx C4=>AG1<|AWg<|AGq<|AGq<|AGq<|AGq<|AGq<|AGq ?_;obtain ⟨AKy,Rz,R3⟩:=AGu Ry;refine AW5 (m:=C2) ATe ATh (Cf.o2 p5) C4 C3 Rz λ_=>(AGq<|AGq ?_);obtain ⟨AKz,Jy,R4⟩:=AGu R3;refine AW5 (m:=C2) ATe ATh (Cf.o2 p5) C4 C3 Jy λ_=>AZ7 (m:=C2) Cf p5 ATe ATh C4 C3 Jy (λ_=>rfl) λ_ AK0 R5=>?_;obtain ⟨AK1,R6,R7⟩:=AGu R4;obtain ⟨AK2,R8,R9⟩:=AGu R7;refine AZ7 (m:=C2) R5 p5 ATe ATh C4 R6 R8 (λ_=>rfl) λ_ AK3 Sa=>ATr<|q_b<|q_t<|ATc<|ATp rfl rfl (AGq<|AGw ?_);exact ⟨_,(AGs R9).symm,Sa,rfl,trivial⟩
             ·refine ATk<|ATl<|ATl<|AUi<|q_b<|q_t<|ATc<|ATp rfl rfl (AGq<|AGw ?_);exact ⟨_,(AGs<|Rx _ (AGs<|AUa Fk Fl).symm).symm,Cf,rfl,trivial⟩
            ·have Sb:=ifF Jx Fj;cases Sb
          ·refine ATk<|ATl<|ATl<|AUi<|⟨_,AZ5,((Rg,Fb,Fc,Fd,Rh):(LiI) × LnA × LnN × LvA × (LiI)),?_,rfl,?_⟩
           ·exact AGs<|Ri _ (AGs<|AUa Fe Ff).symm
           ·exact A7.sel [1,2,3,4,5,6,7,8] AGr
         obtain ⟨⟨AK4,AK5,AK6,AK7,AK8⟩,Sc,rfl,Sd⟩:=Q2;refine ⟨trivial,?_⟩;subst Sc;refine ATr<|q_b<|q_t<|ATc<|AGq<|AVm rfl rfl (AG1 ?_);exact ⟨(_,_,_,_,_,_),(AGs Q1).symm,Sd,rfl,trivial⟩
        ·refine ATk<|ATl<|ATl<|AUi<|⟨_,AZ5,((Qt,Qu,Qv,Qw,Qx):(LiI) × LnA × LnN × LvA × (LiI)),?_,rfl,?_⟩
         ·exact AGs<|Qy _ (AGs<|AUa Ez Fa).symm
         ·exact A3
       obtain ⟨⟨Se,Sf,Sg,Sh,Si⟩,Sj,rfl,Sk⟩:=Qs;refine ⟨trivial,?_⟩;subst Sj;refine AGw<|ATk<|AUi<|q_t ?_;exact ⟨((Se,Sf,Sg,Sh,Si,2):(LiI) × LnA × LnN × LvA × (LiI) × (Int)),⟨AGs Qr,Sk⟩,trivial⟩
      ·refine AG5<|q_t<|ATk<|Atv AGr<|ATl<|AUi<|q_t<|AGt<|AGq<|AGq<|AGq ?_;obtain ⟨Sm,Sn,So⟩:=AGu<|AUa Ji Eh;refine ATm (K':=(λxr h'=> ∃ x:(LiI) × LnA × LnN × LvA × (LiI),(x.1,x.2.2.2.2)=Sm/\xr= .tuple #[]/\Kst h h' ((Bq.L.set 5<|aO2 (cI .i64) 61 2 x.2.1 x.2.2.1 x.2.2.2.1 Ab x.1).set 4 (aO2 (cI .i64) 61 2 Ad Ae Af Ac x.2.2.2.2)))) trivial rfl ?_ λAK9 ALa Sq=>?_
       ·refine cwf (l:=[_,_,_]) Tryz.func111 rfl rfl (AGx<|AYo 65474 (λx:(Int) × (LiI) × LnA × LnN × LvA × (LiI)=>(x.1,x.2.1,x.2.2.2.2.2)) ((Jg,Iz,I0,I1,I2,I3):(Int) × (LiI) × LnA × LnN × LvA × (LiI)) Sn (λx=>[(1,(.int .i64 x.1))]) (λx=>(Bq.L.set 5<|aO2 (cI .i64) 61 2 x.2.2.1 x.2.2.2.1 x.2.2.2.2.1 Ab x.2.1).set 4 (aO2 (cI .i64) 61 2 Ad Ae Af Ac x.2.2.2.2.2)) Bq ⟨rfl,trivial⟩ ?_);rintro ⟨ALb,Sr,Ss,St,Su,Sv⟩ ALc ALd ALe A4 Fm Sw;unfold AY2 at Fm;refine AGv<|AGt<|AGq<|AGq<|AZv rfl rfl (AGw<|⟨_,rfl,λFo=>?_,λFo=>?_⟩)
        ·refine AG5<|q_t<|AGv<|AGx<|ATc<|AGq<|AGq<|AVm rfl rfl (AGq ?_);obtain ⟨Sx,Sy,Sz⟩:=AGu<|AT9 Fm Fo;refine ATm (K':=(λxr h'=> ∃ x:(LiI) × LnA × LnN × LvA × (LiI),(x.1,x.2.2.2.2)=Sx/\xr= .tuple #[]/\Kst h h' ((A4.L.set 5<|aO2 (cI .i64) 61 2 x.2.1 x.2.2.1 x.2.2.2.1 Ab x.1).set 4 (aO2 (cI .i64) 61 2 Ad Ae Af Ac x.2.2.2.2)))) trivial rfl ?_ λALf ALg S5=>?_
         ·refine cwf (l:=[_,_,_]) Tryz.func165 rfl rfl (AGv<|AWg<|AGq<|AUw rfl (AU9 AVs AVg (A4.b p6) 1 rfl (AGq<|AGq<|AUw rfl (AU9 AVs AVg (A4.b p6) 1 rfl (AGq<|AGq<|AUw rfl (AU9 AVs AVg (A4.b p6) 1 rfl (AGq ?_)))))));obtain ⟨ALh,Jz,S7⟩:=AGu Sy;refine AUs ATg ATq (A4.o2 p5) Jz λ_ ALi Ta=>AGq<|AUw rfl (AU9 AVs AVg (A4.b p6) 1 rfl (AGq ?_));obtain ⟨ALj,J0,Tb⟩:=AGu S7;refine AUs ATg ATq (A4.o2 p5) J0 λ_ ALk Tc=>Agj ATg ATq (A4.o2 p5) Tc Ta J0 Jz rfl rfl (λ_=>rfl) (λ_=>rfl) (λ_=>rfl) (λ_ _=>rfl) λALl ALm Fp Fq Ft ALn Td Te Tf=>AGw<|AGv<|AWg ?_;have Cg:=A4.uo2 p5 Te Td Tf;refine AGq<|AUw rfl (AU9 AVs AVg (Cg.b p6) 1 rfl (AGq<|AUw rfl (AU9 Ah3 AVg (Cg.b p6) 2 rfl (Aqj Aax Au7 rfl trivial tt2 rfl (Cg.o2 p5).isOne (Cg.o2 p4).isOne λALo ALp Tg Th Ti=>Am6 Aax rfl (AGq<|AGw<|AGx ?_)))));have J1:=Cg.nb Th Ti Tg;refine AZp 4722366412500901036672 Tb (λx=>[(46,(.int .i64 x.1))]) (λx=>(J1.L.set 6<|aO2 (cI .i64) 61 2 Fp Fq Ft Ab x.2.1).set 5 (aO2 (cI .i64) 61 2 Ad Ae Af Ac x.2.2)) J1 ⟨rfl,trivial⟩ ?_;rintro ⟨J2,Tj,Tk⟩ ALq ALr ALs A8 Fu Tl;unfold AXr at Fu;refine AGt<|ATz rfl rfl (AGw<|AGv<|⟨_,rfl,λFv=>?_,λFv=>?_⟩)
          ·refine AG5<|q_t<|AGv<|AGx<|AGt ?_;have J3:=AT9 Fu Fv;by_cases Fw:J2=0
           ·refine Amv 0 Aax rfl rfl Fw AGr (AT1 AVg rfl ((A8.b p0).cell (i:=0) rfl) (AT7<|AGq<|AUb ATg rfl (A8.o2 p6).rd (AGq<|AGw<|AGx<|AZp 2361178737835195236864 (ifT J3 Fw) (λx=>[(52,(.int .i64 x.1))]) (λx=>A8.L.set 6<|aO2 (cI .i64) 61 2 Fp Fq Ft Ab x.2) A8 ⟨rfl,trivial⟩ ?_)));rintro ⟨C5,ALt⟩ ALu ALv ALw Ch Fx Tm;unfold Aa2 at Fx;refine AGt<|ATz rfl rfl (AGw<|AGv<|⟨_,rfl,λFy=>?_,λFy=>?_⟩)
            ·refine AG5<|q_t<|AGv<|AGx<|AGt ?_;obtain ⟨ALx,C6,Tn⟩:=AGu<|AT9 Fx Fy;refine AUs ATg ATq (Ch.o2 p6) C6 λ_ ALy C7=>AG1<|AWg<|AGq<|AGq<|AGq<|AGq<|AGq<|AGq ?_;obtain ⟨ALz,To,Tp⟩:=AGu Tn;refine AW5 (m:=C5) ATe ATh (Ch.o2 p6) C7 C6 To λ_=>(AGq<|AGq ?_);obtain ⟨AL0,J4,Tq⟩:=AGu Tp;refine AW5 (m:=C5) ATe ATh (Ch.o2 p6) C7 C6 J4 λ_=>AZ7 (m:=C5) Ch p6 ATe ATh C7 C6 J4 (λ_=>rfl) λ_ AL1 Tr=>?_;obtain ⟨AL2,Ts,Tt⟩:=AGu Tq;obtain ⟨AL3,Tu,Tv⟩:=AGu Tt;refine AZ7 (m:=C5) Tr p6 ATe ATh C7 Ts Tu (λ_=>rfl) λ_ AL4 Tw=>ATr<|q_b<|q_t<|ATc<|ATp rfl rfl (AGq<|AGw ?_);exact ⟨_,(AGs Tv).symm,Tw,rfl,trivial⟩
            ·refine ATk<|ATl<|ATl<|AUi<|q_b<|q_t<|ATc<|ATp rfl rfl (AGq<|AGw ?_);exact ⟨_,(AGs<|Tm _ (AGs<|AUa Fx Fy).symm).symm,Ch,rfl,trivial⟩
           ·have J5:=ifF J3 Fw;by_cases Fz:J2=1
            ·refine Amv 1 Aax rfl rfl Fz AGr (AT1 AVg rfl ((A8.b p0).cell (i:=1) rfl) (AT7<|AGq<|AUb ATg rfl (A8.o2 p5).rd (AGq<|AGw<|AGx<|AZp 2361178737835195236864 (ifT J5 Fz) (λx=>[(52,(.int .i64 x.1))]) (λx=>A8.L.set 5<|aO2 (cI .i64) 61 2 Ad Ae Af Ac x.2) A8 ⟨rfl,trivial⟩ ?_)));rintro ⟨C8,AL5⟩ AL6 AL7 AL8 Ci F4 Tx;unfold Aa3 at F4;refine AGt<|ATz rfl rfl (AGw<|AGv<|⟨_,rfl,λF5=>?_,λF5=>?_⟩)
             ·refine AG5<|q_t<|AGv<|AGx<|AGt ?_;obtain ⟨AL9,C9,Ty⟩:=AGu<|AT9 F4 F5;refine AUs ATg ATq (Ci.o2 p5) C9 λ_ AMa Da=>AG1<|AWg<|AGq<|AGq<|AGq<|AGq<|AGq<|AGq ?_;obtain ⟨AMb,Tz,T0⟩:=AGu Ty;refine AW5 (m:=C8) ATe ATh (Ci.o2 p5) Da C9 Tz λ_=>(AGq<|AGq ?_);obtain ⟨AMc,J6,T3⟩:=AGu T0;refine AW5 (m:=C8) ATe ATh (Ci.o2 p5) Da C9 J6 λ_=>AZ7 (m:=C8) Ci p5 ATe ATh Da C9 J6 (λ_=>rfl) λ_ AMd T4=>?_;obtain ⟨AMe,T5,T6⟩:=AGu T3;obtain ⟨AMf,T7,T8⟩:=AGu T6;refine AZ7 (m:=C8) T4 p5 ATe ATh Da T5 T7 (λ_=>rfl) λ_ AMg T9=>ATr<|q_b<|q_t<|ATc<|ATp rfl rfl (AGq<|AGw ?_);exact ⟨_,(AGs T8).symm,T9,rfl,trivial⟩
             ·refine ATk<|ATl<|ATl<|AUi<|q_b<|q_t<|ATc<|ATp rfl rfl (AGq<|AGw ?_);exact ⟨_,(AGs<|Tx _ (AGs<|AUa F4 F5).symm).symm,Ci,rfl,trivial⟩
            ·have Ua:=ifF J5 Fz;cases Ua
          ·refine ATk<|ATl<|ATl<|AUi<|⟨_,AZ5,((Tj,Fp,Fq,Ft,Tk):(LiI) × LnA × LnN × LvA × (LiI)),?_,rfl,?_⟩
           ·exact AGs<|Tl _ (AGs<|AUa Fu Fv).symm
           ·exact A8.sel [1,2,3,4,5,6,7,8] AGr
         obtain ⟨⟨AMh,AMi,AMj,AMk,AMl⟩,Ub,rfl,Uc⟩:=S5;refine ⟨trivial,?_⟩;subst Ub;refine ATr<|q_b<|q_t<|ATc<|AGq<|AVm rfl rfl (AG1 ?_);exact ⟨(_,_,_,_,_,_),(AGs Sz).symm,Uc,rfl,trivial⟩
        ·refine ATk<|ATl<|ATl<|AUi<|⟨_,AZ5,((Sr,Ss,St,Su,Sv):(LiI) × LnA × LnN × LvA × (LiI)),?_,rfl,?_⟩
         ·exact AGs<|Sw _ (AGs<|AUa Fm Fo).symm
         ·exact A4
       obtain ⟨⟨Ud,Ue,Uf,Ug,Uh⟩,Ui,rfl,Uj⟩:=Sq;refine ⟨trivial,?_⟩;subst Ui;refine AGw<|ATk<|AUi<|q_t ?_;exact ⟨((Ud,Ue,Uf,Ug,Uh,1):(LiI) × LnA × LnN × LvA × (LiI) × (Int)),⟨AGs So,Uj⟩,trivial⟩
     rintro ⟨AMm,Ah,Ai,Aj,AMn,Aw⟩ AMo AMp ⟨Uk,Cj⟩;subst Uk;refine AGt<|AGq<|AUw rfl (AU9 AVs AVg (Cj.b p6) 1 rfl (AGq ?_));obtain ⟨AMq,Db,Ul⟩:=AGu Ox;refine AUs ATg ATq (Cj.o2 p5) Db λ_ AMr Um=>AGq ?_;obtain ⟨Ak,Un,Uo⟩:=AGu Ul;refine AW5 (m:=A5) ATe ATh (Cj.o2 p5) Um Db Un λ_=>(AGq ?_);obtain ⟨Up,J7⟩:=ifN Uo;refine Ao2 rfl rfl Up (AVa Ag2 rfl (Af7 [(.int .i64 Aa),(.int .i64 Aw),(.int .i64<|Ak / 2 ^ Int.toNat Aa),(.int .i64 0),(.int .i64 0)] ATh rfl rfl rfl (Cj.b p0) (Nat.le_of_ble_eq_true rfl) rfl λAMs Uq Ur=>AGw<|AGv<|AGt ?_));have A9:=Cj.sb p0 Ur Uq rfl;refine AU9 Agc AT8 (A9.b p0) 1 rfl (AWe rfl rfl (AGw<|⟨_,rfl,λF6=>?_,λF6=>?_⟩))
     ·refine AGt<|AGq<|AGq<|AGq<|AGq<|AU9 Ag2 ATh (A9.b p0) 2 rfl ?_;obtain ⟨Us,Ut,Uu⟩:=AGu<|AT9 J7 F6;refine ATm (K':=(λxr h'=> ∃ x:(Int),x=Us/\xr=(.int .i64 x)/\Kst h h' (A9.L))) trivial rfl ?_ λAMt AMu Uv=>?_
      ·refine cwf (l:=[_,_]) Tryz.func113 rfl rfl (AGt<|AT7<|AGq<|Aqg (κ:= .i64) [(Ak / 2 ^ Int.toNat Aa)] ATe Acs rfl rfl trivial tt2 rfl rfl rfl rfl λUw Ux AMv Uy Uz U0 U3=>?_);have F7:=A9.no Uz (AX4 U0 U3) Uy;refine An7 (c:=(cI .i64)) (el:=2) [[Uw]] [Ux] [([(Ak / 2 ^ Int.toNat Aa)]:List Int)] ATg Ae8 rfl rfl trivial tt2 rfl rfl rfl rfl (AY9 (F7.o p0).isOne Akf) ⟨(F7.o p0),trivial⟩ AT5 λAMw AMx AMy U8 Va Vb=>?_;have F8:=(((F7.a0).grab p0)).lit Va U8 (by simpa using Vb);refine AGq<|AUw rfl (AU9 Aaw AT8 (F8.b p8) 0 rfl ?_);obtain ⟨Vc,Vd⟩:=ifN Ut;refine AZh rfl rfl Vc ?_;obtain ⟨⟨AMz,AM0⟩,Ve,J8⟩:=AGu Vd;dsimp only at J8;refine Aeq rfl (Aij (F8.o2 p0).rd Ve) λAM1 AM2 Vf Vg=>?_;obtain ⟨AM3,AM4,AM5,AM6,rfl,Vh,Vi⟩:=Vg;refine AGq<|AUh rfl rfl (AUh rfl rfl (ATu<|AT7<|AGq ?_));have F9:=F8.no2 Vf Vi Vh;obtain ⟨AM7,J9,Vj⟩:=AGu J8;refine AUs ATg ATq (F9.o2 p0) J9 λ_ AM8 Vk=>?_;obtain ⟨Vl,Vm,Vn⟩:=AGu Vj;refine AW5 (m:=0) ATe ATh (F9.o2 p0) Vk J9 Vm λ_=>(AG1<|AG6<|⟨_,AS9,(Vl:(Int)),?_,rfl,?_⟩)
       ·exact AGs Vn
       ·exact F9.sel [3,4,5,6,7,8,9,10] AGr
      obtain ⟨Vo,Vp,rfl,Ga⟩:=Uv;refine ⟨trivial,?_⟩;subst Vp;obtain ⟨Vs,Vt,Vu⟩:=AGu Uu;refine ATm (K':=(λxr h'=> ∃ x:(LiI) × (LiI),(x.1,x.2)=Vs/\xr= .tuple #[]/\Kst h h' ((Ga.L.set 5<|aO2 (cI .i64) 61 2 Ah Ai Aj Ab x.1).set 4 (aO2 (cI .i64) 61 2 Ad Ae Af Ac x.2)))) trivial rfl ?_ λAM9 ANa Vv=>?_
      ·refine cwf (l:=[_,_,_,_]) Tryz.func112 rfl rfl (AGt<|AGq<|ATp rfl rfl (AG1<|AGx<|AZp 8796093018880 Vt (λx=>[(8,(.int .i64 x.1))]) (λx=>(Ga.L.set 5<|aO2 (cI .i64) 61 2 Ah Ai Aj Ab x.2.1).set 4 (aO2 (cI .i64) 61 2 Ad Ae Af Ac x.2.2)) Ga ⟨rfl,trivial⟩ ?_));rintro ⟨Gb,Vw,Vx⟩ ANb ANc ANd Ba Gc Vy;unfold Aa7 at Gc;refine AGv<|AGt<|AGq<|AGq<|AUw rfl (AU9 AVs AVg (Ba.b p6) 1 rfl (AUb ATg rfl (Ba.o2 p5).rd (ATz rfl rfl (AGw<|⟨_,rfl,λGd=>?_,λGd=>?_⟩))))
       ·refine AG5<|q_t<|AGv<|AGx<|AGt<|AGq<|AUw rfl (AU9 AVs AVg (Ba.b p6) 1 rfl (AGq ?_));obtain ⟨ANe,Ka,Vz⟩:=AGu<|AT9 Gc Gd;refine AUs ATg ATq (Ba.o2 p5) Ka λ_ ANf V1=>AGq ?_;obtain ⟨V4,V6,V8⟩:=AGu Vz;refine AW5 (m:=A5) ATe ATh (Ba.o2 p5) V1 Ka V6 λ_=>(AGq ?_);obtain ⟨Wa,Wb⟩:=ifN V8;refine Ao2 rfl rfl Wa (AG1<|ATc<|AGq<|AGq<|AGq<|AGq<|AGq<|Aq1 rfl (AGq<|Aai rfl rfl ?_));obtain ⟨Wc,Wd,We⟩:=AGu Wb;refine ATm (K':=(λxr h'=> ∃ x:(Int),x=Wc/\xr=(.int .i64 x)/\Kst h h' (Ba.L))) trivial rfl ?_ λANg ANh Wf=>?_
        ·refine cwf (l:=[_,_]) Tryz.func167 rfl rfl (AGt<|AT7<|AGq<|AGq<|AUw rfl (AU9 Aaw AT8 (Ba.b p6) 0 rfl ?_));obtain ⟨Wg,Wh⟩:=ifN Wd;refine AZh rfl rfl Wg (AVm rfl rfl (Abm rfl rfl AGr (AG1<|AG6<|⟨_,AS9,((AZw .and .i64 (w64<|(w64<|0 - (V4 / 2 ^ Int.toNat Aa)) * Vo)<|w64<|(w64<|1 * 2 ^ Int.toNat Ag) - 1):(Int)),?_,rfl,?_⟩)))
         ·exact AGs Wh
         ·exact Ba
        obtain ⟨Ge,Wi,rfl,Br⟩:=Wf;refine ⟨trivial,?_⟩;subst Wi;obtain ⟨Wj,Wk,Wl⟩:=AGu We;refine ATm (K':=(λxr h'=> ∃ x:(LiI) × (LiI),(x.1,x.2)=Wj/\xr= .tuple #[]/\Kst h h' ((Br.L.set 5<|aO2 (cI .i64) 61 2 Ah Ai Aj Ab x.1).set 4 (aO2 (cI .i64) 61 2 Ad Ae Af Ac x.2)))) trivial rfl ?_ λANi ANj Wm=>?_
        ·refine cwf (l:=[_,_,_,_]) Tryz.func166 rfl rfl (AGv<|AGv<|AWg<|AGq<|AUw rfl (AU9 AVs AVg (Br.b p6) 1 rfl (AGq<|AUw rfl (AU9 Ah3 AVg (Br.b p6) 2 rfl (Aqj Aax Au7 rfl trivial tt2 rfl (Br.o2 p5).isOne (Br.o2 p4).isOne λANk ANl Wn Wo Wp=>Am6 Aax rfl (AGq<|AGw<|AGx ?_))))));have Kb:=Br.nb Wo Wp Wn;refine AZp 4503599610595840 Wk (λx=>[(24,(.int .i64 x.1))]) (λx=>(Kb.L.set 6<|aO2 (cI .i64) 61 2 Ah Ai Aj Ab x.2.1).set 5 (aO2 (cI .i64) 61 2 Ad Ae Af Ac x.2.2)) Kb ⟨rfl,trivial⟩ ?_;rintro ⟨Kc,ANm,Wq⟩ ANn ANo ANp Ao Gf Wr;unfold AXs at Gf;refine AGt<|ATz rfl rfl (AGw<|AGv<|⟨_,rfl,λGg=>?_,λGg=>?_⟩)
         ·refine AG5<|q_t<|AGv<|AGx<|AGt ?_;have Kd:=AT9 Gf Gg;by_cases Gh:Kc=0
          ·refine Amv 0 Aax rfl rfl Gh AGr (AT1 AVg rfl ((Ao.b p0).cell (i:=0) rfl) (AT7<|AGq<|AUb ATg rfl (Ao.o2 p6).rd (AGq<|AGw<|AGx<|AZp 2251798739945472 (ifT Kd Gh) (λx=>[(30,(.int .i64 x.1))]) (λx=>Ao.L.set 6<|aO2 (cI .i64) 61 2 Ah Ai Aj Ab x.2) Ao ⟨rfl,trivial⟩ ?_)));rintro ⟨Gi,ANq⟩ ANr ANs ANt Bc Gj Ws;unfold Aa4 at Gj;refine AGt<|ATz rfl rfl (AGw<|AGv<|⟨_,rfl,λGk=>?_,λGk=>?_⟩)
           ·refine AG5<|q_t<|AGv<|AGx<|AGt ?_;obtain ⟨ANu,Dc,Wt⟩:=AGu<|AT9 Gj Gk;refine AUs ATg ATq (Bc.o2 p6) Dc λ_ ANv Gl=>AG1<|AWg<|AGq<|AGq<|AGq<|AGq<|AGq ?_;obtain ⟨Wu,Ke,Wv⟩:=AGu Wt;refine AW5 (m:=Gi) ATe ATh (Bc.o2 p6) Gl Dc Ke λ_=>(AGq<|AGq<|AGq ?_);obtain ⟨Ww,Wx,Wy⟩:=AGu Wv;refine AW5 (m:=Gi) ATe ATh (Bc.o2 p6) Gl Dc Wx λ_=>(Aai rfl rfl (ATp rfl rfl ?_));obtain ⟨Wz,W0,W1⟩:=AGu Wy;refine ATm (K':=(λxr h'=> ∃ x:(Int),x=Wz/\xr=(.int .i64 x)/\Kst h h' (Bc.L))) trivial rfl ?_ λANw ANx W3=>?_
            ·refine cwf (l:=[_,_]) Tryz.func167 rfl rfl (AGt<|AT7<|AGq<|AGq<|AUw rfl (AU9 Aaw AT8 (Bc.b p7) 0 rfl ?_));obtain ⟨W4,W5⟩:=ifN W0;refine AZh rfl rfl W4 (AVm rfl rfl (Abm rfl rfl AGr (AG1<|AG6<|⟨_,AS9,((AZw .and .i64 (w64<|Wu + (w64<|Ge * Ww))<|w64<|(w64<|1 * 2 ^ Int.toNat Ag) - 1):(Int)),?_,rfl,?_⟩)))
             ·exact AGs W5
             ·exact Bc
            obtain ⟨ANy,W6,rfl,W7⟩:=W3;refine ⟨trivial,?_⟩;subst W6;refine AZ7 (m:=Gi) W7 p6 ATe ATh Gl Dc Ke (λ_=>rfl) λ_ ANz W8=>ATr<|q_b<|q_t<|ATc<|ATp rfl rfl (AGq<|AGw ?_);exact ⟨_,(AGs W1).symm,W8,rfl,trivial⟩
           ·refine ATk<|ATl<|ATl<|AUi<|q_b<|q_t<|ATc<|ATp rfl rfl (AGq<|AGw ?_);exact ⟨_,(AGs<|Ws _ (AGs<|AUa Gj Gk).symm).symm,Bc,rfl,trivial⟩
          ·have Kf:=ifF Kd Gh;by_cases Gm:Kc=1
           ·refine Amv 1 Aax rfl rfl Gm AGr (AT1 AVg rfl ((Ao.b p0).cell (i:=1) rfl) (AT7<|AGq<|AUb ATg rfl (Ao.o2 p5).rd (AGq<|AGw<|AGx<|AZp 2251798739945472 (ifT Kf Gm) (λx=>[(30,(.int .i64 x.1))]) (λx=>Ao.L.set 5<|aO2 (cI .i64) 61 2 Ad Ae Af Ac x.2) Ao ⟨rfl,trivial⟩ ?_)));rintro ⟨Gn,AN0⟩ AN1 AN2 AN3 Be Gp Xa;unfold Aa5 at Gp;refine AGt<|ATz rfl rfl (AGw<|AGv<|⟨_,rfl,λGq=>?_,λGq=>?_⟩)
            ·refine AG5<|q_t<|AGv<|AGx<|AGt ?_;obtain ⟨AN4,Dd,Xb⟩:=AGu<|AT9 Gp Gq;refine AUs ATg ATq (Be.o2 p5) Dd λ_ AN5 Gr=>AG1<|AWg<|AGq<|AGq<|AGq<|AGq<|AGq ?_;obtain ⟨Xc,Kg,Xd⟩:=AGu Xb;refine AW5 (m:=Gn) ATe ATh (Be.o2 p5) Gr Dd Kg λ_=>(AGq<|AGq<|AGq ?_);obtain ⟨Xe,Xf,Xg⟩:=AGu Xd;refine AW5 (m:=Gn) ATe ATh (Be.o2 p5) Gr Dd Xf λ_=>(Aai rfl rfl (ATp rfl rfl ?_));obtain ⟨Xh,Xi,Xj⟩:=AGu Xg;refine ATm (K':=(λxr h'=> ∃ x:(Int),x=Xh/\xr=(.int .i64 x)/\Kst h h' (Be.L))) trivial rfl ?_ λAN6 AN7 Xk=>?_
             ·refine cwf (l:=[_,_]) Tryz.func167 rfl rfl (AGt<|AT7<|AGq<|AGq<|AUw rfl (AU9 Aaw AT8 (Be.b p7) 0 rfl ?_));obtain ⟨Xl,Xm⟩:=ifN Xi;refine AZh rfl rfl Xl (AVm rfl rfl (Abm rfl rfl AGr (AG1<|AG6<|⟨_,AS9,((AZw .and .i64 (w64<|Xc + (w64<|Ge * Xe))<|w64<|(w64<|1 * 2 ^ Int.toNat Ag) - 1):(Int)),?_,rfl,?_⟩)))
              ·exact AGs Xm
              ·exact Be
             obtain ⟨AN8,Xn,rfl,Xo⟩:=Xk;refine ⟨trivial,?_⟩;subst Xn;refine AZ7 (m:=Gn) Xo p5 ATe ATh Gr Dd Kg (λ_=>rfl) λ_ AN9 Xp=>ATr<|q_b<|q_t<|ATc<|ATp rfl rfl (AGq<|AGw ?_);exact ⟨_,(AGs Xj).symm,Xp,rfl,trivial⟩
            ·refine ATk<|ATl<|ATl<|AUi<|q_b<|q_t<|ATc<|ATp rfl rfl (AGq<|AGw ?_);exact ⟨_,(AGs<|Xa _ (AGs<|AUa Gp Gq).symm).symm,Be,rfl,trivial⟩
           ·have Xq:=ifF Kf Gm;cases Xq
         ·refine ATk<|ATl<|ATl<|AUi<|q_t<|AGt<|AGq<|AUw rfl (AU9 AVs AVg (Ao.b p7) 1 rfl (AGq ?_));obtain ⟨AOa,Kh,Xr⟩:=AGu<|Wr _ (AGs<|AUa Gf Gg).symm;refine AUs ATg ATq (Ao.o2 p6) Kh λ_ AOb Ki=>AUu ATe rfl ((Ao.o2 p6).rowI Ki Kh) (AGq<|AGw<|AGx ?_);have Gt:=Ao.sel [1,2,3,4,5,6,7,8] AGr;dsimp only [AY6,Acl] at Gt;refine AZp 2475880077417839045191413760 Xr (λx=>[(60,(.int .i64 x.1))]) (λx=>Gt.L.set 5<|aO2 (cI .i64) 61 2 Ah Ai Aj Ab x.2) Gt ⟨rfl,trivial⟩ ?_;rintro ⟨AOc,Xt⟩ AOd Bt AOe Ap Gu Xu;unfold Aa6 at Gu;refine AGt<|ATz rfl rfl (AGw<|AGv<|⟨_,rfl,λGv=>?_,λGv=>?_⟩)
          ·refine AG5<|q_t<|AGv<|AGx<|AGt<|AGq ?_;obtain ⟨AOf,Xv,Xw⟩:=AGu<|AT9 Gu Gv;obtain ⟨Xx,Xy,Xz⟩:=AGu Xw;refine AW5 (m:=A5) ATe ATh (Ap.o2 p5) Ki Xv Xy λ_=>(ATu<|AG1<|AVl (λh'=>UpT [] Bt h') AG3 ?_);have Bf:UpT [] Bt Bt:=UpT.start all_nil;refine AGq<|AUw rfl (AVa AVs rfl (AVe AVg rfl Bf (λh' hb=>((Ap.b p6).ext hb.ext).cell (i:=1) rfl) (AGq ?_)));obtain ⟨AOg,Bu,X0⟩:=AGu Xz;refine AUy ATg rfl (Ap.o2 p5) rfl Bu λAOh AOi AOj X3 X4=>AVe ATq rfl Bf (λh' hb=>ATw X4 hb.ext) (AGq<|AGq<|AGq<|AUw rfl (AVa AVs rfl (AVe AVg rfl Bf (λh' hb=>((Ap.b p6).ext hb.ext).cell (i:=1) rfl) (AGq<|AUy ATg rfl (Ap.o2 p5) rfl Bu λAOk AOl AOm X5 X6=>AVe ATq rfl Bf (λh' hb=>ATw X6 hb.ext) (AGq ?_)))));obtain ⟨X8,De,Ya⟩:=AGu X0;refine AU7 (m:=Gb) ATe rfl (Ap.o2 p5) X5 Bu rfl De λAOn Yb=>?_;obtain ⟨AOo,Yc,Yd⟩:=(Ap.o2 p5).cells Yb Bu De;obtain rfl:=Yc;refine AVe ATh rfl Bf (λh' hb=>ATw (Yd 0 _ rfl) hb.ext) (AGq<|AGq<|Aai rfl rfl (ATp rfl rfl ?_));obtain ⟨Ye,Yf,Yg⟩:=AGu Ya;have Yh:UpT [] Bt Bt:=UpT.start all_nil;refine ATm (K':=(λxr h'=> ∃ x:(Int),x=Ye/\xr=(.int .i64 x)/\Kst h h' (Ap.L)/\UpT [] Bt h')) Bf rfl ?_ λAOp AOq Yi=>?_
           ·refine cwf (l:=[_,_]) Tryz.func167 rfl rfl (AGt<|AT7<|AGq<|AGq<|AUw rfl (AVa Aaw rfl (AT1 AT8 rfl ((Ap.b p6).cell (i:=0) rfl) ?_)));obtain ⟨Yj,Yk⟩:=ifN Yf;refine AZh rfl rfl Yj (AVm rfl rfl (Abm rfl rfl AGr (AG1<|AG6<|⟨_,AS9,((AZw .and .i64 (w64<|X8 + (w64<|Ge * Xx))<|w64<|(w64<|1 * 2 ^ Int.toNat Ag) - 1):(Int)),?_,rfl,?_,?_⟩)))
            ·exact AGs Yk
            ·exact Ap
            ·exact Yh
           obtain ⟨Yl,Ym,rfl,Kj,Yn⟩:=Yi;refine ⟨(Bf.then Yn all_nil),?_⟩;subst Ym;refine AU7 (m:=Gb) ATe rfl (Ap.o2 p5) X3 Bu rfl De λAOr Yo=>AYs (m:=Gb) (AX9 ATh rfl rfl rfl) (Kj.o2 p5) Yo Bu De (show ((cI .i64)).rep _ Yl _ from rfl) λAOs Yp Yq=>ATr<|q_b<|q_t<|ATc<|ATp rfl rfl (AGq<|AGw ?_);exact ⟨_,(AGs Yg).symm,(Kj.uO2 p5 Yq Yp),rfl,trivial⟩
          ·refine ATk<|ATl<|ATl<|AUi<|⟨_,AZ5,((Xt,Wq):(LiI) × (LiI)),?_,rfl,?_⟩
           ·exact AGs<|Xu _ (AGs<|AUa Gu Gv).symm
           ·exact Ap
        obtain ⟨⟨AOt,AOu⟩,Yr,rfl,Ys⟩:=Wm;refine ⟨trivial,?_⟩;subst Yr;refine ATr<|q_b<|q_t<|ATc<|AGq<|ATp rfl rfl (AG1 ?_);exact ⟨_,(AGs Wl).symm,Ys,rfl,trivial⟩
       ·refine ATk<|ATl<|ATl<|AUi<|⟨_,AZ5,((Vw,Vx):(LiI) × (LiI)),?_,rfl,?_⟩
        ·exact AGs<|Vy _ (AGs<|AUa Gc Gd).symm
        ·exact Ba
      obtain ⟨⟨Yt,Yu⟩,Yv,rfl,Gw⟩:=Vv;refine ⟨trivial,?_⟩;subst Yv;refine AZ4<|Abi [(.int .i64 Aa),(.int .i64 Aw),(.int .i64<|Ak / 2 ^ Int.toNat Aa),(.int .i64 0),(.int .i64 0)] Adf rfl rfl (Gw.b p0).agg (AVf [(.int .i64 Aa),(.int .i64 Aw),(.int .i64<|Ak / 2 ^ Int.toNat Aa),(.int .i64 0),(.int .i64 0)] Adf rfl rfl rfl rfl (by simp [isOne]) (Gw.b p1) λAOv Yw Yx=>AGw<|AG6<|ATj ?_);have Kk:=Gw.sb p1 Yx Yw rfl;refine ⟨_,AVn Adf rfl rfl (Kk.b p1),((Aa,Aw,(Ak / 2 ^ Int.toNat Aa),0,0,Yt,Ah,Ai,Aj,Yu):(Int) × (Int) × (Int) × (Int) × (Int) × (LiI) × LnA × LnN × LvA × (LiI)),?_,rfl,?_⟩
      ·exact AGs Vu
      ·exact Kk.sel [2,3,4,5,6,7] AGr
     ·refine AG5<|q_t<|AGt<|AGq<|AUw rfl (AU9 AVs AVg (A9.b p6) 1 rfl (AGq<|AUs ATg ATq (A9.o2 p5) Db λ_ AOw Yy=>AGq<|ATp rfl rfl ?_));obtain ⟨Ax,Yz,Y1⟩:=AGu<|AUa J7 F6;refine AW5 (m:=A5) ATe ATh (A9.o2 p5) Yy Db Yz λ_=>(AGq ?_);obtain ⟨Y2,Y3⟩:=ifN Y1;refine Ao2 rfl rfl Y2 (AVa Agd rfl (Af7 [(.int .i64 Aa),(.int .i64 Aw),(.int .i64<|Ak / 2 ^ Int.toNat Aa),(.int .i64<|Ax / 2 ^ Int.toNat Aa),(.int .i64 0)] ATh rfl rfl rfl (A9.b p0) (Nat.le_of_ble_eq_true rfl) rfl λAOx Y4 Y5=>AZ4 ?_));have Ck:=A9.sb p0 Y5 Y4 rfl;refine AGq<|AUw rfl (AU9 AVs AVg (Ck.b p6) 1 rfl (AGq<|ATp rfl rfl ?_));obtain ⟨AOy,Kl,Y6⟩:=AGu Y3;refine AUs ATg ATq (Ck.o2 p5) Kl λ_ AOz Y7=>AGq<|ATp rfl rfl ?_;obtain ⟨Bb,Y8,Y9⟩:=AGu Y6;refine AW5 (m:=(w64<|A5 + 1)) ATe ATh (Ck.o2 p5) Y7 Kl Y8 λ_=>(AGq ?_);obtain ⟨Za,Zd⟩:=ifN Y9;refine Ao2 rfl rfl Za (AVa Akb rfl (Af7 [(.int .i64 Aa),(.int .i64 Aw),(.int .i64<|Ak / 2 ^ Int.toNat Aa),(.int .i64<|Ax / 2 ^ Int.toNat Aa),(.int .i64<|Bb / 2 ^ Int.toNat Aa)] ATh rfl rfl rfl (Ck.b p0) (Nat.le_of_ble_eq_true rfl) rfl λAO0 Ze Zf=>AZ4<|AGq<|AGq<|AGq ?_));have Gx:=Ck.sb p0 Zf Ze rfl;refine Abi [(.int .i64 Aa),(.int .i64 Aw),(.int .i64<|Ak / 2 ^ Int.toNat Aa),(.int .i64<|Ax / 2 ^ Int.toNat Aa),(.int .i64<|Bb / 2 ^ Int.toNat Aa)] Adf rfl rfl (Gx.b p0).agg ?_;obtain ⟨Zg,Zh,Zj⟩:=AGu Zd;refine ATm (K':=(λxr h'=> ∃ x:(LiI) × (LiI),(x.1,x.2)=Zg/\xr= .tuple #[]/\Kst h h' ((Gx.L.set 5<|aO2 (cI .i64) 61 2 Ah Ai Aj Ab x.1).set 4 (aO2 (cI .i64) 61 2 Ad Ae Af Ac x.2)))) trivial rfl ?_ λAO1 AO2 Zk=>?_
      ·refine cwf (l:=[_,_,_,_]) Tryz.func114 rfl rfl (AGt<|AZa Gx [(.int .i64 Aa),(.int .i64 Aw),(.int .i64<|Ak / 2 ^ Int.toNat Aa),(.int .i64<|Ax / 2 ^ Int.toNat Aa),(.int .i64<|Bb / 2 ^ Int.toNat Aa)] λAO3 AO4 AO5 Bg=>AZ4<|AGq<|AGq<|AU9 Ag2 ATh (Bg.b p0) 2 rfl (AU9 Akb ATh (Bg.b p0) 4 rfl (Aai rfl rfl (AU9 Agd ATh (Bg.b p0) 3 rfl (AU9 Agd ATh (Bg.b p0) 3 rfl (Aai rfl rfl (AVm rfl rfl ?_)))))));obtain ⟨Zl,Zm,Zn⟩:=AGu Zh;refine ATm (K':=(λxr h'=> ∃ x:(Int),x=Zl/\xr=(.int .i64 x)/\Kst h h' (Bg.L))) trivial rfl ?_ λAO6 AO7 Zo=>?_
       ·refine cwf (l:=[_,_]) Tryz.func167 rfl rfl (AGt<|AT7<|AGq<|AGq<|AUw rfl (AU9 Aaw AT8 (Bg.b p7) 0 rfl ?_));obtain ⟨Zp,Zq⟩:=ifN Zm;refine AZh rfl rfl Zp (AVm rfl rfl (Abm rfl rfl AGr (AG1<|AG6<|⟨_,AS9,((AZw .and .i64 (w64<|(w64<|(Ak / 2 ^ Int.toNat Aa) * (Bb / 2 ^ Int.toNat Aa)) - (w64<|(Ax / 2 ^ Int.toNat Aa) * (Ax / 2 ^ Int.toNat Aa)))<|w64<|(w64<|1 * 2 ^ Int.toNat Ag) - 1):(Int)),?_,rfl,?_⟩)))
        ·exact AGs Zq
        ·exact Bg
       obtain ⟨Km,Zr,rfl,Kn⟩:=Zo;refine ⟨trivial,?_⟩;subst Zr;obtain ⟨Zs,Zt,Zu⟩:=AGu Zn;refine ATm (K':=(λxr h'=> ∃ x:(Int),x=Zs/\xr=(.int .i64 x)/\Kst h h' (Kn.L))) trivial rfl ?_ λAO8 AO9 Zv=>?_
       ·refine cwf (l:=[_,_]) Tryz.func113 rfl rfl (AGt<|AT7<|AGq<|Aqg (κ:= .i64) [Km] ATe Acs rfl rfl trivial tt2 rfl rfl rfl rfl λZw Zx APa Zy Zz Z1 Z4=>?_);have Gy:=Kn.no Zz (AX4 Z1 Z4) Zy;refine An7 (c:=(cI .i64)) (el:=2) [[Zw]] [Zx] [([Km]:List Int)] ATg Ae8 rfl rfl trivial tt2 rfl rfl rfl rfl (AY9 (Gy.o p0).isOne Akf) ⟨(Gy.o p0),trivial⟩ AT5 λAPb APc APd AAa AAb AAc=>?_;have Gz:=(((Gy.a0).grab p0)).lit AAb AAa (by simpa using AAc);refine AGq<|AUw rfl (AU9 Aaw AT8 (Gz.b p9) 0 rfl ?_);obtain ⟨AAd,AAe⟩:=ifN Zt;refine AZh rfl rfl AAd ?_;obtain ⟨⟨APe,APf⟩,AAf,Ko⟩:=AGu AAe;dsimp only at Ko;refine Aeq rfl (Aij (Gz.o2 p0).rd AAf) λAPg APh AAg AAh=>?_;obtain ⟨APi,APj,APk,APl,rfl,AAi,AAj⟩:=AAh;refine AGq<|AUh rfl rfl (AUh rfl rfl (ATu<|AT7<|AGq ?_));have G3:=Gz.no2 AAg AAj AAi;obtain ⟨APm,Kp,AAk⟩:=AGu Ko;refine AUs ATg ATq (G3.o2 p0) Kp λ_ APn AAl=>?_;obtain ⟨AAm,AAn,AAo⟩:=AGu AAk;refine AW5 (m:=0) ATe ATh (G3.o2 p0) AAl Kp AAn λ_=>(AG1<|AG6<|⟨_,AS9,(AAm:(Int)),?_,rfl,?_⟩)
        ·exact AGs AAo
        ·exact G3.sel [3,4,5,6,7,8,9,10,11] AGr
       obtain ⟨Kr,AAp,rfl,Kt⟩:=Zv;refine ⟨trivial,?_⟩;subst AAp;refine AT7<|AGq<|ATp rfl rfl (AG1<|AGx<|AZp 81129638414606681695786857676288 Zu (λx=>[(9,(.int .i64 x.1))]) (λx=>(Kt.L.set 6<|aO2 (cI .i64) 61 2 Ah Ai Aj Ab x.2.1).set 5 (aO2 (cI .i64) 61 2 Ad Ae Af Ac x.2.2)) Kt ⟨rfl,trivial⟩ ?_);rintro ⟨Bv,AAq,AAr⟩ APo APp APq Am G4 AAs;unfold Abe at G4;refine AGv<|AGt<|AGq<|AGq<|AUw rfl (AU9 AVs AVg (Am.b p7) 1 rfl (AUb ATg rfl (Am.o2 p6).rd (ATz rfl rfl (AGw<|⟨_,rfl,λG5=>?_,λG5=>?_⟩))))
       ·refine AG5<|q_t<|AGv<|AGx<|AGv<|AWg<|AGq<|AUw rfl (AU9 AVs AVg (Am.b p7) 1 rfl (AGq ?_));obtain ⟨APr,Ku,AAt⟩:=AGu<|AT9 G4 G5;refine AUs ATg ATq (Am.o2 p6) Ku λ_ APs AAu=>AGq ?_;obtain ⟨Kv,AAv,AAw⟩:=AGu AAt;refine AW5 (m:=A5) ATe ATh (Am.o2 p6) AAu Ku AAv λ_=>(AGq ?_);obtain ⟨AAx,AAy⟩:=ifN AAw;refine Ao2 rfl rfl AAx (AGq<|AUw rfl (AU9 AVs AVg (Am.b p7) 1 rfl (AGq<|ATp rfl rfl ?_)));obtain ⟨APt,Kw,AAz⟩:=AGu AAy;refine AUs ATg ATq (Am.o2 p6) Kw λ_ APu AA0=>AGq ?_;obtain ⟨Kx,AA1,AA2⟩:=AGu AAz;refine AW5 (m:=(w64<|A5 + 1)) ATe ATh (Am.o2 p6) AA0 Kw AA1 λ_=>(AGq ?_);obtain ⟨AA3,AA4⟩:=ifN AA2;refine Ao2 rfl rfl AA3 (ATu<|AT7<|AGq<|AU9 Agd ATh (Am.b p0) 3 rfl (AGq<|Aai rfl rfl (AU9 Akb ATh (Am.b p0) 4 rfl (AGq<|Aai rfl rfl (AVm rfl rfl ?_)))));obtain ⟨AA5,AA6,AA7⟩:=AGu AA4;refine ATm (K':=(λxr h'=> ∃ x:(Int),x=AA5/\xr=(.int .i64 x)/\Kst h h' (Am.L))) trivial rfl ?_ λAPv APw AA8=>?_
        ·refine cwf (l:=[_,_]) Tryz.func167 rfl rfl (AGt<|AT7<|AGq<|AGq<|AUw rfl (AU9 Aaw AT8 (Am.b p7) 0 rfl ?_));obtain ⟨AA9,ABa⟩:=ifN AA6;refine AZh rfl rfl AA9 (AVm rfl rfl (Abm rfl rfl AGr (AG1<|AG6<|⟨_,AS9,((AZw .and .i64 (w64<|(w64<|(Ax / 2 ^ Int.toNat Aa) * (Kx / 2 ^ Int.toNat Aa)) - (w64<|(Bb / 2 ^ Int.toNat Aa) * (Kv / 2 ^ Int.toNat Aa)))<|w64<|(w64<|1 * 2 ^ Int.toNat Ag) - 1):(Int)),?_,rfl,?_⟩)))
         ·exact AGs ABa
         ·exact Am
        obtain ⟨ABb,ABc,rfl,Cm⟩:=AA8;refine ⟨trivial,?_⟩;subst ABc;refine AGq<|Aai rfl rfl (AT7<|AGq<|AU9 Agd ATh (Cm.b p0) 3 rfl (AGq<|Aai rfl rfl (AU9 Ag2 ATh (Cm.b p0) 2 rfl (AGq<|Aai rfl rfl (AVm rfl rfl ?_)))));obtain ⟨ABd,ABe,ABf⟩:=AGu AA7;refine ATm (K':=(λxr h'=> ∃ x:(Int),x=ABd/\xr=(.int .i64 x)/\Kst h h' (Cm.L))) trivial rfl ?_ λAPx APy ABg=>?_
        ·refine cwf (l:=[_,_]) Tryz.func167 rfl rfl (AGt<|AT7<|AGq<|AGq<|AUw rfl (AU9 Aaw AT8 (Cm.b p7) 0 rfl ?_));obtain ⟨ABh,ABi⟩:=ifN ABe;refine AZh rfl rfl ABh (AVm rfl rfl (Abm rfl rfl AGr (AG1<|AG6<|⟨_,AS9,((AZw .and .i64 (w64<|(w64<|(Ax / 2 ^ Int.toNat Aa) * (Kv / 2 ^ Int.toNat Aa)) - (w64<|(Ak / 2 ^ Int.toNat Aa) * (Kx / 2 ^ Int.toNat Aa)))<|w64<|(w64<|1 * 2 ^ Int.toNat Ag) - 1):(Int)),?_,rfl,?_⟩)))
         ·exact AGs ABi
         ·exact Cm
        obtain ⟨ABj,ABk,rfl,G6⟩:=ABg;refine ⟨trivial,?_⟩;subst ABk;refine AGq<|Aai rfl rfl (AT7<|AGq<|AGq<|AGq<|AGq<|AGq ?_);obtain ⟨ABl,ABm,ABn⟩:=AGu ABf;refine ATm (K':=(λxr h'=> ∃ x:(Int),x=ABl/\xr=(.int .i64 x)/\Kst h h' (G6.L))) trivial rfl ?_ λAPz AP0 ABo=>?_
        ·refine cwf (l:=[_,_]) Tryz.func167 rfl rfl (AGt<|AT7<|AGq<|AGq<|AUw rfl (AU9 Aaw AT8 (G6.b p7) 0 rfl ?_));obtain ⟨ABp,ABq⟩:=ifN ABm;refine AZh rfl rfl ABp (AVm rfl rfl (Abm rfl rfl AGr (AG1<|AG6<|⟨_,AS9,((AZw .and .i64 (w64<|ABb * Kr)<|w64<|(w64<|1 * 2 ^ Int.toNat Ag) - 1):(Int)),?_,rfl,?_⟩)))
         ·exact AGs ABq
         ·exact G6
        obtain ⟨G7,ABr,rfl,Bw⟩:=ABo;refine ⟨trivial,?_⟩;subst ABr;obtain ⟨ABs,ABt,ABu⟩:=AGu ABn;refine ATm (K':=(λxr h'=> ∃ x:(LiI) × (LiI),(x.1,x.2)=ABs/\xr= .tuple #[]/\Kst h h' ((Bw.L.set 6<|aO2 (cI .i64) 61 2 Ah Ai Aj Ab x.1).set 5 (aO2 (cI .i64) 61 2 Ad Ae Af Ac x.2)))) trivial rfl ?_ λAP1 AP2 ABv=>?_
        ·refine cwf (l:=[_,_,_,_]) Tryz.func166 rfl rfl (AGv<|AGv<|AWg<|AGq<|AUw rfl (AU9 AVs AVg (Bw.b p7) 1 rfl (AGq<|AUw rfl (AU9 Ah3 AVg (Bw.b p7) 2 rfl (Aqj Aax Au7 rfl trivial tt2 rfl (Bw.o2 p6).isOne (Bw.o2 p5).isOne λAP3 AP4 ABw ABx ABy=>Am6 Aax rfl (AGq<|AGw<|AGx ?_))))));have Ky:=Bw.nb ABx ABy ABw;refine AZp 4503599610595840 ABt (λx=>[(24,(.int .i64 x.1))]) (λx=>(Ky.L.set 7<|aO2 (cI .i64) 61 2 Ah Ai Aj Ab x.2.1).set 6 (aO2 (cI .i64) 61 2 Ad Ae Af Ac x.2.2)) Ky ⟨rfl,trivial⟩ ?_;rintro ⟨Kz,AP5,ABz⟩ AP6 AP7 AP8 Aq G8 AB0;unfold AXt at G8;refine AGt<|ATz rfl rfl (AGw<|AGv<|⟨_,rfl,λG9=>?_,λG9=>?_⟩)
         ·refine AG5<|q_t<|AGv<|AGx<|AGt ?_;have La:=AT9 G8 G9;by_cases Hb:Kz=0
          ·refine Amv 0 Aax rfl rfl Hb AGr (AT1 AVg rfl ((Aq.b p0).cell (i:=0) rfl) (AT7<|AGq<|AUb ATg rfl (Aq.o2 p7).rd (AGq<|AGw<|AGx<|AZp 2251798739945472 (ifT La Hb) (λx=>[(30,(.int .i64 x.1))]) (λx=>Aq.L.set 7<|aO2 (cI .i64) 61 2 Ah Ai Aj Ab x.2) Aq ⟨rfl,trivial⟩ ?_)));rintro ⟨Hc,AP9⟩ AQa AQb AQc Bh Hd AB1;unfold Aa8 at Hd;refine AGt<|ATz rfl rfl (AGw<|AGv<|⟨_,rfl,λHe=>?_,λHe=>?_⟩)
           ·refine AG5<|q_t<|AGv<|AGx<|AGt ?_;obtain ⟨AQd,Df,AB2⟩:=AGu<|AT9 Hd He;refine AUs ATg ATq (Bh.o2 p7) Df λ_ AQe Hf=>AG1<|AWg<|AGq<|AGq<|AGq<|AGq<|AGq ?_;obtain ⟨AB3,Lb,AB4⟩:=AGu AB2;refine AW5 (m:=Hc) ATe ATh (Bh.o2 p7) Hf Df Lb λ_=>(AGq<|AGq<|AGq ?_);obtain ⟨AB5,AB6,AB7⟩:=AGu AB4;refine AW5 (m:=Hc) ATe ATh (Bh.o2 p7) Hf Df AB6 λ_=>(Aai rfl rfl (ATp rfl rfl ?_));obtain ⟨AB8,AB9,ACa⟩:=AGu AB7;refine ATm (K':=(λxr h'=> ∃ x:(Int),x=AB8/\xr=(.int .i64 x)/\Kst h h' (Bh.L))) trivial rfl ?_ λAQf AQg ACb=>?_
            ·refine cwf (l:=[_,_]) Tryz.func167 rfl rfl (AGt<|AT7<|AGq<|AGq<|AUw rfl (AU9 Aaw AT8 (Bh.b p8) 0 rfl ?_));obtain ⟨ACc,ACd⟩:=ifN AB9;refine AZh rfl rfl ACc (AVm rfl rfl (Abm rfl rfl AGr (AG1<|AG6<|⟨_,AS9,((AZw .and .i64 (w64<|AB3 + (w64<|G7 * AB5))<|w64<|(w64<|1 * 2 ^ Int.toNat Ag) - 1):(Int)),?_,rfl,?_⟩)))
             ·exact AGs ACd
             ·exact Bh
            obtain ⟨AQh,ACe,rfl,ACf⟩:=ACb;refine ⟨trivial,?_⟩;subst ACe;refine AZ7 (m:=Hc) ACf p7 ATe ATh Hf Df Lb (λ_=>rfl) λ_ AQi ACg=>ATr<|q_b<|q_t<|ATc<|ATp rfl rfl (AGq<|AGw ?_);exact ⟨_,(AGs ACa).symm,ACg,rfl,trivial⟩
           ·refine ATk<|ATl<|ATl<|AUi<|q_b<|q_t<|ATc<|ATp rfl rfl (AGq<|AGw ?_);exact ⟨_,(AGs<|AB1 _ (AGs<|AUa Hd He).symm).symm,Bh,rfl,trivial⟩
          ·have Lc:=ifF La Hb;by_cases Hg:Kz=1
           ·refine Amv 1 Aax rfl rfl Hg AGr (AT1 AVg rfl ((Aq.b p0).cell (i:=1) rfl) (AT7<|AGq<|AUb ATg rfl (Aq.o2 p6).rd (AGq<|AGw<|AGx<|AZp 2251798739945472 (ifT Lc Hg) (λx=>[(30,(.int .i64 x.1))]) (λx=>Aq.L.set 6<|aO2 (cI .i64) 61 2 Ad Ae Af Ac x.2) Aq ⟨rfl,trivial⟩ ?_)));rintro ⟨Hh,AQj⟩ AQk AQl AQm Bi Hj ACh;unfold Aa9 at Hj;refine AGt<|ATz rfl rfl (AGw<|AGv<|⟨_,rfl,λHk=>?_,λHk=>?_⟩)
            ·refine AG5<|q_t<|AGv<|AGx<|AGt ?_;obtain ⟨AQn,Dg,ACi⟩:=AGu<|AT9 Hj Hk;refine AUs ATg ATq (Bi.o2 p6) Dg λ_ AQo Hl=>AG1<|AWg<|AGq<|AGq<|AGq<|AGq<|AGq ?_;obtain ⟨ACj,Ld,ACk⟩:=AGu ACi;refine AW5 (m:=Hh) ATe ATh (Bi.o2 p6) Hl Dg Ld λ_=>(AGq<|AGq<|AGq ?_);obtain ⟨ACl,ACm,ACn⟩:=AGu ACk;refine AW5 (m:=Hh) ATe ATh (Bi.o2 p6) Hl Dg ACm λ_=>(Aai rfl rfl (ATp rfl rfl ?_));obtain ⟨ACo,ACp,ACq⟩:=AGu ACn;refine ATm (K':=(λxr h'=> ∃ x:(Int),x=ACo/\xr=(.int .i64 x)/\Kst h h' (Bi.L))) trivial rfl ?_ λAQp AQq ACr=>?_
             ·refine cwf (l:=[_,_]) Tryz.func167 rfl rfl (AGt<|AT7<|AGq<|AGq<|AUw rfl (AU9 Aaw AT8 (Bi.b p8) 0 rfl ?_));obtain ⟨ACs,ACt⟩:=ifN ACp;refine AZh rfl rfl ACs (AVm rfl rfl (Abm rfl rfl AGr (AG1<|AG6<|⟨_,AS9,((AZw .and .i64 (w64<|ACj + (w64<|G7 * ACl))<|w64<|(w64<|1 * 2 ^ Int.toNat Ag) - 1):(Int)),?_,rfl,?_⟩)))
              ·exact AGs ACt
              ·exact Bi
             obtain ⟨AQr,ACu,rfl,ACv⟩:=ACr;refine ⟨trivial,?_⟩;subst ACu;refine AZ7 (m:=Hh) ACv p6 ATe ATh Hl Dg Ld (λ_=>rfl) λ_ AQs ACw=>ATr<|q_b<|q_t<|ATc<|ATp rfl rfl (AGq<|AGw ?_);exact ⟨_,(AGs ACq).symm,ACw,rfl,trivial⟩
            ·refine ATk<|ATl<|ATl<|AUi<|q_b<|q_t<|ATc<|ATp rfl rfl (AGq<|AGw ?_);exact ⟨_,(AGs<|ACh _ (AGs<|AUa Hj Hk).symm).symm,Bi,rfl,trivial⟩
           ·have ACx:=ifF Lc Hg;cases ACx
         ·refine ATk<|ATl<|ATl<|AUi<|q_t<|AGt<|AGq<|AUw rfl (AU9 AVs AVg (Aq.b p8) 1 rfl (AGq ?_));obtain ⟨AQt,Le,ACy⟩:=AGu<|AB0 _ (AGs<|AUa G8 G9).symm;refine AUs ATg ATq (Aq.o2 p7) Le λ_ AQu Lf=>AUu ATe rfl ((Aq.o2 p7).rowI Lf Le) (AGq<|AGw<|AGx ?_);have Hm:=Aq.sel [1,2,3,4,5,6,7,8,9] AGr;dsimp only [AY6,Acl] at Hm;refine AZp 2475880077417839045191413760 ACy (λx=>[(60,(.int .i64 x.1))]) (λx=>Hm.L.set 6<|aO2 (cI .i64) 61 2 Ah Ai Aj Ab x.2) Hm ⟨rfl,trivial⟩ ?_;rintro ⟨AQv,ACz⟩ AQw Bx AQx Ar Hn AC0;unfold Aba at Hn;refine AGt<|ATz rfl rfl (AGw<|AGv<|⟨_,rfl,λHo=>?_,λHo=>?_⟩)
          ·refine AG5<|q_t<|AGv<|AGx<|AGt<|AGq ?_;obtain ⟨AQy,AC1,AC2⟩:=AGu<|AT9 Hn Ho;obtain ⟨AC3,AC4,AC5⟩:=AGu AC2;refine AW5 (m:=A5) ATe ATh (Ar.o2 p6) Lf AC1 AC4 λ_=>(ATu<|AG1<|AVl (λh'=>UpT [] Bx h') AG3 ?_);have Bj:UpT [] Bx Bx:=UpT.start all_nil;refine AGq<|AUw rfl (AVa AVs rfl (AVe AVg rfl Bj (λh' hb=>((Ar.b p7).ext hb.ext).cell (i:=1) rfl) (AGq ?_)));obtain ⟨AQz,By,AC6⟩:=AGu AC5;refine AUy ATg rfl (Ar.o2 p6) rfl By λAQ0 AQ1 AQ2 AC7 AC8=>AVe ATq rfl Bj (λh' hb=>ATw AC8 hb.ext) (AGq<|AGq<|AGq<|AUw rfl (AVa AVs rfl (AVe AVg rfl Bj (λh' hb=>((Ar.b p7).ext hb.ext).cell (i:=1) rfl) (AGq<|AUy ATg rfl (Ar.o2 p6) rfl By λAQ3 AQ4 AQ5 AC9 ADa=>AVe ATq rfl Bj (λh' hb=>ATw ADa hb.ext) (AGq ?_)))));obtain ⟨ADb,Dh,ADc⟩:=AGu AC6;refine AU7 (m:=Bv) ATe rfl (Ar.o2 p6) AC9 By rfl Dh λAQ6 ADd=>?_;obtain ⟨AQ7,ADe,ADf⟩:=(Ar.o2 p6).cells ADd By Dh;obtain rfl:=ADe;refine AVe ATh rfl Bj (λh' hb=>ATw (ADf 0 _ rfl) hb.ext) (AGq<|AGq<|Aai rfl rfl (ATp rfl rfl ?_));obtain ⟨ADg,ADh,ADi⟩:=AGu ADc;have ADj:UpT [] Bx Bx:=UpT.start all_nil;refine ATm (K':=(λxr h'=> ∃ x:(Int),x=ADg/\xr=(.int .i64 x)/\Kst h h' (Ar.L)/\UpT [] Bx h')) Bj rfl ?_ λAQ8 AQ9 ADk=>?_
           ·refine cwf (l:=[_,_]) Tryz.func167 rfl rfl (AGt<|AT7<|AGq<|AGq<|AUw rfl (AVa Aaw rfl (AT1 AT8 rfl ((Ar.b p7).cell (i:=0) rfl) ?_)));obtain ⟨ADl,ADm⟩:=ifN ADh;refine AZh rfl rfl ADl (AVm rfl rfl (Abm rfl rfl AGr (AG1<|AG6<|⟨_,AS9,((AZw .and .i64 (w64<|ADb + (w64<|G7 * AC3))<|w64<|(w64<|1 * 2 ^ Int.toNat Ag) - 1):(Int)),?_,rfl,?_,?_⟩)))
            ·exact AGs ADm
            ·exact Ar
            ·exact ADj
           obtain ⟨ADn,ADo,rfl,Lg,ADp⟩:=ADk;refine ⟨(Bj.then ADp all_nil),?_⟩;subst ADo;refine AU7 (m:=Bv) ATe rfl (Ar.o2 p6) AC7 By rfl Dh λARa ADq=>AYs (m:=Bv) (AX9 ATh rfl rfl rfl) (Lg.o2 p6) ADq By Dh (show ((cI .i64)).rep _ ADn _ from rfl) λARb ADr ADs=>ATr<|q_b<|q_t<|ATc<|ATp rfl rfl (AGq<|AGw ?_);exact ⟨_,(AGs ADi).symm,(Lg.uO2 p6 ADs ADr),rfl,trivial⟩
          ·refine ATk<|ATl<|ATl<|AUi<|⟨_,AZ5,((ACz,ABz):(LiI) × (LiI)),?_,rfl,?_⟩
           ·exact AGs<|AC0 _ (AGs<|AUa Hn Ho).symm
           ·exact Ar
        obtain ⟨⟨ARc,ARd⟩,ADt,rfl,Hq⟩:=ABv;refine ⟨trivial,?_⟩;subst ADt;refine AGw<|ATc<|AGq<|AGq<|AGq<|ATp rfl rfl (AGq<|AGq ?_);obtain ⟨ADu,ADv,ADw⟩:=AGu ABu;refine ATm (K':=(λxr h'=> ∃ x:(Int),x=ADu/\xr=(.int .i64 x)/\Kst h h' (Hq.L))) trivial rfl ?_ λARe ARf ADx=>?_
        ·refine cwf (l:=[_,_]) Tryz.func167 rfl rfl (AGt<|AT7<|AGq<|AGq<|AUw rfl (AU9 Aaw AT8 (Hq.b p7) 0 rfl ?_));obtain ⟨ADy,ADz⟩:=ifN ADv;refine AZh rfl rfl ADy (AVm rfl rfl (Abm rfl rfl AGr (AG1<|AG6<|⟨_,AS9,((AZw .and .i64 (w64<|ABj * Kr)<|w64<|(w64<|1 * 2 ^ Int.toNat Ag) - 1):(Int)),?_,rfl,?_⟩)))
         ·exact AGs ADz
         ·exact Hq
        obtain ⟨Hr,AD0,rfl,Bz⟩:=ADx;refine ⟨trivial,?_⟩;subst AD0;obtain ⟨AD1,AD2,AD3⟩:=AGu ADw;refine ATm (K':=(λxr h'=> ∃ x:(LiI) × (LiI),(x.1,x.2)=AD1/\xr= .tuple #[]/\Kst h h' ((Bz.L.set 6<|aO2 (cI .i64) 61 2 Ah Ai Aj Ab x.1).set 5 (aO2 (cI .i64) 61 2 Ad Ae Af Ac x.2)))) trivial rfl ?_ λARg ARh AD4=>?_
        ·refine cwf (l:=[_,_,_,_]) Tryz.func166 rfl rfl (AGv<|AGv<|AWg<|AGq<|AUw rfl (AU9 AVs AVg (Bz.b p7) 1 rfl (AGq<|AUw rfl (AU9 Ah3 AVg (Bz.b p7) 2 rfl (Aqj Aax Au7 rfl trivial tt2 rfl (Bz.o2 p6).isOne (Bz.o2 p5).isOne λARi ARj AD5 AD6 AD7=>Am6 Aax rfl (AGq<|AGw<|AGx ?_))))));have Lh:=Bz.nb AD6 AD7 AD5;refine AZp 4503599610595840 AD2 (λx=>[(24,(.int .i64 x.1))]) (λx=>(Lh.L.set 7<|aO2 (cI .i64) 61 2 Ah Ai Aj Ab x.2.1).set 6 (aO2 (cI .i64) 61 2 Ad Ae Af Ac x.2.2)) Lh ⟨rfl,trivial⟩ ?_;rintro ⟨Li,ARk,AD8⟩ ARl ARm ARn Au Hs AD9;unfold AXu at Hs;refine AGt<|ATz rfl rfl (AGw<|AGv<|⟨_,rfl,λHt=>?_,λHt=>?_⟩)
         ·refine AG5<|q_t<|AGv<|AGx<|AGt ?_;have Lj:=AT9 Hs Ht;by_cases Hu:Li=0
          ·refine Amv 0 Aax rfl rfl Hu AGr (AT1 AVg rfl ((Au.b p0).cell (i:=0) rfl) (AT7<|AGq<|AUb ATg rfl (Au.o2 p7).rd (AGq<|AGw<|AGx<|AZp 2251798739945472 (ifT Lj Hu) (λx=>[(30,(.int .i64 x.1))]) (λx=>Au.L.set 7<|aO2 (cI .i64) 61 2 Ah Ai Aj Ab x.2) Au ⟨rfl,trivial⟩ ?_)));rintro ⟨Hv,ARo⟩ ARp ARq ARr Bl Hw AEa;unfold Abb at Hw;refine AGt<|ATz rfl rfl (AGw<|AGv<|⟨_,rfl,λHx=>?_,λHx=>?_⟩)
           ·refine AG5<|q_t<|AGv<|AGx<|AGt ?_;obtain ⟨ARs,Di,AEb⟩:=AGu<|AT9 Hw Hx;refine AUs ATg ATq (Bl.o2 p7) Di λ_ ARt Hy=>AG1<|AWg<|AGq<|AGq<|AGq<|AGq<|AGq ?_;obtain ⟨AEc,Lk,AEd⟩:=AGu AEb;refine AW5 (m:=Hv) ATe ATh (Bl.o2 p7) Hy Di Lk λ_=>(AGq<|AGq<|AGq ?_);obtain ⟨AEe,AEf,AEg⟩:=AGu AEd;refine AW5 (m:=Hv) ATe ATh (Bl.o2 p7) Hy Di AEf λ_=>(Aai rfl rfl (ATp rfl rfl ?_));obtain ⟨AEh,AEi,AEj⟩:=AGu AEg;refine ATm (K':=(λxr h'=> ∃ x:(Int),x=AEh/\xr=(.int .i64 x)/\Kst h h' (Bl.L))) trivial rfl ?_ λARu ARv AEk=>?_
            ·refine cwf (l:=[_,_]) Tryz.func167 rfl rfl (AGt<|AT7<|AGq<|AGq<|AUw rfl (AU9 Aaw AT8 (Bl.b p8) 0 rfl ?_));obtain ⟨AEl,AEm⟩:=ifN AEi;refine AZh rfl rfl AEl (AVm rfl rfl (Abm rfl rfl AGr (AG1<|AG6<|⟨_,AS9,((AZw .and .i64 (w64<|AEc + (w64<|Hr * AEe))<|w64<|(w64<|1 * 2 ^ Int.toNat Ag) - 1):(Int)),?_,rfl,?_⟩)))
             ·exact AGs AEm
             ·exact Bl
            obtain ⟨ARw,AEn,rfl,AEo⟩:=AEk;refine ⟨trivial,?_⟩;subst AEn;refine AZ7 (m:=Hv) AEo p7 ATe ATh Hy Di Lk (λ_=>rfl) λ_ ARx AEp=>ATr<|q_b<|q_t<|ATc<|ATp rfl rfl (AGq<|AGw ?_);exact ⟨_,(AGs AEj).symm,AEp,rfl,trivial⟩
           ·refine ATk<|ATl<|ATl<|AUi<|q_b<|q_t<|ATc<|ATp rfl rfl (AGq<|AGw ?_);exact ⟨_,(AGs<|AEa _ (AGs<|AUa Hw Hx).symm).symm,Bl,rfl,trivial⟩
          ·have Ll:=ifF Lj Hu;by_cases Hz:Li=1
           ·refine Amv 1 Aax rfl rfl Hz AGr (AT1 AVg rfl ((Au.b p0).cell (i:=1) rfl) (AT7<|AGq<|AUb ATg rfl (Au.o2 p6).rd (AGq<|AGw<|AGx<|AZp 2251798739945472 (ifT Ll Hz) (λx=>[(30,(.int .i64 x.1))]) (λx=>Au.L.set 6<|aO2 (cI .i64) 61 2 Ad Ae Af Ac x.2) Au ⟨rfl,trivial⟩ ?_)));rintro ⟨Ia,ARy⟩ ARz AR0 AR1 Bm Ib AEq;unfold Abc at Ib;refine AGt<|ATz rfl rfl (AGw<|AGv<|⟨_,rfl,λIc=>?_,λIc=>?_⟩)
            ·refine AG5<|q_t<|AGv<|AGx<|AGt ?_;obtain ⟨AR2,Dj,AEr⟩:=AGu<|AT9 Ib Ic;refine AUs ATg ATq (Bm.o2 p6) Dj λ_ AR3 Id=>AG1<|AWg<|AGq<|AGq<|AGq<|AGq<|AGq ?_;obtain ⟨AEs,Lm,AEt⟩:=AGu AEr;refine AW5 (m:=Ia) ATe ATh (Bm.o2 p6) Id Dj Lm λ_=>(AGq<|AGq<|AGq ?_);obtain ⟨AEu,AEv,AEw⟩:=AGu AEt;refine AW5 (m:=Ia) ATe ATh (Bm.o2 p6) Id Dj AEv λ_=>(Aai rfl rfl (ATp rfl rfl ?_));obtain ⟨AEx,AEy,AEz⟩:=AGu AEw;refine ATm (K':=(λxr h'=> ∃ x:(Int),x=AEx/\xr=(.int .i64 x)/\Kst h h' (Bm.L))) trivial rfl ?_ λAR4 AR5 AE0=>?_
             ·refine cwf (l:=[_,_]) Tryz.func167 rfl rfl (AGt<|AT7<|AGq<|AGq<|AUw rfl (AU9 Aaw AT8 (Bm.b p8) 0 rfl ?_));obtain ⟨AE1,AE2⟩:=ifN AEy;refine AZh rfl rfl AE1 (AVm rfl rfl (Abm rfl rfl AGr (AG1<|AG6<|⟨_,AS9,((AZw .and .i64 (w64<|AEs + (w64<|Hr * AEu))<|w64<|(w64<|1 * 2 ^ Int.toNat Ag) - 1):(Int)),?_,rfl,?_⟩)))
              ·exact AGs AE2
              ·exact Bm
             obtain ⟨AR6,AE3,rfl,AE4⟩:=AE0;refine ⟨trivial,?_⟩;subst AE3;refine AZ7 (m:=Ia) AE4 p6 ATe ATh Id Dj Lm (λ_=>rfl) λ_ AR7 AE5=>ATr<|q_b<|q_t<|ATc<|ATp rfl rfl (AGq<|AGw ?_);exact ⟨_,(AGs AEz).symm,AE5,rfl,trivial⟩
            ·refine ATk<|ATl<|ATl<|AUi<|q_b<|q_t<|ATc<|ATp rfl rfl (AGq<|AGw ?_);exact ⟨_,(AGs<|AEq _ (AGs<|AUa Ib Ic).symm).symm,Bm,rfl,trivial⟩
           ·have AE6:=ifF Ll Hz;cases AE6
         ·refine ATk<|ATl<|ATl<|AUi<|q_t<|AGt<|AGq<|AUw rfl (AU9 AVs AVg (Au.b p8) 1 rfl (AGq ?_));obtain ⟨AR8,Lo,AE7⟩:=AGu<|AD9 _ (AGs<|AUa Hs Ht).symm;refine AUs ATg ATq (Au.o2 p7) Lo λ_ AR9 Lq=>AUu ATe rfl ((Au.o2 p7).rowI Lq Lo) (AGq<|AGw<|AGx ?_);have Ie:=Au.sel [1,2,3,4,5,6,7,8,9] AGr;dsimp only [AY6,Acl] at Ie;refine AZp 2475880077417839045191413760 AE7 (λx=>[(60,(.int .i64 x.1))]) (λx=>Ie.L.set 6<|aO2 (cI .i64) 61 2 Ah Ai Aj Ab x.2) Ie ⟨rfl,trivial⟩ ?_;rintro ⟨ASa,AE8⟩ ASb B3 ASc Av If AE9;unfold Abd at If;refine AGt<|ATz rfl rfl (AGw<|AGv<|⟨_,rfl,λIh=>?_,λIh=>?_⟩)
          ·refine AG5<|q_t<|AGv<|AGx<|AGt<|AGq ?_;obtain ⟨ASd,AFa,AFb⟩:=AGu<|AT9 If Ih;obtain ⟨AFc,AFd,AFe⟩:=AGu AFb;refine AW5 (m:=(w64<|A5 + 1)) ATe ATh (Av.o2 p6) Lq AFa AFd λ_=>(ATu<|AG1<|AVl (λh'=>UpT [] B3 h') AG3 ?_);have Bn:UpT [] B3 B3:=UpT.start all_nil;refine AGq<|AUw rfl (AVa AVs rfl (AVe AVg rfl Bn (λh' hb=>((Av.b p7).ext hb.ext).cell (i:=1) rfl) (AGq ?_)));obtain ⟨ASe,B4,AFf⟩:=AGu AFe;refine AUy ATg rfl (Av.o2 p6) rfl B4 λASf ASg ASh AFg AFh=>AVe ATq rfl Bn (λh' hb=>ATw AFh hb.ext) (AGq<|AGq<|AGq<|AUw rfl (AVa AVs rfl (AVe AVg rfl Bn (λh' hb=>((Av.b p7).ext hb.ext).cell (i:=1) rfl) (AGq<|AUy ATg rfl (Av.o2 p6) rfl B4 λASi ASj ASk AFi AFj=>AVe ATq rfl Bn (λh' hb=>ATw AFj hb.ext) (AGq ?_)))));obtain ⟨AFk,Dk,AFl⟩:=AGu AFf;refine AU7 (m:=Bv) ATe rfl (Av.o2 p6) AFi B4 rfl Dk λASl AFm=>?_;obtain ⟨ASm,AFn,AFo⟩:=(Av.o2 p6).cells AFm B4 Dk;obtain rfl:=AFn;refine AVe ATh rfl Bn (λh' hb=>ATw (AFo 0 _ rfl) hb.ext) (AGq<|AGq<|Aai rfl rfl (ATp rfl rfl ?_));obtain ⟨AFp,AFq,AFr⟩:=AGu AFl;have AFs:UpT [] B3 B3:=UpT.start all_nil;refine ATm (K':=(λxr h'=> ∃ x:(Int),x=AFp/\xr=(.int .i64 x)/\Kst h h' (Av.L)/\UpT [] B3 h')) Bn rfl ?_ λASn ASo AFt=>?_
           ·refine cwf (l:=[_,_]) Tryz.func167 rfl rfl (AGt<|AT7<|AGq<|AGq<|AUw rfl (AVa Aaw rfl (AT1 AT8 rfl ((Av.b p7).cell (i:=0) rfl) ?_)));obtain ⟨AFu,AFv⟩:=ifN AFq;refine AZh rfl rfl AFu (AVm rfl rfl (Abm rfl rfl AGr (AG1<|AG6<|⟨_,AS9,((AZw .and .i64 (w64<|AFk + (w64<|Hr * AFc))<|w64<|(w64<|1 * 2 ^ Int.toNat Ag) - 1):(Int)),?_,rfl,?_,?_⟩)))
            ·exact AGs AFv
            ·exact Av
            ·exact AFs
           obtain ⟨AFw,AFx,rfl,Lr,AFy⟩:=AFt;refine ⟨(Bn.then AFy all_nil),?_⟩;subst AFx;refine AU7 (m:=Bv) ATe rfl (Av.o2 p6) AFg B4 rfl Dk λASp AFz=>AYs (m:=Bv) (AX9 ATh rfl rfl rfl) (Lr.o2 p6) AFz B4 Dk (show ((cI .i64)).rep _ AFw _ from rfl) λASq AF0 AF1=>ATr<|q_b<|q_t<|ATc<|ATp rfl rfl (AGq<|AGw ?_);exact ⟨_,(AGs AFr).symm,(Lr.uO2 p6 AF1 AF0),rfl,trivial⟩
          ·refine ATk<|ATl<|ATl<|AUi<|⟨_,AZ5,((AE8,AD8):(LiI) × (LiI)),?_,rfl,?_⟩
           ·exact AGs<|AE9 _ (AGs<|AUa If Ih).symm
           ·exact Av
        obtain ⟨⟨ASr,ASs⟩,AF2,rfl,AF3⟩:=AD4;refine ⟨trivial,?_⟩;subst AF2;refine ATr<|q_b<|q_t<|ATc<|AGq<|ATp rfl rfl (AG1 ?_);exact ⟨_,(AGs AD3).symm,AF3,rfl,trivial⟩
       ·refine ATk<|ATl<|ATl<|AUi<|⟨_,AZ5,((AAq,AAr):(LiI) × (LiI)),?_,rfl,?_⟩
        ·exact AGs<|AAs _ (AGs<|AUa G4 G5).symm
        ·exact Am.sel [1,2,3,4,5,6,7,8] AGr
      obtain ⟨⟨AF4,AF5⟩,AF6,rfl,Ii⟩:=Zk;refine ⟨trivial,?_⟩;subst AF6;refine AZ4<|Abi [(.int .i64 Aa),(.int .i64 Aw),(.int .i64<|Ak / 2 ^ Int.toNat Aa),(.int .i64<|Ax / 2 ^ Int.toNat Aa),(.int .i64<|Bb / 2 ^ Int.toNat Aa)] Adf rfl rfl (Ii.b p0).agg (AVf [(.int .i64 Aa),(.int .i64 Aw),(.int .i64<|Ak / 2 ^ Int.toNat Aa),(.int .i64<|Ax / 2 ^ Int.toNat Aa),(.int .i64<|Bb / 2 ^ Int.toNat Aa)] Adf rfl rfl rfl rfl (by simp [isOne]) (Ii.b p1) λASt AF7 AF8=>AGw<|AG6 ?_);have Lv:=Ii.sb p1 AF8 AF7 rfl;refine ⟨_,AVn Adf rfl rfl (Lv.b p1),((Aa,Aw,(Ak / 2 ^ Int.toNat Aa),(Ax / 2 ^ Int.toNat Aa),(Bb / 2 ^ Int.toNat Aa),AF4,Ah,Ai,Aj,AF5):(Int) × (Int) × (Int) × (Int) × (Int) × (LiI) × LnA × LnN × LvA × (LiI)),?_,rfl,?_⟩
      ·exact AGs Zj
      ·exact Lv.sel [2,3,4,5,6,7] AGr
    obtain ⟨⟨Dl,Do,Dp,Dq,Dr,ASu,ASv,ASw,ASx,ASy⟩,AF9,rfl,AGa⟩:=Nl;refine ⟨trivial,?_⟩;subst AF9;refine AV7 AGa [(.int .i64 0),(.int .i64 0),(.int .i64 0),(.int .i64 0),(.int .i64 0)] Ank λASz AS0 AS1 Lw=>AVf [(.int .i64 Dl),(.int .i64 Do),(.int .i64 Dp),(.int .i64 Dq),(.int .i64 Dr)] Adf rfl rfl rfl rfl (by simp [isOne]) (Lw.b p0) λAS2 AGb AGc=>AZ4 ?_;have Ds:=Lw.sb p0 AGc AGb rfl;refine AU9 Aka Aq4 (Ds.b p2) 2 rfl (Abi [(.int .i64 Dl),(.int .i64 Do),(.int .i64 Dp),(.int .i64 Dq),(.int .i64 Dr)] Adf rfl rfl (Ds.b p0).agg ?_);obtain ⟨AGd,AGe⟩:=ifN Nk;refine Afp Anj Ank rfl rfl trivial tt2 (λ_=>rfl) rfl (show (Ak7).rep _ (Dl,Do,Dp,Dq,Dr) [(.int .i64 Dl),(.int .i64 Do),(.int .i64 Dp),(.int .i64 Dq),(.int .i64 Dr)] from rfl) (Ds.o p1) AGr AGd λAS3 AS4 AGf AS5 AGg AGh AGi=>AVa Aka rfl ?_;have Ij:=Ds.uo p1 AGh AGg AGi;refine Af7 [(.int .i64 2),(.slice none 0 0),AGf] Aq4 rfl rfl (Ij.o p1).isOne (Ij.b p2) (Nat.le_of_ble_eq_true rfl) rfl λAS6 AGj AGk=>AGw<|ATc ?_;have Lx:=Ij.sb p2 AGk AGj rfl;refine AGq<|AU9 Agc AT8 (Lx.b p0) 1 rfl (ATp rfl rfl (ATu<|ATr<|q_b<|q_t ?_));exact ⟨(_,_,_,_,_,_,_,_,_),(AGs AGe).symm,Lx.sel [1,2,3,4,5,6] AGr,rfl,trivial⟩
   ·refine ATk<|ATl<|ATl<|AUi<|q_t<|AGt<|AGq<|AUw rfl (AU9 Ah3 AVg (Bo.b p4) 2 rfl (AVa An3 rfl (Af7 [(.int .i64 2),Ac,D4] AVg rfl rfl (Bo.o2 p2).isOne (Bo.b p1) (Nat.le_of_ble_eq_true rfl) rfl λAS7 AGl AGm=>AZ4 ?_)));have Cn:=Bo.sb p1 AGm AGl rfl;refine Abi [(.int .i64 2),Ac,D4] Af1 rfl rfl (Cn.b p1).agg (AVf [(.int .i64 2),Ac,D4] Af1 rfl rfl rfl rfl (AY9 rfl (AY9 (Cn.o2 p2).isOne<|AY9 (Cn.o p0).isOne Akf)) (Cn.b p5) λAS8 AGn AGo=>AG1<|AG6 ?_);have Co:=Cn.sb p5 AGo AGn rfl;obtain rfl:=AGs<|Nh _ (AGs<|AUa D5 D6).symm;exact ⟨_,Al4 Af1 rfl rfl (Co.b p5),Co.x,_,_,_,_,_,_,rfl,(Co.o2 p2),(Co.o p0),Co.s.sel [2,0] AGr⟩
end Go.Proofs.YtkakafabeobahaaGreatDoor
