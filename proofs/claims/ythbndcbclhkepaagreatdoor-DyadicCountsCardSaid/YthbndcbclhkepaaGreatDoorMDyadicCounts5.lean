/-
  Texts of a proof, joined. Conditions stand in each statement.
-/
import Derived.Lib.SmallJoins
import Derived.Test.YthbndcbclhkepaaGreatDoorMDyadicCounts4
set_option linter.unusedVariables false
set_option linter.unusedSimpArgs false
namespace Go.Proofs.YthbndcbclhkepaaGreatDoor
open Go Go.QF
set_option maxRecDepth 100000
def part (n i:Nat) (G:AS5):List (List Int):=AVs n fun r=>if r < i then AVs n (G r) else []
theorem Ad9 {n i r:Nat} {G:AS5} (hr:r < i) (hn:r < n):(part n i G)[r]? =some (AVs n (G r)):=by
 unfold part;rw [ATx hn,if_pos hr]
theorem Aka {n i:Nat} {G:AS5} (hn:i < n):(part n i G)[i]? =some []:=by
 unfold part;rw [ATx hn,if_neg (Nat.lt_irrefl i)]
theorem Afo {n i r:Nat} {G:AS5} {g:Nat->Int} (hr:r < i):(part n i G).set r (AVs n g)=part n i (AUw G r g):=by
 unfold part;rw [AXv];refine AUf fun k _=>?_;by_cases h:k=r
 ·subst h;rw [if_pos rfl,if_pos hr,AUx]
 ·rw [if_neg h,AYe _ _ h]
theorem Ahy {n i:Nat} {G:AS5} {g:Nat->Int}:(part n i G).set i (AVs n g)=part n (i + 1) (AUw G i g):=by
 unfold part;rw [AXv];refine AUf fun k _=>?_;by_cases h:k=i
 ·subst h;rw [if_pos rfl,if_pos AGi,AUx]
 ·rw [if_neg h,AYe _ _ h];by_cases h2:k < i
  ·rw [if_pos h2,if_pos AGi]
  ·rw [if_neg h2,if_neg AGi]
theorem Af6 (n:Nat) (G:AS5):part n n G=tab n n G:=by
 unfold part;rw [Ahw];exact AUf fun k hk=>if_pos hk
theorem Af7 (n:Nat) (G:AS5):List.replicate n ([]:List Int)=part n 0 G:=by
 rw [AY1];exact AUf fun k _=>(if_neg AGi).symm
theorem Aoq {L:List Int} {q:Nat} (hq:q < 4611686018427387904):Ok (if (L.length:Int)<=((q:Nat):Int) then (some ((0:Int),((q:Nat):Int))) else ((gI L (w64 ((w64 (((q:Nat):Int) + 1)) - 1))).bind fun x=>(some ((w64 x),(w64 (((q:Nat):Int) + 1)))))) fun e=> ∃ p:Nat,e.2=(p:Int)/\p<=q + 1:=by
  refine ATt (fun h=>AGq ⟨q,rfl,AGi⟩) fun h=>?_;have hl:q < L.length:=by omega
  refine ATu (n:=q) (List.getElem?_eq_getElem hl) (by rw [AVj (x:=(q:Int) + 1) AGi AGi,wk AGi];omega) (AGq ⟨q + 1,?_,AGi⟩);rw [AVj (x:=(q:Int) + 1) AGi AGi];omega
theorem Amf (x:Int) (m:Nat) (hm:0 < m):0<=Int.tmod (w64 (IntKind.wrap .u8 x)) (m:Int)/\Int.tmod (w64 (IntKind.wrap .u8 x)) (m:Int) < m:=by
 have h1:IntKind.wrap .u8 x=x % 256:=by rw [IntKind.wrap_u8]
 rw [h1];have a1:=Int.emod_nonneg x (show (256:Int)≠0 by decide);have a2:=Int.emod_lt_of_pos x (show (0:Int) < 256 by decide);rw [wk AGi,Int.tmod_eq_emod_of_nonneg a1];exact ⟨Int.emod_nonneg _ AGi,Int.emod_lt_of_pos _ AGi⟩
def dgF (f:Nat->Int) (r c:Nat):Int:=if c=r then f r else 0
theorem BD4 {fuel N q0:Nat} {a1 Ac:Int} {L:List Int} (hN:w64 (1 + (Int.tmod (w64 a1) Ac))=(N:Int)) (Af:N<=8) (Ag:q0<=1000) (hf:100 < fuel):
    Ok (iter (fun s=>AW9 fuel a1 L Ac s.1 s.2.1 s.2.2) fuel (0,(q0:Int),(List.replicate (Int.toNat (w64 (1 + (Int.tmod (w64 a1) Ac)))) ([]:List Int)))) fun e=> ∃ (q:Nat) (f:Nat->Int),e=((q:Int),tab N N (dgF f))/\q<=q0 + N/\ ∀ r,r < N->1<=f r/\f r<=6:=by
 refine AT9 (fun i s=> ∃ (q:Nat) (f:Nat->Int),s=(((i:Nat):Int),(q:Int),part N i (dgF f))/\i<=N/\q<=q0 + i/\ ∀ r,r < i->1<=f r/\f r<=6) N ⟨q0,fun _=>0,by rw [hN,Int.toNat_natCast,Af7 N (dgF fun _=>0)];rfl,AGi,AGi,fun r hr=>by omega⟩ AGi fun i s hi hI=>?_;obtain ⟨q,f,rfl,hiN,hq,Ad⟩:=hI;unfold AW9;dsimp only;rw [List.length_replicate,hN,Int.toNat_natCast];refine ATt (fun h=>AUq AGi ?_) (fun h=>AGq ?_)
 ·have hi':i < N:=by omega
  refine ATu (Aka hi') rfl ?_;rw [AU2,AY1 N (0:Int),Ahy];refine ATu (Ad9 AGi hi') rfl ?_;rw [AUx];refine AGw (Q:=fun e:Int × Int=>0<=e.1/\e.1 < 6/\ ∃ p:Nat,e.2=(p:Int)/\p<=q + 1) (AGw (Aoq (L:=L) (q:=q) AGi) fun e he=>?_) fun e he=>ATu (ATx hi') rfl (AGq ⟨AGi,?_⟩)
  ·exact AGq ⟨(Amf _ 6 AGk).1,(Amf _ 6 AGk).2,he⟩
  ·obtain ⟨h1,h2,p,h3,h4⟩:=he;refine ⟨p,fun r=>if r=i then 1 + e.1 else f r,?_,AGi,AGi,fun r hr=>?_⟩
   ·rw [AVj (x:=(i:Int) + 1) AGi AGi,AVj (x:=1 + e.1) AGi AGi,h3,AU2,AU2,AXv,Afo AGi];refine congrArg (fun z=>(((i + 1:Nat):Int),(p:Int),z)) (AUf fun r hr=>?_);split
    ·refine AUf fun c hc=>?_;rw [AT2];unfold dgF;dsimp only;split
     ·next h=>subst h;rfl
     ·next h=>rw [AT2,if_neg h]
    ·rfl
   ·dsimp only;split
    ·omega
    ·exact Ad r AGi
 ·obtain rfl:i=N:=by omega
  exact ⟨q,f,by rw [Af6],AGi,Ad⟩
theorem BB9 {fuel N q0:Nat} {a1 Ac:Int} {L:List Int} (hN:w64 (1 + (Int.tmod (w64 a1) Ac))=(N:Int)) (Af:N<=8) (Ag:q0<=1000) (hf:100 < fuel):
    Ok (iter (fun s=>AWu fuel a1 L Ac s.1 s.2.1 s.2.2) fuel (0,(q0:Int),(List.replicate (Int.toNat (w64 (1 + (Int.tmod (w64 a1) Ac)))) ([]:List Int)))) fun e=> ∃ (q:Nat) (f:Nat->Int),e=((q:Int),tab N N (dgF f))/\q<=q0 + N/\ ∀ r,r < N->1<=f r/\f r<=9:=by
 refine AT9 (fun i s=> ∃ (q:Nat) (f:Nat->Int),s=(((i:Nat):Int),(q:Int),part N i (dgF f))/\i<=N/\q<=q0 + i/\ ∀ r,r < i->1<=f r/\f r<=9) N ⟨q0,fun _=>0,by rw [hN,Int.toNat_natCast,Af7 N (dgF fun _=>0)];rfl,AGi,AGi,fun r hr=>by omega⟩ AGi fun i s hi hI=>?_;obtain ⟨q,f,rfl,hiN,hq,Ad⟩:=hI;unfold AWu;dsimp only;rw [List.length_replicate,hN,Int.toNat_natCast];refine ATt (fun h=>AUq AGi ?_) (fun h=>AGq ?_)
 ·have hi':i < N:=by omega
  refine ATu (Aka hi') rfl ?_;rw [AU2,AY1 N (0:Int),Ahy];refine ATu (Ad9 AGi hi') rfl ?_;rw [AUx];refine AGw (Q:=fun e:Int × Int=>0<=e.1/\e.1 < 9/\ ∃ p:Nat,e.2=(p:Int)/\p<=q + 1) (AGw (Aoq (L:=L) (q:=q) AGi) fun e he=>?_) fun e he=>ATu (ATx hi') rfl (AGq ⟨AGi,?_⟩)
  ·exact AGq ⟨(Amf _ 9 AGk).1,(Amf _ 9 AGk).2,he⟩
  ·obtain ⟨h1,h2,p,h3,h4⟩:=he;refine ⟨p,fun r=>if r=i then 1 + e.1 else f r,?_,AGi,AGi,fun r hr=>?_⟩
   ·rw [AVj (x:=(i:Int) + 1) AGi AGi,AVj (x:=1 + e.1) AGi AGi,h3,AU2,AU2,AXv,Afo AGi];refine congrArg (fun z=>(((i + 1:Nat):Int),(p:Int),z)) (AUf fun r hr=>?_);split
    ·refine AUf fun c hc=>?_;rw [AT2];unfold dgF;dsimp only;split
     ·next h=>subst h;rfl
     ·next h=>rw [AT2,if_neg h]
    ·rfl
   ·dsimp only;split
    ·omega
    ·exact Ad r AGi
 ·obtain rfl:i=N:=by omega
  exact ⟨q,f,by rw [Af6],AGi,Ad⟩
theorem BCa {fuel N q0:Nat} {a1 Ac:Int} {L:List Int} (hN:w64 (1 + (Int.tmod (w64 a1) Ac))=(N:Int)) (Af:N<=8) (Ag:q0<=1000) (hf:100 < fuel):
    Ok (iter (fun s=>AWv fuel a1 L Ac s.1 s.2.1 s.2.2) fuel (0,(q0:Int),(List.replicate (Int.toNat (w64 (1 + (Int.tmod (w64 a1) Ac)))) ([]:List Int)))) fun e=> ∃ (q:Nat) (f:Nat->Int),e=((q:Int),tab N N (dgF f))/\q<=q0 + N/\ ∀ r,r < N->1<=f r/\f r<=1:=by
 refine AT9 (fun i s=> ∃ (q:Nat) (f:Nat->Int),s=(((i:Nat):Int),(q:Int),part N i (dgF f))/\i<=N/\q<=q0 + i/\ ∀ r,r < i->1<=f r/\f r<=1) N ⟨q0,fun _=>0,by rw [hN,Int.toNat_natCast,Af7 N (dgF fun _=>0)];rfl,AGi,AGi,fun r hr=>by omega⟩ AGi fun i s hi hI=>?_;obtain ⟨q,f,rfl,hiN,hq,Ad⟩:=hI;unfold AWv;dsimp only;rw [List.length_replicate,hN,Int.toNat_natCast];refine ATt (fun h=>AUq AGi ?_) (fun h=>AGq ?_)
 ·have hi':i < N:=by omega
  refine ATu (Aka hi') rfl ?_;rw [AU2,AY1 N (0:Int),Ahy];refine ATu (Ad9 AGi hi') rfl ?_;rw [AUx];refine AGw (Q:=fun e:Int × Int=>0<=e.1/\e.1 < 1/\ ∃ p:Nat,e.2=(p:Int)/\p<=q + 1) (AGw (Aoq (L:=L) (q:=q) AGi) fun e he=>?_) fun e he=>ATu (ATx hi') rfl (AGq ⟨AGi,?_⟩)
  ·exact AGq ⟨(Amf _ 1 AGk).1,(Amf _ 1 AGk).2,he⟩
  ·obtain ⟨h1,h2,p,h3,h4⟩:=he;refine ⟨p,fun r=>if r=i then 1 + e.1 else f r,?_,AGi,AGi,fun r hr=>?_⟩
   ·rw [AVj (x:=(i:Int) + 1) AGi AGi,AVj (x:=1 + e.1) AGi AGi,h3,AU2,AU2,AXv,Afo AGi];refine congrArg (fun z=>(((i + 1:Nat):Int),(p:Int),z)) (AUf fun r hr=>?_);split
    ·refine AUf fun c hc=>?_;rw [AT2];unfold dgF;dsimp only;split
     ·next h=>subst h;rfl
     ·next h=>rw [AT2,if_neg h]
    ·rfl
   ·dsimp only;split
    ·omega
    ·exact Ad r AGi
 ·obtain rfl:i=N:=by omega
  exact ⟨q,f,by rw [Af6],AGi,Ad⟩
theorem BCb {fuel N q0:Nat} {a1 Ac:Int} {L:List Int} (hN:w64 (1 + (Int.tmod (w64 a1) Ac))=(N:Int)) (Af:N<=8) (Ag:q0<=1000) (hf:100 < fuel):
    Ok (iter (fun s=>AWw fuel a1 L Ac s.1 s.2.1 s.2.2) fuel (0,(q0:Int),(List.replicate (Int.toNat (w64 (1 + (Int.tmod (w64 a1) Ac)))) ([]:List Int)))) fun e=> ∃ (q:Nat) (f:Nat->Int),e=((q:Int),tab N N (dgF f))/\q<=q0 + N/\ ∀ r,r < N->1<=f r/\f r<=2:=by
 refine AT9 (fun i s=> ∃ (q:Nat) (f:Nat->Int),s=(((i:Nat):Int),(q:Int),part N i (dgF f))/\i<=N/\q<=q0 + i/\ ∀ r,r < i->1<=f r/\f r<=2) N ⟨q0,fun _=>0,by rw [hN,Int.toNat_natCast,Af7 N (dgF fun _=>0)];rfl,AGi,AGi,fun r hr=>by omega⟩ AGi fun i s hi hI=>?_;obtain ⟨q,f,rfl,hiN,hq,Ad⟩:=hI;unfold AWw;dsimp only;rw [List.length_replicate,hN,Int.toNat_natCast];refine ATt (fun h=>AUq AGi ?_) (fun h=>AGq ?_)
 ·have hi':i < N:=by omega
  refine ATu (Aka hi') rfl ?_;rw [AU2,AY1 N (0:Int),Ahy];refine ATu (Ad9 AGi hi') rfl ?_;rw [AUx];refine AGw (Q:=fun e:Int × Int=>0<=e.1/\e.1 < 2/\ ∃ p:Nat,e.2=(p:Int)/\p<=q + 1) (AGw (Aoq (L:=L) (q:=q) AGi) fun e he=>?_) fun e he=>ATu (ATx hi') rfl (AGq ⟨AGi,?_⟩)
  ·exact AGq ⟨(Amf _ 2 AGk).1,(Amf _ 2 AGk).2,he⟩
  ·obtain ⟨h1,h2,p,h3,h4⟩:=he;refine ⟨p,fun r=>if r=i then 1 + e.1 else f r,?_,AGi,AGi,fun r hr=>?_⟩
   ·rw [AVj (x:=(i:Int) + 1) AGi AGi,AVj (x:=1 + e.1) AGi AGi,h3,AU2,AU2,AXv,Afo AGi];refine congrArg (fun z=>(((i + 1:Nat):Int),(p:Int),z)) (AUf fun r hr=>?_);split
    ·refine AUf fun c hc=>?_;rw [AT2];unfold dgF;dsimp only;split
     ·next h=>subst h;rfl
     ·next h=>rw [AT2,if_neg h]
    ·rfl
   ·dsimp only;split
    ·omega
    ·exact Ad r AGi
 ·obtain rfl:i=N:=by omega
  exact ⟨q,f,by rw [Af6],AGi,Ad⟩
theorem BCc {fuel N q0:Nat} {L:List Int} {F0:AS5} (Ag:N<=8) (Ah:q0<=1000) (Ad:∀ i j,i < N->j < N->(F0 i j).natAbs<=9) (hf:100 < fuel):
    Ok (iter (fun s=>AXa fuel L (tab N N F0) s.1 s.2.1 s.2.2) fuel (0,(q0:Int),tab N N F0)) fun e=> ∃ (q:Nat) (F:AS5),e=((q:Int),tab N N F)/\q<=q0 + 8 * N/\ ∀ i j,i < N->j < N->(F i j).natAbs<=9:=by
 refine AT9 (fun i s=> ∃ (q:Nat) (F:AS5),s=(((i:Nat):Int),(q:Int),tab N N F)/\i<=N/\q<=q0 + 8 * i/\ ∀ i j,i < N->j < N->(F i j).natAbs<=9) N ⟨q0,F0,rfl,AGi,AGi,Ad⟩ AGi fun i s hi hI=>?_;obtain ⟨q,F,rfl,hiN,hq,hF⟩:=hI;unfold AXa;dsimp only;rw [AT8];refine ATt (fun h=>?_) (fun h=>AGq ⟨q,F,rfl,AGi,hF⟩);have hi':i < N:=by omega
 refine AGw (AT9 (fun j s=> ∃ (p:Nat) (F:AS5),s=(((j:Nat):Int),(p:Int),tab N N F)/\j<=i/\p<=q + j/\ ∀ i j,i < N->j < N->(F i j).natAbs<=9) i (Q:=fun e=> ∃ (p:Nat) (F:AS5),e=((p:Int),tab N N F)/\p<=q + i/\ ∀ i j,i < N->j < N->(F i j).natAbs<=9) ⟨q,F,rfl,AGi,AGi,hF⟩ AGi fun j s hj hJ=>?_) fun e he=>?_
 ·obtain ⟨p,F,rfl,hji,hp,hF⟩:=hJ;unfold AZb;dsimp only;refine ATt (fun h=>?_) (fun h=>AGq ⟨p,F,rfl,AGi,hF⟩);have hj':j < i:=by omega
  refine ATu (AUc hi') rfl (AGw (Aoq (L:=L) (q:=p) AGi) fun e he=>ATu (ATx AGi) rfl ?_);obtain ⟨p2,h3,h4⟩:=he;rw [AU2,AU2,AXv,show (AVs N fun c=>if c=j then Int.tmod e.1 3 else F i c)=(List.range N).map fun c=>if c=j then Int.tmod e.1 3 else F i c from rfl,Aeu];refine ATu (AUc AGi) rfl (ATu (AUc hi') rfl (ATu (ATx AGi) rfl (ATu (ATx hi') rfl (AGq ⟨AGi,p2,?_⟩))));generalize Af:(AUw F i fun c=>if c=j then Int.tmod e.1 3 else F i c)=F1
  have hv:(Int.tmod e.1 3).natAbs<=9:=by
    have:=Int.natAbs_tmod e.1 3
    have h5:e.1.natAbs % (3:Int).natAbs < 3:=Nat.mod_lt _ AGk
    omega
  have hF1b:∀ i j,i < N->j < N->(F1 i j).natAbs<=9:=fun a b ha hb=>by
    subst Af
    rw [AT2]
    split
    · split
      · exact hv
      · exact hF i b hi' hb
    · exact hF a b ha hb
  refine ⟨AUw F1 j fun c=>if c=i then F1 i j else F1 j c,?_,AGi,AGi,fun a b ha hb=>?_⟩
  ·rw [wk AGi,h3,AU2,AU2,AXv,show (AVs N fun c=>if c=i then F1 i j else F1 j c)=(List.range N).map fun c=>if c=i then F1 i j else F1 j c from rfl,Aeu];rfl
  ·rw [AT2];split
   ·split
    ·exact hF1b i j hi' AGi
    ·exact hF1b j b AGi hb
   ·exact hF1b a b ha hb
 ·obtain ⟨p,F,rfl,hp,hF⟩:=he;exact AGq ⟨AGi,p,F,by rw [wk AGi];rfl,AGi,AGi,hF⟩
theorem A1x {fuel N:Nat} {b:Bool} (Ag:1<=N) (Ah:N<=8) (hf:100 < fuel):Ok (AX8 fuel (N:Int) b) fun e=> ∃ F,e=tab N N F/\ ∀ i j,i < N->j < N->(F i j).natAbs<=2:=by
 unfold AX8;refine AUq AGi ?_;rw [Int.toNat_natCast];refine AGw (AT9 (fun i s=> ∃ G:AS5,s=(((i:Nat):Int),part N i G)/\i<=N/\ ∀ r c,(G r c).natAbs<=2) N (Q:=fun e=> ∃ F,e=tab N N F/\ ∀ i j,i < N->j < N->(F i j).natAbs<=2) ⟨fun _ _=>0,by rw [Af7 N fun _ _=>0];rfl,AGi,fun _ _=>Nat.zero_le _⟩ AGi fun i s hi hI=>?_) fun e he=>AGq he;obtain ⟨G,rfl,hiN,hG⟩:=hI;unfold Ac5;dsimp only;rw [List.length_replicate,Int.toNat_natCast];refine ATt (fun h=>AUq AGi ?_) (fun h=>AGq ?_)
 ·have hi':i < N:=by omega
  refine ATu (Aka hi') rfl ?_;rw [AU2,AY1 N (0:Int),Ahy];refine ATu (Ad9 AGi hi') rfl ?_;rw [AUx];refine ATu (ATx hi') rfl ?_;rw [AU2,AU2,AXv,Afo AGi]
  have Ab:∀ r c,(AUw (AUw G i fun x=>0) i (fun c=>if c=i then 2 else 0) r c).natAbs<=2:=fun r c=>by
    rw [AT2]
    split
    · split <;> decide
    · rw [AT2]
      split
      · decide
      · exact hG r c
  generalize (AUw (AUw G i fun x=>0) i fun c=>if c=i then 2 else 0)=G1 at Ab;have wi:w64 ((i:Int) + 1)=((i + 1:Nat):Int):=by rw [wk AGi];omega
  refine AGw (Q:=fun k=>k=(i:Int) - 1∨k=(i:Int) - 2) ?_ fun k hk=>?_
  ·have w1:w64 ((i:Int) - 1)=(i:Int) - 1:=wk AGi;have w2:w64 ((i:Int) - 2)=(i:Int) - 2:=wk AGi;rw [w1,w2];exact ATt (fun _=>ATt (fun _=>ATt (fun _=>AGq (.inr rfl)) fun _=>AGq (.inl rfl)) fun _=>AGq (.inl rfl)) fun _=>AGq (.inl rfl)
  ·refine ATt (fun h=>?_) (fun h=>AGq ⟨AGi,G1,by rw [wi],AGi,Ab⟩);obtain ⟨k,rfl⟩:∃ q:Nat,k=q:=⟨k.toNat,AGi⟩;have hki:k < i:=by omega
   refine ATu (Ad9 AGi hi') rfl (ATu (Ad9 AGi AGi) rfl (ATu (ATx AGi) rfl ?_));rw [AU2,AU2,AXv,Afo AGi]
   have Ac:∀ r c,(AUw G1 i (fun c=>if c=k then -1 else G1 i c) r c).natAbs<=2:=fun r c=>by
     rw [AT2]
     split
     · split
       · decide
       · exact Ab i c
     · exact Ab r c
   generalize (AUw G1 i fun c=>if c=k then -1 else G1 i c)=G2 at Ac;refine ATu (Ad9 AGi AGi) rfl (ATu (ATx hi') rfl (AGq ⟨AGi,AUw G2 k fun c=>if c=i then -1 else G2 k c,?_,AGi,fun r c=>?_⟩))
   ·rw [wi,AU2,AU2,AXv,Afo AGi]
   ·rw [AT2];split
    ·split
     ·decide
     ·exact Ac k c
    ·exact Ac r c
 ·obtain rfl:i=N:=by omega
  exact ⟨G,Af6 _ _,fun a b _ _=>hG a b⟩
theorem A6t {n B:Nat} {F:AS5} (hB:B < 9223372036854775808) (h:∀ i j,i < n->j < n->(F i j).natAbs<=B):∀ z∈tab n n F,∀ x∈z,-9223372036854775808<=x/\x<=9223372036854775807:=fun z hz x hx=>by
  obtain ⟨i,hi⟩:=List.getElem?_of_mem hz
  have hin:i < n:=by have:=(List.getElem?_eq_some_iff.1 hi).1;rwa [AT8] at this
  rw [AUc hin] at hi
  cases hi
  obtain ⟨j,hj⟩:=List.getElem?_of_mem hx
  have hjn:j < n:=by have:=(List.getElem?_eq_some_iff.1 hj).1;rwa [AUi] at this
  rw [ATx hjn] at hj
  cases hj
  have:=h i j hin hjn
  omega
theorem A9r {n:Nat} {F:AS5} (hn:1<=n) (Aa:n<=16):okM (tab n n F)=true:=by
 have hc:Agh (tab n n F)=n:=A4c hn;unfold okM;rw [decide_eq_true_iff,AT8,hc];exact ⟨hn,Aa,fun z hz=>by rw [Ao1 z hz];exact ⟨hn,Aa,rfl⟩⟩
theorem Az2 {fuel n:Nat} {F:AS5} (hn:1<=n) (Aa:n<=16) (h:∀ i j,i < n->j < n->(F i j).natAbs<=9223372036854775807) (hf:17 < fuel):AW1 fuel (tab n n F)=some (tab n n F):=by
 rw [BDs (A6t AGk h) hf,if_pos (A9r hn Aa)]
theorem BCd {fuel n:Nat} {F:AS5} (Ab:1<=n) (hn:n<=8) (hb:∀ i j,i < n->j < n->(F i j).natAbs<=1000000) (hf:100 < fuel):Ok (AZ9 fuel (tab n n F)) fun r=>r=true↔Ad8 n F/\Afn n F/\det n F<=10000:=by
 have Ac:∀ i j,i < n->j < n->(F i j).natAbs<=AZa:=fun i j hi hj=>Nat.le_trans (hb i j hi hj) AGk;unfold AZ9;refine AGw (AUe (Az2 Ab AGi (fun i j hi hj=>Nat.le_trans (hb i j hi hj) AGk) AGi)) fun x hx=>?_;subst hx;refine AGw (As6 Ab hn Ac hf) fun v hv=>ATt (fun h=>?_) fun h=>AGq (Iff.intro (fun h2=>nomatch h2) fun h2=>absurd (hv.2 ⟨h2.1,h2.2.1⟩) h);have h1:=hv.1 h;refine AGw (AUe (Ape hn Ac AGi)) fun d hd=>AGw (Q:=(· =10000)) ⟨10000,if_pos AGi,rfl⟩ fun t ht=>AGw (AUe (a:=Akx d t) rfl) fun c hc=>AGq ?_;subst hd;subst ht;subst hc;rw [decide_eq_true_iff,Avz];exact ⟨fun h2=>⟨h1.1,h1.2,h2⟩,fun h2=>h2.2.2⟩
theorem BCe {n:Nat} {f:Nat->Int} (hn:n<=8) (h:∀ r,r < n->1<=f r/\f r<=2):Ad8 n (dgF f)/\Afn n (dgF f)/\det n (dgF f)<=10000:=by
 have hd:∀ k,k<=n->det k (dgF f)=AZm f k:=fun k hk=>by
   rw [Ant (F:=dgF f) (fun c i hc hci hi=>by unfold dgF;rw [if_neg AGi])]
   exact Aqx fun i _=>by unfold dgF;rw [if_pos rfl]
 have hb:∀ k,k<=n->0 < AZm f k/\AZm f k<=2 ^ k:=fun k=>by
   induction k with
   | zero=>intro _;simp [AZm]
   | succ k ih=>
     intro hk
     have h1:=ih AGi
     have h2:=h k AGi
     simp only [AZm]
     refine ⟨Int.mul_pos h1.1 AGi,?_⟩
     rw [Int.pow_succ]
     exact Int.mul_le_mul h1.2 h2.2 AGi (Int.le_of_lt (Apk k))
 refine ⟨fun i j hi hj=>?_,fun k hk=>by rw [hd k hk];exact (hb k hk).1,?_⟩
 ·unfold dgF;split
  ·next h=>subst h;rw [if_pos rfl]
  ·next h=>rw [if_neg (fun h2=>h h2.symm)]
 ·rw [hd n (Nat.le_refl n)];have:=(hb n (Nat.le_refl n)).2;have h2:=Apl hn;omega
structure BD5 (n:Nat) (A:AS5):Prop where
  n1:1<=n
  n8:n<=8
  sym:Ad8 n A
  pos:Afn n A
  bd:∀ i j,i < n->j < n->(A i j).natAbs<=9
  dt:det n A<=10000
theorem A1y {n m:Nat} {f:Nat->Int} (h:∀ r,r < n->1<=f r/\f r<=(m:Int)):∀ i j,i < n->j < n->(dgF f i j).natAbs<=m:=fun i j hi hj=>by
  unfold dgF
  have:=h i hi
  split <;> omega
theorem BCf {fuel:Nat} {a1 a2 most:Int} {L L2:List Int} (h1:0<=a1/\a1 < 256) (hm:1<=most/\most<=8) (hf:100 < fuel):Ok (AWm fuel a1 a2 L L2 most) fun r=> ∃ n A,r=tab n n A/\BD5 n A/\(n:Int)=1 + Int.tmod a1 most:=by
 have t1:=Int.emod_nonneg a1 (show most≠0 by omega);have t2:=Int.emod_lt_of_pos a1 (show 0 < most by omega);have t3:Int.tmod a1 most=a1 % most:=Int.tmod_eq_emod_of_nonneg h1.1
 have hN:w64 (1 + Int.tmod (w64 a1) most)=((1 + a1 % most).toNat:Int):=by
   rw [AVj (x:=a1) AGi AGi,t3,wk AGi];omega
 generalize hNN:(1 + a1 % most).toNat=N at hN;have Ae:1<=N:=by omega
 have Ab:N<=8:=by omega
 unfold AWm;refine AUq AGi (AGw (Q:=fun e=> ∃ (q:Nat) (F:AS5),e=(tab N N F,(q:Int))/\q<=200/\ ∀ i j,i < N->j < N->(F i j).natAbs<=9) (AGw (Q:=fun _=>True) ?_ fun k _=>ATt (fun _=>?_) fun _=>ATt (fun _=>?_) fun _=>ATt (fun _=>?_) fun _=>ATt (fun _=>?_) fun _=>?_) fun e he=>?_)
 ·exact ATt (fun _=>AGq trivial) fun _=>ATt (fun _=>AGq trivial) fun _=>ATt (fun _=>AGq trivial) fun _=>AGq trivial
 ·refine AGw (Q:=fun e=> ∃ (q:Nat) (F:AS5),e=(tab N N F,(q:Int))/\q<=200/\ ∀ i j,i < N->j < N->(F i j).natAbs<=9) (AGw (Q:=fun e=> ∃ (q:Nat) (f:Nat->Int),e=(tab N N (dgF f),(q:Int))/\q<=8/\ ∀ r,r < N->1<=f r/\f r<=6) (AUq (by rw [hN];omega) (AGw (BD4 (q0:=0) (L:=L) hN Ab AGi hf) fun e he=>AGq ?_)) fun e he=>?_) fun e he=>AGq he
  ·obtain ⟨q,f,rfl,h2,h3⟩:=he;exact ⟨q,f,rfl,AGi,h3⟩
  ·obtain ⟨q,f,rfl,h2,h3⟩:=he;refine AGw (BCc (L:=L) (q0:=q) Ab AGi (fun i j hi hj=>Nat.le_trans (A1y (m:=6) h3 i j hi hj) AGk) hf) fun e he=>AGq ?_;obtain ⟨q,F,rfl,h4,h5⟩:=he;exact ⟨q,F,rfl,AGi,h5⟩
 ·rw [hN];refine AGw (A1x Ae Ab hf) fun F hF=>?_;obtain ⟨F,rfl,hF⟩:=hF;refine ATu (n:=0) (AUc AGi) rfl (ATu (n:=0) (ATx AGi) rfl (AGw (Q:=fun e:Int × Int=>0<=e.1/\e.1 < 3/\ ∃ p:Nat,e.2=(p:Int)/\p<=0 + 1) (AGw (Aoq (L:=L) (q:=0) AGi) fun e he=>AGq ⟨(Amf _ 3 AGk).1,(Amf _ 3 AGk).2,he⟩) fun e he=>AGq ?_));obtain ⟨c1,c2,p,c3,c4⟩:=he;have c5:=hF 0 0 AGi AGi;refine ⟨p,AUw F 0 fun c=>if c=0 then F 0 0 + e.1 else F 0 c,?_,AGi,fun i j hi hj=>?_⟩
  ·rw [c3,wk AGi];refine congrArg (fun z=>(z,(p:Int))) ?_;show (tab N N F).set 0 ((AVs N (F 0)).set 0 (F 0 0 + e.1))=_;rw [AXv];exact Aeu
  ·rw [AT2];split
   ·split
    ·omega
    ·have:=hF 0 j AGi hj;omega
   ·have:=hF i j hi hj;omega
 ·rw [hN];refine AGw (A1x Ae Ab hf) fun F hF=>?_;obtain ⟨F,rfl,hF⟩:=hF;have w1:w64 ((N:Int) - 1)=((N - 1:Nat):Int):=by rw [wk AGi];omega
  rw [w1];refine ATu (AUc AGi) rfl (ATu (ATx AGi) rfl (AGw (Q:=fun e:Int × Int=>0<=e.1/\e.1 < 2/\ ∃ p:Nat,e.2=(p:Int)/\p<=0 + 1) (AGw (Aoq (L:=L) (q:=0) AGi) fun e he=>AGq ⟨(Amf _ 2 AGk).1,(Amf _ 2 AGk).2,he⟩) fun e he=>AGq ?_));obtain ⟨c1,c2,p,c3,c4⟩:=he;have c5:=hF (N - 1) (N - 1) AGi AGi;refine ⟨p,AUw F (N - 1) fun c=>if c=N - 1 then F (N - 1) (N - 1) + e.1 else F (N - 1) c,?_,AGi,fun i j hi hj=>?_⟩
  ·rw [c3,wk AGi,AU2,AU2];refine congrArg (fun z=>(z,(p:Int))) ?_;rw [AXv];exact Aeu
  ·rw [AT2];split
   ·split
    ·omega
    ·have:=hF (N - 1) j AGi hj;omega
   ·have:=hF i j hi hj;omega
 ·refine AGw (Q:=fun e=> ∃ (q:Nat) (F:AS5),e=(tab N N F,(q:Int))/\q<=200/\ ∀ i j,i < N->j < N->(F i j).natAbs<=9) (AUq (by rw [hN];omega) (AGw (BB9 (q0:=0) (L:=L) hN Ab AGi hf) fun e he=>AGq ?_)) fun e he=>AGq he;obtain ⟨q,f,rfl,h2,h3⟩:=he;exact ⟨q,dgF f,rfl,AGi,fun i j hi hj=>A1y (m:=9) h3 i j hi hj⟩
 ·refine AGw (Q:=fun e=> ∃ (q:Nat) (F:AS5),e=(tab N N F,(q:Int))/\q<=200/\ ∀ i j,i < N->j < N->(F i j).natAbs<=9) (AUq (by rw [hN];omega) (AGw (BCa (q0:=0) (L:=L) hN Ab AGi hf) fun e he=>AGq ?_)) fun e he=>AGq he;obtain ⟨q,f,rfl,h2,h3⟩:=he;exact ⟨q,dgF f,rfl,AGi,fun i j hi hj=>Nat.le_trans (A1y (m:=1) h3 i j hi hj) AGk⟩
 ·obtain ⟨q,F,rfl,h2,h3⟩:=he;dsimp only;refine AGw (BCd Ae Ab (fun i j hi hj=>Nat.le_trans (h3 i j hi hj) AGk) hf) fun b hb=>ATt (fun hn=>?_) fun hn=>AGq ?_
  ·refine AGw (Q:=fun e=> ∃ f:Nat->Int,e.1=tab N N (dgF f)/\ ∀ r,r < N->1<=f r/\f r<=2) (AUq (by rw [hN];omega) (AGw (BCb (q0:=q) (L:=L) hN Ab AGi hf) fun e he=>AGq ?_)) fun e he=>AGq ?_
   ·obtain ⟨q,f,rfl,h4,h5⟩:=he;exact ⟨f,rfl,h5⟩
   ·obtain ⟨f,h4,h5⟩:=he;obtain ⟨d1,d2,d3⟩:=BCe Ab h5;exact ⟨N,dgF f,h4,⟨Ae,Ab,d1,d2,fun i j hi hj=>Nat.le_trans (A1y (m:=2) h5 i j hi hj) AGk,d3⟩,by rw [t3];omega⟩
  ·have hg:Ad8 N F/\Afn N F/\det N F<=10000:=hb.1 (by simpa using hn);exact ⟨N,F,rfl,⟨Ae,Ab,hg.1,hg.2.1,h3,hg.2.2⟩,by rw [t3];omega⟩
theorem BCg {fuel:Nat} {a1 a2 most:Int} {L L2:List Int} (h1:0<=a1/\a1 < 256) (hm:1<=most/\most<=8) (hf:AW5 < fuel):Ok (AWn fuel a1 a2 L L2 most) fun r=> ∃ n A,r=tab n n A/\1<=n/\(n:Int)<=most/\Av2 n A/\ ∀ k,k < n->A k k<=3 * dm9:=by
  have hf2:100 < fuel:=Nat.lt_of_le_of_lt AGk hf;unfold AWn;refine AGw (BCf h1 hm hf2) fun g hg=>?_;obtain ⟨n,A,rfl,G,hn⟩:=hg;have t2:=Int.emod_lt_of_pos a1 (show 0 < most by omega);have t3:Int.tmod a1 most=a1 % most:=Int.tmod_eq_emod_of_nonneg h1.1
  let A0:AS5:=fun i j=>if i < n/\j < n then A i j else 0
  have hA0:∀ i j,i < n->j < n->A0 i j=A i j:=fun i j hi hj=>if_pos ⟨hi,hj⟩;have e:tab n n A=tab n n A0:=Agx fun i j hi hj=>(hA0 i j hi hj).symm;refine AGw (AUe (Az2 G.n1 (by have:=G.n8;omega) (fun i j hi hj=>Nat.le_trans (G.bd i j hi hj) AGk) AGi)) fun x hx=>?_;subst hx;rw [e];have hp:Afn n A0:=fun k hk=>by rw [AUm fun i j hi hj=>hA0 i j AGi AGi];exact G.pos k hk
  have hs:Ad8 n A0:=fun i j hi hj=>by rw [hA0 i j hi hj,hA0 j i hj hi];exact G.sym i j hi hj
  have hE:∀ i j,(A0 i j).natAbs<=9:=fun i j=>by
    show (if i < n/\j < n then A i j else 0).natAbs<=9
    split
    · next h=>exact G.bd i j h.1 h.2
    · decide
  have hh:=A6f hs hp (B:=9) AGk (fun i hi=>by have:=hE i i;omega)
  refine AGw (A3k G.n1 G.n8 hs hp (fun i j=>Nat.le_trans (hE i j) AGk) (fun k hk=>?_) (fun k hk=>?_) ?_ hf) fun r hr=>AGq ?_
  · have h2:=hh k hk
    have h3:(9:Int) ^ k<=9 ^ 8:=by
      have:=Nat.pow_le_pow_right (show 0 < 9 by omega) (show k<=8 by have:=G.n8;omega);have e2:∀ t:Nat,(9:Int) ^ t=((9 ^ t:Nat):Int):=fun t=>by simp
      rw [e2,e2];omega
    exact Int.le_trans h2 h3
  · have:=hE k k;have:(3 * dm9)=129140163:=by decide
    omega
  · rw [AUm hA0];exact G.dt
  · obtain ⟨A',T,rfl,R,-,-,hd⟩:=hr;exact ⟨n,A',rfl,G.n1,by rw [hn,t3];omega,R,hd⟩
theorem A6u {A:AS5} {k:Nat} (h1:LvF A k) (h2:SzF A (k + 1) k) (hp:0 < det (k + 1) A):det (k + 1) A * det (k + 1) A<=2 * (det k A * det (k + 2) A):=by
 unfold LvF at h1;unfold SzF at h2;have h3:(2 * Mn k A (k + 1) k) * (2 * Mn k A (k + 1) k)<=det (k + 1) A * det (k + 1) A:=Ane AGi h2.2;have h4:(2 * Mn k A (k + 1) k) * (2 * Mn k A (k + 1) k)=4 * (Mn k A (k + 1) k * Mn k A (k + 1) k):=by grind
 omega
theorem Ad1 {x y:Int} (h0:0<=x) (h:x<=y):∀ k:Nat,x ^ k<=y ^ k
  | 0=>by simp
  | k + 1=>by
    rw [Int.pow_succ,Int.pow_succ]
    exact Int.mul_le_mul (Ad1 h0 h k) h h0 (Int.le_trans (Int.pow_nonneg h0) (Ad1 h0 h k))
def tri:Nat->Nat
  | 0=>0
  | k + 1=>tri k + (k + 1)
theorem Az3 {n:Nat} {A:AS5} (hp:Afn n A) (hs:Apm A n) (hl:Aqz A n):∀ k,k + 1<=n->det k A ^ (k + 1)<=det (k + 1) A ^ k * 2 ^ tri k:=by
  intro k;induction k with
  | zero=>intro _;simp [det,tri]
  | succ k ih=>
    intro hk;have ih:=ih AGi;have p0:=hp k AGi;have p1:=hp (k + 1) AGi;have p2:=hp (k + 2) AGi;have h1:=A6u (hl k AGi) (hs (k + 1) k AGi AGi) p1;generalize det k A=a at *
    generalize det (k + 1) A=b at *
    generalize det (k + 2) A=c at *
    have h2:(b * b) ^ (k + 1)<=(2 * (a * c)) ^ (k + 1):=Ad1 (Int.le_of_lt (Int.mul_pos p1 p1)) h1 _;rw [Int.mul_pow,Int.mul_pow,Int.mul_pow] at h2;have h3:a ^ (k + 1) * c ^ (k + 1)<=b ^ k * 2 ^ tri k * c ^ (k + 1):=Int.mul_le_mul_of_nonneg_right ih (Int.le_of_lt (Int.pow_pos p2));have h4:2 ^ (k + 1) * (a ^ (k + 1) * c ^ (k + 1))<=2 ^ (k + 1) * (b ^ k * 2 ^ tri k * c ^ (k + 1)):=Int.mul_le_mul_of_nonneg_left h3 (Int.le_of_lt (Apk _));have h5:=Int.le_trans h2 h4;have e1:b ^ (k + 1) * b ^ (k + 1)=b ^ k * b ^ (k + 1 + 1):=by rw [Int.pow_succ b k,Int.pow_succ b (k + 1),Int.pow_succ b k];grind
    have e2:(2:Int) ^ (k + 1) * (b ^ k * 2 ^ tri k * c ^ (k + 1))=b ^ k * (c ^ (k + 1) * 2 ^ tri (k + 1)):=by
      have:(2:Int) ^ tri (k + 1)=2 ^ tri k * 2 ^ (k + 1):=by rw [<- Int.pow_add];rfl
      rw [this];grind
    rw [e1,e2] at h5;exact Int.le_of_mul_le_mul_left h5 (Int.pow_pos p1)
def dU:Nat->Int
  | 8=>10000
  | 7=>35777
  | 6=>64000
  | 5=>57243
  | 4=>25600
  | _=>10000
theorem BD6 (k:Nat):dU k<=64000:=by unfold dU;split <;> omega
theorem BAs (k:Nat):10000<=dU k:=by unfold dU;split <;> omega
theorem A9s:∀ k,k < 8->dU (k + 1) ^ k * 2 ^ tri k < (dU k + 1) ^ (k + 1):=by decide
theorem A3l {n:Nat} {A:AS5} (hn:n<=8) (hp:Afn n A) (hs:Apm A n) (hl:Aqz A n) (hd:det n A<=10000):∀ m k,k + m=n->det k A<=dU k:=by
 intro m
 induction m with
 | zero=>
     intro k hk;obtain rfl:k=n:=by omega
     exact Int.le_trans hd (BAs _)
 | succ m ih=>
   intro k hk
   have h1:=ih (k + 1) AGi
   have h2:=Az3 hp hs hl k AGi
   have p0:=hp k AGi
   have p1:=hp (k + 1) AGi
   rcases Int.lt_or_le (dU k) (det k A) with h | h
   · exfalso
     have h3:(dU k + 1) ^ (k + 1)<=det k A ^ (k + 1):=Ad1 (by have:=BAs k;omega) AGi _
     have h4:det (k + 1) A ^ k * 2 ^ tri k<=dU (k + 1) ^ k * 2 ^ tri k:=Int.mul_le_mul_of_nonneg_right (Ad1 (Int.le_of_lt p1) h1 k) (Int.le_of_lt (Apk _))
     have h5:=A9s k AGi
     omega
   · exact h
theorem Apo {n:Nat} {A:AS5} (hn:n<=8) (R:Av2 n A) {k:Nat} (hk:k<=n):0 < det k A/\det k A<=64000:=
  ⟨R.pos k hk,Int.le_trans (A3l hn R.pos R.sz R.lv R.dt (n - k) k AGi) (BD6 k)⟩
theorem Arq {n:Nat} {A:AS5} (hn:n<=8) (R:Av2 n A) {i j:Nat} (hi:i < n) (hj:j < n): -192000<=A i j/\A i j<=192000:=
  Ayf R.sym R.pos (fun k hk=>Ax6 (Dm:=64000) hn R.sym R.pos hk (fun k hk=>(Apo hn R hk).2) fun l hl=>R.sz k l hl hk) hi hj
structure RB (n:Nat) (A:AS5) (k:Nat):Prop where
  pos:∀ j,k < j->j<=n->0 < det j A
  lt:∀ j,k < j->j < n->det j A < 65536
  sz:∀ l i,k<=l->l < i->i < n->SzF A i l
  lv:∀ l,k<=l->l + 1 < n->LvF A l
  dt:det n A<=10000
theorem BCh {A F:AS5} {m k:Nat} (h0:0 < det k A) (hF:∀ i j,i < m + 1->j < m + 1->F i j=Mn k A (k + i) (k + j)) {i j:Nat} (hi:i < m) (hj:j < m):Ajq F (det k A) i j=Mn (k + 1) A (k + 1 + i) (k + 1 + j):=by
 unfold Ajq;rw [hF 0 0 AGi AGi,hF (i + 1) (j + 1) AGi AGi,hF (i + 1) 0 AGi AGi,hF 0 (j + 1) AGi AGi,Nat.add_zero,Anv AGi,Int.mul_tdiv_cancel_left _ AGi];rw [show k + (i + 1)=k + 1 + i by omega,show k + (j + 1)=k + 1 + j by omega]
theorem Ayh {n:Nat} {A:AS5}:∀ (m k:Nat) (F:AS5),k + m=n->1<=m->0 < det k A->(∀ i j,i < m->j < m->F i j=Mn k A (k + i) (k + j))->(Aie m F (det k A)=true↔RB n A k):=by
 intro m
 induction m with
 | zero=>intro k F _ h;omega
 | succ m ih=>
   intro k F hk _ h0 hF
   have Ad:F 0 0=det (k + 1) A:=by rw [hF 0 0 AGi AGi];exact Acv k A
   cases m with
   | zero=>
     obtain rfl:k + 1=n:=hk
     show decide (0 < F 0 0/\F 0 0<=10000)=true↔_
     rw [decide_eq_true_iff,Ad]
     exact ⟨fun h=>⟨fun j h1 h2=>by
       obtain rfl:j=k + 1:=by omega
       exact h.1,fun j h1 h2=>by omega,fun l i h1 h2 h3=>by omega,fun l h1 h2=>by omega,h.2⟩,fun h=>⟨h.pos (k + 1) AGi (Nat.le_refl _),h.dt⟩⟩
   | succ m=>
     have hN:∀ i j,i < m + 1->j < m + 1->Ajq F (det k A) i j=Mn (k + 1) A (k + 1 + i) (k + 1 + j):=fun i j hi hj=>BCh h0 hF hi hj
     have hS:Aid (m + 1 + 1) F↔(0 < det (k + 1) A/\det (k + 1) A < 65536)/\ ∀ i,k < i->i < n->SzF A i k:=by
       unfold Aid
       rw [Ad]
       refine and_congr_right fun _=>⟨fun h i h1 h2=>?_,fun h i h1 h2=>?_⟩
       · have h3:=h (i - k) AGi AGi
         rw [hF (i - k) 0 AGi AGi,show k + (i - k)=i by omega] at h3
         unfold SzF
         simp only [Nat.add_zero] at h3
         omega
       · have h3:=h (k + i) AGi AGi
         unfold SzF at h3
         rw [hF i 0 h2 AGi,Nat.add_zero]
         omega
     have hL:An5 F (det k A)↔LvF A k:=by
       unfold An5 LvF
       rw [Ad,hN 0 0 AGi AGi,Nat.add_zero,Acv (k + 1) A,hF 1 0 AGi AGi,Nat.add_zero]
       have e:3 * det (k + 1) A * det (k + 1) A=3 * (det (k + 1) A * det (k + 1) A):=by grind
       rw [e]
       exact Iff.rfl
     show (decide (Aid (m + 1 + 1) F) && (decide (An5 F (det k A)) && Aie (m + 1) (Ajq F (det k A)) (F 0 0)))=true↔_
     rw [Bool.and_eq_true,Bool.and_eq_true,decide_eq_true_iff,decide_eq_true_iff,hS,hL,Ad]
     constructor
     · rintro ⟨⟨⟨h1,h2⟩,h3⟩,h4,h5⟩
       have R:=(ih (k + 1) _ AGi AGi h1 hN).1 h5
       refine ⟨fun j a b=>?_,fun j a b=>?_,fun l i a b c=>?_,fun l a b=>?_,R.dt⟩
       · by_cases e:j=k + 1
         · subst e;exact h1
         · exact R.pos j AGi b
       · by_cases e:j=k + 1
         · subst e;exact h2
         · exact R.lt j AGi b
       · by_cases e:l=k
         · subst e;exact h3 i b c
         · exact R.sz l i AGi b c
       · by_cases e:l=k
         · subst e;exact h4
         · exact R.lv l AGi b
     · intro R
       have h1:=R.pos (k + 1) AGi AGi
       exact ⟨⟨⟨h1,R.lt (k + 1) AGi AGi⟩,fun i a b=>R.sz k i (Nat.le_refl k) a b⟩,R.lv k (Nat.le_refl k) AGi,(ih (k + 1) _ AGi AGi h1 hN).2 ⟨fun j a b=>R.pos j AGi b,fun j a b=>R.lt j AGi b,fun l i a b c=>R.sz l i AGi b c,fun l a b=>R.lv l AGi b,R.dt⟩⟩
def Atr (M:List (List Int)):Prop:=(1<=M.length/\M.length<=8)/\(∀ z∈M,z.length=M.length)/\Av2 M.length (ent M)
theorem Aur (M:List (List Int)):isRed M=true↔Atr M:=by
 unfold isRed;rw [Bool.and_eq_true];constructor
 ·rintro ⟨h1,h2⟩;have S:=Asx h1;have R:=(Ayh (A:=ent M) (n:=M.length) M.length 0 (ent M) AGi S.1.1 (by simp [det]) fun i j _ _=>by rw [Agt,Nat.zero_add,Nat.zero_add]).1 (by simpa [det] using h2);refine ⟨S.1,S.2.1,fun i j hi hj=>(S.2.2 i j hi hj).1,fun k hk=>?_,fun r l h3 h4=>R.sz l r (Nat.zero_le _) h3 h4,fun l hl=>R.lv l (Nat.zero_le _) hl,R.dt⟩;rcases Nat.eq_zero_or_pos k with h | h
  ·subst h;simp [det]
  ·exact R.pos k h hk
 ·rintro ⟨h1,h2,R⟩;refine ⟨(AZc ⟨h1,h2,fun i j hi hj=>⟨R.sym i j hi hj,?_,?_⟩⟩).symm,?_⟩
  ·have:=Arq h1.2 R hi hj;omega
  ·have:=Arq h1.2 R hi hj;omega
  ·have h3:=(Ayh (A:=ent M) (n:=M.length) M.length 0 (ent M) AGi h1.1 (by simp [det]) fun i j _ _=>by rw [Agt,Nat.zero_add,Nat.zero_add]).2 ⟨fun j _ hj=>R.pos j hj,fun j _ hj=>by have:=Apo h1.2 R (k:=j) AGi;omega,fun l i _ a b=>R.sz i l a b,fun l _ hl=>R.lv l hl,R.dt⟩;simpa [det] using h3
end Go.Proofs.YthbndcbclhkepaaGreatDoor
namespace Go.Proofs.YthbndcbclhkepaaGreatDoor
open Go Go.QF
open Go.ChangeShapes Go.WideShapes Go.ChangeAt Go.RowKit
set_option maxRecDepth 100000
theorem A3m:Tryz.prog.cellsOf 24=4:=by kernel_rfl
theorem A6v {H:Type} {enc:TypeId × Value->H} {W:World} {r:Reach} {b0:Nat} {v:Value} {d:DataW H} {p:List MemPlace} (hv:Value.okWide Tryz.prog W r b0 24 v) (h:DataW.Trod enc Tryz.prog W 0 (fun _=>true) true 24 v d p):
    ∃ (g k:Int) (lv bv:Value) (Z Y:List Int),v= .agg #[.int .u8 g,.int .u8 k,lv,bv]/\SlC (cI .i8) W.heap lv Z/\SlC (cI .i8) W.heap bv Y/\(0<=g/\g < 256)/\(0<=k/\k < 256)/\(∀ z∈Z,-128<=z/\z<=127)/\ ∀ z∈Y,-128<=z/\z<=127:=by
  obtain ⟨cs,rfl,hsz⟩:=okWide_struct Tryz.underlying24 hv;rw [A3m] at hsz;obtain ⟨l⟩:=cs
  match l,hsz with
  | [c0,c1,c2,c3],_=>
    obtain ⟨fuel,hf⟩:=h;obtain ⟨y0,y1,y2,y3,n,_,_,h0,h1,h2,h3⟩:=Joins.trod_struct4 Tryz.underlying24 hf;simp [Value.cells,A4m,A4n] at h0 h1 h2 h3;obtain ⟨x0,e0,_,w0⟩:=DataW.trod_int Tryz.underlying5 h0;obtain ⟨x1,e1,_,w1⟩:=DataW.trod_int Tryz.underlying5 h1;simp at e0 e1;subst e0;subst e1;have b0:=wf_u8 w0;have b1:=wf_u8 w1;obtain ⟨Z,HZ,hZ⟩:=A4o h2;obtain ⟨Y,HY,hY⟩:=A4o h3;exact ⟨x0,x1,c2,c3,Z,Y,rfl,A59 HZ,A59 HY,AGi,AGi,hZ,hY⟩
end Go.Proofs.YthbndcbclhkepaaGreatDoor
namespace Go.Proofs.YthbndcbclhkepaaGreatDoor
open Go Go.QF
set_option maxRecDepth 100000
theorem A1z {n k:Nat} {A:AS5} (hn:n<=8) (R:Av2 n A) (hk:k<=n) {i j:Nat} (hi:i < n) (hj:j < n):(Mn k A i j).natAbs<=12288000000:=by
 have h1:=Aqk R.sym R.pos hk hi hj
 have b:∀ i,i < n->Mn k A i i<=12288000000:=fun i hi=>by
   have h2:=A6e R.sym R.pos hi k hk
   have h3:=Apo hn R hk
   have h4:=Arq hn R hi hi
   have h5:det k A * A i i<=det k A * 192000:=Int.mul_le_mul_of_nonneg_left h4.2 AGi
   omega
 have p:=fun i (hi:i < n)=>Aql R.sym R.pos hk hi;have h2:=Int.mul_le_mul (b i hi) (b j hj) (p j hj) AGi;have:=Ax4 (x:=Mn k A i j) (y:=12288000000) AGi (Int.le_trans h1 h2);omega
theorem BCi {fuel n:Nat} {A:AS5} (Ag:1<=n) (hn:n<=8) (R:Av2 n A) (hf:100 < fuel):AZo fuel (tab n n A)=some (det n A):=by
 apply ok_eq;unfold AZo;rw [AT8];refine AUq AGi ?_;rw [Int.toNat_natCast];refine AGw (AT9 (fun i s=>s=(((i:Nat):Int),part n i A)/\i<=n) n (Q:=(· =tab n n A)) ⟨by rw [Af7 n A];rfl,Nat.zero_le _⟩ AGi fun i s hi hI=>?_) fun e he=>?_
 ·obtain ⟨rfl,hin⟩:=hI;unfold Adf;dsimp only;rw [AT8];refine ATt (fun h=>ATu (AUc AGi) rfl (AUq AGi (ATu (Aka AGi) rfl ?_))) (fun h=>AGq ?_)
  ·have hi':i < n:=by omega
   rw [Int.toNat_natCast,AU2,AY1 n (0:Int),Ahy];refine ATu (Ad9 AGi hi') rfl (AUq (by rw [AUi,AUi];exact ⟨rfl,Ag⟩) (AGq ⟨hi',?_,AGi⟩));rw [wk AGi,AU2,Afo AGi,Ans,Ahg];refine congrArg (fun z=>(z,part n (i + 1) A)) ?_;omega
  ·obtain rfl:i=n:=by omega
   exact Af6 _ _
 subst he;refine AGw (Q:=(· =1)) ⟨1,if_pos AGi,rfl⟩ fun one h1=>?_;subst h1;refine AGw (AT9 (fun k s=> ∃ G,s=(false,((k:Int),tab n n G,det k A))/\k<=n/\ ∀ r c,k<=r->r < n->k<=c->c < n->G r c=Mn k A r c) n (Q:=fun ex=>match ex with | .inl e=>False | .inr (neg,last)=>neg=false/\last=det n A) ⟨A,rfl,Nat.zero_le _,fun r c _ _ _ _=>(Agt A r c).symm⟩ AGi fun k s hk hI=>?_) fun ex hex=>?_
 ·obtain ⟨G,rfl,hkn,hG⟩:=hI;unfold Ade;dsimp only;rw [AT8];refine ATt (fun h=>?_) (fun h=>AGq ⟨rfl,?_⟩)
  ·have hk':k < n:=by omega
   have hGk:G k k=det (k + 1) A:=by rw [hG k k AGi hk' AGi hk',Acv]
   have hpos:0 < det (k + 1) A:=R.pos (k + 1) AGi;have hlast:=Apo hn R (k:=k) AGi;refine AGw (Q:=(· =(k:Int))) (AGw (AT9 (fun _ s=>s=(k:Int)) 0 (Q:=(· =(k:Int))) rfl AGi fun i s hi hI=>?_) fun e he=>AGq he) fun e he=>?_
   ·subst hI;unfold Ada;rw [AT8];refine AGw (Q:=fun ex=>match ex with | .inl _=>False | .inr _=>True) (ATt (fun h2=>ATu (AUc hk') rfl (ATu (ATx hk') rfl (AGw (AUe (a:=AYc (G k k)) rfl) fun sg hsg=>ATt (fun h3=>?_) fun h3=>AGq trivial))) fun h2=>absurd h h2) fun ex hex=>?_
    ·exfalso;rw [hsg] at h3;have:=(Aiq _).1 h3;omega
    ·cases ex with
     | inl u=>exact hex.elim
     | inr u=>exact AGq rfl
   ·subst he;refine ATt (fun h2=>by omega) fun _=>AGw (Q:=(· =(false,tab n n G))) (ATt (fun h2=>absurd rfl h2) fun _=>AGq rfl) fun r hr=>?_;subst hr;dsimp only;refine ATu (AUc hk') rfl (ATu (ATx hk') rfl ?_);rw [wk AGi]
    have hq:∀ r c,k < r->r < n->k < c->c < n->bQ k G (det k A) r c=Mn (k + 1) A r c:=fun r c h1 h2 h3 h4=>by
      unfold bQ
      rw [hGk,hG r c AGi h2 AGi h4,hG r k AGi h2 AGi hk',hG k c AGi hk' AGi h4,<- Acv k A,Anv AGi,Int.mul_ediv_cancel_left _ AGi]
    have habs:∀ r c,k<=r->r < n->k<=c->c < n->(G r c).natAbs<=12288000000:=fun r c h1 h2 h3 h4=>by rw [hG r c h1 h2 h3 h4];exact A1z hn R AGi h2 h4
    refine AGw (AT9 (fun i s=>s=(((k + 1 + i:Nat):Int),tab n n (bF k G (det k A) (k + 1 + i) (k + 1)))/\k + 1 + i<=n) (n - (k + 1)) (Q:=(· =tab n n (bF k G (det k A) n (k + 1)))) ⟨by rw [Nat.add_zero,Axr];simp,AGi⟩ AGi fun i s hi hI=>?_) fun a3 Ah=>?_
    ·obtain ⟨rfl,hin⟩:=hI;unfold Adc;dsimp only;rw [AT8];obtain ⟨q,hqe⟩:∃ q,k + 1 + i=q:=⟨_,rfl⟩;rw [hqe] at hin ⊢;refine ATt (fun h3=>?_) (fun h3=>AGq ?_)
     ·have hqn:q < n:=by omega
      rw [wk AGi];refine AGw (AT9 (fun j s=>s=(((k + 1 + j:Nat):Int),tab n n (bF k G (det k A) q (k + 1 + j)))/\k + 1 + j<=n) (n - (k + 1)) (Q:=(· =tab n n (bF k G (det k A) q n))) ⟨ATv,AGi⟩ AGi fun j s hj hJ=>?_) fun a4 Ai=>AGq ?_
      ·obtain ⟨rfl,hjn⟩:=hJ;unfold Adb;dsimp only;rw [AT8];obtain ⟨c,hc⟩:∃ c,k + 1 + j=c:=⟨_,rfl⟩;rw [hc] at hjn ⊢;refine ATt (fun h4=>?_) (fun h4=>AGq ?_)
       ·have hcn:c < n:=by omega
        have a1:=habs k k AGi hk' AGi hk';have a2:=habs q c AGi hqn AGi hcn;have a3:=habs q k AGi hqn AGi hk';have a4:=habs k c AGi hk' AGi hcn;have m1:=Nat.mul_le_mul a1 a2;have m2:=Nat.mul_le_mul a3 a4;have hB:12288000000 * 12288000000 < AW5:=by decide
        refine ATu (AUc hqn) rfl (ATu (ATx hcn) rfl ?_);rw [BAk];refine AGw (AUe (a:=G k k * G q c) (if_pos AGi)) fun x1 Am=>ATu (ATx hk') rfl (ATu (AUc hk') rfl (ATu (ATx hcn) rfl ?_));subst Am;rw [BAj,A1c];refine AGw (AUe (a:=G q k * G k c) (if_pos AGi)) fun x2 Ao=>?_;subst Ao;refine AGw (AUe (a:=G k k * G q c - G q k * G k c) (if_pos ⟨by rw [Int.natAbs_mul];omega,by rw [Int.natAbs_mul];omega⟩)) fun x3 Ap=>?_;subst Ap
        have hnum:G k k * G q c - G q k * G k c=det k A * Mn (k + 1) A q c:=by
          rw [hGk,hG q c AGi hqn AGi hcn,hG q k AGi hqn AGi hk',hG k c AGi hk' AGi hcn,<- Acv k A,Anv AGi]
        have m3:(det k A * Mn (k + 1) A q c).natAbs<=64000 * 12288000000:=by
          rw [Int.natAbs_mul]
          exact Nat.mul_le_mul AGi (A1z hn R AGi hqn hcn)
        refine AGw (Q:=fun x=>x.1=bQ k G (det k A) q c) ⟨_,if_pos ⟨by rw [hnum];omega,AGi,AGi⟩,rfl⟩ fun x4 Aq=>AGq ⟨AGi,?_,AGi⟩;rw [Aq,wk AGi,Ast,A51 k G (det k A) AGi AGi];congr 1
        ·omega
        ·rw [<- Nat.add_assoc,hc]
       ·obtain rfl:c=n:=by omega
        rfl
      ·subst Ai;refine ⟨AGi,?_,AGi⟩;rw [wk AGi];congr 1
       ·omega
       ·refine Af0 fun r c hr hc=>?_;rw [A50 k n G (det k A) q hc,<- Nat.add_assoc,hqe]
     ·obtain rfl:q=n:=by omega
      rfl
    ·subst Ah;refine AGq ⟨hk',bF k G (det k A) n (k + 1),?_,AGi,fun r c h1 h2 h3 h4=>?_⟩
     ·rw [hGk];rfl
     ·have:bF k G (det k A) n (k + 1) r c=bQ k G (det k A) r c:=by unfold bF;rw [if_pos AGi]
      rw [this];exact hq r c AGi h2 AGi h4
  ·obtain rfl:k=n:=by omega
   rfl
 ·match ex,hex with
  | .inl e,hex=>exact hex.elim
  | .inr (neg,last),hex=>
    obtain ⟨rfl,rfl⟩:=hex
    dsimp only
    exact ATt (fun h=>nomatch h) fun _=>AGq rfl
theorem Ayi {fuel n:Nat} {F:AS5} (hn:1<=n) (Ab:n<=16) (hf:100 < fuel):AZn fuel (tab n n F)=some ((n:Int),(n:Int),true)/\AYl fuel (tab n n F)=some ((n:Int),(n:Int),true):=by
 constructor <;>
 ·apply ok_eq;first | unfold AZn | unfold AYl
  rw [AT8];refine AGw (Q:=fun ex=>match ex with | .inl _=>False | .inr _=>True) (ATt (fun h=>by omega) fun h=>ATt (fun h2=>by omega) fun h2=>AGq trivial) fun ex hex=>?_
  cases ex with
  | inl e=>exact hex.elim
  | inr u=>
    dsimp only
    refine ATu (n:=0) (AUc AGi) rfl ?_
    rw [AUi]
    refine AGw (Q:=fun ex=>match ex with | .inl _=>False | .inr _=>True) (ATt (fun h=>by omega) fun h=>ATt (fun h2=>by omega) fun h2=>AGq trivial) fun ex hex=>?_
    cases ex with
    | inl e=>exact hex.elim
    | inr u=>
      dsimp only
      refine AGw (AT9 (fun i (s:Int)=>s=i) n (Q:=fun ex=>match ex with | .inl _=>False | .inr _=>True) rfl AGi fun i s hi hI=>?_) fun ex hex=>?_
      · subst hI
        first | unfold Ac9 | unfold Abz
        rw [AT8]
        refine ATt (fun h=>ATu (AUc AGi) rfl ?_) fun h=>AGq trivial
        rw [AUi,AUi]
        exact ATt (fun h2=>absurd rfl h2) fun _=>AGq ⟨AGi,wk AGi⟩
      · cases ex with
        | inl e=>exact hex.elim
        | inr u=>exact AGq rfl
theorem A9t {fuel n:Nat} {F:AS5} (hn:1<=n) (Ac:n<=16) (hb:∀ i j,i < n->j < n->(F i j).natAbs<=9223372036854775807) (hf:100 < fuel):Acb fuel (tab n n F)=some (tab n n F,true):=by
 apply ok_eq;unfold Acb;refine AGw (AUe (Ayi hn Ac hf).1) fun x hx=>?_;subst hx;dsimp only;refine ATt (fun h=>nomatch h) fun _=>AGw (Q:=(· =tab n n F)) (AUq AGi ?_) fun e he=>AGq (by rw [he]);rw [Int.toNat_natCast];refine AGw (AT9 (fun i s=>s=(((i:Nat):Int),part n i F)/\i<=n) n (Q:=(· =tab n n F)) ⟨by rw [Af7 n F];rfl,Nat.zero_le _⟩ AGi fun i s hi hI=>?_) fun e he=>AGq he;obtain ⟨rfl,hin⟩:=hI;unfold Ae1;dsimp only;rw [List.length_replicate,Int.toNat_natCast];refine ATt (fun h=>AUq AGi (ATu (Aka AGi) rfl ?_)) (fun h=>AGq ?_)
 ·have hi':i < n:=by omega
  rw [AU2,AY1 n (0:Int),Ahy];refine ATu (Ad9 AGi hi') rfl ?_;rw [AUx];refine AGw (AT9 (fun j s=>s=(((j:Nat):Int),part n (i + 1) (AUw F i fun c=>if c < j then F i c else 0))/\j<=n) n (Q:=(· =part n (i + 1) F)) ⟨?_,Nat.zero_le _⟩ AGi fun j s hj hJ=>?_) fun e he=>AGq ⟨hi',?_,AGi⟩
  ·refine congrArg (fun z=>((0:Int),z)) ?_;unfold part;refine AUf fun r hr=>?_;split
   ·exact AUf fun c hc=>by rw [AT2,AT2];split <;> simp
   ·rfl
  ·obtain ⟨rfl,hjn⟩:=hJ;unfold Ae0;dsimp only;rw [AUi];refine ATt (fun h=>?_) (fun h=>AGq ?_)
   ·have hj':j < n:=by omega
    refine ATu (Ad9 AGi hi') rfl ?_;rw [AUx];have:=hb i j hi' hj';refine AGw (Q:=(· =F i j)) (ATu (AUc hi') rfl (ATu (ATx hj') rfl (AGw (Q:=(· =F i j)) ⟨_,if_pos AGi,rfl⟩ fun x hx=>AGq hx))) fun x hx=>?_;subst hx;refine ATu (ATx hj') rfl (AGq ⟨AGi,?_,AGi⟩);rw [wk AGi,AU2,AU2,AXv,Afo AGi,Ans];refine congrArg (fun z=>(((j + 1:Nat):Int),z)) ?_;congr 1;unfold AUw;funext r;split
    ·funext c;by_cases h1:c=j
     ·subst h1;rw [if_pos rfl,if_pos AGi]
     ·rw [if_neg h1];by_cases h2:c < j
      ·rw [if_pos h2,if_pos AGi]
      ·rw [if_neg h2,if_neg AGi]
    ·rfl
   ·obtain rfl:j=n:=by omega
    unfold part;refine AUf fun r hr=>?_;split
    ·refine AUf fun c hc=>?_;rw [AT2];split
     ·next h=>subst h;first | rfl | rw [if_pos hc]
     ·rfl
    ·rfl
  ·rw [he,wk AGi];rfl
 ·obtain rfl:i=n:=by omega
  exact Af6 _ _
def Av3 (d p e:Int):Prop:= ∃ (k:Nat) (r:Int),e=k/\d=r * p ^ k/\¬ p ∣ r
theorem Av4 {d p a b:Int} (hp:2<=p) (ha:Av3 d p a) (hb:Av3 d p b):a=b:=by
 have key:∀ (k l:Nat) (r s:Int),k < l->r * p ^ k=s * p ^ l->p ∣ r:=fun k l r s hkl h=>by
   obtain ⟨m,rfl⟩:∃ m,l=k + 1 + m:=⟨l - k - 1,AGi⟩
   rw [Int.pow_add,Int.pow_add,Int.pow_one] at h
   have h1:p ^ k * r=p ^ k * (p * (s * p ^ m)):=by grind
   exact ⟨_,Int.eq_of_mul_eq_mul_left (Int.pow_ne_zero AGi) h1⟩
 obtain ⟨k,r,rfl,h1,h2⟩:=ha;obtain ⟨l,s,rfl,h3,h4⟩:=hb;rcases Nat.lt_trichotomy k l with h | h | h
 ·exact absurd (key k l r s h (by rw [<- h1,<- h3])) h2
 ·rw [h]
 ·exact absurd (key l k s r h (by rw [<- h1,<- h3])) h4
theorem An1 {p r d:Int} {k:Nat} (hp:2<=p) (hr:0 < r) (hd:d<=10000) (h:d=r * p ^ k):k<=13:=by
 rcases Nat.lt_or_ge 13 k with h1 | h1
 ·exfalso;have h2:(2:Int) ^ 14<=2 ^ k:=Apl h1;have h3:(2:Int) ^ k<=p ^ k:=Ad1 AGi hp k;have h4:1 * p ^ k<=r * p ^ k:=Int.mul_le_mul_of_nonneg_right AGi AGi;have h5:(2:Int) ^ 14=16384:=by decide
  omega
 ·exact h1
theorem A6w {fuel:Nat} {d p:Int} (Ac:1<=d) (hd:d<=10000) (hp:2<=p) (Ad:p<=9973) (hf:100 < fuel):Ok (AWg fuel d p) (Av3 d p):=by
 unfold AWg;refine AGw (AT9 (fun i s=> ∃ r:Int,s=(r,(i:Int))/\0 < r/\d=r * p ^ i) 14 (Q:=Av3 d p) ⟨d,rfl,AGi,ATv⟩ AGi fun i s hi hI=>?_) fun e he=>AGq he;obtain ⟨r,rfl,hr,hdr⟩:=hI;have Ae:=An1 hp hr hd hdr
 have hrd:r<=d:=by
   have h1:r * 1<=r * p ^ i:=Int.mul_le_mul_of_nonneg_left (Int.pow_pos AGi) AGi
   omega
 unfold Aai;dsimp only;refine AGw (Q:=fun ex=>match ex with | .inl _=>p ∣ r | .inr _=> ¬ p ∣ r) (ATt (fun h=>AUq AGi (ATt (fun h2=>AGq ?_) fun h2=>AGq ?_)) fun h=>by omega) fun ex hex=>?_
 ·exact Int.dvd_of_tmod_eq_zero h2
 ·exact fun h3=>h2 (Int.tmod_eq_zero_of_dvd h3)
 ·cases ex with
  | inl u=>
    obtain ⟨q,rfl⟩:p ∣ r:=hex
    have hq:0 < q:=Int.pos_of_mul_pos_right hr AGi
    have hqr:1 * q<=p * q:=Int.mul_le_mul_of_nonneg_right AGi AGi
    refine AUq AGi (AGq ⟨AGi,q,?_,hq,by rw [hdr,Int.pow_succ];grind⟩)
    rw [Int.mul_tdiv_cancel_left _ AGi,AVj (x:=q) AGi AGi,wk AGi]
    rfl
  | inr u=>exact AGq ⟨i,r,rfl,hdr,hex⟩
def pwL (p:Int) (m:Nat):List Int:=AVs m fun i=>p ^ (2 ^ i)
theorem A6x {fuel:Nat} {a b:Int} (ha:a.natAbs < 18446744073709551616) (hb:b.natAbs < 18446744073709551616) (h0:b≠0):Am8 fuel a b=some (a / b,a % b,true):=if_pos ⟨ha,hb,h0⟩
theorem BCj {fuel:Nat} {d p:Int} (Am:1<=d) (hd:d<=10000) (hp:Pr p) (Ag:p<=9973) (hf:100 < fuel):Ok (Acd fuel d p) fun r=>Av3 d p r.1:=by
 have Ae:2<=p:=hp.1;have pw:∀ k:Nat,0 < p ^ k:=fun k=>Int.pow_pos AGi;unfold Acd;refine AGw (AUe (a:=Aft p) rfl) fun b hb=>?_;rw [<- Arz AGi hp] at hb;subst hb;refine ATt (fun h=>nomatch h) fun _=>AGw (AUe (a:=AYc d) rfl) fun s hs=>?_;subst hs;refine ATt (fun h=>absurd ((Aiq d).1 h) AGi) fun _=>AGw (AUe (a:=d) rfl) fun x hx=>AGw (Q:=(· =p)) ⟨p,if_pos AGi,rfl⟩ fun y hy=>?_;subst hx;subst hy;refine AGw (AT9 (fun j s=> ∃ r:Int,s=(pwL y (j + 1),r,((2 ^ j - 1:Nat):Int))/\0 < r/\x=r * y ^ (2 ^ j - 1)) 5 (Q:=fun e=> ∃ (j:Nat) (r:Int),e=(pwL y (j + 1),r,((2 ^ j - 1:Nat):Int))/\0 < r/\x=r * y ^ (2 ^ j - 1)/\¬ y ^ (2 ^ j) ∣ r/\j<=4) ⟨x,?_,AGi,ATv⟩ AGi fun j s hj hI=>?_) fun e he=>?_
 ·refine congrArg (fun l=>(l,x,(0:Int))) ?_;show [y]=[y ^ 1];rw [Int.pow_one]
 ·obtain ⟨r,rfl,hr,hxr⟩:=hI;have Ao:=An1 Ae hr hd hxr
  have Af:j<=3:=by
    rcases Nat.lt_or_ge 3 j with h | h
    · exfalso
      have:=Nat.pow_le_pow_right (show 0 < 2 by omega) h
      omega
    · exact h
  have hrx:r<=x:=by
    have h1:r * 1<=r * y ^ (2 ^ j - 1):=Int.mul_le_mul_of_nonneg_left (pw _) AGi
    omega
  have hjp:1<=2 ^ j:=Nat.one_le_two_pow
  have Ap:2 ^ j<=8:=by
    have:=Nat.pow_le_pow_right (show 0 < 2 by omega) Af
    omega
  have hyb:y ^ (2 ^ j)<=10000 * 9973:=by
    have e1:y ^ (2 ^ j)=y ^ (2 ^ j - 1) * y:=by rw [<- Int.pow_succ];congr 1;omega
    have h2:1 * y ^ (2 ^ j - 1)<=r * y ^ (2 ^ j - 1):=Int.mul_le_mul_of_nonneg_right AGi (Int.le_of_lt (pw _))
    rw [e1]
    exact Int.mul_le_mul AGi Ag AGi AGi
  have Ad:=pw (2 ^ j);unfold Ae3;dsimp only;have hl:(pwL y (j + 1)).length=j + 1:=AUi _ _;rw [hl,AVj (x:=((j + 1:Nat):Int) - 1) AGi AGi];refine ATu (n:=j) (ATx AGi) AGi (AUq AGi ?_);rw [show (((j + 1:Nat):Int) - 1).toNat=j by omega,show (1:Int) * 2 ^ j=((2 ^ j:Nat):Int) by simp,AVj (x:=((2 ^ j:Nat):Int)) AGi AGi];refine AGw (Q:=fun e:Bool × Int × Int=>if y ^ (2 ^ j) ∣ r then e=(true,r / y ^ (2 ^ j),((2 ^ (j + 1) - 1:Nat):Int)) else e=(false,r,((2 ^ j - 1:Nat):Int))) (AGw (AUe (A6x (fuel:=fuel) (a:=r) (b:=y ^ (2 ^ j)) AGi AGi AGi)) fun q hq=>AGw (AUe (a:=AYc q.2.1) rfl) fun s hs=>?_) fun e he=>?_
  ·subst hq;subst hs;dsimp only;refine ATt (fun h=>AGq ?_) fun h=>AGq ?_
   ·have hnd: ¬ y ^ (2 ^ j) ∣ r:=fun h2=>h ((Aiq _).2 (Int.emod_eq_zero_of_dvd h2));rw [if_neg hnd]
   ·have hdv:y ^ (2 ^ j) ∣ r:=Int.dvd_of_emod_eq_zero ((Aiq _).1 (Classical.not_not.1 h));rw [if_pos hdv,wk AGi,Nat.pow_succ];refine congrArg (fun z=>(true,r / y ^ (2 ^ j),z)) ?_;omega
  ·by_cases hdv:y ^ (2 ^ j) ∣ r
   ·rw [if_pos hdv] at he;subst he;dsimp only;refine ATt (fun _=>?_) fun h=>absurd rfl h;obtain ⟨q,rfl⟩:=hdv;have Ah:0 < q:=Int.pos_of_mul_pos_right hr Ad;have hqm:y ^ (2 ^ j) * 1<=y ^ (2 ^ j) * q:=Int.mul_le_mul_of_nonneg_left AGi AGi;have hB:10000 * 10000 < AW5:=by decide
    have m1:(y ^ (2 ^ j)).natAbs * (y ^ (2 ^ j)).natAbs<=10000 * 10000:=Nat.mul_le_mul AGi AGi;refine AGw (AUe (a:=y ^ (2 ^ j) * y ^ (2 ^ j)) (if_pos AGi)) fun z hz=>AUq AGi (AGq ⟨AGi,q,?_,Ah,?_⟩)
    ·subst hz;rw [Int.mul_ediv_cancel_left _ AGi];refine congrArg (fun l=>(l,q,((2 ^ (j + 1) - 1:Nat):Int))) ?_;have e1:y ^ (2 ^ j) * y ^ (2 ^ j)=y ^ (2 ^ (j + 1)):=by rw [<- Int.pow_add,Nat.pow_succ];congr 1;omega
     rw [e1];exact Ahf (j + 1) fun i=>y ^ (2 ^ i)
    ·rw [hxr];have e1:y ^ (2 ^ (j + 1) - 1)=y ^ (2 ^ j) * y ^ (2 ^ j - 1):=by rw [<- Int.pow_add,Nat.pow_succ];congr 1;omega
     rw [e1];grind
   ·rw [if_neg hdv] at he;subst he;exact ATt (fun h=>nomatch h) fun _=>AGq ⟨j,r,rfl,hr,hxr,hdv,AGi⟩
 ·obtain ⟨j,r,rfl,hr,hxr,hnd,Af⟩:=he;dsimp only
  have hY:∀ q,q < j->y ^ (2 ^ q)<=10000:=fun q hq=>by
    have h0:=Nat.pow_le_pow_right (show 0 < 2 by omega) (show q + 1<=j by omega)
    have h1:=Nat.one_le_two_pow (n:=q)
    rw [Nat.pow_succ] at h0
    have e1:y ^ (2 ^ j - 1)=y ^ (2 ^ q) * y ^ (2 ^ j - 1 - 2 ^ q):=by rw [<- Int.pow_add];congr 1;omega
    have h2:y ^ (2 ^ q) * 1<=y ^ (2 ^ q) * y ^ (2 ^ j - 1 - 2 ^ q):=Int.mul_le_mul_of_nonneg_left (pw _) (Int.le_of_lt (pw _))
    have h3:1 * y ^ (2 ^ j - 1)<=r * y ^ (2 ^ j - 1):=Int.mul_le_mul_of_nonneg_right AGi (Int.le_of_lt (pw _))
    omega
  have hl:(pwL y (j + 1)).length=j + 1:=AUi _ _;rw [hl,AVj (x:=((j + 1:Nat):Int) - 2) AGi AGi];refine AGw (AT9 (fun i s=> ∃ (r:Int) (k:Nat),s=((j:Int) - 1 - i,r,(k:Int))/\i<=j/\0 < r/\x=r * y ^ k/\¬ y ^ (2 ^ (j - i)) ∣ r) j (Q:=fun e=> ∃ (r:Int) (k:Nat),e=(r,(k:Int))/\x=r * y ^ k/\¬ y ∣ r) ⟨r,2 ^ j - 1,by refine congrArg (fun z=>(z,r,((2 ^ j - 1:Nat):Int))) ?_;omega,AGi,hr,hxr,by rw [Nat.sub_zero];exact hnd⟩ AGi fun i s hi hI=>?_) fun e he=>?_
  ·obtain ⟨r,k,rfl,hij,hr,hxr,hnd⟩:=hI;have Au:=An1 Ae hr hd hxr
   have hrx:r<=x:=by
     have h1:r * 1<=r * y ^ k:=Int.mul_le_mul_of_nonneg_left (pw _) AGi
     omega
   unfold Ae2;dsimp only;refine ATt (fun h=>?_) (fun h=>AGq ⟨r,k,rfl,hxr,?_⟩)
   ·obtain ⟨q,hq⟩:∃ q:Nat,(j:Int) - 1 - i=q:=⟨j - 1 - i,AGi⟩;rw [hq];have hqj:q < j + 1:=by omega
    have Aj:q<=3:=by omega
    have Av:1<=2 ^ q:=Nat.one_le_two_pow;have Aw:2 ^ q<=8:=by have:=Nat.pow_le_pow_right (show 0 < 2 by omega) Aj;omega
    have hyb:=hY q AGi;have Ad:=pw (2 ^ q);have hsmall:y ^ (2 ^ q) ∣ r->y ^ (2 ^ q)<=r:=fun h=>Int.le_of_dvd hr h;refine ATu (n:=q) (ATx hqj) rfl (AUq AGi ?_);rw [Int.toNat_natCast,show (1:Int) * 2 ^ q=((2 ^ q:Nat):Int) by simp,AVj (x:=((2 ^ q:Nat):Int)) AGi AGi];refine AGw (Q:=fun e:Bool × Int × Int=>if y ^ (2 ^ q) ∣ r then e=(true,r / y ^ (2 ^ q),((k + 2 ^ q:Nat):Int)) else e=(false,r,(k:Int))) (AGw (AUe (A6x (fuel:=fuel) (a:=r) (b:=y ^ (2 ^ q)) AGi AGi AGi)) fun t ht=>AGw (AUe (a:=AYc t.2.1) rfl) fun s hs=>?_) fun e he=>?_
    ·subst ht;subst hs;dsimp only;refine ATt (fun h=>AGq ?_) fun h=>AGq ?_
     ·have hnd: ¬ y ^ (2 ^ q) ∣ r:=fun h2=>h ((Aiq _).2 (Int.emod_eq_zero_of_dvd h2));rw [if_neg hnd]
     ·have hdv:y ^ (2 ^ q) ∣ r:=Int.dvd_of_emod_eq_zero ((Aiq _).1 (Classical.not_not.1 h));rw [if_pos hdv,wk AGi];refine congrArg (fun z=>(true,r / y ^ (2 ^ q),z)) ?_;omega
    ·rw [AVj (x:=(q:Int) - 1) AGi AGi];by_cases hdv:y ^ (2 ^ q) ∣ r
     ·rw [if_pos hdv] at he;subst he;obtain ⟨w,rfl⟩:=hdv;have Ak:0 < w:=Int.pos_of_mul_pos_right hr Ad;refine AGq ⟨AGi,w,k + 2 ^ q,?_,AGi,Ak,?_,?_⟩
      ·rw [Int.mul_ediv_cancel_left _ AGi];refine congrArg (fun z=>(z,w,((k + 2 ^ q:Nat):Int))) ?_;omega
      ·rw [hxr,Int.pow_add];grind
      ·rw [show j - (i + 1)=q by omega];rintro ⟨u,rfl⟩;refine hnd ⟨u,?_⟩;rw [show j - i=q + 1 by omega,Nat.pow_succ,Nat.mul_two,Int.pow_add];grind
     ·rw [if_neg hdv] at he;subst he;refine AGq ⟨AGi,r,k,?_,AGi,hr,hxr,by rw [show j - (i + 1)=q by omega];exact hdv⟩;refine congrArg (fun z=>(z,r,(k:Int))) ?_;omega
   ·have:j - i=0:=by omega
    rw [this,Nat.pow_zero,Int.pow_one] at hnd;exact hnd
  ·obtain ⟨r,k,rfl,h1,h2⟩:=he;exact AGq ⟨k,r,rfl,h1,h2⟩
theorem As7 {M:List (List Int)} (R:Atr M):M=tab M.length M.length (ent M):=Ay2 R.2.1
theorem A9u {n:Nat} {A:AS5} (Ab:1<=n) (hn:n<=8) (R:Av2 n A):Atr (tab n n A):=by
 refine ⟨by rw [AT8];exact ⟨Ab,hn⟩,fun z hz=>by rw [AT8];exact Ao1 z hz,?_⟩;rw [AT8];have e:∀ i j,i < n->j < n->ent (tab n n A) i j=A i j:=fun i j hi hj=>A7z hi hj;have hd:∀ k,k<=n->det k (ent (tab n n A))=det k A:=fun k hk=>AUm fun i j hi hj=>e i j AGi AGi
 have hm:∀ k i j,k<=n->i < n->j < n->Mn k (ent (tab n n A)) i j=Mn k A i j:=fun k i j hk hi hj=>by
   unfold Mn
   exact AUm fun a b ha hb=>e _ _ (Agw hk hi) (Agw hk hj)
 refine ⟨fun i j hi hj=>by rw [e i j hi hj,e j i hj hi];exact R.sym i j hi hj,fun k hk=>by rw [hd k hk];exact R.pos k hk,fun r l h1 h2=>?_,fun r hr=>?_,by rw [hd n (Nat.le_refl n)];exact R.dt⟩
 ·have:=R.sz r l h1 h2;unfold SzF at this ⊢;rw [hd _ AGi,hm _ _ _ AGi h2 AGi];exact this
 ·have:=R.lv r hr;unfold LvF at this ⊢;rw [hd _ AGi,hd _ AGi,hd _ AGi,hm _ _ _ AGi hr AGi];exact this
theorem Apq {M:List (List Int)} (R:Atr M):1<=det M.length (ent M)/\det M.length (ent M)<=10000:=⟨by have:=R.2.2.pos _ (Nat.le_refl _);omega,R.2.2.dt⟩
theorem A10 {M:List (List Int)} (R:Atr M) {i j:Nat} (hi:i < M.length) (hj:j < M.length):(ent M i j).natAbs<=192000:=by have:=Arq R.1.2 R.2.2 hi hj;omega
theorem Aus {fuel:Nat} {M:List (List Int)} (R:Atr M) (hf:100 < fuel):AYt fuel M=some (det M.length (ent M)):=by
 apply ok_eq;obtain ⟨v1,v2⟩:=Apq R;have hT:=As7 R;have h1:=R.1;unfold AYt;generalize hF:ent M=F at *;generalize hL:M.length=n at *;have hb:∀ i j,i < n->j < n->(F i j).natAbs<=192000:=fun i j hi hj=>by subst hF;subst hL;exact A10 R hi hj
 rw [hT];refine AGw (AUe (Az2 h1.1 AGi (fun i j hi hj=>Nat.le_trans (hb i j hi hj) AGk) AGi)) fun x hx=>?_;subst hx;refine AGw (AUe (Ape h1.2 (fun i j hi hj=>Nat.le_trans (hb i j hi hj) AGk) AGi)) fun y hy=>?_;subst hy;refine AGw (AUe (a:=(det n F,true)) (if_pos AGi)) fun z hz=>AGq ?_;rw [hz]
theorem BCk {d p v:Int} (Ab:1<=d) (hd:d<=10000) (hp:2<=p) (h:Av3 d p v):0<=v/\v<=13:=by
 obtain ⟨k,r,rfl,h1,h2⟩:=h
 have hr:0 < r:=by
   have hpk:0 < p ^ k:=Int.pow_pos AGi
   rcases Int.lt_or_le 0 r with h | h
   · exact h
   · have:=Int.mul_nonpos_of_nonpos_of_nonneg h (Int.le_of_lt hpk);omega
 have:=An1 hp hr hd h1;omega
theorem Aut {fuel:Nat} {M:List (List Int)} {p:Int} (R:Atr M) (hp:Pr p) (hp2:p<=9973) (hf:100 < fuel):∃ v,Av3 (det M.length (ent M)) p v/\(0<=v/\v<=13)/\AZd fuel M p=some (if p=2 then v + 3 else v + 1)/\Agu fuel M p=some (if p=2 then v + 3 else v + 1):=by
  obtain ⟨v1,v2⟩:=Apq R;obtain ⟨⟨v,r0,e0⟩,hv1,hv⟩:=BCj v1 v2 hp hp2 hf;dsimp only at hv;have hvb:=BCk v1 v2 hp.1 hv
  refine ⟨v,hv,hvb,?_,?_⟩
  · apply ok_eq;have hT:=As7 R;have h1:=R.1;have RF:=R.2.2;unfold AZd;generalize hF:ent M=F at *
    generalize hL:M.length=n at *
    have hb:∀ i j,i < n->j < n->(F i j).natAbs<=192000:=fun i j hi hj=>by subst hF;subst hL;exact A10 R hi hj
    rw [hT];refine AGw (AUe (A9t h1.1 AGi (fun i j hi hj=>Nat.le_trans (hb i j hi hj) AGk) hf)) fun x hx=>?_;subst hx;dsimp only
    refine AGw (Q:=(· =(det n F,true))) ?_ fun y hy=>?_
    · unfold Aio;refine AGw (AUe (Ayi h1.1 AGi hf).2) fun x hx=>?_;subst hx;dsimp only;exact ATt (fun h=>nomatch h) fun _=>ATt (fun h=>absurd rfl h) fun _=>AGw (AUe (BCi h1.1 h1.2 RF hf)) fun z hz=>AGq (by rw [hz])
    · subst hy;dsimp only;refine AGw (AUe hv1) fun z hz=>?_;subst hz;dsimp only
      refine ATt (fun h=>AGq ?_) fun h=>AGq ?_
      · rw [if_pos h,wk AGi]
      · rw [if_neg h,wk AGi]
  · apply ok_eq;unfold Agu;refine AGw (AUe (Aus R hf)) fun d hd=>?_;subst hd;refine AGw (A6w v1 v2 hp.1 hp2 hf) fun w hw=>?_;obtain rfl:=Av4 hp.1 hv hw
    refine ATt (fun h=>AGq ?_) fun h=>AGq ?_
    · rw [if_pos h,wk AGi]
    · rw [if_neg h,wk AGi]
end Go.Proofs.YthbndcbclhkepaaGreatDoor
namespace Go.Proofs.YthbndcbclhkepaaGreatDoor
open Go Go.QF
set_option maxRecDepth 100000
set_option maxHeartbeats 4000000
def Ad2 (fuel:Nat) (a3:LiI) (Ab:Int):Option ((Int) ⊕ ((Bool) ⊕ (Unit))):=
  (if Ab < (a3.length:Int) then ((gI a3 Ab).bind fun Ac=>((gI a3 0).bind fun Ad=>(if ¬ (Ac.length:Int)=(Ad.length:Int) then (some (Sum.inr<| Sum.inl <| false)) else (some (Sum.inl (w64 (Ab + 1))))))) else (some (Sum.inr<| Sum.inr <| ())))
def AXy (fuel:Nat) (a3:LiI):Option Bool:=
  (((if (a3.length:Int) < 1 then (some (Sum.inl <| false)) else (if 16 < (a3.length:Int) then (some (Sum.inl <| false)) else ((gI a3 0).bind fun Ab=>(if (Ab.length:Int) < 1 then (some (Sum.inl <| false)) else (if 16 < (Ab.length:Int) then (some (Sum.inl <| false)) else (some (Sum.inr <| ()))))))):Option ((Bool) ⊕ (Unit))).bind (fun ex=>match ex with | Sum.inl Ac=>(some Ac) | Sum.inr (_)=>((iter (fun s=>Ad2 fuel a3 s) fuel 0).bind (fun ex=>match ex with | Sum.inl Ad=>(some Ad) | Sum.inr (_)=>(some true)))))
theorem Ad3 {fuel:Nat} {h:AGt} {Ao:Value} {a3:LiI} {r:Bool} (H2:AXs (cI .i64) h Ao a3) (hp:AXy fuel a3=some r):ATs Tryz.prog 79 #[Ao] h (fun x h'=>Ext h h'/\x= .bool r):=by
 unfold AXy at hp;refine cwf (l:=[_]) Tryz.func79 rfl rfl (AGm (AGu ?_));have K0:=Kst.k0 h;obtain ⟨Az,Ap,Ac⟩:=AGn hp;refine Acg 134217700 (fun x:Unit=>[]) (fun x h'=>(Sum.inr <| ())=Az/\Kst h h' (K0.L)) ?_ ?_
 ·refine AGm (AGj (AT4 ATb rfl H2 (ATl rfl rfl (AGj ?_))));by_cases Af:(a3.length:Int) < 1
  ·rw [decide_eq_true Af];refine Ab6 8 true (ATj rfl (AGj (Acp 13 true (ATj rfl (AGj (Acp 20 true (ATj rfl (AGr (ATp rfl (AGm (AGu ?_)))))))))));obtain rfl:=AGl (ifT Ap Af);refine AGz (ATc ?_);obtain rfl:=AGl Ac;exact ⟨_,AS2,K0.x,rfl⟩
  ·have Aq:=ifF Ap Af;rw [decide_eq_false Af];refine ATn 8 false (AGj (ATn 8 false (AT4 ATb rfl H2 (ATn 8 false (AYb rfl rfl (ATm rfl (AGj ?_)))))));by_cases Ag:16 < (a3.length:Int)
   ·rw [decide_eq_true Ag];refine Acp 13 true (ATj rfl (AGj (Acp 20 true (ATj rfl (AGr (ATp rfl (AGm (AGu ?_))))))));obtain rfl:=AGl (ifT Aq Ag);refine AGz (ATc ?_);obtain rfl:=AGl Ac;exact ⟨_,AS2,K0.x,rfl⟩
   ·rw [decide_eq_false Ag];refine ATn 13 false (AGj (ATn 13 false ?_));obtain ⟨A3,Ar,Au⟩:=AGn (ifF Aq Ag);refine Am2 ATb rfl H2 rfl Ar fun Bf Bg Bh A4 A5=>ATn 13 false (AT3 ATq rfl (ATo A4 K0.x) (ATn 13 false (AUp AS9 rfl A5 (ATn 13 false (ATl rfl rfl (ATm rfl (AGj ?_)))))));by_cases Ah:(A3.length:Int) < 1
    ·rw [decide_eq_true Ah];refine Acp 20 true (ATj rfl (AGr (ATp rfl (AGm (AGu ?_)))));obtain rfl:=AGl (ifT Au Ah);refine AGz (ATc ?_);obtain rfl:=AGl Ac;exact ⟨_,AS2,K0.x,rfl⟩
    ·have Av:=ifF Au Ah;rw [decide_eq_false Ah];refine ATn 20 false (AGj (ATn 20 false (Am2 ATb rfl H2 rfl Ar fun Bi Bj Bl A6 A7=>ATn 20 false (AT3 ATq rfl (ATo A6 K0.x) (ATn 20 false (AUp AS9 rfl A7 (ATn 20 false (AYb rfl rfl (ATm rfl (AGr (⟨_,rfl,fun Ai=>?_,fun Ai=>?_⟩)))))))))))
     ·refine AGm (AGu ?_);obtain rfl:=AGl (ATy Av Ai);refine AGz (ATc ?_);obtain rfl:=AGl Ac;exact ⟨_,AS2,K0.x,rfl⟩
     ·refine AGy (q_t ?_);exact ⟨(():Unit),⟨AGl (ATz Av Ai),K0⟩,trivial⟩
 rintro ⟨⟩ Bm Bn ⟨A8,Aw⟩;subst A8;refine AGo (AGm (AGj (AT4 ATb rfl H2 (AGj (AGr (AGp (AYd 2198486384660 Ac (fun x=>[(29,(.int .i64 x))]) (fun x=>Aw.L) Aw ⟨rfl,trivial⟩ ?_)))))));rintro Bo Bp Bq Br Ad Aj Ax;unfold Ad2 at Aj;refine AGm (ATl rfl rfl (AGr (AGo (⟨_,rfl,fun Ak=>?_,fun Ak=>?_⟩))))
 ·refine AGy (q_t (AGo (AGp (AGm ?_))));obtain ⟨Bt,A9,Ba⟩:=AGn (ATy Aj Ak);refine Adn ATb ATq H2 Ad.x A9 fun _ Bu Bb=>ATw (AGj (AUp AS9 rfl Bb (AGj ?_)));obtain ⟨Bv,Bc,Ay⟩:=AGn Ba;refine Adn ATb ATq H2 Ad.x Bc fun _ Bw Be=>AUp AS9 rfl Be (AWp rfl rfl (AGr (⟨_,rfl,fun Am=>?_,fun Am=>?_⟩)))
  ·refine AGm (AGu (AGz (AUg (ATc (ATc (AUg (ATc ?_)))))));obtain rfl:=AGl (Ax _ (AGl (ATy Ay Am)).symm);exact ⟨_,AS2,Ad.x,rfl⟩
  ·refine AGy (q_b (q_t (AS3 (ATk rfl rfl (AGj (AGr ?_))))));exact ⟨_,(AGl (ATz Ay Am)).symm,Ad,rfl,trivial⟩
 ·refine AS8 (ATa (ATa (AT7 (q_t (AGm (AGu (AGz ?_)))))));obtain rfl:=AGl (Ax _ (AGl (ATz Aj Ak)).symm);exact ⟨_,AS2,Ad.x,rfl⟩
def AZ3 (fuel:Nat) (a3:LiI):Option Bool:=
  ((AXy fuel a3).bind fun x5=>(if x5=true then ((gI a3 0).bind fun Ac=>(if (a3.length:Int)=(Ac.length:Int) then (some (decide ((a3.length:Int)<=8))) else (some false))) else (some false)))
theorem Ajd {fuel:Nat} {h:AGt} {Ae:Value} {a3:LiI} {r:Bool} (H2:AXs (cI .i64) h Ae a3) (hp:AZ3 fuel a3=some r):ATs Tryz.prog 118 #[Ae] h (fun x h'=>Ext h h'/\x= .bool r):=by
 unfold AZ3 at hp;refine cwf (l:=[_]) Tryz.func118 rfl rfl (AGm (ATw (AGj ?_)));have K0:=Kst.k0 h;obtain ⟨x5,Ak,Ag⟩:=AGn hp;refine AW0 K0 (Ad3 (H2.ext K0.x) Ak) fun h9 E8 Ab=>AGj ?_;cases Ah:x5
 ·refine Acp 5 false (Aej 5 false (ATm rfl (AGj (Ab6 14 false (ATm rfl (AGu (AGz ?_)))))));obtain rfl:=AGl (Aa7 Ag Ah);exact ⟨_,AS2,Ab.x,rfl⟩
 ·refine ATn 5 true (AGj (ATn 5 true (AT4 ATb rfl H2 (ATn 5 true (AGj (ATn 5 true ?_))))));obtain ⟨Am,Ao,Ai⟩:=AGn (ifT Ag Ah);refine Am2 ATb rfl H2 rfl Ao fun Av Aw Ax Ap Aq=>ATn 5 true (AT3 ATq rfl (ATo Ap Ab.x) (ATn 5 true (AUp AS9 rfl Aq (ATn 5 true (AUy rfl rfl (ATj rfl (AGj ?_)))))));by_cases Ac:(a3.length:Int)=(Am.length:Int)
  ·rw [decide_eq_true Ac];refine ATn 14 true (AGj (ATn 14 true (AT4 ATb rfl H2 (ATn 14 true (Ap8 rfl rfl (ATj rfl (AGu (AGz ?_))))))));obtain rfl:=AGl (ifT Ai Ac);exact ⟨_,AS2,Ab.x,rfl⟩
  ·rw [decide_eq_false Ac];refine Ab6 14 false (ATm rfl (AGu (AGz ?_)));obtain rfl:=AGl (ifF Ai Ac);exact ⟨_,AS2,Ab.x,rfl⟩
def AVb (fuel:Nat) (a1:Int):Option Int:=
  (if a1 < 2 then (some 1) else (if 2147483647 < a1 then (some 1) else (some 0)))
theorem AYw {fuel:Nat} {h:AGt} {a1 r:Int} (hp:AVb fuel a1=some r):ATs Tryz.prog 80 #[(.int .i64 a1)] h (fun x h'=>Ext h h'/\x= .int .i64 r):=by
 unfold AVb at hp;refine cwf (l:=[_]) Tryz.func80 rfl rfl (AGm (AGu (AGo (AGm (AGj (ATl rfl rfl (AGj ?_)))))));have K0:=Kst.k0 h;by_cases Aa:a1 < 2
 ·rw [decide_eq_true Aa];refine Aej 5 true (ATj rfl (AGr (ATp rfl (AGm (AGu (AGz (ATc ?_)))))));obtain rfl:=AGl (ifT hp Aa);exact ⟨_,AS2,K0.x,rfl⟩
 ·have Ae:=ifF hp Aa;rw [decide_eq_false Aa];refine ATn 5 false (AGj (ATn 5 false (AYb rfl rfl (ATm rfl (AGr (⟨_,rfl,fun Ad=>?_,fun Ad=>?_⟩))))))
  ·refine AGm (AGu (AGz (ATc ?_)));obtain rfl:=AGl (ATy Ae Ad);exact ⟨_,AS2,K0.x,rfl⟩
  ·refine AGy (q_t (AGm (AGu (AGz ?_))));obtain rfl:=AGl (ATz Ae Ad);exact ⟨_,AS2,K0.x,rfl⟩
def Abh (fuel:Nat) (a5 Ad:Int) (Ae:LiA) (Ab:Int) (Ac:LiI):Option ((Int × LiI) ⊕ ((LiI))):=
  (if Ab < (Ae.length:Int) then ((gI Ae Ab).bind fun Ag=>((gI Ac Ad).bind fun Af=>(if a5≠0 then (if a5≠0 then ((gI Af Ab).bind fun Ah=>(some (Sum.inl ((w64 (Ab + 1)),(sI Ac Ad (sI Af Ab (Int.tmod (w64 ((Int.tmod Ag a5) + a5)) a5))))))) else none) else none))) else (some (Sum.inr<| Ac)))
def Abi (fuel:Nat) (a3:LiI) (a5 Aa:Int) (Ac:LiI):Option ((Int × LiI) ⊕ ((LiI))):=
  (if Aa < (a3.length:Int) then ((gI a3 Aa).bind fun Ab=>(if 0<=(Ab.length:Int)/\(Ab.length:Int)<=100000000 then ((gI Ac Aa).bind fun Ag=>((iter (fun s=>Abh fuel a5 Aa Ab s.1 s.2) fuel (0,(sI Ac Aa (List.replicate (Int.toNat (Ab.length:Int)) (0:Int))))).bind (fun (Af:LiI)=>(some (Sum.inl ((w64 (Aa + 1)),Af)))))) else none)) else (some (Sum.inr<| Ac)))
def AVh (fuel:Nat) (a3:LiI) (a5:Int):Option LiI:=
  (if 0<=(a3.length:Int)/\(a3.length:Int)<=100000000 then ((iter (fun s=>Abi fuel a3 a5 s.1 s.2) fuel (0,(List.replicate (Int.toNat (a3.length:Int)) ([]:List Int)))).bind (fun (Ac:LiI)=>(some Ac))) else none)
theorem AY2 {fuel:Nat} {h:AGt} {Ao:Value} {a3:LiI} {a5:Int} {r:LiI} (H2:AXs (cI .i64) h Ao a3) (hp:AVh fuel a3 a5=some r):ATs Tryz.prog 81 #[Ao,(.int .i64 a5)] h (fun x h'=>Ext h h'/\ ∃ (x0:Value) (F0:List Nat) (A3:List LnA) (A4:List Value),x=x0/\AVt (cI .i64) 49 2 h' F0 A3 A4 x0 r/\Sp h' h.size [F0]):=by
 unfold AVh at hp;refine cwf (l:=[_,_]) Tryz.func81 rfl rfl (AGm (ATw (AGj (AT4 ATb rfl H2 ?_))));obtain ⟨A5,A6⟩:=ifN hp;refine Aj1 (cI .i64) 2 ATb Aff rfl trivial tt2 rfl rfl AGk A5 fun A7 A8 A9 Au Ce Ba E8 S9=>AGu (AGo (AGm (AGj (AT4 ATb rfl H2 (AGj (AGr (AGp ?_)))))));have Av:=(Kst.k0 h).no2 E8 S9 Ba;refine AX6 281474976678848 (fun x:(Int) × (LiI) × LnA × LnN × LvA=>(x.1,x.2.1)) ((0,(List.replicate (Int.toNat (a3.length:Int)) ([]:List Int)),A7,A8,A9):(Int) × (LiI) × LnA × LnN × LvA) A6 (fun x=>[(15,(.int .i64 x.1))]) (fun x=>Av.L.set 0 (aO2 (cI .i64) 49 2 x.2.2.1 x.2.2.2.1 x.2.2.2.2 Au x.2.1)) Av ⟨rfl,trivial⟩ ?_;rintro ⟨Aa,Be,Cf,Aw,Bf⟩ Cg Ch Ci Ab Ag Bg;unfold Abi at Ag;refine AGm (ATl rfl rfl (AGr (AGo (⟨_,rfl,fun Ah=>?_,fun Ah=>?_⟩))))
 ·refine AGy (q_t (AGo (AGp (AGm (AGj ?_)))));obtain ⟨Bh,Bi,Bj⟩:=AGn (ATy Ag Ah);refine Adn ATb ATq H2 Ab.x Bi fun _ Cj Ai=>ATi (ATw (AGj (AGj (AGj (AUp AS9 rfl Ai ?_)))));obtain ⟨Bl,Bm⟩:=ifN Bj;refine Ai3 (c:=(cI .i64)) (a:=0) AS9 Acy rfl rfl (fun _=>rfl) rfl trivial tt2 rfl rfl AGk Bl fun Ax Bn Ck Bo Bp Bq Br=>?_;have Ac:=Ab.no Bp (AX2 Bq Br) Bo;obtain ⟨Cm,Ay,Bt⟩:=AGn Bm;refine AVf ATb rfl (Ac.o2 p1) rfl Ay fun Bu Cn Bv Co Cp=>Aj0 ATq (Ac.o2 p1) Ay Bv rfl rfl (Ac.o p0) (Ac.dj p0 p1 AGk) fun Cq Bw Bx By=>AZg (AGj (AUp AS9 rfl Ai (AGj (AGr (AGp ?_)))));have Aj:=(Ac.m2 p0 p1 AGk Bx Bw (fun z hz=> .inl (By z hz))).sel [1] AGk;dsimp only [AYv,Ab8] at Aj;refine AX6 140737219920640 (fun x:(Int) × (LiI) × LnA × LnN × LvA=>(x.1,x.2.1)) ((0,(sI Be Aa (List.replicate (Int.toNat (Bh.length:Int)) (0:Int))),(Bu :: (Aw.set (Int.toNat Aa) [Ax]).flatten),(Aw.set (Int.toNat Aa) [Ax]),(Bf.set (Int.toNat Aa) Bn)):(Int) × (LiI) × LnA × LnN × LvA) Bt (fun x=>[(28,(.int .i64 x.1))]) (fun x=>Aj.L.set 0 (aO2 (cI .i64) 49 2 x.2.2.1 x.2.2.2.1 x.2.2.2.2 Au x.2.1)) Aj ⟨rfl,trivial⟩ ?_;rintro ⟨Cr,Ct,Cu,Cv,Cw⟩ Cx Cy Cz Ad Ak Bz;unfold Abh at Ak;refine AGm (ATl rfl rfl (AGr (AGo (⟨_,rfl,fun Am=>?_,fun Am=>?_⟩))))
  ·refine AGy (q_t (AGo (AGp (AGm (AGj ?_)))));obtain ⟨C0,B1,B3⟩:=AGn (ATy Ak Am);refine Asp AS9 ATe Ai Ad.x B1 fun _=>(ATi (AGu (AXr (AGj (AGj ?_)))));obtain ⟨C1,Az,B4⟩:=AGn B3;refine AUh ATb ATq (Ad.o2 p0) Az fun _ C2 B5=>AGj (AGj (AGj ?_));obtain ⟨B6,B7⟩:=ifN B4;refine Acw rfl rfl B6 (AGj (ATk rfl rfl (AGj ?_)));obtain ⟨B8,B9⟩:=ifN B7;refine Acw rfl rfl B8 ?_;obtain ⟨C3,Ca,Cb⟩:=AGn B9;refine AZv (m:=Aa) Ad p0 AS9 ATe B5 Az Ca (fun _=>rfl) fun _ C4 Cd=>ATh (q_b (q_t (AS3 (ATk rfl rfl (AGj (AGr ?_))))));exact ⟨(_,_,_,_,_),(AGl Cb).symm,Cd,rfl,trivial⟩
  ·refine AS8 (ATa (ATa (AT7 (q_b (q_t (AS3 (ATk rfl rfl (AGj (AGr ?_)))))))));exact ⟨(_,_,_,_,_),(AGl (Bz _ (AGl (ATz Ak Am)).symm)).symm,Ad,rfl,trivial⟩
 ·refine AS8 (ATa (ATa (AT7 (q_t (AGm (AGj (AGu (AGz ?_))))))));obtain rfl:=AGl (Bg _ (AGl (ATz Ag Ah)).symm);exact ⟨_,AS2,Ab.x,_,_,_,_,rfl,(Ab.o2 p0),Ab.s.sel [0] AGk⟩
def Agy (fuel:Nat) (a3:LiI) (Ab Aa:Int) (Ac:LiI):Option ((Int × LiI) ⊕ ((LiI))):=
  (if Aa < (a3.length:Int) then ((gI a3 Aa).bind fun Af=>((gI Ac Ab).bind fun Ae=>((gI Af Ab).bind fun Ag=>((gI Ae Aa).bind fun Ah=>(some (Sum.inl ((w64 (Aa + 1)),(sI Ac Ab (sI Ae Aa Ag))))))))) else (some (Sum.inr<| Ac)))
def Agz (fuel:Nat) (a3:LiI) (x5:LiA) (Aa:Int) (Ac:LiI):Option ((Int × LiI) ⊕ ((LiI))):=
  (if Aa < ((List.replicate (Int.toNat (x5.length:Int)) ([]:List Int)).length:Int) then (if 0<=(a3.length:Int)/\(a3.length:Int)<=100000000 then ((gI Ac Aa).bind fun Af=>((iter (fun s=>Agy fuel a3 Aa s.1 s.2) fuel (0,(sI Ac Aa (List.replicate (Int.toNat (a3.length:Int)) (0:Int))))).bind (fun (Ae:LiI)=>(some (Sum.inl ((w64 (Aa + 1)),Ae)))))) else none) else (some (Sum.inr<| Ac)))
def Afi (fuel:Nat) (a3:LiI):Option LiI:=
  ((gI a3 0).bind fun x5=>(if 0<=(x5.length:Int)/\(x5.length:Int)<=100000000 then ((iter (fun s=>Agz fuel a3 x5 s.1 s.2) fuel (0,(List.replicate (Int.toNat (x5.length:Int)) ([]:List Int)))).bind (fun (Ac:LiI)=>(some Ac))) else none))
theorem Al7 {fuel:Nat} {h:AGt} {Ao:Value} {a3 r:LiI} (H2:AXs (cI .i64) h Ao a3) (hp:Afi fuel a3=some r):ATs Tryz.prog 121 #[Ao] h (fun x h'=>Ext h h'/\ ∃ (x0:Value) (F0:List Nat) (Az:List LnA) (A3:List Value),x=x0/\AVt (cI .i64) 49 2 h' F0 Az A3 x0 r/\Sp h' h.size [F0]):=by
 unfold Afi at hp;refine cwf (l:=[_]) Tryz.func121 rfl rfl (AGm (ATw (AGj ?_)));have K0:=Kst.k0 h;obtain ⟨x5,A5,A6⟩:=AGn hp;refine Adn ATb ATq H2 K0.x A5 fun _ r8 H9=>AUp AS9 rfl H9 ?_;obtain ⟨A8,A9⟩:=ifN A6;refine Aj1 (cI .i64) 2 ATb Aff rfl trivial tt2 rfl rfl AGk A8 fun Ba Bb Bc Au Ce Be Bf Bg=>AGu (AGo (AGm (AGj ?_)));have Ag:=K0.no2 Bf Bg Be;refine AT4 ATb rfl (Ag.o2 p0).rd (AGj (AGr (AGp (AX6 4398046494832 (fun x:(Int) × (LiI) × LnA × LnN × LvA=>(x.1,x.2.1)) ((0,(List.replicate (Int.toNat (x5.length:Int)) ([]:List Int)),Ba,Bb,Bc):(Int) × (LiI) × LnA × LnN × LvA) A9 (fun x=>[(14,(.int .i64 x.1))]) (fun x=>Ag.L.set 0 (aO2 (cI .i64) 49 2 x.2.2.1 x.2.2.2.1 x.2.2.2.2 Au x.2.1)) Ag ⟨rfl,trivial⟩ ?_))));rintro ⟨Aa,Bh,Cf,Av,Bi⟩ Cg Ch Ci Ae Ah Bj;unfold Agz at Ah;refine AGm (ATl rfl rfl (AGr (AGo (⟨_,rfl,fun Ai=>?_,fun Ai=>?_⟩))))
 ·refine AGy (q_t (AGo (AGp (AGm (AGj (ATw (AGj (AGj (AGj (AT4 ATb rfl H2 ?_))))))))));obtain ⟨Bl,Bm⟩:=ifN (ATy Ah Ai);refine Ai3 (c:=(cI .i64)) (a:=0) AS9 Acy rfl rfl (fun _=>rfl) rfl trivial tt2 rfl rfl AGk Bl fun Aw Bn Cj Bo Bp Bq Br=>?_;have Ab:=Ae.no Bp (AX2 Bq Br) Bo;obtain ⟨Ck,Ax,Bt⟩:=AGn Bm;refine AVf ATb rfl (Ab.o2 p1) rfl Ax fun Bu Cm Bv Cn Co=>Aj0 ATq (Ab.o2 p1) Ax Bv rfl rfl (Ab.o p0) (Ab.dj p0 p1 AGk) fun Cp Bw Bx By=>AZg (AGj (AT4 ATb rfl H2 (AGj (AGr (AGp ?_)))));have Aj:=(Ab.m2 p0 p1 AGk Bx Bw (fun z hz=> .inl (By z hz))).sel [1] AGk;dsimp only [AYv,Ab8] at Aj;refine AX6 2198989701216 (fun x:(Int) × (LiI) × LnA × LnN × LvA=>(x.1,x.2.1)) ((0,(sI Bh Aa (List.replicate (Int.toNat (a3.length:Int)) (0:Int))),(Bu :: (Av.set (Int.toNat Aa) [Aw]).flatten),(Av.set (Int.toNat Aa) [Aw]),(Bi.set (Int.toNat Aa) Bn)):(Int) × (LiI) × LnA × LnN × LvA) Bt (fun x=>[(25,(.int .i64 x.1))]) (fun x=>Aj.L.set 0 (aO2 (cI .i64) 49 2 x.2.2.1 x.2.2.2.1 x.2.2.2.2 Au x.2.1)) Aj ⟨rfl,trivial⟩ ?_;rintro ⟨Cq,Cr,Ct,Cu,Cv⟩ Cw Cx Cy Ac Ak Bz;unfold Agy at Ak;refine AGm (ATl rfl rfl (AGr (AGo (⟨_,rfl,fun Am=>?_,fun Am=>?_⟩))))
  ·refine AGy (q_t (AGo (AGp (AGm (AGj ?_)))));obtain ⟨Cz,B1,B3⟩:=AGn (ATy Ak Am);refine Adn ATb ATq H2 Ac.x B1 fun _ C0 B4=>ATi (AGu (AXr (AGj (AGj ?_))));obtain ⟨C1,Ay,B5⟩:=AGn B3;refine AUh ATb ATq (Ac.o2 p0) Ay fun _ C2 B6=>AGj (AGj (AGj ?_));obtain ⟨C3,B7,B8⟩:=AGn B5;refine Asp AS9 ATe B4 Ac.x B7 fun _=>?_;obtain ⟨C4,B9,Ca⟩:=AGn B8;refine AZv (m:=Aa) Ac p0 AS9 ATe B6 Ay B9 (fun _=>rfl) fun _ C5 Cb=>ATh (q_b (q_t (AS3 (ATk rfl rfl (AGj (AGr ?_))))));exact ⟨(_,_,_,_,_),(AGl Ca).symm,Cb,rfl,trivial⟩
  ·refine AS8 (ATa (ATa (AT7 (q_b (q_t (AS3 (ATk rfl rfl (AGj (AGr ?_)))))))));exact ⟨(_,_,_,_,_),(AGl (Bz _ (AGl (ATz Ak Am)).symm)).symm,Ac,rfl,trivial⟩
 ·refine AS8 (ATa (ATa (AT7 (q_t (AGm (AGj (AGu (AGz ?_))))))));obtain rfl:=AGl (Bj _ (AGl (ATz Ah Ai)).symm);exact ⟨_,AS2,Ae.x,_,_,_,_,rfl,(Ae.o2 p0),Ae.s.sel [0] AGk⟩
def Ahz (fuel:Nat) (a9 Ad Ag:Int) (Ae:LiA) (Aa:Int) (Ab:LiI):Option ((Int × LiI) ⊕ ((LiI))):=
  (if Aa < (Ae.length:Int) then ((gI Ae Aa).bind fun Ah=>((gI Ab Ad).bind fun Af=>((gI Af Aa).bind fun Ai=>(if a9≠0 then (some (Sum.inl ((w64 (Aa + 1)),(sI Ab Ad (sI Af Aa (Int.tmod (w64 (Ai + (w64 (Ag * Ah)))) a9)))))) else none)))) else (some (Sum.inr<| Ab)))
def Ah0 (fuel:Nat) (a7:LiI) (a9 Af:Int) (Ab:LiA) (Aa:Int) (Ac:LiI):Option ((Int × LiI) ⊕ ((LiI))):=
  (if Aa < (Ab.length:Int) then ((gI Ab Aa).bind fun Ag=>((gI a7 Aa).bind fun Ah=>((iter (fun s=>Ahz fuel a9 Af Ag Ah s.1 s.2) fuel (0,Ac)).bind (fun (Ai:LiI)=>(some (Sum.inl ((w64 (Aa + 1)),Ai))))))) else (some (Sum.inr<| Ac)))
def Ah1 (fuel:Nat) (a3 a7:LiI) (a9 Aa:Int) (Ab:LiI):Option ((Int × LiI) ⊕ ((LiI))):=
  (if Aa < (a3.length:Int) then ((gI a3 Aa).bind fun Ag=>((gI a7 0).bind fun Ac=>(if 0<=(Ac.length:Int)/\(Ac.length:Int)<=100000000 then ((gI Ab Aa).bind fun Ai=>((iter (fun s=>Ah0 fuel a7 a9 Aa Ag s.1 s.2) fuel (0,(sI Ab Aa (List.replicate (Int.toNat (Ac.length:Int)) (0:Int))))).bind (fun (Ah:LiI)=>(some (Sum.inl ((w64 (Aa + 1)),Ah)))))) else none))) else (some (Sum.inr<| Ab)))
def Aep (fuel:Nat) (a3 a7:LiI) (a9:Int):Option LiI:=
  (if 0<=(a3.length:Int)/\(a3.length:Int)<=100000000 then ((iter (fun s=>Ah1 fuel a3 a7 a9 s.1 s.2) fuel (0,(List.replicate (Int.toNat (a3.length:Int)) ([]:List Int)))).bind (fun (Ad:LiI)=>(some Ad))) else none)
theorem Ah2 {fuel:Nat} {h:AGt} {Au:Value} {a3:LiI} {Av:Value} {a7:LiI} {a9:Int} {r:LiI} (H2:AXs (cI .i64) h Au a3) (H6:AXs (cI .i64) h Av a7) (hp:Aep fuel a3 a7 a9=some r):ATs Tryz.prog 120 #[Au,Av,(.int .i64 a9)] h (fun x h'=>Ext h h'/\ ∃ (x0:Value) (F0:List Nat) (Bb:List LnA) (Bc:List Value),x=x0/\AVt (cI .i64) 49 2 h' F0 Bb Bc x0 r/\Sp h' h.size [F0]):=by
 unfold Aep at hp;refine cwf (l:=[_,_,_]) Tryz.func120 rfl rfl (AGm (ATw (AGj (AT4 ATb rfl H2 ?_))));obtain ⟨Be,Bf⟩:=ifN hp;refine Aj1 (cI .i64) 2 ATb Aff rfl trivial tt2 rfl rfl AGk Be fun Bg Bh Bi Ai Cy Bj Bl Bm=>AGu (AGo (AGm (AGj (AT4 ATb rfl H2 (AGj (AGr (AGp ?_)))))));have A4:=(Kst.k0 h).no2 Bl Bm Bj;refine AX6 2361183241434822098688 (fun x:(Int) × (LiI) × LnA × LnN × LvA=>(x.1,x.2.1)) ((0,(List.replicate (Int.toNat (a3.length:Int)) ([]:List Int)),Bg,Bh,Bi):(Int) × (LiI) × LnA × LnN × LvA) Bf (fun x=>[(19,(.int .i64 x.1))]) (fun x=>A4.L.set 0 (aO2 (cI .i64) 49 2 x.2.2.1 x.2.2.2.1 x.2.2.2.2 Ai x.2.1)) A4 ⟨rfl,trivial⟩ ?_;rintro ⟨Aa,Bn,Cz,A5,Bo⟩ C0 C1 C2 Ab Aj Bp;unfold Ah1 at Aj;refine AGm (ATl rfl rfl (AGr (AGo (⟨_,rfl,fun Ak=>?_,fun Ak=>?_⟩))))
 ·refine AGy (q_t (AGo (AGp (AGm (AGj ?_)))));obtain ⟨C3,Bq,Br⟩:=AGn (ATy Aj Ak);refine Adn ATb ATq H2 Ab.x Bq fun _ C4 A6=>ATi (ATw (AGj (AGj (AGj ?_))));obtain ⟨Bt,Bu,Bv⟩:=AGn Br;refine Adn ATb ATq H6 Ab.x Bu fun _ C5 Bw=>AUp AS9 rfl Bw ?_;obtain ⟨Bx,By⟩:=ifN Bv;refine Ai3 (c:=(cI .i64)) (a:=0) AS9 Acy rfl rfl (fun _=>rfl) rfl trivial tt2 rfl rfl AGk Bx fun A7 Bz C6 B1 B3 B4 B5=>?_;have Ad:=Ab.no B3 (AX2 B4 B5) B1;obtain ⟨C7,A8,B6⟩:=AGn By;refine AVf ATb rfl (Ad.o2 p1) rfl A8 fun B7 C8 B8 C9 Da=>Aj0 ATq (Ad.o2 p1) A8 B8 rfl rfl (Ad.o p0) (Ad.dj p0 p1 AGk) fun Db B9 Ca Cb=>AZg (AGj (AUp AS9 rfl A6 (AGj (AGr (AGp ?_)))));have Am:=(Ad.m2 p0 p1 AGk Ca B9 (fun z hz=> .inl (Cb z hz))).sel [1] AGk;dsimp only [AYv,Ab8] at Am;refine AX6 1180591620700231449600 (fun x:(Int) × (LiI) × LnA × LnN × LvA=>(x.1,x.2.1)) ((0,(sI Bn Aa (List.replicate (Int.toNat (Bt.length:Int)) (0:Int))),(B7 :: (A5.set (Int.toNat Aa) [A7]).flatten),(A5.set (Int.toNat Aa) [A7]),(Bo.set (Int.toNat Aa) Bz)):(Int) × (LiI) × LnA × LnN × LvA) B6 (fun x=>[(34,(.int .i64 x.1))]) (fun x=>Am.L.set 0 (aO2 (cI .i64) 49 2 x.2.2.1 x.2.2.2.1 x.2.2.2.2 Ai x.2.1)) Am ⟨rfl,trivial⟩ ?_;rintro ⟨Dc,Cd,Ce,Cf,Cg⟩ Dd De Df Ae Ao Ch;unfold Ah0 at Ao;refine AGm (ATl rfl rfl (AGr (AGo (⟨_,rfl,fun Ap=>?_,fun Ap=>?_⟩))))
  ·refine AGy (q_t (AGo (AGp (AGm (AGj ?_)))));obtain ⟨Dg,Ci,Cj⟩:=AGn (ATy Ao Ap);refine Asp AS9 ATe A6 Ae.x Ci fun _=>(ATi (ATw (AGj (AGj ?_))));obtain ⟨Dh,Ck,Cm⟩:=AGn Cj;refine Adn ATb ATq H6 Ae.x Ck fun _ Di A9=>AUp AS9 rfl A9 (AGj (AGr (AGp (AX6 590295792766519619584 (fun x:(Int) × (LiI) × LnA × LnN × LvA=>(x.1,x.2.1)) ((0,Cd,Ce,Cf,Cg):(Int) × (LiI) × LnA × LnN × LvA) Cm (fun x=>[(44,(.int .i64 x.1))]) (fun x=>Ae.L.set 0 (aO2 (cI .i64) 49 2 x.2.2.1 x.2.2.2.1 x.2.2.2.2 Ai x.2.1)) Ae ⟨rfl,trivial⟩ ?_))));rintro ⟨Dj,Dk,Dl,Do,Dp⟩ Dq Dr Ds Ac Aq Cn;unfold Ahz at Aq;refine AGm (ATl rfl rfl (AGr (AGo (⟨_,rfl,fun Ar=>?_,fun Ar=>?_⟩))))
   ·refine AGy (q_t (AGo (AGp (AGm (AGj ?_)))));obtain ⟨Dt,Co,Cp⟩:=AGn (ATy Aq Ar);refine Asp AS9 ATe A9 Ac.x Co fun _=>(ATi (AGu (AXr (AGj (AGj ?_)))));obtain ⟨Du,Af,Cq⟩:=AGn Cp;refine AUh ATb ATq (Ac.o2 p0) Af fun _ Dv Cr=>AGj (AGj (AGj (AUh ATb ATq (Ac.o2 p0) Af fun _ Dw Ct=>AGj ?_)));obtain ⟨Dx,Ba,Cu⟩:=AGn Cq;refine AWr (m:=Aa) AS9 ATe (Ac.o2 p0) Ct Af Ba fun _=>(AGj (AGj (AZe rfl rfl (ATk rfl rfl (AGj ?_)))));obtain ⟨Cv,Cw⟩:=ifN Cu;refine Acw rfl rfl Cv (AZv (m:=Aa) Ac p0 AS9 ATe Cr Af Ba (fun _=>rfl) fun _ Dy Cx=>ATh (q_b (q_t (AS3 (ATk rfl rfl (AGj (AGr ?_)))))));exact ⟨(_,_,_,_,_),(AGl Cw).symm,Cx,rfl,trivial⟩
   ·refine AS8 (ATa (ATa (AT7 (q_b (q_t (AS3 (ATk rfl rfl (AGj (AGr ?_)))))))));exact ⟨(_,_,_,_,_),(AGl (Cn _ (AGl (ATz Aq Ar)).symm)).symm,Ac,rfl,trivial⟩
  ·refine AS8 (ATa (ATa (AT7 (q_b (q_t (AS3 (ATk rfl rfl (AGj (AGr ?_)))))))));exact ⟨(_,_,_,_,_),(AGl (Ch _ (AGl (ATz Ao Ap)).symm)).symm,Ae,rfl,trivial⟩
 ·refine AS8 (ATa (ATa (AT7 (q_t (AGm (AGj (AGu (AGz ?_))))))));obtain rfl:=AGl (Bp _ (AGl (ATz Aj Ak)).symm);exact ⟨_,AS2,Ab.x,_,_,_,_,rfl,(Ab.o2 p0),Ab.s.sel [0] AGk⟩
def Abd (fuel:Nat) (a3:LiI) (a5:Int):Option (LiI × Int):=
  ((AXy fuel a3).bind fun x6=>(if (!x6)=true then (some ([],3)) else ((AVb fuel a5).bind fun Ac=>(if ¬ Ac=0 then (some ([],Ac)) else ((AVh fuel a3 a5).bind fun Ae=>(some (Ae,0)))))))
theorem Ami {fuel:Nat} {h:AGt} {Ag:Value} {a3:LiI} {a5:Int} {r:(LiI × Int)} (H2:AXs (cI .i64) h Ag a3) (hp:Abd fuel a3 a5=some r):ATs Tryz.prog 40 #[Ag,(.int .i64 a5)] h (fun x h'=>Ext h h'/\ ∃ (x0:Value) (F0:List Nat) (Au:List LnA) (Av:List Value),x= .tuple #[x0,.int .i64 r.2]/\AVt (cI .i64) 49 2 h' F0 Au Av x0 r.1/\Sp h' h.size [F0]):=by
 unfold Abd at hp;refine cwf (l:=[_,_]) Tryz.func40 rfl rfl (AGm (ATi (AGu (AGo (AGm (AGj ?_))))));have K0:=Kst.k0 h;obtain ⟨x6,Aw,Ap⟩:=AGn hp;refine AW0 K0 (Ad3 (H2.ext K0.x) Aw) fun A4 E9 Aq=>AWq rfl (AGr (⟨_,rfl,fun Aa=>?_,fun Aa=>?_⟩))
 ·refine AGm (ATi (AGu (AGz (ATc ?_))));have Ab:=Kst.anil2 (cI .i64) 49 2 Aq;obtain rfl:=AGl (ifT Ap Aa);exact ⟨_,AUk,Ab.x,_,_,_,_,rfl,(Ab.o2 p0),Ab.s.sel [0] AGk⟩
 ·refine AGy (q_t (AGo (AGm (AGj ?_))));obtain ⟨A6,Ax,Ar⟩:=AGn (Aa7 Ap Aa);refine AW0 Aq (AYw Ax) fun A7 A8 Ac=>ATw (AGj (AWp rfl rfl (AGr (⟨_,rfl,fun Ad=>?_,fun Ad=>?_⟩))))
  ·refine AGm (AGj (ATi (AGu (AGz (ATc ?_)))));have Ae:=Kst.anil2 (cI .i64) 49 2 Ac;obtain rfl:=AGl (ATy Ar Ad);exact ⟨_,AUk,Ae.x,_,_,_,_,rfl,(Ae.o2 p0),Ae.s.sel [0] AGk⟩
  ·refine AGy (q_t (AGm (AGj (AGj ?_))));obtain ⟨A9,Ay,Az⟩:=AGn (ATz Ar Ad);refine Ahe Ac (AY2 (H2.ext Ac.x) Ay) fun Ba Bb Bc Be Bf Bg Af=>ATi (AGu (AGz ?_));obtain rfl:=AGl Az;exact ⟨_,AUk,Af.x,_,_,_,_,rfl,(Af.o2 p0),Af.s.sel [0] AGk⟩
def Ae4 (fuel:Nat) (a3 a7:LiI) (a9:Int):Option (LiI × Int):=
  ((((AXy fuel a3).bind fun Af=>(if (!Af)=true then (some (Sum.inl <| ([],3))) else ((AXy fuel a7).bind fun Ag=>(if (!Ag)=true then (some (Sum.inl <| ([],3))) else ((gI a3 0).bind fun Ah=>(if ¬ (a3.length:Int)=(Ah.length:Int) then (some (Sum.inl <| ([],3))) else (if ¬ (a7.length:Int)=(a3.length:Int) then (some (Sum.inl <| ([],3))) else (some (Sum.inr <| ()))))))))):Option (((LiI × Int)) ⊕ (Unit))).bind (fun ex=>match ex with | Sum.inl Ai=>(some Ai) | Sum.inr (_)=>((AVb fuel a9).bind fun Ad=>(if ¬ Ad=0 then (some ([],Ad)) else ((AVh fuel a7 a9).bind fun Ae=>((Afi fuel Ae).bind fun Aj=>((AVh fuel a3 a9).bind fun Ak=>((Aep fuel Ak Ae a9).bind fun Am=>((Aep fuel Aj Am a9).bind fun Ao=>(some (Ao,0)))))))))))
theorem Ak5 {fuel:Nat} {h:AGt} {Ax:Value} {a3:LiI} {Ay:Value} {a7:LiI} {a9:Int} {r:(LiI × Int)} (H2:AXs (cI .i64) h Ax a3) (H6:AXs (cI .i64) h Ay a7) (hp:Ae4 fuel a3 a7 a9=some r):ATs Tryz.prog 73 #[Ax,Ay,(.int .i64 a9)] h (fun x h'=>Ext h h'/\ ∃ (x0:Value) (F0:List Nat) (Bg:List LnA) (Bh:List Value),x= .tuple #[x0,.int .i64 r.2]/\AVt (cI .i64) 49 2 h' F0 Bg Bh x0 r.1/\Sp h' h.size [F0]):=by
 unfold Ae4 at hp;refine cwf (l:=[_,_,_]) Tryz.func73 rfl rfl (AGm (ATi (AGu ?_)));have K0:=Kst.k0 h;obtain ⟨Bi,Bj,Ab⟩:=AGn hp;refine Acg 17179868352 (fun x:Unit=>[]) (fun x h'=>(Sum.inr <| ())=Bi/\Kst h h' (K0.L)) ?_ ?_
 ·refine AGm (AGj ?_);obtain ⟨Bl,Bm,A6⟩:=AGn Bj;refine AW0 K0 (Ad3 (H2.ext K0.x) Bm) fun B9 Ca Ah=>AWq rfl (AGj ?_);cases A7:(!Bl)
  ·refine ATn 13 false (AGj (ATn 13 false ?_));obtain ⟨Bn,Bo,A8⟩:=AGn (Aa7 A6 A7);refine AW0 Ah (Ad3 (H6.ext Ah.x) Bo) fun Cb Cd Ac=>ATn 13 false (AWq rfl (ATm rfl (AGj ?_)));cases A9:(!Bn)
   ·refine ATn 18 false (AGj (ATn 18 false (AT4 ATb rfl H2 (ATn 18 false (AGj (ATn 18 false ?_))))));obtain ⟨Bp,Bq,Ba⟩:=AGn (Aa7 A8 A9);refine Am2 ATb rfl H2 rfl Bq fun Ce Cf Cg Br Bt=>ATn 18 false (AT3 ATq rfl (ATo Br Ac.x) (ATn 18 false (AUp AS9 rfl Bt (ATn 18 false (AWp rfl rfl (ATm rfl (AGj ?_)))))));by_cases Ad: ¬ (a3.length:Int)=(Bp.length:Int)
    ·rw [decide_eq_true Ad];refine Acp 27 true (ATj rfl (AGr (ATp rfl (AGm (ATi (AGu ?_))))));obtain rfl:=AGl (ifT Ba Ad);refine AGz (ATc ?_);have Ai:=Kst.anil2 (cI .i64) 49 2 Ac;obtain rfl:=AGl Ab;exact ⟨_,AUk,Ai.x,_,_,_,_,rfl,(Ai.o2 p0),Ai.s.sel [0] AGk⟩
    ·have Bb:=ifF Ba Ad;rw [decide_eq_false Ad];refine ATn 27 false (AGj (ATn 27 false (AT4 ATb rfl H6 (ATn 27 false (AGj (ATn 27 false (AT4 ATb rfl H2 (ATn 27 false (AWp rfl rfl (ATm rfl (AGr (⟨_,rfl,fun Aj=>?_,fun Aj=>?_⟩))))))))))))
     ·refine AGm (ATi (AGu ?_));obtain rfl:=AGl (ATy Bb Aj);refine AGz (ATc ?_);have Ak:=Kst.anil2 (cI .i64) 49 2 Ac;obtain rfl:=AGl Ab;exact ⟨_,AUk,Ak.x,_,_,_,_,rfl,(Ak.o2 p0),Ak.s.sel [0] AGk⟩
     ·refine AGy (q_t ?_);exact ⟨(():Unit),⟨AGl (ATz Bb Aj),Ac⟩,trivial⟩
   ·refine Acp 18 true (Aej 18 true (ATj rfl (AGj (Acp 27 true (ATj rfl (AGr (ATp rfl (AGm (ATi (AGu ?_))))))))));obtain rfl:=AGl (ifT A8 A9);refine AGz (ATc ?_);have Am:=Kst.anil2 (cI .i64) 49 2 Ac;obtain rfl:=AGl Ab;exact ⟨_,AUk,Am.x,_,_,_,_,rfl,(Am.o2 p0),Am.s.sel [0] AGk⟩
  ·refine Ab6 13 true (ATj rfl (AGj (Acp 18 true (Aej 18 true (ATj rfl (AGj (Acp 27 true (ATj rfl (AGr (ATp rfl (AGm (ATi (AGu ?_)))))))))))));obtain rfl:=AGl (ifT A6 A7);refine AGz (ATc ?_);have Ao:=Kst.anil2 (cI .i64) 49 2 Ah;obtain rfl:=AGl Ab;exact ⟨_,AUk,Ao.x,_,_,_,_,rfl,(Ao.o2 p0),Ao.s.sel [0] AGk⟩
 rintro ⟨⟩ Ch Ci ⟨Bu,Bv⟩;subst Bu;refine AGo (AGm (AGj ?_));obtain ⟨Cj,Bw,Bc⟩:=AGn Ab;refine AW0 Bv (AYw Bw) fun Ck Cm Ap=>ATw (AGj (AWp rfl rfl (AGr (⟨_,rfl,fun Aq=>?_,fun Aq=>?_⟩))))
 ·refine AGm (AGj (ATi (AGu (AGz (ATc ?_)))));have Ar:=Kst.anil2 (cI .i64) 49 2 Ap;obtain rfl:=AGl (ATy Bc Aq);exact ⟨_,AUk,Ar.x,_,_,_,_,rfl,(Ar.o2 p0),Ar.s.sel [0] AGk⟩
 ·refine AGy (q_t (AGm (AGj (AGj ?_))));obtain ⟨Cn,Bx,By⟩:=AGn (ATz Bc Aq);refine Ahe Ap (AY2 (H6.ext Ap.x) Bx) fun Co Cp Cq Cr Ct Cu Be=>ATw (AGj ?_);obtain ⟨Cv,Bz,B1⟩:=AGn By;refine Ahe Be (Al7 (Be.o2 p0).rd Bz) fun Cw Cx Cy Cz C0 C1 Bf=>AGj (AGj ?_);obtain ⟨C2,B3,B4⟩:=AGn B1;refine Ahe Bf (AY2 (H2.ext Bf.x) B3) fun C3 C4 C5 C6 C7 C8 Au=>AGj (AGj ?_);obtain ⟨C9,B5,B6⟩:=AGn B4;refine Ahe Au (Ah2 (Au.o2 p0).rd (Au.o2 p2).rd B5) fun Da Db Dc Dd De Df Av=>AGj ?_;obtain ⟨Dg,B7,B8⟩:=AGn B6;refine Ahe Av (Ah2 (Av.o2 p2).rd (Av.o2 p0).rd B7) fun Dh Di Dj Dk Dl Do Aw=>ATi (AGu (AGz ?_));obtain rfl:=AGl B8;exact ⟨_,AUk,Aw.x,_,_,_,_,rfl,(Aw.o2 p0),Aw.s.sel [0] AGk⟩
end Go.Proofs.YthbndcbclhkepaaGreatDoor
namespace Go.Proofs.YthbndcbclhkepaaGreatDoor
open Go Go.QF
set_option maxRecDepth 100000
theorem AZj {α β:Type} {L:List α} {n:Nat} {x:α} {f:α->Option β} (hx:L[n]? =some x):(gI L (n:Int)).bind f=f x:=by
 unfold gI;rw [if_pos AGi,Int.toNat_natCast,hx];rfl
theorem As8 {α β:Type} {L:List α} {x:α} {f:α->Option β} (hx:L[0]? =some x):(gI L 0).bind f=f x:=AZj (n:=0) hx
theorem AV9 {i:Nat} (h:i<=1000000000):w64 ((i:Int) + 1)=((i + 1:Nat):Int):=by rw [wk AGi];omega
theorem As9 {n i r:Nat} {G:AS5} {g g':Nat->Int} (h:∀ c,c < n->g c=g' c):part n i (AUw G r g)=part n i (AUw G r g'):=by
 unfold part;refine AUf fun k _=>?_;split
 ·refine AUf fun c hc=>?_;by_cases hk:k=r
  ·subst hk;rw [AUx,AUx,h c hc]
  ·rw [AYe _ _ hk,AYe _ _ hk]
 ·rfl
theorem A6y {n i:Nat} {F:AS5} {g:Nat->Int} (h:∀ c,c < n->g c=F i c):part n (i + 1) (AUw F i g)=part n (i + 1) F:=by
 rw [As9 h,Ahg]
theorem A9v {body:Int × List (List Int)->Option ((Int × List (List Int)) ⊕ List (List Int))} {fuel n i:Nat} {G:AS5} (v:Nat->Int) (hf:n < fuel)
    (hs:∀ (j:Nat) (g:Nat->Int),j < n->g j=G i j->body ((j:Int),part n (i + 1) (AUw G i g))=some (.inl (((j + 1:Nat):Int),part n (i + 1) (AUw G i fun c=>if c=j then v j else g c))))
    (he:∀ X,body ((n:Int),X)=some (.inr X)):iter body fuel (0,part n (i + 1) G)=some (part n (i + 1) (AUw G i v)):=by
  apply ok_eq
  refine AT9 (fun j s=>s=((j:Int),part n (i + 1) (AUw G i fun c=>if c < j then v c else G i c))) n ?_ hf fun j s hj hI=>?_
  · have:(fun c=>if c < 0 then v c else G i c)=G i:=funext fun c=>if_neg AGi;rw [this,Ahg];rfl
  · subst hI
    by_cases h:j < n
    · rw [hs j _ h (if_neg AGi)];refine AGq ⟨h,?_⟩;refine congrArg (fun z=>(((j + 1:Nat):Int),part n (i + 1) (AUw G i z))) (funext fun c=>?_)
      by_cases h1:c=j
      · rw [if_pos h1,if_pos AGi,h1]
      · rw [if_neg h1]
        by_cases h2:c < j
        · rw [if_pos h2,if_pos AGi]
        · rw [if_neg h2,if_neg AGi]
    · obtain rfl:j=n:=by omega
      rw [he];exact AGq (As9 fun c hc=>if_pos hc)
theorem A6z {body:Int × List (List Int)->Option ((Int × List (List Int)) ⊕ List (List Int))} {fuel n:Nat} (F:AS5) (hf:n < fuel)
    (hs:∀ i:Nat,i < n->body ((i:Int),part n i F)=some (.inl (((i + 1:Nat):Int),part n (i + 1) F))) (he:∀ X,body ((n:Int),X)=some (.inr X)):iter body fuel (0,List.replicate n ([]:List Int))=some (tab n n F):=by
  apply ok_eq;refine AT9 (fun i s=>s=((i:Int),part n i F)) n (by rw [Af7 n F];rfl) hf fun i s hi hI=>?_;subst hI
  by_cases h:i < n
  · rw [hs i h];exact AGq ⟨h,rfl⟩
  · obtain rfl:i=n:=by omega
    rw [he];exact AGq (Af6 _ _)
theorem Auu {x m:Int} (hm:2<=m) (Ab:m<=2147483647):Int.tmod (w64 (Int.tmod x m + m)) m=x % m:=by
 have h1:=Int.tmod_lt_of_pos x (show 0 < m by omega);have h2:=Int.tmod_lt_of_pos (-x) (show 0 < m by omega);rw [Int.neg_tmod] at h2;rw [wk AGi,Int.tmod_eq_emod_of_nonneg AGi,Int.add_emod_right,Int.tmod_def,Int.sub_mul_emod_self_left]
theorem A60 {fuel n:Nat} {F:AS5} {m:Int} (hn:n<=8) (hm:2<=m) (Aa:m<=2147483647) (hf:100 < fuel):AVh fuel (tab n n F) m=some (tab n n fun i j=>F i j % m):=by
 unfold AVh;rw [AT8,if_pos AGi,Int.toNat_natCast,A6z (n:=n) (fun i j=>F i j % m) AGi (fun i hi=>?_) fun X=>?_]
 ·rfl
 ·unfold Abi;dsimp only;rw [AT8,if_pos AGi,AZj (AUc hi),AUi,if_pos AGi,AZj (Aka hi),AU2,Int.toNat_natCast,AY1 n (0:Int),Ahy,A9v (n:=n) (fun j=>F i j % m) AGi (fun j g hj hg=>?_) fun X=>?_]
  ·dsimp only [Option.bind_some];rw [Ans,A6y fun c _=>rfl,AV9 AGi]
  ·unfold Abh;dsimp only;rw [AUi,if_pos AGi,AZj (ATx hj),AZj (Ad9 AGi hi),if_pos AGi,if_pos AGi,AUx,AZj (ATx hj),Auu hm Aa,AU2,AU2,AXv,Afo AGi,Ans,AV9 AGi]
  ·unfold Abh;dsimp only;rw [AUi,if_neg AGi]
 ·unfold Abi;dsimp only;rw [AT8,if_neg AGi]
def Av5 (n:Nat) (m:Int) (F:AS5):Prop:= ∀ i j,i < n->j < n->0<=F i j/\F i j < m
end Go.Proofs.YthbndcbclhkepaaGreatDoor
namespace Go.Proofs.YthbndcbclhkepaaGreatDoor
open Go Go.QF
set_option maxRecDepth 100000
set_option maxHeartbeats 4000000
def Ak6 (fuel:Nat) (Ac Ad Af:Int) (Ag:LiA) (Ah Ai Aa:Int) (Ab:LiI):Option ((Int × LiI) ⊕ ((LiI))):=
  (if Aa < (Ag.length:Int) then ((gI Ab Af).bind fun Aj=>((gI Aj Aa).bind fun Ak=>((gI Ab Ad).bind fun Ae=>((gI Ae Aa).bind fun Am=>(if Ac≠0 then (some (Sum.inl ((w64 (Aa + 1)),(sI Ab Ad (sI Ae Aa (Int.tmod (w64 (Am + (w64 ((w64 (Ac - (w64 (Int.tdiv Ai Ah)))) * Ak)))) Ac)))))) else none))))) else (some (Sum.inr<| Ab)))
def Ak7 (fuel:Nat) (Ah Aa Ab Af:Int) (Ac:LiI):Option ((Int × LiI) ⊕ ((Int × LiI))):=
  ((gI Ac Ab).bind fun Ag=>((gI Ag Aa).bind fun Ad=>(if ¬ Ad=0 then ((gI Ac Aa).bind fun Ai=>((gI Ai Aa).bind fun Aj=>(if Ad≠0 then ((((iter (fun s=>Ak6 fuel Ah Aa Ab Ag Ad Aj s.1 s.2) fuel (0,Ac)).bind (fun (Ak:LiI)=>(some ( Ak)))):Option (LiI)).bind fun Ae=>((gI Ae Ab).bind fun Am=>((gI Ae Aa).bind fun Ao=>(some (Sum.inl ((w64 (0 - Af)),(sI (sI Ae Aa Am) Ab Ao))))))) else none))) else (some (Sum.inr<| (Af,Ac))))))
def Ak8 (fuel:Nat) (Ad Ae Ac Aa:Int) (Ab:LiI):Option ((Int × Int × LiI) ⊕ ((Int × LiI))):=
  (if Aa < (Ab.length:Int) then ((iter (fun s=>Ak7 fuel Ad Ae Aa s.1 s.2) fuel (Ac,Ab)).bind (fun ((Af,Ag):Int × LiI)=>(some (Sum.inl (Af,(w64 (Aa + 1)),Ag))))) else (some (Sum.inr<| (Ac,Ab))))
def Ak9 (fuel:Nat) (Ad:LiI) (Ae Ab Aa:Int) (Ac:LiI):Option ((Int × Int × LiI) ⊕ ((Int × LiI))):=
  (if Aa < (Ad.length:Int) then ((iter (fun s=>Ak8 fuel Ae Aa s.1 s.2.1 s.2.2) fuel (Ab,(w64 (Aa + 1)),Ac)).bind (fun ((Af,Ag):Int × LiI)=>(some (Sum.inl (Af,(w64 (Aa + 1)),Ag))))) else (some (Sum.inr<| (Ab,Ac))))
def Ala (fuel:Nat) (a5:Int) (Ac:LiI) (Ad Ab:Int):Option ((Int × Int) ⊕ ((Int))):=
  (if Ab < (Ac.length:Int) then ((gI Ac Ab).bind fun Ae=>(if a5≠0 then ((gI Ae Ab).bind fun Af=>(if a5≠0 then (some (Sum.inl ((Int.tmod (w64 ((Int.tmod Ad a5) * Af)) a5),(w64 (Ab + 1))))) else none)) else none)) else (some (Sum.inr<| Ad)))
def Akq (fuel:Nat) (a3:LiI) (a5:Int):Option (Int × Int):=
  ((AZ3 fuel a3).bind fun x6=>(if (!x6)=true then (some (0,3)) else ((AVb fuel a5).bind fun Ac=>(if ¬ Ac=0 then (some (0,Ac)) else ((AVh fuel a3 a5).bind fun Ad=>(((((some ( a5)):Option (Int)).bind fun Af=>((iter (fun s=>Ak9 fuel Ad Af s.1 s.2.1 s.2.2) fuel (1,0,Ad)).bind (fun ((Ag,Ah):Int × LiI)=>(some ( (Ag,Ah)))))):Option (Int × LiI)).bind fun (Ai,Aj)=>((iter (fun s=>Ala fuel a5 Aj s.1 s.2) fuel ((w64 (Ai + a5)),0)).bind (fun (Ak:Int)=>(some (Ak,0))))))))))
theorem Aqo {fuel:Nat} {h:AGt} {A8:Value} {a3:LiI} {a5:Int} {r:(Int × Int)} (H2:AXs (cI .i64) h A8 a3) (hp:Akq fuel a3 a5=some r):ATs Tryz.prog 71 #[A8,(.int .i64 a5)] h (fun x h'=>Ext h h'/\x= .tuple #[.int .i64 r.1,.int .i64 r.2]):=by
 unfold Akq at hp;refine cwf (l:=[_,_]) Tryz.func71 rfl rfl (AGm (ATi (AGu (AGo (AGm (AGj ?_))))));have K0:=Kst.k0 h;obtain ⟨x6,B1,Bc⟩:=AGn hp;refine AW0 K0 (Ajd (H2.ext K0.x) B1) fun Eb E9 Be=>AWq rfl (AGr (⟨_,rfl,fun Aj=>?_,fun Aj=>?_⟩))
 ·refine AGm (ATi (AGu (AGz (ATc ?_))));obtain rfl:=AGl (ifT Bc Aj);exact ⟨_,AUk,Be.x,rfl⟩
 ·refine AGy (q_t (AGo (AGm (AGj ?_))));obtain ⟨Ed,B3,Bf⟩:=AGn (Aa7 Bc Aj);refine AW0 Be (AYw B3) fun Ee Ef Ak=>ATw (AGj (AWp rfl rfl (AGr (⟨_,rfl,fun Am=>?_,fun Am=>?_⟩))))
  ·refine AGm (AGj (ATi (AGu (AGz (ATc ?_)))));obtain rfl:=AGl (ATy Bf Am);exact ⟨_,AUk,Ak.x,rfl⟩
  ·refine AGy (q_t (AGm (AGj (AGj ?_))));obtain ⟨B4,B5,B6⟩:=AGn (ATz Bf Am);refine Ahe Ak (AY2 (H2.ext Ak.x) B5) fun B7 B8 B9 Ab Eg Eh Ao=>ATw (AGj (AGj ?_));obtain ⟨Ca,Cb,Cd⟩:=AGn B6;refine ATd (K':=(fun xr h'=> ∃ x:(Int) × (LiI) × LnA × LnN × LvA,(x.1,x.2.1)=Ca/\xr=(.int .i64 x.1)/\Kst h h' (Ao.L.set 0 (aO2 (cI .i64) 49 2 x.2.2.1 x.2.2.2.1 x.2.2.2.2 Ab x.2.1)))) trivial rfl ?_ fun Ei Ej Ce=>?_
   ·refine cwf (l:=[_,_]) Tryz.func119 rfl rfl (AGm (ATw (AGj ?_)));obtain ⟨Cf,Cg,Ch⟩:=AGn Cb;refine ATd (K':=(fun xr h'=> ∃ x:(Nat) × (Int),x.2=Cf/\xr=(.func (.func 178) #[] #[(.pointer (some ⟨x.1,0,none⟩))])/\Kst h h' (aB 2 x.1 [(.int .i64 x.2)] :: Ao.L))) trivial rfl ?_ fun Ek El Ci=>?_
    ·refine cwf (l:=[_]) Tryz.func159 rfl rfl (AGm (AYy Ao [(.int .i64 a5)] fun Cj Em En Ck=>ATw (A37 rfl (AGu (AGz (⟨_,AS2,((Cj,a5):(Nat) × (Int)),?_,rfl,?_⟩))))))
     ·exact AGl Cg
     ·exact Ck
    obtain ⟨⟨Cm,Eo⟩,Cn,rfl,Ap⟩:=Ci;refine ⟨trivial,?_⟩;subst Cn;refine ATw (AGu (AGo (AGm (AGj (AT4 ATb rfl (Ap.o2 p1).rd (AGj (AGr (AGp (AX6 18889465931478580847040 (fun x:(Int) × (Int) × (LiI) × LnA × LnN × LvA=>(x.1,x.2.1,x.2.2.1)) ((1,0,B4,B7,B8,B9):(Int) × (Int) × (LiI) × LnA × LnN × LvA) Ch (fun x=>[(6,(.int .i64 x.1)),(13,(.int .i64 x.2.1))]) (fun x=>Ap.L.set 1 (aO2 (cI .i64) 49 2 x.2.2.2.1 x.2.2.2.2.1 x.2.2.2.2.2 Ab x.2.2.1)) Ap ⟨rfl,rfl,trivial⟩ ?_)))))))));rintro ⟨Bg,Af,Bh,Bi,Bj,Bl⟩ Ep Er Es Aq Ar Co;unfold Ak9 at Ar;refine AGm (ATl rfl rfl (AGr (AGo (⟨_,rfl,fun Au=>?_,fun Au=>?_⟩))))
    ·refine AGy (q_t (AGo (AGp (AGm (AGj (ATw (AGj (ATk rfl rfl (AGu (AGp (AX6 9444732965739290165568 (fun x:(Int) × (Int) × (LiI) × LnA × LnN × LvA=>(x.1,x.2.1,x.2.2.1)) ((Bg,(w64 (Af + 1)),Bh,Bi,Bj,Bl):(Int) × (Int) × (LiI) × LnA × LnN × LvA) (ATy Ar Au) (fun x=>[(6,(.int .i64 x.1)),(8,(.int .i64 x.2.1))]) (fun x=>Aq.L.set 1 (aO2 (cI .i64) 49 2 x.2.2.2.1 x.2.2.2.2.1 x.2.2.2.2.2 Ab x.2.2.1)) Aq ⟨rfl,rfl,trivial⟩ ?_)))))))))));rintro ⟨Cp,Av,Cq,Cr,Ct,Cu⟩ Et Eu Ev Ag Aw Cv;unfold Ak8 at Aw;refine AGo (AGm (AGj (AGj (AT4 ATb rfl (Ag.o2 p1).rd (ATl rfl rfl (AGr (⟨_,rfl,fun Ax=>?_,fun Ax=>?_⟩)))))))
     ·refine AGy (q_t (AGo (AGp (AGp (AX6 9444732965739273650240 (fun x:(Int) × (LiI) × LnA × LnN × LvA=>(x.1,x.2.1)) ((Cp,Cq,Cr,Ct,Cu):(Int) × (LiI) × LnA × LnN × LvA) (ATy Aw Ax) (fun x=>[(6,(.int .i64 x.1))]) (fun x=>Ag.L.set 1 (aO2 (cI .i64) 49 2 x.2.2.1 x.2.2.2.1 x.2.2.2.2 Ab x.2.1)) Ag ⟨rfl,trivial⟩ ?_)))));rintro ⟨Ew,Ey,Bm,Bn,Bo⟩ Ez Fa Fb Aa Bp Cw;unfold Ak7 at Bp;refine AGo (AGm (AGj (AGj ?_)));obtain ⟨Fc,Ac,Cx⟩:=AGn Bp;refine AUh ATb ATq (Aa.o2 p1) Ac fun _ Fd Cy=>AGj ?_;obtain ⟨Cz,Bq,Br⟩:=AGn Cx;refine AWr (m:=Av) AS9 ATe (Aa.o2 p1) Cy Ac Bq fun _=>(AWp rfl rfl (AGr (⟨_,rfl,fun Ay=>?_,fun Ay=>?_⟩)))
      ·refine AGy (q_t (AGp (AGo (AXr (AGj (AGj (AGj ?_)))))));obtain ⟨Fe,Az,C0⟩:=AGn (ATy Br Ay);refine AUh ATb ATq (Aa.o2 p1) Az fun _ C1 Bt=>AGj (AGj (AUh ATb ATq (Aa.o2 p1) Ac fun _ C2 Bu=>AGj (AGj (AUh ATb ATq (Aa.o2 p1) Az fun _ Ff C3=>AGj ?_))));obtain ⟨C4,C5,C6⟩:=AGn C0;refine AWr (m:=Af) AS9 ATe (Aa.o2 p1) C3 Az C5 fun _=>(AGj (AGj (AUh ATb ATq (Aa.o2 p1) Ac fun _ Fg C7=>AGj (AWr (m:=Av) AS9 ATe (Aa.o2 p1) C7 Ac Bq fun _=>?_))));obtain ⟨C8,C9⟩:=ifN C6;refine Amr rfl rfl C8 ?_;obtain ⟨Da,Db,Dc⟩:=AGn C9;refine Aq9 (l:=[C1,C2,(.int .i64 (w64 (Int.tdiv C4 Cz)))]) (cl:=[(.pointer (some ⟨Cm,0,none⟩))]) (K':=(fun xr h'=> ∃ x:(LiI),x=Da/\xr= .tuple #[]/\Kst h h' (Aa.L.set 1 (aO2 (cI .i64) 49 2 Bm Bn Bo Ab x)))) trivial rfl rfl ?_ fun Fh Fi Dd=>?_
       ·refine cwf (l:=[_,_,_,_]) Tryz.func178 rfl rfl (AGm (AGj (AUp AS9 rfl ((Aa.o2 p1).rowI Bu Ac) (AGj (AGr (AGp (AYd 4294965632 Db (fun x=>[(11,(.int .i64 x.1))]) (fun x=>Aa.L.set 1 (aO2 (cI .i64) 49 2 Bm Bn Bo Ab x.2)) Aa ⟨rfl,trivial⟩ ?_)))))));rintro ⟨Fj,De⟩ Fk Fl Fm Ad A3 Df;unfold Ak6 at A3;refine AGm (ATl rfl rfl (AGr (AGo (⟨_,rfl,fun A4=>?_,fun A4=>?_⟩))))
        ·refine AGy (q_t (AGo (AGp (AGm (AGj ?_)))));obtain ⟨Fo,Dg,Dh⟩:=AGn (ATy A3 A4);obtain ⟨Fp,Di,Dj⟩:=AGn Dh;refine AWr (m:=Av) AS9 ATe (Ad.o2 p1) Bu Dg Di fun _=>(ATi (AGu (AXr (AGj (AGj (AGj (AGj ?_)))))));obtain ⟨Fq,Bv,Dk⟩:=AGn Dj;obtain ⟨Fr,Bw,Dl⟩:=AGn Dk;refine AWr (m:=Af) AS9 ATe (Ad.o2 p1) Bt Bv Bw fun _=>AT3 ATe rfl ((Ad.b p0).cell (i:=0) rfl) (AGj (AVd rfl rfl (AGj (AZe rfl rfl (ATk rfl rfl (AT3 ATe rfl ((Ad.b p0).cell (i:=0) rfl) ?_))))));obtain ⟨Do,Dp⟩:=ifN Dl;refine Acw rfl rfl Do (AZv (m:=Af) Ad p1 AS9 ATe Bt Bv Bw (fun _=>rfl) fun _ Ft Dq=>ATh (q_b (q_t (AS3 (ATk rfl rfl (AGj (AGr ?_)))))));exact ⟨_,(AGl Dp).symm,Dq,rfl,trivial⟩
        ·refine AS8 (ATa (ATa (AT7 (⟨_,AZt,(De:(LiI)),?_,rfl,?_⟩))))
         ·exact AGl (Df _ (AGl (ATz A3 A4)).symm)
         ·exact Ad
       obtain ⟨Fu,Dr,rfl,Ah⟩:=Dd;refine ⟨trivial,?_⟩;subst Dr;refine AGr (AGo (AXr (AGj (AGj (AGj (AGj (AGj (AGj ?_))))))));obtain ⟨Fv,Bx,Ds⟩:=AGn Dc;refine AUh ATb ATq (Ah.o2 p1) Bx fun _ Fw Dt=>AGj (AGj ?_);obtain ⟨Fx,By,Du⟩:=AGn Ds;refine AUh ATb ATq (Ah.o2 p1) By fun _ Fy Dv=>Afv ATb ATq (Ah.o2 p1) Dv Dt By Bx rfl rfl (fun _=>rfl) (fun _=>rfl) (fun _=>rfl) (fun _ _=>rfl) fun Fz F4 F5 F6 F7 F8 Dw Dx Dy=>AGr (AS3 (AGj (Aqq rfl (ATi (ATh (q_b (q_t ?_)))))));exact ⟨(_,_,_,_,_),(AGl Du).symm,(Ah.uo2 p1 Dx Dw Dy),rfl,trivial⟩
      ·refine AS8 (ATa (ATa (AT7 (q_b (q_t (AS3 (AGj (ATk rfl rfl (AGu ?_)))))))));exact ⟨(_,_,_,_,_,_),(AGl (Cw _ (AGl (ATz Br Ay)).symm)).symm,Aa,rfl,rfl,trivial⟩
     ·refine AS8 (ATa (ATa (AT7 (q_b (q_t (AS3 (ATk rfl rfl (AGj (AGr ?_)))))))));exact ⟨(_,_,_,_,_,_),(AGl (Cv _ (AGl (ATz Aw Ax)).symm)).symm,Ag,rfl,rfl,trivial⟩
    ·refine AS8 (ATa (ATa (AT7 (q_t (AGm (AGj (AGu (AGz (⟨_,AS2,((Bg,Bh,Bi,Bj,Bl):(Int) × (LiI) × LnA × LnN × LvA),?_,rfl,?_⟩)))))))))
     ·exact AGl (Co _ (AGl (ATz Ar Au)).symm)
     ·exact Aq.sel [1] AGk
   obtain ⟨⟨F9,Ga,Gb,Gc,Gd⟩,Dz,rfl,A5⟩:=Ce;refine ⟨trivial,?_⟩;subst Dz;refine AGj (ATk rfl rfl (AGu (AGo (AGm (AGj (AT4 ATb rfl (A5.o2 p0).rd (AGj (AGr (AGp (AYd 35183835219712 Cd (fun x=>[(8,(.int .i64 x.1)),(29,(.int .i64 x.2))]) (fun x=>A5.L) A5 ⟨rfl,rfl,trivial⟩ ?_))))))))));rintro ⟨Ge,D0⟩ Gf Gg Gh Ai A6 D1;unfold Ala at A6;refine AGm (ATl rfl rfl (AGr (AGo (⟨_,rfl,fun A7=>?_,fun A7=>?_⟩))))
   ·refine AGy (q_t (AGo (AGp (AGm (AGj ?_)))));obtain ⟨Gi,Bz,D2⟩:=AGn (ATy A6 A7);refine AUh ATb ATq (Ai.o2 p0) Bz fun _ Gj D3=>ATi (AGu (AXr (AGj (AGj ?_))));obtain ⟨D4,D5⟩:=ifN D2;refine Acw rfl rfl D4 (AGj (AGj ?_));obtain ⟨Gk,D6,D7⟩:=AGn D5;refine AWr (m:=D0) AS9 ATe (Ai.o2 p0) D3 Bz D6 fun _=>(AZe rfl rfl (AGj ?_));obtain ⟨D8,D9⟩:=ifN D7;refine Acw rfl rfl D8 (ATi (ATh (q_b (q_t (AS3 (ATk rfl rfl (AGj (AGr ?_))))))));exact ⟨_,(AGl D9).symm,Ai,rfl,rfl,trivial⟩
   ·refine AS8 (ATa (ATa (AT7 (q_t (AGm (AGj (ATi (AGu (AGz ?_)))))))));obtain rfl:=AGl (D1 _ (AGl (ATz A6 A7)).symm);exact ⟨_,AUk,Ai.x,rfl⟩
end Go.Proofs.YthbndcbclhkepaaGreatDoor
namespace Go.Proofs.YthbndcbclhkepaaGreatDoor
open Go Go.QF
set_option maxRecDepth 100000
theorem A61 {E:Type} {body:Int->Option (Int ⊕ E)} {fuel n:Nat} {e:E} (hf:n < fuel) (hs:∀ i:Nat,i < n->body (i:Int)=some (.inl ((i + 1:Nat):Int))) (he:body (n:Int)=some (.inr e)):iter body fuel 0=some e:=by
 apply ok_eq;refine AT9 (fun i s=>s=(i:Int)) n rfl hf fun i s hi hI=>?_;subst hI;by_cases h:i < n
 ·rw [hs i h];exact AGq ⟨h,rfl⟩
 ·obtain rfl:i=n:=by omega
  rw [he];exact AGq rfl
theorem Ayj {fuel n:Nat} {F:AS5} (Aa:1<=n) (hn:n<=8) (hf:100 < fuel):AXy fuel (tab n n F)=some true:=by
 unfold AXy;rw [AT8,if_neg AGi,if_neg AGi,As8 (AUc AGi),AUi,if_neg AGi,if_neg AGi];simp only [Option.bind_some];rw [A61 (n:=n) (e:= .inr ()) AGi (fun i hi=>?_) ?_]
 ·rfl
 ·unfold Ad2;rw [AT8,if_neg AGi]
 ·unfold Ad2;rw [AT8,if_pos AGi,AZj (AUc hi),As8 (AUc AGi),AUi,AUi,if_neg (fun h=>h rfl),AV9 AGi]
theorem Apr {n j:Nat} {g:Nat->Int} {x:Int}:sI (AVs n g) (j:Int) x=AVs n fun c=>if c=j then x else g c:=by rw [AU2,AXv]
theorem Abf {n i:Nat} {F:AS5} {g:Nat->Int}:sI (tab n n F) (i:Int) (AVs n g)=tab n n (AUw F i g):=by
 rw [AU2];exact Aeu
theorem Ayk {n r:Nat} {F:AS5} {g g':Nat->Int} (h:∀ c,c < n->g c=g' c):tab n n (AUw F r g)=tab n n (AUw F r g'):=Af0 fun i j _ hj=>by
  rw [AT2,AT2,h j hj]
end Go.Proofs.YthbndcbclhkepaaGreatDoor
namespace Go.Proofs.YthbndcbclhkepaaGreatDoor
open Go Go.QF
set_option maxRecDepth 100000
set_option maxHeartbeats 4000000
def Aeq (fuel:Nat) (a3 a7:(List AX4)) (Ac:Int):Option ((Int) ⊕ ((Bool) ⊕ (Unit))):=
  (if Ac < (a3.length:Int) then ((gI a3 Ac).bind fun Aa=>((gI a7 Ac).bind fun Ab=>(if (!(decide ((Aa.1,Aa.2.1,Aa.2.2.1,Aa.2.2.2.1,Aa.2.2.2.2)=(Ab.1,Ab.2.1,Ab.2.2.1,Ab.2.2.2.1,Ab.2.2.2.2))))=true then (some (Sum.inr<| Sum.inl <| false)) else (some (Sum.inl (w64 (Ac + 1))))))) else (some (Sum.inr<| Sum.inr <| ())))
def Acm (fuel:Nat) (a3 a7:(List AX4)):Option Bool:=
  (if ¬ (a3.length:Int)=(a7.length:Int) then (some false) else ((iter (fun s=>Aeq fuel a3 a7 s) fuel 0).bind (fun ex=>match ex with | Sum.inl Ac=>(some Ac) | Sum.inr (_)=>(some true))))
theorem Air {fuel:Nat} {h:AGt} {Ah:Value} {a3:(List AX4)} {Aj:Value} {a7:(List AX4)} {r:Bool} (H2:SlC Af8 h Ah a3) (H6:SlC Af8 h Aj a7) (hp:Acm fuel a3 a7=some r):ATs Tryz.prog 39 #[Ah,Aj] h (fun x h'=>Ext h h'/\x= .bool r):=by
 unfold Acm at hp;refine cwf (l:=[_,_]) Tryz.func39 rfl rfl (AGm (AGu (AGo (AGm (AGj (AUp Aj2 rfl H2 (AGj (AUp Aj2 rfl H6 (AWp rfl rfl (AGr ?_))))))))));have K0:=Kst.k0 h;refine ⟨_,rfl,fun Ad=>?_,fun Ad=>?_⟩
 ·refine AGm (AGu (AGz (ATc ?_)));obtain rfl:=AGl (ATy hp Ad);exact ⟨_,AS2,K0.x,rfl⟩
 ·refine AGy (q_t (AGo (AGm (AGj (AUp Aj2 rfl H2 (AGj (AGr (AGp (AYd 67100720 (ATz hp Ad) (fun x=>[(13,(.int .i64 x))]) (fun x=>K0.L) K0 ⟨rfl,trivial⟩ ?_)))))))));rintro Az A3 A4 A5 Aa Ae Ao;unfold Aeq at Ae;refine AGm (ATl rfl rfl (AGr (AGo (⟨_,rfl,fun Af=>?_,fun Af=>?_⟩))))
  ·refine AGy (q_t (AGo (AGp (AGm (AGj (AGu (AGo (AXr (AGj (AGj ?_))))))))));obtain ⟨A6,Aq,Ar⟩:=AGn (ATy Ae Af);refine Adl (c:=Af8) Aj2 rfl H2 rfl Aq fun A7 A8 A9 Au Av=>?_;obtain rfl:=Au;refine Afb (c:=Af8) Ap5 rfl rfl (fun j u hu=>(ATo (Av j u hu) Aa.x)) (AGj (AGj ?_));obtain ⟨Ba,Aw,Ap⟩:=AGn Ar;refine Adl (c:=Af8) Aj2 rfl H6 rfl Aw fun Bb Bc Be Ax Ay=>?_;obtain rfl:=Ax;refine Afb (c:=Af8) Ap5 rfl rfl (fun j u hu=>(ATo (Ay j u hu) Aa.x)) (BDd AGx rfl rfl (BDm _ _ _ _ _ _ _ _ _ _) (AGr (⟨_,rfl,fun Ag=>?_,fun Ag=>?_⟩)))
   ·refine AGm (AGu (AGz (AUg (ATc (ATc (AUg (ATc ?_)))))));obtain rfl:=AGl (Ao _ (AGl (ifT Ap Ag)).symm);exact ⟨_,AS2,Aa.x,rfl⟩
   ·refine AGy (q_b (q_t (AS3 (ATk rfl rfl (AGj (AGr ?_))))));exact ⟨_,(AGl (Aa7 Ap Ag)).symm,Aa,rfl,trivial⟩
  ·refine AS8 (ATa (ATa (AT7 (q_t (AGm (AGu (AGz ?_)))))));obtain rfl:=AGl (Ao _ (AGl (ATz Ae Af)).symm);exact ⟨_,AS2,Aa.x,rfl⟩
end Go.Proofs.YthbndcbclhkepaaGreatDoor
namespace Go.Proofs.YthbndcbclhkepaaGreatDoor
open Go Go.QF
set_option maxRecDepth 100000
theorem Ace {p:Int} (hp:1<=p) {a b:Nat} (h:a<=b):p ^ a<=p ^ b:=by
 obtain ⟨c,rfl⟩:∃ c,b=a + c:=⟨b - a,AGi⟩;rw [Int.pow_add];have h1:0 < p ^ a:=Int.pow_pos AGi;have h2:0 < p ^ c:=Int.pow_pos AGi;have:=Int.mul_le_mul_of_nonneg_left (show 1<=p ^ c by omega) (Int.le_of_lt h1);omega
theorem Aps {p:Int} {k:Nat} (hp:2<=p) (h:p ^ k<=2147483647):k<=30:=by
 rcases Nat.lt_or_ge 30 k with h1 | h1
 ·exfalso;have h2:=Ace (p:=p) AGi (show 31<=k by omega);have h3:(2:Int) ^ 31<=p ^ 31:=Ad1 AGi hp 31;have h5:(2:Int) ^ 31=2147483648:=by decide
  omega
 ·exact h1
def Aq8 (F:AS5) (r c:Nat) (x:Int):AS5:=AUw F r fun q=>if q=c then x else F r q
theorem Ag0 (F:AS5) (r c:Nat) (x:Int) (i j:Nat):Aq8 F r c x i j=if i=r/\j=c then x else F i j:=by
 unfold Aq8;rw [AT2];by_cases h:i=r
 ·rw [if_pos h];by_cases h2:j=c
  ·rw [if_pos h2,if_pos ⟨h,h2⟩]
  ·rw [if_neg h2,if_neg (fun e=>h2 e.2),h]
 ·rw [if_neg h,if_neg (fun e=>h e.1)]
def Ayl (F:AS5) (r:Nat) (a b c:Int):AS5:=Aq8 (Aq8 (Aq8 (Aq8 F r r a) r (r + 1) b) (r + 1) r b) (r + 1) (r + 1) c
def Ata (p:Int):List AWt->Nat->(AS5)->(AS5)
  | [],_,F=>F
  | b :: l,r,F=>if b.2.1=2 then Ata p l (r + 2) (Ayl F r (p ^ b.1.toNat * b.2.2.1) (p ^ b.1.toNat * b.2.2.2.1) (p ^ b.1.toNat * b.2.2.2.2)) else Ata p l (r + 1) (Aq8 F r r (p ^ b.1.toNat * b.2.2.1))
def Ad4:List AWt->Nat
  | []=>0
  | b :: l=>b.2.1.toNat + Ad4 l
def Av6 (p:Int) (k:Nat) (b:AWt):Prop:=(0<=b.1/\b.1<=if p=2 then (k:Int) - 3 else (k:Int) - 1)/\
  if b.2.1=1 then (0 < b.2.2.1/\b.2.2.1 < p ^ (k - b.1.toNat))/\¬ p ∣ b.2.2.1/\b.2.2.2.1=0/\b.2.2.2.2=0
  else ((0<=b.2.2.1/\b.2.2.1 < p ^ (k - b.1.toNat))/\(0<=b.2.2.2.1/\b.2.2.2.1 < p ^ (k - b.1.toNat))/\0<=b.2.2.2.2/\b.2.2.2.2 < p ^ (k - b.1.toNat))/\b.2.2.1 % 2=0/\b.2.2.2.1 % 2=1/\b.2.2.2.2 % 2=0
def Asc (L:List AWt) (i:Nat):Prop:=0 < i-> ∀ b c,L[i]? =some b->L[i - 1]? =some c->c.1<=b.1
def RG (p:Int) (k:Nat) (L:List AWt) (i:Nat):Prop:=(∀ b,L[i]? =some b->Av6 p k b)/\Asc L i
end Go.Proofs.YthbndcbclhkepaaGreatDoor
namespace Go.Proofs.YthbndcbclhkepaaGreatDoor
open Go Go.QF
structure Eli (n K:Nat) (p:Int) (H T G:AS5):Prop where
  c:Car n K p H T G
  d:Eqm (p ^ K) (det n T * det n T) 1
theorem Apt {n:Nat} {m:Int} {A A' B B':AS5} {i j:Nat} (hA:∀ k,k < n->Eqm m (A i k) (A' i k)) (hB:∀ k,k < n->Eqm m (B k j) (B' k j)):Eqm m (AVk n A B i j) (AVk n A' B' i j):=Eqm.psum fun k hk=>(hA k hk).mul (hB k hk)
theorem Eli.step {n K:Nat} {p:Int} {H T G E T' G':AS5} (S:Eli n K p H T G) (hE:det n E * det n E=1) (hT:∀ i j,i < n->j < n->Eqm (p ^ K) (T' i j) (AVk n T E i j)) (hG:∀ i j,i < n->j < n->Eqm (p ^ K) (G' i j) (AVk n (trF E) (AVk n G E) i j)):Eli n K p H T' G':=by
 refine ⟨fun i j hi hj=>?_,?_⟩
 ·have h1:Eqm (p ^ K) (AVk n (trF T') (AVk n H T') i j) (AVk n (trF (AVk n T E)) (AVk n H (AVk n T E)) i j):=Apt (fun k hk=>hT k i hk hi) fun k hk=>Apt (fun l hl=>Eqm.refl _ _) fun l hl=>hT l j hl hj;refine h1.trans (Eqm.trans (Eqm.of_eq ?_) ((Apt (fun k hk=>Eqm.refl _ _) fun k hk=>Apt (fun l hl=>S.c k l hk hl) fun l hl=>Eqm.refl _ _).trans (hG i j hi hj).symm));rw [Afy (fun k hk=>Arp i k) (fun k hk=>rfl),Afx];refine Afy (fun _ _=>rfl) fun k hk=>?_;rw [Afx];refine Afy (fun _ _=>rfl) fun l hl=>?_;rw [Afx]
 ·have h1:Eqm (p ^ K) (det n T') (det n T * det n E):=by rw [<- Al5];exact Avs hT
  refine (h1.mul h1).trans (Eqm.trans (Eqm.of_eq ?_) S.d);rw [show det n T * det n E * (det n T * det n E)=det n T * det n T * (det n E * det n E) by grind,hE,Int.mul_one]
theorem BCl {n K:Nat} {p:Int} {H G:AS5} (hG:∀ i j,i < n->j < n->Eqm (p ^ K) (G i j) (H i j)):Eli n K p H dl G:=by
 refine ⟨fun i j hi hj=>?_,by rw [Aqe];exact Eqm.refl _ _⟩
 ·refine Eqm.trans (Eqm.of_eq ?_) (hG i j hi hj).symm;exact (A1u (n:=n) (A:=H) i j hi hj).symm
def Az4 (j k:Nat) (c:Int):AS5:=AUw dl k fun x=>dl k x + c * dl j x
theorem A62 (j k:Nat) (c:Int) (a b:Nat):Az4 j k c a b=dl a b + (if a=k then c * dl j b else 0):=by
 unfold Az4;rw [AT2];by_cases h:a=k
 ·subst h;rw [if_pos rfl,if_pos rfl]
 ·rw [if_neg h,if_neg h];simp
theorem A63 {n j k:Nat} {c:Int} (hj:j < n) (hk:k < n) (hne:k≠j):det n (Az4 j k c) * det n (Az4 j k c)=1:=by
 unfold Az4;rw [Aez hk hj hne,Aqe];rfl
theorem Apu {n j k:Nat} {c:Int} {T:AS5} {a b:Nat} (hk:k < n) (hb:b < n):AVk n T (Az4 j k c) a b=T a b + (if b=j then c * T a k else 0):=by
 unfold AVk
 rw [AT0 (g:=fun l=>T a l * dl l b + (if l=k then T a k * (c * dl j b) else 0)) fun l _=>by
   rw [A62];by_cases h:l=k
   · subst h;rw [if_pos rfl,if_pos rfl];grind
   · rw [if_neg h,if_neg h];simp,Aey,Azo hb,Ahk hk fun l _ hne=>if_neg hne,if_pos rfl]
 unfold dl;by_cases h:b=j
 ·subst h;rw [if_pos rfl,if_pos rfl];grind
 ·rw [if_neg h,if_neg fun h2=>h h2.symm];simp
theorem A9w {n j k:Nat} {c:Int} {M:AS5} {a b:Nat} (hk:k < n) (ha:a < n):AVk n (trF (Az4 j k c)) M a b=M a b + (if a=j then c * M k b else 0):=by
 have:=Apu (T:=trF M) (j:=j) (c:=c) (a:=b) hk ha;rw [<- show trF (trF M)=M from rfl,<- Arp];exact this
theorem Eli.add {n K:Nat} {p:Int} {H T G T' G':AS5} {j k:Nat} {c:Int} (S:Eli n K p H T G) (hj:j < n) (hk:k < n) (hne:k≠j) (hT:∀ a b,a < n->b < n->Eqm (p ^ K) (T' a b) (T a b + if b=j then c * T a k else 0)) (hG:∀ a b,a < n->b < n->Eqm (p ^ K) (G' a b) (G a b + (if b=j then c * G a k else 0) + if a=j then c * (G k b + if b=j then c * G k k else 0) else 0)):Eli n K p H T' G':=
  S.step (A63 hj hk hne) (fun a b ha hb=>by rw [Apu hk hb];exact hT a b ha hb) fun a b ha hb=>by
    rw [A9w hk ha,Apu hk hb,Apu hk hb]
    exact hG a b ha hb
def sw2 (i j a:Nat):Nat:=if a=j then i else if a=i then j else a
theorem Aos {n i j a:Nat} (hi:i < n) (hj:j < n) (ha:a < n):sw2 i j a < n:=by
 unfold sw2;by_cases h1:a=j
 ·rw [if_pos h1];exact hi
 ·rw [if_neg h1];by_cases h2:a=i
  ·rw [if_pos h2];exact hj
  ·rw [if_neg h2];exact ha
theorem A11 (i j a:Nat):sw2 i j (sw2 i j a)=a:=by
 unfold sw2;by_cases h1:a=j
 ·subst h1;rw [if_pos rfl];by_cases h2:i=a
  ·rw [if_pos h2,h2]
  ·rw [if_neg h2,if_pos rfl]
 ·rw [if_neg h1];by_cases h2:a=i
  ·subst h2;rw [if_pos rfl,if_pos rfl]
  ·rw [if_neg h2,if_neg h1,if_neg h2]
theorem Av7 (i j a b:Nat):AX3 dl i j a b=dl (sw2 i j a) b:=by
 rw [Ae8];unfold sw2;by_cases h1:a=j
 ·rw [if_pos h1,if_pos h1]
 ·rw [if_neg h1,if_neg h1];by_cases h2:a=i
  ·rw [if_pos h2,if_pos h2]
  ·rw [if_neg h2,if_neg h2]
theorem A9x {n i j:Nat} (hi:i < n) (hj:j < n):det n (AX3 dl i j) * det n (AX3 dl i j)=1:=by
 by_cases h:i=j
 ·subst h
  rw [AUm (G:=dl) fun a b _ _=>by
    rw [Av7];unfold sw2;by_cases h:a=i
    · rw [if_pos h,h]
    · rw [if_neg h,if_neg h],Aqe];rfl
 ·rw [Aja hi hj h,Aqe];rfl
theorem Av8 {n i j:Nat} {T:AS5} {a b:Nat} (hi:i < n) (hj:j < n) (hb:b < n):AVk n T (AX3 dl i j) a b=T a (sw2 i j b):=by
 unfold AVk;rw [Ahk (Aos hi hj hb) fun k _ hne=>?_]
 ·rw [Av7,A11];unfold dl;rw [if_pos rfl];simp
 ·rw [Av7];unfold dl;rw [if_neg fun h=>hne (by rw [<- h,A11])];simp
theorem BCm {n i j:Nat} {M:AS5} {a b:Nat} (hi:i < n) (hj:j < n) (ha:a < n):AVk n (trF (AX3 dl i j)) M a b=M (sw2 i j a) b:=by
 have:=Av8 (T:=trF M) (a:=b) hi hj ha;rw [<- show trF (trF M)=M from rfl,<- Arp];exact this
theorem Eli.swap {n K:Nat} {p:Int} {H T G T' G':AS5} {i j:Nat} (S:Eli n K p H T G) (hi:i < n) (hj:j < n) (hT:∀ a b,a < n->b < n->T' a b=T a (sw2 i j b)) (hG:∀ a b,a < n->b < n->G' a b=G (sw2 i j a) (sw2 i j b)):Eli n K p H T' G':=
  S.step (A9x hi hj) (fun a b ha hb=>by rw [Av8 hi hj hb,hT a b ha hb];exact Eqm.refl _ _) fun a b ha hb=>by
    rw [BCm hi hj ha,Av8 hi hj hb,hG a b ha hb];exact Eqm.refl _ _
theorem Eli.sym {n K:Nat} {p:Int} {H T G:AS5} (S:Eli n K p H T G) (hs:∀ i j,i < n->j < n->H i j=H j i) (hG:Av5 n (p ^ K) G) {i j:Nat} (hi:i < n) (hj:j < n):G i j=G j i:=by
 refine A2z ?_ (hG i j hi hj) (hG j i hj hi);refine (S.c i j hi hj).symm.trans (Eqm.trans (Eqm.of_eq ?_) (S.c j i hj hi));show psum (fun a=>T a i * psum (fun b=>H a b * T b j) n) n=psum (fun a=>T a j * psum (fun b=>H a b * T b i) n) n;rw [AT0 (g:=fun a=>psum (fun b=>T a i * (H a b * T b j)) n) fun a _=>(AYa _ _ _).symm,Aqd,AT0 (f:=fun a=>T a j * psum (fun b=>H a b * T b i) n) (g:=fun a=>psum (fun b=>T a j * (H a b * T b i)) n) fun a _=>(AYa _ _ _).symm];refine AT0 fun a ha=>AT0 fun b hb=>?_;rw [hs b a hb ha];grind
theorem Eli.det {n K:Nat} {p:Int} {H T G:AS5} (S:Eli n K p H T G):Eqm (p ^ K) (QF.det n G) (QF.det n H):=by
 have h1:Eqm (p ^ K) (QF.det n G) (QF.det n (AVk n (trF T) (AVk n H T))):=Avs fun i j hi hj=>(S.c i j hi hj).symm;refine h1.trans ?_;rw [Al5,Al5,Afw];refine Eqm.trans (Eqm.of_eq (show QF.det n T * (QF.det n H * QF.det n T)=QF.det n H * (QF.det n T * QF.det n T) by grind)) ?_;have:=(Eqm.refl (p ^ K) (QF.det n H)).mul S.d;rwa [Int.mul_one] at this
theorem Eli.some {n K k:Nat} {p:Int} {H T G:AS5} (S:Eli n K p H T G) (hd: ¬ p ^ K ∣ QF.det n H) (hk:k < n) (hz:∀ j,j < k->G k j=0):∃ j,k<=j/\j < n/\G k j≠0:=by
  refine Classical.byContradiction fun hn=>hd ?_
  have h0:QF.det n G=0:=Al4 hk fun j hj=>Classical.byContradiction fun h=>hn ⟨j,by
    rcases Nat.lt_or_ge j k with hl | hl
    · exact absurd (hz j hl) h
    · exact hl,hj,h⟩
  have:=S.det;rw [h0] at this;exact Apn.1 this.symm
def Aot (q:Int) (j l:Nat) (c:Int) (T:AS5):AS5:=fun a b=>if b=j then (T a j + c * T a l) % q else T a b
def A64 (q:Int) (j l:Nat) (c:Int) (G:AS5):AS5:=fun a b=>if a=j then (G j b + c * G l b) % q else G a b
def Atb (q:Int) (j l:Nat) (c:Int) (G:AS5):AS5:=A64 q j l c (Aot q j l c G)
def swC (i j:Nat) (T:AS5):AS5:=fun a b=>T a (sw2 i j b)
def swG (i j:Nat) (G:AS5):AS5:=fun a b=>G (sw2 i j a) (sw2 i j b)
theorem Ae5 (q:Int) (j l:Nat) (c:Int) (G:AS5) (a b:Nat):Atb q j l c G a b=if a=j then (if b=j then ((G j j + c * G j l) % q + c * ((G l j + c * G l l) % q)) % q else (G j b + c * G l b) % q) else if b=j then (G a j + c * G a l) % q else G a b:=by
 unfold Atb A64 Aot;by_cases h:a=j
 ·rw [if_pos h,if_pos h];by_cases h2:b=j
  ·rw [if_pos h2,if_pos h2,if_pos h2]
  ·rw [if_neg h2,if_neg h2,if_neg h2]
 ·rw [if_neg h,if_neg h]
theorem A12 {d q x:Int} (hq:d ∣ q) (hx:d ∣ x):d ∣ x % q:=by
 rw [Int.emod_def];exact Int.dvd_sub hx (Int.dvd_trans hq ⟨_,rfl⟩)
theorem Akb {q:Int} (hq:0 < q) (x:Int):0<=x % q/\x % q < q:=⟨Int.emod_nonneg _ AGi,Int.emod_lt_of_pos _ hq⟩
theorem Auv {n j l:Nat} {q c:Int} {T:AS5} (hq:0 < q) (h:Av5 n q T):Av5 n q (Aot q j l c T):=fun a b ha hb=>by
  unfold Aot;split
  · exact Akb hq _
  · exact h a b ha hb
theorem A3n {n j l:Nat} {q c:Int} {G:AS5} (hq:0 < q) (h:Av5 n q G):Av5 n q (Atb q j l c G):=fun a b ha hb=>by
  unfold Atb A64;split
  · exact Akb hq _
  · exact Auv hq h a b ha hb
theorem Az5 {k i j a:Nat} (hi:k<=i) (hj:k<=j) (ha:k<=a):k<=sw2 i j a:=by
 unfold sw2;by_cases h1:a=j
 ·rw [if_pos h1];exact hi
 ·rw [if_neg h1];by_cases h2:a=i
  ·rw [if_pos h2];exact hj
  ·rw [if_neg h2];exact ha
theorem Av9 {i j a:Nat} (hi:a≠i) (hj:a≠j):sw2 i j a=a:=by unfold sw2;rw [if_neg hj,if_neg hi]
def Apv (L:List AWt):Prop:= ∀ b∈L,b.2.1=1∨b.2.1=2
theorem Ahl (c:AWt) (L:List AWt):Ad4 (c :: L)=c.2.1.toNat + Ad4 L:=rfl
theorem Ahm (p:Int) (c:AWt) (L:List AWt) (r:Nat) (F:AS5):Ata p (c :: L) r F=if c.2.1=2 then Ata p L (r + 2) (Ayl F r (p ^ c.1.toNat * c.2.2.1) (p ^ c.1.toNat * c.2.2.2.1) (p ^ c.1.toNat * c.2.2.2.2)) else Ata p L (r + 1) (Aq8 F r r (p ^ c.1.toNat * c.2.2.1)):=rfl
theorem Anh {p:Int} {b:AWt}:∀ {L:List AWt} {r:Nat} {F:AS5},Apv L->Ata p (L ++ [b]) r F=Ata p [b] (r + Ad4 L) (Ata p L r F)
  | [],r,F,_=>rfl
  | c :: L,r,F,h=>by
    have h1:Apv L:=fun x hx=>h x (List.mem_cons_of_mem _ hx)
    rw [List.cons_append,Ahm p c (L ++ [b]),Ahm p c L,Ahl]
    rcases h c ATv with hc | hc
    · rw [if_neg AGi,if_neg AGi,Anh h1,show r + 1 + Ad4 L=r + (c.2.1.toNat + Ad4 L) by omega]
    · rw [if_pos hc,if_pos hc,Anh h1,show r + 2 + Ad4 L=r + (c.2.1.toNat + Ad4 L) by omega]
theorem Ah3 (F:AS5) (r:Nat) (a b c:Int) (i j:Nat):Ayl F r a b c i j=if i=r/\j=r then a else if i=r/\j=r + 1 then b else if i=r + 1/\j=r then b else if i=r + 1/\j=r + 1 then c else F i j:=by
 unfold Ayl;rw [Ag0,Ag0,Ag0,Ag0];by_cases h1:i=r
 ·subst h1;rw [if_neg AGi,if_neg AGi];by_cases h2:j=i
  ·subst h2;rw [if_neg AGi,if_pos ⟨rfl,rfl⟩,if_pos ⟨rfl,rfl⟩]
  ·by_cases h3:j=i + 1
   ·subst h3;rw [if_pos ⟨rfl,rfl⟩,if_neg AGi,if_pos ⟨rfl,rfl⟩]
   ·rw [if_neg AGi,if_neg AGi,if_neg AGi,if_neg AGi,if_neg AGi,if_neg AGi]
 ·by_cases h4:i=r + 1
  ·subst h4;by_cases h2:j=r
   ·subst h2;rw [if_neg AGi,if_pos ⟨rfl,rfl⟩,if_neg AGi,if_neg AGi,if_pos ⟨rfl,rfl⟩]
   ·by_cases h3:j=r + 1
    ·subst h3;rw [if_pos ⟨rfl,rfl⟩,if_neg AGi,if_neg AGi,if_neg AGi,if_pos ⟨rfl,rfl⟩]
    ·rw [if_neg AGi,if_neg AGi,if_neg AGi,if_neg AGi,if_neg AGi,if_neg AGi,if_neg AGi,if_neg AGi]
  ·rw [if_neg AGi,if_neg AGi,if_neg AGi,if_neg AGi,if_neg AGi,if_neg AGi,if_neg AGi,if_neg AGi]
theorem Atc {p:Int} {i j:Nat}:∀ {L:List AWt} {r:Nat} {F:AS5},Apv L->(r + Ad4 L<=i∨r + Ad4 L<=j)->Ata p L r F i j=F i j
  | [],r,F,_,_=>rfl
  | c :: L,r,F,h,ho=>by
    have h1:Apv L:=fun x hx=>h x (List.mem_cons_of_mem _ hx)
    rw [Ahl] at ho
    rw [Ahm]
    rcases h c ATv with hc | hc
    · rw [if_neg AGi,Atc h1 AGi,Ag0,if_neg AGi]
    · rw [if_pos hc,Atc h1 AGi,Ah3,if_neg AGi,if_neg AGi,if_neg AGi,if_neg AGi]
theorem Ani {L:List AWt} {b:AWt}:Ad4 (L ++ [b])=Ad4 L + b.2.1.toNat:=by
 induction L with
 | nil=>simp [Ad4]
 | cons c L ih=>rw [List.cons_append,Ahl,Ahl,ih];omega
abbrev bm (L:List AWt):AS5:=Ata 2 L 0 fun _ _=>0
structure DS (n K:Nat) (H T G:AS5) (L:List AWt) (k E:Nat):Prop where
  rt:Av5 n (2 ^ K) T
  rg:Av5 n (2 ^ K) G
  e:Eli n K 2 H T G
  z:∀ i j,i < k->k<=j->j < n->G i j=0
  w:∀ i j,i < k->j < k->G i j=bm L i j
  fl:∀ i j,k<=i->i < n->k<=j->j < n->(2:Int) ^ E ∣ G i j
section
variable {n K k E:Nat} {H T G:AS5} {L:List AWt}
theorem DS.add {j l:Nat} {c:Int} (S:DS n K H T G L k E) (hE:E<=K) (hj:k<=j) (hjn:j < n) (hl:k<=l) (hln:l < n) (hne:l≠j):DS n K H (Aot (2 ^ K) j l c T) (Atb (2 ^ K) j l c G) L k E:=by
 have hq:(0:Int) < 2 ^ K:=Int.pow_pos AGk;refine ⟨Auv hq S.rt,A3n hq S.rg,?_,fun a b ha hb hbn=>?_,fun a b ha hb=>?_,fun a b ha han hb hbn=>?_⟩
 ·exact S.e.add (c:=c) hjn hln hne (fun a b ha hb=>by
    unfold Aot;by_cases h:b=j
    · subst h;rw [if_pos rfl,if_pos rfl];exact Eqm.mod _ _
    · rw [if_neg h,if_neg h,Int.add_zero];exact Eqm.refl _ _) fun a b ha hb=>by
    rw [Ae5]
    by_cases h:a=j
    · subst h;rw [if_pos rfl,if_pos rfl];by_cases h2:b=a
      · subst h2;rw [if_pos rfl,if_pos rfl,if_pos rfl]
        exact (Eqm.mod _ _).trans ((Eqm.mod _ _).add ((Eqm.refl _ _).mul (Eqm.mod _ _)))
      · rw [if_neg h2,if_neg h2,if_neg h2,Int.add_zero,Int.add_zero];exact Eqm.mod _ _
    · rw [if_neg h,if_neg h,Int.add_zero];by_cases h2:b=j
      · subst h2;rw [if_pos rfl,if_pos rfl];exact Eqm.mod _ _
      · rw [if_neg h2,if_neg h2,Int.add_zero];exact Eqm.refl _ _
 ·rw [Ae5,if_neg AGi];by_cases h:b=j
  ·subst h;rw [if_pos rfl,S.z a b ha hb hbn,S.z a l ha hl hln];simp
  ·rw [if_neg h];exact S.z a b ha hb hbn
 ·rw [Ae5,if_neg AGi,if_neg AGi];exact S.w a b ha hb
 ·have hd:(2:Int) ^ E ∣ 2 ^ K:=AWh hE;have key:∀ x y,k<=x->x < n->k<=y->y < n-> ∀ u v,k<=u->u < n->k<=v->v < n->(2:Int) ^ E ∣ (G x y + c * G u v) % 2 ^ K:=fun x y h1 h2 h3 h4 u v h5 h6 h7 h8=>A12 hd (Int.dvd_add (S.fl x y h1 h2 h3 h4) (Int.dvd_trans (S.fl u v h5 h6 h7 h8) ⟨c,Int.mul_comm _ _⟩));rw [Ae5];by_cases h:a=j
  ·rw [if_pos h];by_cases h2:b=j
   ·rw [if_pos h2];exact A12 hd (Int.dvd_add (key j j hj hjn hj hjn j l hj hjn hl hln) (Int.dvd_trans (key l j hl hln hj hjn l l hl hln hl hln) ⟨c,Int.mul_comm _ _⟩))
   ·rw [if_neg h2];exact key j b hj hjn hb hbn l b hl hln hb hbn
  ·rw [if_neg h];by_cases h2:b=j
   ·rw [if_pos h2];exact key a j ha han hj hjn a l ha han hl hln
   ·rw [if_neg h2];exact S.fl a b ha han hb hbn
theorem DS.swap {i j:Nat} (S:DS n K H T G L k E) (hi:k<=i) (hin:i < n) (hj:k<=j) (hjn:j < n):DS n K H (swC i j T) (swG i j G) L k E:=by
 refine ⟨(fun a b ha hb=>S.rt a _ ha (Aos hin hjn hb)),(fun a b ha hb=>S.rg _ _ (Aos hin hjn ha) (Aos hin hjn hb)),S.e.swap hin hjn (fun _ _ _ _=>rfl) fun _ _ _ _=>rfl,fun a b ha hb hbn=>?_,fun a b ha hb=>?_,(fun a b ha han hb hbn=>S.fl _ _ (Az5 hi hj ha) (Aos hin hjn han) (Az5 hi hj hb) (Aos hin hjn hbn))⟩
 ·unfold swG;rw [Av9 (a:=a) AGi AGi];exact S.z a _ ha (Az5 hi hj hb) (Aos hin hjn hbn)
 ·unfold swG;rw [Av9 (a:=a) AGi AGi,Av9 (a:=b) AGi AGi];exact S.w a b ha hb
theorem DS.low (S:DS n K H T G L k E) (hs:∀ i j,i < n->j < n->H i j=H j i) {E':Nat} (h:∀ a e,k<=a->a + e < n->(2:Int) ^ E' ∣ G a (a + e)):DS n K H T G L k E':=⟨S.rt,S.rg,S.e,S.z,S.w,fun i j hi hin hj hjn=>by
  rcases Nat.lt_or_ge j i with hl | hl
  · rw [S.e.sym hs S.rg hin hjn]
    have:=h j (i - j) hj AGi
    rwa [show j + (i - j)=i by omega] at this
  · have:=h i (j - i) hi AGi
    rwa [show i + (j - i)=j by omega] at this⟩
theorem DS.some (S:DS n K H T G L k E) (hs:∀ i j,i < n->j < n->H i j=H j i) (hd: ¬ (2:Int) ^ K ∣ det n H) (hk:k < n):∃ e,k + e < n/\G k (k + e)≠0:=by
  obtain ⟨j,h1,h2,h3⟩:=S.e.some hd hk fun j hj=>by rw [S.e.sym hs S.rg hk AGi];exact S.z j k hj (Nat.le_refl k) hk
  exact ⟨j - k,AGi,by rwa [show k + (j - k)=j by omega]⟩
theorem DS.bound (S:DS n K H T G L k E) (hs:∀ i j,i < n->j < n->H i j=H j i) {v:Nat} (hd: ¬ (2:Int) ^ v ∣ det n H) (hv:v<=K) (hk:k < n):E < v:=by
  rcases Nat.lt_or_ge E v with h | h
  · exact h
  · exfalso;have hp:(2:Int) ^ v≠0:=Int.pow_ne_zero AGk
    have hrow:∀ q,q < n->(2:Int) ^ v ∣ G k q:=fun q hq=>by
      rcases Nat.lt_or_ge q k with hl | hl
      · rw [S.e.sym hs S.rg hk hq,S.z q k hl (Nat.le_refl k) hk];exact ⟨0,ATv⟩
      · exact Int.dvd_trans (AWh h) (S.fl k q (Nat.le_refl k) hk hl hq)
    have h1:det n G=2 ^ v * det n (AUw G k fun q=>G k q / 2 ^ v):=by
      rw [<- Aub _ _ hk];refine AUm fun i j hi hj=>?_;rw [AT2]
      by_cases h:i=k
      · subst h;rw [if_pos rfl,Int.mul_ediv_cancel' (hrow j hj)]
      · rw [if_neg h]
    have h2:Eqm (2 ^ v) (det n G) (det n H):=S.e.det.down (AWh hv);exact hd (Aro h2.symm (Int.dvd_refl _) ⟨_,h1⟩)
theorem BCp {a:Int} (hL:Apv L) (hk:Ad4 L=k) (i j:Nat):bm (L ++ [((E:Int),1,a,0,0)]) i j=if i=k/\j=k then 2 ^ E * a else bm L i j:=by
 unfold bm;rw [Anh hL,Nat.zero_add,hk];show Aq8 _ k k ((2:Int) ^ E * a) i j=_;rw [Ag0]
theorem BCq {a b c:Int} (hL:Apv L) (hk:Ad4 L=k) (i j:Nat):bm (L ++ [((E:Int),2,a,b,c)]) i j=if i=k/\j=k then 2 ^ E * a else if i=k/\j=k + 1 then 2 ^ E * b else if i=k + 1/\j=k then 2 ^ E * b else if i=k + 1/\j=k + 1 then 2 ^ E * c else bm L i j:=by
 unfold bm;rw [Anh hL,Nat.zero_add,hk];show Ayl _ k ((2:Int) ^ E * a) (2 ^ E * b) (2 ^ E * c) i j=_;rw [Ah3]
theorem Atd (hL:Apv L) (hk:Ad4 L=k) {i j:Nat} (h:k<=i∨k<=j):bm L i j=0:=Atc hL AGi
theorem DS.next1 {a:Int} (S:DS n K H T G L k E) (hs:∀ i j,i < n->j < n->H i j=H j i) (hL:Apv L) (hkL:Ad4 L=k) (hk:k < n) (hz:∀ j,k < j->j < n->G k j=0) (ha:G k k=2 ^ E * a):DS n K H T G (L ++ [((E:Int),1,a,0,0)]) (k + 1) E:=by
 refine ⟨S.rt,S.rg,S.e,fun i j hi hj hjn=>?_,fun i j hi hj=>?_,(fun i j hi hin hj hjn=>S.fl i j AGi hin AGi hjn)⟩
 ·by_cases h:i=k
  ·rw [h];exact hz j AGi hjn
  ·exact S.z i j AGi AGi hjn
 ·rw [BCp hL hkL];by_cases h:i=k
  ·by_cases h2:j=k
   ·rw [if_pos ⟨h,h2⟩,h,h2,ha]
   ·rw [if_neg AGi,Atd hL hkL (.inl AGi),S.e.sym hs S.rg AGi AGi,h];exact S.z j k AGi (Nat.le_refl k) hk
  ·rw [if_neg AGi];by_cases h2:j=k
   ·rw [Atd hL hkL (.inr AGi),h2];exact S.z i k AGi (Nat.le_refl k) hk
   ·exact S.w i j AGi AGi
theorem DS.next2 {a b c:Int} (S:DS n K H T G L k E) (hs:∀ i j,i < n->j < n->H i j=H j i) (hL:Apv L) (hkL:Ad4 L=k) (hk:k + 1 < n) (hz:∀ j,k + 1 < j->j < n->G k j=0/\G (k + 1) j=0) (ha:G k k=2 ^ E * a) (hb:G k (k + 1)=2 ^ E * b) (hc:G (k + 1) (k + 1)=2 ^ E * c):DS n K H T G (L ++ [((E:Int),2,a,b,c)]) (k + 2) E:=by
 refine ⟨S.rt,S.rg,S.e,fun i j hi hj hjn=>?_,fun i j hi hj=>?_,(fun i j hi hin hj hjn=>S.fl i j AGi hin AGi hjn)⟩
 ·by_cases h:i=k
  ·rw [h];exact (hz j AGi hjn).1
  ·by_cases h2:i=k + 1
   ·rw [h2];exact (hz j AGi hjn).2
   ·exact S.z i j AGi AGi hjn
 ·rw [BCq hL hkL];have Ad:G (k + 1) k=2 ^ E * b:=by rw [S.e.sym hs S.rg hk AGi,hb]
  by_cases h:k<=i
  ·rcases Nat.lt_or_ge j k with h2 | h2
   ·rw [if_neg AGi,if_neg AGi,if_neg AGi,if_neg AGi,Atd hL hkL (.inl h),S.e.sym hs S.rg AGi AGi];exact S.z j i h2 h AGi
   ·rcases (by omega:i=k∨i=k + 1) with h3 | h3
    ·rcases (by omega:j=k∨j=k + 1) with h4 | h4
     ·rw [if_pos ⟨h3,h4⟩,h3,h4,ha]
     ·rw [if_neg AGi,if_pos ⟨h3,h4⟩,h3,h4,hb]
    ·rcases (by omega:j=k∨j=k + 1) with h4 | h4
     ·rw [if_neg AGi,if_neg AGi,if_pos ⟨h3,h4⟩,h3,h4,Ad]
     ·rw [if_neg AGi,if_neg AGi,if_neg AGi,if_pos ⟨h3,h4⟩,h3,h4,hc]
  ·rw [if_neg AGi,if_neg AGi,if_neg AGi,if_neg AGi];rcases Nat.lt_or_ge j k with h2 | h2
   ·exact S.w i j AGi h2
   ·rw [Atd hL hkL (.inr h2)];exact S.z i j AGi h2 AGi
end
structure DL (K:Nat) (L:List AWt) (k E:Nat):Prop where
  sum:Ad4 L=k
  sz:Apv L
  rg:∀ i,i < L.length->RG 2 K L i
  le:∀ b∈L,b.1<=E
theorem DL.nil {K:Nat}:DL K [] 0 0:=⟨rfl,fun b h=>(nomatch h),fun i h=>absurd h (Nat.not_lt_zero i),fun b h=>(nomatch h)⟩
theorem DL.push {K k E F m:Nat} {L:List AWt} {b:AWt} (B:DL K L k E) (hE:E<=F) (hb:b.1=F) (hP:Av6 2 K b) (hm:b.2.1=m) (Ab:m=1∨m=2):DL K (L ++ [b]) (k + m) F:=by
 refine ⟨by rw [Ani,B.sum];omega,fun x hx=>?_,fun i hi=>⟨fun x hx=>?_,fun h0 x y hx hy=>?_⟩,fun x hx=>?_⟩
 ·rcases List.mem_append.1 hx with h | h
  ·exact B.sz x h
  ·rw [List.mem_singleton.1 h];omega
 ·rcases Nat.lt_or_ge i L.length with h | h
  ·rw [List.getElem?_append_left h] at hx;exact (B.rg i h).1 x hx
  ·rw [List.getElem?_append_right h] at hx;rw [List.length_append,List.length_singleton] at hi;rw [show i - L.length=0 by omega] at hx;obtain rfl:b=x:=by simpa using hx
   exact hP
 ·rw [List.length_append,List.length_singleton] at hi;rcases Nat.lt_or_ge i L.length with h | h
  ·rw [List.getElem?_append_left h] at hx;rw [List.getElem?_append_left AGi] at hy;exact (B.rg i h).2 h0 x y hx hy
  ·rw [List.getElem?_append_right h] at hx;rw [show i - L.length=0 by omega] at hx;obtain rfl:b=x:=by simpa using hx
   rw [List.getElem?_append_left AGi] at hy;have:=B.le y (List.mem_of_getElem? hy);omega
 ·rcases List.mem_append.1 hx with h | h
  ·have:=B.le x h;omega
  ·rw [List.mem_singleton.1 h];omega
end Go.Proofs.YthbndcbclhkepaaGreatDoor
namespace Go.Proofs.YthbndcbclhkepaaGreatDoor
open Go Go.QF
theorem Aaj:FdT Tryz.prog 79 0 0 3:=⟨_,_,Tryz.underlying79,rfl,rfl,rfl⟩
theorem AVc:FdT Tryz.prog 79 1 1 25:=⟨_,_,Tryz.underlying79,rfl,rfl,rfl⟩
theorem Ahr:FdT Tryz.prog 79 2 2 25:=⟨_,_,Tryz.underlying79,rfl,rfl,rfl⟩
theorem Aak:SlT Tryz.prog 186 25 1:=Aiy Tryz.underlying186 AGx
theorem Auw:ZeT Tryz.prog 25 (.slice none 0 0) 24:=Ah8 AGx
end Go.Proofs.YthbndcbclhkepaaGreatDoor
namespace Go.Proofs.YthbndcbclhkepaaGreatDoor
open Go Go.QF
set_option maxRecDepth 100000
set_option maxHeartbeats 4000000
def Adh (fuel:Nat) (Ab Aa Ac Ad:Int):Option ((Int × Int × Int × Int) ⊕ ((Int × Int))):=
  (if ¬ Aa=0 then (if Aa≠0 then (some (Sum.inl (Aa,(w64 (Ab - (w64 ((w64 (Int.tdiv Ab Aa)) * Aa)))),Ad,(w64 (Ac - (w64 ((w64 (Int.tdiv Ab Aa)) * Ad))))))) else none) else (some (Sum.inr<| (Ab,Ac))))
def AZp (fuel:Nat) (a1 a2:Int):Option (Int × Bool):=
  ((iter (fun s=>Adh fuel s.1 s.2.1 s.2.2.1 s.2.2.2) fuel (a2,a1,0,1)).bind (fun ((Ac,Ad):Int × Int)=>(if a2≠0 then (if a2≠0 then (some ((Int.tmod (w64 ((Int.tmod Ad a2) + a2)) a2),(decide (Ac=1)))) else none) else none)))
theorem Alb {fuel:Nat} {h:AGt} {a1 a2:Int} {r:(Int × Bool)} (hp:AZp fuel a1 a2=some r):ATs Tryz.prog 161 #[(.int .i64 a1),(.int .i64 a2)] h (fun x h'=>Ext h h'/\x= .tuple #[.int .i64 r.1,.bool r.2]):=by
 unfold AZp at hp;refine cwf (l:=[_,_]) Tryz.func161 rfl rfl (AGm (ATi (ATw (AGj (AGj (ATi (ATw (ATi (AGu (AGo (AGp ?_)))))))))));have K0:=Kst.k0 h;refine AYd 1073735616 hp (fun x=>[(6,(.int .i64 x.1)),(7,(.int .i64 x.2.1)),(8,(.int .i64 x.2.2.1)),(9,(.int .i64 x.2.2.2))]) (fun x=>K0.L) K0 ⟨rfl,rfl,rfl,rfl,trivial⟩ ?_;rintro ⟨u9,Aq,Ar,Au⟩ Av h6 y5 K8 Aa Ag;unfold Adh at Aa;refine AGo (AGm (AGj (AWp rfl rfl (AGr (⟨_,rfl,fun Ab=>?_,fun Ab=>?_⟩)))))
 ·refine AGy (q_t (AGp (AGm (AGj (AGj ?_)))));obtain ⟨Ah,Ai⟩:=ifN (ATy Aa Ab);refine Amr rfl rfl Ah (ATw (AGj (AGj (AGj (AGj (AZe rfl rfl (AVd rfl rfl (ATi (AGu (AS3 (AGj (AGj (AGj (AGj (AZe rfl rfl (AVd rfl rfl (ATi (ATi (ATh (q_b (q_t ?_)))))))))))))))))))));exact ⟨_,(AGl Ai).symm,K8,rfl,rfl,rfl,rfl,trivial⟩
 ·refine AS8 (ATa (ATa (AT7 (q_t (AGm (AGj (AGj ?_)))))));obtain ⟨Aj,Ak⟩:=ifN (Ag _ (AGl (ATz Aa Ab)).symm);refine Acw rfl rfl Aj (AGj (ATk rfl rfl (AGj ?_)));obtain ⟨Am,Ao⟩:=ifN Ak;refine Acw rfl rfl Am (AGj (AUy rfl rfl (ATi (AGu (AGz ?_)))));obtain rfl:=AGl Ao;exact ⟨_,AUk,K8.x,rfl⟩
def Ae6 (fuel:Nat) (Aa:LiI) (Ab Ac:Int):Option ((Int × Int) ⊕ ((Int))):=
  (if Ac < (Aa.length:Int) then none else (some (Sum.inr<| Ab)))
def AZq (fuel:Nat) (Ab:LiI) (Ac Aa:Int):Option ((Int × Int) ⊕ ((Int))):=
  (if Aa < (Ab.length:Int) then ((iter (fun s=>Ae6 fuel Ab s.1 s.2) fuel (Ac,(w64 (Aa + 1)))).bind (fun (Ad:Int)=>(some (Sum.inl (Ad,(w64 (Aa + 1))))))) else (some (Sum.inr<| Ac)))
def AW3 (fuel:Nat) (a5 Ad:Int) (Af:LiA) (Ag Aa:Int) (Ab:LiI):Option ((Int × LiI) ⊕ ((LiI))):=
  (if Aa < (Af.length:Int) then ((gI Ab Ad).bind fun Ae=>((gI Ae Aa).bind fun Ah=>(if a5≠0 then (some (Sum.inl ((w64 (Aa + 1)),(sI Ab Ad (sI Ae Aa (Int.tmod (w64 (Ah * Ag)) a5)))))) else none))) else (some (Sum.inr<| Ab)))
def Aeh (fuel:Nat) (Aa Ab:Int):Option ((Int) ⊕ ((Unit))):=
  (if Ab < Aa then none else (some (Sum.inr<| ())))
def Aei (fuel:Nat) (a3 Ae:LiI) (Ab:Int) (Ac:LiI):Option ((Int × LiI) ⊕ ((LiI))):=
  (if Ab < (Ae.length:Int) then ((gI Ac Ab).bind fun Ad=>(if 0<=(a3.length:Int)/\(a3.length:Int)<=(Ad.length:Int) then (if (List.drop (Int.toNat (a3.length:Int)) Ad).length<=100000000 then (some (Sum.inl ((w64 (Ab + 1)),(sI Ac Ab (List.drop (Int.toNat (a3.length:Int)) Ad))))) else none) else none)) else (some (Sum.inr<| Ac)))
def AZr (fuel:Nat) (a5 Aa:Int) (Ab:LiI):Option ((Int × LiI) ⊕ (((LiI × Int)) ⊕ (LiI))):=
  (if 0<=Aa then ((gI Ab Aa).bind fun Ad=>((gI Ad Aa).bind fun Ae=>((AZp fuel Ae a5).bind fun (Af,Ag)=>(if (!Ag)=true then (some (Sum.inr<| Sum.inl <| ([],8))) else ((((iter (fun s=>AW3 fuel a5 Aa Ad Af s.1 s.2) fuel (0,Ab)).bind (fun (Ah:LiI)=>(some ( Ah)))):Option (LiI)).bind fun Ai=>((iter (fun s=>Aeh fuel Aa s) fuel 0).bind (fun (_:Unit)=>(some (Sum.inl ((w64 (Aa - 1)),Ai)))))))))) else (some (Sum.inr<| Sum.inr <| Ab)))
def Ae7 (fuel:Nat) (a3 Af:LiI) (Aa:Int) (Ac:LiI):Option ((Int × LiI) ⊕ ((LiI))):=
  (if Aa < (Af.length:Int) then ((gI Ac Aa).bind fun Ad=>(if 0 < Ad.length/\Ad.length<=100000/\0 < (a3.length:Int)/\(a3.length:Int)<=100000 then ((gI (sI Ac Aa (Ad ++ List.replicate (Int.toNat (a3.length:Int)) 0)) Aa).bind fun Ae=>((gI Ae (w64 ((a3.length:Int) + Aa))).bind fun Ag=>(some (Sum.inl ((w64 (Aa + 1)),(sI (sI Ac Aa (Ad ++ List.replicate (Int.toNat (a3.length:Int)) 0)) Aa (sI Ae (w64 ((a3.length:Int) + Aa)) 1))))))) else none)) else (some (Sum.inr<| Ac)))
def AZx (fuel:Nat) (a3:LiI) (a5:Int):Option (LiI × Int):=
  ((AZ3 fuel a3).bind fun x6=>(if (!x6)=true then (some ([],3)) else ((AVb fuel a5).bind fun Ac=>(if ¬ Ac=0 then (some ([],Ac)) else ((AVh fuel a3 a5).bind fun Ad=>((iter (fun s=>Ae7 fuel a3 Ad s.1 s.2) fuel (0,Ad)).bind (fun (Ae:LiI)=>(((((some ( a5)):Option (Int)).bind fun Ak=>((iter (fun s=>AZq fuel Ae s.1 s.2) fuel (1,0)).bind (fun (Ah:Int)=>(some ( Ah))))):Option (Int)).bind fun Am=>(((some ( a5)):Option (Int)).bind fun Ao=>((iter (fun s=>AZr fuel a5 s.1 s.2) fuel ((w64 ((a3.length:Int) - 1)),Ae)).bind (fun ex=>match ex with | Sum.inl Ai=>(some Ai) | Sum.inr (Af)=>((iter (fun s=>Aei fuel a3 Af s.1 s.2) fuel (0,Af)).bind (fun (Aj:LiI)=>(some (Aj,0)))))))))))))))
theorem Ah4 {fuel:Nat} {h:AGt} {Bq:Value} {a3:LiI} {a5:Int} {r:(LiI × Int)} (H2:AXs (cI .i64) h Bq a3) (hp:AZx fuel a3 a5=some r):ATs Tryz.prog 133 #[Bq,(.int .i64 a5)] h (fun x h'=>Ext h h'/\ ∃ (x0:Value) (F0:List Nat) (Cb:List LnA) (Cd:List Value),x= .tuple #[x0,.int .i64 r.2]/\AVt (cI .i64) 49 2 h' F0 Cb Cd x0 r.1/\Sp h' h.size [F0]):=by
 unfold AZx at hp;refine cwf (l:=[_,_]) Tryz.func133 rfl rfl (AGm (ATi (AGu (AGo (AGm (AGj ?_))))));have K0:=Kst.k0 h;obtain ⟨x6,Ce,Bw⟩:=AGn hp;refine AW0 K0 (Ajd (H2.ext K0.x) Ce) fun Es E9 Bx=>AWq rfl (AGr (⟨_,rfl,fun Ap=>?_,fun Ap=>?_⟩))
 ·refine AGm (ATi (AGu (AGz (ATc ?_))));have Aq:=Kst.anil2 (cI .i64) 49 2 Bx;obtain rfl:=AGl (ifT Bw Ap);exact ⟨_,AUk,Aq.x,_,_,_,_,rfl,(Aq.o2 p0),Aq.s.sel [0] AGk⟩
 ·refine AGy (q_t (AGo (AGm (AGj ?_))));obtain ⟨Eu,Cf,By⟩:=AGn (Aa7 Bw Ap);refine AW0 Bx (AYw Cf) fun Ev Ew Ar=>ATw (AGj (AWp rfl rfl (AGr (⟨_,rfl,fun Au=>?_,fun Au=>?_⟩))))
  ·refine AGm (AGj (ATi (AGu (AGz (ATc ?_)))));have Av:=Kst.anil2 (cI .i64) 49 2 Ar;obtain rfl:=AGl (ATy By Au);exact ⟨_,AUk,Av.x,_,_,_,_,rfl,(Av.o2 p0),Av.s.sel [0] AGk⟩
  ·refine AGy (q_t (AGm (AGj (AT4 ATb rfl H2 (ATw (AGj (AGj ?_)))))));obtain ⟨Cg,Ch,Ci⟩:=AGn (ATz By Au);refine Ahe Ar (AY2 (H2.ext Ar.x) Ch) fun Cj Ck Cm Af Ey Ez Aw=>AGu (AGo (AGm (AGj (AT4 ATb rfl (Aw.o2 p0).rd (AGj (AGr (AGp (AX6 4503597479887360 (fun x:(Int) × (LiI) × LnA × LnN × LvA=>(x.1,x.2.1)) ((0,Cg,Cj,Ck,Cm):(Int) × (LiI) × LnA × LnN × LvA) Ci (fun x=>[(31,(.int .i64 x.1))]) (fun x=>Aw.L.set 0 (aO2 (cI .i64) 49 2 x.2.2.1 x.2.2.2.1 x.2.2.2.2 Af x.2.1)) Aw ⟨rfl,trivial⟩ ?_))))))));rintro ⟨Cn,Fa,Ai,Aj,Ak⟩ Fb Fc Fd Ac Ax Co;unfold Ae7 at Ax;refine AGm (ATl rfl rfl (AGr (AGo (⟨_,rfl,fun Ay=>?_,fun Ay=>?_⟩))))
   ·refine AGy (q_t (AGo (AGp (AGm (AGj (ATw (AGj (AGj (AGj (AGj ?_))))))))));obtain ⟨Fe,Bz,Cp⟩:=AGn (ATy Ax Ay);refine AUh ATb ATq (Ac.o2 p0) Bz fun _ Ff Cq=>AGj ?_;obtain ⟨Cr,Ct⟩:=ifN Cp;refine A8o AS9 Alj Acy ATb ATq (Ac.o2 p0) Cq Bz trivial tt2 rfl rfl (fun _=>rfl) (fun _=>rfl) rfl AGk Cr fun Fg Fh Fi Fj Fk Fl Cu Cv Cw=>AGr (AS3 (AGj (AGj ?_)));have B1:=Ac.uo2 p0 Cv Cu Cw;obtain ⟨Fm,B3,Cx⟩:=AGn Ct;refine AUh ATb ATq (B1.o2 p0) B3 fun _ Fo Cy=>AGj (AGj (ATk rfl rfl ?_));obtain ⟨Fp,Cz,C0⟩:=AGn Cx;refine AZv (m:=Cn) B1 p0 AS9 ATe Cy B3 Cz (fun _=>rfl) fun _ Fq C1=>ATh (q_b (q_t (AS3 (ATk rfl rfl (AGj (AGr ?_))))));exact ⟨(_,_,_,_,_),(AGl C0).symm,C1,rfl,trivial⟩
   ·refine AS8 (ATa (ATa (AT7 (q_t (AGm (AGj (AGj ?_)))))));obtain ⟨C2,C3,C4⟩:=AGn (Co _ (AGl (ATz Ax Ay)).symm);refine ATd (K':=(fun xr h'=> ∃ x:(Int),x=C2/\xr=(.int .i64 x)/\Kst h h' (Ac.L))) trivial rfl ?_ fun Fr Ft C5=>?_
    ·refine cwf (l:=[_,_]) Tryz.func119 rfl rfl (AGm (ATw (AGj ?_)));obtain ⟨C6,C7,C8⟩:=AGn C3;refine ATd (K':=(fun xr h'=> ∃ x:(Nat) × (Int),x.2=C6/\xr=(.func (.func 178) #[] #[(.pointer (some ⟨x.1,0,none⟩))])/\Kst h h' (aB 2 x.1 [(.int .i64 x.2)] :: Ac.L))) trivial rfl ?_ fun Fu Fv C9=>?_
     ·refine cwf (l:=[_]) Tryz.func159 rfl rfl (AGm (AYy Ac [(.int .i64 a5)] fun Da Fw Fx Db=>ATw (A37 rfl (AGu (AGz (⟨_,AS2,((Da,a5):(Nat) × (Int)),?_,rfl,?_⟩))))))
      ·exact AGl C7
      ·exact Db
     obtain ⟨⟨Fy,Fz⟩,Dc,rfl,Az⟩:=C9;refine ⟨trivial,?_⟩;subst Dc;refine ATw (AGu (AGo (AGm (AGj (AT4 ATb rfl (Az.o2 p1).rd (AGj (AGr (AGp (AYd 18889465931478580847040 C8 (fun x=>[(6,(.int .i64 x.1)),(13,(.int .i64 x.2))]) (fun x=>Az.L) Az ⟨rfl,rfl,trivial⟩ ?_)))))))));rintro ⟨Dd,F4⟩ F5 F6 F7 A3 A4 De;unfold AZq at A4;refine AGm (ATl rfl rfl (AGr (AGo (⟨_,rfl,fun A5=>?_,fun A5=>?_⟩))))
     ·refine AGy (q_t (AGo (AGp (AGm (AGj (ATw (AGj (ATk rfl rfl (AGu (AGp (AYd 9444732965739290165568 (ATy A4 A5) (fun x=>[(6,(.int .i64 x.1)),(8,(.int .i64 x.2))]) (fun x=>A3.L) A3 ⟨rfl,rfl,trivial⟩ ?_)))))))))));rintro ⟨F8,F9⟩ Ga Gb Gc B4 A6 Df;unfold Ae6 at A6;refine AGo (AGm (AGj (AGj (AT4 ATb rfl (B4.o2 p1).rd (ATl rfl rfl (AGr (⟨_,rfl,fun A7=>?_,fun A7=>?_⟩)))))))
      ·refine AGy (q_t (AGo ?_));have Dg:=ATy A6 A7;cases Dg
      ·refine AS8 (ATa (ATa (AT7 (q_b (q_t (AS3 (ATk rfl rfl (AGj (AGr ?_)))))))));exact ⟨_,(AGl (Df _ (AGl (ATz A6 A7)).symm)).symm,B4,rfl,rfl,trivial⟩
     ·refine AS8 (ATa (ATa (AT7 (q_t (AGm (AGj (AGu (AGz (⟨_,AS2,(Dd:(Int)),?_,rfl,?_⟩)))))))))
      ·exact AGl (De _ (AGl (ATz A4 A5)).symm)
      ·exact A3.sel [1] AGk
    obtain ⟨Gd,Dh,rfl,B5⟩:=C5;refine ⟨trivial,?_⟩;subst Dh;refine AZg (AGj ?_);obtain ⟨Di,Dj,Dk⟩:=AGn C4;refine ATd (K':=(fun xr h'=> ∃ x:(Nat) × (Int),x.2=Di/\xr=(.func (.func 178) #[] #[(.pointer (some ⟨x.1,0,none⟩))])/\Kst h h' (aB 2 x.1 [(.int .i64 x.2)] :: B5.L))) trivial rfl ?_ fun Ge Gf Dl=>?_
    ·refine cwf (l:=[_]) Tryz.func159 rfl rfl (AGm (AYy B5 [(.int .i64 a5)] fun Do Gg Gh Dp=>ATw (A37 rfl (AGu (AGz (⟨_,AS2,((Do,a5):(Nat) × (Int)),?_,rfl,?_⟩))))))
     ·exact AGl Dj
     ·exact Dp
    obtain ⟨⟨Gi,Gj⟩,Dq,rfl,B6⟩:=Dl;refine ⟨trivial,?_⟩;subst Dq;refine AGu (AGo (AGm (AGj (AVd rfl rfl (AGu (AGp (AYd 81129638414606105235036701751344 Dk (fun x=>[(11,(.int .i64 x.1))]) (fun x=>B6.L.set 1 (aO2 (cI .i64) 49 2 Ai Aj Ak Af x.2)) B6 ⟨rfl,trivial⟩ ?_)))))));rintro ⟨A8,Dr⟩ Gk Gl Gm Ag A9 B7;unfold AZr at A9;refine AGo (AGm (AGj (Agp rfl rfl (AGr (⟨_,rfl,fun Ba=>?_,fun Ba=>?_⟩)))))
    ·refine AGy (q_t (AGo (AGp (AGm (AGj (AGj ?_))))));obtain ⟨Gn,Am,Ds⟩:=AGn (ATy A9 Ba);refine AUh ATb ATq (Ag.o2 p1) Am fun _ Gp Dt=>AGj ?_;obtain ⟨Gq,Du,Dv⟩:=AGn Ds;refine AWr (m:=A8) AS9 ATe (Ag.o2 p1) Dt Am Du fun _=>(AGj ?_);obtain ⟨⟨Gr,Gt⟩,Dw,Bb⟩:=AGn Dv;dsimp only at Bb;refine AW0 Ag (Alb Dw) fun Gu Gv Ad=>AGj (AUb rfl rfl (AUb rfl rfl (ATi (AGu (AGo (AGm (AGj (AWq rfl (AGr (⟨_,rfl,fun Bc=>?_,fun Bc=>?_⟩))))))))))
     ·refine AGm (ATi (AGu (AGz (ATc (AUg (ATc (ATc (AUg (ATc ?_)))))))));have Be:=Kst.anil2 (cI .i64) 49 2 Ad;obtain rfl:=AGl (B7 _ (AGl (ifT Bb Bc)).symm);exact ⟨_,AUk,Be.x,_,_,_,_,rfl,(Be.o2 p0),Be.s.sel [0] AGk⟩
     ·refine AGy (q_t (AGm (AGj (AGj (AUh ATb ATq (Ad.o2 p1) Am fun _ Gw Bf=>AGj (AGj ?_))))));obtain ⟨Dx,Dy,Dz⟩:=AGn (Aa7 Bb Bc);refine ATd (K':=(fun xr h'=> ∃ x:(LiI),x=Dx/\xr= .tuple #[]/\Kst h h' (Ad.L.set 1 (aO2 (cI .i64) 49 2 Ai Aj Ak Af x)))) trivial rfl ?_ fun Gx Gy D0=>?_
      ·refine cwf (l:=[_,_,_]) Tryz.func162 rfl rfl (AGm (AGj (AUp AS9 rfl ((Ad.o2 p1).rowI Bf Am) (AGj (AGr (AGp (AYd 16776384 Dy (fun x=>[(10,(.int .i64 x.1))]) (fun x=>Ad.L.set 1 (aO2 (cI .i64) 49 2 Ai Aj Ak Af x.2)) Ad ⟨rfl,trivial⟩ ?_)))))));rintro ⟨Gz,D1⟩ G3 G4 G5 Bg Bh D2;unfold AW3 at Bh;refine AGm (ATl rfl rfl (AGr (AGo (⟨_,rfl,fun Bi=>?_,fun Bi=>?_⟩))))
       ·refine AGy (q_t (AGo (AGp (AGm (AGj ?_)))));obtain ⟨G6,B8,D3⟩:=AGn (ATy Bh Bi);obtain ⟨G7,B9,D4⟩:=AGn D3;refine AWr (m:=A8) AS9 ATe (Bg.o2 p1) Bf B8 B9 fun _=>(ATi (AGu (AS3 (AGj (AGj (AGj (AGj (AZe rfl rfl (AGj ?_)))))))));obtain ⟨D5,D6⟩:=ifN D4;refine Acw rfl rfl D5 (AZv (m:=A8) Bg p1 AS9 ATe Bf B8 B9 (fun _=>rfl) fun _ G8 D7=>ATh (q_b (q_t (AS3 (ATk rfl rfl (AGj (AGr ?_)))))));exact ⟨_,(AGl D6).symm,D7,rfl,trivial⟩
       ·refine AS8 (ATa (ATa (AT7 (⟨_,AZt,(D1:(LiI)),?_,rfl,?_⟩))))
        ·exact AGl (D2 _ (AGl (ATz Bh Bi)).symm)
        ·exact Bg
      obtain ⟨G9,D8,rfl,Ca⟩:=D0;refine ⟨trivial,?_⟩;subst D8;refine AZg (AGj (AGj (AGr (AGp (AYd 81129599728980454027655414562816 Dz (fun x=>[(85,(.int .i64 x))]) (fun x=>Ca.L) Ca ⟨rfl,trivial⟩ ?_)))));rintro Hb Hc Hd He D9 Bj Ea;unfold Aeh at Bj;refine AGm (ATl rfl rfl (AGr (AGo (⟨_,rfl,fun Bl=>?_,fun Bl=>?_⟩))))
      ·refine AGy (q_t (AGo ?_));have Eb:=ATy Bj Bl;cases Eb
      ·refine AS8 (ATa (ATa (AT7 (q_b (q_t (AS3 (AGj (AVd rfl rfl (AGu ?_)))))))));exact ⟨_,(AGl (Ea _ (AGl (ATz Bj Bl)).symm)).symm,D9,rfl,trivial⟩
    ·refine AS8 (ATa (ATa (AT7 (q_t (AGo (AGm (AGj (AT4 ATb rfl (Ag.o2 p1).rd (AGj (AGr (AGp ?_)))))))))));have Bm:=Ag.sel [1] AGk;dsimp only [AYv,Ab8] at Bm;refine AX6 5316587464586005064888445085100834816 (fun x:(Int) × (LiI) × LnA × LnN × LvA=>(x.1,x.2.1)) ((0,Dr,Ai,Aj,Ak):(Int) × (LiI) × LnA × LnN × LvA) (B7 _ (AGl (ATz A9 Ba)).symm) (fun x=>[(108,(.int .i64 x.1))]) (fun x=>Bm.L.set 0 (aO2 (cI .i64) 49 2 x.2.2.1 x.2.2.2.1 x.2.2.2.2 Af x.2.1)) Bm ⟨rfl,trivial⟩ ?_;rintro ⟨Hf,Hg,Hh,Hj,Hk⟩ Hl Hm Hn Aa Bn Ec;unfold Aei at Bn;refine AGm (ATl rfl rfl (AGr (AGo (⟨_,rfl,fun Bo=>?_,fun Bo=>?_⟩))))
     ·refine AGy (q_t (AGo (AGp (AGm (AGj (AGu (AS3 (AGj (AGj (AGj (AGj ?_)))))))))));obtain ⟨Ho,Ae,Ed⟩:=AGn (ATy Bn Bo);refine AUh ATb ATq (Aa.o2 p0) Ae fun _ Hq Bp=>AGj ?_;obtain ⟨Ee,Ef⟩:=ifN Ed;refine A2y AS9 rfl ((Aa.o2 p0).rowI Bp Ae) ((Aa.o2 p0).rowCap Bp Ae) rfl Ee fun Hr Eg Hs=>?_;obtain ⟨Eh,Ei⟩:=ifN Ef;refine A5c AS9 Acy rfl rfl trivial tt2 rfl rfl (Eg ((Aa.o2 p0).rowI Bp Ae)) AGk Eh fun Ht Hu Hv Ej Ek El=>?_;have Ah:=Aa.no Ek El Ej;refine AVf ATb rfl (Ah.o2 p1) rfl Ae fun Hw Hx Em Hy Hz=>Aj0 ATq (Ah.o2 p1) Ae Em rfl rfl (Ah.o p0) (Ah.dj p0 p1 AGk) fun Ia En Eo Ep=>ATh (q_b (q_t (AS3 (ATk rfl rfl (AGj (AGr ?_))))));exact ⟨(_,_,_,_,_),(AGl Ei).symm,(Ah.m2 p0 p1 AGk Eo En (fun z hz=> .inl (Ep z hz))).sel [1] AGk,rfl,trivial⟩
     ·refine AS8 (ATa (ATa (AT7 (q_t (AGm (AGj (ATi (AGu (AGz ?_)))))))));obtain rfl:=AGl (Ec _ (AGl (ATz Bn Bo)).symm);exact ⟨_,AUk,Aa.x,_,_,_,_,rfl,(Aa.o2 p0),Aa.s.sel [0] AGk⟩
end Go.Proofs.YthbndcbclhkepaaGreatDoor
namespace Go.Proofs.YthbndcbclhkepaaGreatDoor
open Go Go.QF
set_option maxRecDepth 100000
theorem Awa {fuel:Nat} {x m:Int} (hx:0<=x) (hxm:x < m) (hm:2<=m) (Aa:m<=2147483647) (hf:2147483648 < fuel):Ok (AZp fuel x m) fun r=>(r.2=true->Ar1 m x r.1)/\(r.2=false->¬ ∃ y,Ar1 m x y):=by
 unfold AZp;refine AGw (Ang (fun s:Int × Int × Int × Int=>EI m x s.1 s.2.1 s.2.2.1 s.2.2.2) (fun s=>s.2.1.toNat) (Q:=fun e:Int × Int=> ∃ v,EI m x e.1 0 e.2 v) (fun s hE=>?_) (EI.start hx hxm) (by dsimp only;omega)) fun e he=>?_
 ·obtain ⟨a,b,u,v⟩:=s;dsimp only at hE ⊢;have Ad:0<=b:=hE.1;have Ab:0<=a:=hE.2.1;have ham:a<=m:=hE.2.2.1;unfold Adh;refine ATt (fun h=>AUq h ?_) fun h=>?_
  ·have hbd:=hE.bounds AGi;rw [Int.tdiv_eq_ediv_of_nonneg Ab,AVj (x:=a / b) AGi AGi,AVj (x:=a / b * b) AGi AGi,AVj (x:=a - a / b * b) AGi AGi,AVj (x:=a / b * v) AGi AGi,AVj (x:=u - a / b * v) AGi AGi];have hs:=hE.step AGi;refine AGq ⟨hs,?_⟩;have h2:=Int.emod_lt_of_pos a (b:=b) AGi;rw [Int.emod_def,Int.mul_comm] at h2;have:=hs.1;show (a - a / b * b).toNat < b.toNat;omega
  ·obtain rfl:b=0:=by omega
   exact AGq ⟨v,hE⟩
 ·obtain ⟨v,hE⟩:=he;obtain ⟨a,u⟩:=e;dsimp only at hE ⊢;have hd:=EI.done hm hE;refine AUq AGi (AUq AGi (AGq ⟨fun h=>?_,fun h=>?_⟩))
  ·dsimp only at h ⊢;rw [Auu hm Aa];exact hd.2.1 (of_decide_eq_true h)
  ·exact hd.2.2 (of_decide_eq_false h)
theorem A65 {fuel n:Nat} {T:AS5} (Aa:1<=n) (hn:n<=8) (hf:100 < fuel):AZ3 fuel (tab n n T)=some true:=by
 unfold AZ3;rw [Ayj Aa hn hf];simp only [Option.bind_some,reduceIte];rw [As8 (AUc AGi),AUi,AT8,if_pos rfl,decide_eq_true AGi]
theorem Akc {S E:Type} {body:S->Option (S ⊕ E)} {fuel:Nat} {s s':S} (h:body s=some (.inl s')):iter body (fuel + 1) s=iter body fuel s':=by simp [iter,h]
theorem Ah5 {S E:Type} {body:S->Option (S ⊕ E)} {fuel:Nat} {s:S} {e:E} (h:body s=some (.inr e)):iter body (fuel + 1) s=some e:=by simp [iter,h]
theorem A66 {f:Nat} {x m:Int} (hm:2<=m) (Aa:m<=2147483647) (hg:∃ y,Ar1 m (x % m) y) (hf:2147483648 < f):∃ v,AZx f [[x]] m=some ([[v]],0)/\Ar1 m (x % m) v:=by
 obtain ⟨f,rfl⟩:∃ g,f=g + 3:=⟨f - 3,AGi⟩;have Ab:=Int.emod_nonneg x (show m≠0 by omega);have Ac:=Int.emod_lt_of_pos x (show 0 < m by omega);have h0:AZ3 (f + 3) [[x]]=some true:=A65 (n:=1) (T:=fun _ _=>x) AGi AGi AGi;have h1:AVb (f + 3) m=some 0:=by unfold AVb;rw [if_neg AGi,if_neg AGi]
 have h2:AVh (f + 3) [[x]] m=some [[x % m]]:=A60 (n:=1) (F:=fun _ _=>x) AGi hm Aa AGi;generalize x % m=r at Ab Ac hg h2 ⊢;obtain ⟨⟨v,b⟩,h3,h4,h5⟩:=Awa Ab Ac hm Aa hf
 obtain rfl:b=true:=by
   cases b
   · exact absurd hg (h5 rfl)
   · rfl
 have hv:=h4 rfl;dsimp only at hv;have Ae:=hv.1;have Am:=hv.2.1;have e3:Int.tmod (w64 (1 * v)) m=v:=by rw [Int.one_mul,AVj (x:=v) AGi AGi,Int.tmod_eq_emod_of_nonneg Ae,Int.emod_eq_of_lt Ae Am]
 refine ⟨v,?_,hv⟩
 have a1:iter (fun s:Int × List (List Int)=>Ae7 (f + 3) [[x]] [[r]] s.1 s.2) (f + 3) (0,[[r]])=some [[r,1]]:=by
   rw [Akc (s':=(1,[[r,1]])) rfl,Ah5 rfl]
 have a2:iter (fun s:Int × Int=>AZq (f + 3) [[r,1]] s.1 s.2) (f + 3) (1,0)=some 1:=by
   have b5:iter (fun s:Int × Int=>Ae6 (f + 3) [[r,1]] s.1 s.2) (f + 3) (1,1)=some 1:=Ah5 rfl
   rw [Akc (s':=(1,1)) ?_,Ah5 rfl]
   show AZq (f + 3) [[r,1]] 1 0=_
   unfold AZq
   rw [if_pos (by show (0:Int) < ((1:Nat):Int);decide),show w64 (0 + 1)=1 from rfl,b5]
   rfl
 have a3:iter (fun s:Int × List (List Int)=>AZr (f + 3) m s.1 s.2) (f + 3) (0,[[r,1]])=some (Sum.inr [[Int.tmod (w64 (r * v)) m,v]]):=by
   have Af:m≠0:=by omega
   have Av:iter (fun s:Int × List (List Int)=>AW3 (f + 3) m 0 [r,1] v s.1 s.2) (f + 3) (0,[[r,1]])=some [[Int.tmod (w64 (r * v)) m,v]]:=by
     rw [Akc (s':=(1,[[Int.tmod (w64 (r * v)) m,1]])) ?_,Akc (s':=(2,[[Int.tmod (w64 (r * v)) m,v]])) ?_,Ah5 rfl]
     · show AW3 (f + 3) m 0 [r,1] v 1 [[Int.tmod (w64 (r * v)) m,1]]=_
       unfold AW3
       rw [if_pos (by show (1:Int) < ((2:Nat):Int);decide)]
       show (if m≠0 then some (Sum.inl ((2:Int),[[Int.tmod (w64 (r * v)) m,Int.tmod (w64 (1 * v)) m]])) else none)=_
       rw [if_pos Af,e3]
     · show AW3 (f + 3) m 0 [r,1] v 0 [[r,1]]=_
       unfold AW3
       rw [if_pos (by show (0:Int) < ((2:Nat):Int);decide)]
       show (if m≠0 then some (Sum.inl ((1:Int),[[Int.tmod (w64 (r * v)) m,1]])) else none)=_
       rw [if_pos Af]
   have Aw:iter (fun s:Int=>Aeh (f + 3) 0 s) (f + 3) 0=some ():=Ah5 rfl
   rw [Akc (s':=(-1,[[Int.tmod (w64 (r * v)) m,v]])) ?_,Ah5 rfl]
   show AZr (f + 3) m 0 [[r,1]]=_
   unfold AZr
   rw [if_pos AGk,show gI [[r,1]] (0:Int)=some [r,1] from rfl]
   simp only [Option.bind_some]
   rw [show gI [r,1] (0:Int)=some r from rfl]
   simp only [Option.bind_some]
   rw [h3]
   simp only [Option.bind_some]
   rw [if_neg AGk,Av]
   simp only [Option.bind_some]
   rw [Aw]
   rfl
 have a4:iter (fun s:Int × List (List Int)=>Aei (f + 3) [[x]] [[Int.tmod (w64 (r * v)) m,v]] s.1 s.2) (f + 3) (0,[[Int.tmod (w64 (r * v)) m,v]])=some [[v]]:=by
   rw [Akc (s':=(1,[[v]])) rfl,Ah5 rfl]
 unfold AZx;rw [h0];simp only [Option.bind_some];rw [if_neg AGk,h1];simp only [Option.bind_some];rw [if_neg AGk,h2];simp only [Option.bind_some];rw [a1];simp only [Option.bind_some];rw [a2];simp only [Option.bind_some];rw [show w64 (([[x]].length:Nat) - 1:Int)=0 from rfl,a3];simp only [Option.bind_some];rw [a4];rfl
end Go.Proofs.YthbndcbclhkepaaGreatDoor
namespace Go.Proofs.YthbndcbclhkepaaGreatDoor
open Go Go.QF
set_option maxRecDepth 100000
theorem A13 {body:Int × List (List Int)->Option ((Int × List (List Int)) ⊕ List (List Int))} {fuel n:Nat} {G G':AS5} (hf:n < fuel)
    (hs:∀ (r:Nat) (M:AS5),r < n->(∀ b,M r b=G r b)->body ((r:Int),tab n n M)=some (.inl (((r + 1:Nat):Int),tab n n (AUw M r (G' r))))) (he:∀ X,body ((n:Int),X)=some (.inr X)):iter body fuel (0,tab n n G)=some (tab n n G'):=by
  apply ok_eq;refine AT9 (fun r st=> ∃ M,st=((r:Int),tab n n M)/\r<=n/\ ∀ a b,M a b=if a < r then G' a b else G a b) n ⟨G,rfl,Nat.zero_le _,fun a b=>by rw [if_neg (Nat.not_lt_zero a)]⟩ hf fun r st hr hI=>?_;obtain ⟨M,rfl,hrn,hM⟩:=hI
  rcases Nat.lt_or_ge r n with h | h
  · rw [hs r M h fun b=>by rw [hM,if_neg (Nat.lt_irrefl r)]];refine AGq ⟨h,_,rfl,h,fun a b=>?_⟩;rw [AT2]
    by_cases h1:a=r
    · subst h1;rw [if_pos rfl,if_pos (Nat.lt_succ_self a)]
    · rw [if_neg h1,hM]
      by_cases h2:a < r
      · rw [if_pos h2,if_pos AGi]
      · rw [if_neg h2,if_neg AGi]
  · obtain rfl:r=n:=by omega
    rw [he];exact AGq (Af0 fun a b ha hb=>by rw [hM,if_pos ha])
theorem A9y {body:Int × List (List Int)->Option ((Int × List (List Int)) ⊕ List (List Int))} {fuel n j:Nat} {G:AS5} {g:Nat->Int} (hf:n < fuel)
    (hs:∀ (s:Nat) (M:AS5),s < n->(∀ a b,a≠j->M a b=G a b)->M j s=G j s->body ((s:Int),tab n n M)=some (.inl (((s + 1:Nat):Int),tab n n (AUw M j fun b=>if b=s then g s else M j b)))) (he:∀ X,body ((n:Int),X)=some (.inr X)):iter body fuel (0,tab n n G)=some (tab n n (AUw G j g)):=by
  apply ok_eq;refine AT9 (fun s st=> ∃ M,st=((s:Int),tab n n M)/\s<=n/\ ∀ a b,M a b=if a=j/\b < s then g b else G a b) n ⟨G,rfl,Nat.zero_le _,fun a b=>by rw [if_neg AGi]⟩ hf fun s st hr hI=>?_;obtain ⟨M,rfl,hrn,hM⟩:=hI
  rcases Nat.lt_or_ge s n with h | h
  · rw [hs s M h (fun a b ha=>by rw [hM,if_neg AGi]) (by rw [hM,if_neg AGi])];refine AGq ⟨h,_,rfl,h,fun a b=>?_⟩;rw [AT2]
    by_cases h1:a=j
    · subst h1;rw [if_pos rfl]
      by_cases h2:b=s
      · subst h2;rw [if_pos rfl,if_pos ⟨rfl,Nat.lt_succ_self b⟩]
      · rw [if_neg h2,hM]
        by_cases h3:b < s
        · rw [if_pos ⟨rfl,h3⟩,if_pos ⟨rfl,AGi⟩]
        · rw [if_neg (fun h=>h3 h.2),if_neg AGi]
    · rw [if_neg h1,hM,if_neg (fun h=>h1 h.1),if_neg (fun h=>h1 h.1)]
  · obtain rfl:s=n:=by omega
    rw [he];refine AGq (Af0 fun a b ha hb=>?_);rw [hM,AT2]
    by_cases h1:a=j
    · rw [if_pos ⟨h1,hb⟩,if_pos h1]
    · rw [if_neg (fun h=>h1 h.1),if_neg h1]
theorem A9z {n j l:Nat} {q c:Int} {G:AS5}:tab n n (AUw G j fun b=>(G j b + c * G l b) % q)=tab n n (A64 q j l c G):=Af0 fun a b _ _=>by
  unfold A64;rw [AT2]
theorem A67 {n j l r:Nat} {q c:Int} {M G:AS5} (h:∀ b,M r b=G r b):tab n n (AUw M r fun b=>if b=j then (M r j + c * M r l) % q else M r b)=tab n n (AUw M r (Aot q j l c G r)):=Ayk fun b _=>by
  unfold Aot;rw [h,h,h]
theorem A68 {n i k r:Nat} {M:AS5} (hi:i < n) (hk:k < n) (hr:r < n) (hn:n<=8):
    ((gI (tab n n M) (r:Int)).bind fun x=>(gI x (i:Int)).bind fun y=>(gI x (k:Int)).bind fun z=>(gI (sI (tab n n M) (r:Int) (sI x (k:Int) y)) (r:Int)).bind fun u=>(gI u (i:Int)).bind fun w=>some (Sum.inl (β:=List (List Int)) (w64 ((r:Int) + 1),sI (sI (tab n n M) (r:Int) (sI x (k:Int) y)) (r:Int) (sI u (i:Int) z))))=some (.inl (((r + 1:Nat):Int),tab n n (AUw M r fun b=>M r (sw2 k i b)))):=by
 rw [AZj (AUc hr),AZj (ATx hi),AZj (ATx hk),Apr,Abf,AZj (AUc hr),AUx,AZj (ATx hi),Apr,Abf,AV9 AGi];congr 3;refine Af0 fun a b ha hb=>?_;rw [AT2,AT2,AT2];by_cases h:a=r
 ·rw [if_pos h,if_pos h];unfold sw2;by_cases h1:b=i
  ·rw [if_pos h1,if_pos h1]
  ·rw [if_neg h1,if_neg h1];by_cases h2:b=k
   ·rw [if_pos h2,if_pos h2]
   ·rw [if_neg h2,if_neg h2]
 ·rw [if_neg h,if_neg h,if_neg h]
theorem A69 {body:Int × List (List Int) × List (List Int)->Option ((Int × List (List Int) × List (List Int)) ⊕ (List (List Int) × List (List Int)))} {fuel:Nat} {g t g' t':List (List Int)} (hf:3 < fuel) (h0:body (0,g,t)=some (.inl (1,g',t))) (h1:body (1,g',t)=some (.inl (2,g',t'))) (h2:body (2,g',t')=some (.inr (g',t'))):iter body fuel (0,g,t)=some (g',t'):=by
  obtain ⟨f,rfl⟩:∃ f,fuel=f + 3:=⟨fuel - 3,AGi⟩;rw [Akc h0,Akc h1,Ah5 h2]
section
variable {fuel n i j k:Nat} {q c:Int} {G T:AS5}
end
end Go.Proofs.YthbndcbclhkepaaGreatDoor
namespace Go.Proofs.YthbndcbclhkepaaGreatDoor
open Go Go.QF
set_option maxRecDepth 100000
structure PV (n k:Nat) (p:Int) (G:AS5) (r c E:Nat):Prop where
  hr:k<=r
  hrc:r<=c
  hc:c < n
  u:∃ u,G r c=u * p ^ E/\¬ p ∣ u
  dg:r≠c-> ∀ a,k<=a->a < n->p ^ (E + 1) ∣ G a a
def Dn (n k d i a e:Nat):Prop:=k<=a/\a + e < n/\(e < d∨e=d/\a < i)
section
variable {fuel n k f:Nat} {p q:Int} {G:AS5}
end
end Go.Proofs.YthbndcbclhkepaaGreatDoor
namespace Go.Proofs.YthbndcbclhkepaaGreatDoor
open Go Go.QF
theorem Ayn {k:Nat} (hk:k<=30) (a:Int):AZk .and .i64 a (2 ^ k - 1)=a % 2 ^ k:=by
 show w64 (((BitVec.ofInt 64 a &&& BitVec.ofInt 64 (2 ^ k - 1)).toNat:Nat):Int)=_;have h1:(2:Int) ^ k<=2 ^ 30:=Ace AGk hk;have h2:0 < (2:Int) ^ k:=Int.pow_pos AGk;have h3:(2:Int) ^ 30=1073741824:=by decide
 have h4:((2:Int) ^ k)=((2 ^ k:Nat):Int):=by rw [Int.natCast_pow];rfl
 have h5:0 < 2 ^ k:=Nat.pow_pos AGk
 have e1:(((2:Int) ^ k - 1) % ((2 ^ 64:Nat):Int)).toNat=2 ^ k - 1:=by
   rw [Int.emod_eq_of_lt AGi AGi];omega
 have e2:=Akb (q:=(2:Int) ^ k) h2 a;rw [BitVec.toNat_and,BitVec.toNat_ofInt,BitVec.toNat_ofInt,e1,Nat.and_two_pow_sub_one_eq_mod,Int.natCast_emod,Int.toNat_of_nonneg (Int.emod_nonneg _ AGk),<- h4,Int.emod_emod_of_dvd _ (show (2:Int) ^ k ∣ ((2 ^ 64:Nat):Int) from ⟨2 ^ (64 - k),by rw [<- Int.pow_add,show k + (64 - k)=64 by omega];decide⟩),wk AGi]
theorem A3o {q P A B C x y v c d:Int} (hc:Eqm q c ((B * y - C * x) * v)) (hd:Eqm q d ((B * x - A * y) * v)) (hv:Eqm q (v * (A * C - B * B)) 1):((P * x + c * (P * A)) % q + d * (P * B)) % q=0/\((P * y + c * (P * B)) % q + d * (P * C)) % q=0:=by
  have one:∀ z:Int,Eqm q (P * z - P * z * (v * (A * C - B * B))) 0:=fun z=>by
    have:=(Eqm.refl q (P * z)).sub ((Eqm.refl q (P * z)).mul hv);rwa [Int.mul_one,Int.sub_self] at this
  constructor
  · refine Eqm.zero (((Eqm.mod _ _).add (Eqm.refl _ _)).trans ((((Eqm.refl _ _).add (hc.mul (Eqm.refl _ _))).add (hd.mul (Eqm.refl _ _))).trans (Eqm.trans (Eqm.of_eq ?_) (one x))));grind
  · refine Eqm.zero (((Eqm.mod _ _).add (Eqm.refl _ _)).trans ((((Eqm.refl _ _).add (hc.mul (Eqm.refl _ _))).add (hd.mul (Eqm.refl _ _))).trans (Eqm.trans (Eqm.of_eq ?_) (one y))));grind
def mvF (c i a:Nat):Nat:=if a=c then i else if c < a/\a<=i then a - 1 else a
theorem Az6 (i a:Nat):mvF i i a=a:=by
 unfold mvF;by_cases h:a=i
 ·rw [if_pos h,h]
 ·rw [if_neg h,if_neg AGi]
theorem Ate {c i:Nat} (hc:c + 1<=i) (a:Nat):mvF (c + 1) i (sw2 c (c + 1) a)=mvF c i a:=by
 unfold sw2;by_cases h1:a=c + 1
 ·rw [if_pos h1];unfold mvF;rw [if_neg AGi,if_neg AGi,if_neg AGi,if_pos AGi];omega
 ·rw [if_neg h1];by_cases h2:a=c
  ·rw [if_pos h2];unfold mvF;rw [if_pos rfl,if_pos h2]
  ·rw [if_neg h2];unfold mvF;rw [if_neg h1,if_neg h2];by_cases h3:c + 1 < a/\a<=i
   ·rw [if_pos h3,if_pos AGi]
   ·rw [if_neg h3,if_neg AGi]
def mvG (c i:Nat) (G:AS5):AS5:=fun a b=>G (mvF c i a) (mvF c i b)
def mvC (c i:Nat) (T:AS5):AS5:=fun a b=>T a (mvF c i b)
theorem A7a (i:Nat) (G:AS5):mvG i i G=G:=by funext a b;unfold mvG;rw [Az6,Az6]
theorem A7b (i:Nat) (T:AS5):mvC i i T=T:=by funext a b;unfold mvC;rw [Az6]
theorem Ayo {c i:Nat} (hc:c + 1<=i) (G:AS5):swG c (c + 1) (mvG (c + 1) i G)=mvG c i G:=by funext a b;unfold swG mvG;rw [Ate hc,Ate hc]
theorem Ayp {c i:Nat} (hc:c + 1<=i) (T:AS5):swC c (c + 1) (mvC (c + 1) i T)=mvC c i T:=by funext a b;unfold swC mvC;rw [Ate hc]
theorem Az7 (c i:Nat):mvF c i c=i:=by unfold mvF;rw [if_pos rfl]
theorem A7c {c i a:Nat} (h:c < a) (h2:a<=i):mvF c i a=a - 1:=by unfold mvF;rw [if_neg AGi,if_pos ⟨h,h2⟩]
theorem A90 {f i j:Nat} (hf:f<=i) (hij:i < j) (G:AS5):mvG f (i + 1) (mvG f j G) f f=G i i/\mvG f (i + 1) (mvG f j G) f (f + 1)=G i j/\mvG f (i + 1) (mvG f j G) (f + 1) (f + 1)=G j j:=by
  unfold mvG;rw [Az7,A7c (show f < f + 1 by omega) AGi,show f + 1 - 1=f by omega,Az7,A7c (show f < i + 1 by omega) AGi];exact ⟨rfl,rfl,rfl⟩
def QSt (n k K:Nat) (G:AS5) (d i r c l:Nat):Prop:=
  (l=K/\r=k/\c=k/\ ∀ a e,Dn n k d i a e->G a (a + e)=0)∨(l < K/\PV n k 2 G r c l/\ ∀ a e,Dn n k d i a e->(2:Int) ^ l ∣ G a (a + e))
section
variable {n k K d i r c l:Nat} {G:AS5}
theorem QSt.init:QSt n k K G 0 k k k K:= .inl ⟨rfl,rfl,rfl,fun a e h=>by unfold Dn at h;omega⟩
theorem QSt.new {e:Nat} {u:Int} (H:QSt n k K G d i r c l) (hi:k<=i) (hin:i + d < n) (hx:G i (i + d)=u * 2 ^ e) (hu: ¬ (2:Int) ∣ u) (hl:e < l):QSt n k K G d (i + 1) i (i + d) e:=by
  have key:∀ a e',Dn n k d (i + 1) a e'->Dn n k d i a e'∨(a=i/\e'=d):=fun a e h=>by unfold Dn at *;omega
  have hK:e < K:=by
    rcases H with ⟨h1,_⟩ | ⟨h1,_⟩ <;> omega
  have all:∀ a e',Dn n k d i a e'->(2:Int) ^ (e + 1) ∣ G a (a + e'):=fun a e' h=>by
    rcases H with ⟨h1,_,_,h4⟩ | ⟨_,_,h3⟩
    · rw [h4 a e' h];exact ⟨0,ATv⟩
    · exact Int.dvd_trans (AWh AGi) (h3 a e' h)
  refine .inr ⟨hK,⟨hi,AGi,hin,⟨u,hx,hu⟩,fun hne a h1 h2=>?_⟩,fun a e' h=>?_⟩
  · exact all a 0 (by unfold Dn;omega)
  · rcases key a e' h with h | ⟨rfl,rfl⟩
    · exact Int.dvd_trans (AWh AGi) (all a e' h)
    · rw [hx];exact ⟨u,Int.mul_comm _ _⟩
theorem QSt.old (H:QSt n k K G d i r c l) (hx:(2:Int) ^ l ∣ G i (i + d)) (h0:l=K->G i (i + d)=0):QSt n k K G d (i + 1) r c l:=by
  have key:∀ a e',Dn n k d (i + 1) a e'->Dn n k d i a e'∨(a=i/\e'=d):=fun a e h=>by unfold Dn at *;omega
  rcases H with ⟨h1,h2,h3,h4⟩ | ⟨h1,h2,h3⟩
  · refine .inl ⟨h1,h2,h3,fun a e h=>?_⟩
    rcases key a e h with h | ⟨rfl,rfl⟩
    · exact h4 a e h
    · exact h0 h1
  · refine .inr ⟨h1,h2,fun a e' h=>?_⟩
    rcases key a e' h with h | ⟨rfl,rfl⟩
    · exact h3 a e' h
    · exact hx
theorem QSt.row (H:QSt n k K G d i r c l) (hi: ¬ i + d < n):QSt n k K G (d + 1) k r c l:=by
 have key:∀ a e,Dn n k (d + 1) k a e->Dn n k d i a e:=fun a e h=>by unfold Dn at *;omega
 rcases H with ⟨h1,h2,h3,h4⟩ | ⟨h1,h2,h3⟩
 ·exact .inl ⟨h1,h2,h3,fun a e h=>h4 a e (key a e h)⟩
 ·exact .inr ⟨h1,h2,fun a e h=>h3 a e (key a e h)⟩
theorem QSt.done (H:QSt n k K G (n - k) i r c l) (hk:k < n) (hne:∃ e,k + e < n/\G k (k + e)≠0):l < K/\PV n k 2 G r c l/\ ∀ a e,k<=a->a + e < n->(2:Int) ^ l ∣ G a (a + e):=by
 rcases H with ⟨_,_,_,h4⟩ | ⟨h1,h2,h3⟩
 ·obtain ⟨e,he,hx⟩:=hne;exact absurd (h4 k e (by unfold Dn;omega)) hx
 ·exact ⟨h1,h2,fun a e h4 h5=>h3 a e (by unfold Dn;omega)⟩
end
end Go.Proofs.YthbndcbclhkepaaGreatDoor
namespace Go.Proofs.YthbndcbclhkepaaGreatDoor
open Go Go.QF
set_option maxRecDepth 100000
theorem A7d {M:List (List Int)} {p v:Int} (R:Atr M) (hp:2<=p) (hp2:p<=9973) (h:Av3 (det M.length (ent M)) p v):∃ k:Nat,((if p=2 then v + 3 else v + 1)=(k:Int))/\p ^ k<=2147483647/\1<=k/\(p=2->3<=k):=by
  obtain ⟨v1,v2⟩:=Apq R;obtain ⟨e,r,rfl,h1,h2⟩:=h;have hpe:0 < p ^ e:=Int.pow_pos AGi
  have hr:0 < r:=by
    rcases Int.lt_or_le 0 r with h | h
    · exact h
    · have:=Int.mul_nonpos_of_nonpos_of_nonneg h (Int.le_of_lt hpe);omega
  have hle:1 * p ^ e<=r * p ^ e:=Int.mul_le_mul_of_nonneg_right AGi AGi
  by_cases h:p=2
  · subst h;refine ⟨e + 3,by rw [if_pos rfl];rfl,?_,AGi,fun _=>by omega⟩;rw [Int.pow_add];have:(2:Int) ^ 3=8:=by decide
    omega
  · refine ⟨e + 1,by rw [if_neg h];rfl,?_,AGi,fun h2=>absurd h2 h⟩;rw [Int.pow_succ];have:=Int.mul_le_mul (show p ^ e<=10000 by omega) hp2 AGi AGi;omega
end Go.Proofs.YthbndcbclhkepaaGreatDoor
namespace Go.Proofs.YthbndcbclhkepaaGreatDoor
open Go Go.QF
set_option maxRecDepth 100000
set_option maxHeartbeats 4000000
def AXk (fuel:Nat) (a1 a2 a3 a4 a5:Int):Option Bool:=
  (if a2=1 then (if (AZk .and .i64 a3 1)=1 then (if a4=0 then (some (decide (a5=0))) else (some false)) else (some false)) else (if a2=2 then (if (AZk .and .i64 a3 1)=0 then (if (AZk .and .i64 a4 1)=1 then (some (decide ((AZk .and .i64 a5 1)=0))) else (some false)) else (some false)) else (some false)))
theorem Ag1 {fuel:Nat} {h:AGt} {a1 a2 a3 a4 a5:Int} {r:Bool} (hp:AXk fuel a1 a2 a3 a4 a5=some r):ATs Tryz.prog 46 #[(.agg #[(.int .i64 a1),(.int .i64 a2),(.int .i64 a3),(.int .i64 a4),(.int .i64 a5)])] h (fun x h'=>Ext h h'/\x= .bool r):=by
 unfold AXk at hp;refine cwf (l:=[_]) Tryz.func46 rfl rfl (AGm (AYy (Kst.k0 h) [(.int .i64 a1),(.int .i64 a2),(.int .i64 a3),(.int .i64 a4),(.int .i64 a5)] fun b6 h7 E9 Aa=>AGu (AGo (AGm (AUs Afp AT1 (Aa.b p0) 1 rfl (AGr (AGp (AGm (AUy rfl rfl (AGu ?_))))))))));refine ⟨_,rfl,fun Ak=>?_,fun Ak=>?_⟩
 ·refine AGm (AUs Agn ATe (Aa.b p0) 2 rfl (Aa9 rfl rfl AGk (AUy rfl rfl (AGj ?_))));have Ao:=ATy hp Ak;by_cases Ad:(AZk .and .i64 a3 1)=1
  ·have Ap:=ifT Ao Ad;rw [decide_eq_true Ad];refine ATn 11 true (AVu Afq rfl (ATn 11 true (AT3 ATe rfl ((Aa.b p0).cell (i:=3) rfl) (ATn 11 true (AUy rfl rfl (ATj rfl (AGj ?_)))))));by_cases Ae:a4=0
   ·rw [decide_eq_true Ae];refine ATn 16 true (AVu Aj4 rfl (ATn 16 true (AT3 ATe rfl ((Aa.b p0).cell (i:=4) rfl) (ATn 16 true (AUy rfl rfl (ATj rfl (AGu (AGz (AUg (ATc ?_))))))))));obtain rfl:=AGl (ifT Ap Ae);exact ⟨_,AS2,Aa.x,rfl⟩
   ·rw [decide_eq_false Ae];refine Ab6 16 false (ATm rfl (AGu (AGz (AUg (ATc ?_)))));obtain rfl:=AGl (ifF Ap Ae);exact ⟨_,AS2,Aa.x,rfl⟩
  ·rw [decide_eq_false Ad];refine Ab6 11 false (ATm rfl (AGj (Ab6 16 false (ATm rfl (AGu (AGz (AUg (ATc ?_))))))));obtain rfl:=AGl (ifF Ao Ad);exact ⟨_,AS2,Aa.x,rfl⟩
 ·refine AGm (AUy rfl rfl (AGu ?_));have Aq:=ATz hp Ak;refine ⟨_,rfl,fun Am=>?_,fun Am=>?_⟩
  ·refine AGm (AUs Agn ATe (Aa.b p0) 2 rfl (Aa9 rfl rfl AGk (AUy rfl rfl (AGj ?_))));have Ar:=ATy Aq Am;by_cases Af:(AZk .and .i64 a3 1)=0
   ·have Au:=ifT Ar Af;rw [decide_eq_true Af];refine ATn 27 true (AVu Afq rfl (ATn 27 true (AT3 ATe rfl ((Aa.b p0).cell (i:=3) rfl) (ATn 27 true (Aa9 rfl rfl AGk (ATn 27 true (AUy rfl rfl (ATj rfl (AGj ?_)))))))));by_cases Ag:(AZk .and .i64 a4 1)=1
    ·rw [decide_eq_true Ag];refine ATn 33 true (AVu Aj4 rfl (ATn 33 true (AT3 ATe rfl ((Aa.b p0).cell (i:=4) rfl) (ATn 33 true (Aa9 rfl rfl AGk (ATn 33 true (AUy rfl rfl (ATj rfl (AGu (AGz (AUg (ATc ?_))))))))))));obtain rfl:=AGl (ifT Au Ag);exact ⟨_,AS2,Aa.x,rfl⟩
    ·rw [decide_eq_false Ag];refine Afz 33 false (ATm rfl (AGu (AGz (AUg (ATc ?_)))));obtain rfl:=AGl (ifF Au Ag);exact ⟨_,AS2,Aa.x,rfl⟩
   ·rw [decide_eq_false Af];refine Afz 27 false (ATm rfl (AGj (Afz 33 false (ATm rfl (AGu (AGz (AUg (ATc ?_))))))));obtain rfl:=AGl (ifF Ar Af);exact ⟨_,AS2,Aa.x,rfl⟩
  ·refine AGy (q_b (q_t (AGm (AGu (AGz ?_)))));obtain rfl:=AGl (ATz Aq Am);exact ⟨_,AS2,Aa.x,rfl⟩
def Acn (fuel:Nat) (a8:(List AWt)) (Ae:(List AX4)) (Am Ad:Int):Option (((List AX4) × Int × Int) ⊕ ((((List AX4) × Bool)) ⊕ ((List AX4)))):=
  (if Ad < (a8.length:Int) then ((gI a8 Ad).bind fun Aa=>(((if Aa.1 < 0 then (some (Sum.inl <| ([],false))) else (if 60 < Aa.1 then (some (Sum.inl <| ([],false))) else ((AXk fuel Aa.1 Aa.2.1 Aa.2.2.1 Aa.2.2.2.1 Aa.2.2.2.2).bind fun Aq=>(if (!Aq)=true then (some (Sum.inl <| ([],false))) else (if 0 < Ad then ((gI a8 (w64 (Ad - 1))).bind fun Ar=>(if Aa.1 < Ar.1 then (some (Sum.inl <| ([],false))) else (some (Sum.inr <| ())))) else (some (Sum.inr <| ()))))))):Option ((((List AX4) × Bool)) ⊕ (Unit))).bind (fun ex=>match ex with | Sum.inl Au=>(some (Sum.inr<| Sum.inl <| Au)) | Sum.inr (_)=>(if 8 < (w64 (Am + Aa.2.1)) then (some (Sum.inr<| Sum.inl <| ([],false))) else (((if Ad=0 then (if Ae.length<=100000000 then (some ( (Ae ++ [(Aa.1,0,1,false,0)]))) else none) else ((gI a8 (w64 (Ad - 1))).bind fun Av=>(if Av.1 < Aa.1 then (if Ae.length<=100000000 then (some ( (Ae ++ [(Aa.1,0,1,false,0)]))) else none) else (some ( Ae))))):Option (((List AX4)))).bind (fun (Ab:(List AX4))=>((gI Ab (w64 ((Ab.length:Int) - 1))).bind fun Ax=>(((((if Aa.2.1=1 then ((gI Ab (w64 ((Ab.length:Int) - 1))).bind fun Ac=>((gI (sI Ab (w64 ((Ab.length:Int) - 1)) (Ac.1,Ac.2.1,Ac.2.2.1,true,Ac.2.2.2.2)) (w64 ((Ab.length:Int) - 1))).bind fun Af=>(some ( (Aa.2.2.1,(sI (sI Ab (w64 ((Ab.length:Int) - 1)) (Ac.1,Ac.2.1,Ac.2.2.1,true,Ac.2.2.2.2)) (w64 ((Ab.length:Int) - 1)) (Af.1,Af.2.1,Af.2.2.1,Af.2.2.2.1,(AZk .and .i64 (w64 (Af.2.2.2.2 + (AZk .and .i64 Aa.2.2.1 7))) 7)))))))) else (some ( ((w64 ((w64 (Aa.2.2.1 * Aa.2.2.2.2)) - (w64 (Aa.2.2.2.1 * Aa.2.2.2.1)))),Ab)))):Option ((Int × (List AX4)))).bind (fun ((Ao,Ag):Int × (List AX4))=>(((if (AZk .and .i64 Ao 7)=3 then ((gI Ag (w64 ((Ab.length:Int) - 1))).bind fun Ah=>(some ( (sI Ag (w64 ((Ab.length:Int) - 1)) (Ah.1,Ah.2.1,(w64 (0 - Ah.2.2.1)),Ah.2.2.2.1,Ah.2.2.2.2))))) else (if (AZk .and .i64 Ao 7)=5 then ((gI Ag (w64 ((Ab.length:Int) - 1))).bind fun Ai=>(some ( (sI Ag (w64 ((Ab.length:Int) - 1)) (Ai.1,Ai.2.1,(w64 (0 - Ai.2.2.1)),Ai.2.2.2.1,Ai.2.2.2.2))))) else (some ( Ag)))):Option (((List AX4)))).bind (fun (Ap:(List AX4))=>((gI Ap (w64 ((Ab.length:Int) - 1))).bind fun Aj=>(some ( (sI Ap (w64 ((Ab.length:Int) - 1)) (Aj.1,(w64 (Aj.2.1 + Aa.2.1)),Aj.2.2.1,Aj.2.2.2.1,Aj.2.2.2.2))))))))):Option ((List AX4))).bind fun Aw=>(some (Sum.inl (Aw,(w64 (Am + Aa.2.1)),(w64 (Ad + 1))))))))))))) else (some (Sum.inr<| Sum.inr <| Ae)))
def AWj (fuel:Nat) (a1:Int) (a4:LiI) (a8:(List AWt)):Option ((List AX4) × Bool):=
  (((if ¬ a1=2 then (some (Sum.inl <| ([],false))) else (if (a8.length:Int) < 1 then (some (Sum.inl <| ([],false))) else (some (Sum.inr <| ())))):Option ((((List AX4) × Bool)) ⊕ (Unit))).bind (fun ex=>match ex with | Sum.inl Ac=>(some Ac) | Sum.inr (_)=>((iter (fun s=>Acn fuel a8 s.1 s.2.1 s.2.2) fuel ([],0,0)).bind (fun ex=>match ex with | Sum.inl Ad=>(some Ad) | Sum.inr (Ae)=>(some (Ae,true))))))
theorem Aco {fuel:Nat} {h:AGt} {a1:Int} {A9:Value} {a4:LiI} {Ba:Value} {a8:(List AWt)} {r:((List AX4) × Bool)} (H3:AXs (cI .i64) h A9 a4) (H7:SlC Alo h Ba a8) (hp:AWj fuel a1 a4 a8=some r):ATs Tryz.prog 16 #[(.agg #[(.int .i64 a1),A9,Ba])] h (fun x h'=>Ext h h'/\ ∃ (x0:Value) (F0:List Nat),x= .tuple #[x0,.bool r.2]/\OwC Af8 44 h' F0 x0 r.1/\Sp h' h.size [F0]):=by
 unfold AWj at hp;refine cwf (l:=[_]) Tryz.func16 rfl rfl (AGm (AYy (Kst.k0 h) [(.int .i64 a1),A9,Ba] fun Fc Fd Fe Ap=>ATi (AGu ?_)));obtain ⟨Cr,B4,Bb⟩:=AGn hp;refine Acg 130828 (fun x:Unit=>[]) (fun x h'=>(Sum.inr <| ())=Cr/\Kst h h' (Ap.L)) ?_ ?_
 ·refine AGm (AUs A0s ATe (Ap.b p0) 0 rfl (AWp rfl rfl (AGj ?_)));by_cases Ay: ¬ a1=2
  ·rw [decide_eq_true Ay];refine Afz 11 true (ATj rfl (AGr (ATp rfl (AGm (ATi (AGu ?_))))));obtain rfl:=AGl (ifT B4 Ay);refine AGz (ATc ?_);have Bc:=Kst.anil Af8 44 Ap;obtain rfl:=AGl Bb;exact ⟨_,AUk,Bc.x,_,_,rfl,(Bc.o p0),Bc.s.sel [0] AGk⟩
  ·have B5:=ifF B4 Ay;rw [decide_eq_false Ay];refine ATn 11 false (AVu Aj3 rfl (ATn 11 false (AT3 Aqu rfl ((Ap.b p0).cell (i:=2) rfl) (ATn 11 false (AUp Am4 rfl H7 (ATn 11 false (ATl rfl rfl (ATm rfl (AGr (⟨_,rfl,fun Be=>?_,fun Be=>?_⟩))))))))))
   ·refine AGm (ATi (AGu ?_));obtain rfl:=AGl (ATy B5 Be);refine AGz (ATc ?_);have Bf:=Kst.anil Af8 44 Ap;obtain rfl:=AGl Bb;exact ⟨_,AUk,Bf.x,_,_,rfl,(Bf.o p0),Bf.s.sel [0] AGk⟩
   ·refine AGy (q_t ?_);exact ⟨(():Unit),⟨AGl (ATz B5 Be),Ap⟩,trivial⟩
 rintro ⟨⟩ Ff Fg ⟨Ct,B6⟩;subst Ct;refine AGm (ATw (AGu (AGo (AGm (AUs Aj3 Aqu (B6.b p0) 2 rfl (AUp Am4 rfl H7 (AGj (AGr (AGp ?_)))))))));have B7:=Kst.anil Af8 44 B6;refine AX6 309485009821345068723732732 (fun x:((List AX4)) × (Value) × LnA × (Int) × (Int)=>(x.1,x.2.2.2.1,x.2.2.2.2)) (([],(.slice none 0 0),[],0,0):((List AX4)) × (Value) × LnA × (Int) × (Int)) Bb (fun x=>[(4,x.2.1),(5,(.int .i64 x.2.2.2.1)),(20,(.int .i64 x.2.2.2.2))]) (fun x=>B7.L.set 0 (aO Af8 44 x.2.2.1 x.2.1 x.1)) B7 ⟨rfl,rfl,rfl,trivial⟩ ?_;rintro ⟨Bg,Cu,Cv,Fh,B8⟩ Fi Fj Fk Av Bh Aq;unfold Acn at Bh;refine AGm (ATl rfl rfl (AGr (AGo (⟨_,rfl,fun Bi=>?_,fun Bi=>?_⟩))))
 ·refine AGy (q_t (AGo (AGp (AGm (AGj ?_)))));obtain ⟨Aa,Cw,Cx⟩:=AGn (ATy Bh Bi);refine Adl (c:=Alo) Am4 rfl H7 rfl Cw fun Fl Fm Fo Cy Cz=>?_;obtain rfl:=Cy;refine Afb (c:=Alo) Acz rfl rfl (fun j u hu=>(ATo (Cz j u hu) Av.x)) (AVr Av [(.int .i64 0),(.int .i64 0),(.int .i64 0),(.int .i64 0),(.int .i64 0)] Am5 fun Fp Fq Fr B9=>ATi (AU0 [(.int .i64 Aa.1),(.int .i64 Aa.2.1),(.int .i64 Aa.2.2.1),(.int .i64 Aa.2.2.2.1),(.int .i64 Aa.2.2.2.2)] Acz rfl rfl rfl rfl (by simp [isOne]) (B9.b p0) fun Ft C0 C1=>AGr ?_));have Ak:=B9.sb p0 C1 C0 rfl;obtain ⟨C2,Ca,Ar⟩:=AGn Cx;refine Acg 18014398475927564 (fun x:Unit=>[]) (fun x h'=>(Sum.inr <| ())=C2/\Kst h h' (Ak.L)) ?_ ?_
  ·refine AGo (AXr (AUs Acs AT1 (Ak.b p0) 0 rfl (ATl rfl rfl (AGj ?_))));by_cases Az:Aa.1 < 0
   ·rw [decide_eq_true Az];refine Ab6 28 true (ATj rfl (AGj (Ab6 33 true (ATj rfl (AGj (Ab6 38 true (AWa 41 AGx rfl (AWa 41 AGx rfl (AWa 41 AGx rfl (AWa 41 AGx rfl (AWa 41 AGx rfl (AWa 41 AGx rfl (AWa 41 AGx rfl (AWa 41 AGx rfl (AWa 41 AGx rfl (AWa 41 AGx rfl (Atz 38 true (ATj rfl (AGr (ATp rfl (AGm (ATi (AGu ?_)))))))))))))))))))))));obtain rfl:=AGl (ifT Ca Az);refine AGz (ATc (AUg (ATc (ATc (AUg (ATc ?_))))));have Bj:=Kst.anil Af8 44 Ak;obtain rfl:=AGl (Aq _ (AGl Ar).symm);exact ⟨_,AUk,Bj.x,_,_,rfl,(Bj.o p0),Bj.s.sel [0] AGk⟩
   ·have Cb:=ifF Ca Az;rw [decide_eq_false Az];refine ATn 28 false (AVu Acs rfl (ATn 28 false (AT3 AT1 rfl ((Ak.b p0).cell (i:=0) rfl) (ATn 28 false (AYb rfl rfl (ATm rfl (AGj ?_)))))));by_cases A3:60 < Aa.1
    ·rw [decide_eq_true A3];refine Ab6 33 true (ATj rfl (AGj (Ab6 38 true (AWa 41 AGx rfl (AWa 41 AGx rfl (AWa 41 AGx rfl (AWa 41 AGx rfl (AWa 41 AGx rfl (AWa 41 AGx rfl (AWa 41 AGx rfl (AWa 41 AGx rfl (AWa 41 AGx rfl (AWa 41 AGx rfl (Atz 38 true (ATj rfl (AGr (ATp rfl (AGm (ATi (AGu ?_))))))))))))))))))));obtain rfl:=AGl (ifT Cb A3);refine AGz (ATc (AUg (ATc (ATc (AUg (ATc ?_))))));have Bl:=Kst.anil Af8 44 Ak;obtain rfl:=AGl (Aq _ (AGl Ar).symm);exact ⟨_,AUk,Bl.x,_,_,rfl,(Bl.o p0),Bl.s.sel [0] AGk⟩
    ·rw [decide_eq_false A3];refine ATn 33 false (Acx [(.int .i64 Aa.1),(.int .i64 Aa.2.1),(.int .i64 Aa.2.2.1),(.int .i64 Aa.2.2.2.1),(.int .i64 Aa.2.2.2.2)] Acz rfl rfl (Ak.b p0).agg (ATn 33 false ?_));obtain ⟨C3,C4,Cd⟩:=AGn (ifF Cb A3);refine AW0 Ak (Ag1 C4) fun Fu Fv Am=>ATn 33 false (AWq rfl (ATm rfl (AGj ?_)));cases Ce:(!C3)
     ·refine ATn 38 false (AGj (ATn 38 false (AYb rfl rfl (ATn 38 false (AGj ?_)))));have Cf:=Aa7 Cd Ce;by_cases A4:0 < B8
      ·rw [decide_eq_true A4];refine ATn 41 true (AVu Acs rfl (ATn 41 true (AT3 AT1 rfl ((Am.b p0).cell (i:=0) rfl) (ATn 41 true (AVu Aj3 rfl (ATn 41 true (AT3 Aqu rfl ((Am.b p2).cell (i:=2) rfl) (ATn 41 true (AGj (ATn 41 true (AVd rfl rfl (ATn 41 true ?_))))))))))));obtain ⟨Fw,C5,Cg⟩:=AGn (ifT Cf A4);refine Adl (c:=Alo) Am4 rfl H7 rfl C5 fun Fx Fy Fz C6 C7=>?_;obtain rfl:=C6;refine ATn 41 true (AVu Acs rfl (ATn 41 true (AT3 AT1 rfl (ATo (C7 0 _ rfl) Am.x) (ATn 41 true (ATl rfl rfl (ATn 38 false (ATj rfl (ATm rfl (AGr (⟨_,rfl,fun Bm=>?_,fun Bm=>?_⟩))))))))))
       ·refine AGm (ATi (AGu ?_));obtain rfl:=AGl (ATy Cg Bm);refine AGz (ATc (AUg (ATc (ATc (AUg (ATc ?_))))));have Bn:=Kst.anil Af8 44 Am;obtain rfl:=AGl (Aq _ (AGl Ar).symm);exact ⟨_,AUk,Bn.x,_,_,rfl,(Bn.o p0),Bn.s.sel [0] AGk⟩
       ·refine AGy (q_t ?_);exact ⟨(():Unit),⟨AGl (ATz Cg Bm),Am⟩,trivial⟩
      ·rw [decide_eq_false A4];refine Acp 41 false (Acp 41 false (ATn 38 false (ATm rfl (ATm rfl (AGr (ATr rfl (AGy (q_t ?_))))))));exact ⟨(():Unit),⟨AGl (ifF Cf A4),Am⟩,trivial⟩
     ·refine Ab6 38 true (AWa 41 AGx rfl (AWa 41 AGx rfl (AWa 41 AGx rfl (AWa 41 AGx rfl (AWa 41 AGx rfl (AWa 41 AGx rfl (AWa 41 AGx rfl (AWa 41 AGx rfl (AWa 41 AGx rfl (AWa 41 AGx rfl (Atz 38 true (ATj rfl (AGr (ATp rfl (AGm (ATi (AGu ?_)))))))))))))))));obtain rfl:=AGl (ifT Cd Ce);refine AGz (ATc (AUg (ATc (ATc (AUg (ATc ?_))))));have Bo:=Kst.anil Af8 44 Am;obtain rfl:=AGl (Aq _ (AGl Ar).symm);exact ⟨_,AUk,Bo.x,_,_,rfl,(Bo.o p0),Bo.s.sel [0] AGk⟩
  rintro ⟨⟩ F4 F5 ⟨C8,Ab⟩;subst C8;refine AGm (AGj (AUs Afp AT1 (Ab.b p0) 1 rfl (ATk rfl rfl (AGu (AGo (AGm (AGj (AYb rfl rfl (AGr (⟨_,rfl,fun Bp=>?_,fun Bp=>?_⟩))))))))))
  ·refine AGm (ATi (AGu (AGz (ATc (AUg (ATc (ATc (AUg (ATc ?_)))))))));have Bq:=Kst.anil Af8 44 Ab;obtain rfl:=AGl (Aq _ (AGl (ATy Ar Bp)).symm);exact ⟨_,AUk,Bq.x,_,_,rfl,(Bq.o p0),Bq.s.sel [0] AGk⟩
  ·refine AGy (q_t ?_);obtain ⟨C9,Ch,Da⟩:=AGn (ATz Ar Bp);refine Acg 1208924666693124567859216 (fun x:((List AX4)) × (Value) × LnA=>[(4,x.2.1)]) (fun x h'=>( x.1)=C9/\Kst h h' (Ab.L.set 1 (aO Af8 44 x.2.2 x.2.1 x.1))) ?_ ?_
   ·refine AGo (AXr (AGj (AUy rfl rfl (AGj ?_))));by_cases A5:B8=0
    ·rw [decide_eq_true A5];refine Acp 62 true (Acp 62 true (ATj rfl (AGr (ATp rfl (AS3 (AGj (AUs Acs AT1 (Ab.b p0) 0 rfl (AV6 (v:=(.agg #[(.int .i64 Aa.1),(.int .i64 0),(.int .i64 1),(.bool false),(.int .i64 0)])) (fun _=>by kernel_rfl) ?_))))))));obtain ⟨Db,Dc⟩:=ifN (ifT Ch A5);refine Adu Aj2 Asd rfl rfl trivial tt2 (fun _=>rfl) rfl (show (Af8).rep _ (Aa.1,0,1,false,0) [(.int .i64 Aa.1),(.int .i64 0),(.int .i64 1),(.bool false),(.int .i64 0)] from rfl) (Ab.o p1) AGk Db fun F6 Dd De F7 Df Dg Dh=>AGu ?_;exact ⟨(((Bg ++ [(Aa.1,0,1,false,0)]),De,Dd):((List AX4)) × (Value) × LnA),⟨AGl Dc,(Ab.uo p1 Dg Df Dh)⟩,rfl,trivial⟩
    ·rw [decide_eq_false A5];refine ATn 62 false (AVu Acs rfl (ATn 62 false (AT3 AT1 rfl ((Ab.b p0).cell (i:=0) rfl) (ATn 62 false (AVu Aj3 rfl (ATn 62 false (AT3 Aqu rfl ((Ab.b p2).cell (i:=2) rfl) (ATn 62 false (AGj (ATn 62 false (AVd rfl rfl (ATn 62 false ?_))))))))))));obtain ⟨F8,Di,Ci⟩:=AGn (ifF Ch A5);refine Adl (c:=Alo) Am4 rfl H7 rfl Di fun F9 Ga Gb Dj Dk=>?_;obtain rfl:=Dj;refine ATn 62 false (AVu Acs rfl (ATn 62 false (AT3 AT1 rfl (ATo (Dk 0 _ rfl) Ab.x) (ATn 62 false (AYb rfl rfl (ATm rfl (AGr (⟨_,rfl,fun Br=>?_,fun Br=>?_⟩))))))))
     ·refine AS3 (AGj (AUs Acs AT1 (Ab.b p0) 0 rfl (AV6 (v:=(.agg #[(.int .i64 Aa.1),(.int .i64 0),(.int .i64 1),(.bool false),(.int .i64 0)])) (fun _=>by kernel_rfl) ?_)));obtain ⟨Dl,Do⟩:=ifN (ATy Ci Br);refine Adu Aj2 Asd rfl rfl trivial tt2 (fun _=>rfl) rfl (show (Af8).rep _ (Aa.1,0,1,false,0) [(.int .i64 Aa.1),(.int .i64 0),(.int .i64 1),(.bool false),(.int .i64 0)] from rfl) (Ab.o p1) AGk Dl fun Gc Dp Dq Gd Dr Ds Dt=>AGu ?_;exact ⟨(((Bg ++ [(Aa.1,0,1,false,0)]),Dq,Dp):((List AX4)) × (Value) × LnA),⟨AGl Do,(Ab.uo p1 Ds Dr Dt)⟩,rfl,trivial⟩
     ·refine AGy (q_t ?_);exact ⟨((Bg,Cu,Cv):((List AX4)) × (Value) × LnA),⟨AGl (ATz Ci Br),Ab⟩,rfl,trivial⟩
   rintro ⟨Ao,Bt,Bu⟩ Ge Gf ⟨Du,Aw⟩;subst Du;refine AXr (AGj (AGj (AUp Aj2 rfl (Aw.o p1).rd (AVd rfl rfl ?_))));obtain ⟨Gg,Dv,Dw⟩:=AGn Da;refine Ao5 Aj2 rfl (Aw.o p1) rfl Dv fun Gh Ah=>Acx [(.int .i64 Aa.1),(.int .i64 Aa.2.1),(.int .i64 Aa.2.2.1),(.int .i64 Aa.2.2.2.1),(.int .i64 Aa.2.2.2.2)] Acz rfl rfl (Aw.b p0).agg ?_;obtain ⟨Dx,Dy,Dz⟩:=AGn Dw;refine ATd (K':=(fun xr h'=> ∃ x:((List AX4)),x=Dx/\xr= .tuple #[]/\Kst h h' (Aw.L.set 1 (aO Af8 44 Bu Bt x)))) trivial rfl ?_ fun Gi Gj D0=>?_
   ·refine cwf (l:=[_,_]) Tryz.func47 rfl rfl (AGm (AYy Aw [(.int .i64 Aa.1),(.int .i64 Aa.2.1),(.int .i64 Aa.2.2.1),(.int .i64 Aa.2.2.2.1),(.int .i64 Aa.2.2.2.2)] fun Gk Gl Gm Ac=>AZg (AUs Agn ATe (Ac.b p0) 2 rfl (AGu ?_))));obtain ⟨D1,Cj,D2⟩:=AGn Dy;refine Acg 137438953232 (fun x:(Int) × ((List AX4))=>[(4,(.int .i64 x.1))]) (fun x h'=>( (x.1,x.2))=D1/\Kst h h' (Ac.L.set 2 (aO Af8 44 Bu Bt x.2))) ?_ ?_
    ·refine AGm (AUs Afp AT1 (Ac.b p0) 1 rfl (AUy rfl rfl (AGr (⟨_,rfl,fun Bv=>?_,fun Bv=>?_⟩))))
     ·refine AGm (AGj (AUt rfl (AVu A0u rfl ?_)));obtain ⟨Ai,D3,D4⟩:=AGn (ATy Cj Bv);refine Asl (c:=Af8) (a':=(Ai.1,Ai.2.1,Ai.2.2.1,true,Ai.2.2.2.2)) AWl rfl rfl rfl AGk (Ac.o p2) Ah D3 (fun _ q=>by cases q;rfl) fun Gn D5 D6=>AGr (AXr (AGj (AGj (AUt rfl (AVu A0v rfl ?_)))));have A6:=Ac.uO p2 D6 D5;obtain ⟨Ad,Ck,D7⟩:=AGn D4;obtain ⟨Gp,D8,D9⟩:=(A6.o p2).cells Ah Ck;obtain rfl:=D8;refine AT3 AT1 rfl (D9 4 _ rfl) (AUs Agn ATe (A6.b p0) 2 rfl (Aa9 rfl rfl AGk (ATk rfl rfl (Aa9 rfl rfl AGk (AUt rfl (AVu A0v rfl (Asl (c:=Af8) (a':=(Ad.1,Ad.2.1,Ad.2.2.1,Ad.2.2.2.1,(AZk .and .i64 (w64 (Ad.2.2.2.2 + (AZk .and .i64 Aa.2.2.1 7))) 7))) AT1 rfl rfl rfl AGk (A6.o p2) Ah Ck (fun _ q=>by cases q;rfl) fun Gq Ea Eb=>AGr ?_)))))));exact ⟨((Aa.2.2.1,(sI (sI Ao (w64 ((Ao.length:Int) - 1)) (Ai.1,Ai.2.1,Ai.2.2.1,true,Ai.2.2.2.2)) (w64 ((Ao.length:Int) - 1)) (Ad.1,Ad.2.1,Ad.2.2.1,Ad.2.2.2.1,(AZk .and .i64 (w64 (Ad.2.2.2.2 + (AZk .and .i64 Aa.2.2.1 7))) 7)))):(Int) × ((List AX4))),⟨AGl D7,(A6.uO p2 Eb Ea)⟩,rfl,trivial⟩
     ·refine AS3 (AUs Agn ATe (Ac.b p0) 2 rfl (AUs Aj4 ATe (Ac.b p0) 4 rfl (AZe rfl rfl (AUs Afq ATe (Ac.b p0) 3 rfl (AUs Afq ATe (Ac.b p0) 3 rfl (AZe rfl rfl (AVd rfl rfl (AGu ?_))))))));exact ⟨(((w64 ((w64 (Aa.2.2.1 * Aa.2.2.2.2)) - (w64 (Aa.2.2.2.1 * Aa.2.2.2.1)))),Ao):(Int) × ((List AX4))),⟨AGl (ATz Cj Bv),Ac⟩,rfl,trivial⟩
    rintro ⟨Ec,Bw⟩ Gr Gt ⟨Ed,Aj⟩;subst Ed;obtain ⟨Ee,Cm,Ef⟩:=AGn D2;refine Acg 9007061815787552 (fun x:((List AX4))=>[]) (fun x h'=>( x)=Ee/\Kst h h' (Aj.L.set 2 (aO Af8 44 Bu Bt x))) ?_ ?_
    ·refine AGm (AGj (Aa9 rfl rfl AGk (ATw (AGj (AUy rfl rfl (AGj ?_))))));by_cases A7:(AZk .and .i64 Ec 7)=3
     ·rw [decide_eq_true A7];refine Aej 41 true (ATj rfl (AGr (ATp rfl (AS3 (AGj (AGj (AUt rfl (AVu Ao6 rfl ?_))))))));obtain ⟨Ae,Cn,Eg⟩:=AGn (ifT Cm A7);obtain ⟨Gu,Eh,Ei⟩:=(Aj.o p2).cells Ah Cn;obtain rfl:=Eh;refine AT3 AT1 rfl (Ei 2 _ rfl) (Aqq rfl (AUt rfl (AVu Ao6 rfl (Asl (c:=Af8) (a':=(Ae.1,Ae.2.1,(w64 (0 - Ae.2.2.1)),Ae.2.2.2.1,Ae.2.2.2.2)) AT1 rfl rfl rfl AGk (Aj.o p2) Ah Cn (fun _ q=>by cases q;rfl) fun Gv Ej Ek=>AGr ?_))));exact ⟨((sI Bw (w64 ((Ao.length:Int) - 1)) (Ae.1,Ae.2.1,(w64 (0 - Ae.2.2.1)),Ae.2.2.2.1,Ae.2.2.2.2)):((List AX4))),⟨AGl Eg,(Aj.uO p2 Ek Ej)⟩,trivial⟩
     ·have Co:=ifF Cm A7;rw [decide_eq_false A7];refine ATn 41 false (AGj (ATn 41 false (AUy rfl rfl (ATm rfl (AGr (⟨_,rfl,fun Bx=>?_,fun Bx=>?_⟩))))))
      ·refine AS3 (AGj (AGj (AUt rfl (AVu Ao6 rfl ?_))));obtain ⟨Af,Cp,El⟩:=AGn (ATy Co Bx);obtain ⟨Gw,Em,En⟩:=(Aj.o p2).cells Ah Cp;obtain rfl:=Em;refine AT3 AT1 rfl (En 2 _ rfl) (Aqq rfl (AUt rfl (AVu Ao6 rfl (Asl (c:=Af8) (a':=(Af.1,Af.2.1,(w64 (0 - Af.2.2.1)),Af.2.2.2.1,Af.2.2.2.2)) AT1 rfl rfl rfl AGk (Aj.o p2) Ah Cp (fun _ q=>by cases q;rfl) fun Gx Eo Ep=>AGr ?_))));exact ⟨((sI Bw (w64 ((Ao.length:Int) - 1)) (Af.1,Af.2.1,(w64 (0 - Af.2.2.1)),Af.2.2.2.1,Af.2.2.2.2)):((List AX4))),⟨AGl El,(Aj.uO p2 Ep Eo)⟩,trivial⟩
      ·refine AGy (q_t ?_);exact ⟨(Bw:((List AX4))),⟨AGl (ATz Co Bx),Aj⟩,trivial⟩
    rintro Er Gy Gz ⟨Es,A8⟩;subst Es;refine AXr (AGj (AUt rfl (AVu Arc rfl ?_)));obtain ⟨Ag,Cq,Et⟩:=AGn Ef;obtain ⟨G3,Eu,Ev⟩:=(A8.o p2).cells Ah Cq;obtain rfl:=Eu;refine AT3 AT1 rfl (Ev 1 _ rfl) (AUs Afp AT1 (A8.b p0) 1 rfl (ATk rfl rfl (AUt rfl (AVu Arc rfl (Asl (c:=Af8) (a':=(Ag.1,(w64 (Ag.2.1 + Aa.2.1)),Ag.2.2.1,Ag.2.2.2.1,Ag.2.2.2.2)) AT1 rfl rfl rfl AGk (A8.o p2) Ah Cq (fun _ q=>by cases q;rfl) fun G4 Ew Ey=>ATh (⟨_,AZt,((sI Er (w64 ((Ao.length:Int) - 1)) (Ag.1,(w64 (Ag.2.1 + Aa.2.1)),Ag.2.2.1,Ag.2.2.2.1,Ag.2.2.2.2)):((List AX4))),?_,rfl,?_⟩))))))
    ·exact AGl Et
    ·exact (A8.uO p2 Ey Ew).sel [1,2,3] AGk
   obtain ⟨G5,Ez,rfl,Fa⟩:=D0;refine ⟨trivial,?_⟩;subst Ez;refine ATh (q_b (q_t (AS3 (ATk rfl rfl (AGj (AGr ?_))))));exact ⟨(_,_,_,_,_),(AGl Dz).symm,Fa.sel [1,2] AGk,rfl,rfl,rfl,trivial⟩
 ·refine AS8 (ATa (ATa (AT7 (q_t (AGm (AGj (ATi (AGu (AGz ?_)))))))));obtain rfl:=AGl (Aq _ (AGl (ATz Bh Bi)).symm);exact ⟨_,AUk,Av.x,_,_,rfl,(Av.o p0),Av.s.sel [0] AGk⟩
def Alc (fuel:Nat) (Ab:(List AX4)) (Aa:Int):Option ((Int) ⊕ ((Bool) ⊕ (Unit))):=
  (if Aa < (Ab.length:Int) then ((gI Ab Aa).bind fun Ac=>(if Ac.1=0 then (if Ac.2.2.2.1=true then (some (Sum.inr<| Sum.inl <| false)) else (some (Sum.inl (w64 (Aa + 1))))) else (some (Sum.inl (w64 (Aa + 1)))))) else (some (Sum.inr<| Sum.inr <| ())))
def Akr (fuel:Nat) (a1:Int) (a4:LiI) (a8:(List AWt)):Option Bool:=
  ((AWj fuel a1 a4 a8).bind fun (Ad,Ae)=>(if (!Ae)=true then (some false) else ((iter (fun s=>Alc fuel Ad s) fuel 0).bind (fun ex=>match ex with | Sum.inl Af=>(some Af) | Sum.inr (_)=>(some true)))))
theorem Aqp {fuel:Nat} {h:AGt} {a1:Int} {Ad:Value} {a4:LiI} {Ae:Value} {a8:(List AWt)} {r:Bool} (H3:AXs (cI .i64) h Ad a4) (H7:SlC Alo h Ae a8) (hp:Akr fuel a1 a4 a8=some r):ATs Tryz.prog 21 #[(.agg #[(.int .i64 a1),Ad,Ae])] h (fun x h'=>Ext h h'/\x= .bool r):=by
 unfold Akr at hp;refine cwf (l:=[_]) Tryz.func21 rfl rfl (AGm (AYy (Kst.k0 h) [(.int .i64 a1),Ad,Ae] fun Bg Bh Bi Af=>ATw (Acx [(.int .i64 a1),Ad,Ae] Agm rfl rfl (Af.b p0).agg ?_)));obtain ⟨⟨Bj,Bl⟩,A5,Ai⟩:=AGn hp;dsimp only at Ai;refine Afh rfl (Aco (H3.ext Af.x) (H7.ext Af.x) A5) fun Bm Bn A6 A7=>?_;obtain ⟨Bo,Bp,rfl,A8,A9⟩:=A7;refine AGj (AUb rfl rfl (AUb rfl rfl (ATi (AGu (AGo (AGm (AGj (AWq rfl (AGr ?_)))))))));have Aj:=Af.no A6 A9 A8;refine ⟨_,rfl,fun Ak=>?_,fun Ak=>?_⟩
 ·refine AGm (AGu (AGz (ATc ?_)));obtain rfl:=AGl (ifT Ai Ak);exact ⟨_,AS2,Aj.x,rfl⟩
 ·refine AGy (q_t (AGo (AGm (AGj (AUp Aj2 rfl (Aj.o p0).rd (AGj (AGr (AGp ?_))))))));have Am:=Aj.sel [0] AGk;dsimp only [AYv,Ab8] at Am;refine AYd 268369988 (Aa7 Ai Ak) (fun x=>[(16,(.int .i64 x))]) (fun x=>Am.L) Am ⟨rfl,trivial⟩ ?_;rintro Bq Br Bt Bu Ag Ao Av;unfold Alc at Ao;refine AGm (ATl rfl rfl (AGr (AGo (⟨_,rfl,fun Ap=>?_,fun Ap=>?_⟩))))
  ·refine AGy (q_t (AGo (AGp (AGm ?_))));obtain ⟨Aa,Aw,Ax⟩:=AGn (ATy Ao Ap);refine Ao5 Aj2 rfl (Ag.o p0) rfl Aw fun Bv Ba=>?_;obtain ⟨Bw,Bb,Bc⟩:=(Ag.o p0).cells Ba Aw;obtain rfl:=Bb;refine Afb (c:=Af8) Ap5 rfl rfl (fun j u hu=>(Bc j u hu)) (AVr Ag [(.int .i64 0),(.int .i64 0),(.int .i64 0),(.bool false),(.int .i64 0)] Asd fun Bx By Bz Ay=>AU0 [(.int .i64 Aa.1),(.int .i64 Aa.2.1),(.int .i64 Aa.2.2.1),(.bool Aa.2.2.2.1),(.int .i64 Aa.2.2.2.2)] Ap5 rfl rfl rfl rfl (by simp [isOne]) (Ay.b p0) fun B1 Be Bf=>AZg ?_);have Ab:=Ay.sb p0 Bf Be rfl;refine AUs A0t AT1 (Ab.b p0) 0 rfl (AUy rfl rfl (AGj ?_));by_cases Ah:Aa.1=0
   ·have Az:=ifT Ax Ah;rw [decide_eq_true Ah];refine ATn 23 true (AVu A0u rfl (ATn 23 true (AT3 AWl rfl ((Ab.b p0).cell (i:=3) rfl) (ATj rfl (AGr (⟨_,rfl,fun Aq=>?_,fun Aq=>?_⟩))))))
    ·refine AGm (AGu (AGz (AUg (ATc (ATc (AUg (ATc ?_)))))));obtain rfl:=AGl (Av _ (AGl (ifT Az Aq)).symm);exact ⟨_,AS2,Ab.x,rfl⟩
    ·refine AGy (q_b (q_t (AS3 (ATk rfl rfl (AGj (AGr ?_))))));exact ⟨_,(AGl (Aa7 Az Aq)).symm,Ab.sel [1] AGk,rfl,trivial⟩
   ·rw [decide_eq_false Ah];refine Aej 23 false (ATm rfl (AGr (ATr rfl (AGy (q_b (q_t (AS3 (ATk rfl rfl (AGj (AGr ?_))))))))));exact ⟨_,(AGl (ifF Ax Ah)).symm,Ab.sel [1] AGk,rfl,trivial⟩
  ·refine AS8 (ATa (ATa (AT7 (q_t (AGm (AGu (AGz ?_)))))));obtain rfl:=AGl (Av _ (AGl (ATz Ao Ap)).symm);exact ⟨_,AS2,Ag.x,rfl⟩
def Aii (fuel:Nat) (a1 a3 a4 a5 a6 Ac:Int):Option ((Int) ⊕ ((Bool) ⊕ (Unit))):=
  (if Ac < 3 then ((gI ([a3,a4,a5]:List Int) Ac).bind fun Ad=>(if Ad < 0 then (some (Sum.inr<| Sum.inl <| false)) else (if 0<=(w64 (a6 - a1))/\(w64 (a6 - a1))<=64 then (if (w64 (1 * 2 ^ Int.toNat (w64 (a6 - a1))))<=Ad then (some (Sum.inr<| Sum.inl <| false)) else (some (Sum.inl (w64 (Ac + 1))))) else none))) else (some (Sum.inr<| Sum.inr <| ())))
def Ahn (fuel:Nat) (a1 a2 a3 a4 a5 a6:Int):Option Bool:=
  ((iter (fun s=>Aii fuel a1 a3 a4 a5 a6 s) fuel 0).bind (fun ex=>match ex with | Sum.inl Af=>(some Af) | Sum.inr (_)=>(some true)))
theorem An6 {fuel:Nat} {h:AGt} {a1 a2 a3 a4 a5 a6:Int} {r:Bool} (hp:Ahn fuel a1 a2 a3 a4 a5 a6=some r):ATs Tryz.prog 72 #[(.agg #[(.int .i64 a1),(.int .i64 a2),(.int .i64 a3),(.int .i64 a4),(.int .i64 a5)]),(.int .i64 a6)] h (fun x h'=>Ext h h'/\x= .bool r):=by
 unfold Ahn at hp;refine cwf (l:=[_,_]) Tryz.func72 rfl rfl (AGm (AYy (Kst.k0 h) [(.int .i64 a1),(.int .i64 a2),(.int .i64 a3),(.int .i64 a4),(.int .i64 a5)] fun b7 h8 Ay Aa=>AGu (AGo (AGm (AUs Agn ATe (Aa.b p0) 2 rfl (AUs Afq ATe (Aa.b p0) 3 rfl (AUs Aj4 ATe (Aa.b p0) 4 rfl (AV6 (v:=(.agg #[(.int .i64 a3),(.int .i64 a4),(.int .i64 a5)])) (fun _=>by kernel_rfl) (AGj (AGr (AGp (AYd 536854608 hp (fun x=>[(14,(.int .i64 x))]) (fun x=>Aa.L) Aa ⟨rfl,trivial⟩ ?_))))))))))));rintro Az A3 A4 A5 Ab Ai Aj;unfold Aii at Ai;refine AGm (ATl rfl rfl (AGr (AGo (⟨_,rfl,fun Ak=>?_,fun Ak=>?_⟩))))
 ·refine AGy (q_t (AGo (AGp (AGm ?_))));obtain ⟨Ar,Au,Ap⟩:=AGn (ATy Ai Ak);refine A36 (cs:= #[]) (v:=undef) (BDn Au) (ATw (AGj (ATl rfl rfl (AGj ?_))));by_cases Af:Ar < 0
  ·rw [decide_eq_true Af];refine Acp 19 true (Aej 19 true (ATj rfl (AGr (ATp rfl (AGm (AGu (AGz (AUg (ATc (ATc (AUg (ATc ?_))))))))))));obtain rfl:=AGl (Aj _ (AGl (ifT Ap Af)).symm);exact ⟨_,AS2,Ab.x,rfl⟩
  ·rw [decide_eq_false Af];refine ATn 19 false (AGj (ATn 19 false (AGj (ATn 19 false (AVu Acs rfl (ATn 19 false (AT3 AT1 rfl ((Ab.b p0).cell (i:=0) rfl) (ATn 19 false (AVd rfl rfl (ATn 19 false ?_))))))))));obtain ⟨Av,Aq⟩:=ifN (ifF Ap Af);refine AY5 rfl rfl Av (ATn 19 false (Agp rfl rfl (ATm rfl (AGr (⟨_,rfl,fun Am=>?_,fun Am=>?_⟩)))))
   ·refine AGm (AGu (AGz (AUg (ATc (ATc (AUg (ATc ?_)))))));obtain rfl:=AGl (Aj _ (AGl (ATy Aq Am)).symm);exact ⟨_,AS2,Ab.x,rfl⟩
   ·refine AGy (q_b (q_t (AS3 (ATk rfl rfl (AGj (AGr ?_))))));exact ⟨_,(AGl (ATz Aq Am)).symm,Ab,rfl,trivial⟩
 ·refine AS8 (ATa (ATa (AT7 (q_t (AGm (AGu (AGz ?_)))))));obtain rfl:=AGl (Aj _ (AGl (ATz Ai Ak)).symm);exact ⟨_,AS2,Ab.x,rfl⟩
def Aje (fuel:Nat) (Aa:Int) (Ac:LiA) (Ab:Int):Option ((Int) ⊕ ((Bool) ⊕ (Unit))):=
  (if Ab < (Ac.length:Int) then ((gI Ac Ab).bind fun Ad=>(if Ad < 0 then (some (Sum.inr<| Sum.inl <| false)) else (if 0<=Aa/\Aa<=64 then (if (w64 (1 * 2 ^ Int.toNat Aa))<=Ad then (some (Sum.inr<| Sum.inl <| false)) else (some (Sum.inl (w64 (Ab + 1))))) else none))) else (some (Sum.inr<| Sum.inr <| ())))
def Ajf (fuel:Nat) (Ac Ad:LiI) (Ab:Int) (Ae:LiA) (Aa:Int):Option ((Int) ⊕ ((Bool) ⊕ (Unit))):=
  (if Aa < (Ae.length:Int) then ((gI Ad Ab).bind fun Af=>((gI Af Aa).bind fun Ag=>((gI Ac Ab).bind fun Ah=>((gI Ah Aa).bind fun Ai=>(if ¬ Ag=Ai then (some (Sum.inr<| Sum.inl <| false)) else (some (Sum.inl (w64 (Aa + 1))))))))) else (some (Sum.inr<| Sum.inr <| ())))
def Ajg (fuel:Nat) (Ac Ab:LiI) (Aa:Int):Option ((Int) ⊕ ((Bool) ⊕ (Unit))):=
  (if Aa < (Ab.length:Int) then ((gI Ab Aa).bind fun Ad=>((iter (fun s=>Ajf fuel Ac Ab Aa Ad s) fuel 0).bind (fun ex=>match ex with | Sum.inl Ae=>(some (Sum.inr<| Sum.inl <| Ae)) | Sum.inr (_)=>(some (Sum.inl (w64 (Aa + 1))))))) else (some (Sum.inr<| Sum.inr <| ())))
def Ajh (fuel:Nat) (Ah:(List AWt)) (Ai Ab Ak Af:Int) (Ac:LiI):Option ((Int × Int × Int × LiI) ⊕ ((Bool) ⊕ (LiI))):=
  (if Af < (Ah.length:Int) then ((gI Ah Af).bind fun Aa=>(((if Aa.1 < Ak then (some (Sum.inl <| false)) else (if (w64 (Ai - 3)) < Aa.1 then (some (Sum.inl <| false)) else ((Ahn fuel Aa.1 Aa.2.1 Aa.2.2.1 Aa.2.2.2.1 Aa.2.2.2.2 Ai).bind fun Am=>(if (!Am)=true then (some (Sum.inl <| false)) else ((AXk fuel Aa.1 Aa.2.1 Aa.2.2.1 Aa.2.2.2.1 Aa.2.2.2.2).bind fun Ao=>(if (!Ao)=true then (some (Sum.inl <| false)) else (some (Sum.inr <| ())))))))):Option ((Bool) ⊕ (Unit))).bind (fun ex=>match ex with | Sum.inl Ap=>(some (Sum.inr<| Sum.inl <| Ap)) | Sum.inr (_)=>((gI Ac Ab).bind fun Ad=>(if 0<=Aa.1/\Aa.1<=64 then ((gI Ad Ab).bind fun Ar=>(((if Aa.2.1=2 then ((gI (sI Ac Ab (sI Ad Ab (w64 (Aa.2.2.1 * 2 ^ Int.toNat Aa.1)))) Ab).bind fun Ae=>(if 0<=Aa.1/\Aa.1<=64 then ((gI Ae (w64 (Ab + 1))).bind fun Au=>((gI (sI (sI Ac Ab (sI Ad Ab (w64 (Aa.2.2.1 * 2 ^ Int.toNat Aa.1)))) Ab (sI Ae (w64 (Ab + 1)) (w64 (Aa.2.2.2.1 * 2 ^ Int.toNat Aa.1)))) (w64 (Ab + 1))).bind fun Ag=>(if 0<=Aa.1/\Aa.1<=64 then ((gI Ag Ab).bind fun Av=>((gI (sI (sI (sI Ac Ab (sI Ad Ab (w64 (Aa.2.2.1 * 2 ^ Int.toNat Aa.1)))) Ab (sI Ae (w64 (Ab + 1)) (w64 (Aa.2.2.2.1 * 2 ^ Int.toNat Aa.1)))) (w64 (Ab + 1)) (sI Ag Ab (w64 (Aa.2.2.2.1 * 2 ^ Int.toNat Aa.1)))) (w64 (Ab + 1))).bind fun Aj=>(if 0<=Aa.1/\Aa.1<=64 then ((gI Aj (w64 (Ab + 1))).bind fun Aw=>(some ( (sI (sI (sI (sI Ac Ab (sI Ad Ab (w64 (Aa.2.2.1 * 2 ^ Int.toNat Aa.1)))) Ab (sI Ae (w64 (Ab + 1)) (w64 (Aa.2.2.2.1 * 2 ^ Int.toNat Aa.1)))) (w64 (Ab + 1)) (sI Ag Ab (w64 (Aa.2.2.2.1 * 2 ^ Int.toNat Aa.1)))) (w64 (Ab + 1)) (sI Aj (w64 (Ab + 1)) (w64 (Aa.2.2.2.2 * 2 ^ Int.toNat Aa.1))))))) else none))) else none))) else none)) else (some ( (sI Ac Ab (sI Ad Ab (w64 (Aa.2.2.1 * 2 ^ Int.toNat Aa.1))))))):Option ((LiI))).bind (fun (Aq:LiI)=>(some (Sum.inl ((w64 (Ab + Aa.2.1)),Aa.1,(w64 (Af + 1)),Aq)))))) else none))))) else (some (Sum.inr<| Sum.inr <| Ac)))
def Aji (fuel:Nat) (a3:LiI) (Ab:Int) (Ac:LiI):Option ((Int × LiI) ⊕ ((LiI))):=
  (if Ab < ((List.replicate (Int.toNat (a3.length:Int)) ([]:List Int)).length:Int) then (if 0<=(a3.length:Int)/\(a3.length:Int)<=100000000 then ((gI Ac Ab).bind fun Ad=>(some (Sum.inl ((w64 (Ab + 1)),(sI Ac Ab (List.replicate (Int.toNat (a3.length:Int)) (0:Int))))))) else none) else (some (Sum.inr<| Ac)))
def Ajj (fuel:Nat) (a8:LiI) (Ac Aa:Int):Option ((Int) ⊕ ((Bool) ⊕ (Unit))):=
  (if Aa < (a8.length:Int) then ((gI a8 Aa).bind fun Ad=>((iter (fun s=>Aje fuel Ac Ad s) fuel 0).bind (fun ex=>match ex with | Sum.inl Ae=>(some (Sum.inr<| Sum.inl <| Ae)) | Sum.inr (_)=>(some (Sum.inl (w64 (Aa + 1))))))) else (some (Sum.inr<| Sum.inr <| ())))
def Aif (fuel:Nat) (a3:LiI) (a5:Int) (a8:LiI) (Ad:(List AWt)) (Ab:Int):Option Bool:=
  ((iter (fun s=>Ajj fuel a8 Ab s) fuel 0).bind (fun ex=>match ex with | Sum.inl Ae=>(some Ae) | Sum.inr (_)=>((Akq fuel a8 2).bind fun (Af,Ao)=>(if Af=0 then (some false) else (if 0<=(a3.length:Int)/\(a3.length:Int)<=100000000 then ((iter (fun s=>Aji fuel a3 s.1 s.2) fuel (0,(List.replicate (Int.toNat (a3.length:Int)) ([]:List Int)))).bind (fun (Ag:LiI)=>((iter (fun s=>Ajh fuel Ad Ab s.1 s.2.1 s.2.2.1 s.2.2.2) fuel (0,0,0,Ag)).bind (fun ex=>match ex with | Sum.inl Ah=>(some Ah) | Sum.inr (Ai)=>(if 0<=Ab/\Ab<=64 then ((Ae4 fuel a3 a8 (w64 (1 * 2 ^ Int.toNat Ab))).bind fun (Aj,Ap)=>((iter (fun s=>Ajg fuel Ai Aj s) fuel 0).bind (fun ex=>match ex with | Sum.inl Ak=>(some Ak) | Sum.inr (_)=>(some true)))) else none))))) else none)))))
theorem Aou {fuel:Nat} {h:AGt} {B1:Value} {a3:LiI} {a5:Int} {A3:Value} {a8:LiI} {A4:Value} {B4:(List AWt)} {A5:Int} {r:Bool} (H2:AXs (cI .i64) h B1 a3) (H7:AXs (cI .i64) h A3 a8) (B5:SlC Alo h A4 B4) (hp:Aif fuel a3 a5 a8 B4 A5=some r):ATs Tryz.prog 36 #[B1,(.agg #[(.int .i64 a5),A3,A4]),(.int .i64 A5)] h (fun x h'=>Ext h h'/\x= .bool r):=by
 unfold Aif at hp;refine cwf (l:=[_,_,_]) Tryz.func36 rfl rfl (AGm (AYy (Kst.k0 h) [(.int .i64 a5),A3,A4] fun F4 F5 F6 A7=>AGu (AGo (AGm (AUs Ann AU3 (A7.b p0) 1 rfl (AT4 ATb rfl H7 (AGj (AGr (AGp (AYd 281474708276544 hp (fun x=>[(28,(.int .i64 x))]) (fun x=>A7.L) A7 ⟨rfl,trivial⟩ ?_))))))))));rintro F7 F8 F9 Ga Ae A8 A9;unfold Ajj at A8;refine AGm (ATl rfl rfl (AGr (AGo (⟨_,rfl,fun Ba=>?_,fun Ba=>?_⟩))))
 ·refine AGy (q_t (AGo (AGp (AGm ?_))));obtain ⟨Gb,C4,C5⟩:=AGn (ATy A8 Ba);refine Adn ATb ATq H7 Ae.x C4 fun _ Gc B6=>ATw (AGj (AUp AS9 rfl B6 (AGj (AGr (AGp (AYd 140720308487232 C5 (fun x=>[(34,(.int .i64 x))]) (fun x=>Ae.L) Ae ⟨rfl,trivial⟩ ?_))))));rintro Gd Ge Gf Gg Ah Bb Bc;unfold Aje at Bb;refine AGm (ATl rfl rfl (AGr (AGo (⟨_,rfl,fun Be=>?_,fun Be=>?_⟩))))
  ·refine AGy (q_t (AGo (AGp (AGm ?_))));obtain ⟨C6,C7,B7⟩:=AGn (ATy Bb Be);refine Asp AS9 ATe B6 Ah.x C7 fun _=>(ATw (AGj (ATl rfl rfl (AGj ?_))));by_cases Ap:C6 < 0
   ·rw [decide_eq_true Ap];refine Afz 40 true (ATj rfl (AGr (ATp rfl (AGm (AGu (AGz (AUg (ATc (ATc (AUg (AUg (ATc (ATc (AUg (ATc ?_)))))))))))))));obtain rfl:=AGl (A9 _ (AGl (Bc _ (AGl (ifT B7 Ap)).symm)).symm);exact ⟨_,AS2,Ah.x,rfl⟩
   ·rw [decide_eq_false Ap];refine ATn 40 false (AGj (ATn 40 false (AGj (ATn 40 false ?_))));obtain ⟨C8,B8⟩:=ifN (ifF B7 Ap);refine AY5 rfl rfl C8 (ATn 40 false (Agp rfl rfl (ATm rfl (AGr (⟨_,rfl,fun Bf=>?_,fun Bf=>?_⟩)))))
    ·refine AGm (AGu (AGz (AUg (ATc (ATc (AUg (AUg (ATc (ATc (AUg (ATc ?_)))))))))));obtain rfl:=AGl (A9 _ (AGl (Bc _ (AGl (ATy B8 Bf)).symm)).symm);exact ⟨_,AS2,Ah.x,rfl⟩
    ·refine AGy (q_b (q_t (AS3 (ATk rfl rfl (AGj (AGr ?_))))));exact ⟨_,(AGl (ATz B8 Bf)).symm,Ah,rfl,trivial⟩
  ·refine AS8 (ATa (ATa (AT7 (q_b (q_t (AS3 (ATk rfl rfl (AGj (AGr ?_)))))))));exact ⟨_,(AGl (Bc _ (AGl (ATz Bb Be)).symm)).symm,Ah,rfl,trivial⟩
 ·refine AS8 (ATa (ATa (AT7 (q_t (AGo (AGm (AUs Ann AU3 (Ae.b p0) 1 rfl ?_)))))));obtain ⟨⟨Gh,Gi⟩,C9,Bg⟩:=AGn (A9 _ (AGl (ATz A8 Ba)).symm);dsimp only at Bg;refine AW0 Ae (Aqo (H7.ext Ae.x) C9) fun Gj Gk B9=>AGj (AUb rfl rfl (AUb rfl rfl (ATi (ATw (AGj (AUy rfl rfl (AGr (⟨_,rfl,fun Bh=>?_,fun Bh=>?_⟩))))))))
  ·refine AGm (AGu (AGz (ATc ?_)));obtain rfl:=AGl (ATy Bg Bh);exact ⟨_,AS2,B9.x,rfl⟩
  ·refine AGy (q_t (AGm (AGj (AT4 ATb rfl H2 ?_))));obtain ⟨Da,Db⟩:=ifN (ATz Bg Bh);refine Aj1 (cI .i64) 2 ATb Aff rfl trivial tt2 rfl rfl AGk Da fun Dc Dd De Bi Gl Df Dg Dh=>AGu (AGo (AGm (AGj ?_)));have Bj:=B9.no2 Dg Dh Df;refine AT4 ATb rfl (Bj.o2 p0).rd (AGj (AGr (AGp (AX6 2358877398425608929280 (fun x:(Int) × (LiI) × LnA × LnN × LvA=>(x.1,x.2.1)) ((0,(List.replicate (Int.toNat (a3.length:Int)) ([]:List Int)),Dc,Dd,De):(Int) × (LiI) × LnA × LnN × LvA) Db (fun x=>[(61,(.int .i64 x.1))]) (fun x=>Bj.L.set 0 (aO2 (cI .i64) 49 2 x.2.2.1 x.2.2.2.1 x.2.2.2.2 Bi x.2.1)) Bj ⟨rfl,trivial⟩ ?_))));rintro ⟨Gm,Di,Dj,Dk,Dl⟩ Gn Gp Gq Aq Bl Do;unfold Aji at Bl;refine AGm (ATl rfl rfl (AGr (AGo (⟨_,rfl,fun Bm=>?_,fun Bm=>?_⟩))))
   ·refine AGy (q_t (AGo (AGp (AGm (AGj (AGu (AS3 (AGj (AGj (AGj (AT4 ATb rfl H2 ?_)))))))))));obtain ⟨Dp,Dq⟩:=ifN (ATy Bl Bm);refine Ai3 (c:=(cI .i64)) (a:=0) AS9 Acy rfl rfl (fun _=>rfl) rfl trivial tt2 rfl rfl AGk Dp fun Gr Gt Gu Dr Ds Dt Du=>?_;have Ai:=Aq.no Ds (AX2 Dt Du) Dr;obtain ⟨Gv,Ca,Dv⟩:=AGn Dq;refine AVf ATb rfl (Ai.o2 p1) rfl Ca fun Gw Gx Dw Gy Gz=>Aj0 ATq (Ai.o2 p1) Ca Dw rfl rfl (Ai.o p0) (Ai.dj p0 p1 AGk) fun G3 Dx Dy Dz=>ATh (q_b (q_t (AS3 (ATk rfl rfl (AGj (AGr ?_))))));exact ⟨(_,_,_,_,_),(AGl Dv).symm,(Ai.m2 p0 p1 AGk Dy Dx (fun z hz=> .inl (Dz z hz))).sel [1,2] AGk,rfl,trivial⟩
   ·refine AS8 (ATa (ATa (AT7 (q_t (AGm (ATi (AGu (AGo (AGm (AUs Aj3 Aqu (Aq.b p1) 2 rfl (AUp Am4 rfl B5 (AGj (AGr (AGp (AX6 365375409332725729550921189289604823435402641472 (fun x:(Int) × (Int) × (Int) × (LiI) × LnA × LnN × LvA=>(x.1,x.2.1,x.2.2.1,x.2.2.2.1)) ((0,0,0,Di,Dj,Dk,Dl):(Int) × (Int) × (Int) × (LiI) × LnA × LnN × LvA) (Do _ (AGl (ATz Bl Bm)).symm) (fun x=>[(15,(.int .i64 x.1)),(16,(.int .i64 x.2.1)),(74,(.int .i64 x.2.2.1))]) (fun x=>Aq.L.set 0 (aO2 (cI .i64) 49 2 x.2.2.2.2.1 x.2.2.2.2.2.1 x.2.2.2.2.2.2 Bi x.2.2.2.1)) Aq ⟨rfl,rfl,rfl,trivial⟩ ?_)))))))))))))));rintro ⟨Ab,D0,G4,Cb,Cd,Ce,Cf⟩ G5 G6 G7 Af Bn Aj;unfold Ajh at Bn;refine AGm (ATl rfl rfl (AGr (AGo (⟨_,rfl,fun Bo=>?_,fun Bo=>?_⟩))))
    ·refine AGy (q_t (AGo (AGp (AGm ?_))));obtain ⟨Aa,D1,D2⟩:=AGn (ATy Bn Bo);refine Adl (c:=Alo) Am4 rfl B5 rfl D1 fun G8 G9 Hb D3 D4=>?_;obtain rfl:=D3;refine Afb (c:=Alo) Acz rfl rfl (fun j u hu=>(ATo (D4 j u hu) Af.x)) (AVr Af [(.int .i64 0),(.int .i64 0),(.int .i64 0),(.int .i64 0),(.int .i64 0)] Am5 fun Hc Hd He Cg=>AU0 [(.int .i64 Aa.1),(.int .i64 Aa.2.1),(.int .i64 Aa.2.2.1),(.int .i64 Aa.2.2.2.1),(.int .i64 Aa.2.2.2.2)] Acz rfl rfl rfl rfl (by simp [isOne]) (Cg.b p0) fun Hf D5 D6=>AGr ?_);have Ac:=Cg.sb p0 D6 D5 rfl;obtain ⟨D7,Ch,Ak⟩:=AGn D2;refine Acg 1267650297996774497839409528896 (fun x:Unit=>[]) (fun x h'=>(Sum.inr <| ())=D7/\Kst h h' (Ac.L)) ?_ ?_
     ·refine AGm (AUs Acs AT1 (Ac.b p0) 0 rfl (AGj (ATl rfl rfl (AGj ?_))));by_cases Ar:Aa.1 < D0
      ·rw [decide_eq_true Ar];refine Acp 82 true (ATj rfl (AGj (Afz 89 true (ATj rfl (AGj (Ab6 95 true (ATj rfl (AGr (ATp rfl (AGm (AGu ?_)))))))))));obtain rfl:=AGl (ifT Ch Ar);refine AGz (ATc (AUg (ATc (ATc (AUg (ATc ?_))))));obtain rfl:=AGl (Aj _ (AGl Ak).symm);exact ⟨_,AS2,Ac.x,rfl⟩
      ·have Ci:=ifF Ch Ar;rw [decide_eq_false Ar];refine ATn 82 false (AVu Acs rfl (ATn 82 false (AT3 AT1 rfl ((Ac.b p0).cell (i:=0) rfl) (ATn 82 false (AGj (ATn 82 false (AVd rfl rfl (ATn 82 false (AYb rfl rfl (ATm rfl (AGj ?_)))))))))));by_cases Au:(w64 (A5 - 3)) < Aa.1
       ·rw [decide_eq_true Au];refine Afz 89 true (ATj rfl (AGj (Ab6 95 true (ATj rfl (AGr (ATp rfl (AGm (AGu ?_))))))));obtain rfl:=AGl (ifT Ci Au);refine AGz (ATc (AUg (ATc (ATc (AUg (ATc ?_))))));obtain rfl:=AGl (Aj _ (AGl Ak).symm);exact ⟨_,AS2,Ac.x,rfl⟩
       ·rw [decide_eq_false Au];refine ATn 89 false (Acx [(.int .i64 Aa.1),(.int .i64 Aa.2.1),(.int .i64 Aa.2.2.1),(.int .i64 Aa.2.2.2.1),(.int .i64 Aa.2.2.2.2)] Acz rfl rfl (Ac.b p0).agg (ATn 89 false (AGj (ATn 89 false ?_))));obtain ⟨D8,D9,Cj⟩:=AGn (ifF Ci Au);refine AW0 Ac (An6 D9) fun Hg Hh Bp=>ATn 89 false (AWq rfl (ATm rfl (AGj ?_)));cases Ck:(!D8)
        ·refine ATn 95 false (Acx [(.int .i64 Aa.1),(.int .i64 Aa.2.1),(.int .i64 Aa.2.2.1),(.int .i64 Aa.2.2.2.1),(.int .i64 Aa.2.2.2.2)] Acz rfl rfl (Bp.b p0).agg (ATn 95 false ?_));obtain ⟨Hj,Ea,Cm⟩:=AGn (Aa7 Cj Ck);refine AW0 Bp (Ag1 Ea) fun Hk Hl Cn=>ATn 95 false (AWq rfl (ATm rfl (AGr (⟨_,rfl,fun Bq=>?_,fun Bq=>?_⟩))))
         ·refine AGm (AGu ?_);obtain rfl:=AGl (ifT Cm Bq);refine AGz (ATc (AUg (ATc (ATc (AUg (ATc ?_))))));obtain rfl:=AGl (Aj _ (AGl Ak).symm);exact ⟨_,AS2,Cn.x,rfl⟩
         ·refine AGy (q_t ?_);exact ⟨(():Unit),⟨AGl (Aa7 Cm Bq),Cn⟩,trivial⟩
        ·refine Ab6 95 true (ATj rfl (AGr (ATp rfl (AGm (AGu ?_)))));obtain rfl:=AGl (ifT Cj Ck);refine AGz (ATc (AUg (ATc (ATc (AUg (ATc ?_))))));obtain rfl:=AGl (Aj _ (AGl Ak).symm);exact ⟨_,AS2,Bp.x,rfl⟩
     rintro ⟨⟩ Hm Hn ⟨Eb,Av⟩;subst Eb;refine AGo (AXr (AGj (AGj ?_)));obtain ⟨Co,Cp,Ec⟩:=AGn Ak;refine AUh ATb ATq (Av.o2 p1) Cp fun _ Ho Ed=>AGj (AUs Agn ATe (Av.b p0) 2 rfl (AUs Acs AT1 (Av.b p0) 0 rfl ?_));obtain ⟨Ee,Ef⟩:=ifN Ec;refine AY5 rfl rfl Ee ?_;obtain ⟨Hq,Eg,Eh⟩:=AGn Ef;refine AZv (m:=Ab) Av p1 AS9 ATe Ed Cp Eg (fun _=>rfl) fun _ Hr Ad=>AGr ?_;obtain ⟨Ei,Cq,Ej⟩:=AGn Eh;refine Acg 2854495385409323613687304525084725024600883200 (fun x:(LiI) × LnA × LnN × LvA=>[]) (fun x h'=>( x.1)=Ei/\Kst h h' (Ad.L.set 1 (aO2 (cI .i64) 49 2 x.2.1 x.2.2.1 x.2.2.2 Bi x.1))) ?_ ?_
     ·refine AGm (AUs Afp AT1 (Ad.b p0) 1 rfl (AUy rfl rfl (AGr (⟨_,rfl,fun Br=>?_,fun Br=>?_⟩))))
      ·refine AGo (AXr (AGj (AGj ?_)));obtain ⟨Ek,Cr,El⟩:=AGn (ATy Cq Br);refine AUh ATb ATq (Ad.o2 p1) Cr fun _ Hs Em=>AGj (ATk rfl rfl (AUs Afq ATe (Ad.b p0) 3 rfl (AUs Acs AT1 (Ad.b p0) 0 rfl ?_)));obtain ⟨En,Eo⟩:=ifN El;refine AY5 rfl rfl En ?_;obtain ⟨Ht,Ep,Er⟩:=AGn Eo;refine AZv (m:=Ab) Ad p1 AS9 ATe Em Cr Ep (fun _=>rfl) fun _ Hu Aw=>AGr (AGo (AXr (AGj (AGj (ATk rfl rfl ?_)))));obtain ⟨Es,Ct,Et⟩:=AGn Er;refine AUh ATb ATq (Aw.o2 p1) Ct fun _ Hv Eu=>AGj (AUs Afq ATe (Aw.b p0) 3 rfl (AUs Acs AT1 (Aw.b p0) 0 rfl ?_));obtain ⟨Ev,Ew⟩:=ifN Et;refine AY5 rfl rfl Ev ?_;obtain ⟨Hw,Ey,Ez⟩:=AGn Ew;refine AZv (m:=(w64 (Ab + 1))) Aw p1 AS9 ATe Eu Ct Ey (fun _=>rfl) fun _ Hx Ax=>AGr (AXr (AGj (AGj (ATk rfl rfl ?_))));obtain ⟨Fa,Cu,Fb⟩:=AGn Ez;refine AUh ATb ATq (Ax.o2 p1) Cu fun _ Hy Fc=>AGj (ATk rfl rfl (AUs Aj4 ATe (Ax.b p0) 4 rfl (AUs Acs AT1 (Ax.b p0) 0 rfl ?_)));obtain ⟨Fd,Fe⟩:=ifN Fb;refine AY5 rfl rfl Fd ?_;obtain ⟨Hz,Ff,Fg⟩:=AGn Fe;refine AZv (m:=(w64 (Ab + 1))) Ax p1 AS9 ATe Fc Cu Ff (fun _=>rfl) fun _ Ia Fh=>AGr ?_;exact ⟨(((sI (sI (sI (sI Cb Ab (sI Co Ab (w64 (Aa.2.2.1 * 2 ^ Int.toNat Aa.1)))) Ab (sI Ek (w64 (Ab + 1)) (w64 (Aa.2.2.2.1 * 2 ^ Int.toNat Aa.1)))) (w64 (Ab + 1)) (sI Es Ab (w64 (Aa.2.2.2.1 * 2 ^ Int.toNat Aa.1)))) (w64 (Ab + 1)) (sI Fa (w64 (Ab + 1)) (w64 (Aa.2.2.2.2 * 2 ^ Int.toNat Aa.1)))),Cd,Ce,Cf):(LiI) × LnA × LnN × LvA),⟨AGl Fg,Fh⟩,trivial⟩
      ·refine AGy (q_t ?_);exact ⟨(((sI Cb Ab (sI Co Ab (w64 (Aa.2.2.1 * 2 ^ Int.toNat Aa.1)))),Cd,Ce,Cf):(LiI) × LnA × LnN × LvA),⟨AGl (ATz Cq Br),Ad⟩,trivial⟩
     rintro ⟨Ib,Ic,Id,Ie⟩ If Ih ⟨Fi,Bt⟩;subst Fi;refine AGm (AGj (AUs Afp AT1 (Bt.b p0) 1 rfl (ATk rfl rfl (AGu (AS3 (AUs Acs AT1 (Bt.b p0) 0 rfl (ATi (ATh (q_b (q_t (AS3 (ATk rfl rfl (AGj (AGr ?_))))))))))))));exact ⟨(_,_,_,_,_,_,_),(AGl Ej).symm,Bt.sel [1,2] AGk,rfl,rfl,rfl,trivial⟩
    ·refine AS8 (ATa (ATa (AT7 (q_t (AGo (AXr (AGj (AUs Ann AU3 (Af.b p1) 1 rfl (AGj ?_)))))))));obtain ⟨Fj,Fk⟩:=ifN (Aj _ (AGl (ATz Bn Bo)).symm);refine AY5 rfl rfl Fj ?_;obtain ⟨⟨Ii,Ij⟩,Fl,Cv⟩:=AGn Fk;dsimp only at Cv;refine Afh rfl (Ak5 (H2.ext Af.x) (H7.ext Af.x) Fl) fun Ik Il Fm Fo=>?_;obtain ⟨Im,Io,Ip,Iq,rfl,Fp,Fq⟩:=Fo;refine AGj (AUb rfl rfl (AUb rfl rfl (ATi (AGu (AGo (AGm (AGj ?_)))))));have Cw:=Af.no2 Fm Fq Fp;refine AT4 ATb rfl (Cw.o2 p0).rd (AGj (AGr (AGp ?_)));have Bu:=Cw.sel [0,1] AGk;dsimp only [AYv,Ab8] at Bu;refine AYd 6277100987097842450413495302921032065365449380626603966528 Cv (fun x=>[(169,(.int .i64 x))]) (fun x=>Bu.L) Bu ⟨rfl,trivial⟩ ?_;rintro Cx Ir Is It Am Bv Cy;unfold Ajg at Bv;refine AGm (ATl rfl rfl (AGr (AGo (⟨_,rfl,fun Bw=>?_,fun Bw=>?_⟩))))
     ·refine AGy (q_t (AGo (AGp (AGm (AGj ?_)))));obtain ⟨Iu,Cz,Fr⟩:=AGn (ATy Bv Bw);refine AUh ATb ATq (Am.o2 p0) Cz fun _ Iv C0=>ATi (ATw (AGj (AUp AS9 rfl ((Am.o2 p0).rowI C0 Cz) (AGj (AGr (AGp (AYd 3138455086722036263864247314914636313727201551036905947200 Fr (fun x=>[(176,(.int .i64 x))]) (fun x=>Am.L) Am ⟨rfl,trivial⟩ ?_)))))));rintro Iw Ix Iy Iz Ag Bx C1;unfold Ajf at Bx;refine AGm (ATl rfl rfl (AGr (AGo (⟨_,rfl,fun By=>?_,fun By=>?_⟩))))
      ·refine AGy (q_t (AGo (AGp (AGm (AGj ?_)))));obtain ⟨I0,Ft,Fu⟩:=AGn (ATy Bx By);obtain ⟨I1,Fv,Fw⟩:=AGn Fu;refine AWr (m:=Cx) AS9 ATe (Ag.o2 p0) C0 Ft Fv fun _=>(ATi (ATw (AGj (AGj (AGj ?_)))));obtain ⟨I2,C2,Fx⟩:=AGn Fw;refine AUh ATb ATq (Ag.o2 p1) C2 fun _ I3 Fy=>AGj ?_;obtain ⟨I5,Fz,C3⟩:=AGn Fx;refine AWr (m:=Cx) AS9 ATe (Ag.o2 p1) Fy C2 Fz fun _=>(AWp rfl rfl (AGr (⟨_,rfl,fun Bz=>?_,fun Bz=>?_⟩)))
       ·refine AGm (AGu (AGz (AUg (ATc (ATc (AUg (AUg (ATc (ATc (AUg (ATc ?_)))))))))));obtain rfl:=AGl (Cy _ (AGl (C1 _ (AGl (ATy C3 Bz)).symm)).symm);exact ⟨_,AS2,Ag.x,rfl⟩
       ·refine AGy (q_b (q_t (AS3 (ATk rfl rfl (AGj (AGr ?_))))));exact ⟨_,(AGl (ATz C3 Bz)).symm,Ag,rfl,trivial⟩
      ·refine AS8 (ATa (ATa (AT7 (q_b (q_t (AS3 (ATk rfl rfl (AGj (AGr ?_)))))))));exact ⟨_,(AGl (C1 _ (AGl (ATz Bx By)).symm)).symm,Ag,rfl,trivial⟩
     ·refine AS8 (ATa (ATa (AT7 (q_t (AGm (AGu (AGz ?_)))))));obtain rfl:=AGl (Cy _ (AGl (ATz Bv Bw)).symm);exact ⟨_,AS2,Am.x,rfl⟩
noncomputable def Ajk (fuel:Nat) (a3:LiI) (Ae:(List AWt)) (Aa Ab:Int):Option ((Int × Int) ⊕ ((Int) ⊕ (Int))):=
  (if Ab < (Ae.length:Int) then ((gI Ae Ab).bind fun Ac=>(((if ¬ Ac.2.1=1 then (if ¬ Ac.2.1=2 then (some (Sum.inl <| 3)) else (if (a3.length:Int) < Aa then (some (Sum.inl <| 3)) else (some (Sum.inr <| ())))) else (if (a3.length:Int) < Aa then (some (Sum.inl <| 3)) else (some (Sum.inr <| ())))):Option ((Int) ⊕ (Unit))).bind (fun ex=>match ex with | Sum.inl Af=>(some (Sum.inr<| Sum.inl <| Af)) | Sum.inr (_)=>(some (Sum.inl ((w64 (Aa + Ac.2.1)),(w64 (Ab + 1)))))))) else (some (Sum.inr<| Sum.inr <| Aa)))
noncomputable def Ajl (fuel:Nat) (a3 a8:LiI) (Aa:Int):Option ((Int) ⊕ ((Int) ⊕ (Unit))):=
  (if Aa < (a8.length:Int) then ((gI a8 Aa).bind fun Ad=>(if ¬ (Ad.length:Int)=(a3.length:Int) then (some (Sum.inr<| Sum.inl <| 3)) else (some (Sum.inl (w64 (Aa + 1)))))) else (some (Sum.inr<| Sum.inr <| ())))
noncomputable def Afs (fuel:Nat) (a3:LiI) (a5:Int) (a8:LiI) (Ad:(List AWt)):Option Int:=
  ((Ak3 fuel a3).bind fun Ae=>(if (!Ae)=true then (some 6) else (if ¬ a5=2 then (some 20) else (if ¬ (a8.length:Int)=(a3.length:Int) then (some 3) else ((iter (fun s=>Ajl fuel a3 a8 s) fuel 0).bind (fun ex=>match ex with | Sum.inl Af=>(some Af) | Sum.inr (_)=>((iter (fun s=>Ajk fuel a3 Ad s.1 s.2) fuel (0,0)).bind (fun ex=>match ex with | Sum.inl Ag=>(some Ag) | Sum.inr (Ah)=>(if ¬ Ah=(a3.length:Int) then (some 3) else ((AW2 fuel a3 2).bind fun (Ai,Ak)=>((Aif fuel a3 a5 a8 Ad Ai).bind fun Aj=>(if (!Aj)=true then (some 10) else (some 0)))))))))))))
theorem Aov {fuel:Nat} {h:AGt} {A9:Value} {a3:LiI} {a5:Int} {Ah:Value} {a8:LiI} {Ai:Value} {Bc:(List AWt)} {r:Int} (H2:AXs (cI .i64) h A9 a3) (H7:AXs (cI .i64) h Ah a8) (Ar:SlC Alo h Ai Bc) (HO:An3 h) (hp:Afs fuel a3 a5 a8 Bc=some r):ATs Tryz.prog 10 #[A9,(.agg #[(.int .i64 a5),Ah,Ai])] h (fun x h'=>Ext h h'/\x= .int .i64 r):=by
 unfold Afs at hp;refine cwf (l:=[_,_]) Tryz.func10 rfl rfl (AGm (AYy (Kst.k0 h) [(.int .i64 a5),Ah,Ai] fun Cb Cd Ce Be=>AGu (AGo (AGm (AGj ?_)))));obtain ⟨Cf,Bw,Bf⟩:=AGn hp;refine AW0 Be (Asz (H2.ext Be.x) Bw) fun Cg Ch Aa=>AWq rfl (AGr (⟨_,rfl,fun Au=>?_,fun Au=>?_⟩))
 ·refine AGm (AGu (AGz (ATc ?_)));obtain rfl:=AGl (ifT Bf Au);exact ⟨_,AS2,Aa.x,rfl⟩
 ·refine AGy (q_t (AGo (AGm (AUs A0s ATe (Aa.b p0) 0 rfl (AWp rfl rfl (AGr ?_))))));have Bg:=Aa7 Bf Au;refine ⟨_,rfl,fun Av=>?_,fun Av=>?_⟩
  ·refine AGm (AGu (AGz (ATc ?_)));obtain rfl:=AGl (ATy Bg Av);exact ⟨_,AS2,Aa.x,rfl⟩
  ·refine AGy (q_t (AGm (AGj (AT4 ATb rfl H2 (AGu (AGo (AGm (AUs Ann AU3 (Aa.b p0) 1 rfl (AT4 ATb rfl H7 (AGj (AWp rfl rfl (AGr ?_))))))))))));have Bh:=ATz Bg Av;refine ⟨_,rfl,fun Aw=>?_,fun Aw=>?_⟩
   ·refine AGm (AGu (AGz (ATc ?_)));obtain rfl:=AGl (ATy Bh Aw);exact ⟨_,AS2,Aa.x,rfl⟩
   ·refine AGy (q_t (AGo (AGm (AUs Ann AU3 (Aa.b p0) 1 rfl (AT4 ATb rfl H7 (AGj (AGr (AGp (AYd 274341036176 (ATz Bh Aw) (fun x=>[(29,(.int .i64 x))]) (fun x=>Aa.L) Aa ⟨rfl,trivial⟩ ?_)))))))));rintro Ci Cj Ck Cm Ad Ax Bi;unfold Ajl at Ax;refine AGm (ATl rfl rfl (AGr (AGo (⟨_,rfl,fun Ay=>?_,fun Ay=>?_⟩))))
    ·refine AGy (q_t (AGo (AGp (AGm ?_))));obtain ⟨Cn,Bx,Bj⟩:=AGn (ATy Ax Ay);refine Adn ATb ATq H7 Ad.x Bx fun _ Co By=>ATw (AGj (AUp AS9 rfl By (AGj (AWp rfl rfl (AGr (⟨_,rfl,fun Az=>?_,fun Az=>?_⟩))))))
     ·refine AGm (AGu (AGz (AUg (ATc (ATc (AUg (ATc ?_)))))));obtain rfl:=AGl (Bi _ (AGl (ATy Bj Az)).symm);exact ⟨_,AS2,Ad.x,rfl⟩
     ·refine AGy (q_b (q_t (AS3 (ATk rfl rfl (AGj (AGr ?_))))));exact ⟨_,(AGl (ATz Bj Az)).symm,Ad,rfl,trivial⟩
    ·refine AS8 (ATa (ATa (AT7 (q_t (AGm (AGu (AGo (AGm (AUs Aj3 Aqu (Ad.b p0) 2 rfl (AUp Am4 rfl Ar (AGj (AGr (AGp (AYd 9223369837831521552 (Bi _ (AGl (ATz Ax Ay)).symm) (fun x=>[(8,(.int .i64 x.1)),(41,(.int .i64 x.2))]) (fun x=>Ad.L) Ad ⟨rfl,rfl,trivial⟩ ?_))))))))))))));rintro ⟨Cp,Cq⟩ Cr Ct Cu Ae A3 Am;unfold Ajk at A3;refine AGm (ATl rfl rfl (AGr (AGo (⟨_,rfl,fun A4=>?_,fun A4=>?_⟩))))
     ·refine AGy (q_t (AGo (AGp (AGm ?_))));obtain ⟨Ac,Bz,B1⟩:=AGn (ATy A3 A4);refine Adl (c:=Alo) Am4 rfl Ar rfl Bz fun Cv Cw Cx B3 B4=>?_;obtain rfl:=B3;refine Afb (c:=Alo) Acz rfl rfl (fun j u hu=>(ATo (B4 j u hu) Ae.x)) (AVr Ae [(.int .i64 0),(.int .i64 0),(.int .i64 0),(.int .i64 0),(.int .i64 0)] Am5 fun Cy Cz C0 Bl=>AU0 [(.int .i64 Ac.1),(.int .i64 Ac.2.1),(.int .i64 Ac.2.2.1),(.int .i64 Ac.2.2.2.1),(.int .i64 Ac.2.2.2.2)] Acz rfl rfl rfl rfl (by simp [isOne]) (Bl.b p0) fun C1 B5 B6=>AGr ?_);have Ab:=Bl.sb p0 B6 B5 rfl;obtain ⟨B7,Bm,Ao⟩:=AGn B1;refine Acg 288195191779622928 (fun x:Unit=>[]) (fun x h'=>(Sum.inr <| ())=B7/\Kst h h' (Ab.L)) ?_ ?_
      ·refine AGm (AUs Afp AT1 (Ab.b p0) 1 rfl (AWp rfl rfl (AGj ?_)));by_cases Ap: ¬ Ac.2.1=1
       ·have Bn:=ifT Bm Ap;rw [decide_eq_true Ap];refine ATn 48 true (AVu Afp rfl (ATn 48 true (AT3 AT1 rfl ((Ab.b p0).cell (i:=1) rfl) (ATn 48 true (AWp rfl rfl (ATj rfl (AGj ?_)))))));by_cases Aq: ¬ Ac.2.1=2
        ·rw [decide_eq_true Aq];refine Ab6 53 true (ATj rfl (AGr (ATp rfl (AGm (AGu ?_)))));obtain rfl:=AGl (ifT Bn Aq);refine AGz (ATc (AUg (ATc (ATc (AUg (ATc ?_))))));obtain rfl:=AGl (Am _ (AGl Ao).symm);exact ⟨_,AS2,Ab.x,rfl⟩
        ·have Bo:=ifF Bn Aq;rw [decide_eq_false Aq];refine ATn 53 false (AGj (ATn 53 false (AGj (ATn 53 false (AYb rfl rfl (ATm rfl (AGr (⟨_,rfl,fun A5=>?_,fun A5=>?_⟩))))))))
         ·refine AGm (AGu ?_);obtain rfl:=AGl (ATy Bo A5);refine AGz (ATc (AUg (ATc (ATc (AUg (ATc ?_))))));obtain rfl:=AGl (Am _ (AGl Ao).symm);exact ⟨_,AS2,Ab.x,rfl⟩
         ·refine AGy (q_t ?_);exact ⟨(():Unit),⟨AGl (ATz Bo A5),Ab⟩,trivial⟩
       ·have Bp:=ifF Bm Ap;rw [decide_eq_false Ap];refine Ab6 48 false (ATm rfl (AGj (ATn 53 false (AGj (ATn 53 false (AGj (ATn 53 false (AYb rfl rfl (ATm rfl (AGr (⟨_,rfl,fun A6=>?_,fun A6=>?_⟩)))))))))))
        ·refine AGm (AGu ?_);obtain rfl:=AGl (ATy Bp A6);refine AGz (ATc (AUg (ATc (ATc (AUg (ATc ?_))))));obtain rfl:=AGl (Am _ (AGl Ao).symm);exact ⟨_,AS2,Ab.x,rfl⟩
        ·refine AGy (q_t ?_);exact ⟨(():Unit),⟨AGl (ATz Bp A6),Ab⟩,trivial⟩
      rintro ⟨⟩ C2 C3 ⟨B8,Bq⟩;subst B8;refine AS3 (AGj (AUs Afp AT1 (Bq.b p0) 1 rfl (ATk rfl rfl (ATi (ATh (q_b (q_t (AS3 (ATk rfl rfl (AGj (AGr ?_)))))))))));exact ⟨_,(AGl Ao).symm,Bq.sel [1] AGk,rfl,rfl,trivial⟩
     ·refine AS8 (ATa (ATa (AT7 (q_t (AGo (AGm (AGj (AGj (AWp rfl rfl (AGr ?_))))))))));have Br:=Am _ (AGl (ATz A3 A4)).symm;refine ⟨_,rfl,fun A7=>?_,fun A7=>?_⟩
      ·refine AGm (AGu (AGz (ATc ?_)));obtain rfl:=AGl (ATy Br A7);exact ⟨_,AS2,Ae.x,rfl⟩
      ·refine AGy (q_t (AGm (AGj ?_)));obtain ⟨⟨C4,C5⟩,B9,Bt⟩:=AGn (ATz Br A7);dsimp only at Bt;refine AW0 Ae (Aha (H2.ext Ae.x) (HO.ext Ae.x) B9) fun C6 C7 Af=>AGj (AUb rfl rfl (AUb rfl rfl (ATi (AGu (AGo (AGm (AGj (Acx [(.int .i64 a5),Ah,Ai] Agm rfl rfl (Af.b p0).agg (AGj ?_)))))))));obtain ⟨C8,Ca,Bu⟩:=AGn Bt;refine AW0 Af (Aou (H2.ext Af.x) (H7.ext Af.x) (Ar.ext Af.x) Ca) fun C9 Da Bv=>AWq rfl (AGr (⟨_,rfl,fun A8=>?_,fun A8=>?_⟩))
       ·refine AGm (AGu (AGz (ATc ?_)));obtain rfl:=AGl (ifT Bu A8);exact ⟨_,AS2,Bv.x,rfl⟩
       ·refine AGy (q_t (AGm (AGu (AGz ?_))));obtain rfl:=AGl (Aa7 Bu A8);exact ⟨_,AS2,Bv.x,rfl⟩
noncomputable def AY3 (fuel:Nat):Option Bool:=
  ((AWj fuel 2 ([([1,0]:List Int),([0,1]:List Int)]:List LiA) ([(0,2,2,1,2)]:List AWt)).bind fun (Aa,Ab)=>(if Ab=true then ((Afs fuel ([([2,1]:List Int),([1,2]:List Int)]:List LiA) 2 ([([1,0]:List Int),([0,1]:List Int)]:List LiA) ([(0,2,2,1,2)]:List AWt)).bind fun Ac=>(if Ac=0 then ((Akr fuel 2 ([([1,0]:List Int),([0,1]:List Int)]:List LiA) ([(0,2,2,1,2)]:List AWt)).bind fun Ad=>(if Ad=true then ((Acm fuel Aa ([(0,2,(-1),false,0)]:List AX4)).bind fun Ae=>(some Ae)) else (some false))) else (some false))) else (some false)))
theorem Aks {fuel:Nat} {h:AGt} {r:Bool} (HO:An3 h) (hp:AY3 fuel=some r):ATs Tryz.prog 12 #[] h (fun x h'=>Ext h h'/\x= .bool r):=by
 unfold AY3 at hp;refine cwf (l:=[]) Tryz.func12 rfl rfl (AGm (ATw (Ap9 (κ:= .i64) [2,1] AS9 Acy rfl rfl trivial tt2 rfl rfl rfl rfl fun b1 v2 h3 I4 E5 A3 A4=>Ap9 (κ:= .i64) [1,2] AS9 Acy rfl rfl trivial tt2 rfl rfl rfl rfl fun A5 A6 Cq A7 A8 A9 Ba=>?_)));have Ab:=((Kst.k0 h).no E5 (AX2 A3 A4) I4).no A8 (AX2 A9 Ba) A7;have Ao:=(((Ab.a0).grab p1).grab p0);refine Anr (c:=(cI .i64)) (el:=2) [[b1],[A5]] [v2,A6] [([2,1]:List Int),([1,2]:List Int)] ATb Aff rfl rfl trivial tt2 rfl rfl rfl rfl (Aba (Ab.o p1).isOne (Aba (Ab.o p0).isOne Alw)) ⟨(Ab.o p1),(Ab.o p0),trivial⟩ (by simpa using Ao.ndT) fun Cr Ct Cu Bb Bc Be=>ATw (Ap9 (κ:= .i64) [1,0] AS9 Acy rfl rfl trivial tt2 rfl rfl rfl rfl fun Bf Bg Cv Bh Bi Bj Bl=>Ap9 (κ:= .i64) [0,1] AS9 Acy rfl rfl trivial tt2 rfl rfl rfl rfl fun Bm Bn Cw Bo Bp Bq Br=>?_);have Ac:=((Ao.lit Bc Bb (by simpa using Be)).no Bi (AX2 Bj Bl) Bh).no Bp (AX2 Bq Br) Bo;have Ap:=(((Ac.a0).grab p1).grab p0);refine Anr (c:=(cI .i64)) (el:=2) [[Bf],[Bm]] [Bg,Bn] [([1,0]:List Int),([0,1]:List Int)] ATb Aff rfl rfl trivial tt2 rfl rfl rfl rfl (Aba (Ac.o p1).isOne (Aba (Ac.o p0).isOne Alw)) ⟨(Ac.o p1),(Ac.o p0),trivial⟩ (by simpa using Ap.ndT) fun Cx Ad Cy Bt Bu Bv=>AV6 (v:=(.agg #[(.int .i64 0),(.int .i64 2),(.int .i64 2),(.int .i64 1),(.int .i64 2)])) (fun _=>by kernel_rfl) (A5m Alo ([(0,2,2,1,2)]:List AWt) [[(.int .i64 0),(.int .i64 2),(.int .i64 2),(.int .i64 1),(.int .i64 2)]] [(0,(.agg #[(.int .i64 0),(.int .i64 2),(.int .i64 2),(.int .i64 1),(.int .i64 2)]))] Am4 Am5 rfl trivial tt2 rfl rfl rfl AGx rfl (A06 (fun _=>rfl) A05) fun Cz Ae C0 Bw Bx By Bz=>?_);have Aj:=(Ap.lit Bu Bt (by simpa using Bv)).no Bx (AX2 By Bz) Bw;obtain ⟨_,_,_,B1⟩:=(Aj.o2 p1).rd.shape;obtain ⟨_,_,_,B3⟩:=(Aj.o p0).rd.shape;refine AV6 (v:=(.agg #[(.int .i64 2),Ad,Ae])) (fun _=>by subst B1;subst B3;kernel_rfl) (AVr Aj [(.int .i64 0),(.slice none 0 0),(.slice none 0 0)] Au9 fun C1 C2 C3 Ag=>AU0 [(.int .i64 2),Ad,Ae] Agm rfl rfl rfl rfl (Aba rfl (Aba (Ag.o2 p2).isOne (Aba (Ag.o p1).isOne Alw))) (Ag.b p0) fun C4 B4 B5=>AZg ?_);have Ah:=Ag.sb p0 B5 B4 rfl;refine Acx [(.int .i64 2),Ad,Ae] Agm rfl rfl (Ah.b p0).agg ?_;obtain ⟨⟨C5,B6⟩,B7,Ak⟩:=AGn hp;dsimp only at Ak;refine Afh rfl (Aco (Ah.o2 p2).rd (Ah.o p1).rd B7) fun C6 C7 B8 B9=>?_;obtain ⟨C8,C9,rfl,Ca,Cb⟩:=B9;refine AGj (AUb rfl rfl (AUb rfl rfl (ATi (ATw (AGj (AGj ?_))))));have Aa:=Ah.no B8 Cb Ca;cases Aq:B6
 ·refine Afz 20 false (ATm rfl (AGj (Aej 26 false (ATm rfl (AGj (Afz 30 false (ATm rfl (AGu (AGz ?_)))))))));obtain rfl:=AGl (Aa7 Ak Aq);exact ⟨_,AS2,Aa.x,rfl⟩
 ·refine ATn 20 true (AGj (ATn 20 true (Acx [(.int .i64 2),Ad,Ae] Agm rfl rfl (Aa.b p1).agg (ATn 20 true ?_))));obtain ⟨Cd,Ce,Ar⟩:=AGn (ifT Ak Aq);refine AW0 Aa (Aov (Aa.o2 p6).rd (Aa.o2 p3).rd (Aa.o p2).rd (HO.ext Aa.x) Ce) fun Da Db Af=>ATn 20 true (AUy rfl rfl (ATj rfl (AGj ?_)));by_cases Ai:Cd=0
  ·rw [decide_eq_true Ai];refine ATn 26 true (Acx [(.int .i64 2),Ad,Ae] Agm rfl rfl (Af.b p1).agg (ATn 26 true ?_));obtain ⟨Cf,Cg,Au⟩:=AGn (ifT Ar Ai);refine AW0 Af (Aqp (Af.o2 p3).rd (Af.o p2).rd Cg) fun Dc Dd Av=>ATj rfl (AGj ?_);cases Aw:Cf
   ·refine Afz 30 false (ATm rfl (AGu (AGz ?_)));obtain rfl:=AGl (Aa7 Au Aw);exact ⟨_,AS2,Av.x,rfl⟩
   ·refine ATn 30 true (AGj (ATn 30 true (AV6 (v:=(.agg #[(.int .i64 0),(.int .i64 2),(.int .i64 (-1)),(.bool false),(.int .i64 0)])) (fun _=>by kernel_rfl) (ATn 30 true (A5m Af8 ([(0,2,(-1),false,0)]:List AX4) [[(.int .i64 0),(.int .i64 2),(.int .i64 (-1)),(.bool false),(.int .i64 0)]] [(0,(.agg #[(.int .i64 0),(.int .i64 2),(.int .i64 (-1)),(.bool false),(.int .i64 0)]))] Aj2 Asd rfl trivial tt2 rfl rfl rfl AGx rfl (A06 (fun _=>rfl) A05) fun De Df Dg Ch Ci Cj Ck=>ATn 30 true ?_)))));have Am:=Av.no Ci (AX2 Cj Ck) Ch;obtain ⟨Dh,Cm,Cn⟩:=AGn (ifT Au Aw);refine AW0 Am (Air (Am.o p1).rd (Am.o p0).rd Cm) fun Di Dj Co=>ATj rfl (AGu (AGz ?_));obtain rfl:=AGl Cn;exact ⟨_,AS2,Co.x,rfl⟩
  ·rw [decide_eq_false Ai];refine Aej 26 false (ATm rfl (AGj (Afz 30 false (ATm rfl (AGu (AGz ?_))))));obtain rfl:=AGl (ifF Ar Ai);exact ⟨_,AS2,Af.x,rfl⟩
end Go.Proofs.YthbndcbclhkepaaGreatDoor
namespace Go.Proofs.YthbndcbclhkepaaGreatDoor
open Go Go.QF
set_option maxRecDepth 100000
theorem A91 (a:Int):AZk .and .i64 a 1=a % 2:=by
 show w64 (((BitVec.ofInt 64 a &&& BitVec.ofInt 64 1).toNat:Nat):Int)=_;rw [BitVec.toNat_and,BitVec.toNat_ofInt,BitVec.toNat_ofInt,show ((1:Int) % ((2 ^ 64:Nat):Int)).toNat=1 by decide,Nat.and_one_is_mod,wk AGi];omega
theorem Arr {k:Nat} (hk:k<=30):w64 (1 * 2 ^ Int.toNat (k:Int))=(2:Int) ^ k:=by
 have h1:(2:Int) ^ k<=2 ^ 30:=Ace AGk hk;have h2:0 < (2:Int) ^ k:=Int.pow_pos AGk;have h3:(2:Int) ^ 30=1073741824:=by decide
 rw [Int.toNat_natCast,Int.one_mul,wk AGi]
theorem BD7 {fuel:Nat} {e s a b c:Int}:Ok (AXk fuel e s a b c) fun r=>r=true↔if s=1 then a % 2=1/\b=0/\c=0 else s=2/\a % 2=0/\b % 2=1/\c % 2=0:=by
 unfold AXk;rw [A91,A91,A91];refine ATt (fun h=>?_) fun h=>?_
 ·rw [if_pos h];refine ATt (fun h1=>ATt (fun h2=>AGq ?_) fun h2=>AGq ?_) fun h1=>AGq ?_
  ·rw [decide_eq_true_eq];exact ⟨fun h3=>⟨h1,h2,h3⟩,fun h3=>h3.2.2⟩
  ·exact ⟨fun e=>(nomatch e),fun h3=>absurd h3.2.1 h2⟩
  ·exact ⟨fun e=>(nomatch e),fun h3=>absurd h3.1 h1⟩
 ·rw [if_neg h];refine ATt (fun h0=>ATt (fun h1=>ATt (fun h2=>AGq ?_) fun h2=>AGq ?_) fun h1=>AGq ?_) fun h0=>AGq ?_
  ·rw [decide_eq_true_eq];exact ⟨fun h3=>⟨h0,h1,h2,h3⟩,fun h3=>h3.2.2.2⟩
  ·exact ⟨fun e=>(nomatch e),fun h3=>absurd h3.2.2.1 h2⟩
  ·exact ⟨fun e=>(nomatch e),fun h3=>absurd h3.2.1 h1⟩
  ·exact ⟨fun e=>(nomatch e),fun h3=>absurd h3.1 h0⟩
end Go.Proofs.YthbndcbclhkepaaGreatDoor
