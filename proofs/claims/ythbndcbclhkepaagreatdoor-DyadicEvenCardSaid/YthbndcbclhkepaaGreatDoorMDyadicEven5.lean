/-
  Texts of a proof, joined. Conditions stand in each statement.
-/
import Derived.Lib.SmallJoins
import Derived.Test.YthbndcbclhkepaaGreatDoorMDyadicEven4
set_option linter.unusedVariables false
set_option linter.unusedSimpArgs false
namespace Go.Proofs.YthbndcbclhkepaaGreatDoor
open Go Go.QF
set_option maxRecDepth 100000
def part (n i:Nat) (G:AS4):List (List Int):=AVk n fun r=>if r < i then AVk n (G r) else []
theorem Adq {n i r:Nat} {G:AS4} (hr:r < i) (hn:r < n):(part n i G)[r]? =some (AVk n (G r)):=by
 unfold part;rw [ATv hn,if_pos hr]
theorem Ajj {n i:Nat} {G:AS4} (hn:i < n):(part n i G)[i]? =some []:=by
 unfold part;rw [ATv hn,if_neg (Nat.lt_irrefl i)]
theorem Ae7 {n i r:Nat} {G:AS4} {g:Nat->Int} (hr:r < i):(part n i G).set r (AVk n g)=part n i (AUu G r g):=by
 unfold part;rw [AXp];refine AUd fun k _=>?_;by_cases h:k=r
 ·subst h;rw [if_pos rfl,if_pos hr,AUw]
 ·rw [if_neg h,AX7 _ _ h]
theorem Ahf {n i:Nat} {G:AS4} {g:Nat->Int}:(part n i G).set i (AVk n g)=part n (i + 1) (AUu G i g):=by
 unfold part;rw [AXp];refine AUd fun k _=>?_;by_cases h:k=i
 ·subst h;rw [if_pos rfl,if_pos AGh,AUw]
 ·rw [if_neg h,AX7 _ _ h];by_cases h2:k < i
  ·rw [if_pos h2,if_pos AGh]
  ·rw [if_neg h2,if_neg AGh]
theorem Afr (n:Nat) (G:AS4):part n n G=tab n n G:=by
 unfold part;rw [Ahd];exact AUd fun k hk=>if_pos hk
theorem Afs (n:Nat) (G:AS4):List.replicate n ([]:List Int)=part n 0 G:=by
 rw [AYq];exact AUd fun k _=>(if_neg AGh).symm
theorem Anr {L:List Int} {q:Nat} (hq:q < 4611686018427387904):Ok (if (L.length:Int)<=((q:Nat):Int) then (some ((0:Int),((q:Nat):Int))) else ((gI L (w64 ((w64 (((q:Nat):Int) + 1)) - 1))).bind fun x=>(some ((w64 x),(w64 (((q:Nat):Int) + 1)))))) fun e=> ∃ p:Nat,e.2=(p:Int)/\p<=q + 1:=by
  refine ATr (fun h=>AGp ⟨q,rfl,AGh⟩) fun h=>?_;have hl:q < L.length:=by omega
  refine ATs (n:=q) (List.getElem?_eq_getElem hl) (by rw [AWk (x:=(q:Int) + 1) AGh AGh,wk AGh];omega) (AGp ⟨q + 1,?_,AGh⟩);rw [AWk (x:=(q:Int) + 1) AGh AGh];omega
theorem Alk (x:Int) (m:Nat) (hm:0 < m):0<=Int.tmod (w64 (IntKind.wrap .u8 x)) (m:Int)/\Int.tmod (w64 (IntKind.wrap .u8 x)) (m:Int) < m:=by
 have h1:IntKind.wrap .u8 x=x % 256:=by rw [IntKind.wrap_u8]
 rw [h1];have a1:=Int.emod_nonneg x (show (256:Int)≠0 by decide);have a2:=Int.emod_lt_of_pos x (show (0:Int) < 256 by decide);rw [wk AGh,Int.tmod_eq_emod_of_nonneg a1];exact ⟨Int.emod_nonneg _ AGh,Int.emod_lt_of_pos _ AGh⟩
def dgF (f:Nat->Int) (r c:Nat):Int:=if c=r then f r else 0
theorem BB1 {fuel N q0:Nat} {a1 Ac:Int} {L:List Int} (hN:w64 (1 + (Int.tmod (w64 a1) Ac))=(N:Int)) (Af:N<=8) (Ag:q0<=1000) (hf:100 < fuel):
    Ok (iter (fun s=>AWz fuel a1 L Ac s.1 s.2.1 s.2.2) fuel (0,(q0:Int),(List.replicate (Int.toNat (w64 (1 + (Int.tmod (w64 a1) Ac)))) ([]:List Int)))) fun e=> ∃ (q:Nat) (f:Nat->Int),e=((q:Int),tab N N (dgF f))/\q<=q0 + N/\ ∀ r,r < N->1<=f r/\f r<=6:=by
 refine AUa (fun i s=> ∃ (q:Nat) (f:Nat->Int),s=(((i:Nat):Int),(q:Int),part N i (dgF f))/\i<=N/\q<=q0 + i/\ ∀ r,r < i->1<=f r/\f r<=6) N ⟨q0,fun _=>0,by rw [hN,Int.toNat_natCast,Afs N (dgF fun _=>0)];rfl,AGh,AGh,fun r hr=>by omega⟩ AGh fun i s hi hI=>?_;obtain ⟨q,f,rfl,hiN,hq,Ad⟩:=hI;unfold AWz;dsimp only;rw [List.length_replicate,hN,Int.toNat_natCast];refine ATr (fun h=>AU3 AGh ?_) (fun h=>AGp ?_)
 ·have hi':i < N:=by omega
  refine ATs (Ajj hi') rfl ?_;rw [AU0,AYq N (0:Int),Ahf];refine ATs (Adq AGh hi') rfl ?_;rw [AUw];refine AGt (Q:=fun e:Int × Int=>0<=e.1/\e.1 < 6/\ ∃ p:Nat,e.2=(p:Int)/\p<=q + 1) (AGt (Anr (L:=L) (q:=q) AGh) fun e he=>?_) fun e he=>ATs (ATv hi') rfl (AGp ⟨AGh,?_⟩)
  ·exact AGp ⟨(Alk _ 6 AGj).1,(Alk _ 6 AGj).2,he⟩
  ·obtain ⟨h1,h2,p,h3,h4⟩:=he;refine ⟨p,fun r=>if r=i then 1 + e.1 else f r,?_,AGh,AGh,fun r hr=>?_⟩
   ·rw [AWk (x:=(i:Int) + 1) AGh AGh,AWk (x:=1 + e.1) AGh AGh,h3,AU0,AU0,AXp,Ae7 AGh];refine congrArg (fun z=>(((i + 1:Nat):Int),(p:Int),z)) (AUd fun r hr=>?_);split
    ·refine AUd fun c hc=>?_;rw [ATy];unfold dgF;dsimp only;split
     ·next h=>subst h;rfl
     ·next h=>rw [ATy,if_neg h]
    ·rfl
   ·dsimp only;split
    ·omega
    ·exact Ad r AGh
 ·obtain rfl:i=N:=by omega
  exact ⟨q,f,by rw [Afr],AGh,Ad⟩
theorem BAc {fuel N q0:Nat} {a1 Ac:Int} {L:List Int} (hN:w64 (1 + (Int.tmod (w64 a1) Ac))=(N:Int)) (Af:N<=8) (Ag:q0<=1000) (hf:100 < fuel):
    Ok (iter (fun s=>AWl fuel a1 L Ac s.1 s.2.1 s.2.2) fuel (0,(q0:Int),(List.replicate (Int.toNat (w64 (1 + (Int.tmod (w64 a1) Ac)))) ([]:List Int)))) fun e=> ∃ (q:Nat) (f:Nat->Int),e=((q:Int),tab N N (dgF f))/\q<=q0 + N/\ ∀ r,r < N->1<=f r/\f r<=9:=by
 refine AUa (fun i s=> ∃ (q:Nat) (f:Nat->Int),s=(((i:Nat):Int),(q:Int),part N i (dgF f))/\i<=N/\q<=q0 + i/\ ∀ r,r < i->1<=f r/\f r<=9) N ⟨q0,fun _=>0,by rw [hN,Int.toNat_natCast,Afs N (dgF fun _=>0)];rfl,AGh,AGh,fun r hr=>by omega⟩ AGh fun i s hi hI=>?_;obtain ⟨q,f,rfl,hiN,hq,Ad⟩:=hI;unfold AWl;dsimp only;rw [List.length_replicate,hN,Int.toNat_natCast];refine ATr (fun h=>AU3 AGh ?_) (fun h=>AGp ?_)
 ·have hi':i < N:=by omega
  refine ATs (Ajj hi') rfl ?_;rw [AU0,AYq N (0:Int),Ahf];refine ATs (Adq AGh hi') rfl ?_;rw [AUw];refine AGt (Q:=fun e:Int × Int=>0<=e.1/\e.1 < 9/\ ∃ p:Nat,e.2=(p:Int)/\p<=q + 1) (AGt (Anr (L:=L) (q:=q) AGh) fun e he=>?_) fun e he=>ATs (ATv hi') rfl (AGp ⟨AGh,?_⟩)
  ·exact AGp ⟨(Alk _ 9 AGj).1,(Alk _ 9 AGj).2,he⟩
  ·obtain ⟨h1,h2,p,h3,h4⟩:=he;refine ⟨p,fun r=>if r=i then 1 + e.1 else f r,?_,AGh,AGh,fun r hr=>?_⟩
   ·rw [AWk (x:=(i:Int) + 1) AGh AGh,AWk (x:=1 + e.1) AGh AGh,h3,AU0,AU0,AXp,Ae7 AGh];refine congrArg (fun z=>(((i + 1:Nat):Int),(p:Int),z)) (AUd fun r hr=>?_);split
    ·refine AUd fun c hc=>?_;rw [ATy];unfold dgF;dsimp only;split
     ·next h=>subst h;rfl
     ·next h=>rw [ATy,if_neg h]
    ·rfl
   ·dsimp only;split
    ·omega
    ·exact Ad r AGh
 ·obtain rfl:i=N:=by omega
  exact ⟨q,f,by rw [Afr],AGh,Ad⟩
theorem BAd {fuel N q0:Nat} {a1 Ac:Int} {L:List Int} (hN:w64 (1 + (Int.tmod (w64 a1) Ac))=(N:Int)) (Af:N<=8) (Ag:q0<=1000) (hf:100 < fuel):
    Ok (iter (fun s=>AWm fuel a1 L Ac s.1 s.2.1 s.2.2) fuel (0,(q0:Int),(List.replicate (Int.toNat (w64 (1 + (Int.tmod (w64 a1) Ac)))) ([]:List Int)))) fun e=> ∃ (q:Nat) (f:Nat->Int),e=((q:Int),tab N N (dgF f))/\q<=q0 + N/\ ∀ r,r < N->1<=f r/\f r<=1:=by
 refine AUa (fun i s=> ∃ (q:Nat) (f:Nat->Int),s=(((i:Nat):Int),(q:Int),part N i (dgF f))/\i<=N/\q<=q0 + i/\ ∀ r,r < i->1<=f r/\f r<=1) N ⟨q0,fun _=>0,by rw [hN,Int.toNat_natCast,Afs N (dgF fun _=>0)];rfl,AGh,AGh,fun r hr=>by omega⟩ AGh fun i s hi hI=>?_;obtain ⟨q,f,rfl,hiN,hq,Ad⟩:=hI;unfold AWm;dsimp only;rw [List.length_replicate,hN,Int.toNat_natCast];refine ATr (fun h=>AU3 AGh ?_) (fun h=>AGp ?_)
 ·have hi':i < N:=by omega
  refine ATs (Ajj hi') rfl ?_;rw [AU0,AYq N (0:Int),Ahf];refine ATs (Adq AGh hi') rfl ?_;rw [AUw];refine AGt (Q:=fun e:Int × Int=>0<=e.1/\e.1 < 1/\ ∃ p:Nat,e.2=(p:Int)/\p<=q + 1) (AGt (Anr (L:=L) (q:=q) AGh) fun e he=>?_) fun e he=>ATs (ATv hi') rfl (AGp ⟨AGh,?_⟩)
  ·exact AGp ⟨(Alk _ 1 AGj).1,(Alk _ 1 AGj).2,he⟩
  ·obtain ⟨h1,h2,p,h3,h4⟩:=he;refine ⟨p,fun r=>if r=i then 1 + e.1 else f r,?_,AGh,AGh,fun r hr=>?_⟩
   ·rw [AWk (x:=(i:Int) + 1) AGh AGh,AWk (x:=1 + e.1) AGh AGh,h3,AU0,AU0,AXp,Ae7 AGh];refine congrArg (fun z=>(((i + 1:Nat):Int),(p:Int),z)) (AUd fun r hr=>?_);split
    ·refine AUd fun c hc=>?_;rw [ATy];unfold dgF;dsimp only;split
     ·next h=>subst h;rfl
     ·next h=>rw [ATy,if_neg h]
    ·rfl
   ·dsimp only;split
    ·omega
    ·exact Ad r AGh
 ·obtain rfl:i=N:=by omega
  exact ⟨q,f,by rw [Afr],AGh,Ad⟩
theorem BAe {fuel N q0:Nat} {a1 Ac:Int} {L:List Int} (hN:w64 (1 + (Int.tmod (w64 a1) Ac))=(N:Int)) (Af:N<=8) (Ag:q0<=1000) (hf:100 < fuel):
    Ok (iter (fun s=>AWn fuel a1 L Ac s.1 s.2.1 s.2.2) fuel (0,(q0:Int),(List.replicate (Int.toNat (w64 (1 + (Int.tmod (w64 a1) Ac)))) ([]:List Int)))) fun e=> ∃ (q:Nat) (f:Nat->Int),e=((q:Int),tab N N (dgF f))/\q<=q0 + N/\ ∀ r,r < N->1<=f r/\f r<=2:=by
 refine AUa (fun i s=> ∃ (q:Nat) (f:Nat->Int),s=(((i:Nat):Int),(q:Int),part N i (dgF f))/\i<=N/\q<=q0 + i/\ ∀ r,r < i->1<=f r/\f r<=2) N ⟨q0,fun _=>0,by rw [hN,Int.toNat_natCast,Afs N (dgF fun _=>0)];rfl,AGh,AGh,fun r hr=>by omega⟩ AGh fun i s hi hI=>?_;obtain ⟨q,f,rfl,hiN,hq,Ad⟩:=hI;unfold AWn;dsimp only;rw [List.length_replicate,hN,Int.toNat_natCast];refine ATr (fun h=>AU3 AGh ?_) (fun h=>AGp ?_)
 ·have hi':i < N:=by omega
  refine ATs (Ajj hi') rfl ?_;rw [AU0,AYq N (0:Int),Ahf];refine ATs (Adq AGh hi') rfl ?_;rw [AUw];refine AGt (Q:=fun e:Int × Int=>0<=e.1/\e.1 < 2/\ ∃ p:Nat,e.2=(p:Int)/\p<=q + 1) (AGt (Anr (L:=L) (q:=q) AGh) fun e he=>?_) fun e he=>ATs (ATv hi') rfl (AGp ⟨AGh,?_⟩)
  ·exact AGp ⟨(Alk _ 2 AGj).1,(Alk _ 2 AGj).2,he⟩
  ·obtain ⟨h1,h2,p,h3,h4⟩:=he;refine ⟨p,fun r=>if r=i then 1 + e.1 else f r,?_,AGh,AGh,fun r hr=>?_⟩
   ·rw [AWk (x:=(i:Int) + 1) AGh AGh,AWk (x:=1 + e.1) AGh AGh,h3,AU0,AU0,AXp,Ae7 AGh];refine congrArg (fun z=>(((i + 1:Nat):Int),(p:Int),z)) (AUd fun r hr=>?_);split
    ·refine AUd fun c hc=>?_;rw [ATy];unfold dgF;dsimp only;split
     ·next h=>subst h;rfl
     ·next h=>rw [ATy,if_neg h]
    ·rfl
   ·dsimp only;split
    ·omega
    ·exact Ad r AGh
 ·obtain rfl:i=N:=by omega
  exact ⟨q,f,by rw [Afr],AGh,Ad⟩
theorem BAf {fuel N q0:Nat} {L:List Int} {F0:AS4} (Ag:N<=8) (Ah:q0<=1000) (Ad:∀ i j,i < N->j < N->(F0 i j).natAbs<=9) (hf:100 < fuel):
    Ok (iter (fun s=>AW0 fuel L (tab N N F0) s.1 s.2.1 s.2.2) fuel (0,(q0:Int),tab N N F0)) fun e=> ∃ (q:Nat) (F:AS4),e=((q:Int),tab N N F)/\q<=q0 + 8 * N/\ ∀ i j,i < N->j < N->(F i j).natAbs<=9:=by
 refine AUa (fun i s=> ∃ (q:Nat) (F:AS4),s=(((i:Nat):Int),(q:Int),tab N N F)/\i<=N/\q<=q0 + 8 * i/\ ∀ i j,i < N->j < N->(F i j).natAbs<=9) N ⟨q0,F0,rfl,AGh,AGh,Ad⟩ AGh fun i s hi hI=>?_;obtain ⟨q,F,rfl,hiN,hq,hF⟩:=hI;unfold AW0;dsimp only;rw [AT5];refine ATr (fun h=>?_) (fun h=>AGp ⟨q,F,rfl,AGh,hF⟩);have hi':i < N:=by omega
 refine AGt (AUa (fun j s=> ∃ (p:Nat) (F:AS4),s=(((j:Nat):Int),(p:Int),tab N N F)/\j<=i/\p<=q + j/\ ∀ i j,i < N->j < N->(F i j).natAbs<=9) i (Q:=fun e=> ∃ (p:Nat) (F:AS4),e=((p:Int),tab N N F)/\p<=q + i/\ ∀ i j,i < N->j < N->(F i j).natAbs<=9) ⟨q,F,rfl,AGh,AGh,hF⟩ AGh fun j s hj hJ=>?_) fun e he=>?_
 ·obtain ⟨p,F,rfl,hji,hp,hF⟩:=hJ;unfold AYz;dsimp only;refine ATr (fun h=>?_) (fun h=>AGp ⟨p,F,rfl,AGh,hF⟩);have hj':j < i:=by omega
  refine ATs (AT7 hi') rfl (AGt (Anr (L:=L) (q:=p) AGh) fun e he=>ATs (ATv AGh) rfl ?_);obtain ⟨p2,h3,h4⟩:=he;rw [AU0,AU0,AXp,show (AVk N fun c=>if c=j then Int.tmod e.1 3 else F i c)=(List.range N).map fun c=>if c=j then Int.tmod e.1 3 else F i c from rfl,Aec];refine ATs (AT7 AGh) rfl (ATs (AT7 hi') rfl (ATs (ATv AGh) rfl (ATs (ATv hi') rfl (AGp ⟨AGh,p2,?_⟩))));generalize Af:(AUu F i fun c=>if c=j then Int.tmod e.1 3 else F i c)=F1
  have hv:(Int.tmod e.1 3).natAbs<=9:=by
    have:=Int.natAbs_tmod e.1 3
    have h5:e.1.natAbs % (3:Int).natAbs < 3:=Nat.mod_lt _ AGj
    omega
  have hF1b:∀ i j,i < N->j < N->(F1 i j).natAbs<=9:=fun a b ha hb=>by
    subst Af
    rw [ATy]
    split
    · split
      · exact hv
      · exact hF i b hi' hb
    · exact hF a b ha hb
  refine ⟨AUu F1 j fun c=>if c=i then F1 i j else F1 j c,?_,AGh,AGh,fun a b ha hb=>?_⟩
  ·rw [wk AGh,h3,AU0,AU0,AXp,show (AVk N fun c=>if c=i then F1 i j else F1 j c)=(List.range N).map fun c=>if c=i then F1 i j else F1 j c from rfl,Aec];rfl
  ·rw [ATy];split
   ·split
    ·exact hF1b i j hi' AGh
    ·exact hF1b j b AGh hb
   ·exact hF1b a b ha hb
 ·obtain ⟨p,F,rfl,hp,hF⟩:=he;exact AGp ⟨AGh,p,F,by rw [wk AGh];rfl,AGh,AGh,hF⟩
theorem A0b {fuel N:Nat} {b:Bool} (Ag:1<=N) (Ah:N<=8) (hf:100 < fuel):Ok (AX0 fuel (N:Int) b) fun e=> ∃ F,e=tab N N F/\ ∀ i j,i < N->j < N->(F i j).natAbs<=2:=by
 unfold AX0;refine AU3 AGh ?_;rw [Int.toNat_natCast];refine AGt (AUa (fun i s=> ∃ G:AS4,s=(((i:Nat):Int),part N i G)/\i<=N/\ ∀ r c,(G r c).natAbs<=2) N (Q:=fun e=> ∃ F,e=tab N N F/\ ∀ i j,i < N->j < N->(F i j).natAbs<=2) ⟨fun _ _=>0,by rw [Afs N fun _ _=>0];rfl,AGh,fun _ _=>Nat.zero_le _⟩ AGh fun i s hi hI=>?_) fun e he=>AGp he;obtain ⟨G,rfl,hiN,hG⟩:=hI;unfold Acl;dsimp only;rw [List.length_replicate,Int.toNat_natCast];refine ATr (fun h=>AU3 AGh ?_) (fun h=>AGp ?_)
 ·have hi':i < N:=by omega
  refine ATs (Ajj hi') rfl ?_;rw [AU0,AYq N (0:Int),Ahf];refine ATs (Adq AGh hi') rfl ?_;rw [AUw];refine ATs (ATv hi') rfl ?_;rw [AU0,AU0,AXp,Ae7 AGh]
  have Ab:∀ r c,(AUu (AUu G i fun x=>0) i (fun c=>if c=i then 2 else 0) r c).natAbs<=2:=fun r c=>by
    rw [ATy]
    split
    · split <;> decide
    · rw [ATy]
      split
      · decide
      · exact hG r c
  generalize (AUu (AUu G i fun x=>0) i fun c=>if c=i then 2 else 0)=G1 at Ab;have wi:w64 ((i:Int) + 1)=((i + 1:Nat):Int):=by rw [wk AGh];omega
  refine AGt (Q:=fun k=>k=(i:Int) - 1∨k=(i:Int) - 2) ?_ fun k hk=>?_
  ·have w1:w64 ((i:Int) - 1)=(i:Int) - 1:=wk AGh;have w2:w64 ((i:Int) - 2)=(i:Int) - 2:=wk AGh;rw [w1,w2];exact ATr (fun _=>ATr (fun _=>ATr (fun _=>AGp (.inr rfl)) fun _=>AGp (.inl rfl)) fun _=>AGp (.inl rfl)) fun _=>AGp (.inl rfl)
  ·refine ATr (fun h=>?_) (fun h=>AGp ⟨AGh,G1,by rw [wi],AGh,Ab⟩);obtain ⟨k,rfl⟩:∃ q:Nat,k=q:=⟨k.toNat,AGh⟩;have hki:k < i:=by omega
   refine ATs (Adq AGh hi') rfl (ATs (Adq AGh AGh) rfl (ATs (ATv AGh) rfl ?_));rw [AU0,AU0,AXp,Ae7 AGh]
   have Ac:∀ r c,(AUu G1 i (fun c=>if c=k then -1 else G1 i c) r c).natAbs<=2:=fun r c=>by
     rw [ATy]
     split
     · split
       · decide
       · exact Ab i c
     · exact Ab r c
   generalize (AUu G1 i fun c=>if c=k then -1 else G1 i c)=G2 at Ac;refine ATs (Adq AGh AGh) rfl (ATs (ATv hi') rfl (AGp ⟨AGh,AUu G2 k fun c=>if c=i then -1 else G2 k c,?_,AGh,fun r c=>?_⟩))
   ·rw [wi,AU0,AU0,AXp,Ae7 AGh]
   ·rw [ATy];split
    ·split
     ·decide
     ·exact Ac k c
    ·exact Ac r c
 ·obtain rfl:i=N:=by omega
  exact ⟨G,Afr _ _,fun a b _ _=>hG a b⟩
theorem A45 {n B:Nat} {F:AS4} (hB:B < 9223372036854775808) (h:∀ i j,i < n->j < n->(F i j).natAbs<=B):∀ z∈tab n n F,∀ x∈z,-9223372036854775808<=x/\x<=9223372036854775807:=fun z hz x hx=>by
  obtain ⟨i,hi⟩:=List.getElem?_of_mem hz
  have hin:i < n:=by have:=(List.getElem?_eq_some_iff.1 hi).1;rwa [AT5] at this
  rw [AT7 hin] at hi
  cases hi
  obtain ⟨j,hj⟩:=List.getElem?_of_mem hx
  have hjn:j < n:=by have:=(List.getElem?_eq_some_iff.1 hj).1;rwa [AUh] at this
  rw [ATv hjn] at hj
  cases hj
  have:=h i j hin hjn
  omega
theorem A70 {n:Nat} {F:AS4} (hn:1<=n) (Aa:n<=16):okM (tab n n F)=true:=by
 have hc:Af0 (tab n n F)=n:=A2m hn;unfold okM;rw [decide_eq_true_iff,AT5,hc];exact ⟨hn,Aa,fun z hz=>by rw [An3 z hz];exact ⟨hn,Aa,rfl⟩⟩
theorem Ayh {fuel n:Nat} {F:AS4} (hn:1<=n) (Aa:n<=16) (h:∀ i j,i < n->j < n->(F i j).natAbs<=9223372036854775807) (hf:17 < fuel):AWr fuel (tab n n F)=some (tab n n F):=by
 rw [BBs (A45 AGj h) hf,if_pos (A70 hn Aa)]
theorem BAg {fuel n:Nat} {F:AS4} (Ab:1<=n) (hn:n<=8) (hb:∀ i j,i < n->j < n->(F i j).natAbs<=1000000) (hf:100 < fuel):Ok (AZy fuel (tab n n F)) fun r=>r=true↔Adp n F/\Ae6 n F/\det n F<=10000:=by
 have Ac:∀ i j,i < n->j < n->(F i j).natAbs<=AYy:=fun i j hi hj=>Nat.le_trans (hb i j hi hj) AGj;unfold AZy;refine AGt (AUc (Ayh Ab AGh (fun i j hi hj=>Nat.le_trans (hb i j hi hj) AGj) AGh)) fun x hx=>?_;subst hx;refine AGt (Arx Ab hn Ac hf) fun v hv=>ATr (fun h=>?_) fun h=>AGp (Iff.intro (fun h2=>nomatch h2) fun h2=>absurd (hv.2 ⟨h2.1,h2.2.1⟩) h);have h1:=hv.1 h;refine AGt (AUc (Aoe hn Ac AGh)) fun d hd=>AGt (Q:=(· =10000)) ⟨10000,if_pos AGh,rfl⟩ fun t ht=>AGt (AUc (a:=Aj5 d t) rfl) fun c hc=>AGp ?_;subst hd;subst ht;subst hc;rw [decide_eq_true_iff,Aur];exact ⟨fun h2=>⟨h1.1,h1.2,h2⟩,fun h2=>h2.2.2⟩
theorem BAh {n:Nat} {f:Nat->Int} (hn:n<=8) (h:∀ r,r < n->1<=f r/\f r<=2):Adp n (dgF f)/\Ae6 n (dgF f)/\det n (dgF f)<=10000:=by
 have hd:∀ k,k<=n->det k (dgF f)=AY9 f k:=fun k hk=>by
   rw [Amy (F:=dgF f) (fun c i hc hci hi=>by unfold dgF;rw [if_neg AGh])]
   exact Aps fun i _=>by unfold dgF;rw [if_pos rfl]
 have hb:∀ k,k<=n->0 < AY9 f k/\AY9 f k<=2 ^ k:=fun k=>by
   induction k with
   | zero=>intro _;simp [AY9]
   | succ k ih=>
     intro hk
     have h1:=ih AGh
     have h2:=h k AGh
     simp only [AY9]
     refine ⟨Int.mul_pos h1.1 AGh,?_⟩
     rw [Int.pow_succ]
     exact Int.mul_le_mul h1.2 h2.2 AGh (Int.le_of_lt (Aoj k))
 refine ⟨fun i j hi hj=>?_,fun k hk=>by rw [hd k hk];exact (hb k hk).1,?_⟩
 ·unfold dgF;split
  ·next h=>subst h;rw [if_pos rfl]
  ·next h=>rw [if_neg (fun h2=>h h2.symm)]
 ·rw [hd n (Nat.le_refl n)];have:=(hb n (Nat.le_refl n)).2;have h2:=Aok hn;omega
structure BB2 (n:Nat) (A:AS4):Prop where
  n1:1<=n
  n8:n<=8
  sym:Adp n A
  pos:Ae6 n A
  bd:∀ i j,i < n->j < n->(A i j).natAbs<=9
  dt:det n A<=10000
theorem A0c {n m:Nat} {f:Nat->Int} (h:∀ r,r < n->1<=f r/\f r<=(m:Int)):∀ i j,i < n->j < n->(dgF f i j).natAbs<=m:=fun i j hi hj=>by
  unfold dgF
  have:=h i hi
  split <;> omega
theorem BAi {fuel:Nat} {a1 a2 most:Int} {L L2:List Int} (h1:0<=a1/\a1 < 256) (hm:1<=most/\most<=8) (hf:100 < fuel):Ok (AWg fuel a1 a2 L L2 most) fun r=> ∃ n A,r=tab n n A/\BB2 n A/\(n:Int)=1 + Int.tmod a1 most:=by
 have t1:=Int.emod_nonneg a1 (show most≠0 by omega);have t2:=Int.emod_lt_of_pos a1 (show 0 < most by omega);have t3:Int.tmod a1 most=a1 % most:=Int.tmod_eq_emod_of_nonneg h1.1
 have hN:w64 (1 + Int.tmod (w64 a1) most)=((1 + a1 % most).toNat:Int):=by
   rw [AWk (x:=a1) AGh AGh,t3,wk AGh];omega
 generalize hNN:(1 + a1 % most).toNat=N at hN;have Ae:1<=N:=by omega
 have Ab:N<=8:=by omega
 unfold AWg;refine AU3 AGh (AGt (Q:=fun e=> ∃ (q:Nat) (F:AS4),e=(tab N N F,(q:Int))/\q<=200/\ ∀ i j,i < N->j < N->(F i j).natAbs<=9) (AGt (Q:=fun _=>True) ?_ fun k _=>ATr (fun _=>?_) fun _=>ATr (fun _=>?_) fun _=>ATr (fun _=>?_) fun _=>ATr (fun _=>?_) fun _=>?_) fun e he=>?_)
 ·exact ATr (fun _=>AGp trivial) fun _=>ATr (fun _=>AGp trivial) fun _=>ATr (fun _=>AGp trivial) fun _=>AGp trivial
 ·refine AGt (Q:=fun e=> ∃ (q:Nat) (F:AS4),e=(tab N N F,(q:Int))/\q<=200/\ ∀ i j,i < N->j < N->(F i j).natAbs<=9) (AGt (Q:=fun e=> ∃ (q:Nat) (f:Nat->Int),e=(tab N N (dgF f),(q:Int))/\q<=8/\ ∀ r,r < N->1<=f r/\f r<=6) (AU3 (by rw [hN];omega) (AGt (BB1 (q0:=0) (L:=L) hN Ab AGh hf) fun e he=>AGp ?_)) fun e he=>?_) fun e he=>AGp he
  ·obtain ⟨q,f,rfl,h2,h3⟩:=he;exact ⟨q,f,rfl,AGh,h3⟩
  ·obtain ⟨q,f,rfl,h2,h3⟩:=he;refine AGt (BAf (L:=L) (q0:=q) Ab AGh (fun i j hi hj=>Nat.le_trans (A0c (m:=6) h3 i j hi hj) AGj) hf) fun e he=>AGp ?_;obtain ⟨q,F,rfl,h4,h5⟩:=he;exact ⟨q,F,rfl,AGh,h5⟩
 ·rw [hN];refine AGt (A0b Ae Ab hf) fun F hF=>?_;obtain ⟨F,rfl,hF⟩:=hF;refine ATs (n:=0) (AT7 AGh) rfl (ATs (n:=0) (ATv AGh) rfl (AGt (Q:=fun e:Int × Int=>0<=e.1/\e.1 < 3/\ ∃ p:Nat,e.2=(p:Int)/\p<=0 + 1) (AGt (Anr (L:=L) (q:=0) AGh) fun e he=>AGp ⟨(Alk _ 3 AGj).1,(Alk _ 3 AGj).2,he⟩) fun e he=>AGp ?_));obtain ⟨c1,c2,p,c3,c4⟩:=he;have c5:=hF 0 0 AGh AGh;refine ⟨p,AUu F 0 fun c=>if c=0 then F 0 0 + e.1 else F 0 c,?_,AGh,fun i j hi hj=>?_⟩
  ·rw [c3,wk AGh];refine congrArg (fun z=>(z,(p:Int))) ?_;show (tab N N F).set 0 ((AVk N (F 0)).set 0 (F 0 0 + e.1))=_;rw [AXp];exact Aec
  ·rw [ATy];split
   ·split
    ·omega
    ·have:=hF 0 j AGh hj;omega
   ·have:=hF i j hi hj;omega
 ·rw [hN];refine AGt (A0b Ae Ab hf) fun F hF=>?_;obtain ⟨F,rfl,hF⟩:=hF;have w1:w64 ((N:Int) - 1)=((N - 1:Nat):Int):=by rw [wk AGh];omega
  rw [w1];refine ATs (AT7 AGh) rfl (ATs (ATv AGh) rfl (AGt (Q:=fun e:Int × Int=>0<=e.1/\e.1 < 2/\ ∃ p:Nat,e.2=(p:Int)/\p<=0 + 1) (AGt (Anr (L:=L) (q:=0) AGh) fun e he=>AGp ⟨(Alk _ 2 AGj).1,(Alk _ 2 AGj).2,he⟩) fun e he=>AGp ?_));obtain ⟨c1,c2,p,c3,c4⟩:=he;have c5:=hF (N - 1) (N - 1) AGh AGh;refine ⟨p,AUu F (N - 1) fun c=>if c=N - 1 then F (N - 1) (N - 1) + e.1 else F (N - 1) c,?_,AGh,fun i j hi hj=>?_⟩
  ·rw [c3,wk AGh,AU0,AU0];refine congrArg (fun z=>(z,(p:Int))) ?_;rw [AXp];exact Aec
  ·rw [ATy];split
   ·split
    ·omega
    ·have:=hF (N - 1) j AGh hj;omega
   ·have:=hF i j hi hj;omega
 ·refine AGt (Q:=fun e=> ∃ (q:Nat) (F:AS4),e=(tab N N F,(q:Int))/\q<=200/\ ∀ i j,i < N->j < N->(F i j).natAbs<=9) (AU3 (by rw [hN];omega) (AGt (BAc (q0:=0) (L:=L) hN Ab AGh hf) fun e he=>AGp ?_)) fun e he=>AGp he;obtain ⟨q,f,rfl,h2,h3⟩:=he;exact ⟨q,dgF f,rfl,AGh,fun i j hi hj=>A0c (m:=9) h3 i j hi hj⟩
 ·refine AGt (Q:=fun e=> ∃ (q:Nat) (F:AS4),e=(tab N N F,(q:Int))/\q<=200/\ ∀ i j,i < N->j < N->(F i j).natAbs<=9) (AU3 (by rw [hN];omega) (AGt (BAd (q0:=0) (L:=L) hN Ab AGh hf) fun e he=>AGp ?_)) fun e he=>AGp he;obtain ⟨q,f,rfl,h2,h3⟩:=he;exact ⟨q,dgF f,rfl,AGh,fun i j hi hj=>Nat.le_trans (A0c (m:=1) h3 i j hi hj) AGj⟩
 ·obtain ⟨q,F,rfl,h2,h3⟩:=he;dsimp only;refine AGt (BAg Ae Ab (fun i j hi hj=>Nat.le_trans (h3 i j hi hj) AGj) hf) fun b hb=>ATr (fun hn=>?_) fun hn=>AGp ?_
  ·refine AGt (Q:=fun e=> ∃ f:Nat->Int,e.1=tab N N (dgF f)/\ ∀ r,r < N->1<=f r/\f r<=2) (AU3 (by rw [hN];omega) (AGt (BAe (q0:=q) (L:=L) hN Ab AGh hf) fun e he=>AGp ?_)) fun e he=>AGp ?_
   ·obtain ⟨q,f,rfl,h4,h5⟩:=he;exact ⟨f,rfl,h5⟩
   ·obtain ⟨f,h4,h5⟩:=he;obtain ⟨d1,d2,d3⟩:=BAh Ab h5;exact ⟨N,dgF f,h4,⟨Ae,Ab,d1,d2,fun i j hi hj=>Nat.le_trans (A0c (m:=2) h5 i j hi hj) AGj,d3⟩,by rw [t3];omega⟩
  ·have hg:Adp N F/\Ae6 N F/\det N F<=10000:=hb.1 (by simpa using hn);exact ⟨N,F,rfl,⟨Ae,Ab,hg.1,hg.2.1,h3,hg.2.2⟩,by rw [t3];omega⟩
theorem BAj {fuel:Nat} {a1 a2 most:Int} {L L2:List Int} (h1:0<=a1/\a1 < 256) (hm:1<=most/\most<=8) (hf:AWv < fuel):Ok (AWh fuel a1 a2 L L2 most) fun r=> ∃ n A,r=tab n n A/\1<=n/\(n:Int)<=most/\Auv n A/\ ∀ k,k < n->A k k<=3 * dm9:=by
  have hf2:100 < fuel:=Nat.lt_of_le_of_lt AGj hf;unfold AWh;refine AGt (BAi h1 hm hf2) fun g hg=>?_;obtain ⟨n,A,rfl,G,hn⟩:=hg;have t2:=Int.emod_lt_of_pos a1 (show 0 < most by omega);have t3:Int.tmod a1 most=a1 % most:=Int.tmod_eq_emod_of_nonneg h1.1
  let A0:AS4:=fun i j=>if i < n/\j < n then A i j else 0
  have hA0:∀ i j,i < n->j < n->A0 i j=A i j:=fun i j hi hj=>if_pos ⟨hi,hj⟩;have e:tab n n A=tab n n A0:=Agi fun i j hi hj=>(hA0 i j hi hj).symm;refine AGt (AUc (Ayh G.n1 (by have:=G.n8;omega) (fun i j hi hj=>Nat.le_trans (G.bd i j hi hj) AGj) AGh)) fun x hx=>?_;subst hx;rw [e];have hp:Ae6 n A0:=fun k hk=>by rw [AUp fun i j hi hj=>hA0 i j AGh AGh];exact G.pos k hk
  have hs:Adp n A0:=fun i j hi hj=>by rw [hA0 i j hi hj,hA0 j i hj hi];exact G.sym i j hi hj
  have hE:∀ i j,(A0 i j).natAbs<=9:=fun i j=>by
    show (if i < n/\j < n then A i j else 0).natAbs<=9
    split
    · next h=>exact G.bd i j h.1 h.2
    · decide
  have hh:=A4q hs hp (B:=9) AGj (fun i hi=>by have:=hE i i;omega)
  refine AGt (A1u G.n1 G.n8 hs hp (fun i j=>Nat.le_trans (hE i j) AGj) (fun k hk=>?_) (fun k hk=>?_) ?_ hf) fun r hr=>AGp ?_
  · have h2:=hh k hk
    have h3:(9:Int) ^ k<=9 ^ 8:=by
      have:=Nat.pow_le_pow_right (show 0 < 9 by omega) (show k<=8 by have:=G.n8;omega);have e2:∀ t:Nat,(9:Int) ^ t=((9 ^ t:Nat):Int):=fun t=>by simp
      rw [e2,e2];omega
    exact Int.le_trans h2 h3
  · have:=hE k k;have:(3 * dm9)=129140163:=by decide
    omega
  · rw [AUp hA0];exact G.dt
  · obtain ⟨A',T,rfl,R,-,-,hd⟩:=hr;exact ⟨n,A',rfl,G.n1,by rw [hn,t3];omega,R,hd⟩
theorem A46 {A:AS4} {k:Nat} (h1:LvF A k) (h2:SzF A (k + 1) k) (hp:0 < det (k + 1) A):det (k + 1) A * det (k + 1) A<=2 * (det k A * det (k + 2) A):=by
 unfold LvF at h1;unfold SzF at h2;have h3:(2 * Mn k A (k + 1) k) * (2 * Mn k A (k + 1) k)<=det (k + 1) A * det (k + 1) A:=Amj AGh h2.2;have h4:(2 * Mn k A (k + 1) k) * (2 * Mn k A (k + 1) k)=4 * (Mn k A (k + 1) k * Mn k A (k + 1) k):=by grind
 omega
theorem Adh {x y:Int} (h0:0<=x) (h:x<=y):∀ k:Nat,x ^ k<=y ^ k
  | 0=>by simp
  | k + 1=>by
    rw [Int.pow_succ,Int.pow_succ]
    exact Int.mul_le_mul (Adh h0 h k) h h0 (Int.le_trans (Int.pow_nonneg h0) (Adh h0 h k))
def tri:Nat->Nat
  | 0=>0
  | k + 1=>tri k + (k + 1)
theorem Ayi {n:Nat} {A:AS4} (hp:Ae6 n A) (hs:Aol A n) (hl:Apu A n):∀ k,k + 1<=n->det k A ^ (k + 1)<=det (k + 1) A ^ k * 2 ^ tri k:=by
  intro k;induction k with
  | zero=>intro _;simp [det,tri]
  | succ k ih=>
    intro hk;have ih:=ih AGh;have p0:=hp k AGh;have p1:=hp (k + 1) AGh;have p2:=hp (k + 2) AGh;have h1:=A46 (hl k AGh) (hs (k + 1) k AGh AGh) p1;generalize det k A=a at *
    generalize det (k + 1) A=b at *
    generalize det (k + 2) A=c at *
    have h2:(b * b) ^ (k + 1)<=(2 * (a * c)) ^ (k + 1):=Adh (Int.le_of_lt (Int.mul_pos p1 p1)) h1 _;rw [Int.mul_pow,Int.mul_pow,Int.mul_pow] at h2;have h3:a ^ (k + 1) * c ^ (k + 1)<=b ^ k * 2 ^ tri k * c ^ (k + 1):=Int.mul_le_mul_of_nonneg_right ih (Int.le_of_lt (Int.pow_pos p2));have h4:2 ^ (k + 1) * (a ^ (k + 1) * c ^ (k + 1))<=2 ^ (k + 1) * (b ^ k * 2 ^ tri k * c ^ (k + 1)):=Int.mul_le_mul_of_nonneg_left h3 (Int.le_of_lt (Aoj _));have h5:=Int.le_trans h2 h4;have e1:b ^ (k + 1) * b ^ (k + 1)=b ^ k * b ^ (k + 1 + 1):=by rw [Int.pow_succ b k,Int.pow_succ b (k + 1),Int.pow_succ b k];grind
    have e2:(2:Int) ^ (k + 1) * (b ^ k * 2 ^ tri k * c ^ (k + 1))=b ^ k * (c ^ (k + 1) * 2 ^ tri (k + 1)):=by
      have:(2:Int) ^ tri (k + 1)=2 ^ tri k * 2 ^ (k + 1):=by rw [<- Int.pow_add];rfl
      rw [this];grind
    rw [e1,e2] at h5;exact Int.le_of_mul_le_mul_left h5 (Int.pow_pos p1)
def dU:Nat->Int
  | 8=>10000
  | 7=>35777
  | 6=>64000
  | 5=>57243
  | 4=>25600
  | _=>10000
theorem BB3 (k:Nat):dU k<=64000:=by unfold dU;split <;> omega
theorem A8y (k:Nat):10000<=dU k:=by unfold dU;split <;> omega
theorem A71:∀ k,k < 8->dU (k + 1) ^ k * 2 ^ tri k < (dU k + 1) ^ (k + 1):=by decide
theorem A1v {n:Nat} {A:AS4} (hn:n<=8) (hp:Ae6 n A) (hs:Aol A n) (hl:Apu A n) (hd:det n A<=10000):∀ m k,k + m=n->det k A<=dU k:=by
 intro m
 induction m with
 | zero=>
     intro k hk;obtain rfl:k=n:=by omega
     exact Int.le_trans hd (A8y _)
 | succ m ih=>
   intro k hk
   have h1:=ih (k + 1) AGh
   have h2:=Ayi hp hs hl k AGh
   have p0:=hp k AGh
   have p1:=hp (k + 1) AGh
   rcases Int.lt_or_le (dU k) (det k A) with h | h
   · exfalso
     have h3:(dU k + 1) ^ (k + 1)<=det k A ^ (k + 1):=Adh (by have:=A8y k;omega) AGh _
     have h4:det (k + 1) A ^ k * 2 ^ tri k<=dU (k + 1) ^ k * 2 ^ tri k:=Int.mul_le_mul_of_nonneg_right (Adh (Int.le_of_lt p1) h1 k) (Int.le_of_lt (Aoj _))
     have h5:=A71 k AGh
     omega
   · exact h
theorem Aon {n:Nat} {A:AS4} (hn:n<=8) (R:Auv n A) {k:Nat} (hk:k<=n):0 < det k A/\det k A<=64000:=
  ⟨R.pos k hk,Int.le_trans (A1v hn R.pos R.sz R.lv R.dt (n - k) k AGh) (BB3 k)⟩
theorem Aqi {n:Nat} {A:AS4} (hn:n<=8) (R:Auv n A) {i j:Nat} (hi:i < n) (hj:j < n): -192000<=A i j/\A i j<=192000:=
  Awz R.sym R.pos (fun k hk=>Awr (Dm:=64000) hn R.sym R.pos hk (fun k hk=>(Aon hn R hk).2) fun l hl=>R.sz k l hl hk) hi hj
structure RB (n:Nat) (A:AS4) (k:Nat):Prop where
  pos:∀ j,k < j->j<=n->0 < det j A
  lt:∀ j,k < j->j < n->det j A < 65536
  sz:∀ l i,k<=l->l < i->i < n->SzF A i l
  lv:∀ l,k<=l->l + 1 < n->LvF A l
  dt:det n A<=10000
theorem BAk {A F:AS4} {m k:Nat} (h0:0 < det k A) (hF:∀ i j,i < m + 1->j < m + 1->F i j=Mn k A (k + i) (k + j)) {i j:Nat} (hi:i < m) (hj:j < m):Ai5 F (det k A) i j=Mn (k + 1) A (k + 1 + i) (k + 1 + j):=by
 unfold Ai5;rw [hF 0 0 AGh AGh,hF (i + 1) (j + 1) AGh AGh,hF (i + 1) 0 AGh AGh,hF 0 (j + 1) AGh AGh,Nat.add_zero,Amz AGh,Int.mul_tdiv_cancel_left _ AGh];rw [show k + (i + 1)=k + 1 + i by omega,show k + (j + 1)=k + 1 + j by omega]
theorem Aw1 {n:Nat} {A:AS4}:∀ (m k:Nat) (F:AS4),k + m=n->1<=m->0 < det k A->(∀ i j,i < m->j < m->F i j=Mn k A (k + i) (k + j))->(Ahw m F (det k A)=true↔RB n A k):=by
 intro m
 induction m with
 | zero=>intro k F _ h;omega
 | succ m ih=>
   intro k F hk _ h0 hF
   have Ad:F 0 0=det (k + 1) A:=by rw [hF 0 0 AGh AGh];exact Aca k A
   cases m with
   | zero=>
     obtain rfl:k + 1=n:=hk
     show decide (0 < F 0 0/\F 0 0<=10000)=true↔_
     rw [decide_eq_true_iff,Ad]
     exact ⟨fun h=>⟨fun j h1 h2=>by
       obtain rfl:j=k + 1:=by omega
       exact h.1,fun j h1 h2=>by omega,fun l i h1 h2 h3=>by omega,fun l h1 h2=>by omega,h.2⟩,fun h=>⟨h.pos (k + 1) AGh (Nat.le_refl _),h.dt⟩⟩
   | succ m=>
     have hN:∀ i j,i < m + 1->j < m + 1->Ai5 F (det k A) i j=Mn (k + 1) A (k + 1 + i) (k + 1 + j):=fun i j hi hj=>BAk h0 hF hi hj
     have hS:Ahv (m + 1 + 1) F↔(0 < det (k + 1) A/\det (k + 1) A < 65536)/\ ∀ i,k < i->i < n->SzF A i k:=by
       unfold Ahv
       rw [Ad]
       refine and_congr_right fun _=>⟨fun h i h1 h2=>?_,fun h i h1 h2=>?_⟩
       · have h3:=h (i - k) AGh AGh
         rw [hF (i - k) 0 AGh AGh,show k + (i - k)=i by omega] at h3
         unfold SzF
         simp only [Nat.add_zero] at h3
         omega
       · have h3:=h (k + i) AGh AGh
         unfold SzF at h3
         rw [hF i 0 h2 AGh,Nat.add_zero]
         omega
     have hL:Am7 F (det k A)↔LvF A k:=by
       unfold Am7 LvF
       rw [Ad,hN 0 0 AGh AGh,Nat.add_zero,Aca (k + 1) A,hF 1 0 AGh AGh,Nat.add_zero]
       have e:3 * det (k + 1) A * det (k + 1) A=3 * (det (k + 1) A * det (k + 1) A):=by grind
       rw [e]
       exact Iff.rfl
     show (decide (Ahv (m + 1 + 1) F) && (decide (Am7 F (det k A)) && Ahw (m + 1) (Ai5 F (det k A)) (F 0 0)))=true↔_
     rw [Bool.and_eq_true,Bool.and_eq_true,decide_eq_true_iff,decide_eq_true_iff,hS,hL,Ad]
     constructor
     · rintro ⟨⟨⟨h1,h2⟩,h3⟩,h4,h5⟩
       have R:=(ih (k + 1) _ AGh AGh h1 hN).1 h5
       refine ⟨fun j a b=>?_,fun j a b=>?_,fun l i a b c=>?_,fun l a b=>?_,R.dt⟩
       · by_cases e:j=k + 1
         · subst e;exact h1
         · exact R.pos j AGh b
       · by_cases e:j=k + 1
         · subst e;exact h2
         · exact R.lt j AGh b
       · by_cases e:l=k
         · subst e;exact h3 i b c
         · exact R.sz l i AGh b c
       · by_cases e:l=k
         · subst e;exact h4
         · exact R.lv l AGh b
     · intro R
       have h1:=R.pos (k + 1) AGh AGh
       exact ⟨⟨⟨h1,R.lt (k + 1) AGh AGh⟩,fun i a b=>R.sz k i (Nat.le_refl k) a b⟩,R.lv k (Nat.le_refl k) AGh,(ih (k + 1) _ AGh AGh h1 hN).2 ⟨fun j a b=>R.pos j AGh b,fun j a b=>R.lt j AGh b,fun l i a b c=>R.sz l i AGh b c,fun l a b=>R.lv l AGh b,R.dt⟩⟩
def Ar0 (M:List (List Int)):Prop:=(1<=M.length/\M.length<=8)/\(∀ z∈M,z.length=M.length)/\Auv M.length (ent M)
theorem Ati (M:List (List Int)):isRed M=true↔Ar0 M:=by
 unfold isRed;rw [Bool.and_eq_true];constructor
 ·rintro ⟨h1,h2⟩;have S:=Arp h1;have R:=(Aw1 (A:=ent M) (n:=M.length) M.length 0 (ent M) AGh S.1.1 (by simp [det]) fun i j _ _=>by rw [Agf,Nat.zero_add,Nat.zero_add]).1 (by simpa [det] using h2);refine ⟨S.1,S.2.1,fun i j hi hj=>(S.2.2 i j hi hj).1,fun k hk=>?_,fun r l h3 h4=>R.sz l r (Nat.zero_le _) h3 h4,fun l hl=>R.lv l (Nat.zero_le _) hl,R.dt⟩;rcases Nat.eq_zero_or_pos k with h | h
  ·subst h;simp [det]
  ·exact R.pos k h hk
 ·rintro ⟨h1,h2,R⟩;refine ⟨(AY0 ⟨h1,h2,fun i j hi hj=>⟨R.sym i j hi hj,?_,?_⟩⟩).symm,?_⟩
  ·have:=Aqi h1.2 R hi hj;omega
  ·have:=Aqi h1.2 R hi hj;omega
  ·have h3:=(Aw1 (A:=ent M) (n:=M.length) M.length 0 (ent M) AGh h1.1 (by simp [det]) fun i j _ _=>by rw [Agf,Nat.zero_add,Nat.zero_add]).2 ⟨fun j _ hj=>R.pos j hj,fun j _ hj=>by have:=Aon h1.2 R (k:=j) AGh;omega,fun l i _ a b=>R.sz i l a b,fun l _ hl=>R.lv l hl,R.dt⟩;simpa [det] using h3
end Go.Proofs.YthbndcbclhkepaaGreatDoor
namespace Go.Proofs.YthbndcbclhkepaaGreatDoor
open Go Go.QF
open Go.ChangeShapes Go.WideShapes Go.ChangeAt Go.RowKit
set_option maxRecDepth 100000
theorem A1w:Tryz.prog.cellsOf 24=4:=by kernel_rfl
theorem A47 {H:Type} {enc:TypeId × Value->H} {W:World} {r:Reach} {b0:Nat} {v:Value} {d:DataW H} {p:List MemPlace} (hv:Value.okWide Tryz.prog W r b0 24 v) (h:DataW.Trod enc Tryz.prog W 0 (fun _=>true) true 24 v d p):
    ∃ (g k:Int) (lv bv:Value) (Z Y:List Int),v= .agg #[.int .u8 g,.int .u8 k,lv,bv]/\SlC (cI .i8) W.heap lv Z/\SlC (cI .i8) W.heap bv Y/\(0<=g/\g < 256)/\(0<=k/\k < 256)/\(∀ z∈Z,-128<=z/\z<=127)/\ ∀ z∈Y,-128<=z/\z<=127:=by
  obtain ⟨cs,rfl,hsz⟩:=okWide_struct Tryz.underlying24 hv;rw [A1w] at hsz;obtain ⟨l⟩:=cs
  match l,hsz with
  | [c0,c1,c2,c3],_=>
    obtain ⟨fuel,hf⟩:=h;obtain ⟨y0,y1,y2,y3,n,_,_,h0,h1,h2,h3⟩:=Joins.trod_struct4 Tryz.underlying24 hf;simp [Value.cells,A2v,A2w] at h0 h1 h2 h3;obtain ⟨x0,e0,_,w0⟩:=DataW.trod_int Tryz.underlying5 h0;obtain ⟨x1,e1,_,w1⟩:=DataW.trod_int Tryz.underlying5 h1;simp at e0 e1;subst e0;subst e1;have b0:=wf_u8 w0;have b1:=wf_u8 w1;obtain ⟨Z,HZ,hZ⟩:=A2x h2;obtain ⟨Y,HY,hY⟩:=A2x h3;exact ⟨x0,x1,c2,c3,Z,Y,rfl,A4l HZ,A4l HY,AGh,AGh,hZ,hY⟩
end Go.Proofs.YthbndcbclhkepaaGreatDoor
namespace Go.Proofs.YthbndcbclhkepaaGreatDoor
open Go Go.QF
set_option maxRecDepth 100000
theorem A0d {n k:Nat} {A:AS4} (hn:n<=8) (R:Auv n A) (hk:k<=n) {i j:Nat} (hi:i < n) (hj:j < n):(Mn k A i j).natAbs<=12288000000:=by
 have h1:=Apf R.sym R.pos hk hi hj
 have b:∀ i,i < n->Mn k A i i<=12288000000:=fun i hi=>by
   have h2:=A4p R.sym R.pos hi k hk
   have h3:=Aon hn R hk
   have h4:=Aqi hn R hi hi
   have h5:det k A * A i i<=det k A * 192000:=Int.mul_le_mul_of_nonneg_left h4.2 AGh
   omega
 have p:=fun i (hi:i < n)=>Apg R.sym R.pos hk hi;have h2:=Int.mul_le_mul (b i hi) (b j hj) (p j hj) AGh;have:=Awp (x:=Mn k A i j) (y:=12288000000) AGh (Int.le_trans h1 h2);omega
theorem BAl {fuel n:Nat} {A:AS4} (Ag:1<=n) (hn:n<=8) (R:Auv n A) (hf:100 < fuel):AZb fuel (tab n n A)=some (det n A):=by
 apply ok_eq;unfold AZb;rw [AT5];refine AU3 AGh ?_;rw [Int.toNat_natCast];refine AGt (AUa (fun i s=>s=(((i:Nat):Int),part n i A)/\i<=n) n (Q:=(· =tab n n A)) ⟨by rw [Afs n A];rfl,Nat.zero_le _⟩ AGh fun i s hi hI=>?_) fun e he=>?_
 ·obtain ⟨rfl,hin⟩:=hI;unfold Acv;dsimp only;rw [AT5];refine ATr (fun h=>ATs (AT7 AGh) rfl (AU3 AGh (ATs (Ajj AGh) rfl ?_))) (fun h=>AGp ?_)
  ·have hi':i < n:=by omega
   rw [Int.toNat_natCast,AU0,AYq n (0:Int),Ahf];refine ATs (Adq AGh hi') rfl (AU3 (by rw [AUh,AUh];exact ⟨rfl,Ag⟩) (AGp ⟨hi',?_,AGh⟩));rw [wk AGh,AU0,Ae7 AGh,Amw,Ag0];refine congrArg (fun z=>(z,part n (i + 1) A)) ?_;omega
  ·obtain rfl:i=n:=by omega
   exact Afr _ _
 subst he;refine AGt (Q:=(· =1)) ⟨1,if_pos AGh,rfl⟩ fun one h1=>?_;subst h1;refine AGt (AUa (fun k s=> ∃ G,s=(false,((k:Int),tab n n G,det k A))/\k<=n/\ ∀ r c,k<=r->r < n->k<=c->c < n->G r c=Mn k A r c) n (Q:=fun ex=>match ex with | .inl e=>False | .inr (neg,last)=>neg=false/\last=det n A) ⟨A,rfl,Nat.zero_le _,fun r c _ _ _ _=>(Agf A r c).symm⟩ AGh fun k s hk hI=>?_) fun ex hex=>?_
 ·obtain ⟨G,rfl,hkn,hG⟩:=hI;unfold Acu;dsimp only;rw [AT5];refine ATr (fun h=>?_) (fun h=>AGp ⟨rfl,?_⟩)
  ·have hk':k < n:=by omega
   have hGk:G k k=det (k + 1) A:=by rw [hG k k AGh hk' AGh hk',Aca]
   have hpos:0 < det (k + 1) A:=R.pos (k + 1) AGh;have hlast:=Aon hn R (k:=k) AGh;refine AGt (Q:=(· =(k:Int))) (AGt (AUa (fun _ s=>s=(k:Int)) 0 (Q:=(· =(k:Int))) rfl AGh fun i s hi hI=>?_) fun e he=>AGp he) fun e he=>?_
   ·subst hI;unfold Acq;rw [AT5];refine AGt (Q:=fun ex=>match ex with | .inl _=>False | .inr _=>True) (ATr (fun h2=>ATs (AT7 hk') rfl (ATs (ATv hk') rfl (AGt (AUc (a:=AX5 (G k k)) rfl) fun sg hsg=>ATr (fun h3=>?_) fun h3=>AGp trivial))) fun h2=>absurd h h2) fun ex hex=>?_
    ·exfalso;rw [hsg] at h3;have:=(Ah6 _).1 h3;omega
    ·cases ex with
     | inl u=>exact hex.elim
     | inr u=>exact AGp rfl
   ·subst he;refine ATr (fun h2=>by omega) fun _=>AGt (Q:=(· =(false,tab n n G))) (ATr (fun h2=>absurd rfl h2) fun _=>AGp rfl) fun r hr=>?_;subst hr;dsimp only;refine ATs (AT7 hk') rfl (ATs (ATv hk') rfl ?_);rw [wk AGh]
    have hq:∀ r c,k < r->r < n->k < c->c < n->bQ k G (det k A) r c=Mn (k + 1) A r c:=fun r c h1 h2 h3 h4=>by
      unfold bQ
      rw [hGk,hG r c AGh h2 AGh h4,hG r k AGh h2 AGh hk',hG k c AGh hk' AGh h4,<- Aca k A,Amz AGh,Int.mul_ediv_cancel_left _ AGh]
    have habs:∀ r c,k<=r->r < n->k<=c->c < n->(G r c).natAbs<=12288000000:=fun r c h1 h2 h3 h4=>by rw [hG r c h1 h2 h3 h4];exact A0d hn R AGh h2 h4
    refine AGt (AUa (fun i s=>s=(((k + 1 + i:Nat):Int),tab n n (bF k G (det k A) (k + 1 + i) (k + 1)))/\k + 1 + i<=n) (n - (k + 1)) (Q:=(· =tab n n (bF k G (det k A) n (k + 1)))) ⟨by rw [Nat.add_zero,Awe];simp,AGh⟩ AGh fun i s hi hI=>?_) fun a3 Ah=>?_
    ·obtain ⟨rfl,hin⟩:=hI;unfold Acs;dsimp only;rw [AT5];obtain ⟨q,hqe⟩:∃ q,k + 1 + i=q:=⟨_,rfl⟩;rw [hqe] at hin ⊢;refine ATr (fun h3=>?_) (fun h3=>AGp ?_)
     ·have hqn:q < n:=by omega
      rw [wk AGh];refine AGt (AUa (fun j s=>s=(((k + 1 + j:Nat):Int),tab n n (bF k G (det k A) q (k + 1 + j)))/\k + 1 + j<=n) (n - (k + 1)) (Q:=(· =tab n n (bF k G (det k A) q n))) ⟨ATw,AGh⟩ AGh fun j s hj hJ=>?_) fun a4 Ai=>AGp ?_
      ·obtain ⟨rfl,hjn⟩:=hJ;unfold Acr;dsimp only;rw [AT5];obtain ⟨c,hc⟩:∃ c,k + 1 + j=c:=⟨_,rfl⟩;rw [hc] at hjn ⊢;refine ATr (fun h4=>?_) (fun h4=>AGp ?_)
       ·have hcn:c < n:=by omega
        have a1:=habs k k AGh hk' AGh hk';have a2:=habs q c AGh hqn AGh hcn;have a3:=habs q k AGh hqn AGh hk';have a4:=habs k c AGh hk' AGh hcn;have m1:=Nat.mul_le_mul a1 a2;have m2:=Nat.mul_le_mul a3 a4;have hB:12288000000 * 12288000000 < AWv:=by decide
        refine ATs (AT7 hqn) rfl (ATs (ATv hcn) rfl ?_);rw [A8r];refine AGt (AUc (a:=G k k * G q c) (if_pos AGh)) fun x1 Am=>ATs (ATv hk') rfl (ATs (AT7 hk') rfl (ATs (ATv hcn) rfl ?_));subst Am;rw [A8q,Azq];refine AGt (AUc (a:=G q k * G k c) (if_pos AGh)) fun x2 Ao=>?_;subst Ao;refine AGt (AUc (a:=G k k * G q c - G q k * G k c) (if_pos ⟨by rw [Int.natAbs_mul];omega,by rw [Int.natAbs_mul];omega⟩)) fun x3 Ap=>?_;subst Ap
        have hnum:G k k * G q c - G q k * G k c=det k A * Mn (k + 1) A q c:=by
          rw [hGk,hG q c AGh hqn AGh hcn,hG q k AGh hqn AGh hk',hG k c AGh hk' AGh hcn,<- Aca k A,Amz AGh]
        have m3:(det k A * Mn (k + 1) A q c).natAbs<=64000 * 12288000000:=by
          rw [Int.natAbs_mul]
          exact Nat.mul_le_mul AGh (A0d hn R AGh hqn hcn)
        refine AGt (Q:=fun x=>x.1=bQ k G (det k A) q c) ⟨_,if_pos ⟨by rw [hnum];omega,AGh,AGh⟩,rfl⟩ fun x4 Aq=>AGp ⟨AGh,?_,AGh⟩;rw [Aq,wk AGh,Arl,A4d k G (det k A) AGh AGh];congr 1
        ·omega
        ·rw [<- Nat.add_assoc,hc]
       ·obtain rfl:c=n:=by omega
        rfl
      ·subst Ai;refine ⟨AGh,?_,AGh⟩;rw [wk AGh];congr 1
       ·omega
       ·refine Afk fun r c hr hc=>?_;rw [A4c k n G (det k A) q hc,<- Nat.add_assoc,hqe]
     ·obtain rfl:q=n:=by omega
      rfl
    ·subst Ah;refine AGp ⟨hk',bF k G (det k A) n (k + 1),?_,AGh,fun r c h1 h2 h3 h4=>?_⟩
     ·rw [hGk];rfl
     ·have:bF k G (det k A) n (k + 1) r c=bQ k G (det k A) r c:=by unfold bF;rw [if_pos AGh]
      rw [this];exact hq r c AGh h2 AGh h4
  ·obtain rfl:k=n:=by omega
   rfl
 ·match ex,hex with
  | .inl e,hex=>exact hex.elim
  | .inr (neg,last),hex=>
    obtain ⟨rfl,rfl⟩:=hex
    dsimp only
    exact ATr (fun h=>nomatch h) fun _=>AGp rfl
theorem Aw2 {fuel n:Nat} {F:AS4} (hn:1<=n) (Ab:n<=16) (hf:100 < fuel):AZa fuel (tab n n F)=some ((n:Int),(n:Int),true)/\AYe fuel (tab n n F)=some ((n:Int),(n:Int),true):=by
 constructor <;>
 ·apply ok_eq;first | unfold AZa | unfold AYe
  rw [AT5];refine AGt (Q:=fun ex=>match ex with | .inl _=>False | .inr _=>True) (ATr (fun h=>by omega) fun h=>ATr (fun h2=>by omega) fun h2=>AGp trivial) fun ex hex=>?_
  cases ex with
  | inl e=>exact hex.elim
  | inr u=>
    dsimp only
    refine ATs (n:=0) (AT7 AGh) rfl ?_
    rw [AUh]
    refine AGt (Q:=fun ex=>match ex with | .inl _=>False | .inr _=>True) (ATr (fun h=>by omega) fun h=>ATr (fun h2=>by omega) fun h2=>AGp trivial) fun ex hex=>?_
    cases ex with
    | inl e=>exact hex.elim
    | inr u=>
      dsimp only
      refine AGt (AUa (fun i (s:Int)=>s=i) n (Q:=fun ex=>match ex with | .inl _=>False | .inr _=>True) rfl AGh fun i s hi hI=>?_) fun ex hex=>?_
      · subst hI
        first | unfold Acp | unfold Abn
        rw [AT5]
        refine ATr (fun h=>ATs (AT7 AGh) rfl ?_) fun h=>AGp trivial
        rw [AUh,AUh]
        exact ATr (fun h2=>absurd rfl h2) fun _=>AGp ⟨AGh,wk AGh⟩
      · cases ex with
        | inl e=>exact hex.elim
        | inr u=>exact AGp rfl
theorem A72 {fuel n:Nat} {F:AS4} (hn:1<=n) (Ac:n<=16) (hb:∀ i j,i < n->j < n->(F i j).natAbs<=9223372036854775807) (hf:100 < fuel):Abv fuel (tab n n F)=some (tab n n F,true):=by
 apply ok_eq;unfold Abv;refine AGt (AUc (Aw2 hn Ac hf).1) fun x hx=>?_;subst hx;dsimp only;refine ATr (fun h=>nomatch h) fun _=>AGt (Q:=(· =tab n n F)) (AU3 AGh ?_) fun e he=>AGp (by rw [he]);rw [Int.toNat_natCast];refine AGt (AUa (fun i s=>s=(((i:Nat):Int),part n i F)/\i<=n) n (Q:=(· =tab n n F)) ⟨by rw [Afs n F];rfl,Nat.zero_le _⟩ AGh fun i s hi hI=>?_) fun e he=>AGp he;obtain ⟨rfl,hin⟩:=hI;unfold Aei;dsimp only;rw [List.length_replicate,Int.toNat_natCast];refine ATr (fun h=>AU3 AGh (ATs (Ajj AGh) rfl ?_)) (fun h=>AGp ?_)
 ·have hi':i < n:=by omega
  rw [AU0,AYq n (0:Int),Ahf];refine ATs (Adq AGh hi') rfl ?_;rw [AUw];refine AGt (AUa (fun j s=>s=(((j:Nat):Int),part n (i + 1) (AUu F i fun c=>if c < j then F i c else 0))/\j<=n) n (Q:=(· =part n (i + 1) F)) ⟨?_,Nat.zero_le _⟩ AGh fun j s hj hJ=>?_) fun e he=>AGp ⟨hi',?_,AGh⟩
  ·refine congrArg (fun z=>((0:Int),z)) ?_;unfold part;refine AUd fun r hr=>?_;split
   ·exact AUd fun c hc=>by rw [ATy,ATy];split <;> simp
   ·rfl
  ·obtain ⟨rfl,hjn⟩:=hJ;unfold Aeh;dsimp only;rw [AUh];refine ATr (fun h=>?_) (fun h=>AGp ?_)
   ·have hj':j < n:=by omega
    refine ATs (Adq AGh hi') rfl ?_;rw [AUw];have:=hb i j hi' hj';refine AGt (Q:=(· =F i j)) (ATs (AT7 hi') rfl (ATs (ATv hj') rfl (AGt (Q:=(· =F i j)) ⟨_,if_pos AGh,rfl⟩ fun x hx=>AGp hx))) fun x hx=>?_;subst hx;refine ATs (ATv hj') rfl (AGp ⟨AGh,?_,AGh⟩);rw [wk AGh,AU0,AU0,AXp,Ae7 AGh,Amw];refine congrArg (fun z=>(((j + 1:Nat):Int),z)) ?_;congr 1;unfold AUu;funext r;split
    ·funext c;by_cases h1:c=j
     ·subst h1;rw [if_pos rfl,if_pos AGh]
     ·rw [if_neg h1];by_cases h2:c < j
      ·rw [if_pos h2,if_pos AGh]
      ·rw [if_neg h2,if_neg AGh]
    ·rfl
   ·obtain rfl:j=n:=by omega
    unfold part;refine AUd fun r hr=>?_;split
    ·refine AUd fun c hc=>?_;rw [ATy];split
     ·next h=>subst h;first | rfl | rw [if_pos hc]
     ·rfl
    ·rfl
  ·rw [he,wk AGh];rfl
 ·obtain rfl:i=n:=by omega
  exact Afr _ _
def Auw (d p e:Int):Prop:= ∃ (k:Nat) (r:Int),e=k/\d=r * p ^ k/\¬ p ∣ r
theorem A0e {d p a b:Int} (hp:2<=p) (ha:Auw d p a) (hb:Auw d p b):a=b:=by
 have key:∀ (k l:Nat) (r s:Int),k < l->r * p ^ k=s * p ^ l->p ∣ r:=fun k l r s hkl h=>by
   obtain ⟨m,rfl⟩:∃ m,l=k + 1 + m:=⟨l - k - 1,AGh⟩
   rw [Int.pow_add,Int.pow_add,Int.pow_one] at h
   have h1:p ^ k * r=p ^ k * (p * (s * p ^ m)):=by grind
   exact ⟨_,Int.eq_of_mul_eq_mul_left (Int.pow_ne_zero AGh) h1⟩
 obtain ⟨k,r,rfl,h1,h2⟩:=ha;obtain ⟨l,s,rfl,h3,h4⟩:=hb;rcases Nat.lt_trichotomy k l with h | h | h
 ·exact absurd (key k l r s h (by rw [<- h1,<- h3])) h2
 ·rw [h]
 ·exact absurd (key l k s r h (by rw [<- h1,<- h3])) h4
theorem Am3 {p r d:Int} {k:Nat} (hp:2<=p) (hr:0 < r) (hd:d<=10000) (h:d=r * p ^ k):k<=13:=by
 rcases Nat.lt_or_ge 13 k with h1 | h1
 ·exfalso;have h2:(2:Int) ^ 14<=2 ^ k:=Aok h1;have h3:(2:Int) ^ k<=p ^ k:=Adh AGh hp k;have h4:1 * p ^ k<=r * p ^ k:=Int.mul_le_mul_of_nonneg_right AGh AGh;have h5:(2:Int) ^ 14=16384:=by decide
  omega
 ·exact h1
theorem BAm {fuel:Nat} {d p:Int} (Ac:1<=d) (hd:d<=10000) (hp:2<=p) (Ad:p<=9973) (hf:100 < fuel):Ok (Ab3 fuel d p) (Auw d p):=by
 unfold Ab3;refine AGt (AUa (fun i s=> ∃ r:Int,s=(r,(i:Int))/\0 < r/\d=r * p ^ i) 14 (Q:=Auw d p) ⟨d,rfl,AGh,ATw⟩ AGh fun i s hi hI=>?_) fun e he=>AGp he;obtain ⟨r,rfl,hr,hdr⟩:=hI;have Ae:=Am3 hp hr hd hdr
 have hrd:r<=d:=by
   have h1:r * 1<=r * p ^ i:=Int.mul_le_mul_of_nonneg_left (Int.pow_pos AGh) AGh
   omega
 unfold Ad6;dsimp only;refine AGt (Q:=fun ex=>match ex with | .inl _=>p ∣ r | .inr _=> ¬ p ∣ r) (ATr (fun h=>AU3 AGh (ATr (fun h2=>AGp ?_) fun h2=>AGp ?_)) fun h=>by omega) fun ex hex=>?_
 ·exact Int.dvd_of_tmod_eq_zero h2
 ·exact fun h3=>h2 (Int.tmod_eq_zero_of_dvd h3)
 ·cases ex with
  | inl u=>
    obtain ⟨q,rfl⟩:p ∣ r:=hex
    have hq:0 < q:=Int.pos_of_mul_pos_right hr AGh
    have hqr:1 * q<=p * q:=Int.mul_le_mul_of_nonneg_right AGh AGh
    refine AU3 AGh (AGp ⟨AGh,q,?_,hq,by rw [hdr,Int.pow_succ];grind⟩)
    rw [Int.mul_tdiv_cancel_left _ AGh,AWk (x:=q) AGh AGh,wk AGh]
    rfl
  | inr u=>exact AGp ⟨i,r,rfl,hdr,hex⟩
def pwL (p:Int) (m:Nat):List Int:=AVk m fun i=>p ^ (2 ^ i)
theorem A48 {fuel:Nat} {a b:Int} (ha:a.natAbs < 18446744073709551616) (hb:b.natAbs < 18446744073709551616) (h0:b≠0):Ame fuel a b=some (a / b,a % b,true):=if_pos ⟨ha,hb,h0⟩
theorem BAn {fuel:Nat} {d p:Int} (Am:1<=d) (hd:d<=10000) (hp:Pr p) (Ag:p<=9973) (hf:100 < fuel):Ok (Abw fuel d p) fun r=>Auw d p r.1:=by
 have Ae:2<=p:=hp.1;have pw:∀ k:Nat,0 < p ^ k:=fun k=>Int.pow_pos AGh;unfold Abw;refine AGt (AUc (a:=Afe p) rfl) fun b hb=>?_;rw [<- Aqr AGh hp] at hb;subst hb;refine ATr (fun h=>nomatch h) fun _=>AGt (AUc (a:=AX5 d) rfl) fun s hs=>?_;subst hs;refine ATr (fun h=>absurd ((Ah6 d).1 h) AGh) fun _=>AGt (AUc (a:=d) rfl) fun x hx=>AGt (Q:=(· =p)) ⟨p,if_pos AGh,rfl⟩ fun y hy=>?_;subst hx;subst hy;refine AGt (AUa (fun j s=> ∃ r:Int,s=(pwL y (j + 1),r,((2 ^ j - 1:Nat):Int))/\0 < r/\x=r * y ^ (2 ^ j - 1)) 5 (Q:=fun e=> ∃ (j:Nat) (r:Int),e=(pwL y (j + 1),r,((2 ^ j - 1:Nat):Int))/\0 < r/\x=r * y ^ (2 ^ j - 1)/\¬ y ^ (2 ^ j) ∣ r/\j<=4) ⟨x,?_,AGh,ATw⟩ AGh fun j s hj hI=>?_) fun e he=>?_
 ·refine congrArg (fun l=>(l,x,(0:Int))) ?_;show [y]=[y ^ 1];rw [Int.pow_one]
 ·obtain ⟨r,rfl,hr,hxr⟩:=hI;have Ao:=Am3 Ae hr hd hxr
  have Af:j<=3:=by
    rcases Nat.lt_or_ge 3 j with h | h
    · exfalso
      have:=Nat.pow_le_pow_right (show 0 < 2 by omega) h
      omega
    · exact h
  have hrx:r<=x:=by
    have h1:r * 1<=r * y ^ (2 ^ j - 1):=Int.mul_le_mul_of_nonneg_left (pw _) AGh
    omega
  have hjp:1<=2 ^ j:=Nat.one_le_two_pow
  have Ap:2 ^ j<=8:=by
    have:=Nat.pow_le_pow_right (show 0 < 2 by omega) Af
    omega
  have hyb:y ^ (2 ^ j)<=10000 * 9973:=by
    have e1:y ^ (2 ^ j)=y ^ (2 ^ j - 1) * y:=by rw [<- Int.pow_succ];congr 1;omega
    have h2:1 * y ^ (2 ^ j - 1)<=r * y ^ (2 ^ j - 1):=Int.mul_le_mul_of_nonneg_right AGh (Int.le_of_lt (pw _))
    rw [e1]
    exact Int.mul_le_mul AGh Ag AGh AGh
  have Ad:=pw (2 ^ j);unfold Aek;dsimp only;have hl:(pwL y (j + 1)).length=j + 1:=AUh _ _;rw [hl,AWk (x:=((j + 1:Nat):Int) - 1) AGh AGh];refine ATs (n:=j) (ATv AGh) AGh (AU3 AGh ?_);rw [show (((j + 1:Nat):Int) - 1).toNat=j by omega,show (1:Int) * 2 ^ j=((2 ^ j:Nat):Int) by simp,AWk (x:=((2 ^ j:Nat):Int)) AGh AGh];refine AGt (Q:=fun e:Bool × Int × Int=>if y ^ (2 ^ j) ∣ r then e=(true,r / y ^ (2 ^ j),((2 ^ (j + 1) - 1:Nat):Int)) else e=(false,r,((2 ^ j - 1:Nat):Int))) (AGt (AUc (A48 (fuel:=fuel) (a:=r) (b:=y ^ (2 ^ j)) AGh AGh AGh)) fun q hq=>AGt (AUc (a:=AX5 q.2.1) rfl) fun s hs=>?_) fun e he=>?_
  ·subst hq;subst hs;dsimp only;refine ATr (fun h=>AGp ?_) fun h=>AGp ?_
   ·have hnd: ¬ y ^ (2 ^ j) ∣ r:=fun h2=>h ((Ah6 _).2 (Int.emod_eq_zero_of_dvd h2));rw [if_neg hnd]
   ·have hdv:y ^ (2 ^ j) ∣ r:=Int.dvd_of_emod_eq_zero ((Ah6 _).1 (Classical.not_not.1 h));rw [if_pos hdv,wk AGh,Nat.pow_succ];refine congrArg (fun z=>(true,r / y ^ (2 ^ j),z)) ?_;omega
  ·by_cases hdv:y ^ (2 ^ j) ∣ r
   ·rw [if_pos hdv] at he;subst he;dsimp only;refine ATr (fun _=>?_) fun h=>absurd rfl h;obtain ⟨q,rfl⟩:=hdv;have Ah:0 < q:=Int.pos_of_mul_pos_right hr Ad;have hqm:y ^ (2 ^ j) * 1<=y ^ (2 ^ j) * q:=Int.mul_le_mul_of_nonneg_left AGh AGh;have hB:10000 * 10000 < AWv:=by decide
    have m1:(y ^ (2 ^ j)).natAbs * (y ^ (2 ^ j)).natAbs<=10000 * 10000:=Nat.mul_le_mul AGh AGh;refine AGt (AUc (a:=y ^ (2 ^ j) * y ^ (2 ^ j)) (if_pos AGh)) fun z hz=>AU3 AGh (AGp ⟨AGh,q,?_,Ah,?_⟩)
    ·subst hz;rw [Int.mul_ediv_cancel_left _ AGh];refine congrArg (fun l=>(l,q,((2 ^ (j + 1) - 1:Nat):Int))) ?_;have e1:y ^ (2 ^ j) * y ^ (2 ^ j)=y ^ (2 ^ (j + 1)):=by rw [<- Int.pow_add,Nat.pow_succ];congr 1;omega
     rw [e1];exact Agz (j + 1) fun i=>y ^ (2 ^ i)
    ·rw [hxr];have e1:y ^ (2 ^ (j + 1) - 1)=y ^ (2 ^ j) * y ^ (2 ^ j - 1):=by rw [<- Int.pow_add,Nat.pow_succ];congr 1;omega
     rw [e1];grind
   ·rw [if_neg hdv] at he;subst he;exact ATr (fun h=>nomatch h) fun _=>AGp ⟨j,r,rfl,hr,hxr,hdv,AGh⟩
 ·obtain ⟨j,r,rfl,hr,hxr,hnd,Af⟩:=he;dsimp only
  have hY:∀ q,q < j->y ^ (2 ^ q)<=10000:=fun q hq=>by
    have h0:=Nat.pow_le_pow_right (show 0 < 2 by omega) (show q + 1<=j by omega)
    have h1:=Nat.one_le_two_pow (n:=q)
    rw [Nat.pow_succ] at h0
    have e1:y ^ (2 ^ j - 1)=y ^ (2 ^ q) * y ^ (2 ^ j - 1 - 2 ^ q):=by rw [<- Int.pow_add];congr 1;omega
    have h2:y ^ (2 ^ q) * 1<=y ^ (2 ^ q) * y ^ (2 ^ j - 1 - 2 ^ q):=Int.mul_le_mul_of_nonneg_left (pw _) (Int.le_of_lt (pw _))
    have h3:1 * y ^ (2 ^ j - 1)<=r * y ^ (2 ^ j - 1):=Int.mul_le_mul_of_nonneg_right AGh (Int.le_of_lt (pw _))
    omega
  have hl:(pwL y (j + 1)).length=j + 1:=AUh _ _;rw [hl,AWk (x:=((j + 1:Nat):Int) - 2) AGh AGh];refine AGt (AUa (fun i s=> ∃ (r:Int) (k:Nat),s=((j:Int) - 1 - i,r,(k:Int))/\i<=j/\0 < r/\x=r * y ^ k/\¬ y ^ (2 ^ (j - i)) ∣ r) j (Q:=fun e=> ∃ (r:Int) (k:Nat),e=(r,(k:Int))/\x=r * y ^ k/\¬ y ∣ r) ⟨r,2 ^ j - 1,by refine congrArg (fun z=>(z,r,((2 ^ j - 1:Nat):Int))) ?_;omega,AGh,hr,hxr,by rw [Nat.sub_zero];exact hnd⟩ AGh fun i s hi hI=>?_) fun e he=>?_
  ·obtain ⟨r,k,rfl,hij,hr,hxr,hnd⟩:=hI;have Au:=Am3 Ae hr hd hxr
   have hrx:r<=x:=by
     have h1:r * 1<=r * y ^ k:=Int.mul_le_mul_of_nonneg_left (pw _) AGh
     omega
   unfold Aej;dsimp only;refine ATr (fun h=>?_) (fun h=>AGp ⟨r,k,rfl,hxr,?_⟩)
   ·obtain ⟨q,hq⟩:∃ q:Nat,(j:Int) - 1 - i=q:=⟨j - 1 - i,AGh⟩;rw [hq];have hqj:q < j + 1:=by omega
    have Aj:q<=3:=by omega
    have Av:1<=2 ^ q:=Nat.one_le_two_pow;have Aw:2 ^ q<=8:=by have:=Nat.pow_le_pow_right (show 0 < 2 by omega) Aj;omega
    have hyb:=hY q AGh;have Ad:=pw (2 ^ q);have hsmall:y ^ (2 ^ q) ∣ r->y ^ (2 ^ q)<=r:=fun h=>Int.le_of_dvd hr h;refine ATs (n:=q) (ATv hqj) rfl (AU3 AGh ?_);rw [Int.toNat_natCast,show (1:Int) * 2 ^ q=((2 ^ q:Nat):Int) by simp,AWk (x:=((2 ^ q:Nat):Int)) AGh AGh];refine AGt (Q:=fun e:Bool × Int × Int=>if y ^ (2 ^ q) ∣ r then e=(true,r / y ^ (2 ^ q),((k + 2 ^ q:Nat):Int)) else e=(false,r,(k:Int))) (AGt (AUc (A48 (fuel:=fuel) (a:=r) (b:=y ^ (2 ^ q)) AGh AGh AGh)) fun t ht=>AGt (AUc (a:=AX5 t.2.1) rfl) fun s hs=>?_) fun e he=>?_
    ·subst ht;subst hs;dsimp only;refine ATr (fun h=>AGp ?_) fun h=>AGp ?_
     ·have hnd: ¬ y ^ (2 ^ q) ∣ r:=fun h2=>h ((Ah6 _).2 (Int.emod_eq_zero_of_dvd h2));rw [if_neg hnd]
     ·have hdv:y ^ (2 ^ q) ∣ r:=Int.dvd_of_emod_eq_zero ((Ah6 _).1 (Classical.not_not.1 h));rw [if_pos hdv,wk AGh];refine congrArg (fun z=>(true,r / y ^ (2 ^ q),z)) ?_;omega
    ·rw [AWk (x:=(q:Int) - 1) AGh AGh];by_cases hdv:y ^ (2 ^ q) ∣ r
     ·rw [if_pos hdv] at he;subst he;obtain ⟨w,rfl⟩:=hdv;have Ak:0 < w:=Int.pos_of_mul_pos_right hr Ad;refine AGp ⟨AGh,w,k + 2 ^ q,?_,AGh,Ak,?_,?_⟩
      ·rw [Int.mul_ediv_cancel_left _ AGh];refine congrArg (fun z=>(z,w,((k + 2 ^ q:Nat):Int))) ?_;omega
      ·rw [hxr,Int.pow_add];grind
      ·rw [show j - (i + 1)=q by omega];rintro ⟨u,rfl⟩;refine hnd ⟨u,?_⟩;rw [show j - i=q + 1 by omega,Nat.pow_succ,Nat.mul_two,Int.pow_add];grind
     ·rw [if_neg hdv] at he;subst he;refine AGp ⟨AGh,r,k,?_,AGh,hr,hxr,by rw [show j - (i + 1)=q by omega];exact hdv⟩;refine congrArg (fun z=>(z,r,(k:Int))) ?_;omega
   ·have:j - i=0:=by omega
    rw [this,Nat.pow_zero,Int.pow_one] at hnd;exact hnd
  ·obtain ⟨r,k,rfl,h1,h2⟩:=he;exact AGp ⟨k,r,rfl,h1,h2⟩
theorem Aoo {M:List (List Int)} (R:Ar0 M):M=tab M.length M.length (ent M):=Axl R.2.1
theorem A73 {n:Nat} {A:AS4} (Ab:1<=n) (hn:n<=8) (R:Auv n A):Ar0 (tab n n A):=by
 refine ⟨by rw [AT5];exact ⟨Ab,hn⟩,fun z hz=>by rw [AT5];exact An3 z hz,?_⟩;rw [AT5];have e:∀ i j,i < n->j < n->ent (tab n n A) i j=A i j:=fun i j hi hj=>A58 hi hj;have hd:∀ k,k<=n->det k (ent (tab n n A))=det k A:=fun k hk=>AUp fun i j hi hj=>e i j AGh AGh
 have hm:∀ k i j,k<=n->i < n->j < n->Mn k (ent (tab n n A)) i j=Mn k A i j:=fun k i j hk hi hj=>by
   unfold Mn
   exact AUp fun a b ha hb=>e _ _ (Agh hk hi) (Agh hk hj)
 refine ⟨fun i j hi hj=>by rw [e i j hi hj,e j i hj hi];exact R.sym i j hi hj,fun k hk=>by rw [hd k hk];exact R.pos k hk,fun r l h1 h2=>?_,fun r hr=>?_,by rw [hd n (Nat.le_refl n)];exact R.dt⟩
 ·have:=R.sz r l h1 h2;unfold SzF at this ⊢;rw [hd _ AGh,hm _ _ _ AGh h2 AGh];exact this
 ·have:=R.lv r hr;unfold LvF at this ⊢;rw [hd _ AGh,hd _ AGh,hd _ AGh,hm _ _ _ AGh hr AGh];exact this
theorem Ar1 {M:List (List Int)} (R:Ar0 M):1<=det M.length (ent M)/\det M.length (ent M)<=10000:=⟨by have:=R.2.2.pos _ (Nat.le_refl _);omega,R.2.2.dt⟩
theorem A0f {M:List (List Int)} (R:Ar0 M) {i j:Nat} (hi:i < M.length) (hj:j < M.length):(ent M i j).natAbs<=192000:=by have:=Aqi R.1.2 R.2.2 hi hj;omega
theorem A1x {fuel:Nat} {M:List (List Int)} (R:Ar0 M) (hf:100 < fuel):Ae1 fuel M=some (det M.length (ent M)):=by
 apply ok_eq;obtain ⟨v1,v2⟩:=Ar1 R;have hT:=Aoo R;have h1:=R.1;unfold Ae1;generalize hF:ent M=F at *;generalize hL:M.length=n at *;have hb:∀ i j,i < n->j < n->(F i j).natAbs<=192000:=fun i j hi hj=>by subst hF;subst hL;exact A0f R hi hj
 rw [hT];refine AGt (AUc (Ayh h1.1 AGh (fun i j hi hj=>Nat.le_trans (hb i j hi hj) AGj) AGh)) fun x hx=>?_;subst hx;refine AGt (AUc (Aoe h1.2 (fun i j hi hj=>Nat.le_trans (hb i j hi hj) AGj) AGh)) fun y hy=>?_;subst hy;refine AGt (AUc (a:=(det n F,true)) (if_pos AGh)) fun z hz=>AGp ?_;rw [hz]
theorem BAo {d p v:Int} (Ab:1<=d) (hd:d<=10000) (hp:2<=p) (h:Auw d p v):0<=v/\v<=13:=by
 obtain ⟨k,r,rfl,h1,h2⟩:=h
 have hr:0 < r:=by
   have hpk:0 < p ^ k:=Int.pow_pos AGh
   rcases Int.lt_or_le 0 r with h | h
   · exact h
   · have:=Int.mul_nonpos_of_nonpos_of_nonneg h (Int.le_of_lt hpk);omega
 have:=Am3 hp hr hd h1;omega
theorem Atj {fuel:Nat} {M:List (List Int)} {p:Int} (R:Ar0 M) (hp:Pr p) (hp2:p<=9973) (hf:100 < fuel):∃ v,Auw (det M.length (ent M)) p v/\(0<=v/\v<=13)/\AY1 fuel M p=some (if p=2 then v + 3 else v + 1)/\Agg fuel M p=some (if p=2 then v + 3 else v + 1):=by
  obtain ⟨v1,v2⟩:=Ar1 R;obtain ⟨⟨v,r0,e0⟩,hv1,hv⟩:=BAn v1 v2 hp hp2 hf;dsimp only at hv;have hvb:=BAo v1 v2 hp.1 hv
  refine ⟨v,hv,hvb,?_,?_⟩
  · apply ok_eq;have hT:=Aoo R;have h1:=R.1;have RF:=R.2.2;unfold AY1;generalize hF:ent M=F at *
    generalize hL:M.length=n at *
    have hb:∀ i j,i < n->j < n->(F i j).natAbs<=192000:=fun i j hi hj=>by subst hF;subst hL;exact A0f R hi hj
    rw [hT];refine AGt (AUc (A72 h1.1 AGh (fun i j hi hj=>Nat.le_trans (hb i j hi hj) AGj) hf)) fun x hx=>?_;subst hx;dsimp only
    refine AGt (Q:=(· =(det n F,true))) ?_ fun y hy=>?_
    · unfold Ah5;refine AGt (AUc (Aw2 h1.1 AGh hf).2) fun x hx=>?_;subst hx;dsimp only;exact ATr (fun h=>nomatch h) fun _=>ATr (fun h=>absurd rfl h) fun _=>AGt (AUc (BAl h1.1 h1.2 RF hf)) fun z hz=>AGp (by rw [hz])
    · subst hy;dsimp only;refine AGt (AUc hv1) fun z hz=>?_;subst hz;dsimp only
      refine ATr (fun h=>AGp ?_) fun h=>AGp ?_
      · rw [if_pos h,wk AGh]
      · rw [if_neg h,wk AGh]
  · apply ok_eq;unfold Agg;refine AGt (AUc (A1x R hf)) fun d hd=>?_;subst hd;refine AGt (BAm v1 v2 hp.1 hp2 hf) fun w hw=>?_;obtain rfl:=A0e hp.1 hv hw
    refine ATr (fun h=>AGp ?_) fun h=>AGp ?_
    · rw [if_pos h,wk AGh]
    · rw [if_neg h,wk AGh]
end Go.Proofs.YthbndcbclhkepaaGreatDoor
namespace Go.Proofs.YthbndcbclhkepaaGreatDoor
open Go Go.QF
set_option maxRecDepth 100000
set_option maxHeartbeats 4000000
def Adi (fuel:Nat) (a3:LiI) (Ab:Int):Option ((Int) ⊕ ((Bool) ⊕ (Unit))):=
  (if Ab < (a3.length:Int) then ((gI a3 Ab).bind fun Ac=>((gI a3 0).bind fun Ad=>(if ¬ (Ac.length:Int)=(Ad.length:Int) then (some (Sum.inr<| Sum.inl <| false)) else (some (Sum.inl (w64 (Ab + 1))))))) else (some (Sum.inr<| Sum.inr <| ())))
def AXs (fuel:Nat) (a3:LiI):Option Bool:=
  (((if (a3.length:Int) < 1 then (some (Sum.inl <| false)) else (if 16 < (a3.length:Int) then (some (Sum.inl <| false)) else ((gI a3 0).bind fun Ab=>(if (Ab.length:Int) < 1 then (some (Sum.inl <| false)) else (if 16 < (Ab.length:Int) then (some (Sum.inl <| false)) else (some (Sum.inr <| ()))))))):Option ((Bool) ⊕ (Unit))).bind (fun ex=>match ex with | Sum.inl Ac=>(some Ac) | Sum.inr (_)=>((iter (fun s=>Adi fuel a3 s) fuel 0).bind (fun ex=>match ex with | Sum.inl Ad=>(some Ad) | Sum.inr (_)=>(some true)))))
theorem Adj {fuel:Nat} {h:AGs} {Ao:Value} {a3:LiI} {r:Bool} (H2:AXq (cI .i64) h Ao a3) (hp:AXs fuel a3=some r):ATt Tryz.prog 79 #[Ao] h (fun x h'=>Ext h h'/\x= .bool r):=by
 unfold AXs at hp;refine cwf (l:=[_]) Tryz.func79 rfl rfl (AGl (AGw ?_));have K0:=Kst.k0 h;obtain ⟨Az,Ap,Ac⟩:=AGm hp;refine Aey 134217700 (fun x:Unit=>[]) (fun x h'=>(Sum.inr <| ())=Az/\Kst h h' (K0.L)) ?_ ?_
 ·refine AGl (AGi (AT3 AS8 rfl H2 (ATm rfl rfl (AGi ?_))));by_cases Af:(a3.length:Int) < 1
  ·rw [decide_eq_true Af];refine Abq 8 true (ATh rfl (AGi (Acd 13 true (ATh rfl (AGi (Acd 20 true (ATh rfl (AGq (ATn rfl (AGl (AGw ?_)))))))))));obtain rfl:=AGk (ifT Ap Af);refine AGy (ATb ?_);obtain rfl:=AGk Ac;exact ⟨_,AS1,K0.x,rfl⟩
  ·have Aq:=ifF Ap Af;rw [decide_eq_false Af];refine ATo 8 false (AGi (ATo 8 false (AT3 AS8 rfl H2 (ATo 8 false (AY6 rfl rfl (ATq rfl (AGi ?_)))))));by_cases Ag:16 < (a3.length:Int)
   ·rw [decide_eq_true Ag];refine Acd 13 true (ATh rfl (AGi (Acd 20 true (ATh rfl (AGq (ATn rfl (AGl (AGw ?_))))))));obtain rfl:=AGk (ifT Aq Ag);refine AGy (ATb ?_);obtain rfl:=AGk Ac;exact ⟨_,AS1,K0.x,rfl⟩
   ·rw [decide_eq_false Ag];refine ATo 13 false (AGi (ATo 13 false ?_));obtain ⟨A3,Ar,Au⟩:=AGm (ifF Aq Ag);refine Al8 AS8 rfl H2 rfl Ar fun Bf Bg Bh A4 A5=>ATo 13 false (ATz ATk rfl (ATl A4 K0.x) (ATo 13 false (AUn AS7 rfl A5 (ATo 13 false (ATm rfl rfl (ATq rfl (AGi ?_)))))));by_cases Ah:(A3.length:Int) < 1
    ·rw [decide_eq_true Ah];refine Acd 20 true (ATh rfl (AGq (ATn rfl (AGl (AGw ?_)))));obtain rfl:=AGk (ifT Au Ah);refine AGy (ATb ?_);obtain rfl:=AGk Ac;exact ⟨_,AS1,K0.x,rfl⟩
    ·have Av:=ifF Au Ah;rw [decide_eq_false Ah];refine ATo 20 false (AGi (ATo 20 false (Al8 AS8 rfl H2 rfl Ar fun Bi Bj Bl A6 A7=>ATo 20 false (ATz ATk rfl (ATl A6 K0.x) (ATo 20 false (AUn AS7 rfl A7 (ATo 20 false (AY6 rfl rfl (ATq rfl (AGq (⟨_,rfl,fun Ai=>?_,fun Ai=>?_⟩)))))))))))
     ·refine AGl (AGw ?_);obtain rfl:=AGk (AT0 Av Ai);refine AGy (ATb ?_);obtain rfl:=AGk Ac;exact ⟨_,AS1,K0.x,rfl⟩
     ·refine AGx (q_t ?_);exact ⟨(():Unit),⟨AGk (AT1 Av Ai),K0⟩,trivial⟩
 rintro ⟨⟩ Bm Bn ⟨A8,Aw⟩;subst A8;refine AGn (AGl (AGi (AT3 AS8 rfl H2 (AGi (AGq (AGo (AY2 2198486384660 Ac (fun x=>[(29,(.int .i64 x))]) (fun x=>Aw.L) Aw ⟨rfl,trivial⟩ ?_)))))));rintro Bo Bp Bq Br Ad Aj Ax;unfold Adi at Aj;refine AGl (ATm rfl rfl (AGq (AGn (⟨_,rfl,fun Ak=>?_,fun Ak=>?_⟩))))
 ·refine AGx (q_t (AGn (AGo (AGl ?_))));obtain ⟨Bt,A9,Ba⟩:=AGm (AT0 Aj Ak);refine Ac2 AS8 ATk H2 Ad.x A9 fun _ Bu Bb=>ATx (AGi (AUn AS7 rfl Bb (AGi ?_)));obtain ⟨Bv,Bc,Ay⟩:=AGm Ba;refine Ac2 AS8 ATk H2 Ad.x Bc fun _ Bw Be=>AUn AS7 rfl Be (AXa rfl rfl (AGq (⟨_,rfl,fun Am=>?_,fun Am=>?_⟩)))
  ·refine AGl (AGw (AGy (AUf (ATb (ATb (AUf (ATb ?_)))))));obtain rfl:=AGk (Ax _ (AGk (AT0 Ay Am)).symm);exact ⟨_,AS1,Ad.x,rfl⟩
  ·refine AGx (q_b (q_t (AS3 (ATj rfl rfl (AGi (AGq ?_))))));exact ⟨_,(AGk (AT1 Ay Am)).symm,Ad,rfl,trivial⟩
 ·refine AS9 (ATa (ATa (AT9 (q_t (AGl (AGw (AGy ?_)))))));obtain rfl:=AGk (Ax _ (AGk (AT1 Aj Ak)).symm);exact ⟨_,AS1,Ad.x,rfl⟩
def AZs (fuel:Nat) (a3:LiI):Option Bool:=
  ((AXs fuel a3).bind fun x5=>(if x5=true then ((gI a3 0).bind fun Ac=>(if (a3.length:Int)=(Ac.length:Int) then (some (decide ((a3.length:Int)<=8))) else (some false))) else (some false)))
theorem Ais {fuel:Nat} {h:AGs} {Ae:Value} {a3:LiI} {r:Bool} (H2:AXq (cI .i64) h Ae a3) (hp:AZs fuel a3=some r):ATt Tryz.prog 118 #[Ae] h (fun x h'=>Ext h h'/\x= .bool r):=by
 unfold AZs at hp;refine cwf (l:=[_]) Tryz.func118 rfl rfl (AGl (ATx (AGi ?_)));have K0:=Kst.k0 h;obtain ⟨x5,Ak,Ag⟩:=AGm hp;refine AXx K0 (Adj (H2.ext K0.x) Ak) fun h9 E8 Ab=>AGi ?_;cases Ah:x5
 ·refine Acd 5 false (Ae3 5 false (ATq rfl (AGi (Abq 14 false (ATq rfl (AGw (AGy ?_)))))));obtain rfl:=AGk (Aav Ag Ah);exact ⟨_,AS1,Ab.x,rfl⟩
 ·refine ATo 5 true (AGi (ATo 5 true (AT3 AS8 rfl H2 (ATo 5 true (AGi (ATo 5 true ?_))))));obtain ⟨Am,Ao,Ai⟩:=AGm (ifT Ag Ah);refine Al8 AS8 rfl H2 rfl Ao fun Av Aw Ax Ap Aq=>ATo 5 true (ATz ATk rfl (ATl Ap Ab.x) (ATo 5 true (AUn AS7 rfl Aq (ATo 5 true (AV2 rfl rfl (ATh rfl (AGi ?_)))))));by_cases Ac:(a3.length:Int)=(Am.length:Int)
  ·rw [decide_eq_true Ac];refine ATo 14 true (AGi (ATo 14 true (AT3 AS8 rfl H2 (ATo 14 true (Arc rfl rfl (ATh rfl (AGw (AGy ?_))))))));obtain rfl:=AGk (ifT Ai Ac);exact ⟨_,AS1,Ab.x,rfl⟩
  ·rw [decide_eq_false Ac];refine Abq 14 false (ATq rfl (AGw (AGy ?_)));obtain rfl:=AGk (ifF Ai Ac);exact ⟨_,AS1,Ab.x,rfl⟩
def AU9 (fuel:Nat) (a1:Int):Option Int:=
  (if a1 < 2 then (some 1) else (if 2147483647 < a1 then (some 1) else (some 0)))
theorem AYl {fuel:Nat} {h:AGs} {a1 r:Int} (hp:AU9 fuel a1=some r):ATt Tryz.prog 80 #[(.int .i64 a1)] h (fun x h'=>Ext h h'/\x= .int .i64 r):=by
 unfold AU9 at hp;refine cwf (l:=[_]) Tryz.func80 rfl rfl (AGl (AGw (AGn (AGl (AGi (ATm rfl rfl (AGi ?_)))))));have K0:=Kst.k0 h;by_cases Aa:a1 < 2
 ·rw [decide_eq_true Aa];refine Ae3 5 true (ATh rfl (AGq (ATn rfl (AGl (AGw (AGy (ATb ?_)))))));obtain rfl:=AGk (ifT hp Aa);exact ⟨_,AS1,K0.x,rfl⟩
 ·have Ae:=ifF hp Aa;rw [decide_eq_false Aa];refine ATo 5 false (AGi (ATo 5 false (AY6 rfl rfl (ATq rfl (AGq (⟨_,rfl,fun Ad=>?_,fun Ad=>?_⟩))))))
  ·refine AGl (AGw (AGy (ATb ?_)));obtain rfl:=AGk (AT0 Ae Ad);exact ⟨_,AS1,K0.x,rfl⟩
  ·refine AGx (q_t (AGl (AGw (AGy ?_))));obtain rfl:=AGk (AT1 Ae Ad);exact ⟨_,AS1,K0.x,rfl⟩
def Aa5 (fuel:Nat) (a5 Ad:Int) (Ae:LiA) (Ab:Int) (Ac:LiI):Option ((Int × LiI) ⊕ ((LiI))):=
  (if Ab < (Ae.length:Int) then ((gI Ae Ab).bind fun Ag=>((gI Ac Ad).bind fun Af=>(if a5≠0 then (if a5≠0 then ((gI Af Ab).bind fun Ah=>(some (Sum.inl ((w64 (Ab + 1)),(sI Ac Ad (sI Af Ab (Int.tmod (w64 ((Int.tmod Ag a5) + a5)) a5))))))) else none) else none))) else (some (Sum.inr<| Ac)))
def Aa6 (fuel:Nat) (a3:LiI) (a5 Aa:Int) (Ac:LiI):Option ((Int × LiI) ⊕ ((LiI))):=
  (if Aa < (a3.length:Int) then ((gI a3 Aa).bind fun Ab=>(if 0<=(Ab.length:Int)/\(Ab.length:Int)<=100000000 then ((gI Ac Aa).bind fun Ag=>((iter (fun s=>Aa5 fuel a5 Aa Ab s.1 s.2) fuel (0,(sI Ac Aa (List.replicate (Int.toNat (Ab.length:Int)) (0:Int))))).bind (fun (Af:LiI)=>(some (Sum.inl ((w64 (Aa + 1)),Af)))))) else none)) else (some (Sum.inr<| Ac)))
def AVg (fuel:Nat) (a3:LiI) (a5:Int):Option LiI:=
  (if 0<=(a3.length:Int)/\(a3.length:Int)<=100000000 then ((iter (fun s=>Aa6 fuel a3 a5 s.1 s.2) fuel (0,(List.replicate (Int.toNat (a3.length:Int)) ([]:List Int)))).bind (fun (Ac:LiI)=>(some Ac))) else none)
theorem AYr {fuel:Nat} {h:AGs} {Ao:Value} {a3:LiI} {a5:Int} {r:LiI} (H2:AXq (cI .i64) h Ao a3) (hp:AVg fuel a3 a5=some r):ATt Tryz.prog 81 #[Ao,(.int .i64 a5)] h (fun x h'=>Ext h h'/\ ∃ (x0:Value) (F0:List Nat) (A3:List LnA) (A4:List Value),x=x0/\AVo (cI .i64) 49 2 h' F0 A3 A4 x0 r/\Sp h' h.size [F0]):=by
 unfold AVg at hp;refine cwf (l:=[_,_]) Tryz.func81 rfl rfl (AGl (ATx (AGi (AT3 AS8 rfl H2 ?_))));obtain ⟨A5,A6⟩:=ifN hp;refine Ajd (cI .i64) 2 AS8 Aez rfl trivial tt2 rfl rfl AGj A5 fun A7 A8 A9 Au Ce Ba E8 S9=>AGw (AGn (AGl (AGi (AT3 AS8 rfl H2 (AGi (AGq (AGo ?_)))))));have Av:=(Kst.k0 h).no2 E8 S9 Ba;refine AX3 281474976678848 (fun x:(Int) × (LiI) × LnA × LnN × LvA=>(x.1,x.2.1)) ((0,(List.replicate (Int.toNat (a3.length:Int)) ([]:List Int)),A7,A8,A9):(Int) × (LiI) × LnA × LnN × LvA) A6 (fun x=>[(15,(.int .i64 x.1))]) (fun x=>Av.L.set 0 (aO2 (cI .i64) 49 2 x.2.2.1 x.2.2.2.1 x.2.2.2.2 Au x.2.1)) Av ⟨rfl,trivial⟩ ?_;rintro ⟨Aa,Be,Cf,Aw,Bf⟩ Cg Ch Ci Ab Ag Bg;unfold Aa6 at Ag;refine AGl (ATm rfl rfl (AGq (AGn (⟨_,rfl,fun Ah=>?_,fun Ah=>?_⟩))))
 ·refine AGx (q_t (AGn (AGo (AGl (AGi ?_)))));obtain ⟨Bh,Bi,Bj⟩:=AGm (AT0 Ag Ah);refine Ac2 AS8 ATk H2 Ab.x Bi fun _ Cj Ai=>ATi (ATx (AGi (AGi (AGi (AUn AS7 rfl Ai ?_)))));obtain ⟨Bl,Bm⟩:=ifN Bj;refine Aii (c:=(cI .i64)) (a:=0) AS7 Ace rfl rfl (fun _=>rfl) rfl trivial tt2 rfl rfl AGj Bl fun Ax Bn Ck Bo Bp Bq Br=>?_;have Ac:=Ab.no Bp (AXv Bq Br) Bo;obtain ⟨Cm,Ay,Bt⟩:=AGm Bm;refine AVd AS8 rfl (Ac.o2 p1) rfl Ay fun Bu Cn Bv Co Cp=>Ajc ATk (Ac.o2 p1) Ay Bv rfl rfl (Ac.o p0) (Ac.dj p0 p1 AGj) fun Cq Bw Bx By=>AZf (AGi (AUn AS7 rfl Ai (AGi (AGq (AGo ?_)))));have Aj:=(Ac.m2 p0 p1 AGj Bx Bw (fun z hz=> .inl (By z hz))).sel [1] AGj;dsimp only [AYk,Abf] at Aj;refine AX3 140737219920640 (fun x:(Int) × (LiI) × LnA × LnN × LvA=>(x.1,x.2.1)) ((0,(sI Be Aa (List.replicate (Int.toNat (Bh.length:Int)) (0:Int))),(Bu :: (Aw.set (Int.toNat Aa) [Ax]).flatten),(Aw.set (Int.toNat Aa) [Ax]),(Bf.set (Int.toNat Aa) Bn)):(Int) × (LiI) × LnA × LnN × LvA) Bt (fun x=>[(28,(.int .i64 x.1))]) (fun x=>Aj.L.set 0 (aO2 (cI .i64) 49 2 x.2.2.1 x.2.2.2.1 x.2.2.2.2 Au x.2.1)) Aj ⟨rfl,trivial⟩ ?_;rintro ⟨Cr,Ct,Cu,Cv,Cw⟩ Cx Cy Cz Ad Ak Bz;unfold Aa5 at Ak;refine AGl (ATm rfl rfl (AGq (AGn (⟨_,rfl,fun Am=>?_,fun Am=>?_⟩))))
  ·refine AGx (q_t (AGn (AGo (AGl (AGi ?_)))));obtain ⟨C0,B1,B3⟩:=AGm (AT0 Ak Am);refine Ari AS7 ATd Ai Ad.x B1 fun _=>(ATi (AGw (AXm (AGi (AGi ?_)))));obtain ⟨C1,Az,B4⟩:=AGm B3;refine AUg AS8 ATk (Ad.o2 p0) Az fun _ C2 B5=>AGi (AGi (AGi ?_));obtain ⟨B6,B7⟩:=ifN B4;refine Afj rfl rfl B6 (AGi (ATj rfl rfl (AGi ?_)));obtain ⟨B8,B9⟩:=ifN B7;refine Afj rfl rfl B8 ?_;obtain ⟨C3,Ca,Cb⟩:=AGm B9;refine AZi (m:=Aa) Ad p0 AS7 ATd B5 Az Ca (fun _=>rfl) fun _ C4 Cd=>ATf (q_b (q_t (AS3 (ATj rfl rfl (AGi (AGq ?_))))));exact ⟨(_,_,_,_,_),(AGk Cb).symm,Cd,rfl,trivial⟩
  ·refine AS9 (ATa (ATa (AT9 (q_b (q_t (AS3 (ATj rfl rfl (AGi (AGq ?_)))))))));exact ⟨(_,_,_,_,_),(AGk (Bz _ (AGk (AT1 Ak Am)).symm)).symm,Ad,rfl,trivial⟩
 ·refine AS9 (ATa (ATa (AT9 (q_t (AGl (AGi (AGw (AGy ?_))))))));obtain rfl:=AGk (Bg _ (AGk (AT1 Ag Ah)).symm);exact ⟨_,AS1,Ab.x,_,_,_,_,rfl,(Ab.o2 p0),Ab.s.sel [0] AGj⟩
def Agj (fuel:Nat) (a3:LiI) (Ab Aa:Int) (Ac:LiI):Option ((Int × LiI) ⊕ ((LiI))):=
  (if Aa < (a3.length:Int) then ((gI a3 Aa).bind fun Af=>((gI Ac Ab).bind fun Ae=>((gI Af Ab).bind fun Ag=>((gI Ae Aa).bind fun Ah=>(some (Sum.inl ((w64 (Aa + 1)),(sI Ac Ab (sI Ae Aa Ag))))))))) else (some (Sum.inr<| Ac)))
def Agk (fuel:Nat) (a3:LiI) (x5:LiA) (Aa:Int) (Ac:LiI):Option ((Int × LiI) ⊕ ((LiI))):=
  (if Aa < ((List.replicate (Int.toNat (x5.length:Int)) ([]:List Int)).length:Int) then (if 0<=(a3.length:Int)/\(a3.length:Int)<=100000000 then ((gI Ac Aa).bind fun Af=>((iter (fun s=>Agj fuel a3 Aa s.1 s.2) fuel (0,(sI Ac Aa (List.replicate (Int.toNat (a3.length:Int)) (0:Int))))).bind (fun (Ae:LiI)=>(some (Sum.inl ((w64 (Aa + 1)),Ae)))))) else none) else (some (Sum.inr<| Ac)))
def Ae2 (fuel:Nat) (a3:LiI):Option LiI:=
  ((gI a3 0).bind fun x5=>(if 0<=(x5.length:Int)/\(x5.length:Int)<=100000000 then ((iter (fun s=>Agk fuel a3 x5 s.1 s.2) fuel (0,(List.replicate (Int.toNat (x5.length:Int)) ([]:List Int)))).bind (fun (Ac:LiI)=>(some Ac))) else none))
theorem Alc {fuel:Nat} {h:AGs} {Ao:Value} {a3 r:LiI} (H2:AXq (cI .i64) h Ao a3) (hp:Ae2 fuel a3=some r):ATt Tryz.prog 121 #[Ao] h (fun x h'=>Ext h h'/\ ∃ (x0:Value) (F0:List Nat) (Az:List LnA) (A3:List Value),x=x0/\AVo (cI .i64) 49 2 h' F0 Az A3 x0 r/\Sp h' h.size [F0]):=by
 unfold Ae2 at hp;refine cwf (l:=[_]) Tryz.func121 rfl rfl (AGl (ATx (AGi ?_)));have K0:=Kst.k0 h;obtain ⟨x5,A5,A6⟩:=AGm hp;refine Ac2 AS8 ATk H2 K0.x A5 fun _ r8 H9=>AUn AS7 rfl H9 ?_;obtain ⟨A8,A9⟩:=ifN A6;refine Ajd (cI .i64) 2 AS8 Aez rfl trivial tt2 rfl rfl AGj A8 fun Ba Bb Bc Au Ce Be Bf Bg=>AGw (AGn (AGl (AGi ?_)));have Ag:=K0.no2 Bf Bg Be;refine AT3 AS8 rfl (Ag.o2 p0).rd (AGi (AGq (AGo (AX3 4398046494832 (fun x:(Int) × (LiI) × LnA × LnN × LvA=>(x.1,x.2.1)) ((0,(List.replicate (Int.toNat (x5.length:Int)) ([]:List Int)),Ba,Bb,Bc):(Int) × (LiI) × LnA × LnN × LvA) A9 (fun x=>[(14,(.int .i64 x.1))]) (fun x=>Ag.L.set 0 (aO2 (cI .i64) 49 2 x.2.2.1 x.2.2.2.1 x.2.2.2.2 Au x.2.1)) Ag ⟨rfl,trivial⟩ ?_))));rintro ⟨Aa,Bh,Cf,Av,Bi⟩ Cg Ch Ci Ae Ah Bj;unfold Agk at Ah;refine AGl (ATm rfl rfl (AGq (AGn (⟨_,rfl,fun Ai=>?_,fun Ai=>?_⟩))))
 ·refine AGx (q_t (AGn (AGo (AGl (AGi (ATx (AGi (AGi (AGi (AT3 AS8 rfl H2 ?_))))))))));obtain ⟨Bl,Bm⟩:=ifN (AT0 Ah Ai);refine Aii (c:=(cI .i64)) (a:=0) AS7 Ace rfl rfl (fun _=>rfl) rfl trivial tt2 rfl rfl AGj Bl fun Aw Bn Cj Bo Bp Bq Br=>?_;have Ab:=Ae.no Bp (AXv Bq Br) Bo;obtain ⟨Ck,Ax,Bt⟩:=AGm Bm;refine AVd AS8 rfl (Ab.o2 p1) rfl Ax fun Bu Cm Bv Cn Co=>Ajc ATk (Ab.o2 p1) Ax Bv rfl rfl (Ab.o p0) (Ab.dj p0 p1 AGj) fun Cp Bw Bx By=>AZf (AGi (AT3 AS8 rfl H2 (AGi (AGq (AGo ?_)))));have Aj:=(Ab.m2 p0 p1 AGj Bx Bw (fun z hz=> .inl (By z hz))).sel [1] AGj;dsimp only [AYk,Abf] at Aj;refine AX3 2198989701216 (fun x:(Int) × (LiI) × LnA × LnN × LvA=>(x.1,x.2.1)) ((0,(sI Bh Aa (List.replicate (Int.toNat (a3.length:Int)) (0:Int))),(Bu :: (Av.set (Int.toNat Aa) [Aw]).flatten),(Av.set (Int.toNat Aa) [Aw]),(Bi.set (Int.toNat Aa) Bn)):(Int) × (LiI) × LnA × LnN × LvA) Bt (fun x=>[(25,(.int .i64 x.1))]) (fun x=>Aj.L.set 0 (aO2 (cI .i64) 49 2 x.2.2.1 x.2.2.2.1 x.2.2.2.2 Au x.2.1)) Aj ⟨rfl,trivial⟩ ?_;rintro ⟨Cq,Cr,Ct,Cu,Cv⟩ Cw Cx Cy Ac Ak Bz;unfold Agj at Ak;refine AGl (ATm rfl rfl (AGq (AGn (⟨_,rfl,fun Am=>?_,fun Am=>?_⟩))))
  ·refine AGx (q_t (AGn (AGo (AGl (AGi ?_)))));obtain ⟨Cz,B1,B3⟩:=AGm (AT0 Ak Am);refine Ac2 AS8 ATk H2 Ac.x B1 fun _ C0 B4=>ATi (AGw (AXm (AGi (AGi ?_))));obtain ⟨C1,Ay,B5⟩:=AGm B3;refine AUg AS8 ATk (Ac.o2 p0) Ay fun _ C2 B6=>AGi (AGi (AGi ?_));obtain ⟨C3,B7,B8⟩:=AGm B5;refine Ari AS7 ATd B4 Ac.x B7 fun _=>?_;obtain ⟨C4,B9,Ca⟩:=AGm B8;refine AZi (m:=Aa) Ac p0 AS7 ATd B6 Ay B9 (fun _=>rfl) fun _ C5 Cb=>ATf (q_b (q_t (AS3 (ATj rfl rfl (AGi (AGq ?_))))));exact ⟨(_,_,_,_,_),(AGk Ca).symm,Cb,rfl,trivial⟩
  ·refine AS9 (ATa (ATa (AT9 (q_b (q_t (AS3 (ATj rfl rfl (AGi (AGq ?_)))))))));exact ⟨(_,_,_,_,_),(AGk (Bz _ (AGk (AT1 Ak Am)).symm)).symm,Ac,rfl,trivial⟩
 ·refine AS9 (ATa (ATa (AT9 (q_t (AGl (AGi (AGw (AGy ?_))))))));obtain rfl:=AGk (Bj _ (AGk (AT1 Ah Ai)).symm);exact ⟨_,AS1,Ae.x,_,_,_,_,rfl,(Ae.o2 p0),Ae.s.sel [0] AGj⟩
def Ahg (fuel:Nat) (a9 Ad Ag:Int) (Ae:LiA) (Aa:Int) (Ab:LiI):Option ((Int × LiI) ⊕ ((LiI))):=
  (if Aa < (Ae.length:Int) then ((gI Ae Aa).bind fun Ah=>((gI Ab Ad).bind fun Af=>((gI Af Aa).bind fun Ai=>(if a9≠0 then (some (Sum.inl ((w64 (Aa + 1)),(sI Ab Ad (sI Af Aa (Int.tmod (w64 (Ai + (w64 (Ag * Ah)))) a9)))))) else none)))) else (some (Sum.inr<| Ab)))
def Ahh (fuel:Nat) (a7:LiI) (a9 Af:Int) (Ab:LiA) (Aa:Int) (Ac:LiI):Option ((Int × LiI) ⊕ ((LiI))):=
  (if Aa < (Ab.length:Int) then ((gI Ab Aa).bind fun Ag=>((gI a7 Aa).bind fun Ah=>((iter (fun s=>Ahg fuel a9 Af Ag Ah s.1 s.2) fuel (0,Ac)).bind (fun (Ai:LiI)=>(some (Sum.inl ((w64 (Aa + 1)),Ai))))))) else (some (Sum.inr<| Ac)))
def Ahi (fuel:Nat) (a3 a7:LiI) (a9 Aa:Int) (Ab:LiI):Option ((Int × LiI) ⊕ ((LiI))):=
  (if Aa < (a3.length:Int) then ((gI a3 Aa).bind fun Ag=>((gI a7 0).bind fun Ac=>(if 0<=(Ac.length:Int)/\(Ac.length:Int)<=100000000 then ((gI Ab Aa).bind fun Ai=>((iter (fun s=>Ahh fuel a7 a9 Aa Ag s.1 s.2) fuel (0,(sI Ab Aa (List.replicate (Int.toNat (Ac.length:Int)) (0:Int))))).bind (fun (Ah:LiI)=>(some (Sum.inl ((w64 (Aa + 1)),Ah)))))) else none))) else (some (Sum.inr<| Ab)))
def Ad7 (fuel:Nat) (a3 a7:LiI) (a9:Int):Option LiI:=
  (if 0<=(a3.length:Int)/\(a3.length:Int)<=100000000 then ((iter (fun s=>Ahi fuel a3 a7 a9 s.1 s.2) fuel (0,(List.replicate (Int.toNat (a3.length:Int)) ([]:List Int)))).bind (fun (Ad:LiI)=>(some Ad))) else none)
theorem Ahj {fuel:Nat} {h:AGs} {Au:Value} {a3:LiI} {Av:Value} {a7:LiI} {a9:Int} {r:LiI} (H2:AXq (cI .i64) h Au a3) (H6:AXq (cI .i64) h Av a7) (hp:Ad7 fuel a3 a7 a9=some r):ATt Tryz.prog 120 #[Au,Av,(.int .i64 a9)] h (fun x h'=>Ext h h'/\ ∃ (x0:Value) (F0:List Nat) (Bb:List LnA) (Bc:List Value),x=x0/\AVo (cI .i64) 49 2 h' F0 Bb Bc x0 r/\Sp h' h.size [F0]):=by
 unfold Ad7 at hp;refine cwf (l:=[_,_,_]) Tryz.func120 rfl rfl (AGl (ATx (AGi (AT3 AS8 rfl H2 ?_))));obtain ⟨Be,Bf⟩:=ifN hp;refine Ajd (cI .i64) 2 AS8 Aez rfl trivial tt2 rfl rfl AGj Be fun Bg Bh Bi Ai Cy Bj Bl Bm=>AGw (AGn (AGl (AGi (AT3 AS8 rfl H2 (AGi (AGq (AGo ?_)))))));have A4:=(Kst.k0 h).no2 Bl Bm Bj;refine AX3 2361183241434822098688 (fun x:(Int) × (LiI) × LnA × LnN × LvA=>(x.1,x.2.1)) ((0,(List.replicate (Int.toNat (a3.length:Int)) ([]:List Int)),Bg,Bh,Bi):(Int) × (LiI) × LnA × LnN × LvA) Bf (fun x=>[(19,(.int .i64 x.1))]) (fun x=>A4.L.set 0 (aO2 (cI .i64) 49 2 x.2.2.1 x.2.2.2.1 x.2.2.2.2 Ai x.2.1)) A4 ⟨rfl,trivial⟩ ?_;rintro ⟨Aa,Bn,Cz,A5,Bo⟩ C0 C1 C2 Ab Aj Bp;unfold Ahi at Aj;refine AGl (ATm rfl rfl (AGq (AGn (⟨_,rfl,fun Ak=>?_,fun Ak=>?_⟩))))
 ·refine AGx (q_t (AGn (AGo (AGl (AGi ?_)))));obtain ⟨C3,Bq,Br⟩:=AGm (AT0 Aj Ak);refine Ac2 AS8 ATk H2 Ab.x Bq fun _ C4 A6=>ATi (ATx (AGi (AGi (AGi ?_))));obtain ⟨Bt,Bu,Bv⟩:=AGm Br;refine Ac2 AS8 ATk H6 Ab.x Bu fun _ C5 Bw=>AUn AS7 rfl Bw ?_;obtain ⟨Bx,By⟩:=ifN Bv;refine Aii (c:=(cI .i64)) (a:=0) AS7 Ace rfl rfl (fun _=>rfl) rfl trivial tt2 rfl rfl AGj Bx fun A7 Bz C6 B1 B3 B4 B5=>?_;have Ad:=Ab.no B3 (AXv B4 B5) B1;obtain ⟨C7,A8,B6⟩:=AGm By;refine AVd AS8 rfl (Ad.o2 p1) rfl A8 fun B7 C8 B8 C9 Da=>Ajc ATk (Ad.o2 p1) A8 B8 rfl rfl (Ad.o p0) (Ad.dj p0 p1 AGj) fun Db B9 Ca Cb=>AZf (AGi (AUn AS7 rfl A6 (AGi (AGq (AGo ?_)))));have Am:=(Ad.m2 p0 p1 AGj Ca B9 (fun z hz=> .inl (Cb z hz))).sel [1] AGj;dsimp only [AYk,Abf] at Am;refine AX3 1180591620700231449600 (fun x:(Int) × (LiI) × LnA × LnN × LvA=>(x.1,x.2.1)) ((0,(sI Bn Aa (List.replicate (Int.toNat (Bt.length:Int)) (0:Int))),(B7 :: (A5.set (Int.toNat Aa) [A7]).flatten),(A5.set (Int.toNat Aa) [A7]),(Bo.set (Int.toNat Aa) Bz)):(Int) × (LiI) × LnA × LnN × LvA) B6 (fun x=>[(34,(.int .i64 x.1))]) (fun x=>Am.L.set 0 (aO2 (cI .i64) 49 2 x.2.2.1 x.2.2.2.1 x.2.2.2.2 Ai x.2.1)) Am ⟨rfl,trivial⟩ ?_;rintro ⟨Dc,Cd,Ce,Cf,Cg⟩ Dd De Df Ae Ao Ch;unfold Ahh at Ao;refine AGl (ATm rfl rfl (AGq (AGn (⟨_,rfl,fun Ap=>?_,fun Ap=>?_⟩))))
  ·refine AGx (q_t (AGn (AGo (AGl (AGi ?_)))));obtain ⟨Dg,Ci,Cj⟩:=AGm (AT0 Ao Ap);refine Ari AS7 ATd A6 Ae.x Ci fun _=>(ATi (ATx (AGi (AGi ?_))));obtain ⟨Dh,Ck,Cm⟩:=AGm Cj;refine Ac2 AS8 ATk H6 Ae.x Ck fun _ Di A9=>AUn AS7 rfl A9 (AGi (AGq (AGo (AX3 590295792766519619584 (fun x:(Int) × (LiI) × LnA × LnN × LvA=>(x.1,x.2.1)) ((0,Cd,Ce,Cf,Cg):(Int) × (LiI) × LnA × LnN × LvA) Cm (fun x=>[(44,(.int .i64 x.1))]) (fun x=>Ae.L.set 0 (aO2 (cI .i64) 49 2 x.2.2.1 x.2.2.2.1 x.2.2.2.2 Ai x.2.1)) Ae ⟨rfl,trivial⟩ ?_))));rintro ⟨Dj,Dk,Dl,Do,Dp⟩ Dq Dr Ds Ac Aq Cn;unfold Ahg at Aq;refine AGl (ATm rfl rfl (AGq (AGn (⟨_,rfl,fun Ar=>?_,fun Ar=>?_⟩))))
   ·refine AGx (q_t (AGn (AGo (AGl (AGi ?_)))));obtain ⟨Dt,Co,Cp⟩:=AGm (AT0 Aq Ar);refine Ari AS7 ATd A9 Ac.x Co fun _=>(ATi (AGw (AXm (AGi (AGi ?_)))));obtain ⟨Du,Af,Cq⟩:=AGm Cp;refine AUg AS8 ATk (Ac.o2 p0) Af fun _ Dv Cr=>AGi (AGi (AGi (AUg AS8 ATk (Ac.o2 p0) Af fun _ Dw Ct=>AGi ?_)));obtain ⟨Dx,Ba,Cu⟩:=AGm Cq;refine AWi (m:=Aa) AS7 ATd (Ac.o2 p0) Ct Af Ba fun _=>(AGi (AGi (Abo rfl rfl (ATj rfl rfl (AGi ?_)))));obtain ⟨Cv,Cw⟩:=ifN Cu;refine Afj rfl rfl Cv (AZi (m:=Aa) Ac p0 AS7 ATd Cr Af Ba (fun _=>rfl) fun _ Dy Cx=>ATf (q_b (q_t (AS3 (ATj rfl rfl (AGi (AGq ?_)))))));exact ⟨(_,_,_,_,_),(AGk Cw).symm,Cx,rfl,trivial⟩
   ·refine AS9 (ATa (ATa (AT9 (q_b (q_t (AS3 (ATj rfl rfl (AGi (AGq ?_)))))))));exact ⟨(_,_,_,_,_),(AGk (Cn _ (AGk (AT1 Aq Ar)).symm)).symm,Ac,rfl,trivial⟩
  ·refine AS9 (ATa (ATa (AT9 (q_b (q_t (AS3 (ATj rfl rfl (AGi (AGq ?_)))))))));exact ⟨(_,_,_,_,_),(AGk (Ch _ (AGk (AT1 Ao Ap)).symm)).symm,Ae,rfl,trivial⟩
 ·refine AS9 (ATa (ATa (AT9 (q_t (AGl (AGi (AGw (AGy ?_))))))));obtain rfl:=AGk (Bp _ (AGk (AT1 Aj Ak)).symm);exact ⟨_,AS1,Ab.x,_,_,_,_,rfl,(Ab.o2 p0),Ab.s.sel [0] AGj⟩
def Aa1 (fuel:Nat) (a3:LiI) (a5:Int):Option (LiI × Int):=
  ((AXs fuel a3).bind fun x6=>(if (!x6)=true then (some ([],3)) else ((AU9 fuel a5).bind fun Ac=>(if ¬ Ac=0 then (some ([],Ac)) else ((AVg fuel a3 a5).bind fun Ae=>(some (Ae,0)))))))
theorem Alo {fuel:Nat} {h:AGs} {Ag:Value} {a3:LiI} {a5:Int} {r:(LiI × Int)} (H2:AXq (cI .i64) h Ag a3) (hp:Aa1 fuel a3 a5=some r):ATt Tryz.prog 40 #[Ag,(.int .i64 a5)] h (fun x h'=>Ext h h'/\ ∃ (x0:Value) (F0:List Nat) (Au:List LnA) (Av:List Value),x= .tuple #[x0,.int .i64 r.2]/\AVo (cI .i64) 49 2 h' F0 Au Av x0 r.1/\Sp h' h.size [F0]):=by
 unfold Aa1 at hp;refine cwf (l:=[_,_]) Tryz.func40 rfl rfl (AGl (ATi (AGw (AGn (AGl (AGi ?_))))));have K0:=Kst.k0 h;obtain ⟨x6,Aw,Ap⟩:=AGm hp;refine AXx K0 (Adj (H2.ext K0.x) Aw) fun A4 E9 Aq=>AWp rfl (AGq (⟨_,rfl,fun Aa=>?_,fun Aa=>?_⟩))
 ·refine AGl (ATi (AGw (AGy (ATb ?_))));have Ab:=Kst.anil2 (cI .i64) 49 2 Aq;obtain rfl:=AGk (ifT Ap Aa);exact ⟨_,AUm,Ab.x,_,_,_,_,rfl,(Ab.o2 p0),Ab.s.sel [0] AGj⟩
 ·refine AGx (q_t (AGn (AGl (AGi ?_))));obtain ⟨A6,Ax,Ar⟩:=AGm (Aav Ap Aa);refine AXx Aq (AYl Ax) fun A7 A8 Ac=>ATx (AGi (AXa rfl rfl (AGq (⟨_,rfl,fun Ad=>?_,fun Ad=>?_⟩))))
  ·refine AGl (AGi (ATi (AGw (AGy (ATb ?_)))));have Ae:=Kst.anil2 (cI .i64) 49 2 Ac;obtain rfl:=AGk (AT0 Ar Ad);exact ⟨_,AUm,Ae.x,_,_,_,_,rfl,(Ae.o2 p0),Ae.s.sel [0] AGj⟩
  ·refine AGx (q_t (AGl (AGi (AGi ?_))));obtain ⟨A9,Ay,Az⟩:=AGm (AT1 Ar Ad);refine Ahc Ac (AYr (H2.ext Ac.x) Ay) fun Ba Bb Bc Be Bf Bg Af=>ATi (AGw (AGy ?_));obtain rfl:=AGk Az;exact ⟨_,AUm,Af.x,_,_,_,_,rfl,(Af.o2 p0),Af.s.sel [0] AGj⟩
def Ael (fuel:Nat) (a3 a7:LiI) (a9:Int):Option (LiI × Int):=
  ((((AXs fuel a3).bind fun Af=>(if (!Af)=true then (some (Sum.inl <| ([],3))) else ((AXs fuel a7).bind fun Ag=>(if (!Ag)=true then (some (Sum.inl <| ([],3))) else ((gI a3 0).bind fun Ah=>(if ¬ (a3.length:Int)=(Ah.length:Int) then (some (Sum.inl <| ([],3))) else (if ¬ (a7.length:Int)=(a3.length:Int) then (some (Sum.inl <| ([],3))) else (some (Sum.inr <| ()))))))))):Option (((LiI × Int)) ⊕ (Unit))).bind (fun ex=>match ex with | Sum.inl Ai=>(some Ai) | Sum.inr (_)=>((AU9 fuel a9).bind fun Ad=>(if ¬ Ad=0 then (some ([],Ad)) else ((AVg fuel a7 a9).bind fun Ae=>((Ae2 fuel Ae).bind fun Aj=>((AVg fuel a3 a9).bind fun Ak=>((Ad7 fuel Ak Ae a9).bind fun Am=>((Ad7 fuel Aj Am a9).bind fun Ao=>(some (Ao,0)))))))))))
theorem Akd {fuel:Nat} {h:AGs} {Ax:Value} {a3:LiI} {Ay:Value} {a7:LiI} {a9:Int} {r:(LiI × Int)} (H2:AXq (cI .i64) h Ax a3) (H6:AXq (cI .i64) h Ay a7) (hp:Ael fuel a3 a7 a9=some r):ATt Tryz.prog 73 #[Ax,Ay,(.int .i64 a9)] h (fun x h'=>Ext h h'/\ ∃ (x0:Value) (F0:List Nat) (Bg:List LnA) (Bh:List Value),x= .tuple #[x0,.int .i64 r.2]/\AVo (cI .i64) 49 2 h' F0 Bg Bh x0 r.1/\Sp h' h.size [F0]):=by
 unfold Ael at hp;refine cwf (l:=[_,_,_]) Tryz.func73 rfl rfl (AGl (ATi (AGw ?_)));have K0:=Kst.k0 h;obtain ⟨Bi,Bj,Ab⟩:=AGm hp;refine Aey 17179868352 (fun x:Unit=>[]) (fun x h'=>(Sum.inr <| ())=Bi/\Kst h h' (K0.L)) ?_ ?_
 ·refine AGl (AGi ?_);obtain ⟨Bl,Bm,A6⟩:=AGm Bj;refine AXx K0 (Adj (H2.ext K0.x) Bm) fun B9 Ca Ah=>AWp rfl (AGi ?_);cases A7:(!Bl)
  ·refine ATo 13 false (AGi (ATo 13 false ?_));obtain ⟨Bn,Bo,A8⟩:=AGm (Aav A6 A7);refine AXx Ah (Adj (H6.ext Ah.x) Bo) fun Cb Cd Ac=>ATo 13 false (AWp rfl (ATq rfl (AGi ?_)));cases A9:(!Bn)
   ·refine ATo 18 false (AGi (ATo 18 false (AT3 AS8 rfl H2 (ATo 18 false (AGi (ATo 18 false ?_))))));obtain ⟨Bp,Bq,Ba⟩:=AGm (Aav A8 A9);refine Al8 AS8 rfl H2 rfl Bq fun Ce Cf Cg Br Bt=>ATo 18 false (ATz ATk rfl (ATl Br Ac.x) (ATo 18 false (AUn AS7 rfl Bt (ATo 18 false (AXa rfl rfl (ATq rfl (AGi ?_)))))));by_cases Ad: ¬ (a3.length:Int)=(Bp.length:Int)
    ·rw [decide_eq_true Ad];refine Acd 27 true (ATh rfl (AGq (ATn rfl (AGl (ATi (AGw ?_))))));obtain rfl:=AGk (ifT Ba Ad);refine AGy (ATb ?_);have Ai:=Kst.anil2 (cI .i64) 49 2 Ac;obtain rfl:=AGk Ab;exact ⟨_,AUm,Ai.x,_,_,_,_,rfl,(Ai.o2 p0),Ai.s.sel [0] AGj⟩
    ·have Bb:=ifF Ba Ad;rw [decide_eq_false Ad];refine ATo 27 false (AGi (ATo 27 false (AT3 AS8 rfl H6 (ATo 27 false (AGi (ATo 27 false (AT3 AS8 rfl H2 (ATo 27 false (AXa rfl rfl (ATq rfl (AGq (⟨_,rfl,fun Aj=>?_,fun Aj=>?_⟩))))))))))))
     ·refine AGl (ATi (AGw ?_));obtain rfl:=AGk (AT0 Bb Aj);refine AGy (ATb ?_);have Ak:=Kst.anil2 (cI .i64) 49 2 Ac;obtain rfl:=AGk Ab;exact ⟨_,AUm,Ak.x,_,_,_,_,rfl,(Ak.o2 p0),Ak.s.sel [0] AGj⟩
     ·refine AGx (q_t ?_);exact ⟨(():Unit),⟨AGk (AT1 Bb Aj),Ac⟩,trivial⟩
   ·refine Acd 18 true (Ae3 18 true (ATh rfl (AGi (Acd 27 true (ATh rfl (AGq (ATn rfl (AGl (ATi (AGw ?_))))))))));obtain rfl:=AGk (ifT A8 A9);refine AGy (ATb ?_);have Am:=Kst.anil2 (cI .i64) 49 2 Ac;obtain rfl:=AGk Ab;exact ⟨_,AUm,Am.x,_,_,_,_,rfl,(Am.o2 p0),Am.s.sel [0] AGj⟩
  ·refine Abq 13 true (ATh rfl (AGi (Acd 18 true (Ae3 18 true (ATh rfl (AGi (Acd 27 true (ATh rfl (AGq (ATn rfl (AGl (ATi (AGw ?_)))))))))))));obtain rfl:=AGk (ifT A6 A7);refine AGy (ATb ?_);have Ao:=Kst.anil2 (cI .i64) 49 2 Ah;obtain rfl:=AGk Ab;exact ⟨_,AUm,Ao.x,_,_,_,_,rfl,(Ao.o2 p0),Ao.s.sel [0] AGj⟩
 rintro ⟨⟩ Ch Ci ⟨Bu,Bv⟩;subst Bu;refine AGn (AGl (AGi ?_));obtain ⟨Cj,Bw,Bc⟩:=AGm Ab;refine AXx Bv (AYl Bw) fun Ck Cm Ap=>ATx (AGi (AXa rfl rfl (AGq (⟨_,rfl,fun Aq=>?_,fun Aq=>?_⟩))))
 ·refine AGl (AGi (ATi (AGw (AGy (ATb ?_)))));have Ar:=Kst.anil2 (cI .i64) 49 2 Ap;obtain rfl:=AGk (AT0 Bc Aq);exact ⟨_,AUm,Ar.x,_,_,_,_,rfl,(Ar.o2 p0),Ar.s.sel [0] AGj⟩
 ·refine AGx (q_t (AGl (AGi (AGi ?_))));obtain ⟨Cn,Bx,By⟩:=AGm (AT1 Bc Aq);refine Ahc Ap (AYr (H6.ext Ap.x) Bx) fun Co Cp Cq Cr Ct Cu Be=>ATx (AGi ?_);obtain ⟨Cv,Bz,B1⟩:=AGm By;refine Ahc Be (Alc (Be.o2 p0).rd Bz) fun Cw Cx Cy Cz C0 C1 Bf=>AGi (AGi ?_);obtain ⟨C2,B3,B4⟩:=AGm B1;refine Ahc Bf (AYr (H2.ext Bf.x) B3) fun C3 C4 C5 C6 C7 C8 Au=>AGi (AGi ?_);obtain ⟨C9,B5,B6⟩:=AGm B4;refine Ahc Au (Ahj (Au.o2 p0).rd (Au.o2 p2).rd B5) fun Da Db Dc Dd De Df Av=>AGi ?_;obtain ⟨Dg,B7,B8⟩:=AGm B6;refine Ahc Av (Ahj (Av.o2 p2).rd (Av.o2 p0).rd B7) fun Dh Di Dj Dk Dl Do Aw=>ATi (AGw (AGy ?_));obtain rfl:=AGk B8;exact ⟨_,AUm,Aw.x,_,_,_,_,rfl,(Aw.o2 p0),Aw.s.sel [0] AGj⟩
end Go.Proofs.YthbndcbclhkepaaGreatDoor
namespace Go.Proofs.YthbndcbclhkepaaGreatDoor
open Go Go.QF
set_option maxRecDepth 100000
theorem AY5 {α β:Type} {L:List α} {n:Nat} {x:α} {f:α->Option β} (hx:L[n]? =some x):(gI L (n:Int)).bind f=f x:=by
 unfold gI;rw [if_pos AGh,Int.toNat_natCast,hx];rfl
theorem Ar2 {α β:Type} {L:List α} {x:α} {f:α->Option β} (hx:L[0]? =some x):(gI L 0).bind f=f x:=AY5 (n:=0) hx
theorem AWt {i:Nat} (h:i<=1000000000):w64 ((i:Int) + 1)=((i + 1:Nat):Int):=by rw [wk AGh];omega
theorem Ar3 {n i r:Nat} {G:AS4} {g g':Nat->Int} (h:∀ c,c < n->g c=g' c):part n i (AUu G r g)=part n i (AUu G r g'):=by
 unfold part;refine AUd fun k _=>?_;split
 ·refine AUd fun c hc=>?_;by_cases hk:k=r
  ·subst hk;rw [AUw,AUw,h c hc]
  ·rw [AX7 _ _ hk,AX7 _ _ hk]
 ·rfl
theorem A49 {n i:Nat} {F:AS4} {g:Nat->Int} (h:∀ c,c < n->g c=F i c):part n (i + 1) (AUu F i g)=part n (i + 1) F:=by
 rw [Ar3 h,Ag0]
theorem A74 {body:Int × List (List Int)->Option ((Int × List (List Int)) ⊕ List (List Int))} {fuel n i:Nat} {G:AS4} (v:Nat->Int) (hf:n < fuel)
    (hs:∀ (j:Nat) (g:Nat->Int),j < n->g j=G i j->body ((j:Int),part n (i + 1) (AUu G i g))=some (.inl (((j + 1:Nat):Int),part n (i + 1) (AUu G i fun c=>if c=j then v j else g c))))
    (he:∀ X,body ((n:Int),X)=some (.inr X)):iter body fuel (0,part n (i + 1) G)=some (part n (i + 1) (AUu G i v)):=by
  apply ok_eq
  refine AUa (fun j s=>s=((j:Int),part n (i + 1) (AUu G i fun c=>if c < j then v c else G i c))) n ?_ hf fun j s hj hI=>?_
  · have:(fun c=>if c < 0 then v c else G i c)=G i:=funext fun c=>if_neg AGh;rw [this,Ag0];rfl
  · subst hI
    by_cases h:j < n
    · rw [hs j _ h (if_neg AGh)];refine AGp ⟨h,?_⟩;refine congrArg (fun z=>(((j + 1:Nat):Int),part n (i + 1) (AUu G i z))) (funext fun c=>?_)
      by_cases h1:c=j
      · rw [if_pos h1,if_pos AGh,h1]
      · rw [if_neg h1]
        by_cases h2:c < j
        · rw [if_pos h2,if_pos AGh]
        · rw [if_neg h2,if_neg AGh]
    · obtain rfl:j=n:=by omega
      rw [he];exact AGp (Ar3 fun c hc=>if_pos hc)
theorem A5a {body:Int × List (List Int)->Option ((Int × List (List Int)) ⊕ List (List Int))} {fuel n:Nat} (F:AS4) (hf:n < fuel)
    (hs:∀ i:Nat,i < n->body ((i:Int),part n i F)=some (.inl (((i + 1:Nat):Int),part n (i + 1) F))) (he:∀ X,body ((n:Int),X)=some (.inr X)):iter body fuel (0,List.replicate n ([]:List Int))=some (tab n n F):=by
  apply ok_eq;refine AUa (fun i s=>s=((i:Int),part n i F)) n (by rw [Afs n F];rfl) hf fun i s hi hI=>?_;subst hI
  by_cases h:i < n
  · rw [hs i h];exact AGp ⟨h,rfl⟩
  · obtain rfl:i=n:=by omega
    rw [he];exact AGp (Afr _ _)
theorem Atk {x m:Int} (hm:2<=m) (Ab:m<=2147483647):Int.tmod (w64 (Int.tmod x m + m)) m=x % m:=by
 have h1:=Int.tmod_lt_of_pos x (show 0 < m by omega);have h2:=Int.tmod_lt_of_pos (-x) (show 0 < m by omega);rw [Int.neg_tmod] at h2;rw [wk AGh,Int.tmod_eq_emod_of_nonneg AGh,Int.add_emod_right,Int.tmod_def,Int.sub_mul_emod_self_left]
theorem A5b {fuel n:Nat} {F:AS4} {m:Int} (hn:n<=8) (hm:2<=m) (Aa:m<=2147483647) (hf:100 < fuel):AVg fuel (tab n n F) m=some (tab n n fun i j=>F i j % m):=by
 unfold AVg;rw [AT5,if_pos AGh,Int.toNat_natCast,A5a (n:=n) (fun i j=>F i j % m) AGh (fun i hi=>?_) fun X=>?_]
 ·rfl
 ·unfold Aa6;dsimp only;rw [AT5,if_pos AGh,AY5 (AT7 hi),AUh,if_pos AGh,AY5 (Ajj hi),AU0,Int.toNat_natCast,AYq n (0:Int),Ahf,A74 (n:=n) (fun j=>F i j % m) AGh (fun j g hj hg=>?_) fun X=>?_]
  ·dsimp only [Option.bind_some];rw [Amw,A49 fun c _=>rfl,AWt AGh]
  ·unfold Aa5;dsimp only;rw [AUh,if_pos AGh,AY5 (ATv hj),AY5 (Adq AGh hi),if_pos AGh,if_pos AGh,AUw,AY5 (ATv hj),Atk hm Aa,AU0,AU0,AXp,Ae7 AGh,Amw,AWt AGh]
  ·unfold Aa5;dsimp only;rw [AUh,if_neg AGh]
 ·unfold Aa6;dsimp only;rw [AT5,if_neg AGh]
def Asf (n:Nat) (m:Int) (F:AS4):Prop:= ∀ i j,i < n->j < n->0<=F i j/\F i j < m
end Go.Proofs.YthbndcbclhkepaaGreatDoor
namespace Go.Proofs.YthbndcbclhkepaaGreatDoor
open Go Go.QF
set_option maxRecDepth 100000
set_option maxHeartbeats 4000000
def Ake (fuel:Nat) (Ac Ad Af:Int) (Ag:LiA) (Ah Ai Aa:Int) (Ab:LiI):Option ((Int × LiI) ⊕ ((LiI))):=
  (if Aa < (Ag.length:Int) then ((gI Ab Af).bind fun Aj=>((gI Aj Aa).bind fun Ak=>((gI Ab Ad).bind fun Ae=>((gI Ae Aa).bind fun Am=>(if Ac≠0 then (some (Sum.inl ((w64 (Aa + 1)),(sI Ab Ad (sI Ae Aa (Int.tmod (w64 (Am + (w64 ((w64 (Ac - (w64 (Int.tdiv Ai Ah)))) * Ak)))) Ac)))))) else none))))) else (some (Sum.inr<| Ab)))
def Akf (fuel:Nat) (Ah Aa Ab Af:Int) (Ac:LiI):Option ((Int × LiI) ⊕ ((Int × LiI))):=
  ((gI Ac Ab).bind fun Ag=>((gI Ag Aa).bind fun Ad=>(if ¬ Ad=0 then ((gI Ac Aa).bind fun Ai=>((gI Ai Aa).bind fun Aj=>(if Ad≠0 then ((((iter (fun s=>Ake fuel Ah Aa Ab Ag Ad Aj s.1 s.2) fuel (0,Ac)).bind (fun (Ak:LiI)=>(some ( Ak)))):Option (LiI)).bind fun Ae=>((gI Ae Ab).bind fun Am=>((gI Ae Aa).bind fun Ao=>(some (Sum.inl ((w64 (0 - Af)),(sI (sI Ae Aa Am) Ab Ao))))))) else none))) else (some (Sum.inr<| (Af,Ac))))))
def Akg (fuel:Nat) (Ad Ae Ac Aa:Int) (Ab:LiI):Option ((Int × Int × LiI) ⊕ ((Int × LiI))):=
  (if Aa < (Ab.length:Int) then ((iter (fun s=>Akf fuel Ad Ae Aa s.1 s.2) fuel (Ac,Ab)).bind (fun ((Af,Ag):Int × LiI)=>(some (Sum.inl (Af,(w64 (Aa + 1)),Ag))))) else (some (Sum.inr<| (Ac,Ab))))
def Akh (fuel:Nat) (Ad:LiI) (Ae Ab Aa:Int) (Ac:LiI):Option ((Int × Int × LiI) ⊕ ((Int × LiI))):=
  (if Aa < (Ad.length:Int) then ((iter (fun s=>Akg fuel Ae Aa s.1 s.2.1 s.2.2) fuel (Ab,(w64 (Aa + 1)),Ac)).bind (fun ((Af,Ag):Int × LiI)=>(some (Sum.inl (Af,(w64 (Aa + 1)),Ag))))) else (some (Sum.inr<| (Ab,Ac))))
def Aki (fuel:Nat) (a5:Int) (Ac:LiI) (Ad Ab:Int):Option ((Int × Int) ⊕ ((Int))):=
  (if Ab < (Ac.length:Int) then ((gI Ac Ab).bind fun Ae=>(if a5≠0 then ((gI Ae Ab).bind fun Af=>(if a5≠0 then (some (Sum.inl ((Int.tmod (w64 ((Int.tmod Ad a5) * Af)) a5),(w64 (Ab + 1))))) else none)) else none)) else (some (Sum.inr<| Ad)))
def Ajz (fuel:Nat) (a3:LiI) (a5:Int):Option (Int × Int):=
  ((AZs fuel a3).bind fun x6=>(if (!x6)=true then (some (0,3)) else ((AU9 fuel a5).bind fun Ac=>(if ¬ Ac=0 then (some (0,Ac)) else ((AVg fuel a3 a5).bind fun Ad=>(((((some ( a5)):Option (Int)).bind fun Af=>((iter (fun s=>Akh fuel Ad Af s.1 s.2.1 s.2.2) fuel (1,0,Ad)).bind (fun ((Ag,Ah):Int × LiI)=>(some ( (Ag,Ah)))))):Option (Int × LiI)).bind fun (Ai,Aj)=>((iter (fun s=>Aki fuel a5 Aj s.1 s.2) fuel ((w64 (Ai + a5)),0)).bind (fun (Ak:Int)=>(some (Ak,0))))))))))
theorem Apj {fuel:Nat} {h:AGs} {A8:Value} {a3:LiI} {a5:Int} {r:(Int × Int)} (H2:AXq (cI .i64) h A8 a3) (hp:Ajz fuel a3 a5=some r):ATt Tryz.prog 71 #[A8,(.int .i64 a5)] h (fun x h'=>Ext h h'/\x= .tuple #[.int .i64 r.1,.int .i64 r.2]):=by
 unfold Ajz at hp;refine cwf (l:=[_,_]) Tryz.func71 rfl rfl (AGl (ATi (AGw (AGn (AGl (AGi ?_))))));have K0:=Kst.k0 h;obtain ⟨x6,B1,Bc⟩:=AGm hp;refine AXx K0 (Ais (H2.ext K0.x) B1) fun Eb E9 Be=>AWp rfl (AGq (⟨_,rfl,fun Aj=>?_,fun Aj=>?_⟩))
 ·refine AGl (ATi (AGw (AGy (ATb ?_))));obtain rfl:=AGk (ifT Bc Aj);exact ⟨_,AUm,Be.x,rfl⟩
 ·refine AGx (q_t (AGn (AGl (AGi ?_))));obtain ⟨Ed,B3,Bf⟩:=AGm (Aav Bc Aj);refine AXx Be (AYl B3) fun Ee Ef Ak=>ATx (AGi (AXa rfl rfl (AGq (⟨_,rfl,fun Am=>?_,fun Am=>?_⟩))))
  ·refine AGl (AGi (ATi (AGw (AGy (ATb ?_)))));obtain rfl:=AGk (AT0 Bf Am);exact ⟨_,AUm,Ak.x,rfl⟩
  ·refine AGx (q_t (AGl (AGi (AGi ?_))));obtain ⟨B4,B5,B6⟩:=AGm (AT1 Bf Am);refine Ahc Ak (AYr (H2.ext Ak.x) B5) fun B7 B8 B9 Ab Eg Eh Ao=>ATx (AGi (AGi ?_));obtain ⟨Ca,Cb,Cd⟩:=AGm B6;refine ATc (K':=(fun xr h'=> ∃ x:(Int) × (LiI) × LnA × LnN × LvA,(x.1,x.2.1)=Ca/\xr=(.int .i64 x.1)/\Kst h h' (Ao.L.set 0 (aO2 (cI .i64) 49 2 x.2.2.1 x.2.2.2.1 x.2.2.2.2 Ab x.2.1)))) trivial rfl ?_ fun Ei Ej Ce=>?_
   ·refine cwf (l:=[_,_]) Tryz.func119 rfl rfl (AGl (ATx (AGi ?_)));obtain ⟨Cf,Cg,Ch⟩:=AGm Cb;refine ATc (K':=(fun xr h'=> ∃ x:(Nat) × (Int),x.2=Cf/\xr=(.func (.func 178) #[] #[(.pointer (some ⟨x.1,0,none⟩))])/\Kst h h' (aB 2 x.1 [(.int .i64 x.2)] :: Ao.L))) trivial rfl ?_ fun Ek El Ci=>?_
    ·refine cwf (l:=[_]) Tryz.func159 rfl rfl (AGl (AYn Ao [(.int .i64 a5)] fun Cj Em En Ck=>ATx (A2h rfl (AGw (AGy (⟨_,AS1,((Cj,a5):(Nat) × (Int)),?_,rfl,?_⟩))))))
     ·exact AGk Cg
     ·exact Ck
    obtain ⟨⟨Cm,Eo⟩,Cn,rfl,Ap⟩:=Ci;refine ⟨trivial,?_⟩;subst Cn;refine ATx (AGw (AGn (AGl (AGi (AT3 AS8 rfl (Ap.o2 p1).rd (AGi (AGq (AGo (AX3 18889465931478580847040 (fun x:(Int) × (Int) × (LiI) × LnA × LnN × LvA=>(x.1,x.2.1,x.2.2.1)) ((1,0,B4,B7,B8,B9):(Int) × (Int) × (LiI) × LnA × LnN × LvA) Ch (fun x=>[(6,(.int .i64 x.1)),(13,(.int .i64 x.2.1))]) (fun x=>Ap.L.set 1 (aO2 (cI .i64) 49 2 x.2.2.2.1 x.2.2.2.2.1 x.2.2.2.2.2 Ab x.2.2.1)) Ap ⟨rfl,rfl,trivial⟩ ?_)))))))));rintro ⟨Bg,Af,Bh,Bi,Bj,Bl⟩ Ep Er Es Aq Ar Co;unfold Akh at Ar;refine AGl (ATm rfl rfl (AGq (AGn (⟨_,rfl,fun Au=>?_,fun Au=>?_⟩))))
    ·refine AGx (q_t (AGn (AGo (AGl (AGi (ATx (AGi (ATj rfl rfl (AGw (AGo (AX3 9444732965739290165568 (fun x:(Int) × (Int) × (LiI) × LnA × LnN × LvA=>(x.1,x.2.1,x.2.2.1)) ((Bg,(w64 (Af + 1)),Bh,Bi,Bj,Bl):(Int) × (Int) × (LiI) × LnA × LnN × LvA) (AT0 Ar Au) (fun x=>[(6,(.int .i64 x.1)),(8,(.int .i64 x.2.1))]) (fun x=>Aq.L.set 1 (aO2 (cI .i64) 49 2 x.2.2.2.1 x.2.2.2.2.1 x.2.2.2.2.2 Ab x.2.2.1)) Aq ⟨rfl,rfl,trivial⟩ ?_)))))))))));rintro ⟨Cp,Av,Cq,Cr,Ct,Cu⟩ Et Eu Ev Ag Aw Cv;unfold Akg at Aw;refine AGn (AGl (AGi (AGi (AT3 AS8 rfl (Ag.o2 p1).rd (ATm rfl rfl (AGq (⟨_,rfl,fun Ax=>?_,fun Ax=>?_⟩)))))))
     ·refine AGx (q_t (AGn (AGo (AGo (AX3 9444732965739273650240 (fun x:(Int) × (LiI) × LnA × LnN × LvA=>(x.1,x.2.1)) ((Cp,Cq,Cr,Ct,Cu):(Int) × (LiI) × LnA × LnN × LvA) (AT0 Aw Ax) (fun x=>[(6,(.int .i64 x.1))]) (fun x=>Ag.L.set 1 (aO2 (cI .i64) 49 2 x.2.2.1 x.2.2.2.1 x.2.2.2.2 Ab x.2.1)) Ag ⟨rfl,trivial⟩ ?_)))));rintro ⟨Ew,Ey,Bm,Bn,Bo⟩ Ez Fa Fb Aa Bp Cw;unfold Akf at Bp;refine AGn (AGl (AGi (AGi ?_)));obtain ⟨Fc,Ac,Cx⟩:=AGm Bp;refine AUg AS8 ATk (Aa.o2 p1) Ac fun _ Fd Cy=>AGi ?_;obtain ⟨Cz,Bq,Br⟩:=AGm Cx;refine AWi (m:=Av) AS7 ATd (Aa.o2 p1) Cy Ac Bq fun _=>(AXa rfl rfl (AGq (⟨_,rfl,fun Ay=>?_,fun Ay=>?_⟩)))
      ·refine AGx (q_t (AGo (AGn (AXm (AGi (AGi (AGi ?_)))))));obtain ⟨Fe,Az,C0⟩:=AGm (AT0 Br Ay);refine AUg AS8 ATk (Aa.o2 p1) Az fun _ C1 Bt=>AGi (AGi (AUg AS8 ATk (Aa.o2 p1) Ac fun _ C2 Bu=>AGi (AGi (AUg AS8 ATk (Aa.o2 p1) Az fun _ Ff C3=>AGi ?_))));obtain ⟨C4,C5,C6⟩:=AGm C0;refine AWi (m:=Af) AS7 ATd (Aa.o2 p1) C3 Az C5 fun _=>(AGi (AGi (AUg AS8 ATk (Aa.o2 p1) Ac fun _ Fg C7=>AGi (AWi (m:=Av) AS7 ATd (Aa.o2 p1) C7 Ac Bq fun _=>?_))));obtain ⟨C8,C9⟩:=ifN C6;refine Asl rfl rfl C8 ?_;obtain ⟨Da,Db,Dc⟩:=AGm C9;refine Ap3 (l:=[C1,C2,(.int .i64 (w64 (Int.tdiv C4 Cz)))]) (cl:=[(.pointer (some ⟨Cm,0,none⟩))]) (K':=(fun xr h'=> ∃ x:(LiI),x=Da/\xr= .tuple #[]/\Kst h h' (Aa.L.set 1 (aO2 (cI .i64) 49 2 Bm Bn Bo Ab x)))) trivial rfl rfl ?_ fun Fh Fi Dd=>?_
       ·refine cwf (l:=[_,_,_,_]) Tryz.func178 rfl rfl (AGl (AGi (AUn AS7 rfl ((Aa.o2 p1).rowI Bu Ac) (AGi (AGq (AGo (AY2 4294965632 Db (fun x=>[(11,(.int .i64 x.1))]) (fun x=>Aa.L.set 1 (aO2 (cI .i64) 49 2 Bm Bn Bo Ab x.2)) Aa ⟨rfl,trivial⟩ ?_)))))));rintro ⟨Fj,De⟩ Fk Fl Fm Ad A3 Df;unfold Ake at A3;refine AGl (ATm rfl rfl (AGq (AGn (⟨_,rfl,fun A4=>?_,fun A4=>?_⟩))))
        ·refine AGx (q_t (AGn (AGo (AGl (AGi ?_)))));obtain ⟨Fo,Dg,Dh⟩:=AGm (AT0 A3 A4);obtain ⟨Fp,Di,Dj⟩:=AGm Dh;refine AWi (m:=Av) AS7 ATd (Ad.o2 p1) Bu Dg Di fun _=>(ATi (AGw (AXm (AGi (AGi (AGi (AGi ?_)))))));obtain ⟨Fq,Bv,Dk⟩:=AGm Dj;obtain ⟨Fr,Bw,Dl⟩:=AGm Dk;refine AWi (m:=Af) AS7 ATd (Ad.o2 p1) Bt Bv Bw fun _=>ATz ATd rfl ((Ad.b p0).cell (i:=0) rfl) (AGi (AVe rfl rfl (AGi (Abo rfl rfl (ATj rfl rfl (ATz ATd rfl ((Ad.b p0).cell (i:=0) rfl) ?_))))));obtain ⟨Do,Dp⟩:=ifN Dl;refine Afj rfl rfl Do (AZi (m:=Af) Ad p1 AS7 ATd Bt Bv Bw (fun _=>rfl) fun _ Ft Dq=>ATf (q_b (q_t (AS3 (ATj rfl rfl (AGi (AGq ?_)))))));exact ⟨_,(AGk Dp).symm,Dq,rfl,trivial⟩
        ·refine AS9 (ATa (ATa (AT9 (⟨_,AZg,(De:(LiI)),?_,rfl,?_⟩))))
         ·exact AGk (Df _ (AGk (AT1 A3 A4)).symm)
         ·exact Ad
       obtain ⟨Fu,Dr,rfl,Ah⟩:=Dd;refine ⟨trivial,?_⟩;subst Dr;refine AGq (AGn (AXm (AGi (AGi (AGi (AGi (AGi (AGi ?_))))))));obtain ⟨Fv,Bx,Ds⟩:=AGm Dc;refine AUg AS8 ATk (Ah.o2 p1) Bx fun _ Fw Dt=>AGi (AGi ?_);obtain ⟨Fx,By,Du⟩:=AGm Ds;refine AUg AS8 ATk (Ah.o2 p1) By fun _ Fy Dv=>Aff AS8 ATk (Ah.o2 p1) Dv Dt By Bx rfl rfl (fun _=>rfl) (fun _=>rfl) (fun _=>rfl) (fun _ _=>rfl) fun Fz F4 F5 F6 F7 F8 Dw Dx Dy=>AGq (AS3 (AGi (Aqo rfl (ATi (ATf (q_b (q_t ?_)))))));exact ⟨(_,_,_,_,_),(AGk Du).symm,(Ah.uo2 p1 Dx Dw Dy),rfl,trivial⟩
      ·refine AS9 (ATa (ATa (AT9 (q_b (q_t (AS3 (AGi (ATj rfl rfl (AGw ?_)))))))));exact ⟨(_,_,_,_,_,_),(AGk (Cw _ (AGk (AT1 Br Ay)).symm)).symm,Aa,rfl,rfl,trivial⟩
     ·refine AS9 (ATa (ATa (AT9 (q_b (q_t (AS3 (ATj rfl rfl (AGi (AGq ?_)))))))));exact ⟨(_,_,_,_,_,_),(AGk (Cv _ (AGk (AT1 Aw Ax)).symm)).symm,Ag,rfl,rfl,trivial⟩
    ·refine AS9 (ATa (ATa (AT9 (q_t (AGl (AGi (AGw (AGy (⟨_,AS1,((Bg,Bh,Bi,Bj,Bl):(Int) × (LiI) × LnA × LnN × LvA),?_,rfl,?_⟩)))))))))
     ·exact AGk (Co _ (AGk (AT1 Ar Au)).symm)
     ·exact Aq.sel [1] AGj
   obtain ⟨⟨F9,Ga,Gb,Gc,Gd⟩,Dz,rfl,A5⟩:=Ce;refine ⟨trivial,?_⟩;subst Dz;refine AGi (ATj rfl rfl (AGw (AGn (AGl (AGi (AT3 AS8 rfl (A5.o2 p0).rd (AGi (AGq (AGo (AY2 35183835219712 Cd (fun x=>[(8,(.int .i64 x.1)),(29,(.int .i64 x.2))]) (fun x=>A5.L) A5 ⟨rfl,rfl,trivial⟩ ?_))))))))));rintro ⟨Ge,D0⟩ Gf Gg Gh Ai A6 D1;unfold Aki at A6;refine AGl (ATm rfl rfl (AGq (AGn (⟨_,rfl,fun A7=>?_,fun A7=>?_⟩))))
   ·refine AGx (q_t (AGn (AGo (AGl (AGi ?_)))));obtain ⟨Gi,Bz,D2⟩:=AGm (AT0 A6 A7);refine AUg AS8 ATk (Ai.o2 p0) Bz fun _ Gj D3=>ATi (AGw (AXm (AGi (AGi ?_))));obtain ⟨D4,D5⟩:=ifN D2;refine Afj rfl rfl D4 (AGi (AGi ?_));obtain ⟨Gk,D6,D7⟩:=AGm D5;refine AWi (m:=D0) AS7 ATd (Ai.o2 p0) D3 Bz D6 fun _=>(Abo rfl rfl (AGi ?_));obtain ⟨D8,D9⟩:=ifN D7;refine Afj rfl rfl D8 (ATi (ATf (q_b (q_t (AS3 (ATj rfl rfl (AGi (AGq ?_))))))));exact ⟨_,(AGk D9).symm,Ai,rfl,rfl,trivial⟩
   ·refine AS9 (ATa (ATa (AT9 (q_t (AGl (AGi (ATi (AGw (AGy ?_)))))))));obtain rfl:=AGk (D1 _ (AGk (AT1 A6 A7)).symm);exact ⟨_,AUm,Ai.x,rfl⟩
end Go.Proofs.YthbndcbclhkepaaGreatDoor
namespace Go.Proofs.YthbndcbclhkepaaGreatDoor
open Go Go.QF
set_option maxRecDepth 100000
theorem A5c {E:Type} {body:Int->Option (Int ⊕ E)} {fuel n:Nat} {e:E} (hf:n < fuel) (hs:∀ i:Nat,i < n->body (i:Int)=some (.inl ((i + 1:Nat):Int))) (he:body (n:Int)=some (.inr e)):iter body fuel 0=some e:=by
 apply ok_eq;refine AUa (fun i s=>s=(i:Int)) n rfl hf fun i s hi hI=>?_;subst hI;by_cases h:i < n
 ·rw [hs i h];exact AGp ⟨h,rfl⟩
 ·obtain rfl:i=n:=by omega
  rw [he];exact AGp rfl
theorem Aw3 {fuel n:Nat} {F:AS4} (Aa:1<=n) (hn:n<=8) (hf:100 < fuel):AXs fuel (tab n n F)=some true:=by
 unfold AXs;rw [AT5,if_neg AGh,if_neg AGh,Ar2 (AT7 AGh),AUh,if_neg AGh,if_neg AGh];simp only [Option.bind_some];rw [A5c (n:=n) (e:= .inr ()) AGh (fun i hi=>?_) ?_]
 ·rfl
 ·unfold Adi;rw [AT5,if_neg AGh]
 ·unfold Adi;rw [AT5,if_pos AGh,AY5 (AT7 hi),Ar2 (AT7 AGh),AUh,AUh,if_neg (fun h=>h rfl),AWt AGh]
theorem Aop {n j:Nat} {g:Nat->Int} {x:Int}:sI (AVk n g) (j:Int) x=AVk n fun c=>if c=j then x else g c:=by rw [AU0,AXp]
theorem Aa3 {n i:Nat} {F:AS4} {g:Nat->Int}:sI (tab n n F) (i:Int) (AVk n g)=tab n n (AUu F i g):=by
 rw [AU0];exact Aec
theorem Aw4 {n r:Nat} {F:AS4} {g g':Nat->Int} (h:∀ c,c < n->g c=g' c):tab n n (AUu F r g)=tab n n (AUu F r g'):=Afk fun i j _ hj=>by
  rw [ATy,ATy,h j hj]
end Go.Proofs.YthbndcbclhkepaaGreatDoor
namespace Go.Proofs.YthbndcbclhkepaaGreatDoor
open Go Go.QF
set_option maxRecDepth 100000
set_option maxHeartbeats 4000000
def Ad8 (fuel:Nat) (a3 a7:(List AX4)) (Ac:Int):Option ((Int) ⊕ ((Bool) ⊕ (Unit))):=
  (if Ac < (a3.length:Int) then ((gI a3 Ac).bind fun Aa=>((gI a7 Ac).bind fun Ab=>(if (!(decide ((Aa.1,Aa.2.1,Aa.2.2.1,Aa.2.2.2.1,Aa.2.2.2.2)=(Ab.1,Ab.2.1,Ab.2.2.1,Ab.2.2.2.1,Ab.2.2.2.2))))=true then (some (Sum.inr<| Sum.inl <| false)) else (some (Sum.inl (w64 (Ac + 1))))))) else (some (Sum.inr<| Sum.inr <| ())))
def Ab4 (fuel:Nat) (a3 a7:(List AX4)):Option Bool:=
  (if ¬ (a3.length:Int)=(a7.length:Int) then (some false) else ((iter (fun s=>Ad8 fuel a3 a7 s) fuel 0).bind (fun ex=>match ex with | Sum.inl Ac=>(some Ac) | Sum.inr (_)=>(some true))))
theorem Ah7 {fuel:Nat} {h:AGs} {Ah:Value} {a3:(List AX4)} {Aj:Value} {a7:(List AX4)} {r:Bool} (H2:SlC Af5 h Ah a3) (H6:SlC Af5 h Aj a7) (hp:Ab4 fuel a3 a7=some r):ATt Tryz.prog 39 #[Ah,Aj] h (fun x h'=>Ext h h'/\x= .bool r):=by
 unfold Ab4 at hp;refine cwf (l:=[_,_]) Tryz.func39 rfl rfl (AGl (AGw (AGn (AGl (AGi (AUn Ali rfl H2 (AGi (AUn Ali rfl H6 (AXa rfl rfl (AGq ?_))))))))));have K0:=Kst.k0 h;refine ⟨_,rfl,fun Ad=>?_,fun Ad=>?_⟩
 ·refine AGl (AGw (AGy (ATb ?_)));obtain rfl:=AGk (AT0 hp Ad);exact ⟨_,AS1,K0.x,rfl⟩
 ·refine AGx (q_t (AGn (AGl (AGi (AUn Ali rfl H2 (AGi (AGq (AGo (AY2 67100720 (AT1 hp Ad) (fun x=>[(13,(.int .i64 x))]) (fun x=>K0.L) K0 ⟨rfl,trivial⟩ ?_)))))))));rintro Az A3 A4 A5 Aa Ae Ao;unfold Ad8 at Ae;refine AGl (ATm rfl rfl (AGq (AGn (⟨_,rfl,fun Af=>?_,fun Af=>?_⟩))))
  ·refine AGx (q_t (AGn (AGo (AGl (AGi (AGw (AGn (AXm (AGi (AGi ?_))))))))));obtain ⟨A6,Aq,Ar⟩:=AGm (AT0 Ae Af);refine Ac0 (c:=Af5) Ali rfl H2 rfl Aq fun A7 A8 A9 Au Av=>?_;obtain rfl:=Au;refine Afm (c:=Af5) At0 rfl rfl (fun j u hu=>(ATl (Av j u hu) Aa.x)) (AGi (AGi ?_));obtain ⟨Ba,Aw,Ap⟩:=AGm Ar;refine Ac0 (c:=Af5) Ali rfl H6 rfl Aw fun Bb Bc Be Ax Ay=>?_;obtain rfl:=Ax;refine Afm (c:=Af5) At0 rfl rfl (fun j u hu=>(ATl (Ay j u hu) Aa.x)) (BBd AGv rfl rfl (BBm _ _ _ _ _ _ _ _ _ _) (AGq (⟨_,rfl,fun Ag=>?_,fun Ag=>?_⟩)))
   ·refine AGl (AGw (AGy (AUf (ATb (ATb (AUf (ATb ?_)))))));obtain rfl:=AGk (Ao _ (AGk (ifT Ap Ag)).symm);exact ⟨_,AS1,Aa.x,rfl⟩
   ·refine AGx (q_b (q_t (AS3 (ATj rfl rfl (AGi (AGq ?_))))));exact ⟨_,(AGk (Aav Ap Ag)).symm,Aa,rfl,trivial⟩
  ·refine AS9 (ATa (ATa (AT9 (q_t (AGl (AGw (AGy ?_)))))));obtain rfl:=AGk (Ao _ (AGk (AT1 Ae Af)).symm);exact ⟨_,AS1,Aa.x,rfl⟩
end Go.Proofs.YthbndcbclhkepaaGreatDoor
namespace Go.Proofs.YthbndcbclhkepaaGreatDoor
open Go Go.QF
set_option maxRecDepth 100000
theorem BAp {E:Type} {body:Int->Option (Int ⊕ (E ⊕ Unit))} {fuel n:Nat} (good:Nat->Prop) (bad:E) (hf:n < fuel) (hs:∀ i:Nat,i < n->Ok (body (i:Int)) fun r=>(r= .inl ((i + 1:Nat):Int)/\good i)∨(r= .inr (.inl bad)/\¬ good i)) (he:body (n:Int)=some (.inr (.inr ()))):
    Ok (iter body fuel 0) fun ex=>(ex= .inr ()/\ ∀ i,i < n->good i)∨(ex= .inl bad/\¬ ∀ i,i < n->good i):=by
  refine AUa (fun i s=>s=(i:Int)/\ ∀ j,j < i->good j) n ⟨rfl,fun j hj=>absurd hj (Nat.not_lt_zero j)⟩ hf fun i s hi hI=>?_;obtain ⟨rfl,hI⟩:=hI
  by_cases h:i < n
  · refine A64 (hs i h) fun r hr=>?_
    rcases hr with ⟨rfl,hg⟩ | ⟨rfl,hg⟩
    · exact ⟨h,rfl,fun j hj=>(Nat.lt_succ_iff_lt_or_eq.1 hj).elim (hI j) fun e=>e ▸ hg⟩
    · exact .inr ⟨rfl,fun hall=>hg (hall i h)⟩
  · obtain rfl:i=n:=by omega
    rw [he];exact AGp (.inl ⟨rfl,hI⟩)
theorem Adk {p:Int} (hp:1<=p) {a b:Nat} (h:a<=b):p ^ a<=p ^ b:=by
 obtain ⟨c,rfl⟩:∃ c,b=a + c:=⟨b - a,AGh⟩;rw [Int.pow_add];have h1:0 < p ^ a:=Int.pow_pos AGh;have h2:0 < p ^ c:=Int.pow_pos AGh;have:=Int.mul_le_mul_of_nonneg_left (show 1<=p ^ c by omega) (Int.le_of_lt h1);omega
theorem A5d {p:Int} {k:Nat} (hp:2<=p) (h:p ^ k<=2147483647):k<=30:=by
 rcases Nat.lt_or_ge 30 k with h1 | h1
 ·exfalso;have h2:=Adk (p:=p) AGh (show 31<=k by omega);have h3:(2:Int) ^ 31<=p ^ 31:=Adh AGh hp 31;have h5:(2:Int) ^ 31=2147483648:=by decide
  omega
 ·exact h1
def Aux (F:AS4) (r c:Nat) (x:Int):AS4:=AUu F r fun q=>if q=c then x else F r q
theorem Akj (F:AS4) (r c:Nat) (x:Int) (i j:Nat):Aux F r c x i j=if i=r/\j=c then x else F i j:=by
 unfold Aux;rw [ATy];by_cases h:i=r
 ·rw [if_pos h];by_cases h2:j=c
  ·rw [if_pos h2,if_pos ⟨h,h2⟩]
  ·rw [if_neg h2,if_neg (fun e=>h2 e.2),h]
 ·rw [if_neg h,if_neg (fun e=>h e.1)]
def A5e (F:AS4) (r:Nat) (a b c:Int):AS4:=Aux (Aux (Aux (Aux F r r a) r (r + 1) b) (r + 1) r b) (r + 1) (r + 1) c
def Asg (p:Int):List AW8->Nat->(AS4)->(AS4)
  | [],_,F=>F
  | b :: l,r,F=>if b.2.1=2 then Asg p l (r + 2) (A5e F r (p ^ b.1.toNat * b.2.2.1) (p ^ b.1.toNat * b.2.2.2.1) (p ^ b.1.toNat * b.2.2.2.2)) else Asg p l (r + 1) (Aux F r r (p ^ b.1.toNat * b.2.2.1))
def Ady:List AW8->Nat
  | []=>0
  | b :: l=>b.2.1.toNat + Ady l
def Ayj (p:Int) (k:Nat) (b:AW8):Prop:=(0<=b.1/\b.1<=if p=2 then (k:Int) - 3 else (k:Int) - 1)/\
  if b.2.1=1 then (0 < b.2.2.1/\b.2.2.1 < p ^ (k - b.1.toNat))/\¬ p ∣ b.2.2.1/\b.2.2.2.1=0/\b.2.2.2.2=0
  else ((0<=b.2.2.1/\b.2.2.1 < p ^ (k - b.1.toNat))/\(0<=b.2.2.2.1/\b.2.2.2.1 < p ^ (k - b.1.toNat))/\0<=b.2.2.2.2/\b.2.2.2.2 < p ^ (k - b.1.toNat))/\b.2.2.1 % 2=0/\b.2.2.2.1 % 2=1/\b.2.2.2.2 % 2=0
def Asc (L:List AW8) (i:Nat):Prop:=0 < i-> ∀ b c,L[i]? =some b->L[i - 1]? =some c->c.1<=b.1
def RG (p:Int) (k:Nat) (L:List AW8) (i:Nat):Prop:=(∀ b,L[i]? =some b->Ayj p k b)/\Asc L i
end Go.Proofs.YthbndcbclhkepaaGreatDoor
namespace Go.Proofs.YthbndcbclhkepaaGreatDoor
open Go Go.QF
structure Eli (n K:Nat) (p:Int) (H T G:AS4):Prop where
  c:Car n K p H T G
  d:Eqm (p ^ K) (det n T * det n T) 1
theorem Aoq {n:Nat} {m:Int} {A A' B B':AS4} {i j:Nat} (hA:∀ k,k < n->Eqm m (A i k) (A' i k)) (hB:∀ k,k < n->Eqm m (B k j) (B' k j)):Eqm m (AUt n A B i j) (AUt n A' B' i j):=Eqm.psum fun k hk=>(hA k hk).mul (hB k hk)
theorem Eli.step {n K:Nat} {p:Int} {H T G E T' G':AS4} (S:Eli n K p H T G) (hE:det n E * det n E=1) (hT:∀ i j,i < n->j < n->Eqm (p ^ K) (T' i j) (AUt n T E i j)) (hG:∀ i j,i < n->j < n->Eqm (p ^ K) (G' i j) (AUt n (trF E) (AUt n G E) i j)):Eli n K p H T' G':=by
 refine ⟨fun i j hi hj=>?_,?_⟩
 ·have h1:Eqm (p ^ K) (AUt n (trF T') (AUt n H T') i j) (AUt n (trF (AUt n T E)) (AUt n H (AUt n T E)) i j):=Aoq (fun k hk=>hT k i hk hi) fun k hk=>Aoq (fun l hl=>Eqm.refl _ _) fun l hl=>hT l j hl hj;refine h1.trans (Eqm.trans (Eqm.of_eq ?_) ((Aoq (fun k hk=>Eqm.refl _ _) fun k hk=>Aoq (fun l hl=>S.c k l hk hl) fun l hl=>Eqm.refl _ _).trans (hG i j hi hj).symm));rw [Afi (fun k hk=>Aqh i k) (fun k hk=>rfl),Adg];refine Afi (fun _ _=>rfl) fun k hk=>?_;rw [Adg];refine Afi (fun _ _=>rfl) fun l hl=>?_;rw [Adg]
 ·have h1:Eqm (p ^ K) (det n T') (det n T * det n E):=by rw [<- Alb];exact Azv hT
  refine (h1.mul h1).trans (Eqm.trans (Eqm.of_eq ?_) S.d);rw [show det n T * det n E * (det n T * det n E)=det n T * det n T * (det n E * det n E) by grind,hE,Int.mul_one]
theorem BAq {n K:Nat} {p:Int} {H G:AS4} (hG:∀ i j,i < n->j < n->Eqm (p ^ K) (G i j) (H i j)):Eli n K p H dl G:=by
 refine ⟨fun i j hi hj=>?_,by rw [Ao7];exact Eqm.refl _ _⟩
 ·refine Eqm.trans (Eqm.of_eq ?_) (hG i j hi hj).symm;exact (Az8 (n:=n) (A:=H) i j hi hj).symm
def Ayk (j k:Nat) (c:Int):AS4:=AUu dl k fun x=>dl k x + c * dl j x
theorem A5f (j k:Nat) (c:Int) (a b:Nat):Ayk j k c a b=dl a b + (if a=k then c * dl j b else 0):=by
 unfold Ayk;rw [ATy];by_cases h:a=k
 ·subst h;rw [if_pos rfl,if_pos rfl]
 ·rw [if_neg h,if_neg h];simp
theorem A5g {n j k:Nat} {c:Int} (hj:j < n) (hk:k < n) (hne:k≠j):det n (Ayk j k c) * det n (Ayk j k c)=1:=by
 unfold Ayk;rw [Aeg hk hj hne,Ao7];rfl
theorem Aor {n j k:Nat} {c:Int} {T:AS4} {a b:Nat} (hk:k < n) (hb:b < n):AUt n T (Ayk j k c) a b=T a b + (if b=j then c * T a k else 0):=by
 unfold AUt
 rw [ATu (g:=fun l=>T a l * dl l b + (if l=k then T a k * (c * dl j b) else 0)) fun l _=>by
   rw [A5f];by_cases h:l=k
   · subst h;rw [if_pos rfl,if_pos rfl];grind
   · rw [if_neg h,if_neg h];simp,Ado,Ax6 hb,Aer hk fun l _ hne=>if_neg hne,if_pos rfl]
 unfold dl;by_cases h:b=j
 ·subst h;rw [if_pos rfl,if_pos rfl];grind
 ·rw [if_neg h,if_neg fun h2=>h h2.symm];simp
theorem A75 {n j k:Nat} {c:Int} {M:AS4} {a b:Nat} (hk:k < n) (ha:a < n):AUt n (trF (Ayk j k c)) M a b=M a b + (if a=j then c * M k b else 0):=by
 have:=Aor (T:=trF M) (j:=j) (c:=c) (a:=b) hk ha;rw [<- show trF (trF M)=M from rfl,<- Aqh];exact this
theorem Eli.add {n K:Nat} {p:Int} {H T G T' G':AS4} {j k:Nat} {c:Int} (S:Eli n K p H T G) (hj:j < n) (hk:k < n) (hne:k≠j) (hT:∀ a b,a < n->b < n->Eqm (p ^ K) (T' a b) (T a b + if b=j then c * T a k else 0)) (hG:∀ a b,a < n->b < n->Eqm (p ^ K) (G' a b) (G a b + (if b=j then c * G a k else 0) + if a=j then c * (G k b + if b=j then c * G k k else 0) else 0)):Eli n K p H T' G':=
  S.step (A5g hj hk hne) (fun a b ha hb=>by rw [Aor hk hb];exact hT a b ha hb) fun a b ha hb=>by
    rw [A75 hk ha,Aor hk hb,Aor hk hb]
    exact hG a b ha hb
def sw2 (i j a:Nat):Nat:=if a=j then i else if a=i then j else a
theorem Ant {n i j a:Nat} (hi:i < n) (hj:j < n) (ha:a < n):sw2 i j a < n:=by
 unfold sw2;by_cases h1:a=j
 ·rw [if_pos h1];exact hi
 ·rw [if_neg h1];by_cases h2:a=i
  ·rw [if_pos h2];exact hj
  ·rw [if_neg h2];exact ha
theorem A0g (i j a:Nat):sw2 i j (sw2 i j a)=a:=by
 unfold sw2;by_cases h1:a=j
 ·subst h1;rw [if_pos rfl];by_cases h2:i=a
  ·rw [if_pos h2,h2]
  ·rw [if_neg h2,if_pos rfl]
 ·rw [if_neg h1];by_cases h2:a=i
  ·subst h2;rw [if_pos rfl,if_pos rfl]
  ·rw [if_neg h2,if_neg h1,if_neg h2]
theorem Auy (i j a b:Nat):AXw dl i j a b=dl (sw2 i j a) b:=by
 rw [Aeq];unfold sw2;by_cases h1:a=j
 ·rw [if_pos h1,if_pos h1]
 ·rw [if_neg h1,if_neg h1];by_cases h2:a=i
  ·rw [if_pos h2,if_pos h2]
  ·rw [if_neg h2,if_neg h2]
theorem A76 {n i j:Nat} (hi:i < n) (hj:j < n):det n (AXw dl i j) * det n (AXw dl i j)=1:=by
 by_cases h:i=j
 ·subst h
  rw [AUp (G:=dl) fun a b _ _=>by
    rw [Auy];unfold sw2;by_cases h:a=i
    · rw [if_pos h,h]
    · rw [if_neg h,if_neg h],Ao7];rfl
 ·rw [Aip hi hj h,Ao7];rfl
theorem Auz {n i j:Nat} {T:AS4} {a b:Nat} (hi:i < n) (hj:j < n) (hb:b < n):AUt n T (AXw dl i j) a b=T a (sw2 i j b):=by
 unfold AUt;rw [Aer (Ant hi hj hb) fun k _ hne=>?_]
 ·rw [Auy,A0g];unfold dl;rw [if_pos rfl];simp
 ·rw [Auy];unfold dl;rw [if_neg fun h=>hne (by rw [<- h,A0g])];simp
theorem BAr {n i j:Nat} {M:AS4} {a b:Nat} (hi:i < n) (hj:j < n) (ha:a < n):AUt n (trF (AXw dl i j)) M a b=M (sw2 i j a) b:=by
 have:=Auz (T:=trF M) (a:=b) hi hj ha;rw [<- show trF (trF M)=M from rfl,<- Aqh];exact this
theorem Eli.swap {n K:Nat} {p:Int} {H T G T' G':AS4} {i j:Nat} (S:Eli n K p H T G) (hi:i < n) (hj:j < n) (hT:∀ a b,a < n->b < n->T' a b=T a (sw2 i j b)) (hG:∀ a b,a < n->b < n->G' a b=G (sw2 i j a) (sw2 i j b)):Eli n K p H T' G':=
  S.step (A76 hi hj) (fun a b ha hb=>by rw [Auz hi hj hb,hT a b ha hb];exact Eqm.refl _ _) fun a b ha hb=>by
    rw [BAr hi hj ha,Auz hi hj hb,hG a b ha hb];exact Eqm.refl _ _
theorem Eli.sym {n K:Nat} {p:Int} {H T G:AS4} (S:Eli n K p H T G) (hs:∀ i j,i < n->j < n->H i j=H j i) (hG:Asf n (p ^ K) G) {i j:Nat} (hi:i < n) (hj:j < n):G i j=G j i:=by
 refine A1c ?_ (hG i j hi hj) (hG j i hj hi);refine (S.c i j hi hj).symm.trans (Eqm.trans (Eqm.of_eq ?_) (S.c j i hj hi));show psum (fun a=>T a i * psum (fun b=>H a b * T b j) n) n=psum (fun a=>T a j * psum (fun b=>H a b * T b i) n) n;rw [ATu (g:=fun a=>psum (fun b=>T a i * (H a b * T b j)) n) fun a _=>(AX2 _ _ _).symm,Amx,ATu (f:=fun a=>T a j * psum (fun b=>H a b * T b i) n) (g:=fun a=>psum (fun b=>T a j * (H a b * T b i)) n) fun a _=>(AX2 _ _ _).symm];refine ATu fun a ha=>ATu fun b hb=>?_;rw [hs b a hb ha];grind
theorem Eli.det {n K:Nat} {p:Int} {H T G:AS4} (S:Eli n K p H T G):Eqm (p ^ K) (QF.det n G) (QF.det n H):=by
 have h1:Eqm (p ^ K) (QF.det n G) (QF.det n (AUt n (trF T) (AUt n H T))):=Azv fun i j hi hj=>(S.c i j hi hj).symm;refine h1.trans ?_;rw [Alb,Alb,Ahu];refine Eqm.trans (Eqm.of_eq (show QF.det n T * (QF.det n H * QF.det n T)=QF.det n H * (QF.det n T * QF.det n T) by grind)) ?_;have:=(Eqm.refl (p ^ K) (QF.det n H)).mul S.d;rwa [Int.mul_one] at this
theorem Eli.some {n K k:Nat} {p:Int} {H T G:AS4} (S:Eli n K p H T G) (hd: ¬ p ^ K ∣ QF.det n H) (hk:k < n) (hz:∀ j,j < k->G k j=0):∃ j,k<=j/\j < n/\G k j≠0:=by
  refine Classical.byContradiction fun hn=>hd ?_
  have h0:QF.det n G=0:=Ala hk fun j hj=>Classical.byContradiction fun h=>hn ⟨j,by
    rcases Nat.lt_or_ge j k with hl | hl
    · exact absurd (hz j hl) h
    · exact hl,hj,h⟩
  have:=S.det;rw [h0] at this;exact Aut.1 this.symm
theorem Eli.unit {n K:Nat} {p:Int} {H T G:AS4} (S:Eli n K p H T G) (hp:2<=p) (hK:1<=K):QF.det n T % p≠0:=fun h=>by
  have h1:Eqm p (QF.det n T * QF.det n T) 1:=S.d.down ⟨p ^ (K - 1),by rw [<- Int.pow_succ'];congr 1;omega⟩
  have h2:p ∣ (1:Int):=Aom h1.symm (Int.dvd_refl p) (Int.dvd_trans (Int.dvd_of_emod_eq_zero h) ⟨_,rfl⟩)
  have:=Int.le_of_dvd AGj h2
  omega
def Anu (q:Int) (j l:Nat) (c:Int) (T:AS4):AS4:=fun a b=>if b=j then (T a j + c * T a l) % q else T a b
def A5h (q:Int) (j l:Nat) (c:Int) (G:AS4):AS4:=fun a b=>if a=j then (G j b + c * G l b) % q else G a b
def Ar4 (q:Int) (j l:Nat) (c:Int) (G:AS4):AS4:=A5h q j l c (Anu q j l c G)
def swC (i j:Nat) (T:AS4):AS4:=fun a b=>T a (sw2 i j b)
def swG (i j:Nat) (G:AS4):AS4:=fun a b=>G (sw2 i j a) (sw2 i j b)
theorem Aem (q:Int) (j l:Nat) (c:Int) (G:AS4) (a b:Nat):Ar4 q j l c G a b=if a=j then (if b=j then ((G j j + c * G j l) % q + c * ((G l j + c * G l l) % q)) % q else (G j b + c * G l b) % q) else if b=j then (G a j + c * G a l) % q else G a b:=by
 unfold Ar4 A5h Anu;by_cases h:a=j
 ·rw [if_pos h,if_pos h];by_cases h2:b=j
  ·rw [if_pos h2,if_pos h2,if_pos h2]
  ·rw [if_neg h2,if_neg h2,if_neg h2]
 ·rw [if_neg h,if_neg h]
theorem A0h {d q x:Int} (hq:d ∣ q) (hx:d ∣ x):d ∣ x % q:=by
 rw [Int.emod_def];exact Int.dvd_sub hx (Int.dvd_trans hq ⟨_,rfl⟩)
theorem Aqj {q:Int} (hq:0 < q) (x:Int):0<=x % q/\x % q < q:=⟨Int.emod_nonneg _ AGh,Int.emod_lt_of_pos _ hq⟩
theorem Atm {n j l:Nat} {q c:Int} {T:AS4} (hq:0 < q) (h:Asf n q T):Asf n q (Anu q j l c T):=fun a b ha hb=>by
  unfold Anu;split
  · exact Aqj hq _
  · exact h a b ha hb
theorem A1y {n j l:Nat} {q c:Int} {G:AS4} (hq:0 < q) (h:Asf n q G):Asf n q (Ar4 q j l c G):=fun a b ha hb=>by
  unfold Ar4 A5h;split
  · exact Aqj hq _
  · exact Atm hq h a b ha hb
theorem Ayl {k i j a:Nat} (hi:k<=i) (hj:k<=j) (ha:k<=a):k<=sw2 i j a:=by
 unfold sw2;by_cases h1:a=j
 ·rw [if_pos h1];exact hi
 ·rw [if_neg h1];by_cases h2:a=i
  ·rw [if_pos h2];exact hj
  ·rw [if_neg h2];exact ha
theorem Au0 {i j a:Nat} (hi:a≠i) (hj:a≠j):sw2 i j a=a:=by unfold sw2;rw [if_neg hj,if_neg hi]
def Apk (L:List AW8):Prop:= ∀ b∈L,b.2.1=1∨b.2.1=2
theorem Ag4 (c:AW8) (L:List AW8):Ady (c :: L)=c.2.1.toNat + Ady L:=rfl
theorem Apl (p:Int) (c:AW8) (L:List AW8) (r:Nat) (F:AS4):Asg p (c :: L) r F=if c.2.1=2 then Asg p L (r + 2) (A5e F r (p ^ c.1.toNat * c.2.2.1) (p ^ c.1.toNat * c.2.2.2.1) (p ^ c.1.toNat * c.2.2.2.2)) else Asg p L (r + 1) (Aux F r r (p ^ c.1.toNat * c.2.2.1)):=rfl
theorem Aos {p:Int} {b:AW8}:∀ {L:List AW8} {r:Nat} {F:AS4},Apk L->Asg p (L ++ [b]) r F=Asg p [b] (r + Ady L) (Asg p L r F)
  | [],r,F,_=>rfl
  | c :: L,r,F,h=>by
    have h1:Apk L:=fun x hx=>h x (List.mem_cons_of_mem _ hx)
    rw [List.cons_append,Apl p c (L ++ [b]),Apl p c L,Ag4]
    rcases h c ATw with hc | hc
    · rw [if_neg AGh,if_neg AGh,Aos h1,show r + 1 + Ady L=r + (c.2.1.toNat + Ady L) by omega]
    · rw [if_pos hc,if_pos hc,Aos h1,show r + 2 + Ady L=r + (c.2.1.toNat + Ady L) by omega]
theorem Aw5 (F:AS4) (r:Nat) (a b c:Int) (i j:Nat):A5e F r a b c i j=if i=r/\j=r then a else if i=r/\j=r + 1 then b else if i=r + 1/\j=r then b else if i=r + 1/\j=r + 1 then c else F i j:=by
 unfold A5e;rw [Akj,Akj,Akj,Akj];by_cases h1:i=r
 ·subst h1;rw [if_neg AGh,if_neg AGh];by_cases h2:j=i
  ·subst h2;rw [if_neg AGh,if_pos ⟨rfl,rfl⟩,if_pos ⟨rfl,rfl⟩]
  ·by_cases h3:j=i + 1
   ·subst h3;rw [if_pos ⟨rfl,rfl⟩,if_neg AGh,if_pos ⟨rfl,rfl⟩]
   ·rw [if_neg AGh,if_neg AGh,if_neg AGh,if_neg AGh,if_neg AGh,if_neg AGh]
 ·by_cases h4:i=r + 1
  ·subst h4;by_cases h2:j=r
   ·subst h2;rw [if_neg AGh,if_pos ⟨rfl,rfl⟩,if_neg AGh,if_neg AGh,if_pos ⟨rfl,rfl⟩]
   ·by_cases h3:j=r + 1
    ·subst h3;rw [if_pos ⟨rfl,rfl⟩,if_neg AGh,if_neg AGh,if_neg AGh,if_pos ⟨rfl,rfl⟩]
    ·rw [if_neg AGh,if_neg AGh,if_neg AGh,if_neg AGh,if_neg AGh,if_neg AGh,if_neg AGh,if_neg AGh]
  ·rw [if_neg AGh,if_neg AGh,if_neg AGh,if_neg AGh,if_neg AGh,if_neg AGh,if_neg AGh,if_neg AGh]
theorem Ar5 {p:Int} {i j:Nat}:∀ {L:List AW8} {r:Nat} {F:AS4},Apk L->(r + Ady L<=i∨r + Ady L<=j)->Asg p L r F i j=F i j
  | [],r,F,_,_=>rfl
  | c :: L,r,F,h,ho=>by
    have h1:Apk L:=fun x hx=>h x (List.mem_cons_of_mem _ hx)
    rw [Ag4] at ho
    rw [Apl]
    rcases h c ATw with hc | hc
    · rw [if_neg AGh,Ar5 h1 AGh,Akj,if_neg AGh]
    · rw [if_pos hc,Ar5 h1 AGh,Aw5,if_neg AGh,if_neg AGh,if_neg AGh,if_neg AGh]
theorem Amn {L:List AW8} {b:AW8}:Ady (L ++ [b])=Ady L + b.2.1.toNat:=by
 induction L with
 | nil=>simp [Ady]
 | cons c L ih=>rw [List.cons_append,Ag4,Ag4,ih];omega
abbrev bm (L:List AW8):AS4:=Asg 2 L 0 fun _ _=>0
structure DS (n K:Nat) (H T G:AS4) (L:List AW8) (k E:Nat):Prop where
  rt:Asf n (2 ^ K) T
  rg:Asf n (2 ^ K) G
  e:Eli n K 2 H T G
  z:∀ i j,i < k->k<=j->j < n->G i j=0
  w:∀ i j,i < k->j < k->G i j=bm L i j
  fl:∀ i j,k<=i->i < n->k<=j->j < n->(2:Int) ^ E ∣ G i j
section
variable {n K k E:Nat} {H T G:AS4} {L:List AW8}
theorem DS.add {j l:Nat} {c:Int} (S:DS n K H T G L k E) (hE:E<=K) (hj:k<=j) (hjn:j < n) (hl:k<=l) (hln:l < n) (hne:l≠j):DS n K H (Anu (2 ^ K) j l c T) (Ar4 (2 ^ K) j l c G) L k E:=by
 have hq:(0:Int) < 2 ^ K:=Int.pow_pos AGj;refine ⟨Atm hq S.rt,A1y hq S.rg,?_,fun a b ha hb hbn=>?_,fun a b ha hb=>?_,fun a b ha han hb hbn=>?_⟩
 ·exact S.e.add (c:=c) hjn hln hne (fun a b ha hb=>by
    unfold Anu;by_cases h:b=j
    · subst h;rw [if_pos rfl,if_pos rfl];exact Eqm.mod _ _
    · rw [if_neg h,if_neg h,Int.add_zero];exact Eqm.refl _ _) fun a b ha hb=>by
    rw [Aem]
    by_cases h:a=j
    · subst h;rw [if_pos rfl,if_pos rfl];by_cases h2:b=a
      · subst h2;rw [if_pos rfl,if_pos rfl,if_pos rfl]
        exact (Eqm.mod _ _).trans ((Eqm.mod _ _).add ((Eqm.refl _ _).mul (Eqm.mod _ _)))
      · rw [if_neg h2,if_neg h2,if_neg h2,Int.add_zero,Int.add_zero];exact Eqm.mod _ _
    · rw [if_neg h,if_neg h,Int.add_zero];by_cases h2:b=j
      · subst h2;rw [if_pos rfl,if_pos rfl];exact Eqm.mod _ _
      · rw [if_neg h2,if_neg h2,Int.add_zero];exact Eqm.refl _ _
 ·rw [Aem,if_neg AGh];by_cases h:b=j
  ·subst h;rw [if_pos rfl,S.z a b ha hb hbn,S.z a l ha hl hln];simp
  ·rw [if_neg h];exact S.z a b ha hb hbn
 ·rw [Aem,if_neg AGh,if_neg AGh];exact S.w a b ha hb
 ·have hd:(2:Int) ^ E ∣ 2 ^ K:=AX6 hE;have key:∀ x y,k<=x->x < n->k<=y->y < n-> ∀ u v,k<=u->u < n->k<=v->v < n->(2:Int) ^ E ∣ (G x y + c * G u v) % 2 ^ K:=fun x y h1 h2 h3 h4 u v h5 h6 h7 h8=>A0h hd (Int.dvd_add (S.fl x y h1 h2 h3 h4) (Int.dvd_trans (S.fl u v h5 h6 h7 h8) ⟨c,Int.mul_comm _ _⟩));rw [Aem];by_cases h:a=j
  ·rw [if_pos h];by_cases h2:b=j
   ·rw [if_pos h2];exact A0h hd (Int.dvd_add (key j j hj hjn hj hjn j l hj hjn hl hln) (Int.dvd_trans (key l j hl hln hj hjn l l hl hln hl hln) ⟨c,Int.mul_comm _ _⟩))
   ·rw [if_neg h2];exact key j b hj hjn hb hbn l b hl hln hb hbn
  ·rw [if_neg h];by_cases h2:b=j
   ·rw [if_pos h2];exact key a j ha han hj hjn a l ha han hl hln
   ·rw [if_neg h2];exact S.fl a b ha han hb hbn
theorem DS.swap {i j:Nat} (S:DS n K H T G L k E) (hi:k<=i) (hin:i < n) (hj:k<=j) (hjn:j < n):DS n K H (swC i j T) (swG i j G) L k E:=by
 refine ⟨(fun a b ha hb=>S.rt a _ ha (Ant hin hjn hb)),(fun a b ha hb=>S.rg _ _ (Ant hin hjn ha) (Ant hin hjn hb)),S.e.swap hin hjn (fun _ _ _ _=>rfl) fun _ _ _ _=>rfl,fun a b ha hb hbn=>?_,fun a b ha hb=>?_,(fun a b ha han hb hbn=>S.fl _ _ (Ayl hi hj ha) (Ant hin hjn han) (Ayl hi hj hb) (Ant hin hjn hbn))⟩
 ·unfold swG;rw [Au0 (a:=a) AGh AGh];exact S.z a _ ha (Ayl hi hj hb) (Ant hin hjn hbn)
 ·unfold swG;rw [Au0 (a:=a) AGh AGh,Au0 (a:=b) AGh AGh];exact S.w a b ha hb
theorem DS.low (S:DS n K H T G L k E) (hs:∀ i j,i < n->j < n->H i j=H j i) {E':Nat} (h:∀ a e,k<=a->a + e < n->(2:Int) ^ E' ∣ G a (a + e)):DS n K H T G L k E':=⟨S.rt,S.rg,S.e,S.z,S.w,fun i j hi hin hj hjn=>by
  rcases Nat.lt_or_ge j i with hl | hl
  · rw [S.e.sym hs S.rg hin hjn]
    have:=h j (i - j) hj AGh
    rwa [show j + (i - j)=i by omega] at this
  · have:=h i (j - i) hi AGh
    rwa [show i + (j - i)=j by omega] at this⟩
theorem DS.some (S:DS n K H T G L k E) (hs:∀ i j,i < n->j < n->H i j=H j i) (hd: ¬ (2:Int) ^ K ∣ det n H) (hk:k < n):∃ e,k + e < n/\G k (k + e)≠0:=by
  obtain ⟨j,h1,h2,h3⟩:=S.e.some hd hk fun j hj=>by rw [S.e.sym hs S.rg hk AGh];exact S.z j k hj (Nat.le_refl k) hk
  exact ⟨j - k,AGh,by rwa [show k + (j - k)=j by omega]⟩
theorem DS.bound (S:DS n K H T G L k E) (hs:∀ i j,i < n->j < n->H i j=H j i) {v:Nat} (hd: ¬ (2:Int) ^ v ∣ det n H) (hv:v<=K) (hk:k < n):E < v:=by
  rcases Nat.lt_or_ge E v with h | h
  · exact h
  · exfalso;have hp:(2:Int) ^ v≠0:=Int.pow_ne_zero AGj
    have hrow:∀ q,q < n->(2:Int) ^ v ∣ G k q:=fun q hq=>by
      rcases Nat.lt_or_ge q k with hl | hl
      · rw [S.e.sym hs S.rg hk hq,S.z q k hl (Nat.le_refl k) hk];exact ⟨0,ATw⟩
      · exact Int.dvd_trans (AX6 h) (S.fl k q (Nat.le_refl k) hk hl hq)
    have h1:det n G=2 ^ v * det n (AUu G k fun q=>G k q / 2 ^ v):=by
      rw [<- As1 _ _ hk];refine AUp fun i j hi hj=>?_;rw [ATy]
      by_cases h:i=k
      · subst h;rw [if_pos rfl,Int.mul_ediv_cancel' (hrow j hj)]
      · rw [if_neg h]
    have h2:Eqm (2 ^ v) (det n G) (det n H):=S.e.det.down (AX6 hv);exact hd (Aom h2.symm (Int.dvd_refl _) ⟨_,h1⟩)
theorem A5i {a:Int} (hL:Apk L) (hk:Ady L=k) (i j:Nat):bm (L ++ [((E:Int),1,a,0,0)]) i j=if i=k/\j=k then 2 ^ E * a else bm L i j:=by
 unfold bm;rw [Aos hL,Nat.zero_add,hk];show Aux _ k k ((2:Int) ^ E * a) i j=_;rw [Akj]
theorem A5j {a b c:Int} (hL:Apk L) (hk:Ady L=k) (i j:Nat):bm (L ++ [((E:Int),2,a,b,c)]) i j=if i=k/\j=k then 2 ^ E * a else if i=k/\j=k + 1 then 2 ^ E * b else if i=k + 1/\j=k then 2 ^ E * b else if i=k + 1/\j=k + 1 then 2 ^ E * c else bm L i j:=by
 unfold bm;rw [Aos hL,Nat.zero_add,hk];show A5e _ k ((2:Int) ^ E * a) (2 ^ E * b) (2 ^ E * c) i j=_;rw [Aw5]
theorem Au1 (hL:Apk L) (hk:Ady L=k) {i j:Nat} (h:k<=i∨k<=j):bm L i j=0:=Ar5 hL AGh
theorem DS.next1 {a:Int} (S:DS n K H T G L k E) (hs:∀ i j,i < n->j < n->H i j=H j i) (hL:Apk L) (hkL:Ady L=k) (hk:k < n) (hz:∀ j,k < j->j < n->G k j=0) (ha:G k k=2 ^ E * a):DS n K H T G (L ++ [((E:Int),1,a,0,0)]) (k + 1) E:=by
 refine ⟨S.rt,S.rg,S.e,fun i j hi hj hjn=>?_,fun i j hi hj=>?_,(fun i j hi hin hj hjn=>S.fl i j AGh hin AGh hjn)⟩
 ·by_cases h:i=k
  ·rw [h];exact hz j AGh hjn
  ·exact S.z i j AGh AGh hjn
 ·rw [A5i hL hkL];by_cases h:i=k
  ·by_cases h2:j=k
   ·rw [if_pos ⟨h,h2⟩,h,h2,ha]
   ·rw [if_neg AGh,Au1 hL hkL (.inl AGh),S.e.sym hs S.rg AGh AGh,h];exact S.z j k AGh (Nat.le_refl k) hk
  ·rw [if_neg AGh];by_cases h2:j=k
   ·rw [Au1 hL hkL (.inr AGh),h2];exact S.z i k AGh (Nat.le_refl k) hk
   ·exact S.w i j AGh AGh
theorem DS.next2 {a b c:Int} (S:DS n K H T G L k E) (hs:∀ i j,i < n->j < n->H i j=H j i) (hL:Apk L) (hkL:Ady L=k) (hk:k + 1 < n) (hz:∀ j,k + 1 < j->j < n->G k j=0/\G (k + 1) j=0) (ha:G k k=2 ^ E * a) (hb:G k (k + 1)=2 ^ E * b) (hc:G (k + 1) (k + 1)=2 ^ E * c):DS n K H T G (L ++ [((E:Int),2,a,b,c)]) (k + 2) E:=by
 refine ⟨S.rt,S.rg,S.e,fun i j hi hj hjn=>?_,fun i j hi hj=>?_,(fun i j hi hin hj hjn=>S.fl i j AGh hin AGh hjn)⟩
 ·by_cases h:i=k
  ·rw [h];exact (hz j AGh hjn).1
  ·by_cases h2:i=k + 1
   ·rw [h2];exact (hz j AGh hjn).2
   ·exact S.z i j AGh AGh hjn
 ·rw [A5j hL hkL];have Ad:G (k + 1) k=2 ^ E * b:=by rw [S.e.sym hs S.rg hk AGh,hb]
  by_cases h:k<=i
  ·rcases Nat.lt_or_ge j k with h2 | h2
   ·rw [if_neg AGh,if_neg AGh,if_neg AGh,if_neg AGh,Au1 hL hkL (.inl h),S.e.sym hs S.rg AGh AGh];exact S.z j i h2 h AGh
   ·rcases (by omega:i=k∨i=k + 1) with h3 | h3
    ·rcases (by omega:j=k∨j=k + 1) with h4 | h4
     ·rw [if_pos ⟨h3,h4⟩,h3,h4,ha]
     ·rw [if_neg AGh,if_pos ⟨h3,h4⟩,h3,h4,hb]
    ·rcases (by omega:j=k∨j=k + 1) with h4 | h4
     ·rw [if_neg AGh,if_neg AGh,if_pos ⟨h3,h4⟩,h3,h4,Ad]
     ·rw [if_neg AGh,if_neg AGh,if_neg AGh,if_pos ⟨h3,h4⟩,h3,h4,hc]
  ·rw [if_neg AGh,if_neg AGh,if_neg AGh,if_neg AGh];rcases Nat.lt_or_ge j k with h2 | h2
   ·exact S.w i j AGh h2
   ·rw [Au1 hL hkL (.inr h2)];exact S.z i j AGh h2 AGh
end
structure DL (K:Nat) (L:List AW8) (k E:Nat):Prop where
  sum:Ady L=k
  sz:Apk L
  rg:∀ i,i < L.length->RG 2 K L i
  le:∀ b∈L,b.1<=E
theorem DL.nil {K:Nat}:DL K [] 0 0:=⟨rfl,fun b h=>(nomatch h),fun i h=>absurd h (Nat.not_lt_zero i),fun b h=>(nomatch h)⟩
theorem DL.push {K k E F m:Nat} {L:List AW8} {b:AW8} (B:DL K L k E) (hE:E<=F) (hb:b.1=F) (hP:Ayj 2 K b) (hm:b.2.1=m) (Ab:m=1∨m=2):DL K (L ++ [b]) (k + m) F:=by
 refine ⟨by rw [Amn,B.sum];omega,fun x hx=>?_,fun i hi=>⟨fun x hx=>?_,fun h0 x y hx hy=>?_⟩,fun x hx=>?_⟩
 ·rcases List.mem_append.1 hx with h | h
  ·exact B.sz x h
  ·rw [List.mem_singleton.1 h];omega
 ·rcases Nat.lt_or_ge i L.length with h | h
  ·rw [List.getElem?_append_left h] at hx;exact (B.rg i h).1 x hx
  ·rw [List.getElem?_append_right h] at hx;rw [List.length_append,List.length_singleton] at hi;rw [show i - L.length=0 by omega] at hx;obtain rfl:b=x:=by simpa using hx
   exact hP
 ·rw [List.length_append,List.length_singleton] at hi;rcases Nat.lt_or_ge i L.length with h | h
  ·rw [List.getElem?_append_left h] at hx;rw [List.getElem?_append_left AGh] at hy;exact (B.rg i h).2 h0 x y hx hy
  ·rw [List.getElem?_append_right h] at hx;rw [show i - L.length=0 by omega] at hx;obtain rfl:b=x:=by simpa using hx
   rw [List.getElem?_append_left AGh] at hy;have:=B.le y (List.mem_of_getElem? hy);omega
 ·rcases List.mem_append.1 hx with h | h
  ·have:=B.le x h;omega
  ·rw [List.mem_singleton.1 h];omega
end Go.Proofs.YthbndcbclhkepaaGreatDoor
namespace Go.Proofs.YthbndcbclhkepaaGreatDoor
open Go Go.QF
theorem AZ7:FdT Tryz.prog 79 0 0 3:=⟨_,_,Tryz.underlying79,rfl,rfl,rfl⟩
theorem AVa:FdT Tryz.prog 79 1 1 25:=⟨_,_,Tryz.underlying79,rfl,rfl,rfl⟩
theorem Ag8:FdT Tryz.prog 79 2 2 25:=⟨_,_,Tryz.underlying79,rfl,rfl,rfl⟩
theorem AZ8:SlT Tryz.prog 186 25 1:=Ajm Tryz.underlying186 AGv
theorem Atn:ZeT Tryz.prog 25 (.slice none 0 0) 24:=Aid AGv
end Go.Proofs.YthbndcbclhkepaaGreatDoor
namespace Go.Proofs.YthbndcbclhkepaaGreatDoor
open Go Go.QF
set_option maxRecDepth 100000
set_option maxHeartbeats 4000000
def Acx (fuel:Nat) (Ab Aa Ac Ad:Int):Option ((Int × Int × Int × Int) ⊕ ((Int × Int))):=
  (if ¬ Aa=0 then (if Aa≠0 then (some (Sum.inl (Aa,(w64 (Ab - (w64 ((w64 (Int.tdiv Ab Aa)) * Aa)))),Ad,(w64 (Ac - (w64 ((w64 (Int.tdiv Ab Aa)) * Ad))))))) else none) else (some (Sum.inr<| (Ab,Ac))))
def AZc (fuel:Nat) (a1 a2:Int):Option (Int × Bool):=
  ((iter (fun s=>Acx fuel s.1 s.2.1 s.2.2.1 s.2.2.2) fuel (a2,a1,0,1)).bind (fun ((Ac,Ad):Int × Int)=>(if a2≠0 then (if a2≠0 then (some ((Int.tmod (w64 ((Int.tmod Ad a2) + a2)) a2),(decide (Ac=1)))) else none) else none)))
theorem Akk {fuel:Nat} {h:AGs} {a1 a2:Int} {r:(Int × Bool)} (hp:AZc fuel a1 a2=some r):ATt Tryz.prog 161 #[(.int .i64 a1),(.int .i64 a2)] h (fun x h'=>Ext h h'/\x= .tuple #[.int .i64 r.1,.bool r.2]):=by
 unfold AZc at hp;refine cwf (l:=[_,_]) Tryz.func161 rfl rfl (AGl (ATi (ATx (AGi (AGi (ATi (ATx (ATi (AGw (AGn (AGo ?_)))))))))));have K0:=Kst.k0 h;refine AY2 1073735616 hp (fun x=>[(6,(.int .i64 x.1)),(7,(.int .i64 x.2.1)),(8,(.int .i64 x.2.2.1)),(9,(.int .i64 x.2.2.2))]) (fun x=>K0.L) K0 ⟨rfl,rfl,rfl,rfl,trivial⟩ ?_;rintro ⟨u9,Aq,Ar,Au⟩ Av h6 y5 K8 Aa Ag;unfold Acx at Aa;refine AGn (AGl (AGi (AXa rfl rfl (AGq (⟨_,rfl,fun Ab=>?_,fun Ab=>?_⟩)))))
 ·refine AGx (q_t (AGo (AGl (AGi (AGi ?_)))));obtain ⟨Ah,Ai⟩:=ifN (AT0 Aa Ab);refine Asl rfl rfl Ah (ATx (AGi (AGi (AGi (AGi (Abo rfl rfl (AVe rfl rfl (ATi (AGw (AS3 (AGi (AGi (AGi (AGi (Abo rfl rfl (AVe rfl rfl (ATi (ATi (ATf (q_b (q_t ?_)))))))))))))))))))));exact ⟨_,(AGk Ai).symm,K8,rfl,rfl,rfl,rfl,trivial⟩
 ·refine AS9 (ATa (ATa (AT9 (q_t (AGl (AGi (AGi ?_)))))));obtain ⟨Aj,Ak⟩:=ifN (Ag _ (AGk (AT1 Aa Ab)).symm);refine Afj rfl rfl Aj (AGi (ATj rfl rfl (AGi ?_)));obtain ⟨Am,Ao⟩:=ifN Ak;refine Afj rfl rfl Am (AGi (AV2 rfl rfl (ATi (AGw (AGy ?_)))));obtain rfl:=AGk Ao;exact ⟨_,AUm,K8.x,rfl⟩
def Aen (fuel:Nat) (Aa:LiI) (Ab Ac:Int):Option ((Int × Int) ⊕ ((Int))):=
  (if Ac < (Aa.length:Int) then none else (some (Sum.inr<| Ab)))
def AZd (fuel:Nat) (Ab:LiI) (Ac Aa:Int):Option ((Int × Int) ⊕ ((Int))):=
  (if Aa < (Ab.length:Int) then ((iter (fun s=>Aen fuel Ab s.1 s.2) fuel (Ac,(w64 (Aa + 1)))).bind (fun (Ad:Int)=>(some (Sum.inl (Ad,(w64 (Aa + 1))))))) else (some (Sum.inr<| Ac)))
def AWu (fuel:Nat) (a5 Ad:Int) (Af:LiA) (Ag Aa:Int) (Ab:LiI):Option ((Int × LiI) ⊕ ((LiI))):=
  (if Aa < (Af.length:Int) then ((gI Ab Ad).bind fun Ae=>((gI Ae Aa).bind fun Ah=>(if a5≠0 then (some (Sum.inl ((w64 (Aa + 1)),(sI Ab Ad (sI Ae Aa (Int.tmod (w64 (Ah * Ag)) a5)))))) else none))) else (some (Sum.inr<| Ab)))
def Adz (fuel:Nat) (Aa Ab:Int):Option ((Int) ⊕ ((Unit))):=
  (if Ab < Aa then none else (some (Sum.inr<| ())))
def Ad0 (fuel:Nat) (a3 Ae:LiI) (Ab:Int) (Ac:LiI):Option ((Int × LiI) ⊕ ((LiI))):=
  (if Ab < (Ae.length:Int) then ((gI Ac Ab).bind fun Ad=>(if 0<=(a3.length:Int)/\(a3.length:Int)<=(Ad.length:Int) then (if (List.drop (Int.toNat (a3.length:Int)) Ad).length<=100000000 then (some (Sum.inl ((w64 (Ab + 1)),(sI Ac Ab (List.drop (Int.toNat (a3.length:Int)) Ad))))) else none) else none)) else (some (Sum.inr<| Ac)))
def AZe (fuel:Nat) (a5 Aa:Int) (Ab:LiI):Option ((Int × LiI) ⊕ (((LiI × Int)) ⊕ (LiI))):=
  (if 0<=Aa then ((gI Ab Aa).bind fun Ad=>((gI Ad Aa).bind fun Ae=>((AZc fuel Ae a5).bind fun (Af,Ag)=>(if (!Ag)=true then (some (Sum.inr<| Sum.inl <| ([],8))) else ((((iter (fun s=>AWu fuel a5 Aa Ad Af s.1 s.2) fuel (0,Ab)).bind (fun (Ah:LiI)=>(some ( Ah)))):Option (LiI)).bind fun Ai=>((iter (fun s=>Adz fuel Aa s) fuel 0).bind (fun (_:Unit)=>(some (Sum.inl ((w64 (Aa - 1)),Ai)))))))))) else (some (Sum.inr<| Sum.inr <| Ab)))
def Aeo (fuel:Nat) (a3 Af:LiI) (Aa:Int) (Ac:LiI):Option ((Int × LiI) ⊕ ((LiI))):=
  (if Aa < (Af.length:Int) then ((gI Ac Aa).bind fun Ad=>(if 0 < Ad.length/\Ad.length<=100000/\0 < (a3.length:Int)/\(a3.length:Int)<=100000 then ((gI (sI Ac Aa (Ad ++ List.replicate (Int.toNat (a3.length:Int)) 0)) Aa).bind fun Ae=>((gI Ae (w64 ((a3.length:Int) + Aa))).bind fun Ag=>(some (Sum.inl ((w64 (Aa + 1)),(sI (sI Ac Aa (Ad ++ List.replicate (Int.toNat (a3.length:Int)) 0)) Aa (sI Ae (w64 ((a3.length:Int) + Aa)) 1))))))) else none)) else (some (Sum.inr<| Ac)))
def AZk (fuel:Nat) (a3:LiI) (a5:Int):Option (LiI × Int):=
  ((AZs fuel a3).bind fun x6=>(if (!x6)=true then (some ([],3)) else ((AU9 fuel a5).bind fun Ac=>(if ¬ Ac=0 then (some ([],Ac)) else ((AVg fuel a3 a5).bind fun Ad=>((iter (fun s=>Aeo fuel a3 Ad s.1 s.2) fuel (0,Ad)).bind (fun (Ae:LiI)=>(((((some ( a5)):Option (Int)).bind fun Ak=>((iter (fun s=>AZd fuel Ae s.1 s.2) fuel (1,0)).bind (fun (Ah:Int)=>(some ( Ah))))):Option (Int)).bind fun Am=>(((some ( a5)):Option (Int)).bind fun Ao=>((iter (fun s=>AZe fuel a5 s.1 s.2) fuel ((w64 ((a3.length:Int) - 1)),Ae)).bind (fun ex=>match ex with | Sum.inl Ai=>(some Ai) | Sum.inr (Af)=>((iter (fun s=>Ad0 fuel a3 Af s.1 s.2) fuel (0,Af)).bind (fun (Aj:LiI)=>(some (Aj,0)))))))))))))))
theorem Ahk {fuel:Nat} {h:AGs} {Bq:Value} {a3:LiI} {a5:Int} {r:(LiI × Int)} (H2:AXq (cI .i64) h Bq a3) (hp:AZk fuel a3 a5=some r):ATt Tryz.prog 133 #[Bq,(.int .i64 a5)] h (fun x h'=>Ext h h'/\ ∃ (x0:Value) (F0:List Nat) (Cb:List LnA) (Cd:List Value),x= .tuple #[x0,.int .i64 r.2]/\AVo (cI .i64) 49 2 h' F0 Cb Cd x0 r.1/\Sp h' h.size [F0]):=by
 unfold AZk at hp;refine cwf (l:=[_,_]) Tryz.func133 rfl rfl (AGl (ATi (AGw (AGn (AGl (AGi ?_))))));have K0:=Kst.k0 h;obtain ⟨x6,Ce,Bw⟩:=AGm hp;refine AXx K0 (Ais (H2.ext K0.x) Ce) fun Es E9 Bx=>AWp rfl (AGq (⟨_,rfl,fun Ap=>?_,fun Ap=>?_⟩))
 ·refine AGl (ATi (AGw (AGy (ATb ?_))));have Aq:=Kst.anil2 (cI .i64) 49 2 Bx;obtain rfl:=AGk (ifT Bw Ap);exact ⟨_,AUm,Aq.x,_,_,_,_,rfl,(Aq.o2 p0),Aq.s.sel [0] AGj⟩
 ·refine AGx (q_t (AGn (AGl (AGi ?_))));obtain ⟨Eu,Cf,By⟩:=AGm (Aav Bw Ap);refine AXx Bx (AYl Cf) fun Ev Ew Ar=>ATx (AGi (AXa rfl rfl (AGq (⟨_,rfl,fun Au=>?_,fun Au=>?_⟩))))
  ·refine AGl (AGi (ATi (AGw (AGy (ATb ?_)))));have Av:=Kst.anil2 (cI .i64) 49 2 Ar;obtain rfl:=AGk (AT0 By Au);exact ⟨_,AUm,Av.x,_,_,_,_,rfl,(Av.o2 p0),Av.s.sel [0] AGj⟩
  ·refine AGx (q_t (AGl (AGi (AT3 AS8 rfl H2 (ATx (AGi (AGi ?_)))))));obtain ⟨Cg,Ch,Ci⟩:=AGm (AT1 By Au);refine Ahc Ar (AYr (H2.ext Ar.x) Ch) fun Cj Ck Cm Af Ey Ez Aw=>AGw (AGn (AGl (AGi (AT3 AS8 rfl (Aw.o2 p0).rd (AGi (AGq (AGo (AX3 4503597479887360 (fun x:(Int) × (LiI) × LnA × LnN × LvA=>(x.1,x.2.1)) ((0,Cg,Cj,Ck,Cm):(Int) × (LiI) × LnA × LnN × LvA) Ci (fun x=>[(31,(.int .i64 x.1))]) (fun x=>Aw.L.set 0 (aO2 (cI .i64) 49 2 x.2.2.1 x.2.2.2.1 x.2.2.2.2 Af x.2.1)) Aw ⟨rfl,trivial⟩ ?_))))))));rintro ⟨Cn,Fa,Ai,Aj,Ak⟩ Fb Fc Fd Ac Ax Co;unfold Aeo at Ax;refine AGl (ATm rfl rfl (AGq (AGn (⟨_,rfl,fun Ay=>?_,fun Ay=>?_⟩))))
   ·refine AGx (q_t (AGn (AGo (AGl (AGi (ATx (AGi (AGi (AGi (AGi ?_))))))))));obtain ⟨Fe,Bz,Cp⟩:=AGm (AT0 Ax Ay);refine AUg AS8 ATk (Ac.o2 p0) Bz fun _ Ff Cq=>AGi ?_;obtain ⟨Cr,Ct⟩:=ifN Cp;refine A6x AS7 Akr Ace AS8 ATk (Ac.o2 p0) Cq Bz trivial tt2 rfl rfl (fun _=>rfl) (fun _=>rfl) rfl AGj Cr fun Fg Fh Fi Fj Fk Fl Cu Cv Cw=>AGq (AS3 (AGi (AGi ?_)));have B1:=Ac.uo2 p0 Cv Cu Cw;obtain ⟨Fm,B3,Cx⟩:=AGm Ct;refine AUg AS8 ATk (B1.o2 p0) B3 fun _ Fo Cy=>AGi (AGi (ATj rfl rfl ?_));obtain ⟨Fp,Cz,C0⟩:=AGm Cx;refine AZi (m:=Cn) B1 p0 AS7 ATd Cy B3 Cz (fun _=>rfl) fun _ Fq C1=>ATf (q_b (q_t (AS3 (ATj rfl rfl (AGi (AGq ?_))))));exact ⟨(_,_,_,_,_),(AGk C0).symm,C1,rfl,trivial⟩
   ·refine AS9 (ATa (ATa (AT9 (q_t (AGl (AGi (AGi ?_)))))));obtain ⟨C2,C3,C4⟩:=AGm (Co _ (AGk (AT1 Ax Ay)).symm);refine ATc (K':=(fun xr h'=> ∃ x:(Int),x=C2/\xr=(.int .i64 x)/\Kst h h' (Ac.L))) trivial rfl ?_ fun Fr Ft C5=>?_
    ·refine cwf (l:=[_,_]) Tryz.func119 rfl rfl (AGl (ATx (AGi ?_)));obtain ⟨C6,C7,C8⟩:=AGm C3;refine ATc (K':=(fun xr h'=> ∃ x:(Nat) × (Int),x.2=C6/\xr=(.func (.func 178) #[] #[(.pointer (some ⟨x.1,0,none⟩))])/\Kst h h' (aB 2 x.1 [(.int .i64 x.2)] :: Ac.L))) trivial rfl ?_ fun Fu Fv C9=>?_
     ·refine cwf (l:=[_]) Tryz.func159 rfl rfl (AGl (AYn Ac [(.int .i64 a5)] fun Da Fw Fx Db=>ATx (A2h rfl (AGw (AGy (⟨_,AS1,((Da,a5):(Nat) × (Int)),?_,rfl,?_⟩))))))
      ·exact AGk C7
      ·exact Db
     obtain ⟨⟨Fy,Fz⟩,Dc,rfl,Az⟩:=C9;refine ⟨trivial,?_⟩;subst Dc;refine ATx (AGw (AGn (AGl (AGi (AT3 AS8 rfl (Az.o2 p1).rd (AGi (AGq (AGo (AY2 18889465931478580847040 C8 (fun x=>[(6,(.int .i64 x.1)),(13,(.int .i64 x.2))]) (fun x=>Az.L) Az ⟨rfl,rfl,trivial⟩ ?_)))))))));rintro ⟨Dd,F4⟩ F5 F6 F7 A3 A4 De;unfold AZd at A4;refine AGl (ATm rfl rfl (AGq (AGn (⟨_,rfl,fun A5=>?_,fun A5=>?_⟩))))
     ·refine AGx (q_t (AGn (AGo (AGl (AGi (ATx (AGi (ATj rfl rfl (AGw (AGo (AY2 9444732965739290165568 (AT0 A4 A5) (fun x=>[(6,(.int .i64 x.1)),(8,(.int .i64 x.2))]) (fun x=>A3.L) A3 ⟨rfl,rfl,trivial⟩ ?_)))))))))));rintro ⟨F8,F9⟩ Ga Gb Gc B4 A6 Df;unfold Aen at A6;refine AGn (AGl (AGi (AGi (AT3 AS8 rfl (B4.o2 p1).rd (ATm rfl rfl (AGq (⟨_,rfl,fun A7=>?_,fun A7=>?_⟩)))))))
      ·refine AGx (q_t (AGn ?_));have Dg:=AT0 A6 A7;cases Dg
      ·refine AS9 (ATa (ATa (AT9 (q_b (q_t (AS3 (ATj rfl rfl (AGi (AGq ?_)))))))));exact ⟨_,(AGk (Df _ (AGk (AT1 A6 A7)).symm)).symm,B4,rfl,rfl,trivial⟩
     ·refine AS9 (ATa (ATa (AT9 (q_t (AGl (AGi (AGw (AGy (⟨_,AS1,(Dd:(Int)),?_,rfl,?_⟩)))))))))
      ·exact AGk (De _ (AGk (AT1 A4 A5)).symm)
      ·exact A3.sel [1] AGj
    obtain ⟨Gd,Dh,rfl,B5⟩:=C5;refine ⟨trivial,?_⟩;subst Dh;refine AZf (AGi ?_);obtain ⟨Di,Dj,Dk⟩:=AGm C4;refine ATc (K':=(fun xr h'=> ∃ x:(Nat) × (Int),x.2=Di/\xr=(.func (.func 178) #[] #[(.pointer (some ⟨x.1,0,none⟩))])/\Kst h h' (aB 2 x.1 [(.int .i64 x.2)] :: B5.L))) trivial rfl ?_ fun Ge Gf Dl=>?_
    ·refine cwf (l:=[_]) Tryz.func159 rfl rfl (AGl (AYn B5 [(.int .i64 a5)] fun Do Gg Gh Dp=>ATx (A2h rfl (AGw (AGy (⟨_,AS1,((Do,a5):(Nat) × (Int)),?_,rfl,?_⟩))))))
     ·exact AGk Dj
     ·exact Dp
    obtain ⟨⟨Gi,Gj⟩,Dq,rfl,B6⟩:=Dl;refine ⟨trivial,?_⟩;subst Dq;refine AGw (AGn (AGl (AGi (AVe rfl rfl (AGw (AGo (AY2 81129638414606105235036701751344 Dk (fun x=>[(11,(.int .i64 x.1))]) (fun x=>B6.L.set 1 (aO2 (cI .i64) 49 2 Ai Aj Ak Af x.2)) B6 ⟨rfl,trivial⟩ ?_)))))));rintro ⟨A8,Dr⟩ Gk Gl Gm Ag A9 B7;unfold AZe at A9;refine AGn (AGl (AGi (Aga rfl rfl (AGq (⟨_,rfl,fun Ba=>?_,fun Ba=>?_⟩)))))
    ·refine AGx (q_t (AGn (AGo (AGl (AGi (AGi ?_))))));obtain ⟨Gn,Am,Ds⟩:=AGm (AT0 A9 Ba);refine AUg AS8 ATk (Ag.o2 p1) Am fun _ Gp Dt=>AGi ?_;obtain ⟨Gq,Du,Dv⟩:=AGm Ds;refine AWi (m:=A8) AS7 ATd (Ag.o2 p1) Dt Am Du fun _=>(AGi ?_);obtain ⟨⟨Gr,Gt⟩,Dw,Bb⟩:=AGm Dv;dsimp only at Bb;refine AXx Ag (Akk Dw) fun Gu Gv Ad=>AGi (AUe rfl rfl (AUe rfl rfl (ATi (AGw (AGn (AGl (AGi (AWp rfl (AGq (⟨_,rfl,fun Bc=>?_,fun Bc=>?_⟩))))))))))
     ·refine AGl (ATi (AGw (AGy (ATb (AUf (ATb (ATb (AUf (ATb ?_)))))))));have Be:=Kst.anil2 (cI .i64) 49 2 Ad;obtain rfl:=AGk (B7 _ (AGk (ifT Bb Bc)).symm);exact ⟨_,AUm,Be.x,_,_,_,_,rfl,(Be.o2 p0),Be.s.sel [0] AGj⟩
     ·refine AGx (q_t (AGl (AGi (AGi (AUg AS8 ATk (Ad.o2 p1) Am fun _ Gw Bf=>AGi (AGi ?_))))));obtain ⟨Dx,Dy,Dz⟩:=AGm (Aav Bb Bc);refine ATc (K':=(fun xr h'=> ∃ x:(LiI),x=Dx/\xr= .tuple #[]/\Kst h h' (Ad.L.set 1 (aO2 (cI .i64) 49 2 Ai Aj Ak Af x)))) trivial rfl ?_ fun Gx Gy D0=>?_
      ·refine cwf (l:=[_,_,_]) Tryz.func162 rfl rfl (AGl (AGi (AUn AS7 rfl ((Ad.o2 p1).rowI Bf Am) (AGi (AGq (AGo (AY2 16776384 Dy (fun x=>[(10,(.int .i64 x.1))]) (fun x=>Ad.L.set 1 (aO2 (cI .i64) 49 2 Ai Aj Ak Af x.2)) Ad ⟨rfl,trivial⟩ ?_)))))));rintro ⟨Gz,D1⟩ G3 G4 G5 Bg Bh D2;unfold AWu at Bh;refine AGl (ATm rfl rfl (AGq (AGn (⟨_,rfl,fun Bi=>?_,fun Bi=>?_⟩))))
       ·refine AGx (q_t (AGn (AGo (AGl (AGi ?_)))));obtain ⟨G6,B8,D3⟩:=AGm (AT0 Bh Bi);obtain ⟨G7,B9,D4⟩:=AGm D3;refine AWi (m:=A8) AS7 ATd (Bg.o2 p1) Bf B8 B9 fun _=>(ATi (AGw (AS3 (AGi (AGi (AGi (AGi (Abo rfl rfl (AGi ?_)))))))));obtain ⟨D5,D6⟩:=ifN D4;refine Afj rfl rfl D5 (AZi (m:=A8) Bg p1 AS7 ATd Bf B8 B9 (fun _=>rfl) fun _ G8 D7=>ATf (q_b (q_t (AS3 (ATj rfl rfl (AGi (AGq ?_)))))));exact ⟨_,(AGk D6).symm,D7,rfl,trivial⟩
       ·refine AS9 (ATa (ATa (AT9 (⟨_,AZg,(D1:(LiI)),?_,rfl,?_⟩))))
        ·exact AGk (D2 _ (AGk (AT1 Bh Bi)).symm)
        ·exact Bg
      obtain ⟨G9,D8,rfl,Ca⟩:=D0;refine ⟨trivial,?_⟩;subst D8;refine AZf (AGi (AGi (AGq (AGo (AY2 81129599728980454027655414562816 Dz (fun x=>[(85,(.int .i64 x))]) (fun x=>Ca.L) Ca ⟨rfl,trivial⟩ ?_)))));rintro Hb Hc Hd He D9 Bj Ea;unfold Adz at Bj;refine AGl (ATm rfl rfl (AGq (AGn (⟨_,rfl,fun Bl=>?_,fun Bl=>?_⟩))))
      ·refine AGx (q_t (AGn ?_));have Eb:=AT0 Bj Bl;cases Eb
      ·refine AS9 (ATa (ATa (AT9 (q_b (q_t (AS3 (AGi (AVe rfl rfl (AGw ?_)))))))));exact ⟨_,(AGk (Ea _ (AGk (AT1 Bj Bl)).symm)).symm,D9,rfl,trivial⟩
    ·refine AS9 (ATa (ATa (AT9 (q_t (AGn (AGl (AGi (AT3 AS8 rfl (Ag.o2 p1).rd (AGi (AGq (AGo ?_)))))))))));have Bm:=Ag.sel [1] AGj;dsimp only [AYk,Abf] at Bm;refine AX3 5316587464586005064888445085100834816 (fun x:(Int) × (LiI) × LnA × LnN × LvA=>(x.1,x.2.1)) ((0,Dr,Ai,Aj,Ak):(Int) × (LiI) × LnA × LnN × LvA) (B7 _ (AGk (AT1 A9 Ba)).symm) (fun x=>[(108,(.int .i64 x.1))]) (fun x=>Bm.L.set 0 (aO2 (cI .i64) 49 2 x.2.2.1 x.2.2.2.1 x.2.2.2.2 Af x.2.1)) Bm ⟨rfl,trivial⟩ ?_;rintro ⟨Hf,Hg,Hh,Hj,Hk⟩ Hl Hm Hn Aa Bn Ec;unfold Ad0 at Bn;refine AGl (ATm rfl rfl (AGq (AGn (⟨_,rfl,fun Bo=>?_,fun Bo=>?_⟩))))
     ·refine AGx (q_t (AGn (AGo (AGl (AGi (AGw (AS3 (AGi (AGi (AGi (AGi ?_)))))))))));obtain ⟨Ho,Ae,Ed⟩:=AGm (AT0 Bn Bo);refine AUg AS8 ATk (Aa.o2 p0) Ae fun _ Hq Bp=>AGi ?_;obtain ⟨Ee,Ef⟩:=ifN Ed;refine A1b AS7 rfl ((Aa.o2 p0).rowI Bp Ae) ((Aa.o2 p0).rowCap Bp Ae) rfl Ee fun Hr Eg Hs=>?_;obtain ⟨Eh,Ei⟩:=ifN Ef;refine A3m AS7 Ace rfl rfl trivial tt2 rfl rfl (Eg ((Aa.o2 p0).rowI Bp Ae)) AGj Eh fun Ht Hu Hv Ej Ek El=>?_;have Ah:=Aa.no Ek El Ej;refine AVd AS8 rfl (Ah.o2 p1) rfl Ae fun Hw Hx Em Hy Hz=>Ajc ATk (Ah.o2 p1) Ae Em rfl rfl (Ah.o p0) (Ah.dj p0 p1 AGj) fun Ia En Eo Ep=>ATf (q_b (q_t (AS3 (ATj rfl rfl (AGi (AGq ?_))))));exact ⟨(_,_,_,_,_),(AGk Ei).symm,(Ah.m2 p0 p1 AGj Eo En (fun z hz=> .inl (Ep z hz))).sel [1] AGj,rfl,trivial⟩
     ·refine AS9 (ATa (ATa (AT9 (q_t (AGl (AGi (ATi (AGw (AGy ?_)))))))));obtain rfl:=AGk (Ec _ (AGk (AT1 Bn Bo)).symm);exact ⟨_,AUm,Aa.x,_,_,_,_,rfl,(Aa.o2 p0),Aa.s.sel [0] AGj⟩
end Go.Proofs.YthbndcbclhkepaaGreatDoor
namespace Go.Proofs.YthbndcbclhkepaaGreatDoor
open Go Go.QF
set_option maxRecDepth 100000
theorem Au2 {fuel:Nat} {x m:Int} (hx:0<=x) (hxm:x < m) (hm:2<=m) (Aa:m<=2147483647) (hf:2147483648 < fuel):Ok (AZc fuel x m) fun r=>(r.2=true->Aqt m x r.1)/\(r.2=false->¬ ∃ y,Aqt m x y):=by
 unfold AZc;refine AGt (Ary (fun s:Int × Int × Int × Int=>EI m x s.1 s.2.1 s.2.2.1 s.2.2.2) (fun s=>s.2.1.toNat) (Q:=fun e:Int × Int=> ∃ v,EI m x e.1 0 e.2 v) (fun s hE=>?_) (EI.start hx hxm) (by dsimp only;omega)) fun e he=>?_
 ·obtain ⟨a,b,u,v⟩:=s;dsimp only at hE ⊢;have Ad:0<=b:=hE.1;have Ab:0<=a:=hE.2.1;have ham:a<=m:=hE.2.2.1;unfold Acx;refine ATr (fun h=>AU3 h ?_) fun h=>?_
  ·have hbd:=hE.bounds AGh;rw [Int.tdiv_eq_ediv_of_nonneg Ab,AWk (x:=a / b) AGh AGh,AWk (x:=a / b * b) AGh AGh,AWk (x:=a - a / b * b) AGh AGh,AWk (x:=a / b * v) AGh AGh,AWk (x:=u - a / b * v) AGh AGh];have hs:=hE.step AGh;refine AGp ⟨hs,?_⟩;have h2:=Int.emod_lt_of_pos a (b:=b) AGh;rw [Int.emod_def,Int.mul_comm] at h2;have:=hs.1;show (a - a / b * b).toNat < b.toNat;omega
  ·obtain rfl:b=0:=by omega
   exact AGp ⟨v,hE⟩
 ·obtain ⟨v,hE⟩:=he;obtain ⟨a,u⟩:=e;dsimp only at hE ⊢;have hd:=EI.done hm hE;refine AU3 AGh (AU3 AGh (AGp ⟨fun h=>?_,fun h=>?_⟩))
  ·dsimp only at h ⊢;rw [Atk hm Aa];exact hd.2.1 (of_decide_eq_true h)
  ·exact hd.2.2 (of_decide_eq_false h)
theorem A5k {fuel n:Nat} {T:AS4} (Aa:1<=n) (hn:n<=8) (hf:100 < fuel):AZs fuel (tab n n T)=some true:=by
 unfold AZs;rw [Aw3 Aa hn hf];simp only [Option.bind_some,reduceIte];rw [Ar2 (AT7 AGh),AUh,AT5,if_pos rfl,decide_eq_true AGh]
theorem Ajk {S E:Type} {body:S->Option (S ⊕ E)} {fuel:Nat} {s s':S} (h:body s=some (.inl s')):iter body (fuel + 1) s=iter body fuel s':=by simp [iter,h]
theorem Ahl {S E:Type} {body:S->Option (S ⊕ E)} {fuel:Nat} {s:S} {e:E} (h:body s=some (.inr e)):iter body (fuel + 1) s=some e:=by simp [iter,h]
theorem A5l {f:Nat} {x m:Int} (hm:2<=m) (Aa:m<=2147483647) (hg:∃ y,Aqt m (x % m) y) (hf:2147483648 < f):∃ v,AZk f [[x]] m=some ([[v]],0)/\Aqt m (x % m) v:=by
 obtain ⟨f,rfl⟩:∃ g,f=g + 3:=⟨f - 3,AGh⟩;have Ab:=Int.emod_nonneg x (show m≠0 by omega);have Ac:=Int.emod_lt_of_pos x (show 0 < m by omega);have h0:AZs (f + 3) [[x]]=some true:=A5k (n:=1) (T:=fun _ _=>x) AGh AGh AGh;have h1:AU9 (f + 3) m=some 0:=by unfold AU9;rw [if_neg AGh,if_neg AGh]
 have h2:AVg (f + 3) [[x]] m=some [[x % m]]:=A5b (n:=1) (F:=fun _ _=>x) AGh hm Aa AGh;generalize x % m=r at Ab Ac hg h2 ⊢;obtain ⟨⟨v,b⟩,h3,h4,h5⟩:=Au2 Ab Ac hm Aa hf
 obtain rfl:b=true:=by
   cases b
   · exact absurd hg (h5 rfl)
   · rfl
 have hv:=h4 rfl;dsimp only at hv;have Ae:=hv.1;have Am:=hv.2.1;have e3:Int.tmod (w64 (1 * v)) m=v:=by rw [Int.one_mul,AWk (x:=v) AGh AGh,Int.tmod_eq_emod_of_nonneg Ae,Int.emod_eq_of_lt Ae Am]
 refine ⟨v,?_,hv⟩
 have a1:iter (fun s:Int × List (List Int)=>Aeo (f + 3) [[x]] [[r]] s.1 s.2) (f + 3) (0,[[r]])=some [[r,1]]:=by
   rw [Ajk (s':=(1,[[r,1]])) rfl,Ahl rfl]
 have a2:iter (fun s:Int × Int=>AZd (f + 3) [[r,1]] s.1 s.2) (f + 3) (1,0)=some 1:=by
   have b5:iter (fun s:Int × Int=>Aen (f + 3) [[r,1]] s.1 s.2) (f + 3) (1,1)=some 1:=Ahl rfl
   rw [Ajk (s':=(1,1)) ?_,Ahl rfl]
   show AZd (f + 3) [[r,1]] 1 0=_
   unfold AZd
   rw [if_pos (by show (0:Int) < ((1:Nat):Int);decide),show w64 (0 + 1)=1 from rfl,b5]
   rfl
 have a3:iter (fun s:Int × List (List Int)=>AZe (f + 3) m s.1 s.2) (f + 3) (0,[[r,1]])=some (Sum.inr [[Int.tmod (w64 (r * v)) m,v]]):=by
   have Af:m≠0:=by omega
   have Av:iter (fun s:Int × List (List Int)=>AWu (f + 3) m 0 [r,1] v s.1 s.2) (f + 3) (0,[[r,1]])=some [[Int.tmod (w64 (r * v)) m,v]]:=by
     rw [Ajk (s':=(1,[[Int.tmod (w64 (r * v)) m,1]])) ?_,Ajk (s':=(2,[[Int.tmod (w64 (r * v)) m,v]])) ?_,Ahl rfl]
     · show AWu (f + 3) m 0 [r,1] v 1 [[Int.tmod (w64 (r * v)) m,1]]=_
       unfold AWu
       rw [if_pos (by show (1:Int) < ((2:Nat):Int);decide)]
       show (if m≠0 then some (Sum.inl ((2:Int),[[Int.tmod (w64 (r * v)) m,Int.tmod (w64 (1 * v)) m]])) else none)=_
       rw [if_pos Af,e3]
     · show AWu (f + 3) m 0 [r,1] v 0 [[r,1]]=_
       unfold AWu
       rw [if_pos (by show (0:Int) < ((2:Nat):Int);decide)]
       show (if m≠0 then some (Sum.inl ((1:Int),[[Int.tmod (w64 (r * v)) m,1]])) else none)=_
       rw [if_pos Af]
   have Aw:iter (fun s:Int=>Adz (f + 3) 0 s) (f + 3) 0=some ():=Ahl rfl
   rw [Ajk (s':=(-1,[[Int.tmod (w64 (r * v)) m,v]])) ?_,Ahl rfl]
   show AZe (f + 3) m 0 [[r,1]]=_
   unfold AZe
   rw [if_pos AGj,show gI [[r,1]] (0:Int)=some [r,1] from rfl]
   simp only [Option.bind_some]
   rw [show gI [r,1] (0:Int)=some r from rfl]
   simp only [Option.bind_some]
   rw [h3]
   simp only [Option.bind_some]
   rw [if_neg AGj,Av]
   simp only [Option.bind_some]
   rw [Aw]
   rfl
 have a4:iter (fun s:Int × List (List Int)=>Ad0 (f + 3) [[x]] [[Int.tmod (w64 (r * v)) m,v]] s.1 s.2) (f + 3) (0,[[Int.tmod (w64 (r * v)) m,v]])=some [[v]]:=by
   rw [Ajk (s':=(1,[[v]])) rfl,Ahl rfl]
 unfold AZk;rw [h0];simp only [Option.bind_some];rw [if_neg AGj,h1];simp only [Option.bind_some];rw [if_neg AGj,h2];simp only [Option.bind_some];rw [a1];simp only [Option.bind_some];rw [a2];simp only [Option.bind_some];rw [show w64 (([[x]].length:Nat) - 1:Int)=0 from rfl,a3];simp only [Option.bind_some];rw [a4];rfl
end Go.Proofs.YthbndcbclhkepaaGreatDoor
namespace Go.Proofs.YthbndcbclhkepaaGreatDoor
open Go Go.QF
set_option maxRecDepth 100000
theorem A0i {body:Int × List (List Int)->Option ((Int × List (List Int)) ⊕ List (List Int))} {fuel n:Nat} {G G':AS4} (hf:n < fuel)
    (hs:∀ (r:Nat) (M:AS4),r < n->(∀ b,M r b=G r b)->body ((r:Int),tab n n M)=some (.inl (((r + 1:Nat):Int),tab n n (AUu M r (G' r))))) (he:∀ X,body ((n:Int),X)=some (.inr X)):iter body fuel (0,tab n n G)=some (tab n n G'):=by
  apply ok_eq;refine AUa (fun r st=> ∃ M,st=((r:Int),tab n n M)/\r<=n/\ ∀ a b,M a b=if a < r then G' a b else G a b) n ⟨G,rfl,Nat.zero_le _,fun a b=>by rw [if_neg (Nat.not_lt_zero a)]⟩ hf fun r st hr hI=>?_;obtain ⟨M,rfl,hrn,hM⟩:=hI
  rcases Nat.lt_or_ge r n with h | h
  · rw [hs r M h fun b=>by rw [hM,if_neg (Nat.lt_irrefl r)]];refine AGp ⟨h,_,rfl,h,fun a b=>?_⟩;rw [ATy]
    by_cases h1:a=r
    · subst h1;rw [if_pos rfl,if_pos (Nat.lt_succ_self a)]
    · rw [if_neg h1,hM]
      by_cases h2:a < r
      · rw [if_pos h2,if_pos AGh]
      · rw [if_neg h2,if_neg AGh]
  · obtain rfl:r=n:=by omega
    rw [he];exact AGp (Afk fun a b ha hb=>by rw [hM,if_pos ha])
theorem A77 {body:Int × List (List Int)->Option ((Int × List (List Int)) ⊕ List (List Int))} {fuel n j:Nat} {G:AS4} {g:Nat->Int} (hf:n < fuel)
    (hs:∀ (s:Nat) (M:AS4),s < n->(∀ a b,a≠j->M a b=G a b)->M j s=G j s->body ((s:Int),tab n n M)=some (.inl (((s + 1:Nat):Int),tab n n (AUu M j fun b=>if b=s then g s else M j b)))) (he:∀ X,body ((n:Int),X)=some (.inr X)):iter body fuel (0,tab n n G)=some (tab n n (AUu G j g)):=by
  apply ok_eq;refine AUa (fun s st=> ∃ M,st=((s:Int),tab n n M)/\s<=n/\ ∀ a b,M a b=if a=j/\b < s then g b else G a b) n ⟨G,rfl,Nat.zero_le _,fun a b=>by rw [if_neg AGh]⟩ hf fun s st hr hI=>?_;obtain ⟨M,rfl,hrn,hM⟩:=hI
  rcases Nat.lt_or_ge s n with h | h
  · rw [hs s M h (fun a b ha=>by rw [hM,if_neg AGh]) (by rw [hM,if_neg AGh])];refine AGp ⟨h,_,rfl,h,fun a b=>?_⟩;rw [ATy]
    by_cases h1:a=j
    · subst h1;rw [if_pos rfl]
      by_cases h2:b=s
      · subst h2;rw [if_pos rfl,if_pos ⟨rfl,Nat.lt_succ_self b⟩]
      · rw [if_neg h2,hM]
        by_cases h3:b < s
        · rw [if_pos ⟨rfl,h3⟩,if_pos ⟨rfl,AGh⟩]
        · rw [if_neg (fun h=>h3 h.2),if_neg AGh]
    · rw [if_neg h1,hM,if_neg (fun h=>h1 h.1),if_neg (fun h=>h1 h.1)]
  · obtain rfl:s=n:=by omega
    rw [he];refine AGp (Afk fun a b ha hb=>?_);rw [hM,ATy]
    by_cases h1:a=j
    · rw [if_pos ⟨h1,hb⟩,if_pos h1]
    · rw [if_neg (fun h=>h1 h.1),if_neg h1]
theorem A78 {n j l:Nat} {q c:Int} {G:AS4}:tab n n (AUu G j fun b=>(G j b + c * G l b) % q)=tab n n (A5h q j l c G):=Afk fun a b _ _=>by
  unfold A5h;rw [ATy]
theorem A5m {n j l r:Nat} {q c:Int} {M G:AS4} (h:∀ b,M r b=G r b):tab n n (AUu M r fun b=>if b=j then (M r j + c * M r l) % q else M r b)=tab n n (AUu M r (Anu q j l c G r)):=Aw4 fun b _=>by
  unfold Anu;rw [h,h,h]
theorem A5n {n i k r:Nat} {M:AS4} (hi:i < n) (hk:k < n) (hr:r < n) (hn:n<=8):
    ((gI (tab n n M) (r:Int)).bind fun x=>(gI x (i:Int)).bind fun y=>(gI x (k:Int)).bind fun z=>(gI (sI (tab n n M) (r:Int) (sI x (k:Int) y)) (r:Int)).bind fun u=>(gI u (i:Int)).bind fun w=>some (Sum.inl (β:=List (List Int)) (w64 ((r:Int) + 1),sI (sI (tab n n M) (r:Int) (sI x (k:Int) y)) (r:Int) (sI u (i:Int) z))))=some (.inl (((r + 1:Nat):Int),tab n n (AUu M r fun b=>M r (sw2 k i b)))):=by
 rw [AY5 (AT7 hr),AY5 (ATv hi),AY5 (ATv hk),Aop,Aa3,AY5 (AT7 hr),AUw,AY5 (ATv hi),Aop,Aa3,AWt AGh];congr 3;refine Afk fun a b ha hb=>?_;rw [ATy,ATy,ATy];by_cases h:a=r
 ·rw [if_pos h,if_pos h];unfold sw2;by_cases h1:b=i
  ·rw [if_pos h1,if_pos h1]
  ·rw [if_neg h1,if_neg h1];by_cases h2:b=k
   ·rw [if_pos h2,if_pos h2]
   ·rw [if_neg h2,if_neg h2]
 ·rw [if_neg h,if_neg h,if_neg h]
theorem A5o {body:Int × List (List Int) × List (List Int)->Option ((Int × List (List Int) × List (List Int)) ⊕ (List (List Int) × List (List Int)))} {fuel:Nat} {g t g' t':List (List Int)} (hf:3 < fuel) (h0:body (0,g,t)=some (.inl (1,g',t))) (h1:body (1,g',t)=some (.inl (2,g',t'))) (h2:body (2,g',t')=some (.inr (g',t'))):iter body fuel (0,g,t)=some (g',t'):=by
  obtain ⟨f,rfl⟩:∃ f,fuel=f + 3:=⟨fuel - 3,AGh⟩;rw [Ajk h0,Ajk h1,Ahl h2]
section
variable {fuel n i j k:Nat} {q c:Int} {G T:AS4}
end
end Go.Proofs.YthbndcbclhkepaaGreatDoor
namespace Go.Proofs.YthbndcbclhkepaaGreatDoor
open Go Go.QF
set_option maxRecDepth 100000
structure PV (n k:Nat) (p:Int) (G:AS4) (r c E:Nat):Prop where
  hr:k<=r
  hrc:r<=c
  hc:c < n
  u:∃ u,G r c=u * p ^ E/\¬ p ∣ u
  dg:r≠c-> ∀ a,k<=a->a < n->p ^ (E + 1) ∣ G a a
def Dn (n k d i a e:Nat):Prop:=k<=a/\a + e < n/\(e < d∨e=d/\a < i)
section
variable {fuel n k f:Nat} {p q:Int} {G:AS4}
end
end Go.Proofs.YthbndcbclhkepaaGreatDoor
namespace Go.Proofs.YthbndcbclhkepaaGreatDoor
open Go Go.QF
theorem Aw6 {k:Nat} (hk:k<=30) (a:Int):AY7 .and .i64 a (2 ^ k - 1)=a % 2 ^ k:=by
 show w64 (((BitVec.ofInt 64 a &&& BitVec.ofInt 64 (2 ^ k - 1)).toNat:Nat):Int)=_;have h1:(2:Int) ^ k<=2 ^ 30:=Adk AGj hk;have h2:0 < (2:Int) ^ k:=Int.pow_pos AGj;have h3:(2:Int) ^ 30=1073741824:=by decide
 have h4:((2:Int) ^ k)=((2 ^ k:Nat):Int):=by rw [Int.natCast_pow];rfl
 have h5:0 < 2 ^ k:=Nat.pow_pos AGj
 have e1:(((2:Int) ^ k - 1) % ((2 ^ 64:Nat):Int)).toNat=2 ^ k - 1:=by
   rw [Int.emod_eq_of_lt AGh AGh];omega
 have e2:=Aqj (q:=(2:Int) ^ k) h2 a;rw [BitVec.toNat_and,BitVec.toNat_ofInt,BitVec.toNat_ofInt,e1,Nat.and_two_pow_sub_one_eq_mod,Int.natCast_emod,Int.toNat_of_nonneg (Int.emod_nonneg _ AGj),<- h4,Int.emod_emod_of_dvd _ (show (2:Int) ^ k ∣ ((2 ^ 64:Nat):Int) from ⟨2 ^ (64 - k),by rw [<- Int.pow_add,show k + (64 - k)=64 by omega];decide⟩),wk AGh]
theorem A1z {q P A B C x y v c d:Int} (hc:Eqm q c ((B * y - C * x) * v)) (hd:Eqm q d ((B * x - A * y) * v)) (hv:Eqm q (v * (A * C - B * B)) 1):((P * x + c * (P * A)) % q + d * (P * B)) % q=0/\((P * y + c * (P * B)) % q + d * (P * C)) % q=0:=by
  have one:∀ z:Int,Eqm q (P * z - P * z * (v * (A * C - B * B))) 0:=fun z=>by
    have:=(Eqm.refl q (P * z)).sub ((Eqm.refl q (P * z)).mul hv);rwa [Int.mul_one,Int.sub_self] at this
  constructor
  · refine Eqm.zero (((Eqm.mod _ _).add (Eqm.refl _ _)).trans ((((Eqm.refl _ _).add (hc.mul (Eqm.refl _ _))).add (hd.mul (Eqm.refl _ _))).trans (Eqm.trans (Eqm.of_eq ?_) (one x))));grind
  · refine Eqm.zero (((Eqm.mod _ _).add (Eqm.refl _ _)).trans ((((Eqm.refl _ _).add (hc.mul (Eqm.refl _ _))).add (hd.mul (Eqm.refl _ _))).trans (Eqm.trans (Eqm.of_eq ?_) (one y))));grind
def mvF (c i a:Nat):Nat:=if a=c then i else if c < a/\a<=i then a - 1 else a
theorem Aym (i a:Nat):mvF i i a=a:=by
 unfold mvF;by_cases h:a=i
 ·rw [if_pos h,h]
 ·rw [if_neg h,if_neg AGh]
theorem Ar6 {c i:Nat} (hc:c + 1<=i) (a:Nat):mvF (c + 1) i (sw2 c (c + 1) a)=mvF c i a:=by
 unfold sw2;by_cases h1:a=c + 1
 ·rw [if_pos h1];unfold mvF;rw [if_neg AGh,if_neg AGh,if_neg AGh,if_pos AGh];omega
 ·rw [if_neg h1];by_cases h2:a=c
  ·rw [if_pos h2];unfold mvF;rw [if_pos rfl,if_pos h2]
  ·rw [if_neg h2];unfold mvF;rw [if_neg h1,if_neg h2];by_cases h3:c + 1 < a/\a<=i
   ·rw [if_pos h3,if_pos AGh]
   ·rw [if_neg h3,if_neg AGh]
def mvG (c i:Nat) (G:AS4):AS4:=fun a b=>G (mvF c i a) (mvF c i b)
def mvC (c i:Nat) (T:AS4):AS4:=fun a b=>T a (mvF c i b)
theorem A5p (i:Nat) (G:AS4):mvG i i G=G:=by funext a b;unfold mvG;rw [Aym,Aym]
theorem A5q (i:Nat) (T:AS4):mvC i i T=T:=by funext a b;unfold mvC;rw [Aym]
theorem Aw7 {c i:Nat} (hc:c + 1<=i) (G:AS4):swG c (c + 1) (mvG (c + 1) i G)=mvG c i G:=by funext a b;unfold swG mvG;rw [Ar6 hc,Ar6 hc]
theorem Aw8 {c i:Nat} (hc:c + 1<=i) (T:AS4):swC c (c + 1) (mvC (c + 1) i T)=mvC c i T:=by funext a b;unfold swC mvC;rw [Ar6 hc]
theorem Ayn (c i:Nat):mvF c i c=i:=by unfold mvF;rw [if_pos rfl]
theorem A5r {c i a:Nat} (h:c < a) (h2:a<=i):mvF c i a=a - 1:=by unfold mvF;rw [if_neg AGh,if_pos ⟨h,h2⟩]
theorem A79 {f i j:Nat} (hf:f<=i) (hij:i < j) (G:AS4):mvG f (i + 1) (mvG f j G) f f=G i i/\mvG f (i + 1) (mvG f j G) f (f + 1)=G i j/\mvG f (i + 1) (mvG f j G) (f + 1) (f + 1)=G j j:=by
  unfold mvG;rw [Ayn,A5r (show f < f + 1 by omega) AGh,show f + 1 - 1=f by omega,Ayn,A5r (show f < i + 1 by omega) AGh];exact ⟨rfl,rfl,rfl⟩
def QSt (n k K:Nat) (G:AS4) (d i r c l:Nat):Prop:=
  (l=K/\r=k/\c=k/\ ∀ a e,Dn n k d i a e->G a (a + e)=0)∨(l < K/\PV n k 2 G r c l/\ ∀ a e,Dn n k d i a e->(2:Int) ^ l ∣ G a (a + e))
section
variable {n k K d i r c l:Nat} {G:AS4}
theorem QSt.init:QSt n k K G 0 k k k K:= .inl ⟨rfl,rfl,rfl,fun a e h=>by unfold Dn at h;omega⟩
theorem QSt.new {e:Nat} {u:Int} (H:QSt n k K G d i r c l) (hi:k<=i) (hin:i + d < n) (hx:G i (i + d)=u * 2 ^ e) (hu: ¬ (2:Int) ∣ u) (hl:e < l):QSt n k K G d (i + 1) i (i + d) e:=by
  have key:∀ a e',Dn n k d (i + 1) a e'->Dn n k d i a e'∨(a=i/\e'=d):=fun a e h=>by unfold Dn at *;omega
  have hK:e < K:=by
    rcases H with ⟨h1,_⟩ | ⟨h1,_⟩ <;> omega
  have all:∀ a e',Dn n k d i a e'->(2:Int) ^ (e + 1) ∣ G a (a + e'):=fun a e' h=>by
    rcases H with ⟨h1,_,_,h4⟩ | ⟨_,_,h3⟩
    · rw [h4 a e' h];exact ⟨0,ATw⟩
    · exact Int.dvd_trans (AX6 AGh) (h3 a e' h)
  refine .inr ⟨hK,⟨hi,AGh,hin,⟨u,hx,hu⟩,fun hne a h1 h2=>?_⟩,fun a e' h=>?_⟩
  · exact all a 0 (by unfold Dn;omega)
  · rcases key a e' h with h | ⟨rfl,rfl⟩
    · exact Int.dvd_trans (AX6 AGh) (all a e' h)
    · rw [hx];exact ⟨u,Int.mul_comm _ _⟩
theorem QSt.old (H:QSt n k K G d i r c l) (hx:(2:Int) ^ l ∣ G i (i + d)) (h0:l=K->G i (i + d)=0):QSt n k K G d (i + 1) r c l:=by
  have key:∀ a e',Dn n k d (i + 1) a e'->Dn n k d i a e'∨(a=i/\e'=d):=fun a e h=>by unfold Dn at *;omega
  rcases H with ⟨h1,h2,h3,h4⟩ | ⟨h1,h2,h3⟩
  · refine .inl ⟨h1,h2,h3,fun a e h=>?_⟩
    rcases key a e h with h | ⟨rfl,rfl⟩
    · exact h4 a e h
    · exact h0 h1
  · refine .inr ⟨h1,h2,fun a e' h=>?_⟩
    rcases key a e' h with h | ⟨rfl,rfl⟩
    · exact h3 a e' h
    · exact hx
theorem QSt.row (H:QSt n k K G d i r c l) (hi: ¬ i + d < n):QSt n k K G (d + 1) k r c l:=by
 have key:∀ a e,Dn n k (d + 1) k a e->Dn n k d i a e:=fun a e h=>by unfold Dn at *;omega
 rcases H with ⟨h1,h2,h3,h4⟩ | ⟨h1,h2,h3⟩
 ·exact .inl ⟨h1,h2,h3,fun a e h=>h4 a e (key a e h)⟩
 ·exact .inr ⟨h1,h2,fun a e h=>h3 a e (key a e h)⟩
theorem QSt.done (H:QSt n k K G (n - k) i r c l) (hk:k < n) (hne:∃ e,k + e < n/\G k (k + e)≠0):l < K/\PV n k 2 G r c l/\ ∀ a e,k<=a->a + e < n->(2:Int) ^ l ∣ G a (a + e):=by
 rcases H with ⟨_,_,_,h4⟩ | ⟨h1,h2,h3⟩
 ·obtain ⟨e,he,hx⟩:=hne;exact absurd (h4 k e (by unfold Dn;omega)) hx
 ·exact ⟨h1,h2,fun a e h4 h5=>h3 a e (by unfold Dn;omega)⟩
end
end Go.Proofs.YthbndcbclhkepaaGreatDoor
namespace Go.Proofs.YthbndcbclhkepaaGreatDoor
open Go Go.QF
set_option maxRecDepth 100000
theorem A5s {M:List (List Int)} {p v:Int} (R:Ar0 M) (hp:2<=p) (hp2:p<=9973) (h:Auw (det M.length (ent M)) p v):∃ k:Nat,((if p=2 then v + 3 else v + 1)=(k:Int))/\p ^ k<=2147483647/\1<=k/\(p=2->3<=k):=by
  obtain ⟨v1,v2⟩:=Ar1 R;obtain ⟨e,r,rfl,h1,h2⟩:=h;have hpe:0 < p ^ e:=Int.pow_pos AGh
  have hr:0 < r:=by
    rcases Int.lt_or_le 0 r with h | h
    · exact h
    · have:=Int.mul_nonpos_of_nonpos_of_nonneg h (Int.le_of_lt hpe);omega
  have hle:1 * p ^ e<=r * p ^ e:=Int.mul_le_mul_of_nonneg_right AGh AGh
  by_cases h:p=2
  · subst h;refine ⟨e + 3,by rw [if_pos rfl];rfl,?_,AGh,fun _=>by omega⟩;rw [Int.pow_add];have:(2:Int) ^ 3=8:=by decide
    omega
  · refine ⟨e + 1,by rw [if_neg h];rfl,?_,AGh,fun h2=>absurd h2 h⟩;rw [Int.pow_succ];have:=Int.mul_le_mul (show p ^ e<=10000 by omega) hp2 AGh AGh;omega
end Go.Proofs.YthbndcbclhkepaaGreatDoor
namespace Go.Proofs.YthbndcbclhkepaaGreatDoor
open Go Go.QF
set_option maxRecDepth 100000
set_option maxHeartbeats 4000000
def AXc (fuel:Nat) (a1 a2 a3 a4 a5:Int):Option Bool:=
  (if a2=1 then (if (AY7 .and .i64 a3 1)=1 then (if a4=0 then (some (decide (a5=0))) else (some false)) else (some false)) else (if a2=2 then (if (AY7 .and .i64 a3 1)=0 then (if (AY7 .and .i64 a4 1)=1 then (some (decide ((AY7 .and .i64 a5 1)=0))) else (some false)) else (some false)) else (some false)))
theorem Agl {fuel:Nat} {h:AGs} {a1 a2 a3 a4 a5:Int} {r:Bool} (hp:AXc fuel a1 a2 a3 a4 a5=some r):ATt Tryz.prog 46 #[(.agg #[(.int .i64 a1),(.int .i64 a2),(.int .i64 a3),(.int .i64 a4),(.int .i64 a5)])] h (fun x h'=>Ext h h'/\x= .bool r):=by
 unfold AXc at hp;refine cwf (l:=[_]) Tryz.func46 rfl rfl (AGl (AYn (Kst.k0 h) [(.int .i64 a1),(.int .i64 a2),(.int .i64 a3),(.int .i64 a4),(.int .i64 a5)] fun b6 h7 E9 Aa=>AGw (AGn (AGl (AUv Ae9 AT2 (Aa.b p0) 1 rfl (AGq (AGo (AGl (AV2 rfl rfl (AGw ?_))))))))));refine ⟨_,rfl,fun Ak=>?_,fun Ak=>?_⟩
 ·refine AGl (AUv Af8 ATd (Aa.b p0) 2 rfl (Aax rfl rfl AGj (AV2 rfl rfl (AGi ?_))));have Ao:=AT0 hp Ak;by_cases Ad:(AY7 .and .i64 a3 1)=1
  ·have Ap:=ifT Ao Ad;rw [decide_eq_true Ad];refine ATo 11 true (AVp Afa rfl (ATo 11 true (ATz ATd rfl ((Aa.b p0).cell (i:=3) rfl) (ATo 11 true (AV2 rfl rfl (ATh rfl (AGi ?_)))))));by_cases Ae:a4=0
   ·rw [decide_eq_true Ae];refine ATo 16 true (AVp Ajf rfl (ATo 16 true (ATz ATd rfl ((Aa.b p0).cell (i:=4) rfl) (ATo 16 true (AV2 rfl rfl (ATh rfl (AGw (AGy (AUf (ATb ?_))))))))));obtain rfl:=AGk (ifT Ap Ae);exact ⟨_,AS1,Aa.x,rfl⟩
   ·rw [decide_eq_false Ae];refine Abq 16 false (ATq rfl (AGw (AGy (AUf (ATb ?_)))));obtain rfl:=AGk (ifF Ap Ae);exact ⟨_,AS1,Aa.x,rfl⟩
  ·rw [decide_eq_false Ad];refine Abq 11 false (ATq rfl (AGi (Abq 16 false (ATq rfl (AGw (AGy (AUf (ATb ?_))))))));obtain rfl:=AGk (ifF Ao Ad);exact ⟨_,AS1,Aa.x,rfl⟩
 ·refine AGl (AV2 rfl rfl (AGw ?_));have Aq:=AT1 hp Ak;refine ⟨_,rfl,fun Am=>?_,fun Am=>?_⟩
  ·refine AGl (AUv Af8 ATd (Aa.b p0) 2 rfl (Aax rfl rfl AGj (AV2 rfl rfl (AGi ?_))));have Ar:=AT0 Aq Am;by_cases Af:(AY7 .and .i64 a3 1)=0
   ·have Au:=ifT Ar Af;rw [decide_eq_true Af];refine ATo 27 true (AVp Afa rfl (ATo 27 true (ATz ATd rfl ((Aa.b p0).cell (i:=3) rfl) (ATo 27 true (Aax rfl rfl AGj (ATo 27 true (AV2 rfl rfl (ATh rfl (AGi ?_)))))))));by_cases Ag:(AY7 .and .i64 a4 1)=1
    ·rw [decide_eq_true Ag];refine ATo 33 true (AVp Ajf rfl (ATo 33 true (ATz ATd rfl ((Aa.b p0).cell (i:=4) rfl) (ATo 33 true (Aax rfl rfl AGj (ATo 33 true (AV2 rfl rfl (ATh rfl (AGw (AGy (AUf (ATb ?_))))))))))));obtain rfl:=AGk (ifT Au Ag);exact ⟨_,AS1,Aa.x,rfl⟩
    ·rw [decide_eq_false Ag];refine Afz 33 false (ATq rfl (AGw (AGy (AUf (ATb ?_)))));obtain rfl:=AGk (ifF Au Ag);exact ⟨_,AS1,Aa.x,rfl⟩
   ·rw [decide_eq_false Af];refine Afz 27 false (ATq rfl (AGi (Afz 33 false (ATq rfl (AGw (AGy (AUf (ATb ?_))))))));obtain rfl:=AGk (ifF Ar Af);exact ⟨_,AS1,Aa.x,rfl⟩
  ·refine AGx (q_b (q_t (AGl (AGw (AGy ?_)))));obtain rfl:=AGk (AT1 Aq Am);exact ⟨_,AS1,Aa.x,rfl⟩
def Ab5 (fuel:Nat) (a8:(List AW8)) (Ae:(List AX4)) (Am Ad:Int):Option (((List AX4) × Int × Int) ⊕ ((((List AX4) × Bool)) ⊕ ((List AX4)))):=
  (if Ad < (a8.length:Int) then ((gI a8 Ad).bind fun Aa=>(((if Aa.1 < 0 then (some (Sum.inl <| ([],false))) else (if 60 < Aa.1 then (some (Sum.inl <| ([],false))) else ((AXc fuel Aa.1 Aa.2.1 Aa.2.2.1 Aa.2.2.2.1 Aa.2.2.2.2).bind fun Aq=>(if (!Aq)=true then (some (Sum.inl <| ([],false))) else (if 0 < Ad then ((gI a8 (w64 (Ad - 1))).bind fun Ar=>(if Aa.1 < Ar.1 then (some (Sum.inl <| ([],false))) else (some (Sum.inr <| ())))) else (some (Sum.inr <| ()))))))):Option ((((List AX4) × Bool)) ⊕ (Unit))).bind (fun ex=>match ex with | Sum.inl Au=>(some (Sum.inr<| Sum.inl <| Au)) | Sum.inr (_)=>(if 8 < (w64 (Am + Aa.2.1)) then (some (Sum.inr<| Sum.inl <| ([],false))) else (((if Ad=0 then (if Ae.length<=100000000 then (some ( (Ae ++ [(Aa.1,0,1,false,0)]))) else none) else ((gI a8 (w64 (Ad - 1))).bind fun Av=>(if Av.1 < Aa.1 then (if Ae.length<=100000000 then (some ( (Ae ++ [(Aa.1,0,1,false,0)]))) else none) else (some ( Ae))))):Option (((List AX4)))).bind (fun (Ab:(List AX4))=>((gI Ab (w64 ((Ab.length:Int) - 1))).bind fun Ax=>(((((if Aa.2.1=1 then ((gI Ab (w64 ((Ab.length:Int) - 1))).bind fun Ac=>((gI (sI Ab (w64 ((Ab.length:Int) - 1)) (Ac.1,Ac.2.1,Ac.2.2.1,true,Ac.2.2.2.2)) (w64 ((Ab.length:Int) - 1))).bind fun Af=>(some ( (Aa.2.2.1,(sI (sI Ab (w64 ((Ab.length:Int) - 1)) (Ac.1,Ac.2.1,Ac.2.2.1,true,Ac.2.2.2.2)) (w64 ((Ab.length:Int) - 1)) (Af.1,Af.2.1,Af.2.2.1,Af.2.2.2.1,(AY7 .and .i64 (w64 (Af.2.2.2.2 + (AY7 .and .i64 Aa.2.2.1 7))) 7)))))))) else (some ( ((w64 ((w64 (Aa.2.2.1 * Aa.2.2.2.2)) - (w64 (Aa.2.2.2.1 * Aa.2.2.2.1)))),Ab)))):Option ((Int × (List AX4)))).bind (fun ((Ao,Ag):Int × (List AX4))=>(((if (AY7 .and .i64 Ao 7)=3 then ((gI Ag (w64 ((Ab.length:Int) - 1))).bind fun Ah=>(some ( (sI Ag (w64 ((Ab.length:Int) - 1)) (Ah.1,Ah.2.1,(w64 (0 - Ah.2.2.1)),Ah.2.2.2.1,Ah.2.2.2.2))))) else (if (AY7 .and .i64 Ao 7)=5 then ((gI Ag (w64 ((Ab.length:Int) - 1))).bind fun Ai=>(some ( (sI Ag (w64 ((Ab.length:Int) - 1)) (Ai.1,Ai.2.1,(w64 (0 - Ai.2.2.1)),Ai.2.2.2.1,Ai.2.2.2.2))))) else (some ( Ag)))):Option (((List AX4)))).bind (fun (Ap:(List AX4))=>((gI Ap (w64 ((Ab.length:Int) - 1))).bind fun Aj=>(some ( (sI Ap (w64 ((Ab.length:Int) - 1)) (Aj.1,(w64 (Aj.2.1 + Aa.2.1)),Aj.2.2.1,Aj.2.2.2.1,Aj.2.2.2.2))))))))):Option ((List AX4))).bind fun Aw=>(some (Sum.inl (Aw,(w64 (Am + Aa.2.1)),(w64 (Ad + 1))))))))))))) else (some (Sum.inr<| Sum.inr <| Ae)))
def AXi (fuel:Nat) (a1:Int) (a4:LiI) (a8:(List AW8)):Option ((List AX4) × Bool):=
  (((if ¬ a1=2 then (some (Sum.inl <| ([],false))) else (if (a8.length:Int) < 1 then (some (Sum.inl <| ([],false))) else (some (Sum.inr <| ())))):Option ((((List AX4) × Bool)) ⊕ (Unit))).bind (fun ex=>match ex with | Sum.inl Ac=>(some Ac) | Sum.inr (_)=>((iter (fun s=>Ab5 fuel a8 s.1 s.2.1 s.2.2) fuel ([],0,0)).bind (fun ex=>match ex with | Sum.inl Ad=>(some Ad) | Sum.inr (Ae)=>(some (Ae,true))))))
theorem Ae8 {fuel:Nat} {h:AGs} {a1:Int} {A9:Value} {a4:LiI} {Ba:Value} {a8:(List AW8)} {r:((List AX4) × Bool)} (H3:AXq (cI .i64) h A9 a4) (H7:SlC Akv h Ba a8) (hp:AXi fuel a1 a4 a8=some r):ATt Tryz.prog 16 #[(.agg #[(.int .i64 a1),A9,Ba])] h (fun x h'=>Ext h h'/\ ∃ (x0:Value) (F0:List Nat),x= .tuple #[x0,.bool r.2]/\OwC Af5 44 h' F0 x0 r.1/\Sp h' h.size [F0]):=by
 unfold AXi at hp;refine cwf (l:=[_]) Tryz.func16 rfl rfl (AGl (AYn (Kst.k0 h) [(.int .i64 a1),A9,Ba] fun Fc Fd Fe Ap=>ATi (AGw ?_)));obtain ⟨Cr,B4,Bb⟩:=AGm hp;refine Aey 130828 (fun x:Unit=>[]) (fun x h'=>(Sum.inr <| ())=Cr/\Kst h h' (Ap.L)) ?_ ?_
 ·refine AGl (AUv Ay6 ATd (Ap.b p0) 0 rfl (AXa rfl rfl (AGi ?_)));by_cases Ay: ¬ a1=2
  ·rw [decide_eq_true Ay];refine Afz 11 true (ATh rfl (AGq (ATn rfl (AGl (ATi (AGw ?_))))));obtain rfl:=AGk (ifT B4 Ay);refine AGy (ATb ?_);have Bc:=Kst.anil Af5 44 Ap;obtain rfl:=AGk Bb;exact ⟨_,AUm,Bc.x,_,_,rfl,(Bc.o p0),Bc.s.sel [0] AGj⟩
  ·have B5:=ifF B4 Ay;rw [decide_eq_false Ay];refine ATo 11 false (AVp Aje rfl (ATo 11 false (ATz Apo rfl ((Ap.b p0).cell (i:=2) rfl) (ATo 11 false (AUn Ama rfl H7 (ATo 11 false (ATm rfl rfl (ATq rfl (AGq (⟨_,rfl,fun Be=>?_,fun Be=>?_⟩))))))))))
   ·refine AGl (ATi (AGw ?_));obtain rfl:=AGk (AT0 B5 Be);refine AGy (ATb ?_);have Bf:=Kst.anil Af5 44 Ap;obtain rfl:=AGk Bb;exact ⟨_,AUm,Bf.x,_,_,rfl,(Bf.o p0),Bf.s.sel [0] AGj⟩
   ·refine AGx (q_t ?_);exact ⟨(():Unit),⟨AGk (AT1 B5 Be),Ap⟩,trivial⟩
 rintro ⟨⟩ Ff Fg ⟨Ct,B6⟩;subst Ct;refine AGl (ATx (AGw (AGn (AGl (AUv Aje Apo (B6.b p0) 2 rfl (AUn Ama rfl H7 (AGi (AGq (AGo ?_)))))))));have B7:=Kst.anil Af5 44 B6;refine AX3 309485009821345068723732732 (fun x:((List AX4)) × (Value) × LnA × (Int) × (Int)=>(x.1,x.2.2.2.1,x.2.2.2.2)) (([],(.slice none 0 0),[],0,0):((List AX4)) × (Value) × LnA × (Int) × (Int)) Bb (fun x=>[(4,x.2.1),(5,(.int .i64 x.2.2.2.1)),(20,(.int .i64 x.2.2.2.2))]) (fun x=>B7.L.set 0 (aO Af5 44 x.2.2.1 x.2.1 x.1)) B7 ⟨rfl,rfl,rfl,trivial⟩ ?_;rintro ⟨Bg,Cu,Cv,Fh,B8⟩ Fi Fj Fk Av Bh Aq;unfold Ab5 at Bh;refine AGl (ATm rfl rfl (AGq (AGn (⟨_,rfl,fun Bi=>?_,fun Bi=>?_⟩))))
 ·refine AGx (q_t (AGn (AGo (AGl (AGi ?_)))));obtain ⟨Aa,Cw,Cx⟩:=AGm (AT0 Bh Bi);refine Ac0 (c:=Akv) Ama rfl H7 rfl Cw fun Fl Fm Fo Cy Cz=>?_;obtain rfl:=Cy;refine Afm (c:=Akv) Acf rfl rfl (fun j u hu=>(ATl (Cz j u hu) Av.x)) (AVt Av [(.int .i64 0),(.int .i64 0),(.int .i64 0),(.int .i64 0),(.int .i64 0)] Amb fun Fp Fq Fr B9=>ATi (AUz [(.int .i64 Aa.1),(.int .i64 Aa.2.1),(.int .i64 Aa.2.2.1),(.int .i64 Aa.2.2.2.1),(.int .i64 Aa.2.2.2.2)] Acf rfl rfl rfl rfl (by simp [isOne]) (B9.b p0) fun Ft C0 C1=>AGq ?_));have Ak:=B9.sb p0 C1 C0 rfl;obtain ⟨C2,Ca,Ar⟩:=AGm Cx;refine Aey 18014398475927564 (fun x:Unit=>[]) (fun x h'=>(Sum.inr <| ())=C2/\Kst h h' (Ak.L)) ?_ ?_
  ·refine AGn (AXm (AUv Ab8 AT2 (Ak.b p0) 0 rfl (ATm rfl rfl (AGi ?_))));by_cases Az:Aa.1 < 0
   ·rw [decide_eq_true Az];refine Abq 28 true (ATh rfl (AGi (Abq 33 true (ATh rfl (AGi (Abq 38 true (AV5 41 AGv rfl (AV5 41 AGv rfl (AV5 41 AGv rfl (AV5 41 AGv rfl (AV5 41 AGv rfl (AV5 41 AGv rfl (AV5 41 AGv rfl (AV5 41 AGv rfl (AV5 41 AGv rfl (AV5 41 AGv rfl (Avk 38 true (ATh rfl (AGq (ATn rfl (AGl (ATi (AGw ?_)))))))))))))))))))))));obtain rfl:=AGk (ifT Ca Az);refine AGy (ATb (AUf (ATb (ATb (AUf (ATb ?_))))));have Bj:=Kst.anil Af5 44 Ak;obtain rfl:=AGk (Aq _ (AGk Ar).symm);exact ⟨_,AUm,Bj.x,_,_,rfl,(Bj.o p0),Bj.s.sel [0] AGj⟩
   ·have Cb:=ifF Ca Az;rw [decide_eq_false Az];refine ATo 28 false (AVp Ab8 rfl (ATo 28 false (ATz AT2 rfl ((Ak.b p0).cell (i:=0) rfl) (ATo 28 false (AY6 rfl rfl (ATq rfl (AGi ?_)))))));by_cases A3:60 < Aa.1
    ·rw [decide_eq_true A3];refine Abq 33 true (ATh rfl (AGi (Abq 38 true (AV5 41 AGv rfl (AV5 41 AGv rfl (AV5 41 AGv rfl (AV5 41 AGv rfl (AV5 41 AGv rfl (AV5 41 AGv rfl (AV5 41 AGv rfl (AV5 41 AGv rfl (AV5 41 AGv rfl (AV5 41 AGv rfl (Avk 38 true (ATh rfl (AGq (ATn rfl (AGl (ATi (AGw ?_))))))))))))))))))));obtain rfl:=AGk (ifT Cb A3);refine AGy (ATb (AUf (ATb (ATb (AUf (ATb ?_))))));have Bl:=Kst.anil Af5 44 Ak;obtain rfl:=AGk (Aq _ (AGk Ar).symm);exact ⟨_,AUm,Bl.x,_,_,rfl,(Bl.o p0),Bl.s.sel [0] AGj⟩
    ·rw [decide_eq_false A3];refine ATo 33 false (Acb [(.int .i64 Aa.1),(.int .i64 Aa.2.1),(.int .i64 Aa.2.2.1),(.int .i64 Aa.2.2.2.1),(.int .i64 Aa.2.2.2.2)] Acf rfl rfl (Ak.b p0).agg (ATo 33 false ?_));obtain ⟨C3,C4,Cd⟩:=AGm (ifF Cb A3);refine AXx Ak (Agl C4) fun Fu Fv Am=>ATo 33 false (AWp rfl (ATq rfl (AGi ?_)));cases Ce:(!C3)
     ·refine ATo 38 false (AGi (ATo 38 false (AY6 rfl rfl (ATo 38 false (AGi ?_)))));have Cf:=Aav Cd Ce;by_cases A4:0 < B8
      ·rw [decide_eq_true A4];refine ATo 41 true (AVp Ab8 rfl (ATo 41 true (ATz AT2 rfl ((Am.b p0).cell (i:=0) rfl) (ATo 41 true (AVp Aje rfl (ATo 41 true (ATz Apo rfl ((Am.b p2).cell (i:=2) rfl) (ATo 41 true (AGi (ATo 41 true (AVe rfl rfl (ATo 41 true ?_))))))))))));obtain ⟨Fw,C5,Cg⟩:=AGm (ifT Cf A4);refine Ac0 (c:=Akv) Ama rfl H7 rfl C5 fun Fx Fy Fz C6 C7=>?_;obtain rfl:=C6;refine ATo 41 true (AVp Ab8 rfl (ATo 41 true (ATz AT2 rfl (ATl (C7 0 _ rfl) Am.x) (ATo 41 true (ATm rfl rfl (ATo 38 false (ATh rfl (ATq rfl (AGq (⟨_,rfl,fun Bm=>?_,fun Bm=>?_⟩))))))))))
       ·refine AGl (ATi (AGw ?_));obtain rfl:=AGk (AT0 Cg Bm);refine AGy (ATb (AUf (ATb (ATb (AUf (ATb ?_))))));have Bn:=Kst.anil Af5 44 Am;obtain rfl:=AGk (Aq _ (AGk Ar).symm);exact ⟨_,AUm,Bn.x,_,_,rfl,(Bn.o p0),Bn.s.sel [0] AGj⟩
       ·refine AGx (q_t ?_);exact ⟨(():Unit),⟨AGk (AT1 Cg Bm),Am⟩,trivial⟩
      ·rw [decide_eq_false A4];refine Acd 41 false (Acd 41 false (ATo 38 false (ATq rfl (ATq rfl (AGq (ATp rfl (AGx (q_t ?_))))))));exact ⟨(():Unit),⟨AGk (ifF Cf A4),Am⟩,trivial⟩
     ·refine Abq 38 true (AV5 41 AGv rfl (AV5 41 AGv rfl (AV5 41 AGv rfl (AV5 41 AGv rfl (AV5 41 AGv rfl (AV5 41 AGv rfl (AV5 41 AGv rfl (AV5 41 AGv rfl (AV5 41 AGv rfl (AV5 41 AGv rfl (Avk 38 true (ATh rfl (AGq (ATn rfl (AGl (ATi (AGw ?_)))))))))))))))));obtain rfl:=AGk (ifT Cd Ce);refine AGy (ATb (AUf (ATb (ATb (AUf (ATb ?_))))));have Bo:=Kst.anil Af5 44 Am;obtain rfl:=AGk (Aq _ (AGk Ar).symm);exact ⟨_,AUm,Bo.x,_,_,rfl,(Bo.o p0),Bo.s.sel [0] AGj⟩
  rintro ⟨⟩ F4 F5 ⟨C8,Ab⟩;subst C8;refine AGl (AGi (AUv Ae9 AT2 (Ab.b p0) 1 rfl (ATj rfl rfl (AGw (AGn (AGl (AGi (AY6 rfl rfl (AGq (⟨_,rfl,fun Bp=>?_,fun Bp=>?_⟩))))))))))
  ·refine AGl (ATi (AGw (AGy (ATb (AUf (ATb (ATb (AUf (ATb ?_)))))))));have Bq:=Kst.anil Af5 44 Ab;obtain rfl:=AGk (Aq _ (AGk (AT0 Ar Bp)).symm);exact ⟨_,AUm,Bq.x,_,_,rfl,(Bq.o p0),Bq.s.sel [0] AGj⟩
  ·refine AGx (q_t ?_);obtain ⟨C9,Ch,Da⟩:=AGm (AT1 Ar Bp);refine Aey 1208924666693124567859216 (fun x:((List AX4)) × (Value) × LnA=>[(4,x.2.1)]) (fun x h'=>( x.1)=C9/\Kst h h' (Ab.L.set 1 (aO Af5 44 x.2.2 x.2.1 x.1))) ?_ ?_
   ·refine AGn (AXm (AGi (AV2 rfl rfl (AGi ?_))));by_cases A5:B8=0
    ·rw [decide_eq_true A5];refine Acd 62 true (Acd 62 true (ATh rfl (AGq (ATn rfl (AS3 (AGi (AUv Ab8 AT2 (Ab.b p0) 0 rfl (AWe (v:=(.agg #[(.int .i64 Aa.1),(.int .i64 0),(.int .i64 1),(.bool false),(.int .i64 0)])) (fun _=>by kernel_rfl) ?_))))))));obtain ⟨Db,Dc⟩:=ifN (ifT Ch A5);refine Aep Ali At2 rfl rfl trivial tt2 (fun _=>rfl) rfl (show (Af5).rep _ (Aa.1,0,1,false,0) [(.int .i64 Aa.1),(.int .i64 0),(.int .i64 1),(.bool false),(.int .i64 0)] from rfl) (Ab.o p1) AGj Db fun F6 Dd De F7 Df Dg Dh=>AGw ?_;exact ⟨(((Bg ++ [(Aa.1,0,1,false,0)]),De,Dd):((List AX4)) × (Value) × LnA),⟨AGk Dc,(Ab.uo p1 Dg Df Dh)⟩,rfl,trivial⟩
    ·rw [decide_eq_false A5];refine ATo 62 false (AVp Ab8 rfl (ATo 62 false (ATz AT2 rfl ((Ab.b p0).cell (i:=0) rfl) (ATo 62 false (AVp Aje rfl (ATo 62 false (ATz Apo rfl ((Ab.b p2).cell (i:=2) rfl) (ATo 62 false (AGi (ATo 62 false (AVe rfl rfl (ATo 62 false ?_))))))))))));obtain ⟨F8,Di,Ci⟩:=AGm (ifF Ch A5);refine Ac0 (c:=Akv) Ama rfl H7 rfl Di fun F9 Ga Gb Dj Dk=>?_;obtain rfl:=Dj;refine ATo 62 false (AVp Ab8 rfl (ATo 62 false (ATz AT2 rfl (ATl (Dk 0 _ rfl) Ab.x) (ATo 62 false (AY6 rfl rfl (ATq rfl (AGq (⟨_,rfl,fun Br=>?_,fun Br=>?_⟩))))))))
     ·refine AS3 (AGi (AUv Ab8 AT2 (Ab.b p0) 0 rfl (AWe (v:=(.agg #[(.int .i64 Aa.1),(.int .i64 0),(.int .i64 1),(.bool false),(.int .i64 0)])) (fun _=>by kernel_rfl) ?_)));obtain ⟨Dl,Do⟩:=ifN (AT0 Ci Br);refine Aep Ali At2 rfl rfl trivial tt2 (fun _=>rfl) rfl (show (Af5).rep _ (Aa.1,0,1,false,0) [(.int .i64 Aa.1),(.int .i64 0),(.int .i64 1),(.bool false),(.int .i64 0)] from rfl) (Ab.o p1) AGj Dl fun Gc Dp Dq Gd Dr Ds Dt=>AGw ?_;exact ⟨(((Bg ++ [(Aa.1,0,1,false,0)]),Dq,Dp):((List AX4)) × (Value) × LnA),⟨AGk Do,(Ab.uo p1 Ds Dr Dt)⟩,rfl,trivial⟩
     ·refine AGx (q_t ?_);exact ⟨((Bg,Cu,Cv):((List AX4)) × (Value) × LnA),⟨AGk (AT1 Ci Br),Ab⟩,rfl,trivial⟩
   rintro ⟨Ao,Bt,Bu⟩ Ge Gf ⟨Du,Aw⟩;subst Du;refine AXm (AGi (AGi (AUn Ali rfl (Aw.o p1).rd (AVe rfl rfl ?_))));obtain ⟨Gg,Dv,Dw⟩:=AGm Da;refine Aq4 Ali rfl (Aw.o p1) rfl Dv fun Gh Ah=>Acb [(.int .i64 Aa.1),(.int .i64 Aa.2.1),(.int .i64 Aa.2.2.1),(.int .i64 Aa.2.2.2.1),(.int .i64 Aa.2.2.2.2)] Acf rfl rfl (Aw.b p0).agg ?_;obtain ⟨Dx,Dy,Dz⟩:=AGm Dw;refine ATc (K':=(fun xr h'=> ∃ x:((List AX4)),x=Dx/\xr= .tuple #[]/\Kst h h' (Aw.L.set 1 (aO Af5 44 Bu Bt x)))) trivial rfl ?_ fun Gi Gj D0=>?_
   ·refine cwf (l:=[_,_]) Tryz.func47 rfl rfl (AGl (AYn Aw [(.int .i64 Aa.1),(.int .i64 Aa.2.1),(.int .i64 Aa.2.2.1),(.int .i64 Aa.2.2.2.1),(.int .i64 Aa.2.2.2.2)] fun Gk Gl Gm Ac=>AZf (AUv Af8 ATd (Ac.b p0) 2 rfl (AGw ?_))));obtain ⟨D1,Cj,D2⟩:=AGm Dy;refine Aey 137438953232 (fun x:(Int) × ((List AX4))=>[(4,(.int .i64 x.1))]) (fun x h'=>( (x.1,x.2))=D1/\Kst h h' (Ac.L.set 2 (aO Af5 44 Bu Bt x.2))) ?_ ?_
    ·refine AGl (AUv Ae9 AT2 (Ac.b p0) 1 rfl (AV2 rfl rfl (AGq (⟨_,rfl,fun Bv=>?_,fun Bv=>?_⟩))))
     ·refine AGl (AGi (AUq rfl (AVp Ay8 rfl ?_)));obtain ⟨Ai,D3,D4⟩:=AGm (AT0 Cj Bv);refine Ard (c:=Af5) (a':=(Ai.1,Ai.2.1,Ai.2.2.1,true,Ai.2.2.2.2)) AWf rfl rfl rfl AGj (Ac.o p2) Ah D3 (fun _ q=>by cases q;rfl) fun Gn D5 D6=>AGq (AXm (AGi (AGi (AUq rfl (AVp Ay9 rfl ?_)))));have A6:=Ac.uO p2 D6 D5;obtain ⟨Ad,Ck,D7⟩:=AGm D4;obtain ⟨Gp,D8,D9⟩:=(A6.o p2).cells Ah Ck;obtain rfl:=D8;refine ATz AT2 rfl (D9 4 _ rfl) (AUv Af8 ATd (A6.b p0) 2 rfl (Aax rfl rfl AGj (ATj rfl rfl (Aax rfl rfl AGj (AUq rfl (AVp Ay9 rfl (Ard (c:=Af5) (a':=(Ad.1,Ad.2.1,Ad.2.2.1,Ad.2.2.2.1,(AY7 .and .i64 (w64 (Ad.2.2.2.2 + (AY7 .and .i64 Aa.2.2.1 7))) 7))) AT2 rfl rfl rfl AGj (A6.o p2) Ah Ck (fun _ q=>by cases q;rfl) fun Gq Ea Eb=>AGq ?_)))))));exact ⟨((Aa.2.2.1,(sI (sI Ao (w64 ((Ao.length:Int) - 1)) (Ai.1,Ai.2.1,Ai.2.2.1,true,Ai.2.2.2.2)) (w64 ((Ao.length:Int) - 1)) (Ad.1,Ad.2.1,Ad.2.2.1,Ad.2.2.2.1,(AY7 .and .i64 (w64 (Ad.2.2.2.2 + (AY7 .and .i64 Aa.2.2.1 7))) 7)))):(Int) × ((List AX4))),⟨AGk D7,(A6.uO p2 Eb Ea)⟩,rfl,trivial⟩
     ·refine AS3 (AUv Af8 ATd (Ac.b p0) 2 rfl (AUv Ajf ATd (Ac.b p0) 4 rfl (Abo rfl rfl (AUv Afa ATd (Ac.b p0) 3 rfl (AUv Afa ATd (Ac.b p0) 3 rfl (Abo rfl rfl (AVe rfl rfl (AGw ?_))))))));exact ⟨(((w64 ((w64 (Aa.2.2.1 * Aa.2.2.2.2)) - (w64 (Aa.2.2.2.1 * Aa.2.2.2.1)))),Ao):(Int) × ((List AX4))),⟨AGk (AT1 Cj Bv),Ac⟩,rfl,trivial⟩
    rintro ⟨Ec,Bw⟩ Gr Gt ⟨Ed,Aj⟩;subst Ed;obtain ⟨Ee,Cm,Ef⟩:=AGm D2;refine Aey 9007061815787552 (fun x:((List AX4))=>[]) (fun x h'=>( x)=Ee/\Kst h h' (Aj.L.set 2 (aO Af5 44 Bu Bt x))) ?_ ?_
    ·refine AGl (AGi (Aax rfl rfl AGj (ATx (AGi (AV2 rfl rfl (AGi ?_))))));by_cases A7:(AY7 .and .i64 Ec 7)=3
     ·rw [decide_eq_true A7];refine Ae3 41 true (ATh rfl (AGq (ATn rfl (AS3 (AGi (AGi (AUq rfl (AVp Ap6 rfl ?_))))))));obtain ⟨Ae,Cn,Eg⟩:=AGm (ifT Cm A7);obtain ⟨Gu,Eh,Ei⟩:=(Aj.o p2).cells Ah Cn;obtain rfl:=Eh;refine ATz AT2 rfl (Ei 2 _ rfl) (Aqo rfl (AUq rfl (AVp Ap6 rfl (Ard (c:=Af5) (a':=(Ae.1,Ae.2.1,(w64 (0 - Ae.2.2.1)),Ae.2.2.2.1,Ae.2.2.2.2)) AT2 rfl rfl rfl AGj (Aj.o p2) Ah Cn (fun _ q=>by cases q;rfl) fun Gv Ej Ek=>AGq ?_))));exact ⟨((sI Bw (w64 ((Ao.length:Int) - 1)) (Ae.1,Ae.2.1,(w64 (0 - Ae.2.2.1)),Ae.2.2.2.1,Ae.2.2.2.2)):((List AX4))),⟨AGk Eg,(Aj.uO p2 Ek Ej)⟩,trivial⟩
     ·have Co:=ifF Cm A7;rw [decide_eq_false A7];refine ATo 41 false (AGi (ATo 41 false (AV2 rfl rfl (ATq rfl (AGq (⟨_,rfl,fun Bx=>?_,fun Bx=>?_⟩))))))
      ·refine AS3 (AGi (AGi (AUq rfl (AVp Ap6 rfl ?_))));obtain ⟨Af,Cp,El⟩:=AGm (AT0 Co Bx);obtain ⟨Gw,Em,En⟩:=(Aj.o p2).cells Ah Cp;obtain rfl:=Em;refine ATz AT2 rfl (En 2 _ rfl) (Aqo rfl (AUq rfl (AVp Ap6 rfl (Ard (c:=Af5) (a':=(Af.1,Af.2.1,(w64 (0 - Af.2.2.1)),Af.2.2.2.1,Af.2.2.2.2)) AT2 rfl rfl rfl AGj (Aj.o p2) Ah Cp (fun _ q=>by cases q;rfl) fun Gx Eo Ep=>AGq ?_))));exact ⟨((sI Bw (w64 ((Ao.length:Int) - 1)) (Af.1,Af.2.1,(w64 (0 - Af.2.2.1)),Af.2.2.2.1,Af.2.2.2.2)):((List AX4))),⟨AGk El,(Aj.uO p2 Ep Eo)⟩,trivial⟩
      ·refine AGx (q_t ?_);exact ⟨(Bw:((List AX4))),⟨AGk (AT1 Co Bx),Aj⟩,trivial⟩
    rintro Er Gy Gz ⟨Es,A8⟩;subst Es;refine AXm (AGi (AUq rfl (AVp Ay7 rfl ?_)));obtain ⟨Ag,Cq,Et⟩:=AGm Ef;obtain ⟨G3,Eu,Ev⟩:=(A8.o p2).cells Ah Cq;obtain rfl:=Eu;refine ATz AT2 rfl (Ev 1 _ rfl) (AUv Ae9 AT2 (A8.b p0) 1 rfl (ATj rfl rfl (AUq rfl (AVp Ay7 rfl (Ard (c:=Af5) (a':=(Ag.1,(w64 (Ag.2.1 + Aa.2.1)),Ag.2.2.1,Ag.2.2.2.1,Ag.2.2.2.2)) AT2 rfl rfl rfl AGj (A8.o p2) Ah Cq (fun _ q=>by cases q;rfl) fun G4 Ew Ey=>ATf (⟨_,AZg,((sI Er (w64 ((Ao.length:Int) - 1)) (Ag.1,(w64 (Ag.2.1 + Aa.2.1)),Ag.2.2.1,Ag.2.2.2.1,Ag.2.2.2.2)):((List AX4))),?_,rfl,?_⟩))))))
    ·exact AGk Et
    ·exact (A8.uO p2 Ey Ew).sel [1,2,3] AGj
   obtain ⟨G5,Ez,rfl,Fa⟩:=D0;refine ⟨trivial,?_⟩;subst Ez;refine ATf (q_b (q_t (AS3 (ATj rfl rfl (AGi (AGq ?_))))));exact ⟨(_,_,_,_,_),(AGk Dz).symm,Fa.sel [1,2] AGj,rfl,rfl,rfl,trivial⟩
 ·refine AS9 (ATa (ATa (AT9 (q_t (AGl (AGi (ATi (AGw (AGy ?_)))))))));obtain rfl:=AGk (Aq _ (AGk (AT1 Bh Bi)).symm);exact ⟨_,AUm,Av.x,_,_,rfl,(Av.o p0),Av.s.sel [0] AGj⟩
def Aes (fuel:Nat) (Ab:(List AX4)) (Aa:Int):Option ((Int) ⊕ ((Bool) ⊕ (Unit))):=
  (if Aa < (Ab.length:Int) then ((gI Ab Aa).bind fun Ac=>(if Ac.1=0 then (if Ac.2.2.2.1=true then (some (Sum.inr<| Sum.inl <| false)) else (some (Sum.inl (w64 (Aa + 1))))) else (some (Sum.inl (w64 (Aa + 1)))))) else (some (Sum.inr<| Sum.inr <| ())))
def Adu (fuel:Nat) (a1:Int) (a4:LiI) (a8:(List AW8)):Option Bool:=
  ((AXi fuel a1 a4 a8).bind fun (Ad,Ae)=>(if (!Ae)=true then (some false) else ((iter (fun s=>Aes fuel Ad s) fuel 0).bind (fun ex=>match ex with | Sum.inl Af=>(some Af) | Sum.inr (_)=>(some true)))))
theorem Akl {fuel:Nat} {h:AGs} {a1:Int} {Ad:Value} {a4:LiI} {Ae:Value} {a8:(List AW8)} {r:Bool} (H3:AXq (cI .i64) h Ad a4) (H7:SlC Akv h Ae a8) (hp:Adu fuel a1 a4 a8=some r):ATt Tryz.prog 21 #[(.agg #[(.int .i64 a1),Ad,Ae])] h (fun x h'=>Ext h h'/\x= .bool r):=by
 unfold Adu at hp;refine cwf (l:=[_]) Tryz.func21 rfl rfl (AGl (AYn (Kst.k0 h) [(.int .i64 a1),Ad,Ae] fun Bg Bh Bi Af=>ATx (Acb [(.int .i64 a1),Ad,Ae] Af7 rfl rfl (Af.b p0).agg ?_)));obtain ⟨⟨Bj,Bl⟩,A5,Ai⟩:=AGm hp;dsimp only at Ai;refine Afg rfl (Ae8 (H3.ext Af.x) (H7.ext Af.x) A5) fun Bm Bn A6 A7=>?_;obtain ⟨Bo,Bp,rfl,A8,A9⟩:=A7;refine AGi (AUe rfl rfl (AUe rfl rfl (ATi (AGw (AGn (AGl (AGi (AWp rfl (AGq ?_)))))))));have Aj:=Af.no A6 A9 A8;refine ⟨_,rfl,fun Ak=>?_,fun Ak=>?_⟩
 ·refine AGl (AGw (AGy (ATb ?_)));obtain rfl:=AGk (ifT Ai Ak);exact ⟨_,AS1,Aj.x,rfl⟩
 ·refine AGx (q_t (AGn (AGl (AGi (AUn Ali rfl (Aj.o p0).rd (AGi (AGq (AGo ?_))))))));have Am:=Aj.sel [0] AGj;dsimp only [AYk,Abf] at Am;refine AY2 268369988 (Aav Ai Ak) (fun x=>[(16,(.int .i64 x))]) (fun x=>Am.L) Am ⟨rfl,trivial⟩ ?_;rintro Bq Br Bt Bu Ag Ao Av;unfold Aes at Ao;refine AGl (ATm rfl rfl (AGq (AGn (⟨_,rfl,fun Ap=>?_,fun Ap=>?_⟩))))
  ·refine AGx (q_t (AGn (AGo (AGl ?_))));obtain ⟨Aa,Aw,Ax⟩:=AGm (AT0 Ao Ap);refine Aq4 Ali rfl (Ag.o p0) rfl Aw fun Bv Ba=>?_;obtain ⟨Bw,Bb,Bc⟩:=(Ag.o p0).cells Ba Aw;obtain rfl:=Bb;refine Afm (c:=Af5) At0 rfl rfl (fun j u hu=>(Bc j u hu)) (AVt Ag [(.int .i64 0),(.int .i64 0),(.int .i64 0),(.bool false),(.int .i64 0)] At2 fun Bx By Bz Ay=>AUz [(.int .i64 Aa.1),(.int .i64 Aa.2.1),(.int .i64 Aa.2.2.1),(.bool Aa.2.2.2.1),(.int .i64 Aa.2.2.2.2)] At0 rfl rfl rfl rfl (by simp [isOne]) (Ay.b p0) fun B1 Be Bf=>AZf ?_);have Ab:=Ay.sb p0 Bf Be rfl;refine AUv A6i AT2 (Ab.b p0) 0 rfl (AV2 rfl rfl (AGi ?_));by_cases Ah:Aa.1=0
   ·have Az:=ifT Ax Ah;rw [decide_eq_true Ah];refine ATo 23 true (AVp Ay8 rfl (ATo 23 true (ATz AWf rfl ((Ab.b p0).cell (i:=3) rfl) (ATh rfl (AGq (⟨_,rfl,fun Aq=>?_,fun Aq=>?_⟩))))))
    ·refine AGl (AGw (AGy (AUf (ATb (ATb (AUf (ATb ?_)))))));obtain rfl:=AGk (Av _ (AGk (ifT Az Aq)).symm);exact ⟨_,AS1,Ab.x,rfl⟩
    ·refine AGx (q_b (q_t (AS3 (ATj rfl rfl (AGi (AGq ?_))))));exact ⟨_,(AGk (Aav Az Aq)).symm,Ab.sel [1] AGj,rfl,trivial⟩
   ·rw [decide_eq_false Ah];refine Ae3 23 false (ATq rfl (AGq (ATp rfl (AGx (q_b (q_t (AS3 (ATj rfl rfl (AGi (AGq ?_))))))))));exact ⟨_,(AGk (ifF Ax Ah)).symm,Ab.sel [1] AGj,rfl,trivial⟩
  ·refine AS9 (ATa (ATa (AT9 (q_t (AGl (AGw (AGy ?_)))))));obtain rfl:=AGk (Av _ (AGk (AT1 Ao Ap)).symm);exact ⟨_,AS1,Ag.x,rfl⟩
def Ahz (fuel:Nat) (a1 a3 a4 a5 a6 Ac:Int):Option ((Int) ⊕ ((Bool) ⊕ (Unit))):=
  (if Ac < 3 then ((gI ([a3,a4,a5]:List Int) Ac).bind fun Ad=>(if Ad < 0 then (some (Sum.inr<| Sum.inl <| false)) else (if 0<=(w64 (a6 - a1))/\(w64 (a6 - a1))<=64 then (if (w64 (1 * 2 ^ Int.toNat (w64 (a6 - a1))))<=Ad then (some (Sum.inr<| Sum.inl <| false)) else (some (Sum.inl (w64 (Ac + 1))))) else none))) else (some (Sum.inr<| Sum.inr <| ())))
def Ag5 (fuel:Nat) (a1 a2 a3 a4 a5 a6:Int):Option Bool:=
  ((iter (fun s=>Ahz fuel a1 a3 a4 a5 a6 s) fuel 0).bind (fun ex=>match ex with | Sum.inl Af=>(some Af) | Sum.inr (_)=>(some true)))
theorem Am8 {fuel:Nat} {h:AGs} {a1 a2 a3 a4 a5 a6:Int} {r:Bool} (hp:Ag5 fuel a1 a2 a3 a4 a5 a6=some r):ATt Tryz.prog 72 #[(.agg #[(.int .i64 a1),(.int .i64 a2),(.int .i64 a3),(.int .i64 a4),(.int .i64 a5)]),(.int .i64 a6)] h (fun x h'=>Ext h h'/\x= .bool r):=by
 unfold Ag5 at hp;refine cwf (l:=[_,_]) Tryz.func72 rfl rfl (AGl (AYn (Kst.k0 h) [(.int .i64 a1),(.int .i64 a2),(.int .i64 a3),(.int .i64 a4),(.int .i64 a5)] fun b7 h8 Ay Aa=>AGw (AGn (AGl (AUv Af8 ATd (Aa.b p0) 2 rfl (AUv Afa ATd (Aa.b p0) 3 rfl (AUv Ajf ATd (Aa.b p0) 4 rfl (AWe (v:=(.agg #[(.int .i64 a3),(.int .i64 a4),(.int .i64 a5)])) (fun _=>by kernel_rfl) (AGi (AGq (AGo (AY2 536854608 hp (fun x=>[(14,(.int .i64 x))]) (fun x=>Aa.L) Aa ⟨rfl,trivial⟩ ?_))))))))))));rintro Az A3 A4 A5 Ab Ai Aj;unfold Ahz at Ai;refine AGl (ATm rfl rfl (AGq (AGn (⟨_,rfl,fun Ak=>?_,fun Ak=>?_⟩))))
 ·refine AGx (q_t (AGn (AGo (AGl ?_))));obtain ⟨Ar,Au,Ap⟩:=AGm (AT0 Ai Ak);refine A2g (cs:= #[]) (v:=undef) (BBn Au) (ATx (AGi (ATm rfl rfl (AGi ?_))));by_cases Af:Ar < 0
  ·rw [decide_eq_true Af];refine Acd 19 true (Ae3 19 true (ATh rfl (AGq (ATn rfl (AGl (AGw (AGy (AUf (ATb (ATb (AUf (ATb ?_))))))))))));obtain rfl:=AGk (Aj _ (AGk (ifT Ap Af)).symm);exact ⟨_,AS1,Ab.x,rfl⟩
  ·rw [decide_eq_false Af];refine ATo 19 false (AGi (ATo 19 false (AGi (ATo 19 false (AVp Ab8 rfl (ATo 19 false (ATz AT2 rfl ((Ab.b p0).cell (i:=0) rfl) (ATo 19 false (AVe rfl rfl (ATo 19 false ?_))))))))));obtain ⟨Av,Aq⟩:=ifN (ifF Ap Af);refine AYt rfl rfl Av (ATo 19 false (Aga rfl rfl (ATq rfl (AGq (⟨_,rfl,fun Am=>?_,fun Am=>?_⟩)))))
   ·refine AGl (AGw (AGy (AUf (ATb (ATb (AUf (ATb ?_)))))));obtain rfl:=AGk (Aj _ (AGk (AT0 Aq Am)).symm);exact ⟨_,AS1,Ab.x,rfl⟩
   ·refine AGx (q_b (q_t (AS3 (ATj rfl rfl (AGi (AGq ?_))))));exact ⟨_,(AGk (AT1 Aq Am)).symm,Ab,rfl,trivial⟩
 ·refine AS9 (ATa (ATa (AT9 (q_t (AGl (AGw (AGy ?_)))))));obtain rfl:=AGk (Aj _ (AGk (AT1 Ai Ak)).symm);exact ⟨_,AS1,Ab.x,rfl⟩
def Ait (fuel:Nat) (Aa:Int) (Ac:LiA) (Ab:Int):Option ((Int) ⊕ ((Bool) ⊕ (Unit))):=
  (if Ab < (Ac.length:Int) then ((gI Ac Ab).bind fun Ad=>(if Ad < 0 then (some (Sum.inr<| Sum.inl <| false)) else (if 0<=Aa/\Aa<=64 then (if (w64 (1 * 2 ^ Int.toNat Aa))<=Ad then (some (Sum.inr<| Sum.inl <| false)) else (some (Sum.inl (w64 (Ab + 1))))) else none))) else (some (Sum.inr<| Sum.inr <| ())))
def Aiu (fuel:Nat) (Ac Ad:LiI) (Ab:Int) (Ae:LiA) (Aa:Int):Option ((Int) ⊕ ((Bool) ⊕ (Unit))):=
  (if Aa < (Ae.length:Int) then ((gI Ad Ab).bind fun Af=>((gI Af Aa).bind fun Ag=>((gI Ac Ab).bind fun Ah=>((gI Ah Aa).bind fun Ai=>(if ¬ Ag=Ai then (some (Sum.inr<| Sum.inl <| false)) else (some (Sum.inl (w64 (Aa + 1))))))))) else (some (Sum.inr<| Sum.inr <| ())))
def Aiv (fuel:Nat) (Ac Ab:LiI) (Aa:Int):Option ((Int) ⊕ ((Bool) ⊕ (Unit))):=
  (if Aa < (Ab.length:Int) then ((gI Ab Aa).bind fun Ad=>((iter (fun s=>Aiu fuel Ac Ab Aa Ad s) fuel 0).bind (fun ex=>match ex with | Sum.inl Ae=>(some (Sum.inr<| Sum.inl <| Ae)) | Sum.inr (_)=>(some (Sum.inl (w64 (Aa + 1))))))) else (some (Sum.inr<| Sum.inr <| ())))
def Aiw (fuel:Nat) (Ah:(List AW8)) (Ai Ab Ak Af:Int) (Ac:LiI):Option ((Int × Int × Int × LiI) ⊕ ((Bool) ⊕ (LiI))):=
  (if Af < (Ah.length:Int) then ((gI Ah Af).bind fun Aa=>(((if Aa.1 < Ak then (some (Sum.inl <| false)) else (if (w64 (Ai - 3)) < Aa.1 then (some (Sum.inl <| false)) else ((Ag5 fuel Aa.1 Aa.2.1 Aa.2.2.1 Aa.2.2.2.1 Aa.2.2.2.2 Ai).bind fun Am=>(if (!Am)=true then (some (Sum.inl <| false)) else ((AXc fuel Aa.1 Aa.2.1 Aa.2.2.1 Aa.2.2.2.1 Aa.2.2.2.2).bind fun Ao=>(if (!Ao)=true then (some (Sum.inl <| false)) else (some (Sum.inr <| ())))))))):Option ((Bool) ⊕ (Unit))).bind (fun ex=>match ex with | Sum.inl Ap=>(some (Sum.inr<| Sum.inl <| Ap)) | Sum.inr (_)=>((gI Ac Ab).bind fun Ad=>(if 0<=Aa.1/\Aa.1<=64 then ((gI Ad Ab).bind fun Ar=>(((if Aa.2.1=2 then ((gI (sI Ac Ab (sI Ad Ab (w64 (Aa.2.2.1 * 2 ^ Int.toNat Aa.1)))) Ab).bind fun Ae=>(if 0<=Aa.1/\Aa.1<=64 then ((gI Ae (w64 (Ab + 1))).bind fun Au=>((gI (sI (sI Ac Ab (sI Ad Ab (w64 (Aa.2.2.1 * 2 ^ Int.toNat Aa.1)))) Ab (sI Ae (w64 (Ab + 1)) (w64 (Aa.2.2.2.1 * 2 ^ Int.toNat Aa.1)))) (w64 (Ab + 1))).bind fun Ag=>(if 0<=Aa.1/\Aa.1<=64 then ((gI Ag Ab).bind fun Av=>((gI (sI (sI (sI Ac Ab (sI Ad Ab (w64 (Aa.2.2.1 * 2 ^ Int.toNat Aa.1)))) Ab (sI Ae (w64 (Ab + 1)) (w64 (Aa.2.2.2.1 * 2 ^ Int.toNat Aa.1)))) (w64 (Ab + 1)) (sI Ag Ab (w64 (Aa.2.2.2.1 * 2 ^ Int.toNat Aa.1)))) (w64 (Ab + 1))).bind fun Aj=>(if 0<=Aa.1/\Aa.1<=64 then ((gI Aj (w64 (Ab + 1))).bind fun Aw=>(some ( (sI (sI (sI (sI Ac Ab (sI Ad Ab (w64 (Aa.2.2.1 * 2 ^ Int.toNat Aa.1)))) Ab (sI Ae (w64 (Ab + 1)) (w64 (Aa.2.2.2.1 * 2 ^ Int.toNat Aa.1)))) (w64 (Ab + 1)) (sI Ag Ab (w64 (Aa.2.2.2.1 * 2 ^ Int.toNat Aa.1)))) (w64 (Ab + 1)) (sI Aj (w64 (Ab + 1)) (w64 (Aa.2.2.2.2 * 2 ^ Int.toNat Aa.1))))))) else none))) else none))) else none)) else (some ( (sI Ac Ab (sI Ad Ab (w64 (Aa.2.2.1 * 2 ^ Int.toNat Aa.1))))))):Option ((LiI))).bind (fun (Aq:LiI)=>(some (Sum.inl ((w64 (Ab + Aa.2.1)),Aa.1,(w64 (Af + 1)),Aq)))))) else none))))) else (some (Sum.inr<| Sum.inr <| Ac)))
def Aix (fuel:Nat) (a3:LiI) (Ab:Int) (Ac:LiI):Option ((Int × LiI) ⊕ ((LiI))):=
  (if Ab < ((List.replicate (Int.toNat (a3.length:Int)) ([]:List Int)).length:Int) then (if 0<=(a3.length:Int)/\(a3.length:Int)<=100000000 then ((gI Ac Ab).bind fun Ad=>(some (Sum.inl ((w64 (Ab + 1)),(sI Ac Ab (List.replicate (Int.toNat (a3.length:Int)) (0:Int))))))) else none) else (some (Sum.inr<| Ac)))
def Aiy (fuel:Nat) (a8:LiI) (Ac Aa:Int):Option ((Int) ⊕ ((Bool) ⊕ (Unit))):=
  (if Aa < (a8.length:Int) then ((gI a8 Aa).bind fun Ad=>((iter (fun s=>Ait fuel Ac Ad s) fuel 0).bind (fun ex=>match ex with | Sum.inl Ae=>(some (Sum.inr<| Sum.inl <| Ae)) | Sum.inr (_)=>(some (Sum.inl (w64 (Aa + 1))))))) else (some (Sum.inr<| Sum.inr <| ())))
def Ahx (fuel:Nat) (a3:LiI) (a5:Int) (a8:LiI) (Ad:(List AW8)) (Ab:Int):Option Bool:=
  ((iter (fun s=>Aiy fuel a8 Ab s) fuel 0).bind (fun ex=>match ex with | Sum.inl Ae=>(some Ae) | Sum.inr (_)=>((Ajz fuel a8 2).bind fun (Af,Ao)=>(if Af=0 then (some false) else (if 0<=(a3.length:Int)/\(a3.length:Int)<=100000000 then ((iter (fun s=>Aix fuel a3 s.1 s.2) fuel (0,(List.replicate (Int.toNat (a3.length:Int)) ([]:List Int)))).bind (fun (Ag:LiI)=>((iter (fun s=>Aiw fuel Ad Ab s.1 s.2.1 s.2.2.1 s.2.2.2) fuel (0,0,0,Ag)).bind (fun ex=>match ex with | Sum.inl Ah=>(some Ah) | Sum.inr (Ai)=>(if 0<=Ab/\Ab<=64 then ((Ael fuel a3 a8 (w64 (1 * 2 ^ Int.toNat Ab))).bind fun (Aj,Ap)=>((iter (fun s=>Aiv fuel Ai Aj s) fuel 0).bind (fun ex=>match ex with | Sum.inl Ak=>(some Ak) | Sum.inr (_)=>(some true)))) else none))))) else none)))))
theorem Anv {fuel:Nat} {h:AGs} {B1:Value} {a3:LiI} {a5:Int} {A3:Value} {a8:LiI} {A4:Value} {B4:(List AW8)} {A5:Int} {r:Bool} (H2:AXq (cI .i64) h B1 a3) (H7:AXq (cI .i64) h A3 a8) (B5:SlC Akv h A4 B4) (hp:Ahx fuel a3 a5 a8 B4 A5=some r):ATt Tryz.prog 36 #[B1,(.agg #[(.int .i64 a5),A3,A4]),(.int .i64 A5)] h (fun x h'=>Ext h h'/\x= .bool r):=by
 unfold Ahx at hp;refine cwf (l:=[_,_,_]) Tryz.func36 rfl rfl (AGl (AYn (Kst.k0 h) [(.int .i64 a5),A3,A4] fun F4 F5 F6 A7=>AGw (AGn (AGl (AUv Amr AU1 (A7.b p0) 1 rfl (AT3 AS8 rfl H7 (AGi (AGq (AGo (AY2 281474708276544 hp (fun x=>[(28,(.int .i64 x))]) (fun x=>A7.L) A7 ⟨rfl,trivial⟩ ?_))))))))));rintro F7 F8 F9 Ga Ae A8 A9;unfold Aiy at A8;refine AGl (ATm rfl rfl (AGq (AGn (⟨_,rfl,fun Ba=>?_,fun Ba=>?_⟩))))
 ·refine AGx (q_t (AGn (AGo (AGl ?_))));obtain ⟨Gb,C4,C5⟩:=AGm (AT0 A8 Ba);refine Ac2 AS8 ATk H7 Ae.x C4 fun _ Gc B6=>ATx (AGi (AUn AS7 rfl B6 (AGi (AGq (AGo (AY2 140720308487232 C5 (fun x=>[(34,(.int .i64 x))]) (fun x=>Ae.L) Ae ⟨rfl,trivial⟩ ?_))))));rintro Gd Ge Gf Gg Ah Bb Bc;unfold Ait at Bb;refine AGl (ATm rfl rfl (AGq (AGn (⟨_,rfl,fun Be=>?_,fun Be=>?_⟩))))
  ·refine AGx (q_t (AGn (AGo (AGl ?_))));obtain ⟨C6,C7,B7⟩:=AGm (AT0 Bb Be);refine Ari AS7 ATd B6 Ah.x C7 fun _=>(ATx (AGi (ATm rfl rfl (AGi ?_))));by_cases Ap:C6 < 0
   ·rw [decide_eq_true Ap];refine Afz 40 true (ATh rfl (AGq (ATn rfl (AGl (AGw (AGy (AUf (ATb (ATb (AUf (AUf (ATb (ATb (AUf (ATb ?_)))))))))))))));obtain rfl:=AGk (A9 _ (AGk (Bc _ (AGk (ifT B7 Ap)).symm)).symm);exact ⟨_,AS1,Ah.x,rfl⟩
   ·rw [decide_eq_false Ap];refine ATo 40 false (AGi (ATo 40 false (AGi (ATo 40 false ?_))));obtain ⟨C8,B8⟩:=ifN (ifF B7 Ap);refine AYt rfl rfl C8 (ATo 40 false (Aga rfl rfl (ATq rfl (AGq (⟨_,rfl,fun Bf=>?_,fun Bf=>?_⟩)))))
    ·refine AGl (AGw (AGy (AUf (ATb (ATb (AUf (AUf (ATb (ATb (AUf (ATb ?_)))))))))));obtain rfl:=AGk (A9 _ (AGk (Bc _ (AGk (AT0 B8 Bf)).symm)).symm);exact ⟨_,AS1,Ah.x,rfl⟩
    ·refine AGx (q_b (q_t (AS3 (ATj rfl rfl (AGi (AGq ?_))))));exact ⟨_,(AGk (AT1 B8 Bf)).symm,Ah,rfl,trivial⟩
  ·refine AS9 (ATa (ATa (AT9 (q_b (q_t (AS3 (ATj rfl rfl (AGi (AGq ?_)))))))));exact ⟨_,(AGk (Bc _ (AGk (AT1 Bb Be)).symm)).symm,Ah,rfl,trivial⟩
 ·refine AS9 (ATa (ATa (AT9 (q_t (AGn (AGl (AUv Amr AU1 (Ae.b p0) 1 rfl ?_)))))));obtain ⟨⟨Gh,Gi⟩,C9,Bg⟩:=AGm (A9 _ (AGk (AT1 A8 Ba)).symm);dsimp only at Bg;refine AXx Ae (Apj (H7.ext Ae.x) C9) fun Gj Gk B9=>AGi (AUe rfl rfl (AUe rfl rfl (ATi (ATx (AGi (AV2 rfl rfl (AGq (⟨_,rfl,fun Bh=>?_,fun Bh=>?_⟩))))))))
  ·refine AGl (AGw (AGy (ATb ?_)));obtain rfl:=AGk (AT0 Bg Bh);exact ⟨_,AS1,B9.x,rfl⟩
  ·refine AGx (q_t (AGl (AGi (AT3 AS8 rfl H2 ?_))));obtain ⟨Da,Db⟩:=ifN (AT1 Bg Bh);refine Ajd (cI .i64) 2 AS8 Aez rfl trivial tt2 rfl rfl AGj Da fun Dc Dd De Bi Gl Df Dg Dh=>AGw (AGn (AGl (AGi ?_)));have Bj:=B9.no2 Dg Dh Df;refine AT3 AS8 rfl (Bj.o2 p0).rd (AGi (AGq (AGo (AX3 2358877398425608929280 (fun x:(Int) × (LiI) × LnA × LnN × LvA=>(x.1,x.2.1)) ((0,(List.replicate (Int.toNat (a3.length:Int)) ([]:List Int)),Dc,Dd,De):(Int) × (LiI) × LnA × LnN × LvA) Db (fun x=>[(61,(.int .i64 x.1))]) (fun x=>Bj.L.set 0 (aO2 (cI .i64) 49 2 x.2.2.1 x.2.2.2.1 x.2.2.2.2 Bi x.2.1)) Bj ⟨rfl,trivial⟩ ?_))));rintro ⟨Gm,Di,Dj,Dk,Dl⟩ Gn Gp Gq Aq Bl Do;unfold Aix at Bl;refine AGl (ATm rfl rfl (AGq (AGn (⟨_,rfl,fun Bm=>?_,fun Bm=>?_⟩))))
   ·refine AGx (q_t (AGn (AGo (AGl (AGi (AGw (AS3 (AGi (AGi (AGi (AT3 AS8 rfl H2 ?_)))))))))));obtain ⟨Dp,Dq⟩:=ifN (AT0 Bl Bm);refine Aii (c:=(cI .i64)) (a:=0) AS7 Ace rfl rfl (fun _=>rfl) rfl trivial tt2 rfl rfl AGj Dp fun Gr Gt Gu Dr Ds Dt Du=>?_;have Ai:=Aq.no Ds (AXv Dt Du) Dr;obtain ⟨Gv,Ca,Dv⟩:=AGm Dq;refine AVd AS8 rfl (Ai.o2 p1) rfl Ca fun Gw Gx Dw Gy Gz=>Ajc ATk (Ai.o2 p1) Ca Dw rfl rfl (Ai.o p0) (Ai.dj p0 p1 AGj) fun G3 Dx Dy Dz=>ATf (q_b (q_t (AS3 (ATj rfl rfl (AGi (AGq ?_))))));exact ⟨(_,_,_,_,_),(AGk Dv).symm,(Ai.m2 p0 p1 AGj Dy Dx (fun z hz=> .inl (Dz z hz))).sel [1,2] AGj,rfl,trivial⟩
   ·refine AS9 (ATa (ATa (AT9 (q_t (AGl (ATi (AGw (AGn (AGl (AUv Aje Apo (Aq.b p1) 2 rfl (AUn Ama rfl B5 (AGi (AGq (AGo (AX3 365375409332725729550921189289604823435402641472 (fun x:(Int) × (Int) × (Int) × (LiI) × LnA × LnN × LvA=>(x.1,x.2.1,x.2.2.1,x.2.2.2.1)) ((0,0,0,Di,Dj,Dk,Dl):(Int) × (Int) × (Int) × (LiI) × LnA × LnN × LvA) (Do _ (AGk (AT1 Bl Bm)).symm) (fun x=>[(15,(.int .i64 x.1)),(16,(.int .i64 x.2.1)),(74,(.int .i64 x.2.2.1))]) (fun x=>Aq.L.set 0 (aO2 (cI .i64) 49 2 x.2.2.2.2.1 x.2.2.2.2.2.1 x.2.2.2.2.2.2 Bi x.2.2.2.1)) Aq ⟨rfl,rfl,rfl,trivial⟩ ?_)))))))))))))));rintro ⟨Ab,D0,G4,Cb,Cd,Ce,Cf⟩ G5 G6 G7 Af Bn Aj;unfold Aiw at Bn;refine AGl (ATm rfl rfl (AGq (AGn (⟨_,rfl,fun Bo=>?_,fun Bo=>?_⟩))))
    ·refine AGx (q_t (AGn (AGo (AGl ?_))));obtain ⟨Aa,D1,D2⟩:=AGm (AT0 Bn Bo);refine Ac0 (c:=Akv) Ama rfl B5 rfl D1 fun G8 G9 Hb D3 D4=>?_;obtain rfl:=D3;refine Afm (c:=Akv) Acf rfl rfl (fun j u hu=>(ATl (D4 j u hu) Af.x)) (AVt Af [(.int .i64 0),(.int .i64 0),(.int .i64 0),(.int .i64 0),(.int .i64 0)] Amb fun Hc Hd He Cg=>AUz [(.int .i64 Aa.1),(.int .i64 Aa.2.1),(.int .i64 Aa.2.2.1),(.int .i64 Aa.2.2.2.1),(.int .i64 Aa.2.2.2.2)] Acf rfl rfl rfl rfl (by simp [isOne]) (Cg.b p0) fun Hf D5 D6=>AGq ?_);have Ac:=Cg.sb p0 D6 D5 rfl;obtain ⟨D7,Ch,Ak⟩:=AGm D2;refine Aey 1267650297996774497839409528896 (fun x:Unit=>[]) (fun x h'=>(Sum.inr <| ())=D7/\Kst h h' (Ac.L)) ?_ ?_
     ·refine AGl (AUv Ab8 AT2 (Ac.b p0) 0 rfl (AGi (ATm rfl rfl (AGi ?_))));by_cases Ar:Aa.1 < D0
      ·rw [decide_eq_true Ar];refine Acd 82 true (ATh rfl (AGi (Afz 89 true (ATh rfl (AGi (Abq 95 true (ATh rfl (AGq (ATn rfl (AGl (AGw ?_)))))))))));obtain rfl:=AGk (ifT Ch Ar);refine AGy (ATb (AUf (ATb (ATb (AUf (ATb ?_))))));obtain rfl:=AGk (Aj _ (AGk Ak).symm);exact ⟨_,AS1,Ac.x,rfl⟩
      ·have Ci:=ifF Ch Ar;rw [decide_eq_false Ar];refine ATo 82 false (AVp Ab8 rfl (ATo 82 false (ATz AT2 rfl ((Ac.b p0).cell (i:=0) rfl) (ATo 82 false (AGi (ATo 82 false (AVe rfl rfl (ATo 82 false (AY6 rfl rfl (ATq rfl (AGi ?_)))))))))));by_cases Au:(w64 (A5 - 3)) < Aa.1
       ·rw [decide_eq_true Au];refine Afz 89 true (ATh rfl (AGi (Abq 95 true (ATh rfl (AGq (ATn rfl (AGl (AGw ?_))))))));obtain rfl:=AGk (ifT Ci Au);refine AGy (ATb (AUf (ATb (ATb (AUf (ATb ?_))))));obtain rfl:=AGk (Aj _ (AGk Ak).symm);exact ⟨_,AS1,Ac.x,rfl⟩
       ·rw [decide_eq_false Au];refine ATo 89 false (Acb [(.int .i64 Aa.1),(.int .i64 Aa.2.1),(.int .i64 Aa.2.2.1),(.int .i64 Aa.2.2.2.1),(.int .i64 Aa.2.2.2.2)] Acf rfl rfl (Ac.b p0).agg (ATo 89 false (AGi (ATo 89 false ?_))));obtain ⟨D8,D9,Cj⟩:=AGm (ifF Ci Au);refine AXx Ac (Am8 D9) fun Hg Hh Bp=>ATo 89 false (AWp rfl (ATq rfl (AGi ?_)));cases Ck:(!D8)
        ·refine ATo 95 false (Acb [(.int .i64 Aa.1),(.int .i64 Aa.2.1),(.int .i64 Aa.2.2.1),(.int .i64 Aa.2.2.2.1),(.int .i64 Aa.2.2.2.2)] Acf rfl rfl (Bp.b p0).agg (ATo 95 false ?_));obtain ⟨Hj,Ea,Cm⟩:=AGm (Aav Cj Ck);refine AXx Bp (Agl Ea) fun Hk Hl Cn=>ATo 95 false (AWp rfl (ATq rfl (AGq (⟨_,rfl,fun Bq=>?_,fun Bq=>?_⟩))))
         ·refine AGl (AGw ?_);obtain rfl:=AGk (ifT Cm Bq);refine AGy (ATb (AUf (ATb (ATb (AUf (ATb ?_))))));obtain rfl:=AGk (Aj _ (AGk Ak).symm);exact ⟨_,AS1,Cn.x,rfl⟩
         ·refine AGx (q_t ?_);exact ⟨(():Unit),⟨AGk (Aav Cm Bq),Cn⟩,trivial⟩
        ·refine Abq 95 true (ATh rfl (AGq (ATn rfl (AGl (AGw ?_)))));obtain rfl:=AGk (ifT Cj Ck);refine AGy (ATb (AUf (ATb (ATb (AUf (ATb ?_))))));obtain rfl:=AGk (Aj _ (AGk Ak).symm);exact ⟨_,AS1,Bp.x,rfl⟩
     rintro ⟨⟩ Hm Hn ⟨Eb,Av⟩;subst Eb;refine AGn (AXm (AGi (AGi ?_)));obtain ⟨Co,Cp,Ec⟩:=AGm Ak;refine AUg AS8 ATk (Av.o2 p1) Cp fun _ Ho Ed=>AGi (AUv Af8 ATd (Av.b p0) 2 rfl (AUv Ab8 AT2 (Av.b p0) 0 rfl ?_));obtain ⟨Ee,Ef⟩:=ifN Ec;refine AYt rfl rfl Ee ?_;obtain ⟨Hq,Eg,Eh⟩:=AGm Ef;refine AZi (m:=Ab) Av p1 AS7 ATd Ed Cp Eg (fun _=>rfl) fun _ Hr Ad=>AGq ?_;obtain ⟨Ei,Cq,Ej⟩:=AGm Eh;refine Aey 2854495385409323613687304525084725024600883200 (fun x:(LiI) × LnA × LnN × LvA=>[]) (fun x h'=>( x.1)=Ei/\Kst h h' (Ad.L.set 1 (aO2 (cI .i64) 49 2 x.2.1 x.2.2.1 x.2.2.2 Bi x.1))) ?_ ?_
     ·refine AGl (AUv Ae9 AT2 (Ad.b p0) 1 rfl (AV2 rfl rfl (AGq (⟨_,rfl,fun Br=>?_,fun Br=>?_⟩))))
      ·refine AGn (AXm (AGi (AGi ?_)));obtain ⟨Ek,Cr,El⟩:=AGm (AT0 Cq Br);refine AUg AS8 ATk (Ad.o2 p1) Cr fun _ Hs Em=>AGi (ATj rfl rfl (AUv Afa ATd (Ad.b p0) 3 rfl (AUv Ab8 AT2 (Ad.b p0) 0 rfl ?_)));obtain ⟨En,Eo⟩:=ifN El;refine AYt rfl rfl En ?_;obtain ⟨Ht,Ep,Er⟩:=AGm Eo;refine AZi (m:=Ab) Ad p1 AS7 ATd Em Cr Ep (fun _=>rfl) fun _ Hu Aw=>AGq (AGn (AXm (AGi (AGi (ATj rfl rfl ?_)))));obtain ⟨Es,Ct,Et⟩:=AGm Er;refine AUg AS8 ATk (Aw.o2 p1) Ct fun _ Hv Eu=>AGi (AUv Afa ATd (Aw.b p0) 3 rfl (AUv Ab8 AT2 (Aw.b p0) 0 rfl ?_));obtain ⟨Ev,Ew⟩:=ifN Et;refine AYt rfl rfl Ev ?_;obtain ⟨Hw,Ey,Ez⟩:=AGm Ew;refine AZi (m:=(w64 (Ab + 1))) Aw p1 AS7 ATd Eu Ct Ey (fun _=>rfl) fun _ Hx Ax=>AGq (AXm (AGi (AGi (ATj rfl rfl ?_))));obtain ⟨Fa,Cu,Fb⟩:=AGm Ez;refine AUg AS8 ATk (Ax.o2 p1) Cu fun _ Hy Fc=>AGi (ATj rfl rfl (AUv Ajf ATd (Ax.b p0) 4 rfl (AUv Ab8 AT2 (Ax.b p0) 0 rfl ?_)));obtain ⟨Fd,Fe⟩:=ifN Fb;refine AYt rfl rfl Fd ?_;obtain ⟨Hz,Ff,Fg⟩:=AGm Fe;refine AZi (m:=(w64 (Ab + 1))) Ax p1 AS7 ATd Fc Cu Ff (fun _=>rfl) fun _ Ia Fh=>AGq ?_;exact ⟨(((sI (sI (sI (sI Cb Ab (sI Co Ab (w64 (Aa.2.2.1 * 2 ^ Int.toNat Aa.1)))) Ab (sI Ek (w64 (Ab + 1)) (w64 (Aa.2.2.2.1 * 2 ^ Int.toNat Aa.1)))) (w64 (Ab + 1)) (sI Es Ab (w64 (Aa.2.2.2.1 * 2 ^ Int.toNat Aa.1)))) (w64 (Ab + 1)) (sI Fa (w64 (Ab + 1)) (w64 (Aa.2.2.2.2 * 2 ^ Int.toNat Aa.1)))),Cd,Ce,Cf):(LiI) × LnA × LnN × LvA),⟨AGk Fg,Fh⟩,trivial⟩
      ·refine AGx (q_t ?_);exact ⟨(((sI Cb Ab (sI Co Ab (w64 (Aa.2.2.1 * 2 ^ Int.toNat Aa.1)))),Cd,Ce,Cf):(LiI) × LnA × LnN × LvA),⟨AGk (AT1 Cq Br),Ad⟩,trivial⟩
     rintro ⟨Ib,Ic,Id,Ie⟩ If Ih ⟨Fi,Bt⟩;subst Fi;refine AGl (AGi (AUv Ae9 AT2 (Bt.b p0) 1 rfl (ATj rfl rfl (AGw (AS3 (AUv Ab8 AT2 (Bt.b p0) 0 rfl (ATi (ATf (q_b (q_t (AS3 (ATj rfl rfl (AGi (AGq ?_))))))))))))));exact ⟨(_,_,_,_,_,_,_),(AGk Ej).symm,Bt.sel [1,2] AGj,rfl,rfl,rfl,trivial⟩
    ·refine AS9 (ATa (ATa (AT9 (q_t (AGn (AXm (AGi (AUv Amr AU1 (Af.b p1) 1 rfl (AGi ?_)))))))));obtain ⟨Fj,Fk⟩:=ifN (Aj _ (AGk (AT1 Bn Bo)).symm);refine AYt rfl rfl Fj ?_;obtain ⟨⟨Ii,Ij⟩,Fl,Cv⟩:=AGm Fk;dsimp only at Cv;refine Afg rfl (Akd (H2.ext Af.x) (H7.ext Af.x) Fl) fun Ik Il Fm Fo=>?_;obtain ⟨Im,Io,Ip,Iq,rfl,Fp,Fq⟩:=Fo;refine AGi (AUe rfl rfl (AUe rfl rfl (ATi (AGw (AGn (AGl (AGi ?_)))))));have Cw:=Af.no2 Fm Fq Fp;refine AT3 AS8 rfl (Cw.o2 p0).rd (AGi (AGq (AGo ?_)));have Bu:=Cw.sel [0,1] AGj;dsimp only [AYk,Abf] at Bu;refine AY2 6277100987097842450413495302921032065365449380626603966528 Cv (fun x=>[(169,(.int .i64 x))]) (fun x=>Bu.L) Bu ⟨rfl,trivial⟩ ?_;rintro Cx Ir Is It Am Bv Cy;unfold Aiv at Bv;refine AGl (ATm rfl rfl (AGq (AGn (⟨_,rfl,fun Bw=>?_,fun Bw=>?_⟩))))
     ·refine AGx (q_t (AGn (AGo (AGl (AGi ?_)))));obtain ⟨Iu,Cz,Fr⟩:=AGm (AT0 Bv Bw);refine AUg AS8 ATk (Am.o2 p0) Cz fun _ Iv C0=>ATi (ATx (AGi (AUn AS7 rfl ((Am.o2 p0).rowI C0 Cz) (AGi (AGq (AGo (AY2 3138455086722036263864247314914636313727201551036905947200 Fr (fun x=>[(176,(.int .i64 x))]) (fun x=>Am.L) Am ⟨rfl,trivial⟩ ?_)))))));rintro Iw Ix Iy Iz Ag Bx C1;unfold Aiu at Bx;refine AGl (ATm rfl rfl (AGq (AGn (⟨_,rfl,fun By=>?_,fun By=>?_⟩))))
      ·refine AGx (q_t (AGn (AGo (AGl (AGi ?_)))));obtain ⟨I0,Ft,Fu⟩:=AGm (AT0 Bx By);obtain ⟨I1,Fv,Fw⟩:=AGm Fu;refine AWi (m:=Cx) AS7 ATd (Ag.o2 p0) C0 Ft Fv fun _=>(ATi (ATx (AGi (AGi (AGi ?_)))));obtain ⟨I2,C2,Fx⟩:=AGm Fw;refine AUg AS8 ATk (Ag.o2 p1) C2 fun _ I3 Fy=>AGi ?_;obtain ⟨I5,Fz,C3⟩:=AGm Fx;refine AWi (m:=Cx) AS7 ATd (Ag.o2 p1) Fy C2 Fz fun _=>(AXa rfl rfl (AGq (⟨_,rfl,fun Bz=>?_,fun Bz=>?_⟩)))
       ·refine AGl (AGw (AGy (AUf (ATb (ATb (AUf (AUf (ATb (ATb (AUf (ATb ?_)))))))))));obtain rfl:=AGk (Cy _ (AGk (C1 _ (AGk (AT0 C3 Bz)).symm)).symm);exact ⟨_,AS1,Ag.x,rfl⟩
       ·refine AGx (q_b (q_t (AS3 (ATj rfl rfl (AGi (AGq ?_))))));exact ⟨_,(AGk (AT1 C3 Bz)).symm,Ag,rfl,trivial⟩
      ·refine AS9 (ATa (ATa (AT9 (q_b (q_t (AS3 (ATj rfl rfl (AGi (AGq ?_)))))))));exact ⟨_,(AGk (C1 _ (AGk (AT1 Bx By)).symm)).symm,Ag,rfl,trivial⟩
     ·refine AS9 (ATa (ATa (AT9 (q_t (AGl (AGw (AGy ?_)))))));obtain rfl:=AGk (Cy _ (AGk (AT1 Bv Bw)).symm);exact ⟨_,AS1,Am.x,rfl⟩
noncomputable def Aiz (fuel:Nat) (a3:LiI) (Ae:(List AW8)) (Aa Ab:Int):Option ((Int × Int) ⊕ ((Int) ⊕ (Int))):=
  (if Ab < (Ae.length:Int) then ((gI Ae Ab).bind fun Ac=>(((if ¬ Ac.2.1=1 then (if ¬ Ac.2.1=2 then (some (Sum.inl <| 3)) else (if (a3.length:Int) < Aa then (some (Sum.inl <| 3)) else (some (Sum.inr <| ())))) else (if (a3.length:Int) < Aa then (some (Sum.inl <| 3)) else (some (Sum.inr <| ())))):Option ((Int) ⊕ (Unit))).bind (fun ex=>match ex with | Sum.inl Af=>(some (Sum.inr<| Sum.inl <| Af)) | Sum.inr (_)=>(some (Sum.inl ((w64 (Aa + Ac.2.1)),(w64 (Ab + 1)))))))) else (some (Sum.inr<| Sum.inr <| Aa)))
noncomputable def Ai0 (fuel:Nat) (a3 a8:LiI) (Aa:Int):Option ((Int) ⊕ ((Int) ⊕ (Unit))):=
  (if Aa < (a8.length:Int) then ((gI a8 Aa).bind fun Ad=>(if ¬ (Ad.length:Int)=(a3.length:Int) then (some (Sum.inr<| Sum.inl <| 3)) else (some (Sum.inl (w64 (Aa + 1)))))) else (some (Sum.inr<| Sum.inr <| ())))
noncomputable def Afd (fuel:Nat) (a3:LiI) (a5:Int) (a8:LiI) (Ad:(List AW8)):Option Int:=
  ((Akb fuel a3).bind fun Ae=>(if (!Ae)=true then (some 6) else (if ¬ a5=2 then (some 20) else (if ¬ (a8.length:Int)=(a3.length:Int) then (some 3) else ((iter (fun s=>Ai0 fuel a3 a8 s) fuel 0).bind (fun ex=>match ex with | Sum.inl Af=>(some Af) | Sum.inr (_)=>((iter (fun s=>Aiz fuel a3 Ad s.1 s.2) fuel (0,0)).bind (fun ex=>match ex with | Sum.inl Ag=>(some Ag) | Sum.inr (Ah)=>(if ¬ Ah=(a3.length:Int) then (some 3) else ((AWs fuel a3 2).bind fun (Ai,Ak)=>((Ahx fuel a3 a5 a8 Ad Ai).bind fun Aj=>(if (!Aj)=true then (some 10) else (some 0)))))))))))))
theorem Anw {fuel:Nat} {h:AGs} {A9:Value} {a3:LiI} {a5:Int} {Ah:Value} {a8:LiI} {Ai:Value} {Bc:(List AW8)} {r:Int} (H2:AXq (cI .i64) h A9 a3) (H7:AXq (cI .i64) h Ah a8) (Ar:SlC Akv h Ai Bc) (HO:Am5 h) (hp:Afd fuel a3 a5 a8 Bc=some r):ATt Tryz.prog 10 #[A9,(.agg #[(.int .i64 a5),Ah,Ai])] h (fun x h'=>Ext h h'/\x= .int .i64 r):=by
 unfold Afd at hp;refine cwf (l:=[_,_]) Tryz.func10 rfl rfl (AGl (AYn (Kst.k0 h) [(.int .i64 a5),Ah,Ai] fun Cb Cd Ce Be=>AGw (AGn (AGl (AGi ?_)))));obtain ⟨Cf,Bw,Bf⟩:=AGm hp;refine AXx Be (Arr (H2.ext Be.x) Bw) fun Cg Ch Aa=>AWp rfl (AGq (⟨_,rfl,fun Au=>?_,fun Au=>?_⟩))
 ·refine AGl (AGw (AGy (ATb ?_)));obtain rfl:=AGk (ifT Bf Au);exact ⟨_,AS1,Aa.x,rfl⟩
 ·refine AGx (q_t (AGn (AGl (AUv Ay6 ATd (Aa.b p0) 0 rfl (AXa rfl rfl (AGq ?_))))));have Bg:=Aav Bf Au;refine ⟨_,rfl,fun Av=>?_,fun Av=>?_⟩
  ·refine AGl (AGw (AGy (ATb ?_)));obtain rfl:=AGk (AT0 Bg Av);exact ⟨_,AS1,Aa.x,rfl⟩
  ·refine AGx (q_t (AGl (AGi (AT3 AS8 rfl H2 (AGw (AGn (AGl (AUv Amr AU1 (Aa.b p0) 1 rfl (AT3 AS8 rfl H7 (AGi (AXa rfl rfl (AGq ?_))))))))))));have Bh:=AT1 Bg Av;refine ⟨_,rfl,fun Aw=>?_,fun Aw=>?_⟩
   ·refine AGl (AGw (AGy (ATb ?_)));obtain rfl:=AGk (AT0 Bh Aw);exact ⟨_,AS1,Aa.x,rfl⟩
   ·refine AGx (q_t (AGn (AGl (AUv Amr AU1 (Aa.b p0) 1 rfl (AT3 AS8 rfl H7 (AGi (AGq (AGo (AY2 274341036176 (AT1 Bh Aw) (fun x=>[(29,(.int .i64 x))]) (fun x=>Aa.L) Aa ⟨rfl,trivial⟩ ?_)))))))));rintro Ci Cj Ck Cm Ad Ax Bi;unfold Ai0 at Ax;refine AGl (ATm rfl rfl (AGq (AGn (⟨_,rfl,fun Ay=>?_,fun Ay=>?_⟩))))
    ·refine AGx (q_t (AGn (AGo (AGl ?_))));obtain ⟨Cn,Bx,Bj⟩:=AGm (AT0 Ax Ay);refine Ac2 AS8 ATk H7 Ad.x Bx fun _ Co By=>ATx (AGi (AUn AS7 rfl By (AGi (AXa rfl rfl (AGq (⟨_,rfl,fun Az=>?_,fun Az=>?_⟩))))))
     ·refine AGl (AGw (AGy (AUf (ATb (ATb (AUf (ATb ?_)))))));obtain rfl:=AGk (Bi _ (AGk (AT0 Bj Az)).symm);exact ⟨_,AS1,Ad.x,rfl⟩
     ·refine AGx (q_b (q_t (AS3 (ATj rfl rfl (AGi (AGq ?_))))));exact ⟨_,(AGk (AT1 Bj Az)).symm,Ad,rfl,trivial⟩
    ·refine AS9 (ATa (ATa (AT9 (q_t (AGl (AGw (AGn (AGl (AUv Aje Apo (Ad.b p0) 2 rfl (AUn Ama rfl Ar (AGi (AGq (AGo (AY2 9223369837831521552 (Bi _ (AGk (AT1 Ax Ay)).symm) (fun x=>[(8,(.int .i64 x.1)),(41,(.int .i64 x.2))]) (fun x=>Ad.L) Ad ⟨rfl,rfl,trivial⟩ ?_))))))))))))));rintro ⟨Cp,Cq⟩ Cr Ct Cu Ae A3 Am;unfold Aiz at A3;refine AGl (ATm rfl rfl (AGq (AGn (⟨_,rfl,fun A4=>?_,fun A4=>?_⟩))))
     ·refine AGx (q_t (AGn (AGo (AGl ?_))));obtain ⟨Ac,Bz,B1⟩:=AGm (AT0 A3 A4);refine Ac0 (c:=Akv) Ama rfl Ar rfl Bz fun Cv Cw Cx B3 B4=>?_;obtain rfl:=B3;refine Afm (c:=Akv) Acf rfl rfl (fun j u hu=>(ATl (B4 j u hu) Ae.x)) (AVt Ae [(.int .i64 0),(.int .i64 0),(.int .i64 0),(.int .i64 0),(.int .i64 0)] Amb fun Cy Cz C0 Bl=>AUz [(.int .i64 Ac.1),(.int .i64 Ac.2.1),(.int .i64 Ac.2.2.1),(.int .i64 Ac.2.2.2.1),(.int .i64 Ac.2.2.2.2)] Acf rfl rfl rfl rfl (by simp [isOne]) (Bl.b p0) fun C1 B5 B6=>AGq ?_);have Ab:=Bl.sb p0 B6 B5 rfl;obtain ⟨B7,Bm,Ao⟩:=AGm B1;refine Aey 288195191779622928 (fun x:Unit=>[]) (fun x h'=>(Sum.inr <| ())=B7/\Kst h h' (Ab.L)) ?_ ?_
      ·refine AGl (AUv Ae9 AT2 (Ab.b p0) 1 rfl (AXa rfl rfl (AGi ?_)));by_cases Ap: ¬ Ac.2.1=1
       ·have Bn:=ifT Bm Ap;rw [decide_eq_true Ap];refine ATo 48 true (AVp Ae9 rfl (ATo 48 true (ATz AT2 rfl ((Ab.b p0).cell (i:=1) rfl) (ATo 48 true (AXa rfl rfl (ATh rfl (AGi ?_)))))));by_cases Aq: ¬ Ac.2.1=2
        ·rw [decide_eq_true Aq];refine Abq 53 true (ATh rfl (AGq (ATn rfl (AGl (AGw ?_)))));obtain rfl:=AGk (ifT Bn Aq);refine AGy (ATb (AUf (ATb (ATb (AUf (ATb ?_))))));obtain rfl:=AGk (Am _ (AGk Ao).symm);exact ⟨_,AS1,Ab.x,rfl⟩
        ·have Bo:=ifF Bn Aq;rw [decide_eq_false Aq];refine ATo 53 false (AGi (ATo 53 false (AGi (ATo 53 false (AY6 rfl rfl (ATq rfl (AGq (⟨_,rfl,fun A5=>?_,fun A5=>?_⟩))))))))
         ·refine AGl (AGw ?_);obtain rfl:=AGk (AT0 Bo A5);refine AGy (ATb (AUf (ATb (ATb (AUf (ATb ?_))))));obtain rfl:=AGk (Am _ (AGk Ao).symm);exact ⟨_,AS1,Ab.x,rfl⟩
         ·refine AGx (q_t ?_);exact ⟨(():Unit),⟨AGk (AT1 Bo A5),Ab⟩,trivial⟩
       ·have Bp:=ifF Bm Ap;rw [decide_eq_false Ap];refine Abq 48 false (ATq rfl (AGi (ATo 53 false (AGi (ATo 53 false (AGi (ATo 53 false (AY6 rfl rfl (ATq rfl (AGq (⟨_,rfl,fun A6=>?_,fun A6=>?_⟩)))))))))))
        ·refine AGl (AGw ?_);obtain rfl:=AGk (AT0 Bp A6);refine AGy (ATb (AUf (ATb (ATb (AUf (ATb ?_))))));obtain rfl:=AGk (Am _ (AGk Ao).symm);exact ⟨_,AS1,Ab.x,rfl⟩
        ·refine AGx (q_t ?_);exact ⟨(():Unit),⟨AGk (AT1 Bp A6),Ab⟩,trivial⟩
      rintro ⟨⟩ C2 C3 ⟨B8,Bq⟩;subst B8;refine AS3 (AGi (AUv Ae9 AT2 (Bq.b p0) 1 rfl (ATj rfl rfl (ATi (ATf (q_b (q_t (AS3 (ATj rfl rfl (AGi (AGq ?_)))))))))));exact ⟨_,(AGk Ao).symm,Bq.sel [1] AGj,rfl,rfl,trivial⟩
     ·refine AS9 (ATa (ATa (AT9 (q_t (AGn (AGl (AGi (AGi (AXa rfl rfl (AGq ?_))))))))));have Br:=Am _ (AGk (AT1 A3 A4)).symm;refine ⟨_,rfl,fun A7=>?_,fun A7=>?_⟩
      ·refine AGl (AGw (AGy (ATb ?_)));obtain rfl:=AGk (AT0 Br A7);exact ⟨_,AS1,Ae.x,rfl⟩
      ·refine AGx (q_t (AGl (AGi ?_)));obtain ⟨⟨C4,C5⟩,B9,Bt⟩:=AGm (AT1 Br A7);dsimp only at Bt;refine AXx Ae (Agv (H2.ext Ae.x) (HO.ext Ae.x) B9) fun C6 C7 Af=>AGi (AUe rfl rfl (AUe rfl rfl (ATi (AGw (AGn (AGl (AGi (Acb [(.int .i64 a5),Ah,Ai] Af7 rfl rfl (Af.b p0).agg (AGi ?_)))))))));obtain ⟨C8,Ca,Bu⟩:=AGm Bt;refine AXx Af (Anv (H2.ext Af.x) (H7.ext Af.x) (Ar.ext Af.x) Ca) fun C9 Da Bv=>AWp rfl (AGq (⟨_,rfl,fun A8=>?_,fun A8=>?_⟩))
       ·refine AGl (AGw (AGy (ATb ?_)));obtain rfl:=AGk (ifT Bu A8);exact ⟨_,AS1,Bv.x,rfl⟩
       ·refine AGx (q_t (AGl (AGw (AGy ?_))));obtain rfl:=AGk (Aav Bu A8);exact ⟨_,AS1,Bv.x,rfl⟩
noncomputable def AXj (fuel:Nat):Option Bool:=
  ((AXi fuel 2 ([([1,0]:List Int),([0,1]:List Int)]:List LiA) ([(0,2,2,1,2)]:List AW8)).bind fun (Aa,Ab)=>(if Ab=true then ((Afd fuel ([([2,1]:List Int),([1,2]:List Int)]:List LiA) 2 ([([1,0]:List Int),([0,1]:List Int)]:List LiA) ([(0,2,2,1,2)]:List AW8)).bind fun Ac=>(if Ac=0 then ((Adu fuel 2 ([([1,0]:List Int),([0,1]:List Int)]:List LiA) ([(0,2,2,1,2)]:List AW8)).bind fun Ad=>(if Ad=true then ((Ab4 fuel Aa ([(0,2,(-1),false,0)]:List AX4)).bind fun Ae=>(some Ae)) else (some false))) else (some false))) else (some false)))
theorem Aj0 {fuel:Nat} {h:AGs} {r:Bool} (HO:Am5 h) (hp:AXj fuel=some r):ATt Tryz.prog 12 #[] h (fun x h'=>Ext h h'/\x= .bool r):=by
 unfold AXj at hp;refine cwf (l:=[]) Tryz.func12 rfl rfl (AGl (ATx (Ao3 (κ:= .i64) [2,1] AS7 Ace rfl rfl trivial tt2 rfl rfl rfl rfl fun b1 v2 h3 I4 E5 A3 A4=>Ao3 (κ:= .i64) [1,2] AS7 Ace rfl rfl trivial tt2 rfl rfl rfl rfl fun A5 A6 Cq A7 A8 A9 Ba=>?_)));have Ab:=((Kst.k0 h).no E5 (AXv A3 A4) I4).no A8 (AXv A9 Ba) A7;have Ao:=(((Ab.a0).grab p1).grab p0);refine Amv (c:=(cI .i64)) (el:=2) [[b1],[A5]] [v2,A6] [([2,1]:List Int),([1,2]:List Int)] AS8 Aez rfl rfl trivial tt2 rfl rfl rfl rfl (Aay (Ab.o p1).isOne (Aay (Ab.o p0).isOne Ak2)) ⟨(Ab.o p1),(Ab.o p0),trivial⟩ (by simpa using Ao.ndT) fun Cr Ct Cu Bb Bc Be=>ATx (Ao3 (κ:= .i64) [1,0] AS7 Ace rfl rfl trivial tt2 rfl rfl rfl rfl fun Bf Bg Cv Bh Bi Bj Bl=>Ao3 (κ:= .i64) [0,1] AS7 Ace rfl rfl trivial tt2 rfl rfl rfl rfl fun Bm Bn Cw Bo Bp Bq Br=>?_);have Ac:=((Ao.lit Bc Bb (by simpa using Be)).no Bi (AXv Bj Bl) Bh).no Bp (AXv Bq Br) Bo;have Ap:=(((Ac.a0).grab p1).grab p0);refine Amv (c:=(cI .i64)) (el:=2) [[Bf],[Bm]] [Bg,Bn] [([1,0]:List Int),([0,1]:List Int)] AS8 Aez rfl rfl trivial tt2 rfl rfl rfl rfl (Aay (Ac.o p1).isOne (Aay (Ac.o p0).isOne Ak2)) ⟨(Ac.o p1),(Ac.o p0),trivial⟩ (by simpa using Ap.ndT) fun Cx Ad Cy Bt Bu Bv=>AWe (v:=(.agg #[(.int .i64 0),(.int .i64 2),(.int .i64 2),(.int .i64 1),(.int .i64 2)])) (fun _=>by kernel_rfl) (A3x Akv ([(0,2,2,1,2)]:List AW8) [[(.int .i64 0),(.int .i64 2),(.int .i64 2),(.int .i64 1),(.int .i64 2)]] [(0,(.agg #[(.int .i64 0),(.int .i64 2),(.int .i64 2),(.int .i64 1),(.int .i64 2)]))] Ama Amb rfl trivial tt2 rfl rfl rfl AGv rfl (Azk (fun _=>rfl) Azj) fun Cz Ae C0 Bw Bx By Bz=>?_);have Aj:=(Ap.lit Bu Bt (by simpa using Bv)).no Bx (AXv By Bz) Bw;obtain ⟨_,_,_,B1⟩:=(Aj.o2 p1).rd.shape;obtain ⟨_,_,_,B3⟩:=(Aj.o p0).rd.shape;refine AWe (v:=(.agg #[(.int .i64 2),Ad,Ae])) (fun _=>by subst B1;subst B3;kernel_rfl) (AVt Aj [(.int .i64 0),(.slice none 0 0),(.slice none 0 0)] At1 fun C1 C2 C3 Ag=>AUz [(.int .i64 2),Ad,Ae] Af7 rfl rfl rfl rfl (Aay rfl (Aay (Ag.o2 p2).isOne (Aay (Ag.o p1).isOne Ak2))) (Ag.b p0) fun C4 B4 B5=>AZf ?_);have Ah:=Ag.sb p0 B5 B4 rfl;refine Acb [(.int .i64 2),Ad,Ae] Af7 rfl rfl (Ah.b p0).agg ?_;obtain ⟨⟨C5,B6⟩,B7,Ak⟩:=AGm hp;dsimp only at Ak;refine Afg rfl (Ae8 (Ah.o2 p2).rd (Ah.o p1).rd B7) fun C6 C7 B8 B9=>?_;obtain ⟨C8,C9,rfl,Ca,Cb⟩:=B9;refine AGi (AUe rfl rfl (AUe rfl rfl (ATi (ATx (AGi (AGi ?_))))));have Aa:=Ah.no B8 Cb Ca;cases Aq:B6
 ·refine Afz 20 false (ATq rfl (AGi (Ae3 26 false (ATq rfl (AGi (Afz 30 false (ATq rfl (AGw (AGy ?_)))))))));obtain rfl:=AGk (Aav Ak Aq);exact ⟨_,AS1,Aa.x,rfl⟩
 ·refine ATo 20 true (AGi (ATo 20 true (Acb [(.int .i64 2),Ad,Ae] Af7 rfl rfl (Aa.b p1).agg (ATo 20 true ?_))));obtain ⟨Cd,Ce,Ar⟩:=AGm (ifT Ak Aq);refine AXx Aa (Anw (Aa.o2 p6).rd (Aa.o2 p3).rd (Aa.o p2).rd (HO.ext Aa.x) Ce) fun Da Db Af=>ATo 20 true (AV2 rfl rfl (ATh rfl (AGi ?_)));by_cases Ai:Cd=0
  ·rw [decide_eq_true Ai];refine ATo 26 true (Acb [(.int .i64 2),Ad,Ae] Af7 rfl rfl (Af.b p1).agg (ATo 26 true ?_));obtain ⟨Cf,Cg,Au⟩:=AGm (ifT Ar Ai);refine AXx Af (Akl (Af.o2 p3).rd (Af.o p2).rd Cg) fun Dc Dd Av=>ATh rfl (AGi ?_);cases Aw:Cf
   ·refine Afz 30 false (ATq rfl (AGw (AGy ?_)));obtain rfl:=AGk (Aav Au Aw);exact ⟨_,AS1,Av.x,rfl⟩
   ·refine ATo 30 true (AGi (ATo 30 true (AWe (v:=(.agg #[(.int .i64 0),(.int .i64 2),(.int .i64 (-1)),(.bool false),(.int .i64 0)])) (fun _=>by kernel_rfl) (ATo 30 true (A3x Af5 ([(0,2,(-1),false,0)]:List AX4) [[(.int .i64 0),(.int .i64 2),(.int .i64 (-1)),(.bool false),(.int .i64 0)]] [(0,(.agg #[(.int .i64 0),(.int .i64 2),(.int .i64 (-1)),(.bool false),(.int .i64 0)]))] Ali At2 rfl trivial tt2 rfl rfl rfl AGv rfl (Azk (fun _=>rfl) Azj) fun De Df Dg Ch Ci Cj Ck=>ATo 30 true ?_)))));have Am:=Av.no Ci (AXv Cj Ck) Ch;obtain ⟨Dh,Cm,Cn⟩:=AGm (ifT Au Aw);refine AXx Am (Ah7 (Am.o p1).rd (Am.o p0).rd Cm) fun Di Dj Co=>ATh rfl (AGw (AGy ?_));obtain rfl:=AGk Cn;exact ⟨_,AS1,Co.x,rfl⟩
  ·rw [decide_eq_false Ai];refine Ae3 26 false (ATq rfl (AGi (Afz 30 false (ATq rfl (AGw (AGy ?_))))));obtain rfl:=AGk (ifF Ar Ai);exact ⟨_,AS1,Af.x,rfl⟩
end Go.Proofs.YthbndcbclhkepaaGreatDoor
namespace Go.Proofs.YthbndcbclhkepaaGreatDoor
open Go Go.QF
set_option maxRecDepth 100000
theorem A8a (a:Int):AY7 .and .i64 a 1=a % 2:=by
 show w64 (((BitVec.ofInt 64 a &&& BitVec.ofInt 64 1).toNat:Nat):Int)=_;rw [BitVec.toNat_and,BitVec.toNat_ofInt,BitVec.toNat_ofInt,show ((1:Int) % ((2 ^ 64:Nat):Int)).toNat=1 by decide,Nat.and_one_is_mod,wk AGh];omega
theorem Aqk {k:Nat} (hk:k<=30):w64 (1 * 2 ^ Int.toNat (k:Int))=(2:Int) ^ k:=by
 have h1:(2:Int) ^ k<=2 ^ 30:=Adk AGj hk;have h2:0 < (2:Int) ^ k:=Int.pow_pos AGj;have h3:(2:Int) ^ 30=1073741824:=by decide
 rw [Int.toNat_natCast,Int.one_mul,wk AGh]
theorem BB4 {fuel:Nat} {e s a b c:Int}:Ok (AXc fuel e s a b c) fun r=>r=true↔if s=1 then a % 2=1/\b=0/\c=0 else s=2/\a % 2=0/\b % 2=1/\c % 2=0:=by
 unfold AXc;rw [A8a,A8a,A8a];refine ATr (fun h=>?_) fun h=>?_
 ·rw [if_pos h];refine ATr (fun h1=>ATr (fun h2=>AGp ?_) fun h2=>AGp ?_) fun h1=>AGp ?_
  ·rw [decide_eq_true_eq];exact ⟨fun h3=>⟨h1,h2,h3⟩,fun h3=>h3.2.2⟩
  ·exact ⟨fun e=>(nomatch e),fun h3=>absurd h3.2.1 h2⟩
  ·exact ⟨fun e=>(nomatch e),fun h3=>absurd h3.1 h1⟩
 ·rw [if_neg h];refine ATr (fun h0=>ATr (fun h1=>ATr (fun h2=>AGp ?_) fun h2=>AGp ?_) fun h1=>AGp ?_) fun h0=>AGp ?_
  ·rw [decide_eq_true_eq];exact ⟨fun h3=>⟨h0,h1,h2,h3⟩,fun h3=>h3.2.2.2⟩
  ·exact ⟨fun e=>(nomatch e),fun h3=>absurd h3.2.2.1 h2⟩
  ·exact ⟨fun e=>(nomatch e),fun h3=>absurd h3.2.1 h1⟩
  ·exact ⟨fun e=>(nomatch e),fun h3=>absurd h3.1 h0⟩
end Go.Proofs.YthbndcbclhkepaaGreatDoor
