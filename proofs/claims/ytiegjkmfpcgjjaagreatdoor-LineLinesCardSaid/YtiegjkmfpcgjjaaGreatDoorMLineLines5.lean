/-
  Texts of a proof, joined. Conditions stand in each statement.
-/
import Derived.Lib.SmallJoins
import Derived.RangeFuncRecord
import Derived.OrdersIn
import Derived.Test.YtiegjkmfpcgjjaaGreatDoorMLineLines4
set_option linter.unusedVariables false
set_option linter.unusedSimpArgs false
namespace Go.Proofs.YtiegjkmfpcgjjaaGreatDoor
open Go Go.QF
set_option maxRecDepth 100000
def part (n i:Nat) (G:Nat->Nat->Int):List (List Int):=ADz n fun r=>if r < i then ADz n (G r) else []
theorem ANi {n i r:Nat} {G:Nat->Nat->Int} (hr:r < i) (hn:r < n):(part n i G)[r]? =some (ADz n (G r)):=by
 unfold part;rw [ACn hn,if_pos hr]
theorem AUk {n i:Nat} {G:Nat->Nat->Int} (hn:i < n):(part n i G)[i]? =some []:=by
 unfold part;rw [ACn hn,if_neg (Nat.lt_irrefl i)]
theorem AOm {n i r:Nat} {G:Nat->Nat->Int} {g:Nat->Int} (hr:r < i):(part n i G).set r (ADz n g)=part n i (ADj G r g):=by
 unfold part;rw [AEz];refine ACu fun k _=>?_;by_cases h:k=r
 ·subst h;rw [if_pos rfl,if_pos hr,AC9]
 ·rw [if_neg h,AD8 _ _ h]
theorem ARt {n i:Nat} {G:Nat->Nat->Int} {g:Nat->Int}:(part n i G).set i (ADz n g)=part n (i + 1) (ADj G i g):=by
 unfold part;rw [AEz];refine ACu fun k _=>?_;by_cases h:k=i
 ·subst h;rw [if_pos rfl,if_pos (by omega),AC9]
 ·rw [if_neg h,AD8 _ _ h];by_cases h2:k < i
  ·rw [if_pos h2,if_pos (by omega)]
  ·rw [if_neg h2,if_neg (by omega)]
theorem APs (n:Nat) (G:Nat->Nat->Int):part n n G=tab n n G:=by
 unfold part;rw [AOl];exact ACu fun k hk=>if_pos hk
theorem APt (n:Nat) (G:Nat->Nat->Int):List.replicate n ([]:List Int)=part n 0 G:=by
 rw [AHq];exact ACu fun k _=>(if_neg (by omega)).symm
theorem AVd {L:List Int} {q:Nat} (hq:q < 4611686018427387904):Ok (if (L.length:Int)<=((q:Nat):Int) then (some ((0:Int),((q:Nat):Int))) else ((gI L (w64 ((w64 (((q:Nat):Int) + 1)) - 1))).bind fun x=>(some ((w64 x),(w64 (((q:Nat):Int) + 1)))))) fun e=> ∃ p:Nat,e.2=(p:Int)/\p<=q + 1:=by
  refine AB3 (fun h=>ABi ⟨q,rfl,by omega⟩) fun h=>?_;have hl:q < L.length:=by omega
  refine AB7 (n:=q) (List.getElem?_eq_getElem hl) (by rw [AE5 (x:=(q:Int) + 1) (by omega) (by omega),wk (by omega)];omega) (ABi ⟨q + 1,?_,by omega⟩);rw [AE5 (x:=(q:Int) + 1) (by omega) (by omega)];omega
theorem AS4 (x:Int) (m:Nat) (hm:0 < m):0<=Int.tmod (w64 (IntKind.wrap .u8 x)) (m:Int)/\Int.tmod (w64 (IntKind.wrap .u8 x)) (m:Int) < m:=by
 have h1:IntKind.wrap .u8 x=x % 256:=by rw [IntKind.wrap_u8]
 rw [h1];have a1:=Int.emod_nonneg x (show (256:Int)≠0 by decide);have a2:=Int.emod_lt_of_pos x (show (0:Int) < 256 by decide);rw [wk (by omega),Int.tmod_eq_emod_of_nonneg a1];exact ⟨Int.emod_nonneg _ (by omega),Int.emod_lt_of_pos _ (by omega)⟩
def dgF (f:Nat->Int) (r c:Nat):Int:=if c=r then f r else 0
theorem Ax0 {fuel N q0:Nat} {a1 Ac:Int} {L:List Int} (hN:w64 (1 + (Int.tmod (w64 a1) Ac))=(N:Int)) (Af:N<=8) (Ag:q0<=1000) (hf:100 < fuel):
    Ok (iter (fun s=>AFk fuel a1 L Ac s.1 s.2.1 s.2.2) fuel (0,(q0:Int),(List.replicate (Int.toNat (w64 (1 + (Int.tmod (w64 a1) Ac)))) ([]:List Int)))) fun e=> ∃ (q:Nat) (f:Nat->Int),e=((q:Int),tab N N (dgF f))/\q<=q0 + N/\ ∀ r,r < N->1<=f r/\f r<=6:=by
 refine ACv (fun i s=> ∃ (q:Nat) (f:Nat->Int),s=(((i:Nat):Int),(q:Int),part N i (dgF f))/\i<=N/\q<=q0 + i/\ ∀ r,r < i->1<=f r/\f r<=6) N ⟨q0,fun _=>0,by rw [hN,Int.toNat_natCast,APt N (dgF fun _=>0)];rfl,by omega,by omega,fun r hr=>by omega⟩ (by omega) fun i s hi hI=>?_;obtain ⟨q,f,rfl,hiN,hq,Ad⟩:=hI;unfold AFk;dsimp only;rw [List.length_replicate,hN,Int.toNat_natCast];refine AB3 (fun h=>AEe (by omega) ?_) (fun h=>ABi ?_)
 ·have hi':i < N:=by omega
  refine AB7 (AUk hi') rfl ?_;rw [ADy,AHq N (0:Int),ARt];refine AB7 (ANi (by omega) hi') rfl ?_;rw [AC9];refine ABo (Q:=fun e:Int × Int=>0<=e.1/\e.1 < 6/\ ∃ p:Nat,e.2=(p:Int)/\p<=q + 1) (ABo (AVd (L:=L) (q:=q) (by omega)) fun e he=>?_) fun e he=>AB7 (ACn hi') rfl (ABi ⟨by omega,?_⟩)
  ·exact ABi ⟨(AS4 _ 6 (by decide)).1,(AS4 _ 6 (by decide)).2,he⟩
  ·obtain ⟨h1,h2,p,h3,h4⟩:=he;refine ⟨p,fun r=>if r=i then 1 + e.1 else f r,?_,by omega,by omega,fun r hr=>?_⟩
   ·rw [AE5 (x:=(i:Int) + 1) (by omega) (by omega),AE5 (x:=1 + e.1) (by omega) (by omega),h3,ADy,ADy,AEz,AOm (by omega)];refine congrArg (fun z=>(((i + 1:Nat):Int),(p:Int),z)) (ACu fun r hr=>?_);split
    ·refine ACu fun c hc=>?_;rw [ACs];unfold dgF;dsimp only;split
     ·next h=>subst h;rfl
     ·next h=>rw [ACs,if_neg h]
    ·rfl
   ·dsimp only;split
    ·omega
    ·exact Ad r (by omega)
 ·obtain rfl:i=N:=by omega
  exact ⟨q,f,by rw [APs],by omega,Ad⟩
theorem Awj {fuel N q0:Nat} {a1 Ac:Int} {L:List Int} (hN:w64 (1 + (Int.tmod (w64 a1) Ac))=(N:Int)) (Af:N<=8) (Ag:q0<=1000) (hf:100 < fuel):
    Ok (iter (fun s=>AFa fuel a1 L Ac s.1 s.2.1 s.2.2) fuel (0,(q0:Int),(List.replicate (Int.toNat (w64 (1 + (Int.tmod (w64 a1) Ac)))) ([]:List Int)))) fun e=> ∃ (q:Nat) (f:Nat->Int),e=((q:Int),tab N N (dgF f))/\q<=q0 + N/\ ∀ r,r < N->1<=f r/\f r<=9:=by
 refine ACv (fun i s=> ∃ (q:Nat) (f:Nat->Int),s=(((i:Nat):Int),(q:Int),part N i (dgF f))/\i<=N/\q<=q0 + i/\ ∀ r,r < i->1<=f r/\f r<=9) N ⟨q0,fun _=>0,by rw [hN,Int.toNat_natCast,APt N (dgF fun _=>0)];rfl,by omega,by omega,fun r hr=>by omega⟩ (by omega) fun i s hi hI=>?_;obtain ⟨q,f,rfl,hiN,hq,Ad⟩:=hI;unfold AFa;dsimp only;rw [List.length_replicate,hN,Int.toNat_natCast];refine AB3 (fun h=>AEe (by omega) ?_) (fun h=>ABi ?_)
 ·have hi':i < N:=by omega
  refine AB7 (AUk hi') rfl ?_;rw [ADy,AHq N (0:Int),ARt];refine AB7 (ANi (by omega) hi') rfl ?_;rw [AC9];refine ABo (Q:=fun e:Int × Int=>0<=e.1/\e.1 < 9/\ ∃ p:Nat,e.2=(p:Int)/\p<=q + 1) (ABo (AVd (L:=L) (q:=q) (by omega)) fun e he=>?_) fun e he=>AB7 (ACn hi') rfl (ABi ⟨by omega,?_⟩)
  ·exact ABi ⟨(AS4 _ 9 (by decide)).1,(AS4 _ 9 (by decide)).2,he⟩
  ·obtain ⟨h1,h2,p,h3,h4⟩:=he;refine ⟨p,fun r=>if r=i then 1 + e.1 else f r,?_,by omega,by omega,fun r hr=>?_⟩
   ·rw [AE5 (x:=(i:Int) + 1) (by omega) (by omega),AE5 (x:=1 + e.1) (by omega) (by omega),h3,ADy,ADy,AEz,AOm (by omega)];refine congrArg (fun z=>(((i + 1:Nat):Int),(p:Int),z)) (ACu fun r hr=>?_);split
    ·refine ACu fun c hc=>?_;rw [ACs];unfold dgF;dsimp only;split
     ·next h=>subst h;rfl
     ·next h=>rw [ACs,if_neg h]
    ·rfl
   ·dsimp only;split
    ·omega
    ·exact Ad r (by omega)
 ·obtain rfl:i=N:=by omega
  exact ⟨q,f,by rw [APs],by omega,Ad⟩
theorem Awk {fuel N q0:Nat} {a1 Ac:Int} {L:List Int} (hN:w64 (1 + (Int.tmod (w64 a1) Ac))=(N:Int)) (Af:N<=8) (Ag:q0<=1000) (hf:100 < fuel):
    Ok (iter (fun s=>AFb fuel a1 L Ac s.1 s.2.1 s.2.2) fuel (0,(q0:Int),(List.replicate (Int.toNat (w64 (1 + (Int.tmod (w64 a1) Ac)))) ([]:List Int)))) fun e=> ∃ (q:Nat) (f:Nat->Int),e=((q:Int),tab N N (dgF f))/\q<=q0 + N/\ ∀ r,r < N->1<=f r/\f r<=1:=by
 refine ACv (fun i s=> ∃ (q:Nat) (f:Nat->Int),s=(((i:Nat):Int),(q:Int),part N i (dgF f))/\i<=N/\q<=q0 + i/\ ∀ r,r < i->1<=f r/\f r<=1) N ⟨q0,fun _=>0,by rw [hN,Int.toNat_natCast,APt N (dgF fun _=>0)];rfl,by omega,by omega,fun r hr=>by omega⟩ (by omega) fun i s hi hI=>?_;obtain ⟨q,f,rfl,hiN,hq,Ad⟩:=hI;unfold AFb;dsimp only;rw [List.length_replicate,hN,Int.toNat_natCast];refine AB3 (fun h=>AEe (by omega) ?_) (fun h=>ABi ?_)
 ·have hi':i < N:=by omega
  refine AB7 (AUk hi') rfl ?_;rw [ADy,AHq N (0:Int),ARt];refine AB7 (ANi (by omega) hi') rfl ?_;rw [AC9];refine ABo (Q:=fun e:Int × Int=>0<=e.1/\e.1 < 1/\ ∃ p:Nat,e.2=(p:Int)/\p<=q + 1) (ABo (AVd (L:=L) (q:=q) (by omega)) fun e he=>?_) fun e he=>AB7 (ACn hi') rfl (ABi ⟨by omega,?_⟩)
  ·exact ABi ⟨(AS4 _ 1 (by decide)).1,(AS4 _ 1 (by decide)).2,he⟩
  ·obtain ⟨h1,h2,p,h3,h4⟩:=he;refine ⟨p,fun r=>if r=i then 1 + e.1 else f r,?_,by omega,by omega,fun r hr=>?_⟩
   ·rw [AE5 (x:=(i:Int) + 1) (by omega) (by omega),AE5 (x:=1 + e.1) (by omega) (by omega),h3,ADy,ADy,AEz,AOm (by omega)];refine congrArg (fun z=>(((i + 1:Nat):Int),(p:Int),z)) (ACu fun r hr=>?_);split
    ·refine ACu fun c hc=>?_;rw [ACs];unfold dgF;dsimp only;split
     ·next h=>subst h;rfl
     ·next h=>rw [ACs,if_neg h]
    ·rfl
   ·dsimp only;split
    ·omega
    ·exact Ad r (by omega)
 ·obtain rfl:i=N:=by omega
  exact ⟨q,f,by rw [APs],by omega,Ad⟩
theorem Awl {fuel N q0:Nat} {a1 Ac:Int} {L:List Int} (hN:w64 (1 + (Int.tmod (w64 a1) Ac))=(N:Int)) (Af:N<=8) (Ag:q0<=1000) (hf:100 < fuel):
    Ok (iter (fun s=>AFc fuel a1 L Ac s.1 s.2.1 s.2.2) fuel (0,(q0:Int),(List.replicate (Int.toNat (w64 (1 + (Int.tmod (w64 a1) Ac)))) ([]:List Int)))) fun e=> ∃ (q:Nat) (f:Nat->Int),e=((q:Int),tab N N (dgF f))/\q<=q0 + N/\ ∀ r,r < N->1<=f r/\f r<=2:=by
 refine ACv (fun i s=> ∃ (q:Nat) (f:Nat->Int),s=(((i:Nat):Int),(q:Int),part N i (dgF f))/\i<=N/\q<=q0 + i/\ ∀ r,r < i->1<=f r/\f r<=2) N ⟨q0,fun _=>0,by rw [hN,Int.toNat_natCast,APt N (dgF fun _=>0)];rfl,by omega,by omega,fun r hr=>by omega⟩ (by omega) fun i s hi hI=>?_;obtain ⟨q,f,rfl,hiN,hq,Ad⟩:=hI;unfold AFc;dsimp only;rw [List.length_replicate,hN,Int.toNat_natCast];refine AB3 (fun h=>AEe (by omega) ?_) (fun h=>ABi ?_)
 ·have hi':i < N:=by omega
  refine AB7 (AUk hi') rfl ?_;rw [ADy,AHq N (0:Int),ARt];refine AB7 (ANi (by omega) hi') rfl ?_;rw [AC9];refine ABo (Q:=fun e:Int × Int=>0<=e.1/\e.1 < 2/\ ∃ p:Nat,e.2=(p:Int)/\p<=q + 1) (ABo (AVd (L:=L) (q:=q) (by omega)) fun e he=>?_) fun e he=>AB7 (ACn hi') rfl (ABi ⟨by omega,?_⟩)
  ·exact ABi ⟨(AS4 _ 2 (by decide)).1,(AS4 _ 2 (by decide)).2,he⟩
  ·obtain ⟨h1,h2,p,h3,h4⟩:=he;refine ⟨p,fun r=>if r=i then 1 + e.1 else f r,?_,by omega,by omega,fun r hr=>?_⟩
   ·rw [AE5 (x:=(i:Int) + 1) (by omega) (by omega),AE5 (x:=1 + e.1) (by omega) (by omega),h3,ADy,ADy,AEz,AOm (by omega)];refine congrArg (fun z=>(((i + 1:Nat):Int),(p:Int),z)) (ACu fun r hr=>?_);split
    ·refine ACu fun c hc=>?_;rw [ACs];unfold dgF;dsimp only;split
     ·next h=>subst h;rfl
     ·next h=>rw [ACs,if_neg h]
    ·rfl
   ·dsimp only;split
    ·omega
    ·exact Ad r (by omega)
 ·obtain rfl:i=N:=by omega
  exact ⟨q,f,by rw [APs],by omega,Ad⟩
theorem Awm {fuel N q0:Nat} {L:List Int} {F0:Nat->Nat->Int} (Ag:N<=8) (Ah:q0<=1000) (Ad:∀ i j,i < N->j < N->(F0 i j).natAbs<=9) (hf:100 < fuel):
    Ok (iter (fun s=>AFl fuel L (tab N N F0) s.1 s.2.1 s.2.2) fuel (0,(q0:Int),tab N N F0)) fun e=> ∃ (q:Nat) (F:Nat->Nat->Int),e=((q:Int),tab N N F)/\q<=q0 + 8 * N/\ ∀ i j,i < N->j < N->(F i j).natAbs<=9:=by
 refine ACv (fun i s=> ∃ (q:Nat) (F:Nat->Nat->Int),s=(((i:Nat):Int),(q:Int),tab N N F)/\i<=N/\q<=q0 + 8 * i/\ ∀ i j,i < N->j < N->(F i j).natAbs<=9) N ⟨q0,F0,rfl,by omega,by omega,Ad⟩ (by omega) fun i s hi hI=>?_;obtain ⟨q,F,rfl,hiN,hq,hF⟩:=hI;unfold AFl;dsimp only;rw [ADg];refine AB3 (fun h=>?_) (fun h=>ABi ⟨q,F,rfl,by omega,hF⟩);have hi':i < N:=by omega
 refine ABo (ACv (fun j s=> ∃ (p:Nat) (F:Nat->Nat->Int),s=(((j:Nat):Int),(p:Int),tab N N F)/\j<=i/\p<=q + j/\ ∀ i j,i < N->j < N->(F i j).natAbs<=9) i (Q:=fun e=> ∃ (p:Nat) (F:Nat->Nat->Int),e=((p:Int),tab N N F)/\p<=q + i/\ ∀ i j,i < N->j < N->(F i j).natAbs<=9) ⟨q,F,rfl,by omega,by omega,hF⟩ (by omega) fun j s hj hJ=>?_) fun e he=>?_
 ·obtain ⟨p,F,rfl,hji,hp,hF⟩:=hJ;unfold AHb;dsimp only;refine AB3 (fun h=>?_) (fun h=>ABi ⟨p,F,rfl,by omega,hF⟩);have hj':j < i:=by omega
  refine AB7 (ADi hi') rfl (ABo (AVd (L:=L) (q:=p) (by omega)) fun e he=>AB7 (ACn (by omega)) rfl ?_);obtain ⟨p2,h3,h4⟩:=he;rw [ADy,ADy,AEz,show (ADz N fun c=>if c=j then Int.tmod e.1 3 else F i c)=(List.range N).map fun c=>if c=j then Int.tmod e.1 3 else F i c from rfl,AH5];refine AB7 (ADi (by omega)) rfl (AB7 (ADi hi') rfl (AB7 (ACn (by omega)) rfl (AB7 (ACn hi') rfl (ABi ⟨by omega,p2,?_⟩))));generalize Af:(ADj F i fun c=>if c=j then Int.tmod e.1 3 else F i c)=F1
  have hv:(Int.tmod e.1 3).natAbs<=9:=by
    have:=Int.natAbs_tmod e.1 3
    have h5:e.1.natAbs % (3:Int).natAbs < 3:=Nat.mod_lt _ (by decide)
    omega
  have hF1b:∀ i j,i < N->j < N->(F1 i j).natAbs<=9:=fun a b ha hb=>by
    subst Af
    rw [ACs]
    split
    · split
      · exact hv
      · exact hF i b hi' hb
    · exact hF a b ha hb
  refine ⟨ADj F1 j fun c=>if c=i then F1 i j else F1 j c,?_,by omega,by omega,fun a b ha hb=>?_⟩
  ·rw [wk (by omega),h3,ADy,ADy,AEz,show (ADz N fun c=>if c=i then F1 i j else F1 j c)=(List.range N).map fun c=>if c=i then F1 i j else F1 j c from rfl,AH5];rfl
  ·rw [ACs];split
   ·split
    ·exact hF1b i j hi' (by omega)
    ·exact hF1b j b (by omega) hb
   ·exact hF1b a b ha hb
 ·obtain ⟨p,F,rfl,hp,hF⟩:=he;exact ABi ⟨by omega,p,F,by rw [wk (by omega)];rfl,by omega,by omega,hF⟩
theorem Aku {fuel N:Nat} {b:Bool} (Ag:1<=N) (Ah:N<=8) (hf:100 < fuel):Ok (AGb fuel (N:Int) b) fun e=> ∃ F,e=tab N N F/\ ∀ i j,i < N->j < N->(F i j).natAbs<=2:=by
 unfold AGb;refine AEe (by omega) ?_;rw [Int.toNat_natCast];refine ABo (ACv (fun i s=> ∃ G:Nat->Nat->Int,s=(((i:Nat):Int),part N i G)/\i<=N/\ ∀ r c,(G r c).natAbs<=2) N (Q:=fun e=> ∃ F,e=tab N N F/\ ∀ i j,i < N->j < N->(F i j).natAbs<=2) ⟨fun _ _=>0,by rw [APt N fun _ _=>0];rfl,by omega,fun _ _=>Nat.zero_le _⟩ (by omega) fun i s hi hI=>?_) fun e he=>ABi he;obtain ⟨G,rfl,hiN,hG⟩:=hI;unfold AKa;dsimp only;rw [List.length_replicate,Int.toNat_natCast];refine AB3 (fun h=>AEe (by omega) ?_) (fun h=>ABi ?_)
 ·have hi':i < N:=by omega
  refine AB7 (AUk hi') rfl ?_;rw [ADy,AHq N (0:Int),ARt];refine AB7 (ANi (by omega) hi') rfl ?_;rw [AC9];refine AB7 (ACn hi') rfl ?_;rw [ADy,ADy,AEz,AOm (by omega)]
  have Ab:∀ r c,(ADj (ADj G i fun x=>0) i (fun c=>if c=i then 2 else 0) r c).natAbs<=2:=fun r c=>by
    rw [ACs]
    split
    · split <;> decide
    · rw [ACs]
      split
      · decide
      · exact hG r c
  generalize (ADj (ADj G i fun x=>0) i fun c=>if c=i then 2 else 0)=G1 at Ab;have wi:w64 ((i:Int) + 1)=((i + 1:Nat):Int):=by rw [wk (by omega)];omega
  refine ABo (Q:=fun k=>k=(i:Int) - 1∨k=(i:Int) - 2) ?_ fun k hk=>?_
  ·have w1:w64 ((i:Int) - 1)=(i:Int) - 1:=wk (by omega);have w2:w64 ((i:Int) - 2)=(i:Int) - 2:=wk (by omega);rw [w1,w2];exact AB3 (fun _=>AB3 (fun _=>AB3 (fun _=>ABi (.inr rfl)) fun _=>ABi (.inl rfl)) fun _=>ABi (.inl rfl)) fun _=>ABi (.inl rfl)
  ·refine AB3 (fun h=>?_) (fun h=>ABi ⟨by omega,G1,by rw [wi],by omega,Ab⟩);obtain ⟨k,rfl⟩:∃ q:Nat,k=q:=⟨k.toNat,by omega⟩;have hki:k < i:=by omega
   refine AB7 (ANi (by omega) hi') rfl (AB7 (ANi (by omega) (by omega)) rfl (AB7 (ACn (by omega)) rfl ?_));rw [ADy,ADy,AEz,AOm (by omega)]
   have Ac:∀ r c,(ADj G1 i (fun c=>if c=k then -1 else G1 i c) r c).natAbs<=2:=fun r c=>by
     rw [ACs]
     split
     · split
       · decide
       · exact Ab i c
     · exact Ab r c
   generalize (ADj G1 i fun c=>if c=k then -1 else G1 i c)=G2 at Ac;refine AB7 (ANi (by omega) (by omega)) rfl (AB7 (ACn hi') rfl (ABi ⟨by omega,ADj G2 k fun c=>if c=i then -1 else G2 k c,?_,by omega,fun r c=>?_⟩))
   ·rw [wi,ADy,ADy,AEz,AOm (by omega)]
   ·rw [ACs];split
    ·split
     ·decide
     ·exact Ac k c
    ·exact Ac r c
 ·obtain rfl:i=N:=by omega
  exact ⟨G,APs _ _,fun a b _ _=>hG a b⟩
theorem Agk {n B:Nat} {F:Nat->Nat->Int} (hB:B < 9223372036854775808) (h:∀ i j,i < n->j < n->(F i j).natAbs<=B):∀ z∈tab n n F,∀ x∈z,-9223372036854775808<=x/\x<=9223372036854775807:=fun z hz x hx=>by
  obtain ⟨i,hi⟩:=List.getElem?_of_mem hz
  have hin:i < n:=by have:=(List.getElem?_eq_some_iff.1 hi).1;rwa [ADg] at this
  rw [ADi hin] at hi
  cases hi
  obtain ⟨j,hj⟩:=List.getElem?_of_mem hx
  have hjn:j < n:=by have:=(List.getElem?_eq_some_iff.1 hj).1;rwa [ADb] at this
  rw [ACn hjn] at hj
  cases hj
  have:=h i j hin hjn
  omega
theorem Atm {n:Nat} {F:Nat->Nat->Int} (hn:1<=n) (Aa:n<=16):okM (tab n n F)=true:=by
 have hc:ALq (tab n n F)=n:=Ann hn;unfold okM;rw [decide_eq_true_iff,ADg,hc];exact ⟨hn,Aa,fun z hz=>by rw [AY5 z hz];exact ⟨hn,Aa,rfl⟩⟩
theorem Air {fuel n:Nat} {F:Nat->Nat->Int} (hn:1<=n) (Aa:n<=16) (h:∀ i j,i < n->j < n->(F i j).natAbs<=9223372036854775807) (hf:17 < fuel):AFe fuel (tab n n F)=some (tab n n F):=by
 rw [Axq (Agk (by decide) h) hf,if_pos (Atm hn Aa)]
theorem Awn {fuel n:Nat} {F:Nat->Nat->Int} (Ab:1<=n) (hn:n<=8) (hb:∀ i j,i < n->j < n->(F i j).natAbs<=1000000) (hf:100 < fuel):Ok (AIa fuel (tab n n F)) fun r=>r=true↔AK7 n F/\AMn n F/\det n F<=10000:=by
 have Ac:∀ i j,i < n->j < n->(F i j).natAbs<=AGv:=fun i j hi hj=>Nat.le_trans (hb i j hi hj) (by decide);unfold AIa;refine ABo (ADa (Air Ab (by omega) (fun i j hi hj=>Nat.le_trans (hb i j hi hj) (by decide)) (by omega))) fun x hx=>?_;subst hx;refine ABo (AVb Ab hn Ac hf) fun v hv=>AB3 (fun h=>?_) fun h=>ABi (Iff.intro (fun h2=>nomatch h2) fun h2=>absurd (hv.2 ⟨h2.1,h2.2.1⟩) h);have h1:=hv.1 h;refine ABo (ADa (AV5 hn Ac (by omega))) fun d hd=>ABo (Q:=(· =10000)) ⟨10000,if_pos (by omega),rfl⟩ fun t ht=>ABo (ADa (a:=ARm d t) rfl) fun c hc=>ABi ?_;subst hd;subst ht;subst hc;rw [decide_eq_true_iff,Ad4];exact ⟨fun h2=>⟨h1.1,h1.2,h2⟩,fun h2=>h2.2.2⟩
theorem Awo {n:Nat} {f:Nat->Int} (hn:n<=8) (h:∀ r,r < n->1<=f r/\f r<=2):AK7 n (dgF f)/\AMn n (dgF f)/\det n (dgF f)<=10000:=by
 have hd:∀ k,k<=n->det k (dgF f)=AGx f k:=fun k hk=>by
   rw [ARp (F:=dgF f) (fun c i hc hci hi=>by unfold dgF;rw [if_neg (by omega)])]
   exact AXq fun i _=>by unfold dgF;rw [if_pos rfl]
 have hb:∀ k,k<=n->0 < AGx f k/\AGx f k<=2 ^ k:=fun k=>by
   induction k with
   | zero=>intro _;simp [AGx]
   | succ k ih=>
     intro hk
     have h1:=ih (by omega)
     have h2:=h k (by omega)
     simp only [AGx]
     refine ⟨Int.mul_pos h1.1 (by omega),?_⟩
     rw [Int.pow_succ]
     exact Int.mul_le_mul h1.2 h2.2 (by omega) (Int.le_of_lt (AWb k))
 refine ⟨fun i j hi hj=>?_,fun k hk=>by rw [hd k hk];exact (hb k hk).1,?_⟩
 ·unfold dgF;split
  ·next h=>subst h;rw [if_pos rfl]
  ·next h=>rw [if_neg (fun h2=>h h2.symm)]
 ·rw [hd n (Nat.le_refl n)];have:=(hb n (Nat.le_refl n)).2;have h2:=AYm hn;omega
structure Ax1 (n:Nat) (A:Nat->Nat->Int):Prop where
  n1:1<=n
  n8:n<=8
  sym:AK7 n A
  pos:AMn n A
  bd:∀ i j,i < n->j < n->(A i j).natAbs<=9
  dt:det n A<=10000
theorem Akv {n m:Nat} {f:Nat->Int} (h:∀ r,r < n->1<=f r/\f r<=(m:Int)):∀ i j,i < n->j < n->(dgF f i j).natAbs<=m:=fun i j hi hj=>by
  unfold dgF
  have:=h i hi
  split <;> omega
theorem Awp {fuel:Nat} {a1 a2 most:Int} {L L2:List Int} (h1:0<=a1/\a1 < 256) (hm:1<=most/\most<=8) (hf:100 < fuel):Ok (AE6 fuel a1 a2 L L2 most) fun r=> ∃ n A,r=tab n n A/\Ax1 n A/\(n:Int)=1 + Int.tmod a1 most:=by
 have t1:=Int.emod_nonneg a1 (show most≠0 by omega);have t2:=Int.emod_lt_of_pos a1 (show 0 < most by omega);have t3:Int.tmod a1 most=a1 % most:=Int.tmod_eq_emod_of_nonneg h1.1
 have hN:w64 (1 + Int.tmod (w64 a1) most)=((1 + a1 % most).toNat:Int):=by
   rw [AE5 (x:=a1) (by omega) (by omega),t3,wk (by omega)];omega
 generalize hNN:(1 + a1 % most).toNat=N at hN;have Ae:1<=N:=by omega
 have Ab:N<=8:=by omega
 unfold AE6;refine AEe (by omega) (ABo (Q:=fun e=> ∃ (q:Nat) (F:Nat->Nat->Int),e=(tab N N F,(q:Int))/\q<=200/\ ∀ i j,i < N->j < N->(F i j).natAbs<=9) (ABo (Q:=fun _=>True) ?_ fun k _=>AB3 (fun _=>?_) fun _=>AB3 (fun _=>?_) fun _=>AB3 (fun _=>?_) fun _=>AB3 (fun _=>?_) fun _=>?_) fun e he=>?_)
 ·exact AB3 (fun _=>ABi trivial) fun _=>AB3 (fun _=>ABi trivial) fun _=>AB3 (fun _=>ABi trivial) fun _=>ABi trivial
 ·refine ABo (Q:=fun e=> ∃ (q:Nat) (F:Nat->Nat->Int),e=(tab N N F,(q:Int))/\q<=200/\ ∀ i j,i < N->j < N->(F i j).natAbs<=9) (ABo (Q:=fun e=> ∃ (q:Nat) (f:Nat->Int),e=(tab N N (dgF f),(q:Int))/\q<=8/\ ∀ r,r < N->1<=f r/\f r<=6) (AEe (by rw [hN];omega) (ABo (Ax0 (q0:=0) (L:=L) hN Ab (by omega) hf) fun e he=>ABi ?_)) fun e he=>?_) fun e he=>ABi he
  ·obtain ⟨q,f,rfl,h2,h3⟩:=he;exact ⟨q,f,rfl,by omega,h3⟩
  ·obtain ⟨q,f,rfl,h2,h3⟩:=he;refine ABo (Awm (L:=L) (q0:=q) Ab (by omega) (fun i j hi hj=>Nat.le_trans (Akv (m:=6) h3 i j hi hj) (by decide)) hf) fun e he=>ABi ?_;obtain ⟨q,F,rfl,h4,h5⟩:=he;exact ⟨q,F,rfl,by omega,h5⟩
 ·rw [hN];refine ABo (Aku Ae Ab hf) fun F hF=>?_;obtain ⟨F,rfl,hF⟩:=hF;refine AB7 (n:=0) (ADi (by omega)) rfl (AB7 (n:=0) (ACn (by omega)) rfl (ABo (Q:=fun e:Int × Int=>0<=e.1/\e.1 < 3/\ ∃ p:Nat,e.2=(p:Int)/\p<=0 + 1) (ABo (AVd (L:=L) (q:=0) (by omega)) fun e he=>ABi ⟨(AS4 _ 3 (by decide)).1,(AS4 _ 3 (by decide)).2,he⟩) fun e he=>ABi ?_));obtain ⟨c1,c2,p,c3,c4⟩:=he;have c5:=hF 0 0 (by omega) (by omega);refine ⟨p,ADj F 0 fun c=>if c=0 then F 0 0 + e.1 else F 0 c,?_,by omega,fun i j hi hj=>?_⟩
  ·rw [c3,wk (by omega)];refine congrArg (fun z=>(z,(p:Int))) ?_;show (tab N N F).set 0 ((ADz N (F 0)).set 0 (F 0 0 + e.1))=_;rw [AEz];exact AH5
  ·rw [ACs];split
   ·split
    ·omega
    ·have:=hF 0 j (by omega) hj;omega
   ·have:=hF i j hi hj;omega
 ·rw [hN];refine ABo (Aku Ae Ab hf) fun F hF=>?_;obtain ⟨F,rfl,hF⟩:=hF;have w1:w64 ((N:Int) - 1)=((N - 1:Nat):Int):=by rw [wk (by omega)];omega
  rw [w1];refine AB7 (ADi (by omega)) rfl (AB7 (ACn (by omega)) rfl (ABo (Q:=fun e:Int × Int=>0<=e.1/\e.1 < 2/\ ∃ p:Nat,e.2=(p:Int)/\p<=0 + 1) (ABo (AVd (L:=L) (q:=0) (by omega)) fun e he=>ABi ⟨(AS4 _ 2 (by decide)).1,(AS4 _ 2 (by decide)).2,he⟩) fun e he=>ABi ?_));obtain ⟨c1,c2,p,c3,c4⟩:=he;have c5:=hF (N - 1) (N - 1) (by omega) (by omega);refine ⟨p,ADj F (N - 1) fun c=>if c=N - 1 then F (N - 1) (N - 1) + e.1 else F (N - 1) c,?_,by omega,fun i j hi hj=>?_⟩
  ·rw [c3,wk (by omega),ADy,ADy];refine congrArg (fun z=>(z,(p:Int))) ?_;rw [AEz];exact AH5
  ·rw [ACs];split
   ·split
    ·omega
    ·have:=hF (N - 1) j (by omega) hj;omega
   ·have:=hF i j hi hj;omega
 ·refine ABo (Q:=fun e=> ∃ (q:Nat) (F:Nat->Nat->Int),e=(tab N N F,(q:Int))/\q<=200/\ ∀ i j,i < N->j < N->(F i j).natAbs<=9) (AEe (by rw [hN];omega) (ABo (Awj (q0:=0) (L:=L) hN Ab (by omega) hf) fun e he=>ABi ?_)) fun e he=>ABi he;obtain ⟨q,f,rfl,h2,h3⟩:=he;exact ⟨q,dgF f,rfl,by omega,fun i j hi hj=>Akv (m:=9) h3 i j hi hj⟩
 ·refine ABo (Q:=fun e=> ∃ (q:Nat) (F:Nat->Nat->Int),e=(tab N N F,(q:Int))/\q<=200/\ ∀ i j,i < N->j < N->(F i j).natAbs<=9) (AEe (by rw [hN];omega) (ABo (Awk (q0:=0) (L:=L) hN Ab (by omega) hf) fun e he=>ABi ?_)) fun e he=>ABi he;obtain ⟨q,f,rfl,h2,h3⟩:=he;exact ⟨q,dgF f,rfl,by omega,fun i j hi hj=>Nat.le_trans (Akv (m:=1) h3 i j hi hj) (by decide)⟩
 ·obtain ⟨q,F,rfl,h2,h3⟩:=he;dsimp only;refine ABo (Awn Ae Ab (fun i j hi hj=>Nat.le_trans (h3 i j hi hj) (by decide)) hf) fun b hb=>AB3 (fun hn=>?_) fun hn=>ABi ?_
  ·refine ABo (Q:=fun e=> ∃ f:Nat->Int,e.1=tab N N (dgF f)/\ ∀ r,r < N->1<=f r/\f r<=2) (AEe (by rw [hN];omega) (ABo (Awl (q0:=q) (L:=L) hN Ab (by omega) hf) fun e he=>ABi ?_)) fun e he=>ABi ?_
   ·obtain ⟨q,f,rfl,h4,h5⟩:=he;exact ⟨f,rfl,h5⟩
   ·obtain ⟨f,h4,h5⟩:=he;obtain ⟨d1,d2,d3⟩:=Awo Ab h5;exact ⟨N,dgF f,h4,⟨Ae,Ab,d1,d2,fun i j hi hj=>Nat.le_trans (Akv (m:=2) h5 i j hi hj) (by decide),d3⟩,by rw [t3];omega⟩
  ·have hg:AK7 N F/\AMn N F/\det N F<=10000:=hb.1 (by simpa using hn);exact ⟨N,F,rfl,⟨Ae,Ab,hg.1,hg.2.1,h3,hg.2.2⟩,by rw [t3];omega⟩
theorem Awq {fuel:Nat} {a1 a2 most:Int} {L L2:List Int} (h1:0<=a1/\a1 < 256) (hm:1<=most/\most<=8) (hf:AEk < fuel):Ok (AE7 fuel a1 a2 L L2 most) fun r=> ∃ n A,r=tab n n A/\1<=n/\(n:Int)<=most/\Agj n A/\ ∀ k,k < n->A k k<=3 * dm9:=by
  have hf2:100 < fuel:=Nat.lt_of_le_of_lt (by decide) hf;unfold AE7;refine ABo (Awp h1 hm hf2) fun g hg=>?_;obtain ⟨n,A,rfl,G,hn⟩:=hg;have t2:=Int.emod_lt_of_pos a1 (show 0 < most by omega);have t3:Int.tmod a1 most=a1 % most:=Int.tmod_eq_emod_of_nonneg h1.1
  let A0:Nat->Nat->Int:=fun i j=>if i < n/\j < n then A i j else 0
  have hA0:∀ i j,i < n->j < n->A0 i j=A i j:=fun i j hi hj=>if_pos ⟨hi,hj⟩;have e:tab n n A=tab n n A0:=ANh fun i j hi hj=>(hA0 i j hi hj).symm;refine ABo (ADa (Air G.n1 (by have:=G.n8;omega) (fun i j hi hj=>Nat.le_trans (G.bd i j hi hj) (by decide)) (by omega))) fun x hx=>?_;subst hx;rw [e];have hp:AMn n A0:=fun k hk=>by rw [ADe fun i j hi hj=>hA0 i j (by omega) (by omega)];exact G.pos k hk
  have hs:AK7 n A0:=fun i j hi hj=>by rw [hA0 i j hi hj,hA0 j i hj hi];exact G.sym i j hi hj
  have hE:∀ i j,(A0 i j).natAbs<=9:=fun i j=>by
    show (if i < n/\j < n then A i j else 0).natAbs<=9
    split
    · next h=>exact G.bd i j h.1 h.2
    · decide
  have hh:=Ap3 hs hp (B:=9) (by decide) (fun i hi=>by have:=hE i i;omega)
  refine ABo (Amp G.n1 G.n8 hs hp (fun i j=>Nat.le_trans (hE i j) (by decide)) (fun k hk=>?_) (fun k hk=>?_) ?_ hf) fun r hr=>ABi ?_
  · have h2:=hh k hk
    have h3:(9:Int) ^ k<=9 ^ 8:=by
      have:=Nat.pow_le_pow_right (show 0 < 9 by omega) (show k<=8 by have:=G.n8;omega);have e2:∀ t:Nat,(9:Int) ^ t=((9 ^ t:Nat):Int):=fun t=>by simp
      rw [e2,e2];omega
    exact Int.le_trans h2 h3
  · have:=hE k k;have:(3 * dm9)=129140163:=by decide
    omega
  · rw [ADe hA0];exact G.dt
  · obtain ⟨A',T,rfl,R,-,-,hd⟩:=hr;exact ⟨n,A',rfl,G.n1,by rw [hn,t3];omega,R,hd⟩
theorem Aqg {A:Nat->Nat->Int} {k:Nat} (h1:LvF A k) (h2:SzF A (k + 1) k) (hp:0 < det (k + 1) A):det (k + 1) A * det (k + 1) A<=2 * (det k A * det (k + 2) A):=by
 unfold LvF at h1;unfold SzF at h2;have h3:(2 * Mn k A (k + 1) k) * (2 * Mn k A (k + 1) k)<=det (k + 1) A * det (k + 1) A:=ATv (by omega) h2.2;have h4:(2 * Mn k A (k + 1) k) * (2 * Mn k A (k + 1) k)=4 * (Mn k A (k + 1) k * Mn k A (k + 1) k):=by grind
 omega
theorem ANj {x y:Int} (h0:0<=x) (h:x<=y):∀ k:Nat,x ^ k<=y ^ k
  | 0=>by simp
  | k + 1=>by
    rw [Int.pow_succ,Int.pow_succ]
    exact Int.mul_le_mul (ANj h0 h k) h h0 (Int.le_trans (Int.pow_nonneg h0) (ANj h0 h k))
def tri:Nat->Nat
  | 0=>0
  | k + 1=>tri k + (k + 1)
theorem Ais {n:Nat} {A:Nat->Nat->Int} (hp:AMn n A) (hs:AQb A n) (hl:ARs A n):∀ k,k + 1<=n->det k A ^ (k + 1)<=det (k + 1) A ^ k * 2 ^ tri k:=by
  intro k;induction k with
  | zero=>intro _;simp [det,tri]
  | succ k ih=>
    intro hk;have ih:=ih (by omega);have p0:=hp k (by omega);have p1:=hp (k + 1) (by omega);have p2:=hp (k + 2) (by omega);have h1:=Aqg (hl k (by omega)) (hs (k + 1) k (by omega) (by omega)) p1;generalize det k A=a at *
    generalize det (k + 1) A=b at *
    generalize det (k + 2) A=c at *
    have h2:(b * b) ^ (k + 1)<=(2 * (a * c)) ^ (k + 1):=ANj (Int.le_of_lt (Int.mul_pos p1 p1)) h1 _;rw [Int.mul_pow,Int.mul_pow,Int.mul_pow] at h2;have h3:a ^ (k + 1) * c ^ (k + 1)<=b ^ k * 2 ^ tri k * c ^ (k + 1):=Int.mul_le_mul_of_nonneg_right ih (Int.le_of_lt (Int.pow_pos p2));have h4:2 ^ (k + 1) * (a ^ (k + 1) * c ^ (k + 1))<=2 ^ (k + 1) * (b ^ k * 2 ^ tri k * c ^ (k + 1)):=Int.mul_le_mul_of_nonneg_left h3 (Int.le_of_lt (AWb _));have h5:=Int.le_trans h2 h4;have e1:b ^ (k + 1) * b ^ (k + 1)=b ^ k * b ^ (k + 1 + 1):=by rw [Int.pow_succ b k,Int.pow_succ b (k + 1),Int.pow_succ b k];grind
    have e2:(2:Int) ^ (k + 1) * (b ^ k * 2 ^ tri k * c ^ (k + 1))=b ^ k * (c ^ (k + 1) * 2 ^ tri (k + 1)):=by
      have:(2:Int) ^ tri (k + 1)=2 ^ tri k * 2 ^ (k + 1):=by rw [<- Int.pow_add];rfl
      rw [this];grind
    rw [e1,e2] at h5;exact Int.le_of_mul_le_mul_left h5 (Int.pow_pos p1)
def dU:Nat->Int
  | 8=>10000
  | 7=>35777
  | 6=>64000
  | 5=>57243
  | 4=>25600
  | _=>10000
theorem Ax2 (k:Nat):dU k<=64000:=by unfold dU;split <;> omega
theorem Au0 (k:Nat):10000<=dU k:=by unfold dU;split <;> omega
theorem Atn:∀ k,k < 8->dU (k + 1) ^ k * 2 ^ tri k < (dU k + 1) ^ (k + 1):=by decide
theorem Amq {n:Nat} {A:Nat->Nat->Int} (hn:n<=8) (hp:AMn n A) (hs:AQb A n) (hl:ARs A n) (hd:det n A<=10000):∀ m k,k + m=n->det k A<=dU k:=by
 intro m
 induction m with
 | zero=>
     intro k hk;obtain rfl:k=n:=by omega
     exact Int.le_trans hd (Au0 _)
 | succ m ih=>
   intro k hk
   have h1:=ih (k + 1) (by omega)
   have h2:=Ais hp hs hl k (by omega)
   have p0:=hp k (by omega)
   have p1:=hp (k + 1) (by omega)
   rcases Int.lt_or_le (dU k) (det k A) with h | h
   · exfalso
     have h3:(dU k + 1) ^ (k + 1)<=det k A ^ (k + 1):=ANj (by have:=Au0 k;omega) (by omega) _
     have h4:det (k + 1) A ^ k * 2 ^ tri k<=dU (k + 1) ^ k * 2 ^ tri k:=Int.mul_le_mul_of_nonneg_right (ANj (Int.le_of_lt p1) h1 k) (Int.le_of_lt (AWb _))
     have h5:=Atn k (by omega)
     omega
   · exact h
theorem Agl {n:Nat} {A:Nat->Nat->Int} (hn:n<=8) (R:Agj n A) {k:Nat} (hk:k<=n):0 < det k A/\det k A<=64000:=
  ⟨R.pos k hk,Int.le_trans (Amq hn R.pos R.sz R.lv R.dt (n - k) k (by omega)) (Ax2 k)⟩
theorem AYo {n:Nat} {A:Nat->Nat->Int} (hn:n<=8) (R:Agj n A) {i j:Nat} (hi:i < n) (hj:j < n): -192000<=A i j/\A i j<=192000:=
  Agh R.sym R.pos (fun k hk=>Af7 (Dm:=64000) hn R.sym R.pos hk (fun k hk=>(Agl hn R hk).2) fun l hl=>R.sz k l hl hk) hi hj
structure RB (n:Nat) (A:Nat->Nat->Int) (k:Nat):Prop where
  pos:∀ j,k < j->j<=n->0 < det j A
  lt:∀ j,k < j->j < n->det j A < 65536
  sz:∀ l i,k<=l->l < i->i < n->SzF A i l
  lv:∀ l,k<=l->l + 1 < n->LvF A l
  dt:det n A<=10000
theorem Awr {A F:Nat->Nat->Int} {m k:Nat} (h0:0 < det k A) (hF:∀ i j,i < m + 1->j < m + 1->F i j=Mn k A (k + i) (k + j)) {i j:Nat} (hi:i < m) (hj:j < m):AQk F (det k A) i j=Mn (k + 1) A (k + 1 + i) (k + 1 + j):=by
 unfold AQk;rw [hF 0 0 (by omega) (by omega),hF (i + 1) (j + 1) (by omega) (by omega),hF (i + 1) 0 (by omega) (by omega),hF 0 (j + 1) (by omega) (by omega),Nat.add_zero,AYf (by omega),Int.mul_tdiv_cancel_left _ (by omega)];rw [show k + (i + 1)=k + 1 + i by omega,show k + (j + 1)=k + 1 + j by omega]
theorem Agm {n:Nat} {A:Nat->Nat->Int}:∀ (m k:Nat) (F:Nat->Nat->Int),k + m=n->1<=m->0 < det k A->(∀ i j,i < m->j < m->F i j=Mn k A (k + i) (k + j))->(AO1 m F (det k A)=true↔RB n A k):=by
 intro m
 induction m with
 | zero=>intro k F _ h;omega
 | succ m ih=>
   intro k F hk _ h0 hF
   have Ad:F 0 0=det (k + 1) A:=by rw [hF 0 0 (by omega) (by omega)];exact AL2 k A
   cases m with
   | zero=>
     obtain rfl:k + 1=n:=hk
     show decide (0 < F 0 0/\F 0 0<=10000)=true↔_
     rw [decide_eq_true_iff,Ad]
     exact ⟨fun h=>⟨fun j h1 h2=>by
       obtain rfl:j=k + 1:=by omega
       exact h.1,fun j h1 h2=>by omega,fun l i h1 h2 h3=>by omega,fun l h1 h2=>by omega,h.2⟩,fun h=>⟨h.pos (k + 1) (by omega) (Nat.le_refl _),h.dt⟩⟩
   | succ m=>
     have hN:∀ i j,i < m + 1->j < m + 1->AQk F (det k A) i j=Mn (k + 1) A (k + 1 + i) (k + 1 + j):=fun i j hi hj=>Awr h0 hF hi hj
     have hS:AO0 (m + 1 + 1) F↔(0 < det (k + 1) A/\det (k + 1) A < 65536)/\ ∀ i,k < i->i < n->SzF A i k:=by
       unfold AO0
       rw [Ad]
       refine and_congr_right fun _=>⟨fun h i h1 h2=>?_,fun h i h1 h2=>?_⟩
       · have h3:=h (i - k) (by omega) (by omega)
         rw [hF (i - k) 0 (by omega) (by omega),show k + (i - k)=i by omega] at h3
         unfold SzF
         simp only [Nat.add_zero] at h3
         omega
       · have h3:=h (k + i) (by omega) (by omega)
         unfold SzF at h3
         rw [hF i 0 h2 (by omega),Nat.add_zero]
         omega
     have hL:AUp F (det k A)↔LvF A k:=by
       unfold AUp LvF
       rw [Ad,hN 0 0 (by omega) (by omega),Nat.add_zero,AL2 (k + 1) A,hF 1 0 (by omega) (by omega),Nat.add_zero]
       have e:3 * det (k + 1) A * det (k + 1) A=3 * (det (k + 1) A * det (k + 1) A):=by grind
       rw [e]
       exact Iff.rfl
     show (decide (AO0 (m + 1 + 1) F) && (decide (AUp F (det k A)) && AO1 (m + 1) (AQk F (det k A)) (F 0 0)))=true↔_
     rw [Bool.and_eq_true,Bool.and_eq_true,decide_eq_true_iff,decide_eq_true_iff,hS,hL,Ad]
     constructor
     · rintro ⟨⟨⟨h1,h2⟩,h3⟩,h4,h5⟩
       have R:=(ih (k + 1) _ (by omega) (by omega) h1 hN).1 h5
       refine ⟨fun j a b=>?_,fun j a b=>?_,fun l i a b c=>?_,fun l a b=>?_,R.dt⟩
       · by_cases e:j=k + 1
         · subst e;exact h1
         · exact R.pos j (by omega) b
       · by_cases e:j=k + 1
         · subst e;exact h2
         · exact R.lt j (by omega) b
       · by_cases e:l=k
         · subst e;exact h3 i b c
         · exact R.sz l i (by omega) b c
       · by_cases e:l=k
         · subst e;exact h4
         · exact R.lv l (by omega) b
     · intro R
       have h1:=R.pos (k + 1) (by omega) (by omega)
       exact ⟨⟨⟨h1,R.lt (k + 1) (by omega) (by omega)⟩,fun i a b=>R.sz k i (Nat.le_refl k) a b⟩,R.lv k (Nat.le_refl k) (by omega),(ih (k + 1) _ (by omega) (by omega) h1 hN).2 ⟨fun j a b=>R.pos j (by omega) b,fun j a b=>R.lt j (by omega) b,fun l i a b c=>R.sz l i (by omega) b c,fun l a b=>R.lv l (by omega) b,R.dt⟩⟩
def AVf (M:List (List Int)):Prop:=(1<=M.length/\M.length<=8)/\(∀ z∈M,z.length=M.length)/\Agj M.length (ent M)
theorem APu (M:List (List Int)):isRed M=true↔AVf M:=by
 unfold isRed;rw [Bool.and_eq_true];constructor
 ·rintro ⟨h1,h2⟩;have S:=AZ3 h1;have R:=(Agm (A:=ent M) (n:=M.length) M.length 0 (ent M) (by omega) S.1.1 (by simp [det]) fun i j _ _=>by rw [AOe,Nat.zero_add,Nat.zero_add]).1 (by simpa [det] using h2);refine ⟨S.1,S.2.1,fun i j hi hj=>(S.2.2 i j hi hj).1,fun k hk=>?_,fun r l h3 h4=>R.sz l r (Nat.zero_le _) h3 h4,fun l hl=>R.lv l (Nat.zero_le _) hl,R.dt⟩;rcases Nat.eq_zero_or_pos k with h | h
  ·subst h;simp [det]
  ·exact R.pos k h hk
 ·rintro ⟨h1,h2,R⟩;refine ⟨(AGt ⟨h1,h2,fun i j hi hj=>⟨R.sym i j hi hj,?_,?_⟩⟩).symm,?_⟩
  ·have:=AYo h1.2 R hi hj;omega
  ·have:=AYo h1.2 R hi hj;omega
  ·have h3:=(Agm (A:=ent M) (n:=M.length) M.length 0 (ent M) (by omega) h1.1 (by simp [det]) fun i j _ _=>by rw [AOe,Nat.zero_add,Nat.zero_add]).2 ⟨fun j _ hj=>R.pos j hj,fun j _ hj=>by have:=Agl h1.2 R (k:=j) (by omega);omega,fun l i _ a b=>R.sz i l a b,fun l _ hl=>R.lv l hl,R.dt⟩;simpa [det] using h3
theorem Ait {fuel r c:Nat} {F:Nat->Nat->Int} (hr:1<=r) (Ad:r<=16) (hc:1<=c) (Ae:c<=16) (hf:100 < fuel):ADl fuel (tab r c F)=some ((r:Int),(c:Int),true):=by
 apply ok_eq;unfold ADl;rw [ADg];refine ABo (Q:=fun ex=>match ex with | .inl _=>False | .inr _=>True) (AB3 (fun h=>by omega) fun h=>AB3 (fun h2=>by omega) fun h2=>ABi trivial) fun ex hex=>?_
 cases ex with
 | inl e=>exact hex.elim
 | inr u=>
   dsimp only
   refine ABo (ACv (fun i (s:Int)=>s=i) r (Q:=fun ex=>match ex with | .inl _=>False | .inr _=>True) rfl (by omega) fun i s hi hI=>?_) fun ex hex=>?_
   · subst hI
     unfold AFy
     rw [ADg]
     refine AB3 (fun h=>AB7 (ADi (by omega)) rfl ?_) fun h=>ABi trivial
     rw [ADb]
     refine AB3 (fun h2=>by omega) fun h2=>AB3 (fun h3=>by omega) fun h3=>AB7 (n:=0) (ADi (by omega)) rfl (AB3 (fun h4=>?_) fun h4=>ABi ⟨by omega,wk (by omega)⟩)
     rw [ADb] at h4;omega
   · cases ex with
     | inl e=>exact hex.elim
     | inr u=>exact AB7 (n:=0) (ADi (by omega)) rfl (ABi (by rw [ADb]))
theorem Amr {fuel n:Nat} {F:Nat->Nat->Int} (Ah:1<=n) (hn:n<=8) (hb:∀ i j,i < n->j < n->(F i j).natAbs<=AGv) (hf:100 < fuel):Ok (AGd fuel (tab n n F)) fun r=>r=true↔AQb F n/\ARs F n:=by
 unfold AGd;refine ABo (ADa (AXb Ah hn hb hf)) fun x hx=>?_;subst hx;dsimp only;refine ABo (ACv (fun i s=>s=((i:Nat):Int)/\i<=n/\AQb F i/\ARs F i) n (Q:=fun ex=>match ex with | .inl e=>e=false/\¬ (AQb F n/\ARs F n) | .inr _=>AQb F n/\ARs F n) ⟨rfl,Nat.zero_le _,fun r l h1 h2=>by omega,fun r h=>by omega⟩ (by omega) fun i s hi hI=>?_) fun ex hex=>?_
 ·obtain ⟨rfl,hin,hsz,hlv⟩:=hI;unfold AI4;rw [ADg];refine AB3 (fun h=>?_) (fun h=>ABi ?_)
  ·have hi':i < n:=by omega
   refine ABo (ACv (fun k s=>s=((k:Nat):Int)/\k<=i/\ ∀ l,l < k->SzF F i l) i (Q:=fun ex=>match ex with | .inl e=>e=false/\¬ (AQb F n/\ARs F n) | .inr _=> ∀ l,l < i->SzF F i l) ⟨rfl,Nat.zero_le _,fun l h1=>by omega⟩ (by omega) fun k s hk hK=>?_) fun ex hex=>?_
   ·obtain ⟨rfl,hki,hz⟩:=hK;unfold AI3;refine AB3 (fun h2=>?_) (fun h2=>ABi ?_)
    ·have hki':k < i:=by omega
     refine ABo (ADa (Aki hn hi' (by omega) hb hf)) fun b Ad=>?_;subst Ad;refine AB3 (fun h3=>ABi ⟨rfl,fun h4=>?_⟩) (fun h3=>ABi ⟨by omega,by rw [wk (by omega)];omega,by omega,fun l hl=>?_⟩)
     ·have:=h4.1 i k hki' hi';rw [<- AYn] at this;simp [this] at h3
     ·have hgood:SzF F i k:=by rw [<- AYn];simpa using h3
      rcases Nat.lt_or_ge l k with h6 | h6
      ·exact hz l h6
      ·obtain rfl:l=k:=by omega
       exact hgood
    ·obtain rfl:k=i:=by omega
     exact hz
   ·cases ex with
    | inl r=>exact ABi hex
    | inr e=>
      have hsz':AQb F (i + 1):=fun r l h1 h2=>by
        rcases Nat.lt_or_ge r i with h3 | h3
        · exact hsz r l h1 h3
        · obtain rfl:r=i:=by omega
          exact hex l h1
      dsimp only
      have nx:w64 ((i:Int) + 1)=((i + 1:Nat):Int):=by rw [wk (by omega)];omega
      refine AB3 (fun h4=>?_) (fun h4=>ABi ⟨by omega,nx,by omega,hsz',fun r hr=>by omega⟩)
      obtain ⟨j,rfl⟩:∃ j,i=j + 1:=⟨i - 1,by omega⟩
      refine ABo (Agd hn hi' hb hf) fun b Ad=>?_
      refine AB3 (fun h5=>ABi ⟨rfl,fun h6=>?_⟩) (fun h5=>ABi ⟨by omega,nx,by omega,hsz',fun r hr=>?_⟩)
      · rw [Ad.2 (h6.2 j hi')] at h5;cases h5
      · have hgood:LvF F j:=Ad.1 (by simpa using h5)
        rcases Nat.lt_or_ge r j with h6 | h6
        · exact hlv r (by omega)
        · obtain rfl:r=j:=by omega
          exact hgood
  ·obtain rfl:i=n:=by omega
   exact ⟨hsz,hlv⟩
 ·cases ex with
  | inl r=>exact ABi (Iff.intro (fun h=>by rw [hex.1] at h;cases h) fun h=>absurd h hex.2)
  | inr u=>exact ABi ⟨fun _=>hex,fun _=>rfl⟩
def Agn (M:List (List Int)):Prop:= ∀ z∈M,∀ x∈z,-9223372036854775808<=x/\x<=9223372036854775807
theorem Aiu {fuel:Nat} {M:List (List Int)} (hM:Agn M) (hf:100 < fuel):AEr fuel M=some (isRed M):=by
 have key:Ok (AEr fuel M) fun r=>r=true↔AVf M:=by
   unfold AEr
   refine ABo (ADa (AXr hM (by omega))) fun x hx=>?_
   subst hx
   by_cases hk:okM M=true
   · rw [if_pos hk]
     dsimp only
     have Ag:=hk
     unfold okM at Ag
     rw [decide_eq_true_iff] at Ag
     obtain ⟨a1,a2,a3⟩:=Ag
     have hne:∃ z,M[0]? =some z:=⟨M[0],List.getElem?_eq_getElem (by omega)⟩
     obtain ⟨z,hz⟩:=hne
     have hc:ALq M=z.length:=AW5 hz
     have Aj:=a3 z (List.mem_of_getElem? hz)
     have hT:M=tab M.length (ALq M) (ent M):=AY4 fun z hz=>(a3 z hz).2.2
     refine AB3 (fun _=>?_) fun h=>absurd rfl h
     by_cases hsq:ALq M=M.length/\M.length<=8
     · have Ai:M=tab M.length M.length (ent M):=by rw [hsq.1] at hT;exact hT
       have hb:∀ i j,i < M.length->j < M.length->(ent M i j).natAbs<=AGv:=fun i j hi hj=>by
         have hl:M[i].length=M.length:=by rw [(a3 _ (List.getElem_mem hi)).2.2];exact hsq.1
         rw [Anm hi (by omega)]
         have h1:=hM _ (List.getElem_mem hi) _ (List.getElem_mem (show j < M[i].length by omega))
         have h2:(9223372036854775808:Nat)<=AGv:=by decide
         omega
       have hR:AVf M↔Agj M.length (ent M):=⟨fun h=>h.2.2,fun h=>⟨⟨a1,hsq.2⟩,fun z hz=>by rw [(a3 z hz).2.2];exact hsq.1,h⟩⟩
       rw [hR]
       generalize hF:ent M=F at *
       generalize hL:M.length=n at *
       rw [Ai]
       refine ABo (AVb a1 hsq.2 hb hf) fun v hv=>AB3 (fun h=>?_) fun h=>ABi ⟨fun h2=>(nomatch h2),fun h2=>absurd (hv.2 ⟨h2.sym,h2.pos⟩) h⟩
       have h1:=hv.1 h
       refine ABo (ADa (Akm hsq.2 hb hf)) fun b Ad=>?_
       subst Ad
       refine AB3 (fun h2=>?_) fun h2=>ABi ⟨fun h3=>(nomatch h3),fun h3=>absurd (decide_eq_true h3.dt) h2⟩
       refine ABo (Amr a1 hsq.2 hb hf) fun b Ad=>ABi ⟨fun h3=>?_,fun h3=>Ad.2 ⟨h3.sz,h3.lv⟩⟩
       exact ⟨h1.1,h1.2,(Ad.1 h3).1,(Ad.1 h3).2,of_decide_eq_true h2⟩
     · have hnr: ¬ AVf M:=fun h=>hsq ⟨by rw [hc];exact h.2.1 z (List.mem_of_getElem? hz),h.1.2⟩
       refine ABo (Q:=fun v=>v=3) ?_ fun v hv=>AB3 (fun h=>by omega) fun _=>ABi ⟨fun h=>(nomatch h),fun h=>absurd h hnr⟩
       unfold AD0
       refine ABo (Q:=fun e=>e.2=false∨(8:Int) < e.1) ?_ fun e he=>?_
       · unfold AEt
         rw [hT]
         refine ABo (ADa (Ait a1 a2 (by omega) (by omega) hf)) fun x hx=>?_
         subst hx
         dsimp only
         refine AB3 (fun h=>absurd h (by decide)) fun _=>AB3 (fun h=>ABi (.inl rfl)) fun h=>ABi (.inr ?_)
         have h2:M.length=ALq M:=by omega
         dsimp only
         by_cases h3:M.length<=8
         · exact absurd ⟨h2.symm,h3⟩ hsq
         · omega
       · obtain ⟨e1,e2⟩:=e
         dsimp only at he ⊢
         refine AB3 (fun h=>ABi rfl) fun h=>AB3 (fun _=>ABi rfl) fun h2=>?_
         rcases he with rfl | he
         · exact absurd rfl h
         · exact absurd he h2
   · rw [if_neg hk]
     refine AB3 (fun h=>(nomatch h)) fun _=>ABi ⟨fun h=>(nomatch h),fun h=>absurd ?_ hk⟩
     obtain ⟨h1,h2,_⟩:=h
     unfold okM
     rw [decide_eq_true_iff]
     have hc:ALq M=M.length:=by rw [AW5 (List.getElem?_eq_getElem (show 0 < M.length by omega))];exact h2 _ (List.getElem_mem _)
     exact ⟨by omega,by omega,fun z hz=>by rw [h2 z hz,hc];exact ⟨by omega,by omega,rfl⟩⟩
 obtain ⟨r,h1,h2⟩:=key;rw [h1];congr 1;rw [<- APu] at h2;cases r <;> cases h:isRed M <;> simp_all
end Go.Proofs.YtiegjkmfpcgjjaaGreatDoor
namespace Go.Proofs.YtiegjkmfpcgjjaaGreatDoor
open Go Go.QF
open Go.ChangeShapes Go.WideShapes Go.ChangeAt Go.RowKit
set_option maxRecDepth 100000
theorem Ams:Tryz.prog.cellsOf 26=4:=by kernel_rfl
theorem wf_i64 {z:Int} (h:(Lit.int .i64 z).wf=true): -9223372036854775808<=z/\z<=9223372036854775807:=by
 simp [Lit.wf,IntKind.min,IntKind.max,IntKind.bits,IntKind.signed] at h;omega
theorem Aws {H:Type} {enc:TypeId × Value->H} {W:World} {fuel:Nat} {v:Value} {x:DataW H × List MemPlace} (hf:DataW.trod enc Tryz.prog W 0 (fun _=>true) true fuel 22 [v]=some x):∃ M,AFo (cI .i64) W.heap v M/\Agn M:=by
  rcases Deep.open_int_rows Tryz.underlying22 Tryz.underlying23 Tryz.underlying2 Ali Abg hf with ⟨hcs,_⟩ | ⟨a',len',cap',A,L,C,Z,hcs,_,hl,_,_,hrow⟩
  · simp at hcs;subst hcs;exact ⟨[],Aoq _ _,fun z hz=>by cases hz⟩
  · simp at hcs;subst hcs
    have hM:Mat W.heap (.slice (some a') len' cap') ((List.range len').map fun r=>(Z r).take (L r)):=by
      refine ⟨(List.range len').map fun r=> .slice (A r) (L r) (C r),?_,by simp,fun i r z hr hz=>?_⟩
      · refine ATl (by simp) (fun h=>by cases h) fun a'' ha i x hx=>?_;injection ha with ha;subst ha;have hi:i < len':=by have:=(List.getElem?_eq_some_iff.1 hx).1;simpa using this
        simp [hi] at hx;subst hx;exact (hrow i (by omega)).1
      · have hi:i < len':=by have:=(List.getElem?_eq_some_iff.1 hr).1;simpa using this
        simp [hi] at hr hz;subst hr;subst hz;obtain ⟨_,hLC,_,hZ,_,hnone,hcell⟩:=hrow i (by omega);refine ATl (by simp;omega) (fun h=>by have:=hnone h;omega) fun a'' ha c x hx=>?_;have hc:c < L i:=by have:=(List.getElem?_eq_some_iff.1 hx).1;simp at this;omega
        have:=(hcell a'' ha).2 c (by omega);rw [this];rw [List.getElem?_map,List.getElem?_take,if_pos hc,List.getElem?_eq_getElem (by omega)] at hx;simp only [Option.map_some,Option.some.injEq] at hx;rw [<- hx,List.getD_eq_getElem?_getD,List.getElem?_eq_getElem (by omega)];rfl
    refine ⟨_,Aj7 hM ⟨_,_,_,rfl,hl⟩,fun z hz x hx=>?_⟩;obtain ⟨r,hr,rfl⟩:=List.mem_map.1 hz;have hr':r < len':=List.mem_range.1 hr;exact wf_i64 ((hrow r (by omega)).2.2.2.2.1 x (List.mem_of_mem_take hx))
theorem Aqh {H:Type} {enc:TypeId × Value->H} {W:World} {v:Value} {d:DataW H} {p:List MemPlace} (hv:∃ a len cap,v= .slice a len cap) (h:DataW.Trod enc Tryz.prog W 0 (fun _=>true) true 22 v d p):∃ M,AFo (cI .i64) W.heap v M/\Agn M:=by
 obtain ⟨fuel,hf⟩:=h;obtain ⟨a,len,cap,rfl⟩:=hv;exact Aws hf
theorem Aqi {H:Type} {enc:TypeId × Value->H} {W:World} {r:Reach} {b0:Nat} {v:Value} {d:DataW H} {p:List MemPlace} (hv:Value.okWide Tryz.prog W r b0 26 v) (h:DataW.Trod enc Tryz.prog W 0 (fun _=>true) true 26 v d p):
    ∃ (g k:Int) (lv bv:Value) (Z Y:List Int),v= .agg #[.int .u8 g,.int .u8 k,lv,bv]/\SlC (cI .i8) W.heap lv Z/\SlC (cI .i8) W.heap bv Y/\(0<=g/\g < 256)/\(0<=k/\k < 256)/\(∀ z∈Z,-128<=z/\z<=127)/\ ∀ z∈Y,-128<=z/\z<=127:=by
  obtain ⟨cs,rfl,hsz⟩:=okWide_struct Tryz.underlying26 hv;rw [Ams] at hsz;obtain ⟨l⟩:=cs
  match l,hsz with
  | [c0,c1,c2,c3],_=>
    obtain ⟨fuel,hf⟩:=h;obtain ⟨y0,y1,y2,y3,n,_,_,h0,h1,h2,h3⟩:=Joins.trod_struct4 Tryz.underlying26 hf;simp [Value.cells,An1,An2] at h0 h1 h2 h3;obtain ⟨x0,e0,_,w0⟩:=DataW.trod_int Tryz.underlying5 h0;obtain ⟨x1,e1,_,w1⟩:=DataW.trod_int Tryz.underlying5 h1;simp at e0 e1;subst e0;subst e1;have b0:=wf_u8 w0;have b1:=wf_u8 w1;obtain ⟨Z,HZ,hZ⟩:=An3 h2;obtain ⟨Y,HY,hY⟩:=An3 h3;exact ⟨x0,x1,c2,c3,Z,Y,rfl,Aif HZ,Aif HY,by omega,by omega,hZ,hY⟩
end Go.Proofs.YtiegjkmfpcgjjaaGreatDoor
namespace Go.QF
open Go
theorem AYp:∀ u∈([]:List Value),isOne u=true:=fun u h=>by cases h
theorem AOn {v:Value} {l:List Value} (h:isOne v=true) (H:∀ u∈l,isOne u=true):∀ u∈v :: l,isOne u=true:=fun u hu=>(List.mem_cons.1 hu).elim (fun e=>e ▸ h) (H u)
section
variable {P:Program} {B:ABj->Prop} {st:Bool} {ops:Array Oper} {rest:List Oper} {e:Env} {h:ABj} {K:Env->ABj->Prop} {d:Nat} {ty:TypeId} {pos:String} {af:Array Edge}
end
end Go.QF
namespace Go.QF
open Go
theorem Aqj (l:List Value):(l.map fun r=>[r]).flatten=l:=by
 induction l with
 | nil=>rfl
 | cons a L ih=>simp [ih]
def AXx {α:Type} (c:Cod α) (el:Nat) (h:ABj):List (List Nat)->List Value->List (List α)->Prop
  | [],[],[]=>True
  | G :: Gs,r :: rs,L :: M=>OwC c el h G r L/\AXx c el h Gs rs M
  | _,_,_=>False
theorem AXx.len {α:Type} {c:Cod α} {el:Nat} {h:ABj}:∀ {Gs:List (List Nat)} {rs:List Value} {M:List (List α)},AXx c el h Gs rs M->rs.length=M.length/\Gs.length=M.length
  | [],[],[],_=>⟨rfl,rfl⟩
  | G :: Gs,r :: rs,L :: M,H=>by have:=AXx.len H.2;simp [this.1,this.2]
theorem AXx.get {α:Type} {c:Cod α} {el:Nat} {h:ABj}:∀ {Gs:List (List Nat)} {rs:List Value} {M:List (List α)},AXx c el h Gs rs M-> ∀ (i:Nat) (G:List Nat) (r:Value) (L:List α),Gs[i]? =some G->rs[i]? =some r->M[i]? =some L->OwC c el h G r L
  | [],[],[],_,i,G,r,L,h1,_,_=>by simp at h1
  | G0 :: Gs,r0 :: rs,L0 :: M,H,0,G,r,L,h1,h2,h3=>by simp at h1 h2 h3;subst h1;subst h2;subst h3;exact H.1
  | G0 :: Gs,r0 :: rs,L0 :: M,H,i + 1,G,r,L,h1,h2,h3=>AXx.get H.2 i G r L (by simpa using h1) (by simpa using h2) (by simpa using h3)
section
variable {P:Program} {B:ABj->Prop} {st:Bool} {ops:Array Oper} {rest:List Oper} {e:Env} {h:ABj} {K:Env->ABj->Prop} {d:Nat} {ty:TypeId} {pos:String} {af:Array Edge}
theorem AUl {α:Type} {c:Cod α} (Gs:List (List Nat)) (rs:List Value) (M:List (List α)) {t er el bytes n:Nat} {z:Value} {parts:List (Nat × Operand)} (hT:SlT P t er 1) (hz:ZeT P er z bytes) (h1:isOne z=true) (hel:Nat.beq er 147=false) (hb:B h) (hBE:∀ h',Ext h h'->B h') (hn:rs.length=n) (Aa:Nat.ble n 16777216=true) (hpos:Nat.ble 1 n=true) (hp:(parts.map fun (i,x)=>(i,e.ev x))=partsOf 0 rs) (hone:∀ u∈rs,isOne u=true) (hr:AXx c el h Gs rs M) (hnd:Gs.flatten.Nodup) (H:∀ b v h',AFh c er el h' (b :: Gs.flatten) Gs rs v M->Ext h h'->(∀ z∈b :: Gs.flatten,z∈Gs.flatten∨h.size<=z)->RL P B st ops rest (e.set d v) h' K):RL P B st ops (⟨some d,.buildSlice t n parts.toArray,ty,pos,af,none⟩ :: rest) e h K:=by
 have Aa:=Nat.le_of_ble_eq_true Aa;have E:Ext h (h.push (.cells rs.toArray er (0,0))):=AEf _ _;have HO:AJw (h.push (.cells rs.toArray er (0,0))) er 1 h.size (.slice (some ⟨h.size,0,none⟩) n n) (rs.map fun r=>[r]):=⟨n,rs.toArray,by rw [List.length_map,hn],by simp,by simp [hn],by unfold maxLen;omega,by simp [hn],fun r hr=>by obtain ⟨a,_,rfl⟩:=List.mem_map.1 hr;rfl,by rw [Aqj];simp⟩
 have hlt:∀ z∈Gs.flatten,z < h.size:=fun z hz=>by
   obtain ⟨G,hG,hzG⟩:=List.mem_flatten.1 hz
   obtain ⟨i,hi⟩:=List.getElem?_of_mem hG
   have hi':=(List.getElem?_eq_some_iff.1 hi).1
   have hl:=hr.len
   exact (hr.get i G (rs[i]'(by omega)) (M[i]'(by omega)) hi (List.getElem?_eq_getElem _) (List.getElem?_eq_getElem _)).lt z hzG
 refine Aro rs hT hz h1 hb hn Aa (Nat.le_of_ble_eq_true hpos) hp hone ⟨hBE _ E,H h.size _ _ (.inr ⟨h.size,rfl,?_,HO,hel,hr.len.1,hr.len.2,fun i G r L a1 a2 a3=>(hr.get i G r L a1 a2 a3).ext E⟩) E fun z hz=>?_⟩
 ·exact List.nodup_cons.2 ⟨fun hm=>by have:=hlt _ hm;omega,hnd⟩
 ·rcases List.mem_cons.1 hz with rfl | h2
  ·exact .inr (Nat.le_refl _)
  ·exact .inl h2
end
end Go.QF
namespace Go.Proofs.YtiegjkmfpcgjjaaGreatDoor
open Go Go.QF
def aT (F:List Nat):Asr:=⟨F,fun h=> ∀ b∈F,AQz h b,fun {G h h'} U d H b hb=>by
  obtain ⟨o,h1,h2⟩:=H b hb;exact ⟨o,(U.1.2 b (Array.getElem?_eq_some_iff.1 h1).1 (d b hb)).trans h1,h2⟩⟩
namespace Kst
variable {h0 h h':ABj} {l l':List Asr}
theorem a0 (k:Kst h0 h l):Kst h0 h (aT [] :: l):=k.n (Ext.refl h) [aT []] (by exact ⟨by simp [fps,aT],fun b hb=>by simp [fps,aT] at hb⟩) ⟨fun b hb=>by simp at hb,trivial⟩
theorem grab {α:Type} {c:Cod α} {F R:List Nat} {j el:Nat} {w:Value} {y:List α} (k:Kst h0 h (aT F :: l)) (e:Rep j l (aO c el R w y) (aC True) l'):Kst h0 h (aT (F ++ R) :: l'):=by
 obtain ⟨e,rfl⟩:=e;have HR:OwC c el h R w y:=ANf k.p.2 e;have e1:(fps (aT F :: l))[j + 1]? =some R:=(AMs e:(fps l)[j]? =some R);have e0:(fps (aT F :: l))[0]? =some F:=rfl;have hd:=k.s.dj 0 (j + 1) e0 e1 (by omega);have hF:F.Nodup:=(List.nodup_append.1 k.s.1).1;have:=k.s.put2 0 (j + 1) (F':=F ++ R) e0 e1 (by omega) (List.nodup_append.2 ⟨hF,HR.nodup,fun a ha b hb hab=>hd a ha (hab ▸ hb)⟩) (Nat.le_refl _) k.x.1 (fun x hx=>(List.mem_append.1 hx).elim (fun h=>(k.s.lo 0 e0 x h).2) fun h=>HR.lt x h) (fun x hx=>(List.mem_append.1 hx).elim .inl fun h=> .inr (.inl h));refine ⟨k.x,?_,fun b hb=>(List.mem_append.1 hb).elim (k.p.1 b) (HR.notD b),Abr k.p.2 j⟩
 have e2:fps (aT (F ++ R) :: l.set j (aC True))=((fps (aT F :: l)).set (j + 1) []).set 0 (F ++ R):=by
   show (F ++ R) :: fps (l.set j (aC True))=_
   rw [AV3];rfl
 rw [e2];exact this
theorem ndT {F:List Nat} (k:Kst h0 h (aT F :: l)):F.Nodup:=(List.nodup_append.1 k.s.1).1
theorem lit {α:Type} {c:Cod α} {er el:Nat} {F F':List Nat} {Gs:List (List Nat)} {rs:List Value} {v:Value} {x:List (List α)} (k:Kst h0 h (aT F :: l)) (E:Ext h h') (V:AFh c er el h' F' Gs rs v x) (hs:∀ z∈F',z∈F∨h.size<=z):Kst h0 h' (aO2 c er el F' Gs rs v x :: l):=
  k.u p0 (E.upT.mono (fun x hx=>by simp at hx) fun x hx _=>k.p.1 x hx) V V.nodup V.lt hs
end Kst
end Go.Proofs.YtiegjkmfpcgjjaaGreatDoor
namespace Go.QF
open Go
def FR (r:Option Nat):Fence:= { Fence.wide with round:=r }
theorem Akw {r:Option Nat} {m:Nat} {P:Program} {f:FuncId} {args:Array Value} {w:World} {R:Ending->World->Prop} (h:Calls P f args w R):CallsIn (FR r) m P f args w R:=
  (callsIn_wide (n:=m)).2 h
structure AM1 (D:List Deferred) (n:Nat) (e:Env) (a:Act):Prop where
  r:Rep n e { a with defers:=[] }
  d:a.defers=D
theorem AM1.eval {D:List Deferred} {n:Nat} {e:Env} {a:Act} (r:AM1 D n e a):a.eval=e.ev:=r.r.eval
theorem AM1.put {D:List Deferred} {n:Nat} {e:Env} {a:Act} (r:AM1 D n e a) (d:Option Nat) (v:Value) (hd:∀ x,d=some x->x < n):AM1 D n (e.put d v) (a.put d v):=by
 have h1:=r.r.put d v hd;have h2:=r.d
 cases d with
 | none=>exact ⟨h1,h2⟩
 | some d=>exact ⟨h1,h2⟩
theorem AM1.yields {D:List Deferred} {n:Nat} {e:Env} {a:Act} (r:AM1 D n e a) (ops:Array Oper):yielded ops a.tmps=AJv ops e:=r.r.yields ops
theorem AM1.of {n:Nat} {e:Env} {a:Act} (r:Rep n e a):AM1 [] n e a:=⟨⟨r.size,rfl,r.get⟩,r.defers⟩
theorem AM1.rep {n:Nat} {e:Env} {a:Act} (r:AM1 [] n e a):Rep n e a:=⟨r.r.size,r.d,r.r.get⟩
def AQu (o:Oper):Bool:=match o.op with | .defer _=>false | _=>true
theorem AU1 {P:Program} {B:ABj->Prop} {st:Bool} {ops:Array Oper} {Q:Exit->Act->World->Prop} {i:Nat} {o:Oper} {n m:Nat} {ro:Option Nat} {D:List Deferred} {e:Env} {a:Act} {w:World} {K:Env->ABj->Prop} {K':Act->World->Prop} (hi:ops[i]? =some o) (hnd:AQu o=true) (hd:∀ x,o.dst=some x->x < n) (r:AM1 D n e a) (H:GOp P B st ops o e w.heap K) (hK:∀ e' a' w',AM1 D n e' a'->Same w w'->K e' w'.heap->K' a' w'):wpOpIn (FR ro) m P ops Q i K' a w:=by
 unfold wpOpIn;simp only [hi];unfold GOp at H;rw [r.yields ops];split
 ·rename_i hw;rw [if_pos hw] at H;unfold Oper.wpIn;refine ⟨fun _ _=>trivial,?_⟩;rw [Oper.semAt_eq _ _ _ (fun c hc=>by simp [AQu,hc] at hnd),r.eval]
  have eff:∀ {K:Value->ABj->Prop},AOr P e.ev o w.heap K->(∀ v h',K v h'-> ∀ a' w',AM1 D n (e.put o.dst v) a'->Same w w'->w'.heap=h'->K' a' w')->o.uponIn (FR ro) m P a K' Q ((execOp e.ev o).run P w):=by
    intro K H hK
    have H':=H w rfl
    generalize (execOp e.ev o).run P w=res at H'
    cases res with
    | ok nx w'=>
      cases nx <;> simp only [AOa] at H' <;> simp only [Oper.uponIn]
      case value v=>exact hK _ _ H'.2 _ _ (r.put _ _ hd) H'.1 rfl
      case skip=>exact hK _ _ H'.2 _ _ (r.put _ _ hd) H'.1 rfl
      case enter f args=>
        refine ⟨fun hh=>by simp [FR,Fence.wide] at hh,(Akw H'.2).mono fun en w'' ⟨v,he,hs,hk⟩=>?_⟩
        subst he
        exact hK _ _ hk _ _ (r.put _ _ hd) (H'.1.trans hs) rfl
    | halt x w'=>exact H'.elim
  unfold SOp at H;split at H
  ·obtain ⟨v,hv,hk⟩:=H;rw [hv w];exact hK _ _ _ (r.put _ _ hd) (.refl w) hk
  ·obtain ⟨v,hv,hk⟩:=H;rw [hv w rfl];exact hK _ _ _ (r.put _ _ hd) (.refl w) hk
  ·obtain ⟨v,hb,hv,hk⟩:=H;rw [hv w hb];exact hK _ _ _ (r.put _ _ hd) (.refl w) hk
  ·exact eff H.2 fun v h' hk a' w' r' s' hh=>hK _ _ _ r' s' (by rw [hh];exact hk.2)
  ·exact eff H fun v h' hk a' w' r' s' hh=>hK _ _ _ r' s' (by rw [hh];exact hk)
 ·rename_i hw;rw [if_neg hw] at H;exact ⟨fun _ _=>trivial,hK _ _ _ (r.put _ _ hd) (.refl w) H⟩
section
variable {P:Program} {ops:Array Oper} {m:Nat} {ro:Option Nat} {D:List Deferred}
theorem Aba {B:ABj->Prop} {n:Nat} {Q:Exit->Act->World->Prop} (hok:AVn n ops true=true) (hnd:∀ (j:Nat) (o:Oper),ops[j]? =some o->AQu o=true):∀ (fuel:Nat) (R:List Nat) (listed:Array Bool) (e:Env) (a:Act) (w:World) (K:Env->ABj->Prop),
    R.length=fuel->List.Pairwise (· < ·) R->listed.size=ops.size->(∀ j,j∈R↔(j < ops.size/\listed.getD j true=false))->
    (∀ j oj,listed.getD j false=true->ops[j]? =some oj-> ∀ ed∈oj.after,Region.binds .any ed=true->listed.getD ed.on false=true)->
    AM1 D n e a->LI P B (AMu ops true) ops R e w.heap K->(∀ e' a' w',AM1 D n e' a'->Same w w'->K e' w'.heap->Q .normal a' w')->
    wpAnyIn (FR ro) m P .any ops Q fuel listed a w:=by
 intro fuel
 induction fuel with
 | zero=>
   intro R listed e a w K hlen _ _ hmem _ r H hK
   obtain rfl:R=[]:=List.length_eq_zero_iff.1 hlen
   refine ⟨?_,hK _ _ _ r (.refl w) H⟩
   refine List.eq_nil_iff_forall_not_mem.2 fun j hj=>?_
   obtain ⟨hjl,oj,hoj,_⟩:=mem_ready.1 hj
   have:=(hmem j).2 ⟨(Array.getElem?_eq_some_iff.1 hoj).1,hjl⟩
   cases this
 | succ fuel ih=>
   intro R listed e a w K hlen hpw hsz hmem hcl r H hK
   constructor
   · intro hr
     exfalso
     cases R with
     | nil=>simp at hlen
     | cons j R=>
       obtain ⟨hjs,hjl⟩:=(hmem j).1 (List.mem_cons_self ..)
       obtain ⟨oj,hoj⟩:∃ oj,ops[j]? =some oj:=⟨ops[j],Array.getElem?_eq_getElem hjs⟩
       have:j∈Region.ready .any ops listed:=mem_ready.2 ⟨hjl,oj,hoj,fun ed hed hbd=>by
         obtain ⟨_,_,hd⟩:=ALt hok hoj
         have hlt:=(hd rfl).1 ed hed hbd
         cases hl:listed.getD ed.on false with
         | true=>rfl
         | false=>
           exfalso
           have hs:ed.on < ops.size:=Nat.lt_trans hlt hjs
           have hm:ed.on∈j :: R:=(hmem ed.on).2 ⟨hs,by
             have h':ed.on < listed.size:=by omega
             simp [h'] at hl ⊢;exact hl⟩
           rcases List.mem_cons.1 hm with he | he
           · omega
           · have:=(List.pairwise_cons.1 hpw).1 _ he
             omega⟩
       rw [hr] at this
       cases this
   · intro i hi
     obtain ⟨hil,oi,hoi,hall⟩:=mem_ready.1 hi
     have his:i < ops.size:=(Array.getElem?_eq_some_iff.1 hoi).1
     have hiR:i∈R:=(hmem i).2 ⟨his,hil⟩
     obtain ⟨R1,R2,rfl⟩:=List.append_of_mem hiR
     obtain ⟨hdi,hsi,hdri⟩:=ALt hok hoi
     have hpw':=List.pairwise_append.1 hpw
     have hb:LI P B (AMu ops true) ops (i :: (R1 ++ R2)) e w.heap K:=by
       refine LI.bubble hoi hsi R1 (fun k hk=>?_) H
       have hki:k < i:=hpw'.2.2 k hk i (List.mem_cons_self ..)
       have hks:k < ops.size:=Nat.lt_trans hki his
       obtain ⟨ok,hok'⟩:∃ ok,ops[k]? =some ok:=⟨ops[k],Array.getElem?_eq_getElem hks⟩
       refine ⟨ok,hok',(ALt hok hok').2.1,?_⟩
       rcases (hdri rfl).2 k ok hki hok' with ⟨nre,hre⟩ | h
       · exfalso
         have h1:listed.getD k false=true:=AJo (L:=fun j=>listed.getD j false=true) hcl nre k i oi hoi hall hre
         have h2:=((hmem k).1 (List.mem_append_left _ hk)).2
         have hks':k < listed.size:=by omega
         simp [hks'] at h1 h2
         rw [h1] at h2;cases h2
       · exact h
     simp only [LI,hoi] at hb
     refine AU1 hoi (hnd i oi hoi) hdi r hb fun e' a' w' r' hs hk=>?_
     have his':i < listed.size:=by omega
     refine ih (R1 ++ R2) _ e' a' w' K ?_ ?_ ?_ ?_ ?_ r' hk (fun e2 a2 w2 r2 s2 k2=>hK _ _ _ r2 (hs.trans s2) k2)
     · simp at hlen ⊢;omega
     · refine List.pairwise_append.2 ⟨hpw'.1,(List.pairwise_cons.1 hpw'.2.1).2,fun x hx y hy=>hpw'.2.2 x hx y (List.mem_cons_of_mem _ hy)⟩
     · simp [hsz]
     · intro j
       have hm:=hmem j
       constructor
       · intro hj
         have hj':j∈R1 ++ i :: R2:=by
           rcases List.mem_append.1 hj with h | h
           · exact List.mem_append_left _ h
           · exact List.mem_append_right _ (List.mem_cons_of_mem _ h)
         obtain ⟨h1,h2⟩:=hm.1 hj'
         have hne:i≠j:=by
           intro he
           subst he
           rcases List.mem_append.1 hj with h | h
           · have:=hpw'.2.2 i h i (List.mem_cons_self ..);omega
           · have:=(List.pairwise_cons.1 hpw'.2.1).1 i h;omega
         exact ⟨h1,by rw [getD_set_ne true hne];exact h2⟩
       · rintro ⟨h1,h2⟩
         have hne:i≠j:=by
           intro he
           subst he
           simp [his'] at h2
         rw [getD_set_ne true hne] at h2
         have:=hm.2 ⟨h1,h2⟩
         rcases List.mem_append.1 this with h | h
         · exact List.mem_append_left _ h
         · rcases List.mem_cons.1 h with h | h
           · exact absurd h.symm hne
           · exact List.mem_append_right _ h
     · intro j oj hj hoj ed hed hbd
       by_cases hij:i=j
       · subst hij
         rw [hoi] at hoj
         injection hoj with hoj
         subst hoj
         exact getD_set_true (hall ed hed hbd)
       · rw [getD_set_ne false hij] at hj
         exact getD_set_true (hcl j oj hj hoj ed hed hbd)
theorem ATx {B:ABj->Prop} {n:Nat} {Q:Exit->Act->World->Prop} (rest:List Nat):∀ (l:List Oper) (k:Nat) (e:Env) (a:Act) (w:World) (K:Env->ABj->Prop),
    (∀ (j:Nat) (o:Oper),l[j]? =some o->ops[k + j]? =some o/\AQu o=true/\ ∀ x,o.dst=some x->x < n)->AM1 D n e a->RL P B false ops l e w.heap K->
    (∀ e' a' w',AM1 D n e' a'->Same w w'->K e' w'.heap->wpOpsIn (FR ro) m P ops Q rest a' w')->wpOpsIn (FR ro) m P ops Q (List.range' k l.length ++ rest) a w:=by
  intro l;induction l with
  | nil=>intro k e a w K _ r H hK;exact hK _ _ _ r (.refl w) H
  | cons o l ih=>
    intro k e a w K hl r H hK;rw [List.length_cons,List.range'_succ,List.cons_append,wpOpsIn_cons];obtain ⟨h1,h2,h3⟩:=hl 0 o rfl;refine AU1 h1 h2 h3 r H fun e' a' w' r' hs hk=>?_;exact ih (k + 1) e' a' w' K (fun j o hj=>by have:=hl (j + 1) o hj;rwa [<- Nat.add_assoc,Nat.add_right_comm] at this) r' hk fun e2 a2 w2 r2 s2 k2=>hK _ _ _ r2 (hs.trans s2) k2
theorem AWc {B:ABj->Prop} {n:Nat} (hmx:P.follows .mixedOrders=true) {id:Nat} {draw:Bool} {Q:Exit->Act->World->Prop} {e:Env} {a:Act} {w:World} {K:Env->ABj->Prop} (hok:AVn n ops draw=true) (hnd:∀ (j:Nat) (o:Oper),ops[j]? =some o->AQu o=true) (r:AM1 D n e a) (H:RL P B (AMu ops draw) ops ops.toList e w.heap K) (hK:∀ e' a' w',AM1 D n e' a'->Same w w'->K e' w'.heap->Q .normal a' w'):(Code.region id ops draw).wpIn (FR ro) m P Q a w:=by
 cases draw with
 | true=>
   have HL:LI P B (AMu ops true) ops (List.range ops.size) e w.heap K:=by
     rw [List.range_eq_range',<- Array.length_toList]
     exact Aug ops.toList 0 (by simp) e _ H
   refine wpIn_region_any hmx (Aba hok hnd ops.size (List.range ops.size) (Array.replicate ops.size false) e a { w with drawn:=w.drawn + 1 } K (by simp)
       List.pairwise_lt_range (by simp) (fun j=>by
         simp only [List.mem_range]
         constructor
         · intro h;exact ⟨h,by simp [h]⟩
         · exact fun h=>h.1)
       (fun j oj hj _=>by
         exfalso
         rcases Nat.lt_or_ge j ops.size with h' | h'
         · simp [h'] at hj
         · simp [h'] at hj) r HL
       (fun e' a' w' r' hs hk=>hK e' a' w' r' ⟨hs.os,hs.tape,hs.output⟩ hk))
 | false=>
   refine wpIn_region ?_
   have:=ATx (ro:=ro) (m:=m) (Q:=Q) (D:=D) (n:=n) [] ops.toList 0 e a w K (fun j o hj=>by
     have hj':ops[j]? =some o:=by simpa using hj
     exact ⟨by simpa using hj',hnd j o hj',(ALt hok hj').1⟩) r H (fun e' a' w' r' s k=>hK _ _ _ r' s k)
   rw [List.append_nil,Array.length_toList,<- List.range_eq_range'] at this
   exact this
end
def WI (P:Program):Code->(Exit->Env->ABj->Prop)->Env->ABj->Prop
  | .skip,Q,e,h=>Q .normal e h
  | .region _ ops draw,Q,e,h=> ∃ B,RL P B (AMu ops draw) ops ops.toList e h (Q .normal)
  | .seq a b,Q,e,h=>WI P a (AK2 (fun e h=>WI P b Q e h) Q) e h
  | .cond c x y,Q,e,h=> ∃ b,e.ev c= .bool b/\(b=true->WI P x Q e h)/\(b=false->WI P y Q e h)
  | .block id c,Q,e,h=>WI P c (ALc id Q) e h
  | .exit id,Q,e,h=>Q (.exit id) e h
  | .ret,Q,e,h=>Q .ret e h
  | .label _,Q,e,h=>Q .normal e h
  | _,_,_,_=>False
def okI (n:Nat):Code->Bool
  | .region _ ops draw=>AVn n ops draw && ops.toList.all AQu
  | .seq a b=>okI n a && okI n b
  | .cond _ a b=>okI n a && okI n b
  | .block _ c=>okI n c
  | .skip | .exit _ | .ret | .label _=>true
  | _=>false
theorem WI.sound {P:Program} (hmx:P.follows .mixedOrders=true) {n m:Nat} {ro:Option Nat} {D:List Deferred} {c:Code}:∀ {Q:Exit->Env->ABj->Prop} {Q':Exit->Act->World->Prop} {e:Env} {a:Act} {w:World},okI n c=true->AM1 D n e a->WI P c Q e w.heap->
    (∀ x e' a' w',AM1 D n e' a'->Same w w'->Q x e' w'.heap->Q' x a' w')->c.wpIn (FR ro) m P Q' a w:=by
 induction c with
 | skip=>intro Q Q' e a w _ r H hQ;exact wpIn_skip (hQ _ _ _ _ r (.refl w) H)
 | region id ops draw=>
   intro Q Q' e a w hok r H hQ
   simp only [okI,Bool.and_eq_true] at hok
   obtain ⟨B,H⟩:=H
   exact AWc hmx hok.1 (fun j o hj=>List.all_eq_true.1 hok.2 o (List.mem_of_getElem? (by simpa using hj))) r H fun e' a' w' r' s k=>hQ _ _ _ _ r' s k
 | seq x y ihx ihy=>
   intro Q Q' e a w hok r H hQ
   simp only [okI,Bool.and_eq_true] at hok
   refine wpIn_seq (ihx hok.1 r H fun ex e' a' w' r' s k=>?_)
   cases ex <;> first | exact hQ _ _ _ _ r' s k | exact ihy hok.2 r' k fun Ae e2 a2 w2 r2 s2 k2=>hQ _ _ _ _ r2 (s.trans s2) k2
 | cond c x y ihx ihy=>
   intro Q Q' e a w hok r H hQ
   simp only [okI,Bool.and_eq_true] at hok
   obtain ⟨b,hb,h1,h2⟩:=H
   refine wpIn_cond_split (t:=b) (by rw [r.eval];exact hb) (fun hh=>ihx hok.1 r (h1 hh) hQ) (fun hh=>ihy hok.2 r (h2 hh) hQ)
 | block id c ih=>
   intro Q Q' e a w hok r H hQ
   refine wpIn_block (ih hok r H fun ex e' a' w' r' s k=>?_)
   cases ex <;> first | exact hQ _ _ _ _ r' s k | skip
   rename_i id'
   by_cases hid:id'=id
   · simp only [ALc,Exit.inBlock,hid,if_true] at k ⊢;exact hQ _ _ _ _ r' s k
   · simp only [ALc,Exit.inBlock,hid,if_false] at k ⊢;exact hQ _ _ _ _ r' s k
 | exit id=>intro Q Q' e a w _ r H hQ;exact wpIn_exit (hQ _ _ _ _ r (.refl w) H)
 | ret=>intro Q Q' e a w _ r H hQ;exact wpIn_ret (hQ _ _ _ _ r (.refl w) H)
 | label=>intro Q Q' e a w _ r H hQ;exact wpIn_label (hQ _ _ _ _ r (.refl w) H)
 | loop=>intro Q Q' e a w _ _ H;exact H.elim
 | rangeFunc=>intro Q Q' e a w _ _ H;exact H.elim
 | scope=>intro Q Q' e a w _ _ H;exact H.elim
 | goto=>intro Q Q' e a w _ _ H;exact H.elim
 | refuse=>intro Q Q' e a w _ _ H;exact H.elim
section
variable {P:Program} {Q:Exit->Env->ABj->Prop} {e:Env} {h:ABj}
theorem Awt (H:Q .normal e h):WI P .skip Q e h:=H
theorem Ax3 (H:Q .ret e h):WI P .ret Q e h:=H
theorem Au1 {a b:Code} (H:WI P a (AK2 (fun e h=>WI P b Q e h) Q) e h):WI P (.seq a b) Q e h:=H
theorem Ato {id:Nat} {c:Code} (H:WI P c (ALc id Q) e h):WI P (.block id c) Q e h:=H
theorem Aqk {id:Nat} {l:List Oper} (H:RL P (fun _=>True) false l.toArray l e h (Q .normal)):WI P (.region id l.toArray false) Q e h:=⟨fun _=>True,H⟩
theorem Atp {id:Nat} {l:List Oper} (B:ABj->Prop) (hst:(AMu l.toArray true,AYt l.toArray true)=(true,true)) (H:RL P B true l.toArray l e h (Q .normal)):WI P (.region id l.toArray true) Q e h:=
  ⟨B,by rw [(Prod.mk.inj hst).1];exact H⟩
end
def Acf (K:Env->ABj->Prop):Exit->Env->ABj->Prop
  | .normal=>K
  | _=>fun _ _=>False
def ASs (P:Program) (l:Nat) (args:List Value) (h:ABj) (K:Value->ABj->Prop):Prop:=
  ∀ w:World,w.heap=h-> ∃ f tmps assign body,(Instr.yield l args.toArray).run P w= .ok (.round l f tmps assign body) w/\RoundIn (FR none) 0 P l f tmps assign body w fun en w'=> ∃ v,en= .returned v/\Same w w'/\K v w'.heap
def AM9 (f:FuncId) (tmps:Array Value) (p:Tmp) (assign body:Code) (r:Nat):Loop:= { state:= .ready,pending:=none,fn:=f,tmps,params:= #[p],assign,body,defers:=r }
def Akx (f:FuncId) (tmps:Array Value) (p:Tmp) (assign body:Code) (r:Nat):Loop:= { state:= .busy,pending:=none,fn:=f,tmps,params:= #[p],assign,body,defers:=r }
theorem AWd (w:World) (l:Nat) (o:Obj):Same w (w.putObj l o):=⟨rfl,rfl,rfl⟩
theorem Amt {P:Program} (hmx:P.follows .mixedOrders=true) {l n r f:Nat} {tmps:Array Value} {p:Tmp} {assign body:Code} {v:Value} {e0:Env} {h:ABj} {K:Value->ABj->Prop} (hl:h[l]? =some (.loop (AM9 f tmps p assign body r))) (hn:tmps.size=n) (he:∀ t,tmps.getD t undef=e0 t) (hp:p < n) (Ag:okI n assign=true) (Ah:okI n body=true) (H:WI P assign (Acf fun e1 h1=>h1[l]? =some (.loop (AM9 f tmps p assign body r))/\WI P body (Acf fun _ h2=>h2[l]? =some (.loop (Akx f tmps p assign body r))/\K (.bool true) (h2.setIfInBounds l (.loop (AM9 f tmps p assign body r)))) e1
      (h1.setIfInBounds l (.loop (Akx f tmps p assign body r)))) (e0.set p v) h):ASs P l [v] h K:=by
 intro w hw;subst hw;refine ⟨_,_,_,_,run_yield hl rfl,roundIn_of_wpIn trivial ?_⟩;have hrep:Rep n e0 { tmps:=tmps,defers:=[] } :=⟨hn,rfl,he⟩;have Ai:AM1 [] n (e0.set p v) { tmps:=tmps.setIfInBounds p v,defers:=[] } :=AM1.of (hrep.put (some p) v fun x hx=>by cases hx;exact hp);have htm:(((AM9 f tmps p assign body r).params.zip #[v]).foldl (fun tmps (x:Tmp × Value)=>match x with | (t,a)=>tmps.setIfInBounds t a) (AM9 f tmps p assign body r).tmps)=tmps.setIfInBounds p v:=by simp [AM9]
 have hz:([v]:List Value).toArray= #[v]:=rfl;rw [hz,htm];refine WI.sound (ro:=some l) hmx Ag Ai H fun x e1 a1 w1 r1 s1 k1=>?_;cases x <;> first | exact k1.elim | skip
 obtain ⟨k1,k2⟩:=k1;refine ⟨_,run_beginRound k1 rfl,?_⟩;refine WI.sound (ro:=some l) hmx Ah r1 (w:=w1.putObj l (.loop (Akx f tmps p assign body r))) k2 fun x e2 a2 w2 r2 s2 k2=>?_;cases x <;> first | exact k2.elim | skip
 obtain ⟨k2,k3⟩:=k2;exact ⟨_,_,run_endRound none k2,.bool true,rfl,(s1.trans (AWd _ _ _)).trans (s2.trans (AWd _ _ _)),k3⟩
theorem RL.frameT {P:Program} {B:ABj->Prop} {st:Bool} {ops:Array Oper} {l:List Oper} {e e0:Env} {h:ABj} {K:Env->ABj->Prop} {T:Nat->Prop} (hl:∀ o∈l,∀ t,o.dst=some t->T t) (he:∀ t,¬ T t->e t=e0 t) (H:RL P B st ops l e h K):RL P B st ops l e h fun e' h'=>K e' h'/\ ∀ t,¬ T t->e' t=e0 t:=
  (RL.frame0 H).mono fun e' h' hk=>⟨hk.1,fun t ht=>(hk.2 t fun o ho hd=>ht (hl o ho t hd)).trans (he t ht)⟩
theorem Atq {P:Program} {Q:Exit->Env->ABj->Prop} {e:Env} {h:ABj} {id l:Nat} {pre post:List Oper} {d:Tmp} {c:Operand} {xs:List Operand} {ts:Array TypeId} {ty:TypeId} {pos:String} {af:Array Edge}
    (hnd:((pre ++ post).all AQu && (pre ++ ⟨some d,.call ⟨.value c,xs.toArray,ts⟩,ty,pos,af,none⟩ :: post).all AHt)=true)
    (H:RL P (fun _=>True) false (pre ++ ⟨some d,.call ⟨.value c,xs.toArray,ts⟩,ty,pos,af,none⟩ :: post).toArray pre e h fun e1 h1=>e1.ev c= .func (.yield l) #[] #[]/\ ∃ l1,xs.map e1.ev=l1/\ASs P l l1 h1 fun v h2=>
      RL P (fun _=>True) false (pre ++ ⟨some d,.call ⟨.value c,xs.toArray,ts⟩,ty,pos,af,none⟩ :: post).toArray post (e1.set d v) h2 (Q .normal)):
    W P (.region id (pre ++ ⟨some d,.call ⟨.value c,xs.toArray,ts⟩,ty,pos,af,none⟩ :: post).toArray false) Q e h:=by
  intro hmx n id' a w Q' hb r hw hQ;subst hw;rw [<- wpIn_wide (n:=1)];show (Code.region id' _ false).wpIn (FR none) 1 P Q' a w;generalize hops:(pre ++ (⟨some d,.call ⟨.value c,xs.toArray,ts⟩,ty,pos,af,none⟩:Oper) :: post)=ops at *
  have hat:∀ (j:Nat) (o:Oper),ops[j]? =some o->(∀ x,o.dst=some x->x < n):=fun j o hj=>(AM3 (ops:=ops.toArray) hb (j:=j) (by simpa using hj)).1
  have hsz:List.range ops.toArray.size=List.range' 0 pre.length ++ pre.length :: (List.range' (pre.length + 1) post.length ++ []):=by
    rw [List.range_eq_range',<- hops];simp only [List.size_toArray,List.length_append,List.length_cons,List.append_nil];rw [<- List.range'_append_1,Nat.zero_add,List.range'_succ]
  rw [Bool.and_eq_true] at hnd;have hnd:=List.all_eq_true.1 hnd.1;refine wpIn_region ?_;rw [hsz]
  refine ATx (D:=[]) (n:=n) (B:=fun _=>True) _ pre 0 e a w _ (fun j o hj=>?_) (AM1.of r) (RL.frameT (T:=fun t=> ∃ o∈ops,o.dst=some t) (e0:=e) (fun o ho t ht=>⟨o,by rw [<- hops];simp [ho],ht⟩) (fun _ _=>rfl) H) fun e1 a1 w1 r1 s1 k1=>?_
  · have h1:ops[j]? =some o:=by rw [<- hops,List.getElem?_append_left (List.getElem?_eq_some_iff.1 hj).1];exact hj
    exact ⟨by simpa using h1,hnd o (List.mem_append_left _ (List.mem_of_getElem? hj)),hat j o h1⟩
  obtain ⟨⟨hc,l1,hl1,HY⟩,hf1⟩:=k1;rw [wpOpsIn_cons];have hop:ops.toArray[pre.length]? =some ⟨some d,.call ⟨.value c,xs.toArray,ts⟩,ty,pos,af,none⟩:=by rw [<- hops];simp
  unfold wpOpIn;simp only [hop];rw [if_pos (by rfl)];refine ⟨fun _ _=>trivial,?_⟩;obtain ⟨f,tmps,assign,body,hy,HR⟩:=HY w1 rfl
  have hrun:(execOp a1.eval ⟨some d,.call ⟨.value c,xs.toArray,ts⟩,ty,pos,af,none⟩).run P w1= .ok (.round l f tmps assign body) w1:=by
    rw [r1.eval];simp only [execOp,resolve,List.map_toArray,hl1,hc,Deferred.ofValue,pure,bind,Sem.bind,invoke,Array.append_empty,Array.empty_append];exact hy
  show Oper.uponIn _ _ _ _ _ _ _ ((execOp a1.eval ⟨some d,.call ⟨.value c,xs.toArray,ts⟩,ty,pos,af,none⟩).run P w1);rw [hrun];refine ⟨fun _=>Nat.le_refl 1,HR.mono fun en w2 hen=>?_⟩;obtain ⟨v,rfl,s2,k2⟩:=hen;have hdn:d < n:=hat pre.length _ (by simpa using hop) d rfl;have r2:AM1 [] n (e1.set d v) (a1.put (some d) v):=r1.put (some d) v fun x hx=>by cases hx;exact hdn
  refine ATx (D:=[]) (n:=n) (B:=fun _=>True) [] post (pre.length + 1) (e1.set d v) _ w2 _ (fun j o hj=>?_) r2 (RL.frameT (T:=fun t=> ∃ o∈ops,o.dst=some t) (e0:=e) (fun o ho t ht=>⟨o,by rw [<- hops];simp [ho],ht⟩) (fun t ht=>?_) k2) fun e3 a3 w3 r3 s3 k3=>?_
  · have h1:ops[pre.length + 1 + j]? =some o:=by rw [<- hops,List.getElem?_append_right (by omega),show pre.length + 1 + j - pre.length=j + 1 from by omega];exact hj
    exact ⟨by simpa using h1,hnd o (List.mem_append_right _ (List.mem_of_getElem? hj)),hat _ o h1⟩
  · rw [Env.set_other _ _ (fun he=>ht ⟨_,by rw [<- hops];exact List.mem_append_right _ (List.mem_cons_self ..),by rw [he]⟩)];exact hf1 t ht
  · exact hQ e3 a3 w3 r3.rep ((s1.trans s2).trans s3) k3.1 fun t ht=>k3.2 t fun ⟨o,ho,hd⟩=>ht o (by simpa using ho) hd
def Aiv (P:Program) (g:Operand) (p:Tmp) (assign body:Code) (n:Nat) (K:Nat->Env->ABj->Prop) (e:Env) (h:ABj):Prop:=
  ∃ (f:FuncId) (cl:List Value),e.ev g= .func (.func f) #[] cl.toArray/\ ∀ (fn:FuncId) (tmps:Array Value),tmps.size=n->(∀ t,tmps.getD t undef=e t)-> ∀ (h1:ABj) (r b:Nat),Ext h h1->h.size<=r->h.size<=b->r < h1.size->b < h1.size->r≠b->
    h1[r]? =some (.deferred (some []))->h1[b]? =some (.loop (AM9 fn tmps p assign body r))->
    ACa P f (.func (.yield b) #[] #[] :: cl).toArray h1 fun _ h'=>h'[b]? =some (.loop (AM9 fn tmps p assign body r))/\K r e (h'.setIfInBounds b (.loop { AM9 fn tmps p assign body r with state:= .exhausted }))
def Ax4 (P:Program) (rs:List ResultVar) (r:Nat) (K:Value->ABj->Prop):Exit->Env->ABj->Prop
  | .normal,e,h | .ret,e,h=>h[r]? =some (.deferred (some []))/\ ∃ v,AX2 P rs e (h.setIfInBounds r (.deferred none)) v/\K v (h.setIfInBounds r (.deferred none))
  | _,_,_=>False
theorem Ago {P:Program} (hmx:P.follows .mixedOrders=true) {id:Nat} {g:Operand} {p:Tmp} {assign body:Code} {n:Nat} {K:Nat->Env->ABj->Prop} {e1:Env} {a1:Act} {w1:World} {Q':Exit->Act->World->Prop} (r1:Rep n e1 a1) (H:Aiv P g p assign body n K e1 w1.heap) (hQ:∀ r e' a' w',AM1 [{ target:= .collected r,args:= #[] }] n e' a'->Same w1 w'->K r e' w'.heap->Q' .normal a' w'):(Code.block id (.rangeFunc g #[p] assign body)).wpIn Fence.wide 1 P Q' a1 w1:=by
 obtain ⟨f2,cl,hg,HC⟩:=H;refine wpIn_block (wpIn_rangeFunc fun fid _=>?_);have Af:(w1.alloc (.deferred (some []))).heap.size=w1.heap.size + 1:=by show (w1.heap.push _).size=_;simp
 have hext:Ext w1.heap ((w1.alloc (.deferred (some []))).alloc (.loop (AM9 fid a1.tmps p assign body w1.heap.size))).heap:=by
   show Ext w1.heap ((w1.heap.push _).push _)
   refine ⟨by simp;omega,fun k hk=>?_⟩
   rw [Array.getElem?_push_lt (by simp;omega)]
   simp [Array.getElem_push_lt hk,hk]
 have h1:((w1.alloc (.deferred (some []))).alloc (.loop (AM9 fid a1.tmps p assign body w1.heap.size))).heap[w1.heap.size]? =some (.deferred (some [])):=by
   show ((w1.heap.push _).push _)[w1.heap.size]? =_
   rw [Array.getElem?_push_lt (by simp)];simp
 have h2:((w1.alloc (.deferred (some []))).alloc (.loop (AM9 fid a1.tmps p assign body w1.heap.size))).heap[w1.heap.size + 1]? =some (.loop (AM9 fid a1.tmps p assign body w1.heap.size)):=by
   have:=World.alloc_heap_new (w1.alloc (.deferred (some []))) (.loop (AM9 fid a1.tmps p assign body w1.heap.size))
   rwa [Af] at this
 have hsz:((w1.alloc (.deferred (some []))).alloc (.loop (AM9 fid a1.tmps p assign body w1.heap.size))).heap.size=w1.heap.size + 2:=by show ((w1.heap.push _).push _).size=_;simp
 obtain ⟨⟨Ai,Aj,Ak,Am⟩,Ao⟩:=HC fid a1.tmps r1.size r1.get _ w1.heap.size (w1.heap.size + 1) hext (Nat.le_refl _) (Nat.le_succ _) (by omega) (by omega) (by omega) h1 h2;have hcall:=AR4 ⟨Ai,Aj,Ak,Am⟩ (.func (.yield (w1.heap.size + 1)) #[] #[] :: cl).toArray ((w1.alloc (.deferred (some []))).alloc (.loop (AM9 fid a1.tmps p assign body w1.heap.size)));have heval:a1.eval g= .func (.func f2) #[] cl.toArray:=by rw [r1.eval];exact hg
 refine ⟨_,_,_,{ target:= .fn (.func f2) cl.toArray,args:= #[.func (.yield (w1.heap.size + 1)) #[] #[]] },(w1.alloc (.deferred (some []))).alloc (.loop (AM9 fid a1.tmps p assign body w1.heap.size)),f2,(.func (.yield (w1.heap.size + 1)) #[] #[] :: cl).toArray,(w1.alloc (.deferred (some []))).alloc (.loop (AM9 fid a1.tmps p assign body w1.heap.size)),run_enterLoop_outer fid a1.tmps #[p] assign body,?_,fun _ _=>trivial,?_,fun _=>Nat.le_refl 1,?_⟩
 ·simp only [resolve,heval,Deferred.ofValue,pure,bind,Sem.bind];rw [show (#[] ++ Array.map a1.eval #[Operand.const (Value.func (Fn.yield (w1.heap.size + 1)) #[] #[])]:Array Value)= #[.func (.yield (w1.heap.size + 1)) #[] #[]] by simp;rfl];rfl
 ·show (invoke (.fn (.func f2) cl.toArray) #[.func (.yield (w1.heap.size + 1)) #[] #[]]).run P _=_;simp only [invoke];have:(#[Value.func (.yield (w1.heap.size + 1)) #[] #[]] ++ cl.toArray)=(.func (.yield (w1.heap.size + 1)) #[] #[] :: cl).toArray:=by simp
  rw [this];exact hcall
 ·refine (Akw (r:=none) (Ao _ rfl)).mono fun en w2 hen=>?_;obtain ⟨v,rfl,s2,k2,k3⟩:=hen;refine ⟨none,_,run_endLoop k2 (by simp [AM9]),?_⟩;have Ar:Same w1 ((w1.alloc (.deferred (some []))).alloc (.loop (AM9 fid a1.tmps p assign body w1.heap.size))):=⟨rfl,rfl,rfl⟩;have Au:AM1 [{ target:= .collected w1.heap.size,args:= #[] }] n e1 { a1 with defers:=[{ target:= .collected w1.heap.size,args:= #[] }] ++ a1.defers } :=⟨⟨r1.size,rfl,r1.get⟩,by simp [r1.defers]⟩;exact hQ w1.heap.size e1 _ _ Au (Ar.trans (s2.trans (AWd _ _ _))) k3
theorem Amu {P:Program} (hmx:P.follows .mixedOrders=true) {g:Operand} {p:Tmp} {assign body:Code} {n:Nat} {K:Nat->Env->ABj->Prop} {e:Env} {h:ABj} (hok:(okI n assign && okI n body && Nat.blt p n)=true)
    (H:∃ (f:FuncId) (cl:List Value),e.ev g= .func (.func f) #[] cl.toArray/\ ∀ (h1:ABj) (r b:Nat) (ol ob oe:Obj),Ext h h1->h.size<=r->h.size<=b->r < h1.size->b < h1.size->r≠b->h1[r]? =some (.deferred (some []))->h1[b]? =some ol->Ac5 ol=false->Ac5 ob=false->Ac5 oe=false->
      (∀ (v:Value) (h2:ABj) (K':Value->ABj->Prop),h2[b]? =some ol->WI P assign (Acf fun e1 h3=>h3[b]? =some ol/\WI P body (Acf fun _ h4=>h4[b]? =some ob/\K' (.bool true) (h4.setIfInBounds b ol)) e1 (h3.setIfInBounds b ob)) (e.set p v) h2->ASs P b [v] h2 K')->
      ACa P f (.func (.yield b) #[] #[] :: cl).toArray h1 fun _ h'=>h'[b]? =some ol/\K r e (h'.setIfInBounds b oe)):Aiv P g p assign body n K e h:=by
  obtain ⟨f,cl,hg,H⟩:=H;simp only [Bool.and_eq_true] at hok;refine ⟨f,cl,hg,fun fn tmps hn ht h1 r b hE h2 h3 h4 h5 hne hd hl=>?_⟩;exact H h1 r b _ (.loop (Akx fn tmps p assign body r)) _ hE h2 h3 h4 h5 hne hd hl rfl rfl rfl fun v h2 K' hl2 HW=>Amt hmx hl2 hn ht (by have:=hok.2;simpa [Nat.blt,Nat.lt_iff_add_one_le] using this) hok.1.1 hok.1.2 HW
def Agp:Code->Bool
  | .rangeFunc .. =>true
  | .seq a b=>Agp a || Agp b
  | .block _ c=>Agp c
  | _=>false
def WR (P:Program) (n:Nat):Code->(Nat->Exit->Env->ABj->Prop)->(Exit->Env->ABj->Prop)->Env->ABj->Prop
  | .seq a b,N,Q,e,h=>if Agp a=true then WR P n a (fun r=>AK2 (fun e h=>WI P b (N r) e h) (N r)) (AK2 (fun e h=>W P b Q e h) Q) e h else W P a (AK2 (fun e h=>WR P n b N Q e h) Q) e h
  | .block _ (.rangeFunc g ps assign body),N,_,e,h=> ∃ p,ps= #[p]/\Aiv P g p assign body n (fun r e h=>N r .normal e h) e h
  | _,_,_,_,_=>False
def okR (n:Nat):Code->Bool
  | .seq a b=>bif Agp a then okR n a && okI n b && okC n b else okC n a && okR n b
  | .block _ (.rangeFunc ..)=>true
  | _=>false
theorem Awu {P:Program} {n:Nat} {a b:Code} {N:Nat->Exit->Env->ABj->Prop} {Q:Exit->Env->ABj->Prop} {e:Env} {h:ABj} (ha:Agp a=true) (H:WR P n a (fun r=>AK2 (fun e h=>WI P b (N r) e h) (N r)) (AK2 (fun e h=>W P b Q e h) Q) e h):WR P n (.seq a b) N Q e h:=by
 unfold WR;rw [if_pos ha];exact H
theorem Aaj {P:Program} {n:Nat} {a b:Code} {N:Nat->Exit->Env->ABj->Prop} {Q:Exit->Env->ABj->Prop} {e:Env} {h:ABj} (ha:Agp a=false) (H:W P a (AK2 (fun e h=>WR P n b N Q e h) Q) e h):WR P n (.seq a b) N Q e h:=by
 unfold WR;rw [if_neg (by rw [ha];simp)];exact H
theorem Atr {P:Program} (hmx:P.follows .mixedOrders=true) {n id:Nat} {g:Operand} {p:Tmp} {assign body:Code} {N:Nat->Exit->Env->ABj->Prop} {Q:Exit->Env->ABj->Prop} {e:Env} {h:ABj} (hok:(okI n assign && okI n body && Nat.blt p n)=true) (H:∃ (f:FuncId) (cl:List Value),e.ev g= .func (.func f) #[] cl.toArray/\ ∀ (h1:ABj) (r b:Nat) (ol ob oe:Obj),Ext h h1->h.size<=r->h.size<=b->r < h1.size->b < h1.size->r≠b->h1[r]? =some (.deferred (some []))->h1[b]? =some ol->Ac5 ol=false->Ac5 ob=false->Ac5 oe=false->
      (∀ (v:Value) (h2:ABj) (K':Value->ABj->Prop),h2[b]? =some ol->WI P assign (Acf fun e1 h3=>h3[b]? =some ol/\WI P body (Acf fun _ h4=>h4[b]? =some ob/\K' (.bool true) (h4.setIfInBounds b ol)) e1 (h3.setIfInBounds b ob)) (e.set p v) h2->ASs P b [v] h2 K')->
      ACa P f (.func (.yield b) #[] #[] :: cl).toArray h1 fun _ h'=>h'[b]? =some ol/\N r .normal e (h'.setIfInBounds b oe)):WR P n (.block id (.rangeFunc g #[p] assign body)) N Q e h:=⟨p,rfl,Amu hmx hok H⟩
theorem WR.sound {P:Program} (hmx:P.follows .mixedOrders=true) {n:Nat} {c:Code}:∀ {N:Nat->Exit->Env->ABj->Prop} {Q:Exit->Env->ABj->Prop} {Q':Exit->Act->World->Prop} {e:Env} {a:Act} {w:World},okR n c=true->Rep n e a->WR P n c N Q e w.heap->
    (∀ x e' a' w',Rep n e' a'->Same w w'->Q x e' w'.heap->Q' x a' w')->(∀ r x e' a' w',AM1 [{ target:= .collected r,args:= #[] }] n e' a'->Same w w'->N r x e' w'.heap->Q' x a' w')->c.wpIn Fence.wide 1 P Q' a w:=by
 induction c with
 | seq x y ihx ihy=>
   intro N Q Q' e a w hok r H hQ hN
   unfold WR at H
   unfold okR at hok
   by_cases hx:Agp x=true
   · rw [if_pos hx] at H
     rw [hx] at hok
     simp only [cond_true,Bool.and_eq_true] at hok
     refine wpIn_seq (ihx hok.1.1 r H (fun ex e' a' w' r' s k=>?_) fun rr ex e' a' w' r' s k=>?_)
     · cases ex <;> first | exact hQ _ _ _ _ r' s k | exact wpIn_wide.2 (W.sound hmx hok.2 r' k fun Ac e2 a2 w2 r2 s2 k2=>hQ _ _ _ _ r2 (s.trans s2) k2)
     · cases ex <;> first | exact hN _ _ _ _ _ r' s k | exact WI.sound (ro:=none) hmx hok.1.2 r' k fun Ac e2 a2 w2 r2 s2 k2=>hN _ _ _ _ _ r2 (s.trans s2) k2
   · rw [if_neg hx] at H
     rw [Bool.not_eq_true] at hx
     rw [hx] at hok
     simp only [cond_false,Bool.and_eq_true] at hok
     refine wpIn_seq (wpIn_wide.2 (W.sound hmx hok.1 r H fun ex e' a' w' r' s k=>?_))
     cases ex <;> first | exact hQ _ _ _ _ r' s k | exact ihy hok.2 r' k (fun Ac e2 a2 w2 r2 s2 k2=>hQ _ _ _ _ r2 (s.trans s2) k2) fun rr Ac e2 a2 w2 r2 s2 k2=>hN _ _ _ _ _ r2 (s.trans s2) k2
 | block id c ih=>
   intro N Q Q' e a w hok r H hQ hN
   cases c <;> first | exact H.elim | skip
   obtain ⟨p,rfl,H⟩:=H
   exact Ago hmx r H fun rr e' a' w' r' s k=>hN _ _ _ _ _ r' s k
 | skip=>intro N Q Q' e a w _ _ H;exact H.elim
 | region=>intro N Q Q' e a w _ _ H;exact H.elim
 | cond=>intro N Q Q' e a w _ _ H;exact H.elim
 | loop=>intro N Q Q' e a w _ _ H;exact H.elim
 | exit=>intro N Q Q' e a w _ _ H;exact H.elim
 | ret=>intro N Q Q' e a w _ _ H;exact H.elim
 | rangeFunc=>intro N Q Q' e a w _ _ H;exact H.elim
 | scope=>intro N Q Q' e a w _ _ H;exact H.elim
 | label=>intro N Q Q' e a w _ _ H;exact H.elim
 | goto=>intro N Q Q' e a w _ _ H;exact H.elim
 | refuse=>intro N Q Q' e a w _ _ H;exact H.elim
theorem Agq {P:Program} (hmx:P.follows .mixedOrders=true) {f:FuncId} {fn:Func} {c:Code} {rs:List ResultVar} {n:Nat} {l:List Value} {h:ABj} {K:Value->ABj->Prop} (hf:P.funcs[f]? =some fn) (hnm:(fn.name == "runtime.NumGoroutine")=false) (hb:fn.body=some c) (hr:fn.results=rs.toArray) (hnt:fn.ntmps=n) (hl:Nat.ble l.length n=true) (hok:okR n c=true) (H:WR P n c (fun r=>Ax4 P rs r K) (Arn P rs K) (Aax l) h):ACa P f l.toArray h K:=by
 refine ⟨⟨fn,hf,hnm,by simp [hb]⟩,fun w hw=>?_⟩;subst hw;have hl:=Nat.le_of_ble_eq_true hl;rw [<- callsIn_wide (n:=1)];have hres:∀ {e':Env} {a':Act} {w2:World} {D:List Deferred} {v:Value},AM1 D n e' a'->AX2 P rs e' w2.heap v->(results fn a'.tmps).run P w2= .ok v w2:=fun r hv=>hv fn _ _ hr r.r.get rfl;refine callsIn_of_wp_marks hf hb trivial (WR.sound hmx (n:=n) hok (e:=Aax l) ⟨?_,rfl,fun t=>?_⟩ H (fun x e1 a1 w1 r1 s1 k1=>?_) fun r x e3 a3 w3 r3 s3 k3=>?_)
 ·simp [hnt];omega
 ·rw [AYv];simp only [Array.getD_eq_getD_getElem?];rw [Array.getElem?_append];split
  ·simp
  ·rename_i hge;have hge':l.length<=t:=by simpa using hge
   rw [List.getElem?_eq_none hge'];simp only [Option.getD_none];rw [Array.getElem?_replicate];split <;> rfl
 ·have early:∀ {v:Value},AX2 P rs e1 w1.heap v->K v w1.heap->LeavesInM Fence.wide 1 P fn a1.tmps (fun en w'=> ∃ v,en= .returned v/\Same w w'/\K v w'.heap) a1.defers .returning w1:=by
    intro v hv hk
    rw [r1.defers]
    exact ⟨v,hres (AM1.of r1) hv,v,rfl,s1,hk⟩
  cases x <;> first | exact k1.elim | (obtain ⟨v,hv,hk⟩:=k1;exact early hv hk)
 ·have fin:(w3.heap[r]? =some (.deferred (some []))/\ ∃ v,AX2 P rs e3 (w3.heap.setIfInBounds r (.deferred none)) v/\K v (w3.heap.setIfInBounds r (.deferred none)))->LeavesInM Fence.wide 1 P fn a3.tmps (fun en w'=> ∃ v,en= .returned v/\Same w w'/\K v w'.heap) a3.defers .returning w3:=by
    rintro ⟨hd,v,hv,hk⟩
    rw [r3.d]
    refine ⟨by simp,.inl ⟨r,w3.putObj r (.deferred none),rfl,run_takeDeferred hd,?_⟩⟩
    exact ⟨v,hres (w2:=w3.putObj r (.deferred none)) r3 hv,v,rfl,s3.trans (AWd _ _ _),hk⟩
  cases x <;> first | exact k3.elim | exact fin k3
end Go.QF
namespace Go.QF
open Go
theorem Awv {P:Program} {B:ABj->Prop} {st:Bool} {ops:Array Oper} {rest:List Oper} {e:Env} {h:ABj} {K:Env->ABj->Prop} {d:Nat} {ty:TypeId} {pos:String} {af:Array Edge} {t el s:Nat} (hT:SlT P t el s) (hb:B h)
    (H:B (h.push (.cells #[] el (0,0)))/\RL P B st ops rest (e.set d (.slice (some ⟨h.size,0,none⟩) 0 0)) (h.push (.cells #[] el (0,0))) K):
    RL P B st ops (⟨some d,.buildSlice t 0 #[],ty,pos,af,none⟩ :: rest) e h K:=by
  refine APa rfl rfl hb fun w hw=>?_;subst hw;obtain ⟨hu,i0,hi0,hs0⟩:=hT
  have hrun:(execOp e.ev ⟨some d,.buildSlice t 0 #[],ty,pos,af,none⟩).run P w= .ok (.value (.slice (some ⟨w.heap.size,0,none⟩) 0 0)) (w.alloc (.cells #[] el)):=by
    simp [execOp,Instr.buildSlice,AM4 hu,APv hi0,Instr.fill,newRow];rw [show Array.range 0= #[] from rfl,Array.map_empty]
  rw [hrun];exact ⟨⟨rfl,rfl,rfl⟩,H.1,H.2⟩
theorem Ats {h:ABj} {κ:IntKind} {a:Option Addr} {n c:Nat} {L:List Int} (H:SlC (cI κ) h (.slice a n c) L) (hn:a=none):L=[]:=by
 subst hn;obtain ⟨Ls,⟨xa,xc,hv,hx⟩,hA⟩:=H;injection hv with h1 h2 h3
 cases Ls with
 | nil=>exact List.eq_nil_of_length_eq_zero hA.1.symm
 | cons r Ls=>
   obtain ⟨b,o,hb,_⟩:=hx 0 r rfl
   rw [<- h1] at hb;cases hb
theorem Att {h:ABj} {κ:IntKind} {a:Option Addr} {n c:Nat} (H:SlC (cI κ) h (.slice a n c) []):n=0:=by
 obtain ⟨Ls,⟨xa,xc,hv,hx⟩,hA⟩:=H;injection hv with h1 h2 h3;rw [h2];exact hA.1
theorem Atu (h:ABj):Sp h h.size [[]]:=⟨by simp,fun b hb=>by simp at hb⟩
theorem Atv {P:Program} {B:ABj->Prop} {st:Bool} {ops:Array Oper} {rest:List Oper} {e:Env} {h:ABj} {K:Env->ABj->Prop} {d:Nat} {ty:TypeId} {pos:String} {af:Array Edge} {s x:Operand} {t el:TypeId} {g n c:Nat} {xa:Option Addr} (hT:SlT P t el 1) (hb:B h) (hs:e.ev s= .slice (some ⟨g,0,none⟩) 0 0) (hx:e.ev x= .slice xa n c) (hn:n=0)
    (H:RL P B st ops rest (e.set d (.slice (some ⟨g,0,none⟩) 0 0)) h K):RL P B st ops (⟨some d,.call ⟨.builtin .append,#[s,x],#[t,t]⟩,ty,pos,af,none⟩ :: rest) e h K:=by
  subst hn;refine APa rfl rfl hb fun w hw=>?_;subst hw;obtain ⟨hu,i,hi,hs0⟩:=hT
  have hc:(Builtin.firstCells i.size 0 (.slice xa 0 c)).run P w= .ok #[] w:=by
    cases xa with
    | none=>exact run_firstCells_none (P:=P) w _ 0 0 c
    | some a=>exact run_firstCells_some (P:=P) w i.size 0 a 0 c [] (by simp) (fun j v hj=>by simp at hj)
  have hrun:(execOp e.ev ⟨some d,.call ⟨.builtin .append,#[s,x],#[t,t]⟩,ty,pos,af,none⟩).run P w= .ok (.value (.slice (some ⟨g,0,none⟩) 0 0)) w:=by
    simp [execOp,resolve,invoke,builtin,hs,hx,Builtin.append_,AM4 hu,APv hi,Builtin.lenOf,hc,storeCells,Result.andThen]
  rw [hrun];exact ⟨⟨rfl,rfl,rfl⟩,hb,H⟩
theorem Aql {P:Program} {B:ABj->Prop} {st:Bool} {ops:Array Oper} {rest:List Oper} {e:Env} {h:ABj} {K:Env->ABj->Prop} {d:Nat} {ty:TypeId} {pos:String} {af:Array Edge} {x y:Operand} {t t2 el:TypeId} {s:Nat} {a:Option Addr} {n c:Nat} (hT:SlT P t el s) (hx:e.ev x= .slice a n c) (hy:e.ev y= .slice none 0 0) (H:RL P B st ops rest (e.set d (.bool a.isNone)) h K):
    RL P B st ops (⟨some d,.binOp .eql t x y t2,ty,pos,af,none⟩ :: rest) e h K:=
  AGg (v:= .bool a.isNone) rfl rfl (fun w=>by
    have hr:(Op.equal t (.slice a n c) (.slice none 0 0)).run P w= .ok a.isNone w:=by
      show (Op.equalIn (9999 + 1) t _ _).run P w=_;rw [Op.equalIn];cases a <;> simp [AM4 hT.1]
    simp [execOp,hx,hy,eqGuard,binOp,hr]) H
theorem Aky {h:ABj} {κ:IntKind} {el g:Nat} {v:Value} {L:List Int} (H:AD7 h el g v (L.map (.int κ))) (hel:Nat.beq el 147=false):OwC (cI κ) el h [g] v L:=by
 refine .inr ⟨g,L.map fun a=>[.int κ a],rfl,?_,⟨by simp,fun i cs a h1 h2=>?_⟩,hel⟩
 ·have:=Ac7 H;rwa [List.map_map] at this
 ·rw [List.getElem?_map,h2] at h1;cases h1;rfl
theorem ASs.mono {P:Program} {l:Nat} {args:List Value} {h:ABj} {K K':Value->ABj->Prop} (H:ASs P l args h K') (hK:∀ v h',K' v h'->K v h'):ASs P l args h K:=fun w hw=>by
  obtain ⟨f,tmps,assign,body,h1,h2⟩:=H w hw
  exact ⟨f,tmps,assign,body,h1,h2.mono fun en w' ⟨v,he,hs,hk⟩=>⟨v,he,hs,hK _ _ hk⟩⟩
theorem Aqm {P:Program} {Q:Exit->Env->ABj->Prop} {e:Env} {h:ABj} {id l:Nat} {o1 o2:Oper} {post:List Oper} {d:Tmp} {c:Operand} {xs:List Operand} {ts:Array TypeId} {ty:TypeId} {pos:String} {af:Array Edge} (hnd:(([o1,o2] ++ post).all AQu && ([o1,o2] ++ ⟨some d,.call ⟨.value c,xs.toArray,ts⟩,ty,pos,af,none⟩ :: post).all AHt)=true) (H:RL P (fun _=>True) false (o1 :: o2 :: ⟨some d,.call ⟨.value c,xs.toArray,ts⟩,ty,pos,af,none⟩ :: post).toArray [o1,o2] e h fun e1 h1=>e1.ev c= .func (.yield l) #[] #[]/\ ∃ l1,xs.map e1.ev=l1/\ASs P l l1 h1 fun v h2=>
      RL P (fun _=>True) false (o1 :: o2 :: ⟨some d,.call ⟨.value c,xs.toArray,ts⟩,ty,pos,af,none⟩ :: post).toArray post (e1.set d v) h2 (Q .normal)):
    W P (.region id (o1 :: o2 :: ⟨some d,.call ⟨.value c,xs.toArray,ts⟩,ty,pos,af,none⟩ :: post).toArray false) Q e h:=Atq (pre:=[o1,o2]) hnd H
end Go.QF
namespace Go.Proofs.YtiegjkmfpcgjjaaGreatDoor
open Go Go.QF
theorem Au2:ZeT Tryz.prog 22 (.slice none 0 0) 24:=ATk (by kernel_rfl)
def aOb (b:Nat) (o:Obj):Asr:=⟨[b],fun h=>h[b]? =some o,fun {G h h'} U d H=>(U.1.2 b (Array.getElem?_eq_some_iff.1 H).1 (d b (by simp))).trans H⟩
namespace Kst
variable {h0 h h':ABj} {l l':List Asr}
theorem ob (k:Kst h0 h l) {i b:Nat} {o:Obj} (e:Rep i l (aOb b o) (aOb b o) l'):h[b]? =some o:=ANf k.p e.1
theorem rg (k:Kst h0 h l) (E:Ext h h') {r b:Nat} {o o2:Obj} (h1:h.size<=r) (h2:h.size<=b) (h3:r < h'.size) (h4:b < h'.size) (hne:r≠b) (H1:h'[r]? =some o) (H2:h'[b]? =some o2):Kst h0 h' (aOb r o :: aOb b o2 :: l):=
  k.n E [aOb r o,aOb b o2] (Ah1 h1 h2 h3 h4 hne) ⟨H1,H2,trivial⟩
theorem uob (k:Kst h0 h l) {i b:Nat} {o o':Obj} (e:Rep i l (aOb b o) (aOb b o') l') (hd:Ac5 o=false) (hd':Ac5 o'=false):∃ h',Array.setIfInBounds h b o'=h'/\UpT [b] h h'/\Kst h0 h' l':=by
 have H:h[b]? =some o:=ANf k.p e.1;have hb:=(Array.getElem?_eq_some_iff.1 H).1;have H':(h.setIfInBounds b o')[b]? =some o':=by simp [hb]
 have U:UpT [b] h (h.setIfInBounds b o'):=⟨⟨by simp,fun k hk hn=>by rw [Array.getElem?_setIfInBounds_ne (fun he=>hn (by simp [he]))]⟩,fun x hx hl=>by
   rw [List.mem_singleton.1 hx];exact ⟨⟨o,H,hd⟩,⟨o',H',hd'⟩⟩⟩
 exact ⟨_,rfl,U,k.u e U H' (by simp [aOb]) (fun x hx=>by simp [aOb] at hx;subst hx;simpa using hb) fun x hx=> .inl hx⟩
end Kst
def AKi (fuel:Nat) (L:List Int):Option (List Int):=if L.length<=100000000 then some L else none
theorem AQv {fuel:Nat} {h:ABj} {v:Value} {L r:List Int} (H:SlC (cI .i64) h v L) (hp:AKi fuel L=some r):ACa Tryz.prog 37 #[v] h (fun x h'=>Ext h h'/\ ∃ (x0:Value) (F0:List Nat),x=x0/\OwC (cI .i64) 2 h' F0 x0 r/\Sp h' h.size [F0]):=by
 unfold AKi at hp;obtain ⟨hl,hp⟩:=ifN hp;cases hp;obtain ⟨a,n,c,hv⟩:∃ a n c,v= .slice a n c:=by obtain ⟨Ls,⟨xa,xc,hv,_⟩,_⟩:=H;exact ⟨_,_,_,hv⟩
 subst hv;refine AC0 (l:=[_]) mx Tryz.func37 rfl rfl rfl rfl rfl (by kernel_rfl) (ABl (ABq (ABn (ABl (Wl (Aql (a:=a) (n:=n) (c:=c) ABx rfl rfl (ABp (⟨_,rfl,fun hc=>?_,fun hc=>?_⟩))))))))
 ·refine ABl (ABq (ABs (AB2 ?_)));have hL:L=[]:=Ats H (by cases a with | none=>rfl | some a=>cases hc);subst hL;exact ⟨_,ABu,Ext.refl _,_,[],rfl,Ac6 _ _ _,Atu _⟩
 ·refine ABt (q_t (ABl (Awv ABx trivial ⟨trivial,?_⟩)));have E0:Ext h (h.push (.cells #[] 2 (0,0))):=AEf _ _;have hO:AD7 (h.push (.cells #[] 2 (0,0))) 2 h.size (.slice (some ⟨h.size,0,none⟩) 0 0) []:=AYy h 2 [] (by simp);by_cases hL:L=[]
  ·subst hL;refine Wl (Atv (xa:=a) (n:=n) (c:=c) ABx trivial rfl rfl (Att H) (ABq (ABs ?_)));exact ⟨_,ABu,E0,_,[h.size],rfl,Aky (κ:= .i64) hO (by kernel_rfl),AGy (Nat.le_refl _) (by simp)⟩
  ·have H2:Sl (h.push (.cells #[] 2 (0,0))) (.slice a n c) (L.map (.int .i64)):=Auv (H.ext E0);refine Wl (Aui (bytes:=8) ABx AHn rfl trivial rfl hO rfl H2 (fun u hu=>by obtain ⟨q,_,rfl⟩:=List.mem_map.1 hu;rfl) (by simpa using hL) (by simp;omega) (by simp;omega) fun v' g' h' HO hg U=>⟨trivial,?_⟩);refine ABq (ABs ?_);have Ae:h.size<=g':=by rcases hg with rfl | rfl <;> simp
   exact ⟨_,ABu,⟨Nat.le_trans E0.1 U.1,fun k hk=>(U.2 k (by simp;omega) (by omega)).trans (E0.2 k hk)⟩,_,[g'],rfl,Aky (κ:= .i64) (v:=v') (by simpa using HO) (by kernel_rfl),AGy Ae HO.lt⟩
end Go.Proofs.YtiegjkmfpcgjjaaGreatDoor
namespace Go.Proofs.YtiegjkmfpcgjjaaGreatDoor
open Go Go.QF
set_option maxRecDepth 100000
theorem ATy {M:List (List Int)} (R:AVf M):M=tab M.length M.length (ent M):=AY4 R.2.1
theorem Aqn {n:Nat} {A:Nat->Nat->Int} (hn:n<=8) (R:Agj n A):Agn (tab n n A):=Agk (B:=192000) (by decide) fun i j hi hj=>by have:=AYo hn R hi hj;omega
theorem Agr {M:List (List Int)} (R:AVf M):1<=det M.length (ent M)/\det M.length (ent M)<=10000:=⟨by have:=R.2.2.pos _ (Nat.le_refl _);omega,R.2.2.dt⟩
theorem Atw {M:List (List Int)} (R:AVf M) {i j:Nat} (hi:i < M.length) (hj:j < M.length):(ent M i j).natAbs<=192000:=by have:=AYo R.1.2 R.2.2 hi hj;omega
theorem Amv {fuel:Nat} {M:List (List Int)} (R:AVf M) (hf:100 < fuel):AId fuel M=some (det M.length (ent M)):=by
 apply ok_eq;obtain ⟨v1,v2⟩:=Agr R;have hT:=ATy R;have h1:=R.1;unfold AId;generalize hF:ent M=F at *;generalize hL:M.length=n at *;have hb:∀ i j,i < n->j < n->(F i j).natAbs<=192000:=fun i j hi hj=>by subst hF;subst hL;exact Atw R hi hj
 rw [hT];refine ABo (ADa (Air h1.1 (by omega) (fun i j hi hj=>Nat.le_trans (hb i j hi hj) (by decide)) (by omega))) fun x hx=>?_;subst hx;refine ABo (ADa (AV5 h1.2 (fun i j hi hj=>Nat.le_trans (hb i j hi hj) (by decide)) (by omega))) fun y hy=>?_;subst hy;refine ABo (ADa (a:=(det n F,true)) (if_pos (by omega))) fun z hz=>ABi ?_;rw [hz]
theorem AQo (a:Int) (m:Nat) (ha:0<=a) (hm:0 < m):∃ q:Nat,Int.tmod a (m:Int)=q/\q < m:=by
 rw [Int.tmod_eq_emod_of_nonneg ha];have h1:=Int.emod_nonneg a (show (m:Int)≠0 by omega);have h2:=Int.emod_lt_of_pos a (show (0:Int) < m by omega);exact ⟨(a % m).toNat,by omega,by omega⟩
end Go.Proofs.YtiegjkmfpcgjjaaGreatDoor
namespace Go.Proofs.YtiegjkmfpcgjjaaGreatDoor
open Go Go.QF
set_option maxRecDepth 100000
set_option maxHeartbeats 4000000
def AKw (fuel:Nat) (a3:LiI) (Ab:Int):Option ((Int) ⊕ ((Bool) ⊕ (Unit))):=
  (if Ab < (a3.length:Int) then ((gI a3 Ab).bind fun Ac=>((gI a3 0).bind fun Ad=>(if ¬ (Ac.length:Int)=(Ad.length:Int) then (some (Sum.inr<| Sum.inl <| false)) else (some (Sum.inl (w64 (Ab + 1))))))) else (some (Sum.inr<| Sum.inr <| ())))
def AH4 (fuel:Nat) (a3:LiI):Option Bool:=
  (((if (a3.length:Int) < 1 then (some (Sum.inl <| false)) else (if 16 < (a3.length:Int) then (some (Sum.inl <| false)) else ((gI a3 0).bind fun Ab=>(if (Ab.length:Int) < 1 then (some (Sum.inl <| false)) else (if 16 < (Ab.length:Int) then (some (Sum.inl <| false)) else (some (Sum.inr <| ()))))))):Option ((Bool) ⊕ (Unit))).bind (fun ex=>match ex with | Sum.inl Ac=>(some Ac) | Sum.inr (_)=>((iter (fun s=>AKw fuel a3 s) fuel 0).bind (fun ex=>match ex with | Sum.inl Ad=>(some Ad) | Sum.inr (_)=>(some true)))))
theorem AQc {fuel:Nat} {h:ABj} {Aq:Value} {a3:LiI} {r:Bool} (H2:AFo (cI .i64) h Aq a3) (hp:AH4 fuel a3=some r):ACa Tryz.prog 69 #[Aq] h (fun x h'=>Ext h h'/\x= .bool r):=by
 unfold AH4 at hp;refine cwf (l:=[_]) Tryz.func69 rfl rfl (ABl (ABq ?_));have K0:=Kst.k0 h;obtain ⟨A4,Ar,Ac⟩:=ABm hp;refine ANx 134217700 (fun x:Unit=>[]) (fun x h'=>(Sum.inr <| ())=A4/\Kst h h' (K0.L)) ?_ ?_
 ·refine ABl (Wl (ADh AB4 rfl H2 (AC1 rfl rfl (Wl ?_))));by_cases Ah:(a3.length:Int) < 1
  ·rw [decide_eq_true Ah];refine AG1 8 true (ABz rfl (Wl (ALv 13 true (ABz rfl (Wl (ALv 20 true (ABz rfl (ABp (ACe rfl (ABl (ABq ?_)))))))))));obtain rfl:=ABk (ifT Ar Ah);refine ABs (AB2 ?_);obtain rfl:=ABk Ac;exact ⟨_,ABu,K0.x,rfl⟩
  ·have Au:=ifF Ar Ah;rw [decide_eq_false Ah];refine ACb 8 false (Wl (ACb 8 false (ADh AB4 rfl H2 (ACb 8 false (AJe rfl rfl (ABw rfl (Wl ?_)))))));by_cases Ai:16 < (a3.length:Int)
   ·rw [decide_eq_true Ai];refine ALv 13 true (ABz rfl (Wl (ALv 20 true (ABz rfl (ABp (ACe rfl (ABl (ABq ?_))))))));obtain rfl:=ABk (ifT Au Ai);refine ABs (AB2 ?_);obtain rfl:=ABk Ac;exact ⟨_,ABu,K0.x,rfl⟩
   ·rw [decide_eq_false Ai];refine ACb 13 false (Wl (ACb 13 false ?_));obtain ⟨A5,Av,Aw⟩:=ABm (ifF Au Ai);refine AIx AB4 rfl H2 rfl Av fun Br Bt Bu A6 A7=>ACb 13 false (AB9 ACo rfl (AB0 A6 K0.x) (ACb 13 false (AD1 ABx rfl A7 (ACb 13 false (AC1 rfl rfl (ABw rfl (Wl ?_)))))));by_cases Aj:(A5.length:Int) < 1
    ·rw [decide_eq_true Aj];refine ALv 20 true (ABz rfl (ABp (ACe rfl (ABl (ABq ?_)))));obtain rfl:=ABk (ifT Aw Aj);refine ABs (AB2 ?_);obtain rfl:=ABk Ac;exact ⟨_,ABu,K0.x,rfl⟩
    ·have Ax:=ifF Aw Aj;rw [decide_eq_false Aj];refine ACb 20 false (Wl (ACb 20 false (AIx AB4 rfl H2 rfl Av fun Bv Bw Bx A8 A9=>ACb 20 false (AB9 ACo rfl (AB0 A8 K0.x) (ACb 20 false (AD1 ABx rfl A9 (ACb 20 false (AJe rfl rfl (ABw rfl (ABp (⟨_,rfl,fun Ak=>?_,fun Ak=>?_⟩)))))))))))
     ·refine ABl (ABq ?_);obtain rfl:=ABk (AC5 Ax Ak);refine ABs (AB2 ?_);obtain rfl:=ABk Ac;exact ⟨_,ABu,K0.x,rfl⟩
     ·refine ABt (q_t ?_);exact ⟨(():Unit),⟨ABk (AC6 Ax Ak),K0⟩,trivial⟩
 rintro ⟨⟩ By Bz ⟨Ba,Ay⟩;subst Ba;refine ABn (ABl (Wl (ADh AB4 rfl H2 (Wl (ABp (ABr ?_))))));obtain ⟨Am,Bb,Az⟩:=ABm Ac;obtain ⟨Bc,Be,Bf⟩:=ACj Bb;refine ACk 2198486384660 (fun x:(Int)=>[(29,(.int .i64 x))]) (fun k x h'=>iter Bc k x=some Am/\Kst h h' (Ay.L)) (by kernel_rfl) fuel (0:(Int)) ?_ ⟨rfl,trivial⟩ ?_
 ·exact ⟨Bf,Ay⟩
 rintro B1 Bg B2 B3 ⟨Bh,Ad⟩;obtain ⟨Bi,B4,rfl,Ae,Af⟩:=AB5 Bh;rw [Be] at Ae;dsimp only at Ae;unfold AKw at Ae;refine ABl (AC1 rfl rfl (ABp (ABn (⟨_,rfl,fun Ao=>?_,fun Ao=>?_⟩))))
 ·refine ABt (q_t (ABn (ABr (ABl ?_))));obtain ⟨B5,Bj,Bl⟩:=ABm (AC5 Ae Ao);refine AIx AB4 rfl H2 rfl Bj fun B6 B7 B8 Bm Bn=>AB9 ACo rfl (AB0 Bm Ad.x) (ACr (Wl (AD1 ABx rfl Bn (Wl ?_))));obtain ⟨B9,Bo,A3⟩:=ABm Bl;refine AIx AB4 rfl H2 rfl Bo fun Ca Cb Cd Bp Bq=>AB9 ACo rfl (AB0 Bp Ad.x) (AD1 ABx rfl Bq (AHz rfl rfl (ABp (⟨_,rfl,fun Ap=>?_,fun Ap=>?_⟩))))
  ·refine ABl (ABq ?_);obtain rfl:=ABk (AC5 A3 Ap);change _=Am at Af;subst Af;refine ABs (ADp (AB2 (AB2 (ADp (AB2 ?_)))));obtain rfl:=ABk Az;exact ⟨_,ABu,Ad.x,rfl⟩
  ·refine ABt (q_b (q_t (ABy (AC3 rfl rfl (Wl (ABp ?_))))));obtain rfl:=ABk (AC6 A3 Ap);exact ⟨Bi,((w64 (Bg + 1)):(Int)),Nat.lt_succ_self _,⟨Af,Ad⟩,rfl,trivial⟩
 ·obtain rfl:=ABk (AC6 Ae Ao);change _=Am at Af;subst Af;refine ACd (ACc (ACc (ADo (q_t (ABl (ABq (ABs ?_)))))));obtain rfl:=ABk Az;exact ⟨_,ABu,Ad.x,rfl⟩
def AK8 (fuel:Nat) (a3:LiI):Option Bool:=
  ((AH4 fuel a3).bind fun x5=>(if x5=true then ((gI a3 0).bind fun Ac=>(if (a3.length:Int)=(Ac.length:Int) then (some (decide ((a3.length:Int)<=8))) else (some false))) else (some false)))
theorem AVg {fuel:Nat} {h:ABj} {Ae:Value} {a3:LiI} {r:Bool} (H2:AFo (cI .i64) h Ae a3) (hp:AK8 fuel a3=some r):ACa Tryz.prog 72 #[Ae] h (fun x h'=>Ext h h'/\x= .bool r):=by
 unfold AK8 at hp;refine cwf (l:=[_]) Tryz.func72 rfl rfl (ABl (ACr (Wl ?_)));have K0:=Kst.k0 h;obtain ⟨x5,Ak,Ag⟩:=ABm hp;refine ACw rfl (AQc (H2.ext K0.x) Ak) fun Av h9 E8 Ao=>?_;subst Ao;refine Wl ?_;have Ab:=K0.e E8;cases Ah:x5
 ·refine ALv 5 false (AGh 5 false (ABw rfl (Wl (AG1 14 false (ABw rfl (ABq (ABs ?_)))))));obtain rfl:=ABk (AJc Ag Ah);exact ⟨_,ABu,Ab.x,rfl⟩
 ·refine ACb 5 true (Wl (ACb 5 true (ADh AB4 rfl H2 (ACb 5 true (Wl (ACb 5 true ?_))))));obtain ⟨Ap,Aq,Ai⟩:=ABm (ifT Ag Ah);refine AIx AB4 rfl H2 rfl Aq fun Ax Ay Az Ar Au=>ACb 5 true (AB9 ACo rfl (AB0 Ar Ab.x) (ACb 5 true (AD1 ABx rfl Au (ACb 5 true (ADk rfl rfl (ABz rfl (Wl ?_)))))));by_cases Ac:(a3.length:Int)=(Ap.length:Int)
  ·rw [decide_eq_true Ac];refine ACb 14 true (Wl (ACb 14 true (ADh AB4 rfl H2 (ACb 14 true (AZw rfl rfl (ABz rfl (ABq (ABs ?_))))))));obtain rfl:=ABk (ifT Ai Ac);exact ⟨_,ABu,Ab.x,rfl⟩
  ·rw [decide_eq_false Ac];refine AG1 14 false (ABw rfl (ABq (ABs ?_)));obtain rfl:=ABk (ifF Ai Ac);exact ⟨_,ABu,Ab.x,rfl⟩
def AEv (fuel:Nat) (a1:Int):Option Int:=
  (if a1 < 2 then (some 1) else (if 2147483647 < a1 then (some 1) else (some 0)))
theorem AMb {fuel:Nat} {h:ABj} {a1 r:Int} (hp:AEv fuel a1=some r):ACa Tryz.prog 70 #[(.int .i64 a1)] h (fun x h'=>Ext h h'/\x= .int .i64 r):=by
 unfold AEv at hp;refine cwf (l:=[_]) Tryz.func70 rfl rfl (ABl (ABq (ABn (ABl (Wl (AC1 rfl rfl (Wl ?_)))))));have K0:=Kst.k0 h;by_cases Aa:a1 < 2
 ·rw [decide_eq_true Aa];refine AGh 5 true (ABz rfl (ABp (ACe rfl (ABl (ABq (ABs (AB2 ?_)))))));obtain rfl:=ABk (ifT hp Aa);exact ⟨_,ABu,K0.x,rfl⟩
 ·have Ae:=ifF hp Aa;rw [decide_eq_false Aa];refine ACb 5 false (Wl (ACb 5 false (AJe rfl rfl (ABw rfl (ABp (⟨_,rfl,fun Ad=>?_,fun Ad=>?_⟩))))))
  ·refine ABl (ABq (ABs (AB2 ?_)));obtain rfl:=ABk (AC5 Ae Ad);exact ⟨_,ABu,K0.x,rfl⟩
  ·refine ABt (q_t (ABl (ABq (ABs ?_))));obtain rfl:=ABk (AC6 Ae Ad);exact ⟨_,ABu,K0.x,rfl⟩
def AI7 (fuel:Nat) (a5 Ad:Int) (Ae:LiA) (Ab:Int) (Ac:LiI):Option ((Int × LiI) ⊕ ((LiI))):=
  (if Ab < (Ae.length:Int) then ((gI Ae Ab).bind fun Ag=>((gI Ac Ad).bind fun Af=>(if a5≠0 then (if a5≠0 then ((gI Af Ab).bind fun Ah=>(some (Sum.inl ((w64 (Ab + 1)),(sI Ac Ad (sI Af Ab (Int.tmod (w64 ((Int.tmod Ag a5) + a5)) a5))))))) else none) else none))) else (some (Sum.inr<| Ac)))
def AI8 (fuel:Nat) (a3:LiI) (a5 Aa:Int) (Ac:LiI):Option ((Int × LiI) ⊕ ((LiI))):=
  (if Aa < (a3.length:Int) then ((gI a3 Aa).bind fun Ab=>(if 0<=(Ab.length:Int)/\(Ab.length:Int)<=100000000 then ((gI Ac Aa).bind fun Ag=>((iter (fun s=>AI7 fuel a5 Aa Ab s.1 s.2) fuel (0,(sI Ac Aa (List.replicate (Int.toNat (Ab.length:Int)) (0:Int))))).bind (fun (Af:LiI)=>(some (Sum.inl ((w64 (Aa + 1)),Af)))))) else none)) else (some (Sum.inr<| Ac)))
def AF8 (fuel:Nat) (a3:LiI) (a5:Int):Option LiI:=
  (if 0<=(a3.length:Int)/\(a3.length:Int)<=100000000 then ((iter (fun s=>AI8 fuel a3 a5 s.1 s.2) fuel (0,(List.replicate (Int.toNat (a3.length:Int)) ([]:List Int)))).bind (fun (Ac:LiI)=>(some Ac))) else none)
theorem ANw {fuel:Nat} {h:ABj} {Au:Value} {a3:LiI} {a5:Int} {r:LiI} (H2:AFo (cI .i64) h Au a3) (hp:AF8 fuel a3 a5=some r):ACa Tryz.prog 71 #[Au,(.int .i64 a5)] h (fun x h'=>Ext h h'/\ ∃ (x0:Value) (F0:List Nat) (Bf:List LnA) (Bg:List Value),x=x0/\AFh (cI .i64) 23 2 h' F0 Bf Bg x0 r/\Sp h' h.size [F0]):=by
 unfold AF8 at hp;refine cwf (l:=[_,_]) Tryz.func71 rfl rfl (ABl (ACr (Wl (ADh AB4 rfl H2 ?_))));obtain ⟨Bh,Bi⟩:=ifN hp;refine AVy (cI .i64) 2 AB4 AMw rfl trivial tt2 rfl rfl (by decide) Bh fun Bj Bl Bm Ax C8 Bn E8 S9=>ABq (ABn (ABl (Wl (ADh AB4 rfl H2 (Wl (ABp (ABr ?_)))))));have Ay:=(Kst.k0 h).no2 E8 S9 Bn;obtain ⟨Az,Bq,Br⟩:=ABm Bi;obtain ⟨Bt,Bu,Bv⟩:=ACj Bq;refine ACk 281474976678848 (fun x:(Int) × (LiI) × LnA × LnN × LvA=>[(15,(.int .i64 x.1))]) (fun k x h'=>iter Bt k (x.1,x.2.1)=some Az/\Kst h h' (Ay.L.set 0 (aO2 (cI .i64) 23 2 x.2.2.1 x.2.2.2.1 x.2.2.2.2 Ax x.2.1))) (by kernel_rfl) fuel ((0,(List.replicate (Int.toNat (a3.length:Int)) ([]:List Int)),Bj,Bl,Bm):(Int) × (LiI) × LnA × LnN × LvA) ?_ ⟨rfl,trivial⟩ ?_
 ·exact ⟨Bv,Ay⟩
 rintro C9 ⟨Ab,Bw,Da,A3,Bx⟩ Db Dc ⟨By,Ad⟩;obtain ⟨Bz,Dd,rfl,Ae,Aj⟩:=AB5 By;rw [Bu] at Ae;dsimp only at Ae;unfold AI8 at Ae;refine ABl (AC1 rfl rfl (ABp (ABn (⟨_,rfl,fun Ak=>?_,fun Ak=>?_⟩))))
 ·refine ABt (q_t (ABn (ABr (ABl (Wl ?_)))));obtain ⟨B1,B2,B3⟩:=ABm (AC5 Ae Ak);refine AIx AB4 rfl H2 rfl B2 fun De Df Dg B4 Am=>AB9 ACo rfl (AB0 B4 Ad.x) (ACg (ACr (Wl (Wl (Wl (AD1 ABx rfl Am ?_))))));obtain ⟨B5,B6⟩:=ifN B3;refine ASc (c:=(cI .i64)) (a:=0) ABx AHn rfl rfl (fun _=>rfl) rfl trivial tt2 rfl rfl (by decide) B5 fun A4 B7 Dh B8 B9 Ca Cb=>?_;have Af:=Ad.no B9 (AGy Ca Cb) B8;obtain ⟨Di,A5,Cd⟩:=ABm B6;refine ADx AB4 rfl (Af.o2 p1) rfl A5 fun Ce Dj Cf Dk Dl=>AXn ACo (Af.o2 p1) A5 Cf rfl rfl (Af.o p0) (Af.dj p0 p1 (by decide)) fun Dn Cg Ch Ci=>ANc (Wl (AD1 ABx rfl Am (Wl (ABp (ABr ?_)))));obtain ⟨A6,Cj,Ck⟩:=ABm Cd;obtain ⟨Cm,Cn,Co⟩:=ACj Cj;have Ao:=(Af.m2 p0 p1 (by decide) Ch Cg (fun z hz=> .inl (Ci z hz))).sel [1] (by decide);dsimp only [AJf,AMg] at Ao;refine ACk 140737219920640 (fun x:(Int) × (LiI) × LnA × LnN × LvA=>[(28,(.int .i64 x.1))]) (fun k x h'=>iter Cm k (x.1,x.2.1)=some A6/\Kst h h' (Ao.L.set 0 (aO2 (cI .i64) 23 2 x.2.2.1 x.2.2.2.1 x.2.2.2.2 Ax x.2.1))) (by kernel_rfl) fuel ((0,(sI Bw Ab (List.replicate (Int.toNat (B1.length:Int)) (0:Int))),(Ce :: (A3.set (Int.toNat Ab) [A4]).flatten),(A3.set (Int.toNat Ab) [A4]),(Bx.set (Int.toNat Ab) B7)):(Int) × (LiI) × LnA × LnN × LvA) ?_ ⟨rfl,trivial⟩ ?_
  ·exact ⟨Co,Ao⟩
  rintro Do ⟨A7,A8,A9,Ba,Bb⟩ Dp Dq ⟨Cp,Ac⟩;obtain ⟨Cq,Dr,rfl,Ag,Ap⟩:=AB5 Cp;rw [Cn] at Ag;dsimp only at Ag;unfold AI7 at Ag;refine ABl (AC1 rfl rfl (ABp (ABn (⟨_,rfl,fun Aq=>?_,fun Aq=>?_⟩))))
  ·refine ABt (q_t (ABn (ABr (ABl (Wl ?_)))));obtain ⟨Bc,Cr,Ct⟩:=ABm (AC5 Ag Aq);refine AIw (c:=(cI .i64)) ABx rfl Am rfl Cr fun Ds Dt Du Cu Cv=>?_;obtain rfl:=Cu;refine AB9 ACt rfl (AB0 (Cv 0 _ rfl) Ac.x) (ACg (ABq (ANr (Wl (Wl ?_)))));obtain ⟨Cw,Ar,Cx⟩:=ABm Ct;refine ADx AB4 rfl (Ac.o2 p0) rfl Ar fun Dv Dw Dx Cy Cz=>AB9 ACo rfl Cz (Wl (Wl (Wl ?_)));obtain ⟨C0,C1⟩:=ifN Cx;refine AGj rfl rfl C0 (Wl (AC3 rfl rfl (Wl ?_)));obtain ⟨C2,C3⟩:=ifN C1;refine AGj rfl rfl C2 ?_;obtain ⟨Dy,Be,C4⟩:=ABm C3;refine AFd (m:=Ab) ABx rfl (Ac.o2 p0) Cy Ar rfl Be fun Dz C5=>AJ5 (m:=Ab) (AGf ACt rfl rfl rfl) (Ac.o2 p0) C5 Ar Be (show ((cI .i64)).rep _ (Int.tmod (w64 ((Int.tmod Bc a5) + a5)) a5) _ from rfl) fun D0 C6 C7=>ACm (q_b (q_t (ABy (AC3 rfl rfl (Wl (ABp ?_))))));obtain rfl:=ABk C4;exact ⟨Cq,(((w64 (A7 + 1)),(sI A8 Ab (sI Cw A7 (Int.tmod (w64 ((Int.tmod Bc a5) + a5)) a5))),A9,Ba,Bb):(Int) × (LiI) × LnA × LnN × LvA),Nat.lt_succ_self _,⟨Ap,(Ac.uO2 p0 C7 C6)⟩,rfl,trivial⟩
  ·obtain rfl:=ABk (AC6 Ag Aq);change _=A6 at Ap;subst Ap;refine ACd (ACc (ACc (ADo (q_b (q_t (ABy (AC3 rfl rfl (Wl (ABp ?_)))))))));obtain rfl:=ABk Ck;exact ⟨Bz,(((w64 (Ab + 1)),A8,A9,Ba,Bb):(Int) × (LiI) × LnA × LnN × LvA),Nat.lt_succ_self _,⟨Aj,Ac⟩,rfl,trivial⟩
 ·obtain rfl:=ABk (AC6 Ae Ak);change _=Az at Aj;subst Aj;refine ACd (ACc (ACc (ADo (q_t (ABl (Wl (ABq (ABs ?_))))))));obtain rfl:=ABk Br;exact ⟨_,ABu,Ad.x,_,_,_,_,rfl,(Ad.o2 p0),Ad.s.sel [0] (by decide)⟩
def AFf (fuel:Nat) (a3:LiI) (a5:Int):Option (LiI × Int):=
  ((AH4 fuel a3).bind fun x6=>(if (!x6)=true then (some ([],3)) else ((AEv fuel a5).bind fun Ac=>(if ¬ Ac=0 then (some ([],Ac)) else ((AF8 fuel a3 a5).bind fun Ae=>(some (Ae,0)))))))
theorem ALi {fuel:Nat} {h:ABj} {Ag:Value} {a3:LiI} {a5:Int} {r:(LiI × Int)} (H2:AFo (cI .i64) h Ag a3) (hp:AFf fuel a3 a5=some r):ACa Tryz.prog 36 #[Ag,(.int .i64 a5)] h (fun x h'=>Ext h h'/\ ∃ (x0:Value) (F0:List Nat) (Au:List LnA) (Av:List Value),x= .tuple #[x0,.int .i64 r.2]/\AFh (cI .i64) 23 2 h' F0 Au Av x0 r.1/\Sp h' h.size [F0]):=by
 unfold AFf at hp;refine cwf (l:=[_,_]) Tryz.func36 rfl rfl (ABl (ACg (ABq (ABn (ABl (Wl ?_))))));have K0:=Kst.k0 h;obtain ⟨x6,Aw,Ap⟩:=ABm hp;refine ACw rfl (AQc (H2.ext K0.x) Aw) fun Bc Be E9 Ay=>?_;subst Ay;refine AF9 rfl (ABp ?_);have Aq:=K0.e E9;refine ⟨_,rfl,fun Aa=>?_,fun Aa=>?_⟩
 ·refine ABl (ACg (ABq (ABs (AB2 ?_))));have Ab:=Kst.anil2 (cI .i64) 23 2 Aq;obtain rfl:=ABk (ifT Ap Aa);exact ⟨_,ADc,Ab.x,_,_,_,_,rfl,(Ab.o2 p0),Ab.s.sel [0] (by decide)⟩
 ·refine ABt (q_t (ABn (ABl (Wl ?_))));obtain ⟨Bf,Az,Ar⟩:=ABm (AJc Ap Aa);refine ACw rfl (AMb Az) fun Bg Bh A3 A4=>?_;subst A4;refine ACr (Wl (AHz rfl rfl (ABp ?_)));have Ac:=Aq.e A3;refine ⟨_,rfl,fun Ad=>?_,fun Ad=>?_⟩
  ·refine ABl (Wl (ACg (ABq (ABs (AB2 ?_)))));have Ae:=Kst.anil2 (cI .i64) 23 2 Ac;obtain rfl:=ABk (AC5 Ar Ad);exact ⟨_,ADc,Ae.x,_,_,_,_,rfl,(Ae.o2 p0),Ae.s.sel [0] (by decide)⟩
  ·refine ABt (q_t (ABl (Wl (Wl ?_))));obtain ⟨Bi,A5,A6⟩:=ABm (AC6 Ar Ad);refine ACw rfl (ANw (H2.ext Ac.x) A5) fun Bj Bl A7 A8=>?_;obtain ⟨Bm,Bn,Bo,Bp,rfl,A9,Ba⟩:=A8;refine ACg (ABq (ABs ?_));have Af:=Ac.no2 A7 Ba A9;obtain rfl:=ABk A6;exact ⟨_,ADc,Af.x,_,_,_,_,rfl,(Af.o2 p0),Af.s.sel [0] (by decide)⟩
end Go.Proofs.YtiegjkmfpcgjjaaGreatDoor
namespace Go.Proofs.YtiegjkmfpcgjjaaGreatDoor
open Go Go.QF
set_option maxRecDepth 100000
theorem ARc {α β:Type} {L:List α} {n:Nat} {x:α} {f:α->Option β} (hx:L[n]? =some x):(gI L (n:Int)).bind f=f x:=by
 unfold gI;rw [if_pos (by omega),Int.toNat_natCast,hx];rfl
theorem Aqo {α β:Type} {L:List α} {x:α} {f:α->Option β} (hx:L[0]? =some x):(gI L 0).bind f=f x:=ARc (n:=0) hx
theorem AGo {i:Nat} (h:i<=1000000000):w64 ((i:Int) + 1)=((i + 1:Nat):Int):=by rw [wk (by omega)];omega
theorem Aak {n i r:Nat} {G:Nat->Nat->Int} {g g':Nat->Int} (h:∀ c,c < n->g c=g' c):part n i (ADj G r g)=part n i (ADj G r g'):=by
 unfold part;refine ACu fun k _=>?_;split
 ·refine ACu fun c hc=>?_;by_cases hk:k=r
  ·subst hk;rw [AC9,AC9,h c hc]
  ·rw [AD8 _ _ hk,AD8 _ _ hk]
 ·rfl
theorem Aqp {n i:Nat} {F:Nat->Nat->Int} {g:Nat->Int} (h:∀ c,c < n->g c=F i c):part n (i + 1) (ADj F i g)=part n (i + 1) F:=by
 rw [Aak h,AN1]
theorem Atx {body:Int × List (List Int)->Option ((Int × List (List Int)) ⊕ List (List Int))} {fuel n i:Nat} {G:Nat->Nat->Int} (v:Nat->Int) (hf:n < fuel)
    (hs:∀ (j:Nat) (g:Nat->Int),j < n->g j=G i j->body ((j:Int),part n (i + 1) (ADj G i g))=some (.inl (((j + 1:Nat):Int),part n (i + 1) (ADj G i fun c=>if c=j then v j else g c))))
    (he:∀ X,body ((n:Int),X)=some (.inr X)):iter body fuel (0,part n (i + 1) G)=some (part n (i + 1) (ADj G i v)):=by
  apply ok_eq
  refine ACv (fun j s=>s=((j:Int),part n (i + 1) (ADj G i fun c=>if c < j then v c else G i c))) n ?_ hf fun j s hj hI=>?_
  · have:(fun c=>if c < 0 then v c else G i c)=G i:=funext fun c=>if_neg (by omega);rw [this,AN1];rfl
  · subst hI
    by_cases h:j < n
    · rw [hs j _ h (if_neg (by omega))];refine ABi ⟨h,?_⟩;refine congrArg (fun z=>(((j + 1:Nat):Int),part n (i + 1) (ADj G i z))) (funext fun c=>?_)
      by_cases h1:c=j
      · rw [if_pos h1,if_pos (by omega),h1]
      · rw [if_neg h1]
        by_cases h2:c < j
        · rw [if_pos h2,if_pos (by omega)]
        · rw [if_neg h2,if_neg (by omega)]
    · obtain rfl:j=n:=by omega
      rw [he];exact ABi (Aak fun c hc=>if_pos hc)
theorem Aqq {body:Int × List (List Int)->Option ((Int × List (List Int)) ⊕ List (List Int))} {fuel n:Nat} (F:Nat->Nat->Int) (hf:n < fuel)
    (hs:∀ i:Nat,i < n->body ((i:Int),part n i F)=some (.inl (((i + 1:Nat):Int),part n (i + 1) F))) (he:∀ X,body ((n:Int),X)=some (.inr X)):iter body fuel (0,List.replicate n ([]:List Int))=some (tab n n F):=by
  apply ok_eq;refine ACv (fun i s=>s=((i:Int),part n i F)) n (by rw [APt n F];rfl) hf fun i s hi hI=>?_;subst hI
  by_cases h:i < n
  · rw [hs i h];exact ABi ⟨h,rfl⟩
  · obtain rfl:i=n:=by omega
    rw [he];exact ABi (APs _ _)
theorem Acg {x m:Int} (hm:2<=m) (Ab:m<=2147483647):Int.tmod (w64 (Int.tmod x m + m)) m=x % m:=by
 have h1:=Int.tmod_lt_of_pos x (show 0 < m by omega);have h2:=Int.tmod_lt_of_pos (-x) (show 0 < m by omega);rw [Int.neg_tmod] at h2;rw [wk (by omega),Int.tmod_eq_emod_of_nonneg (by omega),Int.add_emod_right,Int.tmod_def,Int.sub_mul_emod_self_left]
theorem Aqr {fuel n:Nat} {F:Nat->Nat->Int} {m:Int} (hn:n<=8) (hm:2<=m) (Aa:m<=2147483647) (hf:100 < fuel):AF8 fuel (tab n n F) m=some (tab n n fun i j=>F i j % m):=by
 unfold AF8;rw [ADg,if_pos (by omega),Int.toNat_natCast,Aqq (n:=n) (fun i j=>F i j % m) (by omega) (fun i hi=>?_) fun X=>?_]
 ·rfl
 ·unfold AI8;dsimp only;rw [ADg,if_pos (by omega),ARc (ADi hi),ADb,if_pos (by omega),ARc (AUk hi),ADy,Int.toNat_natCast,AHq n (0:Int),ARt,Atx (n:=n) (fun j=>F i j % m) (by omega) (fun j g hj hg=>?_) fun X=>?_]
  ·dsimp only [Option.bind_some];rw [AW1,Aqp fun c _=>rfl,AGo (by omega)]
  ·unfold AI7;dsimp only;rw [ADb,if_pos (by omega),ARc (ACn hj),ARc (ANi (by omega) hi),if_pos (by omega),if_pos (by omega),AC9,ARc (ACn hj),Acg hm Aa,ADy,ADy,AEz,AOm (by omega),AW1,AGo (by omega)]
  ·unfold AI7;dsimp only;rw [ADb,if_neg (by omega)]
 ·unfold AI8;dsimp only;rw [ADg,if_neg (by omega)]
end Go.Proofs.YtiegjkmfpcgjjaaGreatDoor
namespace Go.Proofs.YtiegjkmfpcgjjaaGreatDoor
open Go Go.QF
set_option maxRecDepth 100000
set_option maxHeartbeats 4000000
def AL3 (fuel:Nat) (Ac Ad Af:Int) (Ag:LiA) (Ah Ai Aa:Int) (Ab:LiI):Option ((Int × LiI) ⊕ ((LiI))):=
  (if Aa < (Ag.length:Int) then ((gI Ab Af).bind fun Aj=>((gI Aj Aa).bind fun Ak=>((gI Ab Ad).bind fun Ae=>((gI Ae Aa).bind fun Am=>(if Ac≠0 then (some (Sum.inl ((w64 (Aa + 1)),(sI Ab Ad (sI Ae Aa (Int.tmod (w64 (Am + (w64 ((w64 (Ac - (w64 (Int.tdiv Ai Ah)))) * Ak)))) Ac)))))) else none))))) else (some (Sum.inr<| Ab)))
def AL4 (fuel:Nat) (Ah Aa Ab Af:Int) (Ac:LiI):Option ((Int × LiI) ⊕ ((Int × LiI))):=
  ((gI Ac Ab).bind fun Ag=>((gI Ag Aa).bind fun Ad=>(if ¬ Ad=0 then ((gI Ac Aa).bind fun Ai=>((gI Ai Aa).bind fun Aj=>(if Ad≠0 then ((((iter (fun s=>AL3 fuel Ah Aa Ab Ag Ad Aj s.1 s.2) fuel (0,Ac)).bind (fun (Ak:LiI)=>(some ( Ak)))):Option (LiI)).bind fun Ae=>((gI Ae Ab).bind fun Am=>((gI Ae Aa).bind fun Ao=>(some (Sum.inl ((w64 (0 - Af)),(sI (sI Ae Aa Am) Ab Ao))))))) else none))) else (some (Sum.inr<| (Af,Ac))))))
def AN7 (fuel:Nat) (Ad Ae Ac Aa:Int) (Ab:LiI):Option ((Int × Int × LiI) ⊕ ((Int × LiI))):=
  (if Aa < (Ab.length:Int) then ((iter (fun s=>AL4 fuel Ad Ae Aa s.1 s.2) fuel (Ac,Ab)).bind (fun ((Af,Ag):Int × LiI)=>(some (Sum.inl (Af,(w64 (Aa + 1)),Ag))))) else (some (Sum.inr<| (Ac,Ab))))
def AN8 (fuel:Nat) (Ad:LiI) (Ae Ab Aa:Int) (Ac:LiI):Option ((Int × Int × LiI) ⊕ ((Int × LiI))):=
  (if Aa < (Ad.length:Int) then ((iter (fun s=>AN7 fuel Ae Aa s.1 s.2.1 s.2.2) fuel (Ab,(w64 (Aa + 1)),Ac)).bind (fun ((Af,Ag):Int × LiI)=>(some (Sum.inl (Af,(w64 (Aa + 1)),Ag))))) else (some (Sum.inr<| (Ab,Ac))))
def AN9 (fuel:Nat) (a5:Int) (Ac:LiI) (Ad Ab:Int):Option ((Int × Int) ⊕ ((Int))):=
  (if Ab < (Ac.length:Int) then ((gI Ac Ab).bind fun Ae=>(if a5≠0 then ((gI Ae Ab).bind fun Af=>(if a5≠0 then (some (Sum.inl ((Int.tmod (w64 ((Int.tmod Ad a5) * Af)) a5),(w64 (Ab + 1))))) else none)) else none)) else (some (Sum.inr<| Ad)))
def AHh (fuel:Nat) (a3:LiI) (a5:Int):Option (Int × Int):=
  ((AK8 fuel a3).bind fun x6=>(if (!x6)=true then (some (0,3)) else ((AEv fuel a5).bind fun Ac=>(if ¬ Ac=0 then (some (0,Ac)) else ((AF8 fuel a3 a5).bind fun Ad=>(((((some ( a5)):Option (Int)).bind fun Af=>((iter (fun s=>AN8 fuel Ad Af s.1 s.2.1 s.2.2) fuel (1,0,Ad)).bind (fun ((Ag,Ah):Int × LiI)=>(some ( (Ag,Ah)))))):Option (Int × LiI)).bind fun (Ai,Aj)=>((iter (fun s=>AN9 fuel a5 Aj s.1 s.2) fuel ((w64 (Ai + a5)),0)).bind (fun (Ak:Int)=>(some (Ak,0))))))))))
theorem ARu {fuel:Nat} {h:ABj} {Bq:Value} {a3:LiI} {a5:Int} {r:(Int × Int)} (H2:AFo (cI .i64) h Bq a3) (hp:AHh fuel a3 a5=some r):ACa Tryz.prog 48 #[Bq,(.int .i64 a5)] h (fun x h'=>Ext h h'/\x= .tuple #[.int .i64 r.1,.int .i64 r.2]):=by
 unfold AHh at hp;refine cwf (l:=[_,_]) Tryz.func48 rfl rfl (ABl (ACg (ABq (ABn (ABl (Wl ?_))))));have K0:=Kst.k0 h;obtain ⟨x6,Cx,Bv⟩:=ABm hp;refine ACw rfl (AVg (H2.ext K0.x) Cx) fun Hk Hl E9 Cz=>?_;subst Cz;refine AF9 rfl (ABp ?_);have Bw:=K0.e E9;refine ⟨_,rfl,fun Ay=>?_,fun Ay=>?_⟩
 ·refine ABl (ACg (ABq (ABs (AB2 ?_))));obtain rfl:=ABk (ifT Bv Ay);exact ⟨_,ADc,Bw.x,rfl⟩
 ·refine ABt (q_t (ABn (ABl (Wl ?_))));obtain ⟨Hm,C0,Bx⟩:=ABm (AJc Bv Ay);refine ACw rfl (AMb C0) fun Hn Ho C1 C2=>?_;subst C2;refine ACr (Wl (AHz rfl rfl (ABp ?_)));have Az:=Bw.e C1;refine ⟨_,rfl,fun A3=>?_,fun A3=>?_⟩
  ·refine ABl (Wl (ACg (ABq (ABs (AB2 ?_)))));obtain rfl:=ABk (AC5 Bx A3);exact ⟨_,ADc,Az.x,rfl⟩
  ·refine ABt (q_t (ABl (Wl (Wl ?_))));obtain ⟨C3,C4,C5⟩:=ABm (AC6 Bx A3);refine ACw rfl (ANw (H2.ext Az.x) C4) fun Af Hq C6 C7=>?_;obtain ⟨Hr,C8,C9,Da,rfl,Db,Dc⟩:=C7;refine ACr (Wl (Wl ?_));have A4:=Az.no2 C6 Dc Db;obtain ⟨Dd,De,Df⟩:=ABm C5;refine ACp (K':=(fun xr h'=> ∃ x:(Int) × (LiI) × LnA × LnN × LvA,(x.1,x.2.1)=Dd/\xr=(.int .i64 x.1)/\Kst h h' (A4.L.set 0 (aO2 (cI .i64) 23 2 x.2.2.1 x.2.2.2.1 x.2.2.2.2 Af x.2.1)))) trivial rfl ?_ fun Hs Ht Dg=>?_
   ·refine cwf (l:=[_,_]) Tryz.func73 rfl rfl (ABl (ACr (Wl ?_)));obtain ⟨Dh,Di,Dj⟩:=ABm De;refine ACp (K':=(fun xr h'=> ∃ x:(Nat) × (Int),x.2=Dh/\xr=(.func (.func 105) #[] #[(.pointer (some ⟨x.1,0,none⟩))])/\Kst h h' (aB 2 x.1 [(.int .i64 x.2)] :: A4.L))) trivial rfl ?_ fun Hu Hv Dk=>?_
    ·refine cwf (l:=[_]) Tryz.func74 rfl rfl (ABl (AIj [(.int .i64 a5)] trivial tt2 rfl rfl fun Dl Hw Dn Do Dp=>ACr (Avc rfl (ABq (ABs (⟨_,ABu,((Dl,a5):(Nat) × (Int)),?_,rfl,?_⟩))))))
     ·exact ABk Di
     ·exact (A4.nb Do Dp Dn)
    obtain ⟨⟨Dq,Ao⟩,Dr,rfl,A5⟩:=Dk;refine ⟨trivial,?_⟩;subst Dr;refine ACr (ABq (ABn (ABl (Wl (ADh AB4 rfl (A5.o2 p1).rd (Wl (ABp (ABr ?_))))))));obtain ⟨By,Ds,Dt⟩:=ABm Dj;obtain ⟨Du,Dv,Dw⟩:=ACj Ds;refine ACk 18889465931478580847040 (fun x:(Int) × (Int) × (LiI) × LnA × LnN × LvA=>[(6,(.int .i64 x.1)),(13,(.int .i64 x.2.1))]) (fun k x h'=>iter Du k (x.1,x.2.1,x.2.2.1)=some By/\Kst h h' (A5.L.set 1 (aO2 (cI .i64) 23 2 x.2.2.2.1 x.2.2.2.2.1 x.2.2.2.2.2 Af x.2.2.1))) (by kernel_rfl) fuel ((1,0,C3,C8,C9,Da):(Int) × (Int) × (LiI) × LnA × LnN × LvA) ?_ ⟨rfl,rfl,trivial⟩ ?_
    ·exact ⟨Dw,A5⟩
    rintro Hx ⟨Bz,Ac,B1,B2,B3,B4⟩ Hy Hz ⟨Dx,A6⟩;obtain ⟨Dy,H5,rfl,Ag,A7⟩:=AB5 Dx;rw [Dv] at Ag;dsimp only at Ag;unfold AN8 at Ag;refine ABl (AC1 rfl rfl (ABp (ABn (⟨_,rfl,fun A8=>?_,fun A8=>?_⟩))))
    ·refine ABt (q_t (ABn (ABr (ABl (Wl (ACr (Wl (AC3 rfl rfl (ABq (ABr ?_))))))))));obtain ⟨B5,Dz,D0⟩:=ABm (AC5 Ag A8);obtain ⟨D1,D2,D3⟩:=ACj Dz;refine ACk 9444732965739290165568 (fun x:(Int) × (Int) × (LiI) × LnA × LnN × LvA=>[(6,(.int .i64 x.1)),(8,(.int .i64 x.2.1))]) (fun k x h'=>iter D1 k (x.1,x.2.1,x.2.2.1)=some B5/\Kst h h' (A6.L.set 1 (aO2 (cI .i64) 23 2 x.2.2.2.1 x.2.2.2.2.1 x.2.2.2.2.2 Af x.2.2.1))) (by kernel_rfl) fuel ((Bz,(w64 (Ac + 1)),B1,B2,B3,B4):(Int) × (Int) × (LiI) × LnA × LnN × LvA) ?_ ⟨rfl,rfl,trivial⟩ ?_
     ·exact ⟨D3,A6⟩
     rintro H9 ⟨B6,Ah,B7,B8,B9,Ca⟩ Ia Ib ⟨D4,Ap⟩;obtain ⟨D5,Ic,rfl,Ai,A9⟩:=AB5 D4;rw [D2] at Ai;dsimp only at Ai;unfold AN7 at Ai;refine ABn (ABl (Wl (Wl (ADh AB4 rfl (Ap.o2 p1).rd (AC1 rfl rfl (ABp (⟨_,rfl,fun Ba=>?_,fun Ba=>?_⟩)))))))
     ·refine ABt (q_t (ABn (ABr (ABr ?_))));obtain ⟨Cb,D6,D7⟩:=ABm (AC5 Ai Ba);obtain ⟨D8,D9,Ea⟩:=ACj D6;refine ACk 9444732965739273650240 (fun x:(Int) × (LiI) × LnA × LnN × LvA=>[(6,(.int .i64 x.1))]) (fun k x h'=>iter D8 k (x.1,x.2.1)=some Cb/\Kst h h' (Ap.L.set 1 (aO2 (cI .i64) 23 2 x.2.2.1 x.2.2.2.1 x.2.2.2.2 Af x.2.1))) (by kernel_rfl) fuel ((B6,B7,B8,B9,Ca):(Int) × (LiI) × LnA × LnN × LvA) ?_ ⟨rfl,trivial⟩ ?_
      ·exact ⟨Ea,Ap⟩
      rintro Id ⟨Cd,Ce,Bb,Bc,Be⟩ Ie If ⟨Eb,Aa⟩;obtain ⟨Ec,Ih,rfl,Aq,Bf⟩:=AB5 Eb;rw [D9] at Aq;dsimp only at Aq;unfold AL4 at Aq;refine ABn (ABl (Wl (Wl ?_)));obtain ⟨Ii,Ad,Ed⟩:=ABm Aq;refine ADx AB4 rfl (Aa.o2 p1) rfl Ad fun Ij Ik Il Ee Ef=>AB9 ACo rfl Ef (Wl ?_);obtain ⟨Bg,Ar,Cf⟩:=ABm Ed;refine AFd (m:=Ah) ABx rfl (Aa.o2 p1) Ee Ad rfl Ar fun Im Eg=>?_;obtain ⟨Io,Eh,Ei⟩:=(Aa.o2 p1).cells Eg Ad Ar;obtain rfl:=Eh;refine AB9 ACt rfl (Ei 0 _ rfl) (AHz rfl rfl (ABp (⟨_,rfl,fun Bh=>?_,fun Bh=>?_⟩)))
      ·refine ABt (q_t (ABr (ABn (ANr (Wl (Wl (Wl ?_)))))));obtain ⟨Ip,Au,Ej⟩:=ABm (AC5 Cf Bh);refine ADx AB4 rfl (Aa.o2 p1) rfl Au fun Iq Ek Ir Cg El=>AB9 ACo rfl El (Wl (Wl (ADx AB4 rfl (Aa.o2 p1) rfl Ad fun It Em Iu Ch En=>AB9 ACo rfl En (Wl (Wl (ADx AB4 rfl (Aa.o2 p1) rfl Au fun Iv Iw Ix Eo Ep=>AB9 ACo rfl Ep (Wl ?_)))))));obtain ⟨Bi,Ci,Er⟩:=ABm Ej;refine AFd (m:=Ac) ABx rfl (Aa.o2 p1) Eo Au rfl Ci fun Iy Es=>?_;obtain ⟨Iz,Et,Eu⟩:=(Aa.o2 p1).cells Es Au Ci;obtain rfl:=Et;refine AB9 ACt rfl (Eu 0 _ rfl) (Wl (Wl (ADx AB4 rfl (Aa.o2 p1) rfl Ad fun I0 I1 I2 Ev Ew=>AB9 ACo rfl Ew (Wl (AFd (m:=Ah) ABx rfl (Aa.o2 p1) Ev Ad rfl Ar fun I3 Ey=>?_)))));obtain ⟨I6,Ez,Fa⟩:=(Aa.o2 p1).cells Ey Ad Ar;obtain rfl:=Ez;refine AB9 ACt rfl (Fa 0 _ rfl) ?_;obtain ⟨Fb,Fc⟩:=ifN Er;refine AUq rfl rfl Fb ?_;obtain ⟨Fd,Fe,Ff⟩:=ABm Fc;refine Aco (l:=[Ek,Em,(.int .i64 (w64 (Int.tdiv Bi Bg)))]) (cl:=[(.pointer (some ⟨Dq,0,none⟩))]) (K':=(fun xr h'=> ∃ x:(LiI),x=Fd/\xr= .tuple #[]/\Kst h h' (Aa.L.set 1 (aO2 (cI .i64) 23 2 Bb Bc Be Af x)))) trivial rfl rfl ?_ fun I7 I9 Fg=>?_
       ·refine cwf (l:=[_,_,_,_]) Tryz.func105 rfl rfl (ABl (Wl (AD1 ABx rfl ((Aa.o2 p1).rowI Ch Ad) (Wl (ABp (ABr ?_))))));obtain ⟨Cj,Fh,Fi⟩:=ABm Fe;obtain ⟨Fj,Fk,Fl⟩:=ACj Fh;refine ACk 4294965632 (fun x:(Int) × (LiI)=>[(11,(.int .i64 x.1))]) (fun k x h'=>iter Fj k (x.1,x.2)=some Cj/\Kst h h' (Aa.L.set 1 (aO2 (cI .i64) 23 2 Bb Bc Be Af x.2))) (by kernel_rfl) fuel ((0,Ce):(Int) × (LiI)) ?_ ⟨rfl,trivial⟩ ?_
        ·exact ⟨Fl,Aa⟩
        rintro Ja ⟨Ck,Cm⟩ Jc Je ⟨Fm,Ab⟩;obtain ⟨Fo,Jf,rfl,Aj,Bj⟩:=AB5 Fm;rw [Fk] at Aj;dsimp only at Aj;unfold AL3 at Aj;refine ABl (AC1 rfl rfl (ABp (ABn (⟨_,rfl,fun Bl=>?_,fun Bl=>?_⟩))))
        ·refine ABt (q_t (ABn (ABr (ABl (Wl ?_)))));obtain ⟨Jg,Cn,Fp⟩:=ABm (AC5 Aj Bl);obtain ⟨Co,Cp,Fq⟩:=ABm Fp;refine AFd (m:=Ah) ABx rfl (Ab.o2 p1) Ch Cn rfl Cp fun Jh Fr=>?_;obtain ⟨Ji,Ft,Fu⟩:=(Ab.o2 p1).cells Fr Cn Cp;obtain rfl:=Ft;refine AB9 ACt rfl (Fu 0 _ rfl) (ACg (ABq (ANr (Wl (Wl (Wl (Wl ?_)))))));obtain ⟨Fv,Av,Fw⟩:=ABm Fq;obtain ⟨Cq,Aw,Fx⟩:=ABm Fw;refine AFd (m:=Ac) ABx rfl (Ab.o2 p1) Cg Av rfl Aw fun Jj Fy=>?_;obtain ⟨Jk,Fz,F4⟩:=(Ab.o2 p1).cells Fy Av Aw;obtain rfl:=Fz;refine AB9 ACt rfl (F4 0 _ rfl) (AB9 ACt rfl ((Ab.b p0).cell (i:=0) rfl) (Wl (AHd rfl rfl (Wl (AMj rfl rfl (AC3 rfl rfl (AB9 ACt rfl ((Ab.b p0).cell (i:=0) rfl) ?_)))))));obtain ⟨F5,F6⟩:=ifN Fx;refine AGj rfl rfl F5 (AFd (m:=Ac) ABx rfl (Ab.o2 p1) Cg Av rfl Aw fun Jl F7=>AJ5 (m:=Ac) (AGf ACt rfl rfl rfl) (Ab.o2 p1) F7 Av Aw (show ((cI .i64)).rep _ (Int.tmod (w64 (Cq + (w64 ((w64 (Ao - (w64 (Int.tdiv Bi Bg)))) * Co)))) Ao) _ from rfl) fun Jm F8 F9=>ACm (q_b (q_t (ABy (AC3 rfl rfl (Wl (ABp ?_)))))));obtain rfl:=ABk F6;exact ⟨Fo,(((w64 (Ck + 1)),(sI Cm Ac (sI Fv Ck (Int.tmod (w64 (Cq + (w64 ((w64 (Ao - (w64 (Int.tdiv Bi Bg)))) * Co)))) Ao)))):(Int) × (LiI)),Nat.lt_succ_self _,⟨Bj,(Ab.uO2 p1 F9 F8)⟩,rfl,trivial⟩
        ·obtain rfl:=ABk (AC6 Aj Bl);change _=Cj at Bj;subst Bj;refine ACd (ACc (ACc (ADo (⟨_,AT1,(Cm:(LiI)),?_,rfl,?_⟩))))
         ·exact ABk Fi
         ·exact Ab
       obtain ⟨Ga,Gb,rfl,Ax⟩:=Fg;refine ⟨trivial,?_⟩;subst Gb;refine ABp (ABn (ANr (Wl (Wl (Wl (Wl (Wl (Wl ?_))))))));obtain ⟨Gc,Cr,Gd⟩:=ABm Ff;refine ADx AB4 rfl (Ax.o2 p1) rfl Cr fun Jn Jo Jp Ge Gf=>AB9 ACo rfl Gf (Wl (Wl ?_));obtain ⟨Gg,Ct,Gh⟩:=ABm Gd;refine ADx AB4 rfl (Ax.o2 p1) rfl Ct fun Jq Jr Js Gi Gj=>AB9 ACo rfl Gj (AVa AB4 ACo (Ax.o2 p1) Gi Ge Ct Cr rfl rfl (fun _=>rfl) (fun _=>rfl) (fun _=>rfl) (fun _ _=>rfl) fun Jt Ju Gk Gl Gm Jv Gn Gp Gq=>ABp (ABy (Wl (ATh rfl (ACg (ACm (q_b (q_t ?_))))))));obtain rfl:=ABk Gh;exact ⟨Ec,(((w64 (0 - Cd)),(sI (sI Ga Ac Gc) Ah Gg),Gk,Gl,Gm):(Int) × (LiI) × LnA × LnN × LvA),Nat.lt_succ_self _,⟨Bf,(Ax.uo2 p1 Gp Gn Gq)⟩,rfl,trivial⟩
      ·obtain rfl:=ABk (AC6 Cf Bh);change _=Cb at Bf;subst Bf;refine ACd (ACc (ACc (ADo (q_b (q_t (ABy (Wl (AC3 rfl rfl (ABq ?_)))))))));obtain rfl:=ABk D7;exact ⟨D5,((Cd,(w64 (Ah + 1)),Ce,Bb,Bc,Be):(Int) × (Int) × (LiI) × LnA × LnN × LvA),Nat.lt_succ_self _,⟨A9,Aa⟩,rfl,rfl,trivial⟩
     ·obtain rfl:=ABk (AC6 Ai Ba);change _=B5 at A9;subst A9;refine ACd (ACc (ACc (ADo (q_b (q_t (ABy (AC3 rfl rfl (Wl (ABp ?_)))))))));obtain rfl:=ABk D0;exact ⟨Dy,((B6,(w64 (Ac + 1)),B7,B8,B9,Ca):(Int) × (Int) × (LiI) × LnA × LnN × LvA),Nat.lt_succ_self _,⟨A7,Ap⟩,rfl,rfl,trivial⟩
    ·obtain rfl:=ABk (AC6 Ag A8);change _=By at A7;subst A7;refine ACd (ACc (ACc (ADo (q_t (ABl (Wl (ABq (ABs (⟨_,ABu,((Bz,B1,B2,B3,B4):(Int) × (LiI) × LnA × LnN × LvA),?_,rfl,?_⟩)))))))))
     ·exact ABk Dt
     ·exact A6.sel [1] (by decide)
   obtain ⟨⟨Gr,Jw,Jx,Jy,Jz⟩,Gt,rfl,Bm⟩:=Dg;refine ⟨trivial,?_⟩;subst Gt;refine Wl (AC3 rfl rfl (ABq (ABn (ABl (Wl (ADh AB4 rfl (Bm.o2 p0).rd (Wl (ABp (ABr ?_)))))))));obtain ⟨Cu,Gu,Gv⟩:=ABm Df;obtain ⟨Gw,Gx,Gy⟩:=ACj Gu;refine ACk 35183835219712 (fun x:(Int) × (Int)=>[(8,(.int .i64 x.1)),(29,(.int .i64 x.2))]) (fun k x h'=>iter Gw k (x.1,x.2)=some Cu/\Kst h h' (Bm.L)) (by kernel_rfl) fuel (((w64 (Gr + a5)),0):(Int) × (Int)) ?_ ⟨rfl,rfl,trivial⟩ ?_
   ·exact ⟨Gy,Bm⟩
   rintro J0 ⟨Gz,Cv⟩ J1 J2 ⟨G3,Ak⟩;obtain ⟨G4,J3,rfl,Am,Bn⟩:=AB5 G3;rw [Gx] at Am;dsimp only at Am;unfold AN9 at Am;refine ABl (AC1 rfl rfl (ABp (ABn (⟨_,rfl,fun Bo=>?_,fun Bo=>?_⟩))))
   ·refine ABt (q_t (ABn (ABr (ABl (Wl ?_)))));obtain ⟨J4,Bp,G5⟩:=ABm (AC5 Am Bo);refine ADx AB4 rfl (Ak.o2 p0) rfl Bp fun J5 J6 J7 G6 G7=>AB9 ACo rfl G7 (ACg (ABq (ANr (Wl (Wl ?_)))));obtain ⟨G8,G9⟩:=ifN G5;refine AGj rfl rfl G8 (Wl (Wl ?_));obtain ⟨Hb,Cw,Hc⟩:=ABm G9;refine AFd (m:=Cv) ABx rfl (Ak.o2 p0) G6 Bp rfl Cw fun J8 Hd=>?_;obtain ⟨J9,He,Hf⟩:=(Ak.o2 p0).cells Hd Bp Cw;obtain rfl:=He;refine AB9 ACt rfl (Hf 0 _ rfl) (AMj rfl rfl (Wl ?_));obtain ⟨Hg,Hh⟩:=ifN Hc;refine AGj rfl rfl Hg (ACg (ACm (q_b (q_t (ABy (AC3 rfl rfl (Wl (ABp ?_))))))));obtain rfl:=ABk Hh;exact ⟨G4,(((Int.tmod (w64 ((Int.tmod Gz a5) * Hb)) a5),(w64 (Cv + 1))):(Int) × (Int)),Nat.lt_succ_self _,⟨Bn,Ak⟩,rfl,rfl,trivial⟩
   ·obtain rfl:=ABk (AC6 Am Bo);change _=Cu at Bn;subst Bn;refine ACd (ACc (ACc (ADo (q_t (ABl (Wl (ACg (ABq (ABs ?_)))))))));obtain rfl:=ABk Gv;exact ⟨_,ADc,Ak.x,rfl⟩
end Go.Proofs.YtiegjkmfpcgjjaaGreatDoor
namespace Go.Proofs.YtiegjkmfpcgjjaaGreatDoor
open Go Go.QF
set_option maxRecDepth 100000
theorem Aqs {E:Type} {body:Int->Option (Int ⊕ E)} {fuel n:Nat} {e:E} (hf:n < fuel) (hs:∀ i:Nat,i < n->body (i:Int)=some (.inl ((i + 1:Nat):Int))) (he:body (n:Int)=some (.inr e)):iter body fuel 0=some e:=by
 apply ok_eq;refine ACv (fun i s=>s=(i:Int)) n rfl hf fun i s hi hI=>?_;subst hI;by_cases h:i < n
 ·rw [hs i h];exact ABi ⟨h,rfl⟩
 ·obtain rfl:i=n:=by omega
  rw [he];exact ABi rfl
theorem Ags {fuel n:Nat} {F:Nat->Nat->Int} (Aa:1<=n) (hn:n<=8) (hf:100 < fuel):AH4 fuel (tab n n F)=some true:=by
 unfold AH4;rw [ADg,if_neg (by omega),if_neg (by omega),Aqo (ADi (by omega)),ADb,if_neg (by omega),if_neg (by omega)];simp only [Option.bind_some];rw [Aqs (n:=n) (e:= .inr ()) (by omega) (fun i hi=>?_) ?_]
 ·rfl
 ·unfold AKw;rw [ADg,if_neg (by omega)]
 ·unfold AKw;rw [ADg,if_pos (by omega),ARc (ADi hi),Aqo (ADi (by omega)),ADb,ADb,if_neg (fun h=>h rfl),AGo (by omega)]
theorem Aty {n j:Nat} {g:Nat->Int} {x:Int}:sI (ADz n g) (j:Int) x=ADz n fun c=>if c=j then x else g c:=by rw [ADy,AEz]
theorem AEi {n i:Nat} {F:Nat->Nat->Int} {g:Nat->Int}:sI (tab n n F) (i:Int) (ADz n g)=tab n n (ADj F i g):=by
 rw [ADy];exact AH5
theorem Aqt {n r:Nat} {F:Nat->Nat->Int} {g g':Nat->Int} (h:∀ c,c < n->g c=g' c):tab n n (ADj F r g)=tab n n (ADj F r g'):=AWp fun i j _ hj=>by
  rw [ACs,ACs,h j hj]
structure Abb (n:Nat) (m:Int) (A F:Nat->Nat->Int) (s:Int) (c:Nat):Prop where
  sg:s=1∨s= -1
  bd:Bd n n m F
  z:Zc n F c
  d:Eqm m (det n F) (s * det n A)
theorem Atz {m a b x y:Int} (hm:2<=m) (Ab:m<=2147483647) (ha:0<=a/\a < m) (hb:0 < b/\b < m) (hx:0<=x/\x < m) (hy:0<=y/\y < m):Int.tmod (w64 (x + (w64 ((w64 (m - (w64 (Int.tdiv a b)))) * y)))) m=(x + (m - a / b) * y) % m:=by
 have hq:=Anx ha.1 ha.2 hb.1;have h1:Int.tdiv a b=a / b:=Int.tdiv_eq_ediv_of_nonneg ha.1;have h0:0<=(m - a / b) * y:=Int.mul_nonneg (by omega) hy.1;have h2:(m - a / b) * y<=2147483647 * 2147483647:=Int.mul_le_mul (by omega) (by omega) hy.1 (by omega);rw [h1,AE5 (x:=a / b) (by omega) (by omega),AE5 (x:=m - a / b) (by omega) (by omega),AE5 (x:=(m - a / b) * y) (by omega) (by omega),wk (by omega),Int.tmod_eq_emod_of_nonneg (by omega)]
theorem At0 {fuel n c i:Nat} {m:Int} {F:Nat->Nat->Int} (hn:n<=8) (hm:2<=m) (Ac:m<=2147483647) (hc:c < n) (hi:i < n) (hne:c≠i) (hB:Bd n n m F) (h0:F i c≠0) (hf:100 < fuel):
    iter (fun s=>AL3 fuel m c i (ADz n (F i)) (F i c) (F c c) s.1 s.2) fuel (0,tab n n F)=some (tab n n (ADj F c fun x=>(F c x + (m - F c c / F i c) * F i x) % m)):=by
 apply ok_eq;refine ACv (fun j s=>s=((j:Int),tab n n (ADj F c fun x=>if x < j then (F c x + (m - F c c / F i c) * F i x) % m else F c x))) n ?_ (by omega) fun j s hj hI=>?_
 ·have:(fun x=>if x < 0 then (F c x + (m - F c c / F i c) * F i x) % m else F c x)=F c:=funext fun x=>if_neg (by omega);rw [this,AN1];rfl
 ·subst hI;unfold AL3;dsimp only;rw [ADb];by_cases h:j < n
  ·have b1:=hB c c hc hc;have b2:=hB i c hi hc;rw [if_pos (by omega),ARc (ADi hi),AD8 _ _ (Ne.symm hne),ARc (ACn h),ARc (ADi hc),AC9,ARc (ACn h),if_pos (by omega),if_neg (by omega),Atz hm Ac (hB c c hc hc) ⟨by omega,b2.2⟩ (hB c j hc h) (hB i j hi h),Aty,AEi,AW1,AGo (by omega)];refine ABi ⟨h,congrArg (fun z=>(((j + 1:Nat):Int),tab n n (ADj F c z))) (funext fun x=>?_)⟩;by_cases h1:x=j
   ·rw [if_pos h1,if_pos (by omega),h1]
   ·rw [if_neg h1];by_cases h2:x < j
    ·rw [if_pos h2,if_pos (by omega)]
    ·rw [if_neg h2,if_neg (by omega)]
  ·obtain rfl:j=n:=by omega
   rw [if_neg (by omega)];exact ABi (Aqt fun x hx=>if_pos hx)
theorem Amw {n c i:Nat} {m s:Int} {A F:Nat->Nat->Int} (hm:2<=m) (hc:c < n) (hi:i < n) (hci:c < i) (H:Abb n m A F s c) (q:Int):Abb n m A (AOi F c i q m) (-s) c:=by
 have h1:=(Eqm.refl m 0).sub H.d;rw [Int.zero_sub,Int.zero_sub] at h1;refine ⟨by rcases H.sg with h | h <;> rw [h] <;> simp,Aja (by omega) H.bd hc hi,Ajb H.z hci hi,(Ami hc hi (by omega)).trans ?_⟩;rw [Int.neg_mul];exact h1
theorem Aiw {fuel n c i:Nat} {m s:Int} {A F:Nat->Nat->Int} (hn:n<=8) (hm:2<=m) (Ab:m<=2147483647) (hc:c < n) (hi:i < n) (hci:c < i) (H:Abb n m A F s c) (hZ:Zi F c i) (hf:2147483648 < fuel):
    Ok (iter (fun s=>AL4 fuel m c i s.1 s.2) fuel (s,tab n n F)) fun e=> ∃ s' F',e=(s',tab n n F')/\Abb n m A F' s' c/\Zi F' c i/\F' i c=0:=by
 refine ACv (fun k st=> ∃ s' F',st=(s',tab n n F')/\Abb n m A F' s' c/\Zi F' c i/\F' i c + k<=m) m.toNat ⟨s,F,rfl,H,hZ,by have:=H.bd i c hi hc;omega⟩ (by omega) fun k st hk hI=>?_;obtain ⟨s',F',rfl,H',hZ',hk'⟩:=hI;have hB:=H'.bd;have b2:=hB i c hi hc;unfold AL4;dsimp only;rw [ARc (ADi hi),ARc (ACn hc)];refine AB3 (fun h=>?_) fun h=>ABi ⟨s',F',rfl,H',hZ',Decidable.not_not.1 h⟩;rw [ARc (ADi hc),ARc (ACn hc),if_pos h,At0 hn hm Ab hc hi (by omega) hB h (by omega)];simp only [Option.bind_some]
 have e1:∀ g,sI (sI (tab n n (ADj F' c g)) (c:Int) (ADz n (F' i))) (i:Int) (ADz n g)=tab n n (AFt (ADj F' c g) c i):=fun g=>by
   rw [AEi,AEi]
   unfold AFt
   rw [AC9,AD8 _ _ (show i≠c by omega)]
 have b1:=hB c c hc hc;rw [ARc (ADi hi),AD8 _ _ (show i≠c by omega),ARc (ADi hc),AC9,e1,AE5 (by rcases H'.sg with h | h <;> omega) (by rcases H'.sg with h | h <;> omega),Int.zero_sub];refine ABi ⟨by omega,-s',_,rfl,Amw hm hc hi hci H' _,Ajc hZ',?_⟩;show AOi F' c i (F' c c / F' i c) m i c + ((k + 1:Nat):Int)<=m;rw [Acx];dsimp only;rw [Ajd b1.1 b1.2 (by omega) b2.2];have:=Int.emod_lt_of_pos (F' c c) (show 0 < F' i c by omega);omega
theorem Aqu {fuel n:Nat} {T:Nat->Nat->Int} {m:Int} (Af:1<=n) (hn:n<=8) (hm:2<=m) (Ad:m<=2147483647) (hf:2147483648 < fuel):AHh fuel (tab n n T) m=some (det n T % m,0):=by
 unfold AHh
 have h0:AK8 fuel (tab n n T)=some true:=by
   unfold AK8
   rw [Ags Af hn (by omega)]
   simp only [Option.bind_some,reduceIte]
   rw [Aqo (ADi (by omega)),ADb,ADg,if_pos rfl,decide_eq_true (by omega)]
 have h1:AEv fuel m=some 0:=by unfold AEv;rw [if_neg (by omega),if_neg (by omega)]
 rw [h0];simp only [Option.bind_some];rw [if_neg (by decide),h1];simp only [Option.bind_some];rw [if_neg (by decide),Aqr hn hm Ad (by omega)];simp only [Option.bind_some];apply ok_eq;generalize hA:(fun i j=>T i j % m)=A;have hAd:Eqm m (det n A) (det n T):=by subst hA;exact AUg fun i j _ _=>Eqm.mod _ _
 have hAb:Bd n n m A:=by subst hA;exact fun i j _ _=>⟨Int.emod_nonneg _ (by omega),Int.emod_lt_of_pos _ (by omega)⟩
 refine ABo (Q:=fun e:Int × List (List Int)=> ∃ F,e.2=tab n n F/\Abb n m A F e.1 n) (ABo (ACv (fun c st=> ∃ s F,st=(s,(c:Int),tab n n F)/\c<=n/\Abb n m A F s c) n (Q:=fun e:Int × List (List Int)=> ∃ F,e.2=tab n n F/\Abb n m A F e.1 n) ⟨1,A,rfl,Nat.zero_le _,.inl rfl,hAb,fun c' i h=>absurd h (Nat.not_lt_zero _),by rw [Int.one_mul];exact Eqm.refl _ _⟩ (by omega) fun c st hc hI=>?_) fun e he=>ABi he) fun e he=>?_
 ·obtain ⟨s,F,rfl,hcn,H⟩:=hI;unfold AN8;dsimp only;rw [ADg];refine AB3 (fun h=>?_) fun h=>ABi ⟨F,rfl,(show c=n by omega) ▸ H⟩;have hc':c < n:=by omega
  rw [AGo (by omega)];refine ABo (ACv (fun k st=> ∃ s F,st=(s,((c + 1 + k:Nat):Int),tab n n F)/\c + 1 + k<=n/\Abb n m A F s c/\Zi F c (c + 1 + k)) (n - (c + 1)) (Q:=fun e:Int × List (List Int)=> ∃ F,e.2=tab n n F/\Abb n m A F e.1 (c + 1)) ⟨s,F,rfl,by omega,H,fun k h1 h2=>by omega⟩ (by omega) fun k st hk hI=>?_) fun e he=>?_
  ·obtain ⟨s',F',rfl,hkn,H',hZ'⟩:=hI;unfold AN7;dsimp only;rw [ADg];refine AB3 (fun h2=>ABo (Aiw hn hm Ad hc' (by omega) (by omega) H' hZ' hf) fun e he=>?_) fun h2=>ABi ⟨F',rfl,H'.sg,H'.bd,Acz H'.z ((show c + 1 + k=n by omega) ▸ hZ'),H'.d⟩;obtain ⟨s2,F2,rfl,H2,Aj,h3⟩:=he;exact ABi ⟨by omega,s2,F2,by rw [AGo (by omega)];rfl,by omega,H2,Acy Aj h3⟩
  ·obtain ⟨e1,e2⟩:=e;obtain ⟨F',h2,H'⟩:=he;dsimp only at h2 H';subst h2;exact ABi ⟨by omega,e1,F',rfl,by omega,H'⟩
 ·obtain ⟨s,M⟩:=e;obtain ⟨F,h2,H⟩:=he;dsimp only at h2 H;subst h2;dsimp only;rw [AE5 (by rcases H.sg with h | h <;> omega) (by rcases H.sg with h | h <;> omega)];refine ABo (ACv (fun k st=>st=(AR9 F m s k,(k:Int))/\k<=n) n (Q:=(· =AR9 F m s n)) ⟨rfl,Nat.zero_le _⟩ (by omega) fun k st hk hI=>?_) fun e he=>ABi ?_
  ·obtain ⟨rfl,hkn⟩:=hI;unfold AN9;dsimp only;rw [ADg];by_cases h:k < n
   ·have hd:=Arw (F:=F) (m:=m) (s:=s) hm H.sg k;have hb:=H.bd k k h h;have h3:=Int.emod_nonneg (AR9 F m s k) (show m≠0 by omega);have h4:=Int.emod_lt_of_pos (AR9 F m s k) (show 0 < m by omega);have h5:=Int.mul_nonneg h3 hb.1;have h6:AR9 F m s k % m * F k k<=2147483647 * 2147483647:=Int.mul_le_mul (by omega) (by omega) hb.1 (by omega);rw [if_pos (by omega),ARc (ADi h),if_pos (by omega),ARc (ACn h),if_pos (by omega),Int.tmod_eq_emod_of_nonneg hd.1,AE5 (x:=AR9 F m s k % m * F k k) (by omega) (by omega),Int.tmod_eq_emod_of_nonneg h5,AGo (by omega)];exact ABi ⟨h,rfl,by omega⟩
   ·obtain rfl:k=n:=by omega
    rw [if_neg (by omega)];exact ABi rfl
  ·subst he
   have h3:Eqm m (AR9 F m s n) (det n T):=by
     refine (Apw _).trans ?_
     rw [<- ARp H.z]
     refine ((Eqm.refl m s).mul H.d).trans (Eqm.trans (Eqm.of_eq ?_) hAd)
     rcases H.sg with h | h <;> rw [h] <;> grind
   have h4:0<=AR9 F m s n/\AR9 F m s n < m:=by
     obtain ⟨k,rfl⟩:∃ k,n=k + 1:=⟨n - 1,by omega⟩
     unfold AR9
     exact ⟨Int.emod_nonneg _ (by omega),Int.emod_lt_of_pos _ (by omega)⟩
   unfold Eqm at h3;rw [<- h3,Int.emod_eq_of_lt h4.1 h4.2]
end Go.Proofs.YtiegjkmfpcgjjaaGreatDoor
namespace Go.Proofs.YtiegjkmfpcgjjaaGreatDoor
open Go Go.QF
set_option maxRecDepth 100000
theorem Aww {E:Type} {body:Int->Option (Int ⊕ (E ⊕ Unit))} {fuel n:Nat} (good:Nat->Prop) (bad:E) (hf:n < fuel) (hs:∀ i:Nat,i < n->Ok (body (i:Int)) fun r=>(r= .inl ((i + 1:Nat):Int)/\good i)∨(r= .inr (.inl bad)/\¬ good i)) (he:body (n:Int)=some (.inr (.inr ()))):
    Ok (iter body fuel 0) fun ex=>(ex= .inr ()/\ ∀ i,i < n->good i)∨(ex= .inl bad/\¬ ∀ i,i < n->good i):=by
  refine ACv (fun i s=>s=(i:Int)/\ ∀ j,j < i->good j) n ⟨rfl,fun j hj=>absurd hj (Nat.not_lt_zero j)⟩ hf fun i s hi hI=>?_;obtain ⟨rfl,hI⟩:=hI
  by_cases h:i < n
  · refine Ass (hs i h) fun r hr=>?_
    rcases hr with ⟨rfl,hg⟩ | ⟨rfl,hg⟩
    · exact ⟨h,rfl,fun j hj=>(Nat.lt_succ_iff_lt_or_eq.1 hj).elim (hI j) fun e=>e ▸ hg⟩
    · exact .inr ⟨rfl,fun hall=>hg (hall i h)⟩
  · obtain rfl:i=n:=by omega
    rw [he];exact ABi (.inl ⟨rfl,hI⟩)
theorem At1 {α:Type} {body:List α × Int->Option ((List α × Int) ⊕ List α)} {fuel n:Nat} (f:Nat->α) (hf:n < fuel) (hs:∀ i:Nat,i < n->body (ADz i f,(i:Int))=some (.inl (ADz i f ++ [f i],((i + 1:Nat):Int)))) (he:∀ X,body (X,(n:Int))=some (.inr X)):iter body fuel ([],0)=some (ADz n f):=by
  apply ok_eq;refine ACv (fun i s=>s=(ADz i f,(i:Int))) n rfl hf fun i s hi hI=>?_;subst hI
  by_cases h:i < n
  · rw [hs i h,AN0];exact ABi ⟨h,rfl⟩
  · obtain rfl:i=n:=by omega
    rw [he];exact ABi rfl
theorem AWe {p:Int} (hp:1<=p) {a b:Nat} (h:a<=b):p ^ a<=p ^ b:=by
 obtain ⟨c,rfl⟩:∃ c,b=a + c:=⟨b - a,by omega⟩;rw [Int.pow_add];have h1:0 < p ^ a:=Int.pow_pos (by omega);have h2:0 < p ^ c:=Int.pow_pos (by omega);have:=Int.mul_le_mul_of_nonneg_left (show 1<=p ^ c by omega) (Int.le_of_lt h1);omega
end Go.Proofs.YtiegjkmfpcgjjaaGreatDoor
namespace Go.Proofs.YtiegjkmfpcgjjaaGreatDoor
open Go Go.QF
set_option maxRecDepth 100000
set_option maxHeartbeats 4000000
def AJn (fuel:Nat) (a1 a2:Int):Option Int:=
  (if a2≠0 then (if a2≠0 then (some (Int.tmod (w64 ((Int.tmod a1 a2) + a2)) a2)) else none) else none)
theorem AQd {fuel:Nat} {h:ABj} {a1 a2 r:Int} (hp:AJn fuel a1 a2=some r):ACa Tryz.prog 79 #[(.int .i64 a1),(.int .i64 a2)] h (fun x h'=>Ext h h'/\x= .int .i64 r):=by
 unfold AJn at hp;refine cwf (l:=[_,_]) Tryz.func79 rfl rfl (ABl (ACr (Wl (Wl ?_))));obtain ⟨Ac,Ad⟩:=ifN hp;refine AGj rfl rfl Ac (Wl (AC3 rfl rfl (Wl ?_)));obtain ⟨Ae,Af⟩:=ifN Ad;refine AGj rfl rfl Ae (ABq (ABs ?_));obtain rfl:=ABk Af;exact ⟨_,ABu,(Kst.k0 h).x,rfl⟩
def ANk (fuel:Nat) (Ac Aa Ab:Int):Option ((Int × Int) ⊕ ((Int × Int))):=
  (if (Int.tmod Aa 2)=0 then (if (Int.tmod Ac 8)=3 then (some (Sum.inl ((w64 (Int.tdiv Aa 2)),(w64 (0 - Ab))))) else (if (Int.tmod Ac 8)=5 then (some (Sum.inl ((w64 (Int.tdiv Aa 2)),(w64 (0 - Ab))))) else (some (Sum.inl ((w64 (Int.tdiv Aa 2)),Ab))))) else (some (Sum.inr<| (Aa,Ab))))
def ANl (fuel:Nat) (Ad Aa Ae:Int):Option ((Int × Int × Int) ⊕ ((Int × Int))):=
  (if ¬ Ad=0 then ((iter (fun s=>ANk fuel Aa s.1 s.2) fuel (Ad,Ae)).bind (fun ((Ab,Ac):Int × Int)=>(((if (Int.tmod Ab 4)=3 then (if (Int.tmod Aa 4)=3 then (some ( (w64 (0 - Ac)))) else (some ( Ac))) else (some ( Ac))):Option ((Int))).bind (fun (Af:Int)=>(if Ab≠0 then (some (Sum.inl ((Int.tmod Aa Ab),Ab,Af))) else none))))) else (some (Sum.inr<| (Aa,Ae))))
def ALz (fuel:Nat) (a1 a2:Int):Option Int:=
  ((iter (fun s=>ANl fuel s.1 s.2.1 s.2.2) fuel (a1,a2,1)).bind (fun ((Ac,Ad):Int × Int)=>(if ¬ Ac=1 then (some 0) else (some Ad))))
theorem AWf {fuel:Nat} {h:ABj} {a1 a2 r:Int} (hp:ALz fuel a1 a2=some r):ACa Tryz.prog 80 #[(.int .i64 a1),(.int .i64 a2)] h (fun x h'=>Ext h h'/\x= .int .i64 r):=by
 unfold ALz at hp;refine cwf (l:=[_,_]) Tryz.func80 rfl rfl (ABl (ACr (ABq (ABn (ABr ?_)))));have K0:=Kst.k0 h;obtain ⟨Ax,A8,Ay⟩:=ABm hp;obtain ⟨A9,Ba,Bb⟩:=ACj A8;refine ACk 137438953443 (fun x:(Int) × (Int) × (Int)=>[(0,(.int .i64 x.1)),(1,(.int .i64 x.2.1)),(5,(.int .i64 x.2.2))]) (fun k x h'=>iter A9 k (x.1,x.2.1,x.2.2)=some Ax/\Kst h h' (K0.L)) (by kernel_rfl) fuel ((a1,a2,1):(Int) × (Int) × (Int)) ?_ ⟨rfl,rfl,rfl,trivial⟩ ?_
 ·exact ⟨Bb,K0⟩
 rintro k9 ⟨Bc,Az,u16⟩ Bw Bx ⟨Be,Ag⟩;obtain ⟨Bf,By,rfl,Ad,Am⟩:=AB5 Be;rw [Ba] at Ad;dsimp only at Ad;unfold ANl at Ad;refine ABn (ABl (Wl (AHz rfl rfl (ABp (⟨_,rfl,fun Ao=>?_,fun Ao=>?_⟩)))))
 ·refine ABt (q_t (ABr (ABn (ABr ?_))));obtain ⟨A3,Bg,Bh⟩:=ABm (AC5 Ad Ao);obtain ⟨Bi,Bj,Bl⟩:=ACj Bg;refine ACk 8388385 (fun x:(Int) × (Int)=>[(0,(.int .i64 x.1)),(5,(.int .i64 x.2))]) (fun k x h'=>iter Bi k (x.1,x.2)=some A3/\Kst h h' (Ag.L)) (by kernel_rfl) fuel ((Bc,u16):(Int) × (Int)) ?_ ⟨rfl,rfl,trivial⟩ ?_
  ·exact ⟨Bl,Ag⟩
  rintro Bz ⟨Ab,Ac⟩ B1 B2 ⟨Bm,Aa⟩;obtain ⟨Ap,B3,rfl,Ae,Af⟩:=AB5 Bm;rw [Bj] at Ae;dsimp only at Ae;unfold ANk at Ae;refine ABn (ABl (Wl (AGj rfl rfl (by decide) (ADk rfl rfl (ABp (⟨_,rfl,fun Aq=>?_,fun Aq=>?_⟩))))))
  ·refine ABt (q_t (ABr (ABl (Wl (AUq rfl rfl (by decide) (ACr (Wl (AGj rfl rfl (by decide) (ADk rfl rfl (Wl ?_))))))))));have A4:=AC5 Ae Aq;by_cases Ah:(Int.tmod Az 8)=3
   ·rw [decide_eq_true Ah];refine AG1 16 true (ABz rfl (ABp (ACe rfl (ABy (Wl (ATh rfl (ACg (ACm (q_b (q_t ?_))))))))));obtain rfl:=ABk (ifT A4 Ah);exact ⟨Ap,(((w64 (Int.tdiv Ab 2)),(w64 (0 - Ac))):(Int) × (Int)),Nat.lt_succ_self _,⟨Af,Aa⟩,rfl,rfl,trivial⟩
   ·have A5:=ifF A4 Ah;rw [decide_eq_false Ah];refine ACb 16 false (Wl (ACb 16 false (AGj rfl rfl (by decide) (ACb 16 false (ADk rfl rfl (ABw rfl (ABp (⟨_,rfl,fun Ar=>?_,fun Ar=>?_⟩))))))))
    ·refine ABy (Wl (ATh rfl (ACg (ACm (q_b (q_t ?_))))));obtain rfl:=ABk (AC5 A5 Ar);exact ⟨Ap,(((w64 (Int.tdiv Ab 2)),(w64 (0 - Ac))):(Int) × (Int)),Nat.lt_succ_self _,⟨Af,Aa⟩,rfl,rfl,trivial⟩
    ·refine ABt (q_b (q_t ?_));obtain rfl:=ABk (AC6 A5 Ar);exact ⟨Ap,(((w64 (Int.tdiv Ab 2)),Ac):(Int) × (Int)),Nat.lt_succ_self _,⟨Af,Aa⟩,rfl,rfl,trivial⟩
  ·obtain rfl:=ABk (AC6 Ae Aq);change _=A3 at Af;subst Af;refine ACd (ACc (ACc (ADo (q_t ?_))));obtain ⟨Bn,A6,Bo⟩:=ABm Bh;refine ANx 8581546016 (fun x:(Int)=>[(5,(.int .i64 x))]) (fun x h'=>( x)=Bn/\Kst h h' (Aa.L)) ?_ ?_
   ·refine ABl (Wl (AGj rfl rfl (by decide) (ADk rfl rfl (Wl ?_))));by_cases Ai:(Int.tmod Ab 4)=3
    ·have A7:=ifT A6 Ai;rw [decide_eq_true Ai];refine ACb 26 true (Wl (ACb 26 true (AGj rfl rfl (by decide) (ACb 26 true (ADk rfl rfl (ABz rfl (ABp (⟨_,rfl,fun Au=>?_,fun Au=>?_⟩))))))))
     ·refine ABy (Wl (ATh rfl (ABq ?_)));exact ⟨((w64 (0 - Ac)):(Int)),⟨ABk (AC5 A7 Au),Aa⟩,rfl,trivial⟩
     ·refine ABt (q_t ?_);exact ⟨(Ac:(Int)),⟨ABk (AC6 A7 Au),Aa⟩,rfl,trivial⟩
    ·rw [decide_eq_false Ai];refine AG1 26 false (ABw rfl (ABp (ACf rfl (ABt (q_t ?_)))));exact ⟨(Ac:(Int)),⟨ABk (ifF A6 Ai),Aa⟩,rfl,trivial⟩
   rintro Bp B4 B5 ⟨Bq,Br⟩;subst Bq;refine ABy (Wl (Wl ?_));obtain ⟨Bt,Bu⟩:=ifN Bo;refine AGj rfl rfl Bt (Wl (ACg (ACg (ACm (q_b (q_t ?_))))));obtain rfl:=ABk Bu;exact ⟨Bf,(((Int.tmod Az Ab),Ab,Bp):(Int) × (Int) × (Int)),Nat.lt_succ_self _,⟨Am,Br⟩,rfl,rfl,rfl,trivial⟩
 ·obtain rfl:=ABk (AC6 Ad Ao);change _=Ax at Am;subst Am;refine ACd (ACc (ACc (ADo (q_t (ABn (ABl (Wl (AHz rfl rfl (ABp (⟨_,rfl,fun Av=>?_,fun Av=>?_⟩))))))))))
  ·refine ABl (ABq (ABs (AB2 ?_)));obtain rfl:=ABk (AC5 Ay Av);exact ⟨_,ABu,Ag.x,rfl⟩
  ·refine ABt (q_t (ABl (Wl (ABq (ABs ?_)))));obtain rfl:=ABk (AC6 Ay Av);exact ⟨_,ABu,Ag.x,rfl⟩
def AJs (fuel:Nat) (a1 Ab Aa:Int):Option ((Int × Int) ⊕ (((Int × Int)) ⊕ (Int × Int))):=
  (if (Int.tmod Ab 2)=0 then (if (Int.tmod a1 2)=0 then (some (Sum.inr<| Sum.inl <| (0,0))) else ((((AJn fuel a1 8).bind fun Ad=>(if Ad=3 then (some ( (w64 (0 - Aa)))) else (if Ad=5 then (some ( (w64 (0 - Aa)))) else (some ( Aa))))):Option ((Int))).bind (fun (Ae:Int)=>(some (Sum.inl ((w64 (Int.tdiv Ab 2)),Ae)))))) else (some (Sum.inr<| Sum.inr <| (Ab,Aa))))
def AGp (fuel:Nat) (a1 a2:Int):Option (Int × Int):=
  (((if a1 < (-2147483647) then (some (Sum.inl <| (0,1))) else (if 2147483647 < a1 then (some (Sum.inl <| (0,1))) else (if a2 < (-2147483647) then (some (Sum.inl <| (0,1))) else (if 2147483647 < a2 then (some (Sum.inl <| (0,1))) else (some (Sum.inr <| ())))))):Option (((Int × Int)) ⊕ (Unit))).bind (fun ex=>match ex with | Sum.inl Ad=>(some Ad) | Sum.inr (_)=>(if a2=0 then (if a1=1 then (some (1,0)) else (if a1=(-1) then (some (1,0)) else (some (0,0)))) else (((if a2 < 0 then (if a1 < 0 then (some ( ((w64 (0 - a2)),(-1)))) else (some ( ((w64 (0 - a2)),1)))) else (some ( (a2,1)))):Option ((Int × Int))).bind (fun ((Ae,Af):Int × Int)=>((iter (fun s=>AJs fuel a1 s.1 s.2) fuel (Ae,Af)).bind (fun ex=>match ex with | Sum.inl Ag=>(some Ag) | Sum.inr ((Ac,Ah))=>((AJn fuel a1 Ac).bind fun Ai=>((ALz fuel Ai Ac).bind fun Aj=>(some ((w64 (Ah * Aj)),0)))))))))))
theorem ATz {fuel:Nat} {h:ABj} {a1 a2:Int} {r:(Int × Int)} (hp:AGp fuel a1 a2=some r):ACa Tryz.prog 49 #[(.int .i64 a1),(.int .i64 a2)] h (fun x h'=>Ext h h'/\x= .tuple #[.int .i64 r.1,.int .i64 r.2]):=by
 unfold AGp at hp;refine cwf (l:=[_,_]) Tryz.func49 rfl rfl (ABl (ACg (ABq ?_)));have K0:=Kst.k0 h;obtain ⟨Bj,A5,Ad⟩:=ABm hp;refine ANx 4194096 (fun x:Unit=>[]) (fun x h'=>(Sum.inr <| ())=Bj/\Kst h h' (K0.L)) ?_ ?_
 ·refine ABl (Wl (AC1 rfl rfl (Wl ?_)));by_cases Ah:a1 < (-2147483647)
  ·rw [decide_eq_true Ah];refine AGh 10 true (ABz rfl (Wl (AGh 14 true (ABz rfl (Wl (AGh 18 true (ABz rfl (ABp (ACe rfl (ABl (ACg (ABq ?_))))))))))));obtain rfl:=ABk (ifT A5 Ah);refine ABs (AB2 ?_);obtain rfl:=ABk Ad;exact ⟨_,ADc,K0.x,rfl⟩
  ·have A6:=ifF A5 Ah;rw [decide_eq_false Ah];refine ACb 10 false (Wl (ACb 10 false (AJe rfl rfl (ABw rfl (Wl ?_)))));by_cases Ai:2147483647 < a1
   ·rw [decide_eq_true Ai];refine AGh 14 true (ABz rfl (Wl (AGh 18 true (ABz rfl (ABp (ACe rfl (ABl (ACg (ABq ?_)))))))));obtain rfl:=ABk (ifT A6 Ai);refine ABs (AB2 ?_);obtain rfl:=ABk Ad;exact ⟨_,ADc,K0.x,rfl⟩
   ·have A7:=ifF A6 Ai;rw [decide_eq_false Ai];refine ACb 14 false (Wl (ACb 14 false (AC1 rfl rfl (ABw rfl (Wl ?_)))));by_cases Aj:a2 < (-2147483647)
    ·rw [decide_eq_true Aj];refine AGh 18 true (ABz rfl (ABp (ACe rfl (ABl (ACg (ABq ?_))))));obtain rfl:=ABk (ifT A7 Aj);refine ABs (AB2 ?_);obtain rfl:=ABk Ad;exact ⟨_,ADc,K0.x,rfl⟩
    ·have A8:=ifF A7 Aj;rw [decide_eq_false Aj];refine ACb 18 false (Wl (ACb 18 false (AJe rfl rfl (ABw rfl (ABp (⟨_,rfl,fun Ap=>?_,fun Ap=>?_⟩))))))
     ·refine ABl (ACg (ABq ?_));obtain rfl:=ABk (AC5 A8 Ap);refine ABs (AB2 ?_);obtain rfl:=ABk Ad;exact ⟨_,ADc,K0.x,rfl⟩
     ·refine ABt (q_t ?_);exact ⟨(():Unit),⟨ABk (AC6 A8 Ap),K0⟩,trivial⟩
 rintro ⟨⟩ Ci Cj ⟨Bl,Aa⟩;subst Bl;refine ABn (ABl (Wl (ADk rfl rfl (ABp (⟨_,rfl,fun Aq=>?_,fun Aq=>?_⟩)))))
 ·refine ABn (ABl (Wl (ADk rfl rfl (Wl ?_))));have A9:=AC5 Ad Aq;by_cases Ak:a1=1
  ·rw [decide_eq_true Ak];refine AGh 26 true (ABz rfl (ABp (ACe rfl (ABl (ACg (ABq (ABs (AB2 (AB2 ?_)))))))));obtain rfl:=ABk (ifT A9 Ak);exact ⟨_,ADc,Aa.x,rfl⟩
  ·have Ba:=ifF A9 Ak;rw [decide_eq_false Ak];refine ACb 26 false (Wl (ACb 26 false (ADk rfl rfl (ABw rfl (ABp (⟨_,rfl,fun Ar=>?_,fun Ar=>?_⟩))))))
   ·refine ABl (ACg (ABq (ABs (AB2 (AB2 ?_)))));obtain rfl:=ABk (AC5 Ba Ar);exact ⟨_,ADc,Aa.x,rfl⟩
   ·refine ABt (q_t (ABl (ACg (ABq (ABs (AB2 ?_))))));obtain rfl:=ABk (AC6 Ba Ar);exact ⟨_,ADc,Aa.x,rfl⟩
 ·refine ABt (q_t (ABl (ABq ?_)));obtain ⟨Bm,Bb,Bn⟩:=ABm (AC6 Ad Aq);refine ANx 67645734978 (fun x:(Int) × (Int)=>[(1,(.int .i64 x.1)),(6,(.int .i64 x.2))]) (fun x h'=>( (x.1,x.2))=Bm/\Kst h h' (Aa.L)) ?_ ?_
  ·refine ABl (Wl (AC1 rfl rfl (ABp (⟨_,rfl,fun Au=>?_,fun Au=>?_⟩))))
   ·refine ABl (Wl (ATh rfl (ACr (Wl (AC1 rfl rfl (ABp ?_))))));have Bc:=AC5 Bb Au;refine ⟨_,rfl,fun Av=>?_,fun Av=>?_⟩
    ·refine ABy (ABq ?_);exact ⟨(((w64 (0 - a2)),(-1)):(Int) × (Int)),⟨ABk (AC5 Bc Av),Aa⟩,rfl,rfl,trivial⟩
    ·refine ABt (q_t ?_);exact ⟨(((w64 (0 - a2)),1):(Int) × (Int)),⟨ABk (AC6 Bc Av),Aa⟩,rfl,rfl,trivial⟩
   ·refine ABt (q_t ?_);exact ⟨((a2,1):(Int) × (Int)),⟨ABk (AC6 Bb Au),Aa⟩,rfl,rfl,trivial⟩
  rintro ⟨u64,Bo⟩ Ck Cm ⟨Bp,Be⟩;subst Bp;refine ABn (ABr ?_);obtain ⟨Aw,Bq,Bf⟩:=ABm Bn;obtain ⟨Br,Bt,Bu⟩:=ACj Bq;refine ACk 18014329790005490 (fun x:(Int) × (Int)=>[(1,(.int .i64 x.1)),(6,(.int .i64 x.2))]) (fun k x h'=>iter Br k (x.1,x.2)=some Aw/\Kst h h' (Be.L)) (by kernel_rfl) fuel ((u64,Bo):(Int) × (Int)) ?_ ⟨rfl,rfl,trivial⟩ ?_
  ·exact ⟨Bu,Be⟩
  rintro Cn ⟨Bv,Ax⟩ Co Cp ⟨Bw,Am⟩;obtain ⟨Bx,Cq,rfl,Af,Ag⟩:=AB5 Bw;rw [Bt] at Af;dsimp only at Af;unfold AJs at Af;refine ABn (ABl (Wl (AGj rfl rfl (by decide) (ADk rfl rfl (ABp (⟨_,rfl,fun Ay=>?_,fun Ay=>?_⟩))))))
  ·refine ABt (q_t (ABr (ABn (ABl (Wl (AGj rfl rfl (by decide) (ADk rfl rfl (ABp ?_))))))));have Bg:=AC5 Af Ay;refine ⟨_,rfl,fun Az=>?_,fun Az=>?_⟩
   ·refine ABl (ACg (ABq ?_));obtain rfl:=ABk (AC5 Bg Az);change _=Aw at Ag;subst Ag;refine ABs (AB2 (ADp (AB2 (ADp (AB2 ?_)))));obtain rfl:=ABk Bf;exact ⟨_,ADc,Am.x,rfl⟩
   ·refine ABt (q_t ?_);obtain ⟨By,Bz,B1⟩:=ABm (AC6 Bg Az);refine ANx 4499201580859584 (fun x:(Int)=>[(6,(.int .i64 x))]) (fun x h'=>( x)=By/\Kst h h' (Am.L)) ?_ ?_
    ·refine ABl (Wl ?_);obtain ⟨B2,B3,Bh⟩:=ABm Bz;refine ACw rfl (AQd B3) fun Cr Ct B4 B5=>?_;subst B5;refine ACr (Wl (ADk rfl rfl (Wl ?_)));have A3:=Am.e B4;by_cases Ao:B2=3
     ·rw [decide_eq_true Ao];refine AGh 46 true (ABz rfl (ABp (ACe rfl (ABy (Wl (ATh rfl (ABq ?_)))))));exact ⟨((w64 (0 - Ax)):(Int)),⟨ABk (ifT Bh Ao),A3⟩,rfl,trivial⟩
     ·have Bi:=ifF Bh Ao;rw [decide_eq_false Ao];refine ACb 46 false (Wl (ACb 46 false (ADk rfl rfl (ABw rfl (ABp (⟨_,rfl,fun A4=>?_,fun A4=>?_⟩))))))
      ·refine ABy (Wl (ATh rfl (ABq ?_)));exact ⟨((w64 (0 - Ax)):(Int)),⟨ABk (AC5 Bi A4),A3⟩,rfl,trivial⟩
      ·refine ABt (q_t ?_);exact ⟨(Ax:(Int)),⟨ABk (AC6 Bi A4),A3⟩,rfl,trivial⟩
    rintro B6 Cu Cv ⟨B7,B8⟩;subst B7;refine ABy (Wl (AUq rfl rfl (by decide) (ACg (ACm (q_b (q_t ?_))))));obtain rfl:=ABk B1;exact ⟨Bx,(((w64 (Int.tdiv Bv 2)),B6):(Int) × (Int)),Nat.lt_succ_self _,⟨Ag,B8⟩,rfl,rfl,trivial⟩
  ·obtain rfl:=ABk (AC6 Af Ay);change _=Aw at Ag;subst Ag;refine ACd (ACc (ACc (ADo (q_t (ABl (Wl (Wl (Wl ?_))))))));obtain ⟨Cw,B9,Ca⟩:=ABm Bf;refine ACw rfl (AQd B9) fun Cx Cy Cb Cd=>?_;subst Cd;refine Wl ?_;obtain ⟨Cz,Ce,Cf⟩:=ABm Ca;refine ACw rfl (AWf Ce) fun C0 C1 Cg Ch=>?_;subst Ch;refine AMj rfl rfl (ACg (ABq (ABs ?_)));obtain rfl:=ABk Cf;exact ⟨_,ADc,((Am.e Cb).e Cg).x,rfl⟩
end Go.Proofs.YtiegjkmfpcgjjaaGreatDoor
namespace Go.QF
open Classical in
noncomputable def Aix (A:List (List Int)) (m:Int):Int:=if AIi A then (if AQh m then (if ∃ y,AK3 m (Aa9 A m) y then 0 else 8) else 1) else 3
open Classical in
noncomputable def Aal (A:List (List Int)) (m:Int):List (List Int):=if AIi A=true/\AQh m=true/\ ∃ y,AK3 m (Aa9 A m) y then tab A.length A.length (fun i j=>AMh A.length (ent (AMd A m)) i j * AY1 m (Aa9 A m) % m) else []
theorem Ach {m x r:Int} (h:AK3 m x r):Eqm m (r * x) 1:=h.2.2
theorem Aqv {m x r:Int} (hm:2<=m) (h:Eqm m (r * x) 1):∃ y,AK3 m x y:=⟨r % m,Int.emod_nonneg _ (by omega),Int.emod_lt_of_pos _ (by omega),by
  rw [Int.mul_emod,Int.emod_emod,<- Int.mul_emod];exact h⟩
theorem Aam {n:Nat} {m u d:Int} {A B:Nat->Nat->Int} (hu:Eqm m (u * d) 1) (hd:Eqm m d (det n A)) (hBA:∀ i j,i < n->j < n->Eqm m (psum (fun k=>B i k * A k j) n) (dl i j)) {i j:Nat} (hi:i < n) (hj:j < n):Eqm m (B i j) (AMh n A i j * u):=by
  have h1:Eqm m (psum (fun k=>B i k * psum (fun l=>A k l * (AMh n A l j * u)) n) n) (B i j):=by
    have e1:∀ k,k < n->Eqm m (psum (fun l=>A k l * (AMh n A l j * u)) n) (dl k j):=fun k hk=>by
      have e2:psum (fun l=>A k l * (AMh n A l j * u)) n=u * psum (fun l=>A k l * AMh n A l j) n:=by
        rw [<- ADf];exact ABv fun l _=>by grind
      rw [e2,Ab5 hk hj];refine Eqm.trans (Eqm.of_eq (show u * (det n A * dl k j)=u * det n A * dl k j by rw [Int.mul_assoc])) ?_;have:=(((Eqm.refl m u).mul hd.symm).trans hu).mul (Eqm.refl m (dl k j));rwa [Int.one_mul] at this
    refine Eqm.trans (Eqm.psum fun k hk=>(Eqm.refl m (B i k)).mul (e1 k hk)) (Eqm.of_eq ?_);exact Aib (F:=B) (i:=i) hj
  have h2:psum (fun k=>B i k * psum (fun l=>A k l * (AMh n A l j * u)) n) n=psum (fun l=>psum (fun k=>B i k * A k l) n * (AMh n A l j * u)) n:=by
    rw [ABv (g:=fun k=>psum (fun l=>B i k * A k l * (AMh n A l j * u)) n) (fun k _=>by rw [<- ADf];exact ABv fun l _=>by rw [Int.mul_assoc]),AN2];refine ABv fun l _=>?_;rw [Int.mul_comm (psum (fun k=>B i k * A k l) n),<- ADf];exact ABv fun k _=>by rw [Int.mul_comm]
  refine h1.symm.trans ((Eqm.of_eq h2).trans ?_);refine Eqm.trans (Eqm.psum (g:=fun l=>dl i l * (AMh n A l j * u)) fun l hl=>(hBA i l hi hl).mul (Eqm.refl _ _)) (Eqm.of_eq ?_);rw [AN6 hi (fun k hk hne=>by unfold dl;rw [if_neg (fun h=>hne h.symm)];simp)];simp [dl]
end Go.QF
namespace Go.Proofs.YtiegjkmfpcgjjaaGreatDoor
open Go Go.QF
def QJ (A:List (List Int)) (m:Int) (F:Nat->Nat->Int) (s:Int):Prop:=Af2 A.length m (ent (AMd A m)) F
theorem Aqw (A:List (List Int)) (m:Int):Apm A.length (A.length + A.length) m (QJ A m):=fun F s c i q hc hi hne _ _ _ H=>Aac (Aik hc hi hne) H
noncomputable def AWg (fuel:Nat) (M:List (List Int)) (m:Int):Option (List (List Int) × Int):=some (Aal M m,Aix M m)
theorem Agt {h:ABj} {v:Value} {M:List (List Int)} (HM:Mat h v M) (m:Int):ACa Tryz.prog 39 #[v,.int .i64 m] h fun x h'=>Ext h h'/\ ∃ r,x= .tuple #[r,.int .i64 (Aix M m)]/\Mat h' r (Aal M m)/\ANt r:=by
 refine (Af1 HM m (QJ M m) (fun _ _=>Apx) (Aqw M m)).mono fun x h' ⟨⟨hE,r,e,hx,hk⟩,hcp⟩=>⟨hE,r,?_⟩;have hcr:=hcp _ _ hx;clear hcp;subst hx;rw [<- and_assoc];refine ⟨?_,hcr⟩;rcases hk with ⟨h1,rfl,h2⟩ | ⟨h1,h2,rfl,h3⟩ | ⟨h1,h2,F1,s,hs,hQ,hbd,hz,hk⟩
 ·refine ⟨by simp [Aix,h1],?_⟩;rw [show Aal M m=[] by unfold Aal;rw [if_neg (fun h=>by rw [h1] at h;cases h.1)]];exact h2
 ·refine ⟨by simp [Aix,h1,h2],?_⟩;rw [show Aal M m=[] by unfold Aal;rw [if_neg (fun h=>by rw [h2] at h;cases h.2.1)]];exact h3
 ·have hm:=ATn h2
  have hD:Eqm m (Aa9 M m) (det M.length (ent (AMd M m))):=by
    have e1:Aa9 M m=det M.length (ent M) % m:=by simp [Aa9,h1,h2]
    rw [e1]
    refine (Eqm.mod _ _).trans (AUg fun i j _ _=>?_)
    rw [Arr];exact (Eqm.mod _ _).symm
  rcases hk with ⟨rfl,h3,c,hc,hno⟩ | ⟨rfl,hun,h3⟩
  ·have hnot: ¬ ∃ y,AK3 m (Aa9 M m) y:=by
     rintro ⟨y,hy⟩
     refine hno (Ap0 hm.1 hz hQ (V:=fun i k=>y * AMh M.length (ent (AMd M m)) i k) (fun i j hi hj=>?_) c hc)
     have e2:psum (fun k=>y * AMh M.length (ent (AMd M m)) i k * ent (AMd M m) k j) M.length=y * psum (fun k=>AMh M.length (ent (AMd M m)) i k * ent (AMd M m) k j) M.length:=by
       rw [<- ADf];exact ABv fun k _=>by rw [Int.mul_assoc]
     rw [e2,Ap1 hi hj]
     refine Eqm.trans (Eqm.of_eq (show y * (det M.length (ent (AMd M m)) * dl i j)=y * det M.length (ent (AMd M m)) * dl i j by rw [Int.mul_assoc])) ?_
     have:=(((Eqm.refl m y).mul hD.symm).trans (Ach hy)).mul (Eqm.refl m (dl i j))
     rwa [Int.one_mul] at this
   refine ⟨by simp [Aix,h1,h2,hnot],?_⟩;rw [show Aal M m=[] by unfold Aal;rw [if_neg (fun h=>hnot h.2.2)]];exact h3
  ·obtain ⟨hBA,hAB⟩:=Apy hm.1 hbd hz hun hQ
   have hyes:∃ y,AK3 m (Aa9 M m) y:=by
     have e1:=AV4 (n:=M.length) (fun i j=>AHw m M.length F1 M.length i (M.length + j)) (ent (AMd M m))
     have e2:Eqm m (det M.length (AE9 M.length (fun i j=>AHw m M.length F1 M.length i (M.length + j)) (ent (AMd M m)))) (det M.length dl):=AUg fun i j hi hj=>hBA i j hi hj
     rw [e1,Aia] at e2
     exact Aqv hm.1 (((Eqm.refl _ _).mul hD).trans e2)
   refine ⟨by simp [Aix,h1,h2,hyes],?_⟩
   have e3:Aal M m=tab M.length M.length fun i j=>AHw m M.length F1 M.length i (M.length + j):=by
     unfold Aal
     rw [if_pos ⟨h1,h2,hyes⟩]
     obtain ⟨y,hy⟩:=hyes
     have hu:=Ach (AT3 hy)
     refine AWp fun i j hi hj=>?_
     have h5:=Aam (B:=fun i k=>AHw m M.length F1 M.length i (M.length + k)) hu hD hBA hi hj
     have h6:=Ac0 (n:=M.length) (by omega:0 < m) hbd M.length i (M.length + j) hi (by omega)
     rw [<- Int.emod_eq_of_lt h6.1 h6.2]
     exact h5.symm
   rw [e3];exact h3
theorem Aqx {fuel:Nat} {h:ABj} {v:Value} {M:List (List Int)} {m:Int} {r:List (List Int) × Int} (H:AFo (cI .i64) h v M) (hp:AWg fuel M m=some r):ACa Tryz.prog 39 #[v,.int .i64 m] h (fun x h'=>Ext h h'/\ ∃ (x0:Value),x= .tuple #[x0,.int .i64 r.2]/\AFo (cI .i64) h' x0 r.1):=by
 cases hp;exact (Agt (Api H) m).mono fun x h' ⟨E,r,hx,hr,hcp⟩=>⟨E,r,hx,Aj7 hr hcp⟩
end Go.Proofs.YtiegjkmfpcgjjaaGreatDoor
namespace Go.Proofs.YtiegjkmfpcgjjaaGreatDoor
open Go Go.QF
set_option maxRecDepth 100000
set_option maxHeartbeats 4000000
def AO3 (fuel:Nat) (a1 a2 s8 s9:Int):Option ((Int × Int) ⊕ ((Int))):=
  (if s9 < a2 then (some (Sum.inl ((w64 (s8 * a1)),(w64 (s9 + 1))))) else (some (Sum.inr<| s8)))
def AHi (fuel:Nat) (a1 a2:Int):Option Int:=
  ((iter (fun s=>AO3 fuel a1 a2 s.1 s.2) fuel (1,0)).bind (fun (Ac:Int)=>(some Ac)))
theorem AO4 {fuel:Nat} {h:ABj} {a1 a2 r:Int} (hp:AHi fuel a1 a2=some r):ACa Tryz.prog 47 #[(.int .i64 a1),(.int .i64 a2)] h (fun x h'=>Ext h h'/\x= .int .i64 r):=by
 unfold AHi at hp;refine cwf (l:=[_,_]) Tryz.func47 rfl rfl (ABl (ACr (ABq (ABn (ABl (Wl (Wl (ABp (ABr ?_)))))))));have K0:=Kst.k0 h;obtain ⟨Ag,Ai,Aj⟩:=ABm hp;obtain ⟨Ak,Am,Ao⟩:=ACj Ai;refine ACk 8096 (fun x:(Int) × (Int)=>[(5,(.int .i64 x.1)),(7,(.int .i64 x.2))]) (fun k x h'=>iter Ak k (x.1,x.2)=some Ag/\Kst h h' (K0.L)) (by kernel_rfl) fuel ((1,0):(Int) × (Int)) ?_ ⟨rfl,rfl,trivial⟩ ?_
 ·exact ⟨Ao,K0⟩
 rintro k9 ⟨Ap,Aq⟩ Aw Ax ⟨Ar,Ah⟩;obtain ⟨Au,Ay,rfl,Aa,Ac⟩:=AB5 Ar;rw [Am] at Aa;dsimp only at Aa;unfold AO3 at Aa;refine ABl (AC1 rfl rfl (ABp (ABn (⟨_,rfl,fun Ad=>?_,fun Ad=>?_⟩))))
 ·refine ABt (q_t (ABn (ABr (ABy (Wl (Wl (AMj rfl rfl (ACg (ACm (q_b (q_t (ABy (AC3 rfl rfl (Wl (ABp ?_)))))))))))))));obtain rfl:=ABk (AC5 Aa Ad);exact ⟨Au,(((w64 (Ap * a1)),(w64 (Aq + 1))):(Int) × (Int)),Nat.lt_succ_self _,⟨Ac,Ah⟩,rfl,rfl,trivial⟩
 ·obtain rfl:=ABk (AC6 Aa Ad);change _=Ag at Ac;subst Ac;refine ACd (ACc (ACc (ADo (q_t (ABl (Wl (ABq (ABs ?_))))))));obtain rfl:=ABk Aj;exact ⟨_,ABu,Ah.x,rfl⟩
def AO5 (fuel:Nat) (a3 a7:LiA) (Ac Aa:Int):Option ((Int × Int) ⊕ ((Int))):=
  (if Aa < (a7.length:Int) then ((gI a7 Aa).bind fun Ae=>((gI a3 Aa).bind fun Af=>(some (Sum.inl ((w64 (Ac + (w64 (Af * Ae)))),(w64 (Aa + 1))))))) else (some (Sum.inr<| Ac)))
def AJt (fuel:Nat) (a3 a7:LiA) (a9:Int):Option Int:=
  ((iter (fun s=>AO5 fuel a3 a7 s.1 s.2) fuel (0,0)).bind (fun (Ad:Int)=>(if a9≠0 then (some (Int.tmod Ad a9)) else none)))
theorem AS5 {fuel:Nat} {h:ABj} {Ae:Value} {a3:LiA} {Ag:Value} {a7:LiA} {a9 r:Int} (H2:SlC (cI .i64) h Ae a3) (H6:SlC (cI .i64) h Ag a7) (hp:AJt fuel a3 a7 a9=some r):ACa Tryz.prog 38 #[Ae,Ag,(.int .i64 a9)] h (fun x h'=>Ext h h'/\x= .int .i64 r):=by
 unfold AJt at hp;refine cwf (l:=[_,_,_]) Tryz.func38 rfl rfl (ABl (ACr (ABq (ABn (ABl (Wl (AD1 ABx rfl H6 (Wl (ABp (ABr ?_))))))))));have K0:=Kst.k0 h;obtain ⟨Am,Ap,Aq⟩:=ABm hp;obtain ⟨Ar,Au,Av⟩:=ACj Ap;refine ACk 67105664 (fun x:(Int) × (Int)=>[(7,(.int .i64 x.1)),(12,(.int .i64 x.2))]) (fun k x h'=>iter Ar k (x.1,x.2)=some Am/\Kst h h' (K0.L)) (by kernel_rfl) fuel ((0,0):(Int) × (Int)) ?_ ⟨rfl,rfl,trivial⟩ ?_
 ·exact ⟨Av,K0⟩
 rintro Bg ⟨Aw,Ax⟩ Bh Bi ⟨Ay,Ab⟩;obtain ⟨Az,Bj,rfl,Aa,Ac⟩:=AB5 Ay;rw [Au] at Aa;dsimp only at Aa;unfold AO5 at Aa;refine ABl (AC1 rfl rfl (ABp (ABn (⟨_,rfl,fun Ad=>?_,fun Ad=>?_⟩))))
 ·refine ABt (q_t (ABn (ABr (ABl (Wl ?_)))));obtain ⟨A3,A4,A5⟩:=ABm (AC5 Aa Ad);refine AIw (c:=(cI .i64)) ABx rfl H6 rfl A4 fun Bl Bm Bn A6 A7=>?_;obtain rfl:=A6;refine AB9 ACt rfl (AB0 (A7 0 _ rfl) Ab.x) (ACg (ABq (ABy (Wl (Wl (Wl ?_))))));obtain ⟨A8,A9,Ba⟩:=ABm A5;refine AIw (c:=(cI .i64)) ABx rfl H2 rfl A9 fun Bo Bp Bq Bb Bc=>?_;obtain rfl:=Bb;refine AB9 ACt rfl (AB0 (Bc 0 _ rfl) Ab.x) (Wl (AMj rfl rfl (AC3 rfl rfl (ACg (ACm (q_b (q_t (ABy (AC3 rfl rfl (Wl (ABp ?_)))))))))));obtain rfl:=ABk Ba;exact ⟨Az,(((w64 (Aw + (w64 (A8 * A3)))),(w64 (Ax + 1))):(Int) × (Int)),Nat.lt_succ_self _,⟨Ac,Ab⟩,rfl,rfl,trivial⟩
 ·obtain rfl:=ABk (AC6 Aa Ad);change _=Am at Ac;subst Ac;refine ACd (ACc (ACc (ADo (q_t (ABl (Wl (Wl ?_)))))));obtain ⟨Be,Bf⟩:=ifN Aq;refine AGj rfl rfl Be (ABq (ABs ?_));obtain rfl:=ABk Bf;exact ⟨_,ABu,Ab.x,rfl⟩
def AQe (fuel:Nat) (a3:LiI) (a7:LiA) (a9 Ac Aa:Int):Option ((Int × Int) ⊕ ((Int))):=
  (if Aa < (a7.length:Int) then ((gI a7 Aa).bind fun Af=>((gI a3 Aa).bind fun Ag=>((AJt fuel Ag a7 a9).bind fun Ah=>(some (Sum.inl ((w64 (Ac + (w64 (Ah * Af)))),(w64 (Aa + 1)))))))) else (some (Sum.inr<| Ac)))
def AKk (fuel:Nat) (a3:LiI) (a7:LiA) (a9:Int):Option Int:=
  ((iter (fun s=>AQe fuel a3 a7 a9 s.1 s.2) fuel (0,0)).bind (fun (Ad:Int)=>(if a9≠0 then (some (Int.tmod Ad a9)) else none)))
theorem AQf {fuel:Nat} {h:ABj} {Af:Value} {a3:LiI} {Ah:Value} {a7:LiA} {a9 r:Int} (H2:AFo (cI .i64) h Af a3) (H6:SlC (cI .i64) h Ah a7) (hp:AKk fuel a3 a7 a9=some r):ACa Tryz.prog 40 #[Af,Ah,(.int .i64 a9)] h (fun x h'=>Ext h h'/\x= .int .i64 r):=by
 unfold AKk at hp;refine cwf (l:=[_,_,_]) Tryz.func40 rfl rfl (ABl (ACr (ABq (ABn (ABl (Wl (AD1 ABx rfl H6 (Wl (ABp (ABr ?_))))))))));have K0:=Kst.k0 h;obtain ⟨Am,Ap,Aq⟩:=ABm hp;obtain ⟨Ar,Au,Av⟩:=ACj Ap;refine ACk 536867712 (fun x:(Int) × (Int)=>[(7,(.int .i64 x.1)),(12,(.int .i64 x.2))]) (fun k x h'=>iter Ar k (x.1,x.2)=some Am/\Kst h h' (K0.L)) (by kernel_rfl) fuel ((0,0):(Int) × (Int)) ?_ ⟨rfl,rfl,trivial⟩ ?_
 ·exact ⟨Av,K0⟩
 rintro Bl ⟨Aw,Ax⟩ Bm Bn ⟨Ay,Aa⟩;obtain ⟨Az,Bo,rfl,Ab,Ad⟩:=AB5 Ay;rw [Au] at Ab;dsimp only at Ab;unfold AQe at Ab;refine ABl (AC1 rfl rfl (ABp (ABn (⟨_,rfl,fun Ae=>?_,fun Ae=>?_⟩))))
 ·refine ABt (q_t (ABn (ABr (ABl (Wl ?_)))));obtain ⟨A3,A4,A5⟩:=ABm (AC5 Ab Ae);refine AIw (c:=(cI .i64)) ABx rfl H6 rfl A4 fun Bp Bq Br A6 A7=>?_;obtain rfl:=A6;refine AB9 ACt rfl (AB0 (A7 0 _ rfl) Aa.x) (ACg (ABq (ABy (Wl (Wl (Wl ?_))))));obtain ⟨Bt,A8,A9⟩:=ABm A5;refine AIx AB4 rfl H2 rfl A8 fun Bu Bv Bw Ba Bb=>AB9 ACo rfl (AB0 Ba Aa.x) (Wl (Wl ?_));obtain ⟨Bc,Be,Bf⟩:=ABm A9;refine ACw rfl (AS5 (Bb.ext Aa.x) (H6.ext Aa.x) Be) fun Bx By Bg Bh=>?_;subst Bh;refine Wl (AMj rfl rfl (AC3 rfl rfl (ACg (ACm (q_b (q_t (ABy (AC3 rfl rfl (Wl (ABp ?_))))))))));obtain rfl:=ABk Bf;exact ⟨Az,(((w64 (Aw + (w64 (Bc * A3)))),(w64 (Ax + 1))):(Int) × (Int)),Nat.lt_succ_self _,⟨Ad,(Aa.e Bg)⟩,rfl,rfl,trivial⟩
 ·obtain rfl:=ABk (AC6 Ab Ae);change _=Am at Ad;subst Ad;refine ACd (ACc (ACc (ADo (q_t (ABl (Wl (Wl ?_)))))));obtain ⟨Bi,Bj⟩:=ifN Aq;refine AGj rfl rfl Bi (ABq (ABs ?_));obtain rfl:=ABk Bj;exact ⟨_,ABu,Aa.x,rfl⟩
noncomputable def AL5 (fuel:Nat) (a3:LiI) (a5:Int):Option Int:=
  ((AW9 fuel a3).bind fun x6=>(if (!x6)=true then (some 6) else (((if a5=2 then (some (Sum.inl <| 20)) else (if 9973 < a5 then (some (Sum.inl <| 20)) else ((Aab fuel a5).bind fun Ad=>(if (!Ad)=true then (some (Sum.inl <| 20)) else (some (Sum.inr <| ())))))):Option ((Int) ⊕ (Unit))).bind (fun ex=>match ex with | Sum.inl Ae=>(some Ae) | Sum.inr (_)=>((AHh fuel a3 a5).bind fun (Af,Ag)=>(if ¬ Ag=0 then (some 20) else (if Af=0 then (some 20) else (some 0))))))))
theorem AS6 {fuel:Nat} {h:ABj} {Am:Value} {a3:LiI} {a5 r:Int} (H2:AFo (cI .i64) h Am a3) (HO:AU4 h) (hp:AL5 fuel a3 a5=some r):ACa Tryz.prog 34 #[Am,(.int .i64 a5)] h (fun x h'=>Ext h h'/\x= .int .i64 r):=by
 unfold AL5 at hp;refine cwf (l:=[_,_]) Tryz.func34 rfl rfl (ABl (ABq (ABn (ABl (Wl ?_)))));have K0:=Kst.k0 h;obtain ⟨x6,A3,Ar⟩:=ABm hp;refine ACw rfl (Aii (H2.ext K0.x) A3) fun Bh Bi E9 A5=>?_;subst A5;refine AF9 rfl (ABp ?_);have Aa:=K0.e E9;refine ⟨_,rfl,fun Ag=>?_,fun Ag=>?_⟩
 ·refine ABl (ABq (ABs (AB2 ?_)));obtain rfl:=ABk (ifT Ar Ag);exact ⟨_,ABu,Aa.x,rfl⟩
 ·refine ABt (q_t ?_);obtain ⟨A6,Au,Ac⟩:=ABm (AJc Ar Ag);refine ANx 2096144 (fun x:Unit=>[]) (fun x h'=>(Sum.inr <| ())=A6/\Kst h h' (Aa.L)) ?_ ?_
  ·refine ABl (Wl (ADk rfl rfl (Wl ?_)));by_cases Ad:a5=2
   ·rw [decide_eq_true Ad];refine AGh 12 true (ABz rfl (Wl (AG1 16 true (ABz rfl (ABp (ACe rfl (ABl (ABq ?_))))))));obtain rfl:=ABk (ifT Au Ad);refine ABs (AB2 ?_);obtain rfl:=ABk Ac;exact ⟨_,ABu,Aa.x,rfl⟩
   ·have Av:=ifF Au Ad;rw [decide_eq_false Ad];refine ACb 12 false (Wl (ACb 12 false (AJe rfl rfl (ABw rfl (Wl ?_)))));by_cases Ae:9973 < a5
    ·rw [decide_eq_true Ae];refine AG1 16 true (ABz rfl (ABp (ACe rfl (ABl (ABq ?_)))));obtain rfl:=ABk (ifT Av Ae);refine ABs (AB2 ?_);obtain rfl:=ABk Ac;exact ⟨_,ABu,Aa.x,rfl⟩
    ·rw [decide_eq_false Ae];refine ACb 16 false (Wl (ACb 16 false ?_));obtain ⟨Bj,A7,Aw⟩:=ABm (ifF Av Ae);refine ACw rfl (Amh (HO.ext Aa.x) A7) fun Bl Bm A8 A9=>?_;subst A9;refine ACb 16 false (AF9 rfl (ABw rfl (ABp ?_)));have Ax:=Aa.e A8;refine ⟨_,rfl,fun Ah=>?_,fun Ah=>?_⟩
     ·refine ABl (ABq ?_);obtain rfl:=ABk (ifT Aw Ah);refine ABs (AB2 ?_);obtain rfl:=ABk Ac;exact ⟨_,ABu,Ax.x,rfl⟩
     ·refine ABt (q_t ?_);exact ⟨(():Unit),⟨ABk (AJc Aw Ah),Ax⟩,trivial⟩
  rintro ⟨⟩ Bn Bo ⟨Ba,Ay⟩;subst Ba;refine ABn (ABl (Wl (Wl ?_)));obtain ⟨⟨Bp,Bb⟩,Bc,Ai⟩:=ABm Ac;dsimp only at Ai;refine ACw rfl (ARu (H2.ext Ay.x) Bc) fun Bq Br Be Bf=>?_;subst Bf;refine Wl (AC4 rfl rfl (AC4 rfl rfl (ACg (ACr (Wl (AHz rfl rfl (Wl ?_)))))));have Aj:=Ay.e Be;by_cases Af: ¬ Bb=0
  ·rw [decide_eq_true Af];refine AGh 29 true (ABz rfl (ABp (ACe rfl (ABl (ABq (ABs (AB2 ?_)))))));obtain rfl:=ABk (ifT Ai Af);exact ⟨_,ABu,Aj.x,rfl⟩
  ·have Az:=ifF Ai Af;rw [decide_eq_false Af];refine ACb 29 false (Wl (ACb 29 false (ADk rfl rfl (ABw rfl (ABp (⟨_,rfl,fun Ak=>?_,fun Ak=>?_⟩))))))
   ·refine ABl (ABq (ABs (AB2 ?_)));obtain rfl:=ABk (AC5 Az Ak);exact ⟨_,ABu,Aj.x,rfl⟩
   ·refine ABt (q_t (ABl (ABq (ABs ?_))));obtain rfl:=ABk (AC6 Az Ak);exact ⟨_,ABu,Aj.x,rfl⟩
noncomputable def APf (fuel:Nat) (a3:LiI) (a5 Ab Ac:Int):Option ((Int × Int) ⊕ ((Int) ⊕ (Unit))):=
  (if Ac < (a3.length:Int) then (if 65536 < (w64 (Ab * a5)) then (some (Sum.inr<| Sum.inl <| 7)) else (some (Sum.inl ((w64 (Ab * a5)),(w64 (Ac + 1)))))) else (some (Sum.inr<| Sum.inr <| ())))
noncomputable def AHc (fuel:Nat) (a3:LiI) (a5:Int):Option Int:=
  ((AL5 fuel a3 a5).bind fun x6=>(if ¬ x6=0 then (some x6) else ((iter (fun s=>APf fuel a3 a5 s.1 s.2) fuel (1,0)).bind (fun ex=>match ex with | Sum.inl Ad=>(some Ad) | Sum.inr (_)=>(some 0)))))
theorem APg {fuel:Nat} {h:ABj} {Ak:Value} {a3:LiI} {a5 r:Int} (H2:AFo (cI .i64) h Ak a3) (HO:AU4 h) (hp:AHc fuel a3 a5=some r):ACa Tryz.prog 45 #[Ak,(.int .i64 a5)] h (fun x h'=>Ext h h'/\x= .int .i64 r):=by
 unfold AHc at hp;refine cwf (l:=[_,_]) Tryz.func45 rfl rfl (ABl (ABq (ABn (ABl (Wl (Wl ?_))))));have K0:=Kst.k0 h;obtain ⟨x6,Au,Ap⟩:=ABm hp;refine ACw rfl (AS6 (H2.ext K0.x) (HO.ext K0.x) Au) fun A9 Ba E9 Aw=>?_;subst Aw;refine ACr (Wl (AHz rfl rfl (ABp ?_)));have Ae:=K0.e E9;refine ⟨_,rfl,fun Af=>?_,fun Af=>?_⟩
 ·refine ABl (Wl (ABq (ABs (AB2 ?_))));obtain rfl:=ABk (AC5 Ap Af);exact ⟨_,ABu,Ae.x,rfl⟩
 ·refine ABt (q_t (ABl (ABq (ABn (ABl (Wl (ADh AB4 rfl H2 (Wl (ABp (ABr ?_))))))))));obtain ⟨Ag,Ax,Aq⟩:=ABm (AC6 Ap Af);obtain ⟨Ay,Az,A3⟩:=ACj Ax;refine ACk 8355920 (fun x:(Int) × (Int)=>[(6,(.int .i64 x.1)),(15,(.int .i64 x.2))]) (fun k x h'=>iter Ay k (x.1,x.2)=some Ag/\Kst h h' (Ae.L)) (by kernel_rfl) fuel ((1,0):(Int) × (Int)) ?_ ⟨rfl,rfl,trivial⟩ ?_
  ·exact ⟨A3,Ae⟩
  rintro Bb ⟨A4,A5⟩ Bc Be ⟨A6,Ah⟩;obtain ⟨A7,Bf,rfl,Aa,Ab⟩:=AB5 A6;rw [Az] at Aa;dsimp only at Aa;unfold APf at Aa;refine ABl (AC1 rfl rfl (ABp (ABn (⟨_,rfl,fun Ai=>?_,fun Ai=>?_⟩))))
  ·refine ABt (q_t (ABn (ABr (ABl (Wl (Wl (AMj rfl rfl (ACr (Wl (AJe rfl rfl (ABp ?_)))))))))));have Ar:=AC5 Aa Ai;refine ⟨_,rfl,fun Aj=>?_,fun Aj=>?_⟩
   ·refine ABl (ABq ?_);obtain rfl:=ABk (AC5 Ar Aj);change _=Ag at Ab;subst Ab;refine ABs (ADp (AB2 (AB2 (ADp (AB2 ?_)))));obtain rfl:=ABk Aq;exact ⟨_,ABu,Ah.x,rfl⟩
   ·refine ABt (q_b (q_t (ABy (AC3 rfl rfl (Wl (ABp ?_))))));obtain rfl:=ABk (AC6 Ar Aj);exact ⟨A7,(((w64 (A4 * a5)),(w64 (A5 + 1))):(Int) × (Int)),Nat.lt_succ_self _,⟨Ab,Ah⟩,rfl,rfl,trivial⟩
  ·obtain rfl:=ABk (AC6 Aa Ai);change _=Ag at Ab;subst Ab;refine ACd (ACc (ACc (ADo (q_t (ABl (ABq (ABs ?_)))))));obtain rfl:=ABk Aq;exact ⟨_,ABu,Ah.x,rfl⟩
def ARv (fuel:Nat) (a5:Int) (a8:LiA) (Ab Aa:Int):Option ((Int × Int) ⊕ ((Bool) ⊕ (Int))):=
  (if Aa < (a8.length:Int) then ((gI a8 Aa).bind fun Ac=>(((if Ac < 0 then (some (Sum.inl <| false)) else (if a5<=Ac then (some (Sum.inl <| false)) else (some (Sum.inr <| ())))):Option ((Bool) ⊕ (Unit))).bind (fun ex=>match ex with | Sum.inl Af=>(some (Sum.inr<| Sum.inl <| Af)) | Sum.inr (_)=>(if Ab=0 then (some (Sum.inl (Ac,(w64 (Aa + 1))))) else (some (Sum.inl (Ab,(w64 (Aa + 1))))))))) else (some (Sum.inr<| Sum.inr <| Ab)))
def AOg (fuel:Nat) (a3:LiI) (a5:Int) (a8:LiA):Option Bool:=
  (if ¬ (a8.length:Int)=(a3.length:Int) then (some false) else ((iter (fun s=>ARv fuel a5 a8 s.1 s.2) fuel (0,0)).bind (fun ex=>match ex with | Sum.inl Ad=>(some Ad) | Sum.inr (Ae)=>((AFf fuel a3 a5).bind fun (Af,Ah)=>(if Ae=1 then ((AKk fuel Af a8 a5).bind fun Ag=>(some (decide (Ag=0)))) else (some false))))))
theorem AXd {fuel:Nat} {h:ABj} {Au:Value} {a3:LiI} {a5:Int} {Ax:Value} {a8:LiA} {r:Bool} (H2:AFo (cI .i64) h Au a3) (H7:SlC (cI .i64) h Ax a8) (hp:AOg fuel a3 a5 a8=some r):ACa Tryz.prog 35 #[Au,(.int .i64 a5),Ax] h (fun x h'=>Ext h h'/\x= .bool r):=by
 unfold AOg at hp;refine cwf (l:=[_,_,_]) Tryz.func35 rfl rfl (ABl (ABq (ABn (ABl (Wl (AD1 ABx rfl H7 (Wl (ADh AB4 rfl H2 (AHz rfl rfl (ABp ?_))))))))));have K0:=Kst.k0 h;refine ⟨_,rfl,fun Ak=>?_,fun Ak=>?_⟩
 ·refine ABl (ABq (ABs (AB2 ?_)));obtain rfl:=ABk (AC5 hp Ak);exact ⟨_,ABu,K0.x,rfl⟩
 ·refine ABt (q_t (ABl (ABq (ABn (ABl (Wl (AD1 ABx rfl H7 (Wl (ABp (ABr ?_))))))))));obtain ⟨Ae,Ba,Am⟩:=ABm (AC6 hp Ak);obtain ⟨Bb,Bc,Be⟩:=ACj Ba;refine ACk 17179345600 (fun x:(Int) × (Int)=>[(7,(.int .i64 x.1)),(19,(.int .i64 x.2))]) (fun k x h'=>iter Bb k (x.1,x.2)=some Ae/\Kst h h' (K0.L)) (by kernel_rfl) fuel ((0,0):(Int) × (Int)) ?_ ⟨rfl,rfl,trivial⟩ ?_
  ·exact ⟨Be,K0⟩
  rintro Bx ⟨A3,A4⟩ By Bz ⟨Bf,Ab⟩;obtain ⟨A5,B1,rfl,Ac,Aa⟩:=AB5 Bf;rw [Bc] at Ac;dsimp only at Ac;unfold ARv at Ac;refine ABl (AC1 rfl rfl (ABp (ABn (⟨_,rfl,fun Ao=>?_,fun Ao=>?_⟩))))
  ·refine ABt (q_t (ABn (ABr (ABl ?_))));obtain ⟨A6,Bg,Bh⟩:=ABm (AC5 Ac Ao);refine AIw (c:=(cI .i64)) ABx rfl H7 rfl Bg fun B2 B3 B4 Bi Bj=>?_;obtain rfl:=Bi;refine AB9 ACt rfl (AB0 (Bj 0 _ rfl) Ab.x) (ABq ?_);obtain ⟨Bl,A7,Af⟩:=ABm Bh;refine ANx 1065353280 (fun x:Unit=>[]) (fun x h'=>(Sum.inr <| ())=Bl/\Kst h h' (Ab.L)) ?_ ?_
   ·refine ABl (Wl (AC1 rfl rfl (Wl ?_)));by_cases Ag:A6 < 0
    ·rw [decide_eq_true Ag];refine AG1 25 true (ABz rfl (ABp (ACe rfl (ABl (ABq ?_)))));obtain rfl:=ABk (ifT A7 Ag);obtain rfl:=ABk Af;change _=Ae at Aa;subst Aa;refine ABs (AB2 (ADp (AB2 (AB2 (ADp (AB2 ?_))))));obtain rfl:=ABk Am;exact ⟨_,ABu,Ab.x,rfl⟩
    ·have A8:=ifF A7 Ag;rw [decide_eq_false Ag];refine ACb 25 false (Wl (ACb 25 false (Wl (ACb 25 false (ANe rfl rfl (ABw rfl (ABp (⟨_,rfl,fun Ap=>?_,fun Ap=>?_⟩))))))))
     ·refine ABl (ABq ?_);obtain rfl:=ABk (AC5 A8 Ap);obtain rfl:=ABk Af;change _=Ae at Aa;subst Aa;refine ABs (AB2 (ADp (AB2 (AB2 (ADp (AB2 ?_))))));obtain rfl:=ABk Am;exact ⟨_,ABu,Ab.x,rfl⟩
     ·refine ABt (q_t ?_);exact ⟨(():Unit),⟨ABk (AC6 A8 Ap),Ab⟩,trivial⟩
   rintro ⟨⟩ B5 B6 ⟨Bm,A9⟩;subst Bm;refine ABl (Wl (ADk rfl rfl (ABp (⟨_,rfl,fun Aq=>?_,fun Aq=>?_⟩))))
   ·refine ABy (Wl (ACg (ACm (q_b (q_t (ABy (AC3 rfl rfl (Wl (ABp ?_)))))))));obtain rfl:=ABk (AC5 Af Aq);exact ⟨A5,((A6,(w64 (A4 + 1))):(Int) × (Int)),Nat.lt_succ_self _,⟨Aa,A9⟩,rfl,rfl,trivial⟩
   ·refine ABt (q_b (q_t (ABy (AC3 rfl rfl (Wl (ABp ?_))))));obtain rfl:=ABk (AC6 Af Aq);exact ⟨A5,((A3,(w64 (A4 + 1))):(Int) × (Int)),Nat.lt_succ_self _,⟨Aa,A9⟩,rfl,rfl,trivial⟩
  ·obtain rfl:=ABk (AC6 Ac Ao);change _=Ae at Aa;subst Aa;refine ACd (ACc (ACc (ADo (q_t (ABl (Wl (Wl ?_)))))));obtain ⟨⟨B7,B8⟩,Bn,Ar⟩:=ABm Am;dsimp only at Ar;refine ACw rfl (ALi (H2.ext Ab.x) Bn) fun B9 Ca Bo Bp=>?_;obtain ⟨Cb,Cd,Ce,Cf,rfl,Bq,Br⟩:=Bp;refine Wl (AC4 rfl rfl (AC4 rfl rfl (ACg (ACr (Wl (ADk rfl rfl (Wl ?_)))))));have Ah:=Ab.no2 Bo Br Bq;by_cases Ai:A3=1
   ·rw [decide_eq_true Ai];refine ACb 42 true (Wl (ACb 42 true (Wl (ACb 42 true (Wl (ACb 42 true ?_))))));obtain ⟨Cg,Bt,Bu⟩:=ABm (ifT Ar Ai);refine ACw rfl (AQf (Ah.o2 p0).rd (H7.ext Ah.x) Bt) fun Ch Ci Bv Bw=>?_;subst Bw;refine ACb 42 true (ADk rfl rfl (ABz rfl (ABq (ABs ?_))));obtain rfl:=ABk Bu;exact ⟨_,ABu,(Ah.e Bv).x,rfl⟩
   ·rw [decide_eq_false Ai];refine ALv 42 false (ABw rfl (ABq (ABs ?_)));obtain rfl:=ABk (ifF Ar Ai);exact ⟨_,ABu,Ah.x,rfl⟩
noncomputable def AF3 (fuel:Nat) (a3:LiI) (a5:Int):Option (Int × Int):=
  ((AHc fuel a3 a5).bind fun x6=>(if ¬ x6=0 then (some (0,x6)) else (if (Int.tmod (a3.length:Int) 2)=1 then ((AHi fuel a5 (w64 (2 * (w64 (Int.tdiv (a3.length:Int) 2))))).bind fun Af=>(if (w64 (a5 - 1))≠0 then (some ((w64 (Int.tdiv (w64 (Af - 1)) (w64 (a5 - 1)))),0)) else none)) else ((AHh fuel a3 a5).bind fun (Ad,Aj)=>(((if (Int.tmod (w64 (Int.tdiv (a3.length:Int) 2)) 2)=1 then (some ( (w64 (0 - Ad)))) else (some ( Ad))):Option ((Int))).bind (fun (Ag:Int)=>((AGp fuel Ag a5).bind fun (Ae,Ak)=>((AHi fuel a5 (w64 (Int.tdiv (a3.length:Int) 2))).bind fun Ah=>((AHi fuel a5 (w64 ((w64 (Int.tdiv (a3.length:Int) 2)) - 1))).bind fun Ai=>(if (w64 (a5 - 1))≠0 then (some ((w64 (Int.tdiv (w64 ((w64 (Ah - Ae)) * (w64 (Ai + Ae)))) (w64 (a5 - 1)))),0)) else none))))))))))
theorem ANm {fuel:Nat} {h:ABj} {Ah:Value} {a3:LiI} {a5:Int} {r:(Int × Int)} (H2:AFo (cI .i64) h Ah a3) (HO:AU4 h) (hp:AF3 fuel a3 a5=some r):ACa Tryz.prog 23 #[Ah,(.int .i64 a5)] h (fun x h'=>Ext h h'/\x= .tuple #[.int .i64 r.1,.int .i64 r.2]):=by
 unfold AF3 at hp;refine cwf (l:=[_,_]) Tryz.func23 rfl rfl (ABl (ACg (ABq (ABn (ABl (Wl (Wl ?_)))))));have K0:=Kst.k0 h;obtain ⟨x6,Au,Ak⟩:=ABm hp;refine ACw rfl (APg (H2.ext K0.x) (HO.ext K0.x) Au) fun Bu Bv E9 Aw=>?_;subst Aw;refine ACr (Wl (AHz rfl rfl (ABp ?_)));have Aa:=K0.e E9;refine ⟨_,rfl,fun Ad=>?_,fun Ad=>?_⟩
 ·refine ABl (Wl (ACg (ABq (ABs (AB2 ?_)))));obtain rfl:=ABk (AC5 Ak Ad);exact ⟨_,ADc,Aa.x,rfl⟩
 ·refine ABt (q_t (ABl (Wl (ADh AB4 rfl H2 (ACr (Wl (AUq rfl rfl (by decide) (ABq (ABn (ABl (Wl (AGj rfl rfl (by decide) (ADk rfl rfl (ABp ?_))))))))))))));have Am:=AC6 Ak Ad;refine ⟨_,rfl,fun Ae=>?_,fun Ae=>?_⟩
  ·refine ABl (Wl (Wl (AMj rfl rfl ?_)));obtain ⟨Bw,Ax,Ay⟩:=ABm (AC5 Am Ae);refine ACw rfl (AO4 Ax) fun Bx By Az A3=>?_;subst A3;refine AHd rfl rfl (Wl (AHd rfl rfl ?_));obtain ⟨A4,A5⟩:=ifN Ay;refine AUq rfl rfl A4 (ACg (ABq (ABs (AB2 ?_))));obtain rfl:=ABk A5;exact ⟨_,ADc,(Aa.e Az).x,rfl⟩
  ·refine ABt (q_t (ABl (Wl (Wl ?_))));obtain ⟨⟨Ao,Bz⟩,A6,Ap⟩:=ABm (AC6 Am Ae);dsimp only at Ap;refine ACw rfl (ARu (H2.ext Aa.x) A6) fun B1 B2 A7 A8=>?_;subst A8;refine Wl (AC4 rfl rfl (AC4 rfl rfl (ACg (ABq ?_))));have Af:=Aa.e A7;obtain ⟨A9,Aq,Ba⟩:=ABm Ap;refine ANx 68169720922624 (fun x:(Int)=>[(9,(.int .i64 x))]) (fun x h'=>( x)=A9/\Kst h h' (Af.L)) ?_ ?_
   ·refine ABl (Wl (AGj rfl rfl (by decide) (ADk rfl rfl (ABp (⟨_,rfl,fun Ag=>?_,fun Ag=>?_⟩)))))
    ·refine ABy (Wl (ATh rfl (ABq ?_)));exact ⟨((w64 (0 - Ao)):(Int)),⟨ABk (AC5 Aq Ag),Af⟩,rfl,trivial⟩
    ·refine ABt (q_t ?_);exact ⟨(Ao:(Int)),⟨ABk (AC6 Aq Ag),Af⟩,rfl,trivial⟩
   rintro B3 B4 B5 ⟨Bb,Bc⟩;subst Bb;refine ABl (Wl (Wl ?_));obtain ⟨⟨B6,B7⟩,Be,Ar⟩:=ABm Ba;dsimp only at Ar;refine ACw rfl (ATz Be) fun B8 B9 Bf Bg=>?_;subst Bg;refine Wl (AC4 rfl rfl (AC4 rfl rfl (ACg (ACr (Wl (ACr (Wl (Wl ?_))))))));obtain ⟨Ca,Bh,Bi⟩:=ABm Ar;refine ACw rfl (AO4 Bh) fun Cb Cd Bj Bl=>?_;subst Bl;refine Wl (AHd rfl rfl (Wl (Wl (AHd rfl rfl ?_))));obtain ⟨Ce,Bm,Bn⟩:=ABm Bi;refine ACw rfl (AO4 Bm) fun Cf Cg Bo Bp=>?_;subst Bp;refine Wl (AC3 rfl rfl (AMj rfl rfl (Wl (AHd rfl rfl ?_))));obtain ⟨Bq,Br⟩:=ifN Bn;refine AUq rfl rfl Bq (ACg (ABq (ABs ?_)));obtain rfl:=ABk Br;exact ⟨_,ADc,(((Bc.e Bf).e Bj).e Bo).x,rfl⟩
noncomputable def ANn (fuel:Nat) (a5:Int) (a8:LiA) (Ad:LiI) (Ab:Int) (Ac:LiA):Option ((Int × LiA) ⊕ ((LiA))):=
  (if Ab < (Ad.length:Int) then ((gI Ad Ab).bind fun Ag=>((AJt fuel Ag a8 a5).bind fun Af=>(if Af=0 then (some (Sum.inl ((w64 (Ab + 1)),Ac))) else ((AWg fuel ([([(w64 (2 * Af))]:List Int)]:List LiA) a5).bind fun (Ah,Ao)=>((AKk fuel Ad a8 (w64 (a5 * a5))).bind fun Ai=>(if a5≠0 then ((gI Ah 0).bind fun Aj=>((gI Aj 0).bind fun Ak=>(if a5≠0 then ((gI Ac Ab).bind fun Am=>(some (Sum.inr<| (sI Ac Ab (w64 (Am + (w64 (a5 * (Int.tmod (w64 ((w64 (a5 - (w64 (Int.tdiv Ai a5)))) * Ak)) a5))))))))) else none))) else none)))))) else (some (Sum.inr<| Ac)))
noncomputable def AOo (fuel:Nat) (a3:LiI) (a5:Int) (a8:LiA):Option (LiA × Int):=
  ((AL5 fuel a3 a5).bind fun Ad=>(if ¬ Ad=0 then (some ([],Ad)) else ((AOg fuel a3 a5 a8).bind fun Ae=>(if (!Ae)=true then (some ([],26)) else ((AFf fuel a3 (w64 (a5 * a5))).bind fun (Af,Ai)=>((AKi fuel a8).bind fun Ag=>((iter (fun s=>ANn fuel a5 a8 Af s.1 s.2) fuel (0,Ag)).bind (fun (Ah:LiA)=>(some (Ah,0))))))))))
theorem Aan {fuel:Nat} {h:ABj} {A5:Value} {a3:LiI} {a5:Int} {A7:Value} {a8:LiA} {r:(LiA × Int)} (H2:AFo (cI .i64) h A5 a3) (H7:SlC (cI .i64) h A7 a8) (HO:AU4 h) (hp:AOo fuel a3 a5 a8=some r):ACa Tryz.prog 15 #[A5,(.int .i64 a5),A7] h (fun x h'=>Ext h h'/\ ∃ (x0:Value) (F0:List Nat),x= .tuple #[x0,.int .i64 r.2]/\OwC (cI .i64) 2 h' F0 x0 r.1/\Sp h' h.size [F0]):=by
 unfold AOo at hp;refine cwf (l:=[_,_,_]) Tryz.func15 rfl rfl (ABl (ACg (ABq (ABn (ABl (Wl (Wl ?_)))))));have K0:=Kst.k0 h;obtain ⟨Dx,Bq,Bb⟩:=ABm hp;refine ACw rfl (AS6 (H2.ext K0.x) (HO.ext K0.x) Bq) fun Dy Dz Br Bt=>?_;subst Bt;refine ACr (Wl (AHz rfl rfl (ABp ?_)));have Ag:=K0.e Br;refine ⟨_,rfl,fun Ak=>?_,fun Ak=>?_⟩
 ·refine ABl (Wl (ACg (ABq (ABs (AB2 ?_)))));have Am:=Kst.anil (cI .i64) 2 Ag;obtain rfl:=ABk (AC5 Bb Ak);exact ⟨_,ADc,Am.x,_,_,rfl,(Am.o p0),Am.s.sel [0] (by decide)⟩
 ·refine ABt (q_t (ABn (ABl (Wl (Wl (Wl ?_))))));obtain ⟨D0,Bu,Bc⟩:=ABm (AC6 Bb Ak);refine ACw rfl (AXd (H2.ext Ag.x) (H7.ext Ag.x) Bu) fun D1 D2 Bv Bw=>?_;subst Bw;refine AF9 rfl (ABp ?_);have Ao:=Ag.e Bv;refine ⟨_,rfl,fun Ap=>?_,fun Ap=>?_⟩
  ·refine ABl (ACg (ABq (ABs (AB2 ?_))));have Aq:=Kst.anil (cI .i64) 2 Ao;obtain rfl:=ABk (ifT Bc Ap);exact ⟨_,ADc,Aq.x,_,_,rfl,(Aq.o p0),Aq.s.sel [0] (by decide)⟩
  ·refine ABt (q_t (ABl (Wl (Wl (Wl (AMj rfl rfl ?_))))));obtain ⟨⟨D3,D4⟩,Bx,Be⟩:=ABm (AJc Bc Ap);dsimp only at Be;refine ACw rfl (ALi (H2.ext Ao.x) Bx) fun D5 D6 By Bz=>?_;obtain ⟨D7,D8,D9,Ea,rfl,B1,B2⟩:=Bz;refine Wl (AC4 rfl rfl (AC4 rfl rfl (ACg (ACr (Wl ?_)))));have Bf:=Ao.no2 By B2 B1;obtain ⟨B3,B4,B5⟩:=ABm Be;refine ACw rfl (AQv (H7.ext Bf.x) B4) fun B6 Eb B7 B8=>?_;obtain ⟨Ec,B9,rfl,Ca,Cb⟩:=B8;refine ABq (ABn (ABl (Wl ?_)));have Ar:=Bf.no B7 Cb Ca;refine ADh AB4 rfl (Ar.o2 p1).rd (Wl (ABp (ABr ?_)));obtain ⟨Au,Cd,Bg⟩:=ABm B5;obtain ⟨Ce,Cf,Cg⟩:=ACj Cd;refine ACk 618970019642687938426564608 (fun x:(Int) × (LiA) × LnA=>[(41,(.int .i64 x.1))]) (fun k x h'=>iter Ce k (x.1,x.2.1)=some Au/\Kst h h' (Ar.L.set 0 (aO (cI .i64) 2 x.2.2 B6 x.2.1))) (by kernel_rfl) fuel ((0,B3,B9):(Int) × (LiA) × LnA) ?_ ⟨rfl,trivial⟩ ?_
   ·exact ⟨Cg,Ar⟩
   rintro Ed ⟨Ch,Ci,Cj⟩ Ee Ef ⟨Ck,Aa⟩;obtain ⟨Cm,Eg,rfl,Ac,Ad⟩:=AB5 Ck;rw [Cf] at Ac;dsimp only at Ac;unfold ANn at Ac;refine ABl (AC1 rfl rfl (ABp (ABn (⟨_,rfl,fun Av=>?_,fun Av=>?_⟩))))
   ·refine ABt (q_t (ABn (ABr (ABl (Wl ?_)))));obtain ⟨Eh,Bh,Cn⟩:=ABm (AC5 Ac Av);refine ADx AB4 rfl (Aa.o2 p1) rfl Bh fun Ei Ej Ek Co Cp=>AB9 ACo rfl Cp (ACg (ACr (Wl (Wl (Wl ?_)))));obtain ⟨Bi,Cq,Bj⟩:=ABm Cn;refine ACw rfl (AS5 ((Aa.o2 p1).rowI Co Bh) (H7.ext Aa.x) Cq) fun El Em Cr Ct=>?_;subst Ct;refine ABq (ABn (ABl (Wl (ADk rfl rfl (ABp ?_)))));have Bl:=Aa.e Cr;refine ⟨_,rfl,fun Aw=>?_,fun Aw=>?_⟩
    ·refine ACd (ACc (ADo (q_t (ABy (AC3 rfl rfl (Wl (ABp ?_)))))));obtain rfl:=ABk (AC5 Bj Aw);exact ⟨Cm,(((w64 (Ch + 1)),Ci,Cj):(Int) × (LiA) × LnA),Nat.lt_succ_self _,⟨Ad,Bl⟩,rfl,trivial⟩
    ·refine ABt (q_t (ABl (Wl (AMj rfl rfl (AQ6 (κ:= .i64) [(w64 (2 * Bi))] ABx AHn rfl rfl trivial tt2 rfl rfl rfl rfl fun Cu Cv En Cw Cx Cy Cz=>?_)))));have Ax:=Bl.no Cx (AGy Cy Cz) Cw;refine AUl (c:=(cI .i64)) (el:=2) [[Cu]] [Cv] [([(w64 (2 * Bi))]:List Int)] AB4 AMw rfl rfl trivial tt2 rfl rfl rfl rfl (AOn (Ax.o p0).isOne AYp) ⟨(Ax.o p0),trivial⟩ (by simp) fun Eo Ep Er C0 C1 C2=>Wl ?_;have Bm:=(((Ax.a0).grab p0)).lit C1 C0 (by simpa using C2);obtain ⟨⟨Es,Et⟩,C3,Bn⟩:=ABm (AC6 Bj Aw);dsimp only at Bn;refine ACw rfl (Aqx (Bm.o2 p0).rd C3) fun Eu Ay C4 C5=>?_;obtain ⟨Ev,rfl,C6⟩:=C5;refine Wl (AC4 rfl rfl (AC4 rfl rfl (ACg (ABq (ABn (AEs (fun h'=>UpT [] Ay h') (by kernel_rfl) ?_))))));have Az:=Bm.e C4;have A3:UpT [] Ay Ay:=UpT.start all_nil;refine Wl (Wl (Wl (Wl (Wl (AMj rfl rfl ?_)))));obtain ⟨C7,C8,C9⟩:=ABm Bn;refine ADd A3 (fun _ E=>A3.thenE E) rfl (AQf (Az.o2 p3).rd (H7.ext Az.x) C8) fun Ew Ey Bo Da=>?_;subst Da;refine Wl ?_;have Bp:=A3.thenE Bo;have Ae:=Az.e Bo;obtain ⟨Db,Dc⟩:=ifN C9;refine AUq rfl rfl Db (AHd rfl rfl (Wl ?_));obtain ⟨Ez,Dd,De⟩:=ABm Dc;refine AIx AB4 rfl C6 rfl Dd fun Fa Fb Fc Df Dg=>AGw ACo rfl Bp (fun h' hb=>AB0 Df hb.ext) ?_;obtain ⟨Dh,Di,Dj⟩:=ABm De;refine AIw (c:=(cI .i64)) ABx rfl Dg rfl Di fun Fd Fe Ff Dk Dl=>?_;obtain rfl:=Dk;refine AGw ACt rfl Bp (fun h' hb=>AB0 (Dl 0 _ rfl) hb.ext) (AMj rfl rfl (Wl ?_));obtain ⟨Dn,Do⟩:=ifN Dj;refine AGj rfl rfl Dn (ACr (Wl (Wl ?_)));obtain ⟨Dp,Ah,Dq⟩:=ABm Do;refine AOk ABx rfl (Ae.o p2) rfl Ah fun Fg Dr=>?_;obtain ⟨Fh,Ds,Dt⟩:=(Ae.o p2).cells Dr Ah;obtain rfl:=Ds;refine AB9 ACt rfl (Dt 0 _ rfl) (Wl (Wl (AMj rfl rfl (AC3 rfl rfl (AOk ABx rfl (Ae.o p2) rfl Ah fun Fi Du=>Abm (AGf ACt rfl rfl rfl) (Ae.o p2) Du Ah (show ((cI .i64)).rep _ (w64 (Dp + (w64 (a5 * (Int.tmod (w64 ((w64 (a5 - (w64 (Int.tdiv C7 a5)))) * Dh)) a5))))) _ from rfl) fun Fj Dv Dw=>ABp ?_)))));have A4:=Ae.uO p2 Dw Dv;obtain rfl:=ABk Dq;change _=Au at Ad;subst Ad;refine ACd (Aeh (by decide) (ACc (ACc (ADo (q_t (ABl (Wl (ACg (ABq (ABs ?_))))))))));obtain rfl:=ABk Bg;exact ⟨_,ADc,A4.x,_,_,rfl,(A4.o p2),A4.s.sel [2] (by decide)⟩
   ·obtain rfl:=ABk (AC6 Ac Av);change _=Au at Ad;subst Ad;refine ACd (ACc (ACc (ADo (q_t (ABl (Wl (ACg (ABq (ABs ?_)))))))));obtain rfl:=ABk Bg;exact ⟨_,ADc,Aa.x,_,_,rfl,(Aa.o p0),Aa.s.sel [0] (by decide)⟩
noncomputable def AO6 (fuel:Nat) (Ac Ad Aa:Int) (Ab:LiA):Option ((Int × LiA) ⊕ ((Int × LiA))):=
  (((if Ad < Aa then ((gI Ab Aa).bind fun Ae=>(if Ae=(w64 (Ac - 1)) then (some (Sum.inl <| ())) else (some (Sum.inr <| ())))) else (some (Sum.inr <| ()))):Option ((Unit) ⊕ (Unit))).bind (fun ex=>match ex with | Sum.inl _=>((gI Ab Aa).bind fun Af=>(some (Sum.inl ((w64 (Aa - 1)),(sI Ab Aa 0))))) | Sum.inr (_)=>(some (Sum.inr<| (Aa,Ab)))))
noncomputable def AO7 (fuel:Nat) (a5:Int) (Ah:LiI) (Ai Aj Ad:Int) (Aa:LiI) (Ab:LiA):Option ((LiI × LiA) ⊕ ((LiI))):=
  ((((AKk fuel Ah Ab a5).bind fun Ak=>(if Ak=0 then ((AKi fuel Ab).bind fun Am=>(if Aa.length<=100000000 then (some ( (Aa ++ [Am]))) else none)) else (some ( Aa)))):Option (LiI)).bind fun Ae=>((((iter (fun s=>AO6 fuel Aj Ad s.1 s.2) fuel ((w64 (Ai - 1)),Ab)).bind (fun ((Ao,Ap):Int × LiA)=>(some ( (Ao,Ap))))):Option ((Int × LiA))).bind (fun ((Ac,Af):Int × LiA)=>(if Ac=Ad then (some (Sum.inr<| Ae)) else ((gI Af Ac).bind fun Aq=>(some (Sum.inl (Ae,(sI Af Ac (w64 (Aq + 1)))))))))))
noncomputable def AO8 (fuel:Nat) (a5:Int) (Ae:LiI) (Aa Af Ab:Int) (Ac:LiI):Option ((Int × LiI) ⊕ ((LiI))):=
  (if 0<=Ab then (if 0<=Aa/\Aa<=100000000 then ((gI (List.replicate (Int.toNat Aa) (0:Int)) Ab).bind fun Ah=>((iter (fun s=>AO7 fuel a5 Ae Aa Af Ab s.1 s.2) fuel (Ac,(sI (List.replicate (Int.toNat Aa) (0:Int)) Ab 1))).bind (fun (Ag:LiI)=>(some (Sum.inl ((w64 (Ab - 1)),Ag)))))) else none) else (some (Sum.inr<| Ac)))
noncomputable def AE8 (fuel:Nat) (a3:LiI) (a5:Int):Option (LiI × Int):=
  ((AHc fuel a3 a5).bind fun Ac=>(if ¬ Ac=0 then (some ([],Ac)) else ((AFf fuel a3 a5).bind fun (Ae,Ai)=>(((some ( ((a3.length:Int),a5))):Option (Int × Int)).bind fun (Ad,Af)=>((((iter (fun s=>AO8 fuel a5 Ae Ad Af s.1 s.2) fuel ((w64 (Ad - 1)),[])).bind (fun (Ag:LiI)=>(some ( Ag)))):Option (LiI)).bind fun Ah=>(some (Ah,0)))))))
theorem AMt {fuel:Nat} {h:ABj} {Bx:Value} {a3:LiI} {a5:Int} {r:(LiI × Int)} (H2:AFo (cI .i64) h Bx a3) (HO:AU4 h) (hp:AE8 fuel a3 a5=some r):ACa Tryz.prog 20 #[Bx,(.int .i64 a5)] h (fun x h'=>Ext h h'/\ ∃ (x0:Value) (F0:List Nat) (C1:List LnA) (C2:List Value),x= .tuple #[x0,.int .i64 r.2]/\AFh (cI .i64) 23 2 h' F0 C1 C2 x0 r.1/\Sp h' h.size [F0]):=by
 unfold AE8 at hp;refine Agq (l:=[_,_]) mx Tryz.func20 rfl rfl rfl rfl rfl (by kernel_rfl) (Aaj (by kernel_rfl) (ABy (AIj [(.int .i64 a5)] trivial tt2 rfl rfl fun b6 h7 V8 E9 C5=>ACg (ABq (Aaj (by kernel_rfl) (ABl (Wl ?_)))))));have Aj:=(Kst.k0 h).nb E9 C5 V8;refine AB9 ACt rfl ((Aj.b p0).cell (i:=0) rfl) ?_;obtain ⟨Hc,C6,B1⟩:=ABm hp;refine ACw rfl (APg (H2.ext Aj.x) (HO.ext Aj.x) C6) fun Hd He C7 C8=>?_;subst C8;refine ACr (Wl (AHz rfl rfl (ABp ?_)));have Ak:=Aj.e C7;refine ⟨_,rfl,fun A3=>?_,fun A3=>?_⟩
 ·refine ABl (Wl (ACg (ABq (ABs (AB2 ?_)))));have A4:=Kst.anil2 (cI .i64) 23 2 Ak;obtain rfl:=ABk (AC5 B1 A3);exact ⟨_,ADc,A4.x,_,_,_,_,rfl,(A4.o2 p0),A4.s.sel [0] (by decide)⟩
 ·refine ABt (q_t (Aaj (by kernel_rfl) (ABy (Wl (AB9 ACt rfl ((Ak.b p0).cell (i:=0) rfl) ?_)))));obtain ⟨⟨Hf,Hg⟩,C9,B2⟩:=ABm (AC6 B1 A3);dsimp only at B2;refine ACw rfl (ALi (H2.ext Ak.x) C9) fun Hh Hj Da Db=>?_;obtain ⟨Dc,Hk,Hl,Hm,rfl,Dd,De⟩:=Db;refine Wl (AC4 rfl rfl (AC4 rfl rfl (AD2 [(.slice none 0 0)] Au2 rfl trivial tt2 fun Hn Ho Df Dg Dh=>?_)));have A5:=(Ak.no2 Da De Dd).nb Dg Dh Df;refine AVt [Dc] Ae5 rfl rfl (A5.o2 p1).isOne (A5.b p0) (Nat.le_of_ble_eq_true rfl) rfl fun Hq Di Dj=>ABq (Aaj (by kernel_rfl) (ABy (AD2 [(.slice none 0 0)] Au2 rfl trivial tt2 fun Am Hr Dk Dl Dn=>ABp (Awu (by kernel_rfl) (Aaj (by kernel_rfl) (ABy (Wl (ADh AB4 rfl H2 ?_))))))));have A6:=(A5.sb p0 Dj Di rfl).nb Dl Dn Dk;refine AB9 ACt rfl ((A6.b p3).cell (i:=0) rfl) ?_;obtain ⟨Do,Dp,Dq⟩:=ABm B2;refine ACp (K':=(fun xr h'=> ∃ x:(Nat) × (Int) × (Nat) × (Int),(x.2.1,x.2.2.2)=Do/\xr=(.func (.func 78) #[] #[(.pointer (some ⟨x.1,0,none⟩)),(.pointer (some ⟨x.2.2.1,0,none⟩))])/\Kst h h' (aB 3 x.1 [(.int .i64 x.2.1)] :: aB 2 x.2.2.1 [(.int .i64 x.2.2.2)] :: A6.L))) trivial rfl ?_ fun Hs Ht Dr=>?_
  ·refine cwf (l:=[_,_]) Tryz.func46 rfl rfl (ABl (AIj [(.int .i64 (a3.length:Int))] trivial tt2 rfl rfl fun Ds Hu Dt Du Dv=>AIj [(.int .i64 a5)] trivial tt2 rfl rfl fun Dw Hv Dx Dy Dz=>ACr (Avc rfl (ABq (ABs (⟨_,ABu,((Ds,(a3.length:Int),Dw,a5):(Nat) × (Int) × (Nat) × (Int)),?_,rfl,?_⟩))))))
   ·exact ABk Dp
   ·exact ((A6.nb Du Dv Dt).nb Dy Dz Dx).sel [1,0,2,3,4,5] (by decide)
  obtain ⟨⟨D0,A7,D1,Hw⟩,D2,rfl,D3⟩:=Dr;refine ⟨trivial,?_⟩;subst D2;refine ABp (Atr mx (by kernel_rfl) ⟨_,[(.pointer (some ⟨D0,0,none⟩)),(.pointer (some ⟨D1,0,none⟩))],rfl,fun h_rf rf_r rf_b rf_ol rf_ob rf_oe hE_rf l1_rf l2_rf l3_rf l4_rf hne_rf hd_rf hl_rf Ao A8 D4 hY_rf=>?_⟩);have A9:=D3.rg hE_rf l1_rf l2_rf l3_rf l4_rf hne_rf hd_rf hl_rf;obtain ⟨D5,D6,D7⟩:=ABm Dq;refine ACa.mono (K:=(fun xr h'=> ∃ x:(LiI) × (Value) × LnA × LnN × LvA,x.1=D5/\xr= .tuple #[]/\Kst h h' (aO2 (cI .i64) 23 2 x.2.2.1 x.2.2.2.1 x.2.2.2.2 x.2.1 x.1 :: (A9.L.set 4 (aB 22 Am [x.2.1]))))) ?_ fun Hx Hy D8=>?_
  ·refine cwf (l:=[_,_,_]) Tryz.func78 rfl rfl (ABl (AB9 AFq rfl ((A9.b p2).cell (i:=0) rfl) (AHd rfl rfl (ABq (ABr ?_)))));obtain ⟨B3,D9,Ea⟩:=ABm D6;obtain ⟨Eb,Ec,Ed⟩:=ACj D9;have B4:=Kst.anil2 (cI .i64) 23 2 A9;refine ACk 1125899906842224 (fun x:(Int) × (LiI) × (Value) × LnA × LnN × LvA=>[(4,(.int .i64 x.1))]) (fun k x h'=>iter Eb k (x.1,x.2.1)=some B3/\Kst h h' ((B4.L.set 0 (aO2 (cI .i64) 23 2 x.2.2.2.1 x.2.2.2.2.1 x.2.2.2.2.2 x.2.2.1 x.2.1)).set 5 (aB 22 Am [x.2.2.1]))) (by kernel_rfl) fuel (((w64 (A7 - 1)),[],(.slice none 0 0),[],[],[]):(Int) × (LiI) × (Value) × LnA × LnN × LvA) ?_ ⟨rfl,trivial⟩ ?_
   ·exact ⟨Ed,B4⟩
   rintro Hz ⟨Ba,B5,B6,B7,B8,B9⟩ H5 H9 ⟨Ee,Bb⟩;obtain ⟨Ef,Ia,rfl,Ae,Bc⟩:=AB5 Ee;rw [Ec] at Ae;dsimp only at Ae;unfold AO8 at Ae;refine ABn (ABl (Wl (ANe rfl rfl (ABp (⟨_,rfl,fun Be=>?_,fun Be=>?_⟩)))))
   ·refine ABt (q_t (ABn (ABr (ABl (AB9 AFq rfl ((Bb.b p3).cell (i:=0) rfl) ?_)))));obtain ⟨Eg,Eh⟩:=ifN (AC5 Ae Be);refine ASc (c:=(cI .i64)) (a:=0) ABx AHn rfl rfl (fun _=>rfl) rfl trivial tt2 rfl rfl (by decide) Eg fun Bf Bg Ib Ei Ej Ek El=>ACr (Wl (Wl ?_));have Bh:=Bb.no Ej (AGy Ek El) Ei;obtain ⟨Ic,Ca,Em⟩:=ABm Eh;refine AOk ABx rfl (Bh.o p0) rfl Ca fun Id En=>Abm (AGf ACt rfl rfl rfl) (Bh.o p0) En Ca (show ((cI .i64)).rep _ 1 _ from rfl) fun Ie Eo Ep=>ABp (ABr ?_);have Cb:=Bh.uO p0 Ep Eo;obtain ⟨Cd,Er,Es⟩:=ABm Em;obtain ⟨Et,Eu,Ev⟩:=ACj Er;refine ACk 1125899906580544 (fun x:(LiI) × (Value) × LnA × LnN × LvA × (LiA)=>[]) (fun k x h'=>iter Et k (x.1,x.2.2.2.2.2)=some Cd/\Kst h h' (((Cb.L.set 1 (aO2 (cI .i64) 23 2 x.2.2.1 x.2.2.2.1 x.2.2.2.2.1 x.2.1 x.1)).set 0 (aO (cI .i64) 2 [Bf] Bg x.2.2.2.2.2)).set 6 (aB 22 Am [x.2.1]))) (by kernel_rfl) fuel ((B5,B6,B7,B8,B9,(sI (List.replicate (Int.toNat A7) (0:Int)) Ba 1)):(LiI) × (Value) × LnA × LnN × LvA × (LiA)) ?_ trivial ?_
    ·exact ⟨Ev,Cb⟩
    rintro If ⟨Ce,Ew,Bi,Cf,Cg,Ey⟩ Ih Ii ⟨Ez,Ap⟩;obtain ⟨Fa,Ij,rfl,Aq,Bj⟩:=AB5 Ez;rw [Eu] at Aq;dsimp only at Aq;unfold AO7 at Aq;refine ABr (ABn (ABn (Aqm (l:=rf_b) (by kernel_rfl) (Wl (Wl (ACm ⟨rfl,_,rfl,?_⟩))))));obtain ⟨Fb,Fc,Fd⟩:=ABm Aq;refine ASs.mono (K':=(fun xr h'=> ∃ x:(LiI) × (Value) × LnA × LnN × LvA,x.1=Fb/\xr= .bool true/\Kst h h' ((Ap.L.set 1 (aO2 (cI .i64) 23 2 x.2.2.1 x.2.2.2.1 x.2.2.2.2 x.2.1 x.1)).set 6 (aB 22 Am [x.2.1])))) ?_ fun Ik Il Fe=>?_
    ·refine hY_rf _ _ _ (Ap.ob p3) (Aqk (ACg (ACm (⟨(Ap.ob p3),?_⟩))));obtain ⟨Im,Ff,Io,Af⟩:=Ap.uob (o':=rf_ob) p3 Ao A8;rw [Ff];refine Ato (Au1 (Aqk (AB9 Ae5 rfl ((Af.b p7).cell (i:=0) rfl) (Wl (AB9 ACt rfl ((Af.b p9).cell (i:=0) rfl) ?_)))));obtain ⟨Ip,Fg,Ch⟩:=ABm Fc;refine ACw rfl (AQf (Af.o2 p8).rd (Af.o p0).rd Fg) fun Iq Bl Fh Fi=>?_;subst Fi;refine ADk rfl rfl (ABp ?_);have Aa:=Af.e Fh;refine ⟨_,rfl,fun Bm=>?_,fun Bm=>?_⟩
     ·refine Atp (fun h'=>UpT (Bi ++ []) Bl h') (by kernel_rfl) ?_;have Ar:UpT (Bi ++ []) Bl Bl:=UpT.start (AD9 (Aa.o2 p1).notD all_nil);refine AGw Ae5 rfl Ar (fun h' hb=>((Aa.b p6).upT hb (Aog (Aa.dj p6 p1 (by decide)) Aoh)).cell (i:=0) rfl) (Wl ?_);obtain ⟨Fj,Fk,Fl⟩:=ABm (AC5 Ch Bm);refine ADd Ar (fun _ E=>Ar.thenE E) rfl (AQv (Aa.o p0).rd Fk) fun Fm Ir Ci Fo=>?_;obtain ⟨It,Fp,rfl,Fq,Fr⟩:=Fo;have Cj:=Ar.thenE Ci;have Au:=Aa.no Ci Fr Fq;obtain ⟨Ft,Fu⟩:=ifN Fl;refine Ac8 AB4 AMw rfl rfl Cj (fun _ U=>Cj.then U (AL7 rfl)) (fun _=>rfl) rfl (Au.o p0) (Au.o2 p2) (Au.dj p0 p2 (by decide)) (by decide) Ft fun Iu Fv Ck Iv Fw Fx Fy=>?_;have Bn:=Au.m2 p0 p2 (by decide) Fx Fw Fy;refine AVt [Ck] Ae5 rfl rfl (Bn.o2 p2).isOne (Bn.b p7) (Nat.le_of_ble_eq_true rfl) rfl fun Iw Fz F4=>ACm (q_b ?_);have Cm:=Bn.sb p7 F4 Fz rfl;refine ⟨(Cm.ob p4),?_⟩;obtain ⟨Ix,F5,Iy,F6⟩:=Cm.uob (o':=rf_ol) p4 A8 Ao;rw [F5];refine ⟨(((Ce ++ [Fj]),Ck,Fv,(Cf ++ [Fp]),(Cg ++ [Fm])):(LiI) × (Value) × LnA × LnN × LvA),?_,rfl,?_⟩
      ·exact ABk Fu
      ·exact F6.sel [1,2,3,4,5,6,7,8,9,10] (by decide)
     ·refine Awt (q_b (⟨(Aa.ob p3),?_⟩));obtain ⟨Iz,F7,I0,F8⟩:=Aa.uob (o':=rf_ol) p3 A8 Ao;rw [F7];refine ⟨((Ce,Ew,Bi,Cf,Cg):(LiI) × (Value) × LnA × LnN × LvA),?_,rfl,?_⟩
      ·exact ABk (AC6 Ch Bm)
      ·exact F8
    obtain ⟨⟨Cn,Co,Cp,Cq,Cr⟩,F9,rfl,Av⟩:=Fe;subst F9;refine AF9 rfl (ABp (ACf rfl (ABt (q_t (ABl (AB9 AFq rfl ((Av.b p4).cell (i:=0) rfl) (AHd rfl rfl (ABq ?_))))))));obtain ⟨Ga,Gb,Ct⟩:=ABm Fd;refine ANx 2199006478400 (fun x:(Int) × (LiA)=>[(6,(.int .i64 x.1))]) (fun x h'=>( (x.1,x.2))=Ga/\Kst h h' (Av.L.set 0 (aO (cI .i64) 2 [Bf] Bg x.2))) ?_ ?_
    ·refine ABr ?_;obtain ⟨Bo,Gc,Cu⟩:=ABm Gb;obtain ⟨Gd,Ge,Gf⟩:=ACj Gc;refine ACk 2199006478400 (fun x:(Int) × (LiA)=>[(6,(.int .i64 x.1))]) (fun k x h'=>iter Gd k (x.1,x.2)=some Bo/\Kst h h' (Av.L.set 0 (aO (cI .i64) 2 [Bf] Bg x.2))) (by kernel_rfl) fuel (((w64 (A7 - 1)),Ey):(Int) × (LiA)) ?_ ⟨rfl,trivial⟩ ?_
     ·exact ⟨Gf,Av⟩
     rintro I1 ⟨Ag,Bp⟩ I2 I3 ⟨Gg,Ab⟩;obtain ⟨Gh,I6,rfl,Aw,Ah⟩:=AB5 Gg;rw [Ge] at Aw;dsimp only at Aw;unfold AO6 at Aw;obtain ⟨Gi,Cv,Bq⟩:=ABm Aw;refine ANx 68702699520 (fun x:Unit=>[]) (fun x h'=>(Sum.inl <| ())=Gi/\Kst h h' (Ab.L)) ?_ ?_
     ·refine ABn (ANr (Wl (Wl (AJe rfl rfl (Wl ?_)))));by_cases Ax:Ba < Ag
      ·rw [decide_eq_true Ax];refine ACb 27 true (Wl (ACb 27 true (Wl (ACb 27 true ?_))));obtain ⟨I7,Cw,Cx⟩:=ABm (ifT Cv Ax);refine AOk ABx rfl (Ab.o p0) rfl Cw fun I9 Gj=>ACb 27 true ?_;obtain ⟨Ja,Gk,Gl⟩:=(Ab.o p0).cells Gj Cw;obtain rfl:=Gk;refine AB9 ACt rfl (Gl 0 _ rfl) (ACb 27 true (AB9 ACt rfl ((Ab.b p5).cell (i:=0) rfl) (ACb 27 true (AHd rfl rfl (ACb 27 true (ADk rfl rfl (ABz rfl (ABp (⟨_,rfl,fun Br=>?_,fun Br=>?_⟩)))))))))
       ·refine ABt (q_t ?_);exact ⟨(():Unit),⟨ABk (AC5 Cx Br),Ab⟩,trivial⟩
       ·obtain rfl:=ABk (AC6 Cx Br);obtain rfl:=ABk Bq;change _=Bo at Ah;subst Ah;refine ACd (ACc (ACc (ADo (q_t ?_))));exact ⟨((Ag,Bp):(Int) × (LiA)),⟨ABk Cu,Ab⟩,rfl,trivial⟩
      ·rw [decide_eq_false Ax];refine ALv 27 false (AGh 27 false (ABw rfl (ABp (ACf rfl ?_))));obtain rfl:=ABk (ifF Cv Ax);obtain rfl:=ABk Bq;change _=Bo at Ah;subst Ah;refine ACd (ACc (ACc (ADo (q_t ?_))));exact ⟨((Ag,Bp):(Int) × (LiA)),⟨ABk Cu,Ab⟩,rfl,trivial⟩
     rintro ⟨⟩ Jc Je ⟨Gm,Bt⟩;subst Gm;refine ABr (ABl (Wl (Wl ?_)));obtain ⟨Jf,Cy,Gn⟩:=ABm Bq;refine AOk ABx rfl (Bt.o p0) rfl Cy fun Jg Gp=>Abm (AGf ACt rfl rfl rfl) (Bt.o p0) Gp Cy (show ((cI .i64)).rep _ 0 _ from rfl) fun Jh Gq Gr=>ABp (ABy (Wl (AHd rfl rfl (ACg (ACm (q_b (q_t ?_)))))));obtain rfl:=ABk Gn;exact ⟨Gh,(((w64 (Ag - 1)),(sI Bp Ag 0)):(Int) × (LiA)),Nat.lt_succ_self _,⟨Ah,(Bt.uO p0 Gr Gq)⟩,rfl,trivial⟩
    rintro ⟨Gt,Gu⟩ Ji Jj ⟨Gv,Ac⟩;subst Gv;refine ABn (ABl (Wl (Wl (ADk rfl rfl (ABp (⟨_,rfl,fun Bu=>?_,fun Bu=>?_⟩))))))
    ·obtain rfl:=ABk (AC5 Ct Bu);change _=Cd at Bj;subst Bj;refine ACd (ACc (Aeh (by decide) (ACc (ADo (q_b (q_t (ABy (Wl (AHd rfl rfl (ABq ?_))))))))));obtain rfl:=ABk Es;exact ⟨Ef,(((w64 (Ba - 1)),Cn,Co,Cp,Cq,Cr):(Int) × (LiI) × (Value) × LnA × LnN × LvA),Nat.lt_succ_self _,⟨Bc,Ac.sel [1,2,3,4,5,6,7,8,9] (by decide)⟩,rfl,trivial⟩
    ·refine ABt (q_t (ABy (Wl (Wl ?_))));obtain ⟨Cz,Ay,Gw⟩:=ABm (AC6 Ct Bu);refine AOk ABx rfl (Ac.o p0) rfl Ay fun Jk Gx=>?_;obtain ⟨Jl,Gy,Gz⟩:=(Ac.o p0).cells Gx Ay;obtain rfl:=Gy;refine AB9 ACt rfl (Gz 0 _ rfl) (AC3 rfl rfl (AOk ABx rfl (Ac.o p0) rfl Ay fun Jm G3=>Abm (AGf ACt rfl rfl rfl) (Ac.o p0) G3 Ay (show ((cI .i64)).rep _ (w64 (Cz + 1)) _ from rfl) fun Jn G4 G5=>ACm (q_b (q_t ?_))));obtain rfl:=ABk Gw;exact ⟨Fa,((Cn,Co,Cp,Cq,Cr,(sI Gu Gt (w64 (Cz + 1)))):(LiI) × (Value) × LnA × LnN × LvA × (LiA)),Nat.lt_succ_self _,⟨Bj,(Ac.uO p0 G5 G4)⟩,trivial⟩
   ·obtain rfl:=ABk (AC6 Ae Be);change _=B3 at Bc;subst Bc;refine ACd (ACc (ACc (ADo (⟨_,AT1,((B5,B6,B7,B8,B9):(LiI) × (Value) × LnA × LnN × LvA),?_,rfl,?_⟩))))
    ·exact ABk Ea
    ·exact Bb
  obtain ⟨⟨Jo,Jp,Jq,Jr,Js⟩,G6,rfl,C0⟩:=D8;subst G6;refine ⟨(C0.ob p2),?_⟩;obtain ⟨Jt,G7,Ju,Bv⟩:=C0.uob (o':=rf_oe) p2 Ao D4;rw [G7];refine q_t (Au1 (Aqk (AB9 Ae5 rfl ((Bv.b p5).cell (i:=0) rfl) (ACg (ABq (Ax3 ?_))))));obtain rfl:=ABk D7;refine ⟨(Bv.ob p1),?_⟩;obtain ⟨Jv,G8,Jw,Bw⟩:=Bv.uob (o':=(.deferred none)) p1 rfl rfl;rw [G8];exact ⟨_,ADc,Bw.x,_,_,_,_,rfl,(Bw.o2 p0),Bw.s.sel [0] (by decide)⟩
noncomputable def AJu (fuel:Nat) (a3:LiI) (a5:Int):Option (Int × Int):=
  ((AE8 fuel a3 a5).bind fun (x6,x7)=>(some ((x6.length:Int),x7)))
theorem AS7 {fuel:Nat} {h:ABj} {Ab:Value} {a3:LiI} {a5:Int} {r:(Int × Int)} (H2:AFo (cI .i64) h Ab a3) (HO:AU4 h) (hp:AJu fuel a3 a5=some r):ACa Tryz.prog 22 #[Ab,(.int .i64 a5)] h (fun x h'=>Ext h h'/\x= .tuple #[.int .i64 r.1,.int .i64 r.2]):=by
 unfold AJu at hp;refine cwf (l:=[_,_]) Tryz.func22 rfl rfl (ABl (ACg (ACr (Wl (Wl ?_)))));have K0:=Kst.k0 h;obtain ⟨⟨x6,x7⟩,Ah,Ae⟩:=ABm hp;dsimp only at Ae;refine ACw rfl (AMt (H2.ext K0.x) (HO.ext K0.x) Ah) fun Aq Ar Ai Aj=>?_;obtain ⟨Au,Av,Aw,Ax,rfl,Ak,Am⟩:=Aj;refine Wl (AC4 rfl rfl (AC4 rfl rfl (ACg (ACr (Wl ?_)))));have Af:=K0.no2 Ai Am Ak;refine ADh AB4 rfl (Af.o2 p0).rd (Wl (ACg (ABq (ABs ?_))));obtain rfl:=ABk Ae;exact ⟨_,ADc,Af.x,rfl⟩
end Go.Proofs.YtiegjkmfpcgjjaaGreatDoor
namespace Go.Proofs.YtiegjkmfpcgjjaaGreatDoor
open Go Go.QF
set_option maxRecDepth 100000
noncomputable def ASt (M:List (List Int)) (p:Int) (lim:Bool):Int:=
  if isRed M=true then (if ARa p=true/\det M.length (ent M) % p≠0 then (if lim=true/\65536 < p ^ M.length then 7 else 0) else 20) else 6
theorem Agu {E:Type} {body:Int × Int->Option ((Int × Int) ⊕ (E ⊕ Unit))} {fuel n:Nat} {p:Int} {x:E} (hp:2<=p) (Ab:p<=9973) (hn:n<=16) (hf:100 < fuel) (hb:∀ a b,body (a,b)=if b < (n:Int) then (if 65536 < w64 (a * p) then some (.inr (.inl x)) else some (.inl (w64 (a * p),w64 (b + 1)))) else some (.inr (.inr ()))):Ok (iter body fuel (1,0)) fun e=>(e= .inl x/\65536 < p ^ n)∨(e= .inr ()/\p ^ n<=65536):=by
 refine ACv (fun i s=>s=(p ^ i,(i:Int))/\i<=n/\p ^ i<=65536) n ⟨by simp,Nat.zero_le _,by simp⟩ (by omega) fun i s hi hI=>?_;obtain ⟨rfl,h1,h2⟩:=hI;rw [hb];have hpos:0 < p ^ i:=Int.pow_pos (by omega);have hm:p ^ i * p<=65536 * 9973:=Int.mul_le_mul h2 Ab (by omega) (by omega);have Ae:0<=p ^ i * p:=Int.mul_nonneg (by omega) (by omega);have hs:p ^ (i + 1)=p ^ i * p:=Int.pow_succ p i
 refine AB3 (fun h=>?_) fun h=>ABi (.inr ⟨rfl,by
   obtain rfl:i=n:=by omega
   exact h2⟩)
 rw [wk (by omega)];refine AB3 (fun h3=>ABi (.inl ⟨rfl,?_⟩)) fun h3=>ABi ⟨by omega,by rw [AGo (by omega),hs],by omega,by rw [hs];omega⟩;have:=AWe (p:=p) (by omega) (show i + 1<=n by omega);omega
theorem ASu {p:Int} (h:ARa p=true):3<=p/\p<=9973:=by have:=Akc h;omega
theorem Agv {fuel:Nat} {M:List (List Int)} {p:Int} (hf:2147483648 < fuel):AL5 fuel M p=some (ASt M p false):=by
 unfold AL5 AW9 ASt;simp only [Option.bind_some]
 cases hr:isRed M with
 | false=>rfl
 | true=>
   have R:=(APu M).1 hr
   simp only [Bool.not_true,Bool.false_eq_true,reduceIte,false_and]
   apply ok_eq
   refine ABo (Q:=fun ex=>(ex= .inl 20/\ARa p=false)∨(ex= .inr ()/\ARa p=true)) ?_ fun ex hex=>?_
   · refine AB3 (fun h=>ABi (.inl ⟨rfl,(ASo (by omega)).symm⟩)) fun h=>AB3 (fun h2=>ABi (.inl ⟨rfl,(ASo (by omega)).symm⟩)) fun h2=>?_
     unfold Aab
     simp only [Option.bind_some]
     refine AB3 (fun h3=>ABi (.inl ⟨rfl,(ASo fun hc=>?_).symm⟩)) fun h3=>ABi (.inr ⟨rfl,?_⟩)
     · have h3:ALe p=false:=by simpa using h3
       exact Aaz h3 ⟨by omega,hc.2.2⟩
     · have h3:ALe p=true:=by simpa using h3
       have:=Abf h3
       have h4:=this.2.1
       exact (AW8 ⟨by omega,by omega,this.2⟩).symm
   · rcases hex with ⟨rfl,ho⟩ | ⟨rfl,ho⟩
     · exact ABi (by rw [if_neg (by simp [ho])])
     · have hb:=ASu ho
       dsimp only
       have hM:=ATy R
       have hd:AHh fuel M p=some (det M.length (ent M) % p,0):=by
         conv=>lhs;rw [hM]
         exact Aqu R.1.1 R.1.2 (by omega) (by omega) hf
       rw [hd]
       simp only [Option.bind_some]
       rw [if_neg (by decide)]
       exact AB3 (fun h=>ABi (by rw [if_neg (by simp [h])])) fun h=>ABi (by rw [if_pos ⟨ho,h⟩])
theorem ASv {fuel:Nat} {M:List (List Int)} {p:Int} (hf:2147483648 < fuel):AHc fuel M p=some (ASt M p true):=by
 unfold AHc;rw [Agv hf];simp only [Option.bind_some];apply ok_eq;refine AB3 (fun h=>ABi ?_) fun h=>?_
 ·unfold ASt at h ⊢;by_cases hr:isRed M=true
  ·rw [if_pos hr] at h ⊢;rw [if_pos hr];by_cases hg:ARa p=true/\det M.length (ent M) % p≠0
   ·rw [if_pos hg] at h;simp at h
   ·rw [if_neg hg,if_neg hg]
  ·rw [if_neg hr,if_neg hr]
 ·have h:ASt M p false=0:=by simpa using h
  unfold ASt at h;by_cases hr:isRed M=true
  ·rw [if_pos hr] at h;by_cases hg:ARa p=true/\det M.length (ent M) % p≠0
   ·have R:=(APu M).1 hr;have hb:=ASu hg.1;have h8:=R.1.2;refine ABo (Agu (n:=M.length) (x:=(7:Int)) (by omega) hb.2 (by omega) (by omega) fun a b=>rfl) fun ex hex=>?_;rcases hex with ⟨rfl,h3⟩ | ⟨rfl,h3⟩
    ·exact ABi (by unfold ASt;rw [if_pos hr,if_pos hg,if_pos ⟨rfl,h3⟩])
    ·exact ABi (by unfold ASt;rw [if_pos hr,if_pos hg,if_neg (fun hh=>absurd hh.2 (by omega))])
   ·rw [if_neg hg] at h;simp at h
  ·rw [if_neg hr] at h;simp at h
end Go.Proofs.YtiegjkmfpcgjjaaGreatDoor
namespace Go.Proofs.YtiegjkmfpcgjjaaGreatDoor
open Go Go.QF
set_option maxRecDepth 100000
set_option maxHeartbeats 4000000
noncomputable def AHr (fuel:Nat) (a3:LiI) (a5:Int):Option Bool:=
  ((Adw fuel a5).bind fun x6=>(if x6=true then ((AId fuel a3).bind fun Ad=>(if a5≠0 then (some (decide (¬ (Int.tmod Ad a5)=0))) else none)) else (some false)))
theorem ARw {fuel:Nat} {h:ABj} {Ab:Value} {a3:LiI} {a5:Int} {r:Bool} (H2:AFo (cI .i64) h Ab a3) (hp:AHr fuel a3 a5=some r):ACa Tryz.prog 31 #[Ab,(.int .i64 a5)] h (fun x h'=>Ext h h'/\x= .bool r):=by
 unfold AHr at hp;refine cwf (l:=[_,_]) Tryz.func31 rfl rfl (ABl (ACr (Wl ?_)));obtain ⟨x6,Ai,Ae⟩:=ABm hp;refine ACw rfl (Apv Ai) fun Av Aw E9 Ak=>?_;subst Ak;refine Wl ?_;have Aa:=(Kst.k0 h).e E9;cases Af:x6
 ·refine ALv 7 false (ABw rfl (ABq (ABs ?_)));obtain rfl:=ABk (AJc Ae Af);exact ⟨_,ABu,Aa.x,rfl⟩
 ·refine ACb 7 true (Wl (ACb 7 true ?_));obtain ⟨Ax,Am,Ao⟩:=ABm (ifT Ae Af);refine ACw rfl (ASp (H2.ext Aa.x) Am) fun Ay Az Ap Aq=>?_;subst Aq;refine ACb 7 true (Wl (ACb 7 true ?_));obtain ⟨Ar,Au⟩:=ifN Ao;refine AGj rfl rfl Ar (ACb 7 true (AHz rfl rfl (ABz rfl (ABq (ABs ?_)))));obtain rfl:=ABk Au;exact ⟨_,ABu,(Aa.e Ap).x,rfl⟩
def AMc (fuel:Nat) (a1 a2 Ab Ac:Int):Option ((Int × Int) ⊕ ((Bool) ⊕ (Unit))):=
  (if Ac < a1 then (if 65536 < (w64 (Ab * a2)) then (some (Sum.inr<| Sum.inl <| false)) else (some (Sum.inl ((w64 (Ab * a2)),(w64 (Ac + 1)))))) else (some (Sum.inr<| Sum.inr <| ())))
def AGq (fuel:Nat) (a1 a2:Int):Option Bool:=
  ((iter (fun s=>AMc fuel a1 a2 s.1 s.2) fuel (1,0)).bind (fun ex=>match ex with | Sum.inl Ac=>(some Ac) | Sum.inr (_)=>(some true)))
theorem AQl {fuel:Nat} {h:ABj} {a1 a2:Int} {r:Bool} (hp:AGq fuel a1 a2=some r):ACa Tryz.prog 32 #[(.int .i64 a1),(.int .i64 a2)] h (fun x h'=>Ext h h'/\x= .bool r):=by
 unfold AGq at hp;refine cwf (l:=[_,_]) Tryz.func32 rfl rfl (ABl (ACr (ABq (ABn (ABl (ABq (ABr ?_)))))));have K0:=Kst.k0 h;obtain ⟨Ad,Am,Aj⟩:=ABm hp;obtain ⟨Ao,Ap,Aq⟩:=ACj Am;refine ACk 131056 (fun x:(Int) × (Int)=>[(5,(.int .i64 x.1)),(6,(.int .i64 x.2))]) (fun k x h'=>iter Ao k (x.1,x.2)=some Ad/\Kst h h' (K0.L)) (by kernel_rfl) fuel ((1,0):(Int) × (Int)) ?_ ⟨rfl,rfl,trivial⟩ ?_
 ·exact ⟨Aq,K0⟩
 rintro k9 ⟨Ar,Au⟩ Ay Az ⟨Av,Ae⟩;obtain ⟨Aw,A3,rfl,Aa,Ab⟩:=AB5 Av;rw [Ap] at Aa;dsimp only at Aa;unfold AMc at Aa;refine ABn (ABl (Wl (Wl (AC1 rfl rfl (ABp (⟨_,rfl,fun Af=>?_,fun Af=>?_⟩))))))
 ·refine ABt (q_t (ABn (ABr (ABl (Wl (Wl (AMj rfl rfl (ACr (Wl (AJe rfl rfl (ABp ?_)))))))))));have Ak:=AC5 Aa Af;refine ⟨_,rfl,fun Ag=>?_,fun Ag=>?_⟩
  ·refine ABl (ABq ?_);obtain rfl:=ABk (AC5 Ak Ag);change _=Ad at Ab;subst Ab;refine ABs (ADp (AB2 (AB2 (ADp (AB2 ?_)))));obtain rfl:=ABk Aj;exact ⟨_,ABu,Ae.x,rfl⟩
  ·refine ABt (q_b (q_t (ABy (Wl (AC3 rfl rfl (ABq ?_))))));obtain rfl:=ABk (AC6 Ak Ag);exact ⟨Aw,(((w64 (Ar * a2)),(w64 (Au + 1))):(Int) × (Int)),Nat.lt_succ_self _,⟨Ab,Ae⟩,rfl,rfl,trivial⟩
 ·obtain rfl:=ABk (AC6 Aa Af);change _=Ad at Ab;subst Ab;refine ACd (ACc (ACc (ADo (q_t (ABl (ABq (ABs ?_)))))));obtain rfl:=ABk Aj;exact ⟨_,ABu,Ae.x,rfl⟩
noncomputable def AGr (fuel:Nat) (a3:LiI) (a5:Int) (a6:Bool):Option Int:=
  ((AEr fuel a3).bind fun x7=>(if (!x7)=true then (some 6) else ((AHr fuel a3 a5).bind fun Ae=>(if (!Ae)=true then (some 20) else (if a6=true then ((AGq fuel (a3.length:Int) a5).bind fun Af=>(if (!Af)=true then (some 7) else (some 0))) else (some 0))))))
theorem AQm {fuel:Nat} {h:ABj} {Ah:Value} {a3:LiI} {a5:Int} {a6:Bool} {r:Int} (H2:AFo (cI .i64) h Ah a3) (hp:AGr fuel a3 a5 a6=some r):ACa Tryz.prog 41 #[Ah,(.int .i64 a5),(.bool a6)] h (fun x h'=>Ext h h'/\x= .int .i64 r):=by
 unfold AGr at hp;refine cwf (l:=[_,_,_]) Tryz.func41 rfl rfl (ABl (ABq (ABn (ABr (ABl (Wl ?_))))));have K0:=Kst.k0 h;obtain ⟨x7,Av,Am⟩:=ABm hp;refine ACw rfl (AOz (H2.ext K0.x) Av) fun A8 A9 Aw Ax=>?_;subst Ax;refine AF9 rfl (ABq ?_);have Ac:=K0.e Aw;refine ⟨_,rfl,fun Ad=>?_,fun Ad=>?_⟩
 ·refine ABl (ABq (ABs (ADp (AB2 ?_))));obtain rfl:=ABk (ifT Am Ad);exact ⟨_,ABu,Ac.x,rfl⟩
 ·refine ABl (Wl (Wl ?_));obtain ⟨Ba,Ay,Ao⟩:=ABm (AJc Am Ad);refine ACw rfl (ARw (H2.ext Ac.x) Ay) fun Bb Bc Az A3=>?_;subst A3;refine AF9 rfl (ABq ?_);have Ae:=Ac.e Az;refine ⟨_,rfl,fun Af=>?_,fun Af=>?_⟩
  ·refine ABl (ABq (ABs (ADp (AB2 ?_))));obtain rfl:=ABk (ifT Ao Af);exact ⟨_,ABu,Ae.x,rfl⟩
  ·refine ABl (Wl (Wl ?_));have Ap:=AJc Ao Af;cases Aq:a6
   ·refine ALv 18 false (ABw rfl (ABq (ACf rfl (ABt (q_b (q_t (ABl (ABq (ABs ?_)))))))));obtain rfl:=ABk (AJc Ap Aq);exact ⟨_,ABu,Ae.x,rfl⟩
   ·refine ACb 18 true (Wl (ACb 18 true (ADh AB4 rfl H2 (ACb 18 true (Wl (ACb 18 true ?_))))));obtain ⟨Be,A4,Ar⟩:=ABm (ifT Ap Aq);refine ACw rfl (AQl A4) fun Bf Bg A5 A6=>?_;subst A6;refine ACb 18 true (AF9 rfl (ABz rfl (ABq ?_)));have Au:=Ae.e A5;refine ⟨_,rfl,fun Ag=>?_,fun Ag=>?_⟩
    ·refine ABl (ABq (ABs (ADp (AB2 ?_))));obtain rfl:=ABk (ifT Ar Ag);exact ⟨_,ABu,Au.x,rfl⟩
    ·refine ABt (q_b (q_t (ABl (ABq (ABs ?_)))));obtain rfl:=ABk (AJc Ar Ag);exact ⟨_,ABu,Au.x,rfl⟩
def AHj (fuel:Nat) (a7:LiA) (a9:Int) (Ac:LiA) (Ad Ab:Int):Option ((Int × Int) ⊕ ((Int))):=
  (if Ab < (Ac.length:Int) then ((gI Ac Ab).bind fun Af=>((AFs fuel Af a9).bind fun Ag=>((gI a7 Ab).bind fun Ah=>((AFs fuel Ah a9).bind fun Ai=>(if a9≠0 then (if a9≠0 then (some (Sum.inl ((Int.tmod (w64 (Ad + (Int.tmod (w64 (Ag * Ai)) a9))) a9),(w64 (Ab + 1))))) else none) else none))))) else (some (Sum.inr<| Ad)))
def AHk (fuel:Nat) (a3:LiI) (a7:LiA) (a9:Int) (Aa:LiA) (Ab:Int):Option ((LiA × Int) ⊕ ((LiA))):=
  (if Ab < (a3.length:Int) then ((gI a3 Ab).bind fun Af=>((iter (fun s=>AHj fuel a7 a9 Af s.1 s.2) fuel (0,0)).bind (fun (Ag:Int)=>(if Aa.length<=100000000 then (some (Sum.inl ((Aa ++ [Ag]),(w64 (Ab + 1))))) else none)))) else (some (Sum.inr<| Aa)))
def AG4 (fuel:Nat) (a3:LiI) (a7:LiA) (a9:Int):Option LiA:=
  ((iter (fun s=>AHk fuel a3 a7 a9 s.1 s.2) fuel ([],0)).bind (fun (Ad:LiA)=>(some Ad)))
theorem ARd {fuel:Nat} {h:ABj} {Ap:Value} {a3:LiI} {Ar:Value} {a7:LiA} {a9:Int} {r:LiA} (H2:AFo (cI .i64) h Ap a3) (H6:SlC (cI .i64) h Ar a7) (hp:AG4 fuel a3 a7 a9=some r):ACa Tryz.prog 43 #[Ap,Ar,(.int .i64 a9)] h (fun x h'=>Ext h h'/\ ∃ (x0:Value) (F0:List Nat),x=x0/\OwC (cI .i64) 2 h' F0 x0 r/\Sp h' h.size [F0]):=by
 unfold AG4 at hp;refine cwf (l:=[_,_,_]) Tryz.func43 rfl rfl (ABl (ACr (ABq (ABn (ABl (Wl (ADh AB4 rfl H2 (Wl (ABp (ABr ?_))))))))));have Ay:=Kst.anil (cI .i64) 2 (Kst.k0 h);obtain ⟨Az,A7,A8⟩:=ABm hp;obtain ⟨A9,Ba,Bb⟩:=ACj A7;refine ACk 281474976685696 (fun x:(LiA) × (Value) × LnA × (Int)=>[(7,x.2.1),(15,(.int .i64 x.2.2.2))]) (fun k x h'=>iter A9 k (x.1,x.2.2.2)=some Az/\Kst h h' (Ay.L.set 0 (aO (cI .i64) 2 x.2.2.1 x.2.1 x.1))) (by kernel_rfl) fuel (([],(.slice none 0 0),[],0):(LiA) × (Value) × LnA × (Int)) ?_ ⟨rfl,rfl,trivial⟩ ?_
 ·exact ⟨Bb,Ay⟩
 rintro Cp ⟨Bc,Cq,Cr,Be⟩ Ct Cu ⟨Bf,Aa⟩;obtain ⟨Bg,Cv,rfl,Ab,Ag⟩:=AB5 Bf;rw [Ba] at Ab;dsimp only at Ab;unfold AHk at Ab;refine ABl (AC1 rfl rfl (ABp (ABn (⟨_,rfl,fun Ah=>?_,fun Ah=>?_⟩))))
 ·refine ABt (q_t (ABn (ABr (ABl ?_))));obtain ⟨Cw,Bh,Bi⟩:=ABm (AC5 Ab Ah);refine AIx AB4 rfl H2 rfl Bh fun Cx Cy Cz Bj A3=>AB9 ACo rfl (AB0 Bj Aa.x) (ACr (ABq (ABn (ABl (Wl (AD1 ABx rfl A3 (Wl (ABp (ABr ?_)))))))));obtain ⟨A4,Bl,Bm⟩:=ABm Bi;obtain ⟨Bn,Bo,Bp⟩:=ACj Bl;refine ACk 8796090932224 (fun x:(Int) × (Int)=>[(10,(.int .i64 x.1)),(21,(.int .i64 x.2))]) (fun k x h'=>iter Bn k (x.1,x.2)=some A4/\Kst h h' (Aa.L)) (by kernel_rfl) fuel ((0,0):(Int) × (Int)) ?_ ⟨rfl,rfl,trivial⟩ ?_
  ·exact ⟨Bp,Aa⟩
  rintro C0 ⟨Af,Bq⟩ C1 Ai ⟨Br,Ac⟩;obtain ⟨Bt,C2,rfl,Ad,Aj⟩:=AB5 Br;rw [Bo] at Ad;dsimp only at Ad;unfold AHj at Ad;refine ABl (AC1 rfl rfl (ABp (ABn (⟨_,rfl,fun Ak=>?_,fun Ak=>?_⟩))))
  ·refine ABt (q_t (ABn (ABr (ABl (Wl ?_)))));obtain ⟨C3,Bu,Bv⟩:=ABm (AC5 Ad Ak);refine AIw (c:=(cI .i64)) ABx rfl A3 rfl Bu fun C4 C5 C6 Bw Bx=>?_;obtain rfl:=Bw;refine AB9 ACt rfl (AB0 (Bx 0 _ rfl) Ac.x) (ACg (ABq (AEs (fun h'=>UpT [] Ai h') (by kernel_rfl) ?_)));have Am:UpT [] Ai Ai:=UpT.start all_nil;refine Wl (Wl (Wl ?_));obtain ⟨By,Bz,B1⟩:=ABm Bv;refine ADd Am (fun _ E=>Am.thenE E) rfl (AKv Bz) fun C7 C8 A5 B2=>?_;subst B2;refine Wl (Wl ?_);have Ao:=Am.thenE A5;obtain ⟨C9,B3,B4⟩:=ABm B1;refine AIw (c:=(cI .i64)) ABx rfl H6 rfl B3 fun Da Db Dc B5 B6=>?_;obtain rfl:=B5;refine AGw ACt rfl Ao (fun h' hb=>AB0 (B6 0 _ rfl) (Ac.x.trans hb.ext)) (Wl ?_);obtain ⟨B7,B8,B9⟩:=ABm B4;refine ADd Ao (fun _ E=>Ao.thenE E) rfl (AKv B8) fun Dd De Ca Cb=>?_;subst Cb;refine AMj rfl rfl (Wl ?_);obtain ⟨Cd,Ce⟩:=ifN B9;refine AGj rfl rfl Cd (AC3 rfl rfl (Wl ?_));obtain ⟨Cf,Cg⟩:=ifN Ce;refine AGj rfl rfl Cf (ACg (ACm (q_b (q_t (ABy (AC3 rfl rfl (Wl (ABp ?_))))))));obtain rfl:=ABk Cg;exact ⟨Bt,(((Int.tmod (w64 (Af + (Int.tmod (w64 (By * B7)) a9))) a9),(w64 (Bq + 1))):(Int) × (Int)),Nat.lt_succ_self _,⟨Aj,((Ac.e A5).e Ca)⟩,rfl,rfl,trivial⟩
  ·obtain rfl:=ABk (AC6 Ad Ak);change _=A4 at Aj;subst Aj;refine ACd (ACc (ACc (ADo (q_t (ABy (Wl (Wl ?_)))))));obtain ⟨Ch,Ci⟩:=ifN Bm;refine AOc ABx AHn rfl rfl trivial tt2 (fun _=>rfl) rfl (show ((cI .i64)).rep _ Af [(.int .i64 Af)] from rfl) (Ac.o p0) (by decide) Ch fun Df Cj Ck Dg Cm Cn Co=>ACg (ACm (q_b (q_t (ABy (AC3 rfl rfl (Wl (ABp ?_)))))));obtain rfl:=ABk Ci;exact ⟨Bg,(((Bc ++ [Af]),Ck,Cj,(w64 (Be + 1))):(LiA) × (Value) × LnA × (Int)),Nat.lt_succ_self _,⟨Ag,(Ac.uo p0 Cn Cm Co)⟩,rfl,rfl,trivial⟩
 ·obtain rfl:=ABk (AC6 Ab Ah);change _=Az at Ag;subst Ag;refine ACd (ACc (ACc (ADo (q_t (ABl (Wl (ABq (ABs ?_))))))));obtain rfl:=ABk A8;exact ⟨_,ABu,Aa.x,_,_,rfl,(Aa.o p0),Aa.s.sel [0] (by decide)⟩
def AKj (fuel:Nat) (a7:LiA) (a9:Int) (Ac:LiA) (Ad Ab:Int):Option ((Int × Int) ⊕ ((Int))):=
  (if Ab < (Ac.length:Int) then ((gI Ac Ab).bind fun Af=>((gI a7 Ab).bind fun Ag=>((AFs fuel Ag a9).bind fun Ah=>(if a9≠0 then (if a9≠0 then (some (Sum.inl ((Int.tmod (w64 (Ad + (Int.tmod (w64 (Af * Ah)) a9))) a9),(w64 (Ab + 1))))) else none) else none)))) else (some (Sum.inr<| Ad)))
def AGe (fuel:Nat) (a3:LiI) (a7:LiA) (a9:Int):Option Int:=
  ((AG4 fuel a3 a7 a9).bind fun Ad=>((iter (fun s=>AKj fuel a7 a9 Ad s.1 s.2) fuel (0,0)).bind (fun (Ae:Int)=>(some Ae))))
theorem ARx {fuel:Nat} {h:ABj} {Ah:Value} {a3:LiI} {Aj:Value} {a7:LiA} {a9 r:Int} (H2:AFo (cI .i64) h Ah a3) (H6:SlC (cI .i64) h Aj a7) (hp:AGe fuel a3 a7 a9=some r):ACa Tryz.prog 44 #[Ah,Aj,(.int .i64 a9)] h (fun x h'=>Ext h h'/\x= .int .i64 r):=by
 unfold AGe at hp;refine cwf (l:=[_,_,_]) Tryz.func44 rfl rfl (ABl (ACr (ABq (ABn (ABl (Wl (Wl (Wl ?_))))))));have K0:=Kst.k0 h;obtain ⟨Bw,Ar,Au⟩:=ABm hp;refine ACw rfl (ARd (H2.ext K0.x) (H6.ext K0.x) Ar) fun Bx By Av Aw=>?_;obtain ⟨Bz,B1,rfl,Ax,Ay⟩:=Aw;have Ae:=K0.no Av Ay Ax;refine AD1 ABx rfl (Ae.o p0).rd (Wl (ABp (ABr ?_)));obtain ⟨Ao,Az,A3⟩:=ABm Au;obtain ⟨A4,A5,A6⟩:=ACj Az;refine ACk 34359706496 (fun x:(Int) × (Int)=>[(7,(.int .i64 x.1)),(15,(.int .i64 x.2))]) (fun k x h'=>iter A4 k (x.1,x.2)=some Ao/\Kst h h' (Ae.L)) (by kernel_rfl) fuel ((0,0):(Int) × (Int)) ?_ ⟨rfl,rfl,trivial⟩ ?_
 ·exact ⟨A6,Ae⟩
 rintro B2 ⟨A7,A8⟩ B3 B4 ⟨A9,Aa⟩;obtain ⟨Ba,B5,rfl,Ab,Af⟩:=AB5 A9;rw [A5] at Ab;dsimp only at Ab;unfold AKj at Ab;refine ABl (AC1 rfl rfl (ABp (ABn (⟨_,rfl,fun Ag=>?_,fun Ag=>?_⟩))))
 ·refine ABt (q_t (ABn (ABr (ABl (Wl ?_)))));obtain ⟨Bb,Ap,Bc⟩:=ABm (AC5 Ab Ag);refine AOk ABx rfl (Aa.o p0) rfl Ap fun B6 Be=>?_;obtain ⟨B7,Bf,Bg⟩:=(Aa.o p0).cells Be Ap;obtain rfl:=Bf;refine AB9 ACt rfl (Bg 0 _ rfl) (ACg (ABq (ABy (Wl (Wl (Wl (Wl ?_)))))));obtain ⟨B8,Bh,Bi⟩:=ABm Bc;refine AIw (c:=(cI .i64)) ABx rfl H6 rfl Bh fun B9 Ca Cb Bj Bl=>?_;obtain rfl:=Bj;refine AB9 ACt rfl (AB0 (Bl 0 _ rfl) Aa.x) (Wl ?_);obtain ⟨Bm,Bn,Bo⟩:=ABm Bi;refine ACw rfl (AKv Bn) fun Cd Ce Bp Bq=>?_;subst Bq;refine AMj rfl rfl (Wl ?_);obtain ⟨Br,Bt⟩:=ifN Bo;refine AGj rfl rfl Br (AC3 rfl rfl (Wl ?_));obtain ⟨Bu,Bv⟩:=ifN Bt;refine AGj rfl rfl Bu (ACg (ACm (q_b (q_t (ABy (AC3 rfl rfl (Wl (ABp ?_))))))));obtain rfl:=ABk Bv;exact ⟨Ba,(((Int.tmod (w64 (A7 + (Int.tmod (w64 (Bb * Bm)) a9))) a9),(w64 (A8 + 1))):(Int) × (Int)),Nat.lt_succ_self _,⟨Af,(Aa.e Bp)⟩,rfl,rfl,trivial⟩
 ·obtain rfl:=ABk (AC6 Ab Ag);change _=Ao at Af;subst Af;refine ACd (ACc (ACc (ADo (q_t (ABl (Wl (ABq (ABs ?_))))))));obtain rfl:=ABk A3;exact ⟨_,ABu,Aa.x,rfl⟩
def AKl (fuel:Nat) (a5:Int) (a8:LiA) (Ab Aa:Int):Option ((Int × Int) ⊕ ((Bool) ⊕ (Int))):=
  (if Aa < (a8.length:Int) then ((gI a8 Aa).bind fun Ac=>(((if Ac < 0 then (some (Sum.inl <| false)) else (if a5<=Ac then (some (Sum.inl <| false)) else (some (Sum.inr <| ())))):Option ((Bool) ⊕ (Unit))).bind (fun ex=>match ex with | Sum.inl Af=>(some (Sum.inr<| Sum.inl <| Af)) | Sum.inr (_)=>(if Ab=0 then (some (Sum.inl (Ac,(w64 (Aa + 1))))) else (some (Sum.inl (Ab,(w64 (Aa + 1))))))))) else (some (Sum.inr<| Sum.inr <| Ab)))
def AFg (fuel:Nat) (a3:LiI) (a5:Int) (a8:LiA):Option Bool:=
  (if ¬ (a8.length:Int)=(a3.length:Int) then (some false) else ((iter (fun s=>AKl fuel a5 a8 s.1 s.2) fuel (0,0)).bind (fun ex=>match ex with | Sum.inl Ad=>(some Ad) | Sum.inr (Ae)=>(if Ae=1 then ((AGe fuel a3 a8 a5).bind fun Af=>(some (decide (Af=0)))) else (some false)))))
theorem AOp {fuel:Nat} {h:ABj} {Aq:Value} {a3:LiI} {a5:Int} {Av:Value} {a8:LiA} {r:Bool} (H2:AFo (cI .i64) h Aq a3) (H7:SlC (cI .i64) h Av a8) (hp:AFg fuel a3 a5 a8=some r):ACa Tryz.prog 42 #[Aq,(.int .i64 a5),Av] h (fun x h'=>Ext h h'/\x= .bool r):=by
 unfold AFg at hp;refine cwf (l:=[_,_,_]) Tryz.func42 rfl rfl (ABl (ABq (ABn (ABl (Wl (AD1 ABx rfl H7 (Wl (ADh AB4 rfl H2 (AHz rfl rfl (ABp ?_))))))))));have K0:=Kst.k0 h;refine ⟨_,rfl,fun Ak=>?_,fun Ak=>?_⟩
 ·refine ABl (ABq (ABs (AB2 ?_)));obtain rfl:=ABk (AC5 hp Ak);exact ⟨_,ABu,K0.x,rfl⟩
 ·refine ABt (q_t (ABl (ABq (ABn (ABl (Wl (AD1 ABx rfl H7 (Wl (ABp (ABr ?_))))))))));obtain ⟨Ae,A8,Af⟩:=ABm (AC6 hp Ak);obtain ⟨A9,Ba,Bb⟩:=ACj A8;refine ACk 4294836928 (fun x:(Int) × (Int)=>[(7,(.int .i64 x.1)),(17,(.int .i64 x.2))]) (fun k x h'=>iter A9 k (x.1,x.2)=some Ae/\Kst h h' (K0.L)) (by kernel_rfl) fuel ((0,0):(Int) × (Int)) ?_ ⟨rfl,rfl,trivial⟩ ?_
  ·exact ⟨Bb,K0⟩
  rintro Bp ⟨Ay,Az⟩ Bq Br ⟨Bc,Aa⟩;obtain ⟨A3,Bt,rfl,Ac,Ab⟩:=AB5 Bc;rw [Ba] at Ac;dsimp only at Ac;unfold AKl at Ac;refine ABl (AC1 rfl rfl (ABp (ABn (⟨_,rfl,fun Am=>?_,fun Am=>?_⟩))))
  ·refine ABt (q_t (ABn (ABr (ABl ?_))));obtain ⟨A4,Be,Bf⟩:=ABm (AC5 Ac Am);refine AIw (c:=(cI .i64)) ABx rfl H7 rfl Be fun Bu Bv Bw Bg Bh=>?_;obtain rfl:=Bg;refine AB9 ACt rfl (AB0 (Bh 0 _ rfl) Aa.x) (ABq ?_);obtain ⟨Bi,A5,Ag⟩:=ABm Bf;refine ANx 266338368 (fun x:Unit=>[]) (fun x h'=>(Sum.inr <| ())=Bi/\Kst h h' (Aa.L)) ?_ ?_
   ·refine ABl (Wl (AC1 rfl rfl (Wl ?_)));by_cases Ah:A4 < 0
    ·rw [decide_eq_true Ah];refine AG1 23 true (ABz rfl (ABp (ACe rfl (ABl (ABq ?_)))));obtain rfl:=ABk (ifT A5 Ah);obtain rfl:=ABk Ag;change _=Ae at Ab;subst Ab;refine ABs (AB2 (ADp (AB2 (AB2 (ADp (AB2 ?_))))));obtain rfl:=ABk Af;exact ⟨_,ABu,Aa.x,rfl⟩
    ·have A6:=ifF A5 Ah;rw [decide_eq_false Ah];refine ACb 23 false (Wl (ACb 23 false (Wl (ACb 23 false (ANe rfl rfl (ABw rfl (ABp (⟨_,rfl,fun Ao=>?_,fun Ao=>?_⟩))))))))
     ·refine ABl (ABq ?_);obtain rfl:=ABk (AC5 A6 Ao);obtain rfl:=ABk Ag;change _=Ae at Ab;subst Ab;refine ABs (AB2 (ADp (AB2 (AB2 (ADp (AB2 ?_))))));obtain rfl:=ABk Af;exact ⟨_,ABu,Aa.x,rfl⟩
     ·refine ABt (q_t ?_);exact ⟨(():Unit),⟨ABk (AC6 A6 Ao),Aa⟩,trivial⟩
   rintro ⟨⟩ Bx By ⟨Bj,A7⟩;subst Bj;refine ABl (Wl (ADk rfl rfl (ABp (⟨_,rfl,fun Ap=>?_,fun Ap=>?_⟩))))
   ·refine ABy (Wl (ACg (ACm (q_b (q_t (ABy (AC3 rfl rfl (Wl (ABp ?_)))))))));obtain rfl:=ABk (AC5 Ag Ap);exact ⟨A3,((A4,(w64 (Az + 1))):(Int) × (Int)),Nat.lt_succ_self _,⟨Ab,A7⟩,rfl,rfl,trivial⟩
   ·refine ABt (q_b (q_t (ABy (AC3 rfl rfl (Wl (ABp ?_))))));obtain rfl:=ABk (AC6 Ag Ap);exact ⟨A3,((Ay,(w64 (Az + 1))):(Int) × (Int)),Nat.lt_succ_self _,⟨Ab,A7⟩,rfl,rfl,trivial⟩
  ·obtain rfl:=ABk (AC6 Ac Am);change _=Ae at Ab;subst Ab;refine ACd (ACc (ACc (ADo (q_t (ABl (Wl (ADk rfl rfl (Wl ?_))))))));by_cases Ai:Ay=1
   ·rw [decide_eq_true Ai];refine ACb 34 true (Wl (ACb 34 true (Wl (ACb 34 true (Wl (ACb 34 true ?_))))));obtain ⟨Bz,Bl,Bm⟩:=ABm (ifT Af Ai);refine ACw rfl (ARx (H2.ext Aa.x) (H7.ext Aa.x) Bl) fun B1 B2 Bn Bo=>?_;subst Bo;refine ACb 34 true (ADk rfl rfl (ABz rfl (ABq (ABs ?_))));obtain rfl:=ABk Bm;exact ⟨_,ABu,(Aa.e Bn).x,rfl⟩
   ·rw [decide_eq_false Ai];refine ALv 34 false (ABw rfl (ABq (ABs ?_)));obtain rfl:=ABk (ifF Af Ai);exact ⟨_,ABu,Aa.x,rfl⟩
def AKx (fuel:Nat) (a5 Aa:Int) (Ab:LiA):Option ((Int × LiA) ⊕ ((Int × LiA))):=
  (((if 0<=Aa then ((gI Ab Aa).bind fun Ad=>(if Ad=(w64 (a5 - 1)) then (some (Sum.inl <| ())) else (some (Sum.inr <| ())))) else (some (Sum.inr <| ()))):Option ((Unit) ⊕ (Unit))).bind (fun ex=>match ex with | Sum.inl _=>((gI Ab Aa).bind fun Ae=>(some (Sum.inl ((w64 (Aa - 1)),(sI Ab Aa 0))))) | Sum.inr (_)=>(some (Sum.inr<| (Aa,Ab)))))
def AKy (fuel:Nat) (a3:LiI) (a5:Int) (Ab:LiI) (Aa:LiA):Option ((LiI × LiA) ⊕ ((LiI))):=
  ((((AFg fuel a3 a5 Aa).bind fun Ah=>(if Ah=true then (if Aa.length<=100000000 then (if Ab.length<=100000000 then (some ( (Ab ++ [Aa]))) else none) else none) else (some ( Ab)))):Option ((LiI))).bind (fun (Ae:LiI)=>((((iter (fun s=>AKx fuel a5 s.1 s.2) fuel ((w64 ((Aa.length:Int) - 1)),Aa)).bind (fun ((Ai,Aj):Int × LiA)=>(some ( (Ai,Aj))))):Option ((Int × LiA))).bind (fun ((Ac,Af):Int × LiA)=>(if Ac < 0 then (some (Sum.inr<| Ae)) else ((gI Af Ac).bind fun Ak=>(some (Sum.inl (Ae,(sI Af Ac (w64 (Ak + 1))))))))))))
def AIe (fuel:Nat) (a3:LiI) (a5:Int):Option LiI:=
  (if 0<=(a3.length:Int)/\(a3.length:Int)<=100000000 then ((iter (fun s=>AKy fuel a3 a5 s.1 s.2) fuel ([],(List.replicate (Int.toNat (a3.length:Int)) (0:Int)))).bind (fun (Ac:LiI)=>(some Ac))) else none)
theorem ASw {fuel:Nat} {h:ABj} {A5:Value} {a3:LiI} {a5:Int} {r:LiI} (H2:AFo (cI .i64) h A5 a3) (hp:AIe fuel a3 a5=some r):ACa Tryz.prog 33 #[A5,(.int .i64 a5)] h (fun x h'=>Ext h h'/\ ∃ (x0:Value) (F0:List Nat) (Bp:List LnA) (Bq:List Value),x=x0/\AFh (cI .i64) 23 2 h' F0 Bp Bq x0 r/\Sp h' h.size [F0]):=by
 unfold AIe at hp;refine cwf (l:=[_,_]) Tryz.func33 rfl rfl (ABl (ACr (ACr (Wl (ADh AB4 rfl H2 ?_)))));obtain ⟨Br,Bt⟩:=ifN hp;refine ASc (c:=(cI .i64)) (a:=0) ABx AHn rfl rfl (fun _=>rfl) rfl trivial tt2 rfl rfl (by decide) Br fun Bu Ao Dw Bv E8 Bx By=>ABq (ABr ?_);have Ba:=Kst.anil2 (cI .i64) 23 2 ((Kst.k0 h).no E8 (AGy Bx By) Bv);obtain ⟨Bb,Bz,B1⟩:=ABm Bt;obtain ⟨B2,B3,B4⟩:=ACj Bz;refine ACk 281474976708784 (fun x:(LiI) × (Value) × LnA × LnN × LvA × (LiA) × LnA=>[(5,x.2.1)]) (fun k x h'=>iter B2 k (x.1,x.2.2.2.2.2.1)=some Bb/\Kst h h' ((Ba.L.set 0 (aO2 (cI .i64) 23 2 x.2.2.1 x.2.2.2.1 x.2.2.2.2.1 x.2.1 x.1)).set 1 (aO (cI .i64) 2 x.2.2.2.2.2.2 Ao x.2.2.2.2.2.1))) (by kernel_rfl) fuel (([],(.slice none 0 0),[],[],[],(List.replicate (Int.toNat (a3.length:Int)) (0:Int)),[Bu]):(LiI) × (Value) × LnA × LnN × LvA × (LiA) × LnA) ?_ ⟨rfl,trivial⟩ ?_
 ·exact ⟨B4,Ba⟩
 rintro Dx ⟨Bc,B5,B6,Be,Bf,Ap,B7⟩ Dy Dz ⟨B8,Ae⟩;obtain ⟨B9,D0,rfl,Af,Aq⟩:=AB5 B8;rw [B3] at Af;dsimp only at Af;unfold AKy at Af;refine ABr ?_;obtain ⟨Ca,Cb,Cd⟩:=ABm Af;refine ANx 1046560 (fun x:(LiI) × (Value) × LnA × LnN × LvA=>[(5,x.2.1)]) (fun x h'=>( x.1)=Ca/\Kst h h' (Ae.L.set 0 (aO2 (cI .i64) 23 2 x.2.2.1 x.2.2.2.1 x.2.2.2.2 x.2.1 x.1))) ?_ ?_
 ·refine ABl (Wl (Wl (Wl ?_)));obtain ⟨D1,Ce,Bg⟩:=ABm Cb;refine ACw rfl (AOp (H2.ext Ae.x) (Ae.o p1).rd Ce) fun D2 D3 Cf Cg=>?_;subst Cg;refine ABp ?_;have Ar:=Ae.e Cf;refine ⟨_,rfl,fun Au=>?_,fun Au=>?_⟩
  ·refine ABy (Wl (Wl ?_));obtain ⟨Ch,Ci⟩:=ifN (ifT Bg Au);refine Aor ABx AHn rfl rfl trivial tt2 rfl rfl (Ar.o p1).rd (by decide) Ch fun Cj Ck D4 Cm Cn Co=>?_;have Ag:=Ar.no Cn Co Cm;obtain ⟨Cp,Cq⟩:=ifN Ci;refine Ac8 AB4 AMw rfl rfl trivial tt2 (fun _=>rfl) rfl (Ag.o p0) (Ag.o2 p1) (Ag.dj p0 p1 (by decide)) (by decide) Cp fun D5 Cr Ct D6 Cu Cv Cw=>ABq ?_;exact ⟨(((Bc ++ [Ap]),Ct,Cr,(Be ++ [Cj]),(Bf ++ [Ck])):(LiI) × (Value) × LnA × LnN × LvA),⟨ABk Cq,(Ag.m2 p0 p1 (by decide) Cv Cu Cw).sel [1,2] (by decide)⟩,rfl,trivial⟩
  ·refine ABt (q_t ?_);exact ⟨((Bc,B5,B6,Be,Bf):(LiI) × (Value) × LnA × LnN × LvA),⟨ABk (AJc Bg Au),Ar⟩,rfl,trivial⟩
 rintro ⟨Cx,Cy,Cz,C0,C1⟩ D7 D8 ⟨C2,Ah⟩;subst C2;refine ABl (Wl (AD1 ABx rfl (Ah.o p1).rd (AHd rfl rfl (ABq ?_))));obtain ⟨C3,C4,Bh⟩:=ABm Cd;refine ANx 549747425408 (fun x:(Int) × (LiA) × LnA=>[(7,(.int .i64 x.1))]) (fun x h'=>( (x.1,x.2.1))=C3/\Kst h h' (Ah.L.set 1 (aO (cI .i64) 2 x.2.2 Ao x.2.1))) ?_ ?_
 ·refine ABr ?_;obtain ⟨Av,C5,Bi⟩:=ABm C4;obtain ⟨C6,C7,C8⟩:=ACj C5;refine ACk 549747425408 (fun x:(Int) × (LiA) × LnA=>[(7,(.int .i64 x.1))]) (fun k x h'=>iter C6 k (x.1,x.2.1)=some Av/\Kst h h' (Ah.L.set 1 (aO (cI .i64) 2 x.2.2 Ao x.2.1))) (by kernel_rfl) fuel (((w64 ((Ap.length:Int) - 1)),Ap,B7):(Int) × (LiA) × LnA) ?_ ⟨rfl,trivial⟩ ?_
  ·exact ⟨C8,Ah⟩
  rintro D9 ⟨Ac,Aw,Ax⟩ Ea Eb ⟨C9,Ab⟩;obtain ⟨Da,Ec,rfl,Ai,Ad⟩:=AB5 C9;rw [C7] at Ai;dsimp only at Ai;unfold AKx at Ai;obtain ⟨Db,Bj,Ay⟩:=ABm Ai;refine ANx 17171480576 (fun x:Unit=>[]) (fun x h'=>(Sum.inl <| ())=Db/\Kst h h' (Ab.L)) ?_ ?_
  ·refine ABl (Wl (ANe rfl rfl (Wl ?_)));by_cases Aj:0<=Ac
   ·rw [decide_eq_true Aj];refine ACb 25 true (Wl (ACb 25 true (Wl (ACb 25 true ?_))));obtain ⟨Ed,Bl,Bm⟩:=ABm (ifT Bj Aj);refine AOk ABx rfl (Ab.o p1) rfl Bl fun Ee Dc=>ACb 25 true ?_;obtain ⟨Ef,Dd,De⟩:=(Ab.o p1).cells Dc Bl;obtain rfl:=Dd;refine AB9 ACt rfl (De 0 _ rfl) (ACb 25 true (Wl (ACb 25 true (AHd rfl rfl (ACb 25 true (ADk rfl rfl (ABz rfl (ABp (⟨_,rfl,fun Az=>?_,fun Az=>?_⟩)))))))))
    ·refine ABt (q_t ?_);exact ⟨(():Unit),⟨ABk (AC5 Bm Az),Ab⟩,trivial⟩
    ·obtain rfl:=ABk (AC6 Bm Az);obtain rfl:=ABk Ay;change _=Av at Ad;subst Ad;refine ACd (ACc (ACc (ADo (q_t ?_))));exact ⟨((Ac,Aw,Ax):(Int) × (LiA) × LnA),⟨ABk Bi,Ab⟩,rfl,trivial⟩
   ·rw [decide_eq_false Aj];refine ALv 25 false (AGh 25 false (ABw rfl (ABp (ACf rfl ?_))));obtain rfl:=ABk (ifF Bj Aj);obtain rfl:=ABk Ay;change _=Av at Ad;subst Ad;refine ACd (ACc (ACc (ADo (q_t ?_))));exact ⟨((Ac,Aw,Ax):(Int) × (LiA) × LnA),⟨ABk Bi,Ab⟩,rfl,trivial⟩
  rintro ⟨⟩ Eg Eh ⟨Df,A3⟩;subst Df;refine ABr (ABl (Wl (Wl ?_)));obtain ⟨Ei,Bn,Dg⟩:=ABm Ay;refine AOk ABx rfl (A3.o p1) rfl Bn fun Ej Dh=>Abm (AGf ACt rfl rfl rfl) (A3.o p1) Dh Bn (show ((cI .i64)).rep _ 0 _ from rfl) fun Ek Di Dj=>ABp (ABy (Wl (AHd rfl rfl (ACg (ACm (q_b (q_t ?_)))))));obtain rfl:=ABk Dg;exact ⟨Da,(((w64 (Ac - 1)),(sI Aw Ac 0),Ax):(Int) × (LiA) × LnA),Nat.lt_succ_self _,⟨Ad,(A3.uO p1 Dj Di)⟩,rfl,trivial⟩
 rintro ⟨Dk,Dl,Dn⟩ El Em ⟨Do,Aa⟩;subst Do;refine ABn (ABl (Wl (AC1 rfl rfl (ABp (⟨_,rfl,fun A4=>?_,fun A4=>?_⟩)))))
 ·refine ABl (Wl (ABq ?_));obtain rfl:=ABk (AC5 Bh A4);change _=Bb at Aq;subst Aq;refine ABs (AB2 (ADp (AB2 (ADp ?_))));obtain rfl:=ABk B1;exact ⟨_,ABu,Aa.x,_,_,_,_,rfl,(Aa.o2 p0),Aa.s.sel [0] (by decide)⟩
 ·refine ABt (q_t (ABy (Wl (Wl ?_))));obtain ⟨Bo,Ak,Dp⟩:=ABm (AC6 Bh A4);refine AOk ABx rfl (Aa.o p1) rfl Ak fun En Dq=>?_;obtain ⟨Eo,Dr,Ds⟩:=(Aa.o p1).cells Dq Ak;obtain rfl:=Dr;refine AB9 ACt rfl (Ds 0 _ rfl) (AC3 rfl rfl (AOk ABx rfl (Aa.o p1) rfl Ak fun Ep Dt=>Abm (AGf ACt rfl rfl rfl) (Aa.o p1) Dt Ak (show ((cI .i64)).rep _ (w64 (Bo + 1)) _ from rfl) fun Er Du Dv=>ACm (q_b (q_t ?_))));obtain rfl:=ABk Dp;exact ⟨B9,((Cx,Cy,Cz,C0,C1,(sI Dl Dk (w64 (Bo + 1))),Dn):(LiI) × (Value) × LnA × LnN × LvA × (LiA) × LnA),Nat.lt_succ_self _,⟨Aq,(Aa.uO p1 Dv Du)⟩,rfl,trivial⟩
noncomputable def AEc (fuel:Nat) (a3:LiI) (a5:Int):Option (LiI × Int):=
  ((AGr fuel a3 a5 true).bind fun x6=>(if ¬ x6=0 then (some ([],x6)) else ((AIe fuel a3 a5).bind fun Ad=>(some (Ad,0)))))
theorem AMo {fuel:Nat} {h:ABj} {Ae:Value} {a3:LiI} {a5:Int} {r:(LiI × Int)} (H2:AFo (cI .i64) h Ae a3) (hp:AEc fuel a3 a5=some r):ACa Tryz.prog 21 #[Ae,(.int .i64 a5)] h (fun x h'=>Ext h h'/\ ∃ (x0:Value) (F0:List Nat) (Ao:List LnA) (Ap:List Value),x= .tuple #[x0,.int .i64 r.2]/\AFh (cI .i64) 23 2 h' F0 Ao Ap x0 r.1/\Sp h' h.size [F0]):=by
 unfold AEc at hp;refine cwf (l:=[_,_]) Tryz.func21 rfl rfl (ABl (ACg (ABq (ABn (ABl (Wl (Wl ?_)))))));have K0:=Kst.k0 h;obtain ⟨x6,Aq,Am⟩:=ABm hp;refine ACw rfl (AQm (H2.ext K0.x) Aq) fun A5 A6 E9 Au=>?_;subst Au;refine ACr (Wl (AHz rfl rfl (ABp ?_)));have Aa:=K0.e E9;refine ⟨_,rfl,fun Ab=>?_,fun Ab=>?_⟩
 ·refine ABl (Wl (ACg (ABq (ABs (AB2 ?_)))));have Ac:=Kst.anil2 (cI .i64) 23 2 Aa;obtain rfl:=ABk (AC5 Am Ab);exact ⟨_,ADc,Ac.x,_,_,_,_,rfl,(Ac.o2 p0),Ac.s.sel [0] (by decide)⟩
 ·refine ABt (q_t (ABl (Wl (Wl ?_))));obtain ⟨A7,Av,Aw⟩:=ABm (AC6 Am Ab);refine ACw rfl (ASw (H2.ext Aa.x) Av) fun A8 A9 Ax Ay=>?_;obtain ⟨Ba,Bb,Bc,Be,rfl,Az,A3⟩:=Ay;refine ACg (ABq (ABs ?_));have Ad:=Aa.no2 Ax A3 Az;obtain rfl:=ABk Aw;exact ⟨_,ADc,Ad.x,_,_,_,_,rfl,(Ad.o2 p0),Ad.s.sel [0] (by decide)⟩
noncomputable def ADm (fuel:Nat):Option Bool:=
  ((AE8 fuel ([([1,0]:List Int),([0,1]:List Int)]:List LiA) 5).bind fun (Ab,Ac)=>((AOo fuel ([([1,0]:List Int),([0,1]:List Int)]:List LiA) 5 ([1,2]:List Int)).bind fun (Aa,Ad)=>((AF3 fuel ([([1,0,0]:List Int),([0,1,0]:List Int),([0,0,1]:List Int)]:List LiA) 3).bind fun (Ae,Af)=>(if Ac=0 then (if Ad=0 then (if Af=0 then ((AEn fuel Ab ([([1,2]:List Int),([1,3]:List Int)]:List LiA)).bind fun Ag=>(if Ag=true then (if (Aa.length:Int)=2 then ((gI Aa 0).bind fun Ah=>(if Ah=11 then ((gI Aa 1).bind fun Ai=>(if Ai=2 then (some (decide (Ae=4))) else (some false))) else (some false))) else (some false)) else (some false))) else (some false)) else (some false)) else (some false)))))
theorem AF4 {fuel:Nat} {h:ABj} {r:Bool} (HO:AU4 h) (hp:ADm fuel=some r):ACa Tryz.prog 10 #[] h (fun x h'=>Ext h h'/\x= .bool r):=by
 unfold ADm at hp;refine cwf (l:=[]) Tryz.func10 rfl rfl (ABl (ACr (AQ6 (κ:= .i64) [1,0] ABx AHn rfl rfl trivial tt2 rfl rfl rfl rfl fun b1 v2 h3 I4 E5 Bf Bg=>AQ6 (κ:= .i64) [0,1] ABx AHn rfl rfl trivial tt2 rfl rfl rfl rfl fun Bh Bi Dv Bj Bl Bm Bn=>?_)));have Ac:=((Kst.k0 h).no E5 (AGy Bf Bg) I4).no Bl (AGy Bm Bn) Bj;have Au:=(((Ac.a0).grab p1).grab p0);refine AUl (c:=(cI .i64)) (el:=2) [[b1],[Bh]] [v2,Bi] [([1,0]:List Int),([0,1]:List Int)] AB4 AMw rfl rfl trivial tt2 rfl rfl rfl rfl (AOn (Ac.o p1).isOne (AOn (Ac.o p0).isOne AYp)) ⟨(Ac.o p1),(Ac.o p0),trivial⟩ (by simpa using Au.ndT) fun Dw Dx Dy Bo Bp Bq=>ACr (Wl ?_);have Ao:=Au.lit Bp Bo (by simpa using Bq);obtain ⟨⟨Dz,Br⟩,Bt,Av⟩:=ABm hp;dsimp only at Av;refine ACw rfl (AMt (Ao.o2 p0).rd (HO.ext Ao.x) Bt) fun D0 D1 Bu Bv=>?_;obtain ⟨D2,D3,D4,D5,rfl,Bw,Bx⟩:=Bv;refine Wl (AC4 rfl rfl (AC4 rfl rfl (ACg (ACr (Wl (AQ6 (κ:= .i64) [1,2] ABx AHn rfl rfl trivial tt2 rfl rfl rfl rfl fun D6 D7 D8 By Bz B1 B2=>?_))))));have Ae:=(Ao.no2 Bu Bx Bw).no Bz (AGy B1 B2) By;obtain ⟨⟨B3,B4⟩,B5,Aw⟩:=ABm Av;dsimp only at Aw;refine ACw rfl (Aan (Ae.o2 p2).rd (Ae.o p0).rd (HO.ext Ae.x) B5) fun D9 Ea B6 B7=>?_;obtain ⟨Eb,Ec,rfl,B8,B9⟩:=B7;refine Wl (AC4 rfl rfl (AC4 rfl rfl (ACg (ACr (AQ6 (κ:= .i64) [1,0,0] ABx AHn rfl rfl trivial tt2 rfl rfl rfl rfl fun Ca Cb Ed Cd Ce Cf Cg=>AQ6 (κ:= .i64) [0,1,0] ABx AHn rfl rfl trivial tt2 rfl rfl rfl rfl fun Ch Ci Ee Cj Ck Cm Cn=>AQ6 (κ:= .i64) [0,0,1] ABx AHn rfl rfl trivial tt2 rfl rfl rfl rfl fun Co Cp Ef Cq Cr Ct Cu=>?_)))));have Ab:=(((Ae.no B6 B9 B8).no Ce (AGy Cf Cg) Cd).no Ck (AGy Cm Cn) Cj).no Cr (AGy Ct Cu) Cq;have Ax:=((((Ab.a0).grab p2).grab p1).grab p0);refine AUl (c:=(cI .i64)) (el:=2) [[Ca],[Ch],[Co]] [Cb,Ci,Cp] [([1,0,0]:List Int),([0,1,0]:List Int),([0,0,1]:List Int)] AB4 AMw rfl rfl trivial tt2 rfl rfl rfl rfl (AOn (Ab.o p2).isOne (AOn (Ab.o p1).isOne (AOn (Ab.o p0).isOne AYp))) ⟨(Ab.o p2),(Ab.o p1),(Ab.o p0),trivial⟩ (by simpa using Ax.ndT) fun Eg Eh Ei Cv Cw Cx=>?_;have Ap:=Ax.lit Cw Cv (by simpa using Cx);obtain ⟨⟨Ej,Cy⟩,Cz,Aq⟩:=ABm Aw;dsimp only at Aq;refine ACw rfl (ANm (Ap.o2 p0).rd (HO.ext Ap.x) Cz) fun Ek El C0 C1=>?_;subst C1;refine Wl (AC4 rfl rfl (AC4 rfl rfl (ACg (ACr (Wl (ADk rfl rfl (Wl ?_)))))));have Af:=Ap.e C0;by_cases Ag:Br=0
 ·have Ay:=ifT Aq Ag;rw [decide_eq_true Ag];refine ACb 32 true (Wl (ACb 32 true (ADk rfl rfl (ABz rfl (Wl ?_)))));by_cases Ah:B4=0
  ·have Az:=ifT Ay Ah;rw [decide_eq_true Ah];refine ACb 36 true (Wl (ACb 36 true (ADk rfl rfl (ABz rfl (Wl ?_)))));by_cases Ai:Cy=0
   ·rw [decide_eq_true Ai];refine ACb 40 true (Wl (ACb 40 true (AQ6 (κ:= .i64) [1,2] ABx AHn rfl rfl trivial tt2 rfl rfl rfl rfl fun C2 C3 Em C4 C5 C6 C7=>ACb 40 true (AQ6 (κ:= .i64) [1,3] ABx AHn rfl rfl trivial tt2 rfl rfl rfl rfl fun C8 C9 En Da Db Dc Dd=>ACb 40 true ?_))));have Ad:=(Af.no C5 (AGy C6 C7) C4).no Db (AGy Dc Dd) Da;have A3:=(((Ad.a0).grab p1).grab p0);refine AUl (c:=(cI .i64)) (el:=2) [[C2],[C8]] [C3,C9] [([1,2]:List Int),([1,3]:List Int)] AB4 AMw rfl rfl trivial tt2 rfl rfl rfl rfl (AOn (Ad.o p1).isOne (AOn (Ad.o p0).isOne AYp)) ⟨(Ad.o p1),(Ad.o p0),trivial⟩ (by simpa using A3.ndT) fun Eo Ep Er De Df Dg=>ACb 40 true ?_;have Ar:=A3.lit Df De (by simpa using Dg);obtain ⟨Dh,Di,A4⟩:=ABm (ifT Az Ai);refine ACw rfl (AKh (Ar.o2 p9).rd (Ar.o2 p0).rd Di) fun Es Et Dj Dk=>?_;subst Dk;refine ABz rfl (Wl ?_);have Aa:=Ar.e Dj;cases A5:Dh
    ·refine AG1 47 false (ABw rfl (Wl (AJa 52 false (ABw rfl (Wl (AJa 58 false (ABw rfl (Wl (AGh 64 false (ABw rfl (ABq (ABs ?_))))))))))));obtain rfl:=ABk (AJc A4 A5);exact ⟨_,ABu,Aa.x,rfl⟩
    ·refine ACb 47 true (Wl (ACb 47 true (AD1 ABx rfl (Aa.o p7).rd (ACb 47 true (ADk rfl rfl (ABz rfl (Wl ?_)))))));have A6:=ifT A4 A5;by_cases Aj:(B3.length:Int)=2
     ·rw [decide_eq_true Aj];refine ACb 52 true (Wl (ACb 52 true ?_));obtain ⟨Dl,A7,A8⟩:=ABm (ifT A6 Aj);refine AOk ABx rfl (Aa.o p7) rfl A7 fun Eu Dn=>ACb 52 true ?_;obtain ⟨Ev,Do,Dp⟩:=(Aa.o p7).cells Dn A7;obtain rfl:=Do;refine AB9 ACt rfl (Dp 0 _ rfl) (ACb 52 true (ADk rfl rfl (ABz rfl (Wl ?_))));by_cases Ak:Dl=11
      ·rw [decide_eq_true Ak];refine ACb 58 true (Wl (ACb 58 true ?_));obtain ⟨Dq,A9,Ba⟩:=ABm (ifT A8 Ak);refine AOk ABx rfl (Aa.o p7) rfl A9 fun Ew Dr=>ACb 58 true ?_;obtain ⟨Ey,Ds,Dt⟩:=(Aa.o p7).cells Dr A9;obtain rfl:=Ds;refine AB9 ACt rfl (Dt 0 _ rfl) (ACb 58 true (ADk rfl rfl (ABz rfl (Wl ?_))));by_cases Am:Dq=2
       ·rw [decide_eq_true Am];refine ACb 64 true (Wl (ACb 64 true (ADk rfl rfl (ABz rfl (ABq (ABs ?_))))));obtain rfl:=ABk (ifT Ba Am);exact ⟨_,ABu,Aa.x,rfl⟩
       ·rw [decide_eq_false Am];refine AGh 64 false (ABw rfl (ABq (ABs ?_)));obtain rfl:=ABk (ifF Ba Am);exact ⟨_,ABu,Aa.x,rfl⟩
      ·rw [decide_eq_false Ak];refine AJa 58 false (ABw rfl (Wl (AGh 64 false (ABw rfl (ABq (ABs ?_))))));obtain rfl:=ABk (ifF A8 Ak);exact ⟨_,ABu,Aa.x,rfl⟩
     ·rw [decide_eq_false Aj];refine AJa 52 false (ABw rfl (Wl (AJa 58 false (ABw rfl (Wl (AGh 64 false (ABw rfl (ABq (ABs ?_)))))))));obtain rfl:=ABk (ifF A6 Aj);exact ⟨_,ABu,Aa.x,rfl⟩
   ·rw [decide_eq_false Ai];refine ALv 40 false (ABw rfl (Wl (AG1 47 false (ABw rfl (Wl (AJa 52 false (ABw rfl (Wl (AJa 58 false (ABw rfl (Wl (AGh 64 false (ABw rfl (ABq (ABs ?_)))))))))))))));obtain rfl:=ABk (ifF Az Ai);exact ⟨_,ABu,Af.x,rfl⟩
  ·rw [decide_eq_false Ah];refine AGh 36 false (ABw rfl (Wl (ALv 40 false (ABw rfl (Wl (AG1 47 false (ABw rfl (Wl (AJa 52 false (ABw rfl (Wl (AJa 58 false (ABw rfl (Wl (AGh 64 false (ABw rfl (ABq (ABs ?_))))))))))))))))));obtain rfl:=ABk (ifF Ay Ah);exact ⟨_,ABu,Af.x,rfl⟩
 ·rw [decide_eq_false Ag];refine AGh 32 false (ABw rfl (Wl (AGh 36 false (ABw rfl (Wl (ALv 40 false (ABw rfl (Wl (AG1 47 false (ABw rfl (Wl (AJa 52 false (ABw rfl (Wl (AJa 58 false (ABw rfl (Wl (AGh 64 false (ABw rfl (ABq (ABs ?_)))))))))))))))))))));obtain rfl:=ABk (ifF Aq Ag);exact ⟨_,ABu,Af.x,rfl⟩
def AHl (fuel:Nat) (a3:LiI) (Aa:Int):Option ((Int) ⊕ ((Bool) ⊕ (Unit))):=
  (if Aa < (a3.length:Int) then ((gI a3 Aa).bind fun Ac=>(if 12 < (Ac.length:Int) then (some (Sum.inr<| Sum.inl <| true)) else (some (Sum.inl (w64 (Aa + 1)))))) else (some (Sum.inr<| Sum.inr <| ())))
def AG5 (fuel:Nat) (a3:LiI):Option Bool:=
  (if 12 < (a3.length:Int) then (some true) else ((iter (fun s=>AHl fuel a3 s) fuel 0).bind (fun ex=>match ex with | Sum.inl Ab=>(some Ab) | Sum.inr (_)=>(some false))))
theorem ARe {fuel:Nat} {h:ABj} {Aj:Value} {a3:LiI} {r:Bool} (H2:AFo (cI .i64) h Aj a3) (hp:AG5 fuel a3=some r):ACa Tryz.prog 9 #[Aj] h (fun x h'=>Ext h h'/\x= .bool r):=by
 unfold AG5 at hp;refine cwf (l:=[_]) Tryz.func9 rfl rfl (ABl (ABq (ABn (ABl (Wl (ADh AB4 rfl H2 (AJe rfl rfl (ABp ?_))))))));have K0:=Kst.k0 h;refine ⟨_,rfl,fun Af=>?_,fun Af=>?_⟩
 ·refine ABl (ABq (ABs (AB2 ?_)));obtain rfl:=ABk (AC5 hp Af);exact ⟨_,ABu,K0.x,rfl⟩
 ·refine ABt (q_t (ABn (ABl (Wl (ADh AB4 rfl H2 (Wl (ABp (ABr ?_))))))));obtain ⟨Ag,Ap,Am⟩:=ABm (AC6 hp Af);obtain ⟨Aq,Ar,Au⟩:=ACj Ap;refine ACk 261140 (fun x:(Int)=>[(10,(.int .i64 x))]) (fun k x h'=>iter Aq k x=some Ag/\Kst h h' (K0.L)) (by kernel_rfl) fuel (0:(Int)) ?_ ⟨rfl,trivial⟩ ?_
  ·exact ⟨Au,K0⟩
  rintro A4 Av A5 A6 ⟨Aw,Ac⟩;obtain ⟨Ax,A7,rfl,Aa,Ab⟩:=AB5 Aw;rw [Ar] at Aa;dsimp only at Aa;unfold AHl at Aa;refine ABl (AC1 rfl rfl (ABp (ABn (⟨_,rfl,fun Ah=>?_,fun Ah=>?_⟩))))
  ·refine ABt (q_t (ABn (ABr (ABl ?_))));obtain ⟨A8,Ay,Ao⟩:=ABm (AC5 Aa Ah);refine AIx AB4 rfl H2 rfl Ay fun A9 Ba Bb Az A3=>AB9 ACo rfl (AB0 Az Ac.x) (ACr (Wl (AD1 ABx rfl A3 (AJe rfl rfl (ABp (⟨_,rfl,fun Ai=>?_,fun Ai=>?_⟩))))))
   ·refine ABl (ABq ?_);obtain rfl:=ABk (AC5 Ao Ai);change _=Ag at Ab;subst Ab;refine ABs (ADp (AB2 (AB2 (ADp (AB2 ?_)))));obtain rfl:=ABk Am;exact ⟨_,ABu,Ac.x,rfl⟩
   ·refine ABt (q_b (q_t (ABy (AC3 rfl rfl (Wl (ABp ?_))))));obtain rfl:=ABk (AC6 Ao Ai);exact ⟨Ax,((w64 (Av + 1)):(Int)),Nat.lt_succ_self _,⟨Ab,Ac⟩,rfl,trivial⟩
  ·obtain rfl:=ABk (AC6 Aa Ah);change _=Ag at Ab;subst Ab;refine ACd (ACc (ACc (ADo (q_t (ABl (ABq (ABs ?_)))))));obtain rfl:=ABk Am;exact ⟨_,ABu,Ac.x,rfl⟩
def AKz (fuel:Nat) (a3:LiI) (a5 Aa Ab:Int):Option ((Int × Int) ⊕ ((Int))):=
  (if Ab < (a3.length:Int) then (if 0 < a5 then (if a5 < 100 then (some (Sum.inl ((w64 (Aa * a5)),(w64 (Ab + 1))))) else (some (Sum.inl (Aa,(w64 (Ab + 1)))))) else (some (Sum.inl (Aa,(w64 (Ab + 1)))))) else (some (Sum.inr<| Aa)))
def AGu (fuel:Nat) (a3:LiI) (a5:Int):Option Bool:=
  ((iter (fun s=>AKz fuel a3 a5 s.1 s.2) fuel (1,0)).bind (fun (Ac:Int)=>(some (decide (Ac < 20000)))))
theorem ANo {fuel:Nat} {h:ABj} {Ak:Value} {a3:LiI} {a5:Int} {r:Bool} (H2:AFo (cI .i64) h Ak a3) (hp:AGu fuel a3 a5=some r):ACa Tryz.prog 19 #[Ak,(.int .i64 a5)] h (fun x h'=>Ext h h'/\x= .bool r):=by
 unfold AGu at hp;refine cwf (l:=[_,_]) Tryz.func19 rfl rfl (ABl (ACr (ABq (ABn (ABl (Wl (ADh AB4 rfl H2 (Wl (ABp (ABr ?_))))))))));have K0:=Kst.k0 h;obtain ⟨Ap,Av,Aw⟩:=ABm hp;obtain ⟨Ax,Ay,Az⟩:=ACj Av;refine ACk 1048352 (fun x:(Int) × (Int)=>[(5,(.int .i64 x.1)),(8,(.int .i64 x.2))]) (fun k x h'=>iter Ax k (x.1,x.2)=some Ap/\Kst h h' (K0.L)) (by kernel_rfl) fuel ((1,0):(Int) × (Int)) ?_ ⟨rfl,rfl,trivial⟩ ?_
 ·exact ⟨Az,K0⟩
 rintro A4 ⟨Af,Ag⟩ A5 A6 ⟨A3,Ad⟩;obtain ⟨Ah,A7,rfl,Aa,Ab⟩:=AB5 A3;rw [Ay] at Aa;dsimp only at Aa;unfold AKz at Aa;refine ABl (AC1 rfl rfl (ABp (ABn (⟨_,rfl,fun Ai=>?_,fun Ai=>?_⟩))))
 ·refine ABt (q_t (ABn (ABr (ABl (Wl (AJe rfl rfl (Wl ?_)))))));have Aq:=AC5 Aa Ai;by_cases Ae:0 < a5
  ·have Ar:=ifT Aq Ae;rw [decide_eq_true Ae];refine ACb 12 true (Wl (ACb 12 true (AC1 rfl rfl (ABz rfl (ABp (⟨_,rfl,fun Aj=>?_,fun Aj=>?_⟩))))))
   ·refine ABy (Wl (Wl (AMj rfl rfl (ACg (ACm (q_b (q_t (ABy (AC3 rfl rfl (Wl (ABp ?_)))))))))));obtain rfl:=ABk (AC5 Ar Aj);exact ⟨Ah,(((w64 (Af * a5)),(w64 (Ag + 1))):(Int) × (Int)),Nat.lt_succ_self _,⟨Ab,Ad⟩,rfl,rfl,trivial⟩
   ·refine ABt (q_b (q_t (ABy (AC3 rfl rfl (Wl (ABp ?_))))));obtain rfl:=ABk (AC6 Ar Aj);exact ⟨Ah,((Af,(w64 (Ag + 1))):(Int) × (Int)),Nat.lt_succ_self _,⟨Ab,Ad⟩,rfl,rfl,trivial⟩
  ·rw [decide_eq_false Ae];refine AGh 12 false (ABw rfl (ABp (ACf rfl (ABt (q_b (q_t (ABy (AC3 rfl rfl (Wl (ABp ?_))))))))));obtain rfl:=ABk (ifF Aq Ae);exact ⟨Ah,((Af,(w64 (Ag + 1))):(Int) × (Int)),Nat.lt_succ_self _,⟨Ab,Ad⟩,rfl,rfl,trivial⟩
 ·obtain rfl:=ABk (AC6 Aa Ai);change _=Ap at Ab;subst Ab;refine ACd (ACc (ACc (ADo (q_t (ABl (Wl (AC1 rfl rfl (ABq (ABs ?_)))))))));obtain rfl:=ABk Aw;exact ⟨_,ABu,Ad.x,rfl⟩
def AFx (fuel:Nat) (a1 a2:Int) (a3:Bool):Option Int:=
  (if a3=true then (some a2) else ((AI6 fuel a1).bind fun x7=>(some x7)))
theorem AMp {fuel:Nat} {h:ABj} {a1 a2:Int} {a3:Bool} {r:Int} (hp:AFx fuel a1 a2 a3=some r):ACa Tryz.prog 11 #[(.int .u8 a1),(.int .i64 a2),(.bool a3)] h (fun x h'=>Ext h h'/\x= .int .i64 r):=by
 unfold AFx at hp;refine cwf (l:=[_,_,_]) Tryz.func11 rfl rfl (ABl (ABq (ABn (ABl (Wl (ABp ?_))))));have K0:=Kst.k0 h;refine ⟨_,rfl,fun Aa=>?_,fun Aa=>?_⟩
 ·refine ABl (Wl (ABq (ABs (AB2 ?_))));obtain rfl:=ABk (ifT hp Aa);exact ⟨_,ABu,K0.x,rfl⟩
 ·refine ABt (q_t (ABl (Wl ?_)));obtain ⟨x8,Af,Ag⟩:=ABm (AJc hp Aa);refine ACw rfl (ARb Af) fun Ak Am Ah Ai=>?_;subst Ai;refine ABq (ABs ?_);obtain rfl:=ABk Ag;exact ⟨_,ABu,(K0.e Ah).x,rfl⟩
end Go.Proofs.YtiegjkmfpcgjjaaGreatDoor
namespace Go.Proofs.YtiegjkmfpcgjjaaGreatDoor
open Go Go.QF
set_option maxRecDepth 100000
theorem At2 {fuel:Nat} {x p r:Int} (hp:2<=p/\p<=2147483647) (h:AK3 p (x % p) r):AWg fuel [[x]] p=some ([[r]],0):=by
 have hs:AIi [[x]]=true:=decide_eq_true (by simp [AWo,Valid,ALq]);have hm:AQh p=true:=decide_eq_true hp
 have hd:Aa9 [[x]] p=x % p:=by
   unfold Aa9
   rw [hs,hm]
   simp only [Bool.and_self,if_true]
   have:det [[x]].length (ent [[x]])=x:=by
     show det 1 (ent [[x]])=x
     simp [det,ent,psum,sg]
   rw [this]
 unfold AWg Aal Aix;rw [hs,hm,hd,if_pos ⟨rfl,rfl,r,h⟩,if_pos rfl,if_pos rfl,if_pos ⟨r,h⟩,Ai7 h]
 have:AMh [[x]].length (ent (AMd [[x]] p)) 0 0=1:=by
   show AMh 1 _ 0 0=1
   simp [AMh,AV8,det,psum,sg,ADj,dl]
 have h3:tab [[x]].length [[x]].length (fun i j=>AMh [[x]].length (ent (AMd [[x]] p)) i j * r % p)=[[r]]:=by
   show tab 1 1 (fun i j=>AMh 1 (ent (AMd [[x]] p)) i j * r % p)=[[r]]
   have h4:AMh 1 (ent (AMd [[x]] p)) 0 0 * r % p=r:=by
     rw [show AMh 1 (ent (AMd [[x]] p)) 0 0=1 from this,Int.one_mul]
     exact Int.emod_eq_of_lt h.1 h.2.1
   simp [tab,h4]
 rw [h3]
theorem Ayq:Pr 3:=⟨by omega,fun d h1 h2=>by
  obtain rfl:d=2:=by omega
  decide⟩
theorem Ayr:Pr 5:=⟨by omega,fun d h1 h2=>by
  rcases (by omega:d=2∨d=3∨d=4) with rfl | rfl | rfl <;> decide⟩
theorem Aqy (lim:Bool):ASt [[1,0],[0,1]] 5 lim=0:=by
 have hr:isRed [[1,0],[0,1]]=true:=by
   unfold isRed
   rw [<- AGt (M:=[[1,0],[0,1]]) ⟨by decide,by decide,fun i j hi hj=>by
     have hi:i < 2:=hi
     have hj:j < 2:=hj
     rcases (by omega:i=0∨i=1) with rfl | rfl <;> rcases (by omega:j=0∨j=1) with rfl | rfl <;> decide⟩]
   decide +kernel
 have ho:ARa 5=true:=(AW8 ⟨by omega,by omega,Ayr⟩).symm;unfold ASt;rw [if_pos hr,if_pos ⟨ho,by decide +kernel⟩,if_neg (fun h=>absurd h.2 (by decide))]
theorem Awx (lim:Bool):ASt [[1,0,0],[0,1,0],[0,0,1]] 3 lim=0:=by
 have hr:isRed [[1,0,0],[0,1,0],[0,0,1]]=true:=by
   unfold isRed
   rw [<- AGt (M:=[[1,0,0],[0,1,0],[0,0,1]]) ⟨by decide,by decide,fun i j hi hj=>by
     have hi:i < 3:=hi
     have hj:j < 3:=hj
     rcases (by omega:i=0∨i=1∨i=2) with rfl | rfl | rfl <;> rcases (by omega:j=0∨j=1∨j=2) with rfl | rfl | rfl <;> decide⟩]
   decide +kernel
 have ho:ARa 3=true:=(AW8 ⟨by omega,by omega,Ayq⟩).symm;unfold ASt;rw [if_pos hr,if_pos ⟨ho,by decide +kernel⟩,if_neg (fun h=>absurd h.2 (by decide))]
theorem Aqz {S E:Type} {body:S->Option (S ⊕ E)} {fuel:Nat} {s:S} {e:E} (h:body s=some (.inr e)):iter body (fuel + 1) s=some e:=by simp [iter,h]
theorem Ays:AE8 (AEk + 1) [[1,0],[0,1]] 5=some ([[1,2],[1,3]],0):=by
 have hf:2147483648 < AEk + 1:=Nat.lt_of_le_of_lt (by decide) (Nat.lt_succ_self AEk);unfold AE8;rw [ASv hf,Aqy];simp only [Option.bind_some];rw [if_neg (by decide)];decide +kernel
theorem Ayt:AF3 (AEk + 1) [[1,0,0],[0,1,0],[0,0,1]] 3=some (4,0):=by
 have hf:2147483648 < AEk + 1:=Nat.lt_of_le_of_lt (by decide) (Nat.lt_succ_self AEk);unfold AF3;rw [ASv hf,Awx];simp only [Option.bind_some];rw [if_neg (by decide)];decide +kernel
theorem Ayu:AOo (AEk + 1) [[1,0],[0,1]] 5 [1,2]=some ([11,2],0):=by
 have hf:2147483648 < AEk + 1:=Nat.lt_of_le_of_lt (by decide) (Nat.lt_succ_self AEk);unfold AOo;have h1:AOg (AEk + 1) [[1,0],[0,1]] 5 [1,2]=some true:=by decide +kernel
 have h2:AFf (AEk + 1) [[1,0],[0,1]] (w64 (5 * 5))=some ([[1,0],[0,1]],0):=by decide +kernel
 have h3:AKi (AEk + 1) [1,2]=some [1,2]:=by decide +kernel
 rw [Agv hf,Aqy];simp only [Option.bind_some];rw [if_neg (by decide),h1];simp only [Option.bind_some];rw [if_neg (by decide),h2];simp only [Option.bind_some];rw [h3];simp only [Option.bind_some]
 have hb:ANn (AEk + 1) 5 [1,2] [[1,0],[0,1]] 0 [1,2]=some (.inr [11,2]):=by
   unfold ANn
   have g1:gI [[1,0],[0,1]] (0:Int)=some ([1,0]:List Int):=rfl
   have g2:AJt (AEk + 1) [1,0] [1,2] 5=some 1:=by decide +kernel
   have g3:AWg (AEk + 1) [[w64 (2 * 1)]] 5=some ([[3]],0):=At2 (by omega) ⟨by omega,by omega,by decide⟩
   rw [if_pos (by decide),g1]
   simp only [Option.bind_some]
   rw [g2]
   simp only [Option.bind_some]
   rw [if_neg (by decide),g3]
   simp only [Option.bind_some]
   decide +kernel
 rw [Aqz hb];rfl
theorem Ad8:ADm (AEk + 1)=some true:=by
 unfold ADm;rw [Ays];simp only [Option.bind_some];rw [Ayu];simp only [Option.bind_some];rw [Ayt];simp only [Option.bind_some];decide +kernel
def nqI (n:Nat) (A:Nat->Nat->Int) (v:Nat->Int) (i:Nat):Int:=psum (fun j=>A i j * v j) n
def nq (n:Nat) (A:Nat->Nat->Int) (v:Nat->Int) (m:Int):Int:=psum (fun i=>nqI n A v i * v i) n % m
theorem AYq {g:Nat->Int} {B:Int}:∀ {n:Nat},(∀ i,i < n->0<=g i/\g i<=B)->0<=psum g n/\psum g n<=n * B:=by
 intro n
 induction n with
 | zero=>intro _;simp [psum]
 | succ n ih=>
   intro h
   have h1:=ih fun i hi=>h i (by omega)
   have h2:=h n (by omega)
   show 0<=psum g n + g n/\psum g n + g n<=((n + 1:Nat):Int) * B
   rw [Int.natCast_add,Int.add_mul]
   omega
theorem At3 {fuel n:Nat} {f v:Nat->Int} {m:Int} (hn:n<=8) (hm:2<=m) (Ac:m<=100000000) (hF:∀ i,i < n->0<=f i/\f i < 100000000) (hv:∀ i,i < n->0<=v i/\v i < 10000) (hf:100 < fuel):AJt fuel (ADz n f) (ADz n v) m=some (psum (fun i=>f i * v i) n % m):=by
 have hb:∀ i,i < n->0<=f i * v i/\f i * v i<=1000000000000:=fun i hi=>⟨Int.mul_nonneg (hF i hi).1 (hv i hi).1,by
   have:=Int.mul_le_mul (show f i<=100000000 by have:=hF i hi;omega) (show v i<=10000 by have:=hv i hi;omega) (hv i hi).1 (by omega)
   omega⟩
 apply ok_eq;unfold AJt;refine ABo (Q:=fun e=>e=psum (fun i=>f i * v i) n) (ACv (fun i s=>s=(psum (fun i=>f i * v i) i,(i:Int))/\i<=n) n ⟨rfl,Nat.zero_le _⟩ (by omega) fun i s hi hI=>?_) fun e he=>?_
 ·obtain ⟨rfl,h1⟩:=hI;unfold AO5;rw [ADb];refine AB3 (fun h=>?_) fun h=>ABi ?_
  ·have Aa:i < n:=by omega
   have h3:=hb i Aa;have h4:=AYq (n:=i) fun a ha=>hb a (by omega);refine AB7 (ACn Aa) rfl (AB7 (ACn Aa) rfl (ABi ⟨by omega,?_,by omega⟩));rw [AE5 (x:=f i * v i) (by omega) (by omega),AE5 (x:=psum (fun i=>f i * v i) i + f i * v i) (by omega) (by omega),AGo (by omega)];rfl
  ·obtain rfl:i=n:=by omega
   rfl
 ·subst he;have h4:=AYq (n:=n) hb;exact AEe (by omega) (ABi (Int.tmod_eq_emod_of_nonneg h4.1))
theorem At4 {fuel n:Nat} {A:Nat->Nat->Int} {v:Nat->Int} {m:Int} (hn:n<=8) (hm:2<=m) (Ad:m<=100000000) (hv:∀ i,i < n->0<=v i/\v i < 10000) (hf:100 < fuel):AKk fuel (tab n n fun i j=>A i j % m) (ADz n v) m=some (nq n A v m):=by
 have hin:∀ i,i < n->AJt fuel (ADz n fun j=>A i j % m) (ADz n v) m=some (nqI n A v i % m):=fun i hi=>by
   rw [At3 hn hm Ad (fun j _=>⟨Int.emod_nonneg _ (by omega),by have:=Int.emod_lt_of_pos (A i j) (show 0 < m by omega);omega⟩) hv hf]
   exact congrArg some (Eqm.psum fun j _=>(Eqm.mod m (A i j)).mul (Eqm.refl m (v j)))
 have hb:∀ i,i < n->0<=nqI n A v i % m * v i/\nqI n A v i % m * v i<=1000000000000:=fun i hi=>by
   have h1:=Int.emod_nonneg (nqI n A v i) (show m≠0 by omega)
   have h2:=Int.emod_lt_of_pos (nqI n A v i) (show 0 < m by omega)
   refine ⟨Int.mul_nonneg h1 (hv i hi).1,?_⟩
   have:=Int.mul_le_mul (show nqI n A v i % m<=100000000 by omega) (show v i<=10000 by have:=hv i hi;omega) (hv i hi).1 (by omega)
   omega
 apply ok_eq;unfold AKk;refine ABo (Q:=fun e=>e=psum (fun i=>nqI n A v i % m * v i) n) (ACv (fun i s=>s=(psum (fun i=>nqI n A v i % m * v i) i,(i:Int))/\i<=n) n ⟨rfl,Nat.zero_le _⟩ (by omega) fun i s hi hI=>?_) fun e he=>?_
 ·obtain ⟨rfl,h1⟩:=hI;unfold AQe;rw [ADb];refine AB3 (fun h=>?_) fun h=>ABi ?_
  ·have Aa:i < n:=by omega
   have h3:=hb i Aa;have h4:=AYq (n:=i) fun a ha=>hb a (by omega);refine AB7 (ACn Aa) rfl (AB7 (ADi Aa) rfl ?_);rw [hin i Aa];simp only [Option.bind_some];refine ABi ⟨by omega,?_,by omega⟩;rw [AE5 (x:=nqI n A v i % m * v i) (by omega) (by omega),AE5 (x:=psum (fun i=>nqI n A v i % m * v i) i + nqI n A v i % m * v i) (by omega) (by omega),AGo (by omega)];rfl
  ·obtain rfl:i=n:=by omega
   rfl
 ·subst he;have h4:=AYq (n:=n) hb;refine AEe (by omega) (ABi ?_);rw [Int.tmod_eq_emod_of_nonneg h4.1];exact Eqm.psum fun i _=>(Eqm.mod m _).mul (Eqm.refl m (v i))
theorem Agw {m S a b:Int} (hm:0 < m) (Ad:m<=100000000):Int.tmod (w64 (S % m + Int.tmod (w64 (a % m * (b % m))) m)) m=(S + a * b) % m:=by
 have h1:=Int.emod_nonneg a (show m≠0 by omega);have h2:=Int.emod_lt_of_pos a hm;have h3:=Int.emod_nonneg b (show m≠0 by omega);have h4:=Int.emod_lt_of_pos b hm;have h5:=Int.emod_nonneg S (show m≠0 by omega);have h6:=Int.emod_lt_of_pos S hm;have h7:=Int.mul_nonneg h1 h3;have h8:=Int.mul_le_mul (show a % m<=100000000 by omega) (show b % m<=100000000 by omega) h3 (by omega);rw [AE5 (x:=a % m * (b % m)) (by omega) (by omega),Int.tmod_eq_emod_of_nonneg h7];have h9:=Int.emod_nonneg (a % m * (b % m)) (show m≠0 by omega);have Ak:=Int.emod_lt_of_pos (a % m * (b % m)) hm;rw [wk (by omega),Int.tmod_eq_emod_of_nonneg (by omega)];exact (Eqm.mod m S).add ((Eqm.mod m _).trans ((Eqm.mod m a).mul (Eqm.mod m b)))
theorem At5 {fuel n:Nat} {A:Nat->Nat->Int} {v:Nat->Int} {m:Int} (hn:n<=8) (hm:0 < m) (Ab:m<=100000000) (hf:100 < fuel):AG4 fuel (tab n n A) (ADz n v) m=some (ADz n fun i=>nqI n A v i % m):=by
 unfold AG4;rw [At1 (n:=n) (fun i=>nqI n A v i % m) (by omega) (fun i hi=>?_) fun X=>?_]
 ·rfl
 ·unfold AHk;rw [ADg,if_pos (by omega),ARc (ADi hi)]
  have:iter (fun s:Int × Int=>AHj fuel (ADz n v) m (ADz n (A i)) s.1 s.2) fuel (0,0)=some (nqI n A v i % m):=by
    apply ok_eq
    refine ACv (fun j s=>s=(psum (fun j=>A i j * v j) j % m,(j:Int))/\j<=n) n ⟨by simp [psum],Nat.zero_le _⟩ (by omega) fun j s hj hI=>?_
    obtain ⟨rfl,h1⟩:=hI
    unfold AHj
    rw [ADb]
    refine AB3 (fun h=>?_) fun h=>ABi ?_
    · have Aa:j < n:=by omega
      refine AB7 (ACn Aa) rfl ?_
      rw [Aij hm (by omega)]
      simp only [Option.bind_some]
      refine AB7 (ACn Aa) rfl ?_
      rw [Aij hm (by omega)]
      simp only [Option.bind_some]
      rw [if_pos (by omega),if_pos (by omega)]
      refine ABi ⟨by omega,?_,by omega⟩
      rw [Agw hm Ab,AGo (by omega)]
      rfl
    · obtain rfl:j=n:=by omega
      rfl
  rw [this];simp only [Option.bind_some];rw [ADb,if_pos (by omega),AGo (by omega)]
 ·unfold AHk;rw [ADg,if_neg (by omega)]
theorem At6 {fuel n:Nat} {A:Nat->Nat->Int} {v:Nat->Int} {m:Int} (hn:n<=8) (hm:0 < m) (Aa:m<=100000000) (hf:100 < fuel):AGe fuel (tab n n A) (ADz n v) m=some (nq n A v m):=by
 apply ok_eq;unfold AGe;rw [At5 hn hm Aa hf];simp only [Option.bind_some];refine ABo (Q:=fun e=>e=nq n A v m) (ACv (fun j s=>s=(psum (fun i=>nqI n A v i * v i) j % m,(j:Int))/\j<=n) n ⟨by simp [psum],Nat.zero_le _⟩ (by omega) fun j s hj hI=>?_) fun e he=>ABi he;obtain ⟨rfl,h1⟩:=hI;unfold AKj;rw [ADb];refine AB3 (fun h=>?_) fun h=>ABi ?_
 ·have Ab:j < n:=by omega
  refine AB7 (ACn Ab) rfl (AB7 (ACn Ab) rfl ?_);rw [Aij hm (by omega)];simp only [Option.bind_some];rw [if_pos (by omega),if_pos (by omega)];refine ABi ⟨by omega,?_,by omega⟩;rw [Agw hm Aa,AGo (by omega)];rfl
 ·obtain rfl:j=n:=by omega
  rfl
def InR (p:Int) (V:List Int):Prop:= ∀ x∈V,0<=x/\x < p
def AMq:List Int->Int
  | []=>0
  | x :: L=>if x=0 then AMq L else x
theorem AXe (x:Int):∀ L:List Int,AMq (L ++ [x])=if AMq L=0 then x else AMq L
  | []=>by by_cases h:x=0 <;> simp [AMq,h]
  | y :: L=>by
    have ih:=AXe x L
    show (if y=0 then AMq (L ++ [x]) else y)=if (if y=0 then AMq L else y)=0 then x else (if y=0 then AMq L else y)
    by_cases h:y=0
    · simp only [if_pos h,ih]
    · simp only [if_neg h]
theorem Aq0 {body:Int × Int->Option ((Int × Int) ⊕ (Bool ⊕ Int))} {fuel:Nat} {V:List Int} {p:Int} (hl:V.length<=90) (hf:100 < fuel) (hb:∀ a b,body (a,b)=if b < (V.length:Int) then ((gI V b).bind fun x=>(((if x < 0 then some (.inl false) else (if p<=x then some (.inl false) else some (.inr ()))):Option (Bool ⊕ Unit)).bind fun ex=>match ex with | .inl e=>some (.inr (.inl e)) | .inr _=>(if a=0 then some (.inl (x,w64 (b + 1))) else some (.inl (a,w64 (b + 1)))))) else some (.inr (.inr a))):
    Ok (iter body fuel (0,0)) fun ex=>(ex= .inl false/\¬ InR p V)∨(ex= .inr (AMq V)/\InR p V):=by
 refine ACv (fun i s=>s=(AMq (V.take i),(i:Int))/\i<=V.length/\InR p (V.take i)) V.length ⟨rfl,Nat.zero_le _,fun x hx=>by simp at hx⟩ (by omega) fun i s hi hI=>?_;obtain ⟨rfl,h1,h2⟩:=hI;rw [hb];refine AB3 (fun h=>?_) fun h=>ABi ?_
 ·have Ac:i < V.length:=by omega
  have hx:V[i]? =some V[i]:=List.getElem?_eq_getElem Ac;have ht:V.take (i + 1)=V.take i ++ [V[i]]:=(List.take_append_getElem Ac).symm;refine AB7 hx rfl ?_;generalize V[i]=x at hx ht;have hw:w64 ((i:Int) + 1)=((i + 1:Nat):Int):=AGo (by omega);by_cases h3:0<=x/\x < p
  ·rw [if_neg (by omega),if_neg (by omega)];simp only [Option.bind_some]
   have hr:InR p (V.take (i + 1)):=fun y hy=>by
     rw [ht,List.mem_append,List.mem_singleton] at hy
     rcases hy with hy | rfl
     · exact h2 y hy
     · exact h3
   refine AB3 (fun h4=>ABi ⟨by omega,?_,by omega,hr⟩) fun h4=>ABi ⟨by omega,?_,by omega,hr⟩
   ·rw [ht,AXe,if_pos h4,hw]
   ·rw [ht,AXe,if_neg h4,hw]
  ·have hno: ¬ InR p V:=fun hh=>h3 (hh x (List.mem_of_getElem? hx));by_cases h4:x < 0
   ·rw [if_pos h4];exact ABi (.inl ⟨rfl,hno⟩)
   ·rw [if_neg h4,if_pos (by omega)];exact ABi (.inl ⟨rfl,hno⟩)
 ·obtain rfl:i=V.length:=by omega
  rw [List.take_length] at h2 ⊢;exact .inr ⟨rfl,h2⟩
def vF (V:List Int) (i:Nat):Int:=V[i]?.getD 0
theorem Akz (V:List Int):ADz V.length (vF V)=V:=by
 refine List.ext_getElem (by rw [ADb]) fun i h1 h2=>?_;have:=ACn (f:=vF V) h2;rw [List.getElem?_eq_getElem h1] at this;injection this with this;rw [this];simp [vF,h2]
theorem Ax6 {p:Int} {V:List Int} (h:InR p V) {i:Nat} (hi:i < V.length):0<=vF V i/\vF V i < p:=h _ (by simp [vF,hi])
def At7 (M:List (List Int)) (p:Int) (V:List Int):Prop:=V.length=M.length/\InR p V/\AMq V=1/\nq M.length (ent M) (vF V) p=0
open Classical in
noncomputable def APo (M:List (List Int)) (p:Int) (V:List Int):Bool:=decide (At7 M p V)
theorem Aiy {M:List (List Int)} {p:Int} {V:List Int} (h:At7 M p V):true=APo M p V:=by simp [APo,h]
theorem AVh {M:List (List Int)} {p:Int} {V:List Int} (h: ¬ At7 M p V):false=APo M p V:=by simp [APo,h]
theorem Ak0 {M:List (List Int)} {p:Int} {V:List Int} (h:APo M p V=true):At7 M p V:=by simpa [APo] using h
theorem Awy {fuel:Nat} {M:List (List Int)} {m:Int} (R:AVf M) (hm:2<=m) (Aa:m<=2147483647) (hf:100 < fuel):AFf fuel M m=some (tab M.length M.length fun i j=>ent M i j % m,0):=by
 have hM:=ATy R;unfold AFf AEv;have h1:AH4 fuel M=some true:=by rw [hM];exact Ags R.1.1 R.1.2 hf
 have h2:AF8 fuel M m=some (tab M.length M.length fun i j=>ent M i j % m):=by
   conv=>lhs;rw [hM]
   exact Aqr R.1.2 hm Aa hf
 rw [h1];simp only [Option.bind_some];rw [if_neg (by decide),if_neg (by omega),if_neg (by omega)];simp only [Option.bind_some];rw [if_neg (by decide),h2];rfl
theorem Ad9 {fuel:Nat} {M:List (List Int)} {p:Int} {V:List Int} (R:AVf M) (hp:3<=p) (Ad:p<=9973) (hf:100 < fuel):AFg fuel M p V=some (APo M p V):=by
 apply ok_eq;unfold AFg;have h8:=R.1.2;refine AB3 (fun h=>ABi (AVh fun hh=>h (by rw [hh.1]))) fun h=>?_;have hl:V.length=M.length:=by omega
 refine ABo (Aq0 (V:=V) (p:=p) (by omega) hf fun a b=>rfl) fun ex hex=>?_;rcases hex with ⟨rfl,hn⟩ | ⟨rfl,hr⟩
 ·exact ABi (AVh fun hh=>hn hh.2.1)
 ·dsimp only;refine AB3 (fun h1=>?_) fun h1=>ABi (AVh fun hh=>h1 hh.2.2.1);have hV:V=ADz M.length (vF V):=by rw [<- hl];exact (Akz V).symm
  have hn:AGe fuel M V p=some (nq M.length (ent M) (vF V) p):=by
    conv=>lhs;rw [hV,ATy R]
    rw [ADg]
    exact At6 h8 (by omega) (by omega) hf
  rw [hn];simp only [Option.bind_some];refine ABi ?_;by_cases h0:nq M.length (ent M) (vF V) p=0
  ·rw [decide_eq_true h0];exact Aiy ⟨hl,hr,h1,h0⟩
  ·rw [decide_eq_false h0];exact AVh fun hh=>h0 hh.2.2.2
open Classical in
theorem Aq1 {fuel:Nat} {M:List (List Int)} {p:Int} (R:AVf M) (hf:100 < fuel):Ok (AHr fuel M p) fun b=>b=true↔ARa p=true/\det M.length (ent M) % p≠0:=by
  unfold AHr Adw;simp only [Option.bind_some];refine AB3 (fun h=>?_) fun h=>ABi ⟨fun hh=>(by cases hh),fun hh=>absurd hh.1 h⟩;have hb:=ASu h;have hd:=Agr R;rw [Amv R hf];simp only [Option.bind_some];refine AEe (by omega) (ABi ?_);rw [decide_eq_true_iff,Int.tmod_eq_emod_of_nonneg (by omega)];exact ⟨fun hh=>⟨h,hh⟩,fun hh=>hh.2⟩
theorem Aq2 {fuel n:Nat} {p:Int} (hp:2<=p) (Aa:p<=9973) (hn:n<=16) (hf:100 < fuel):AGq fuel (n:Int) p=some (decide (p ^ n<=65536)):=by
 apply ok_eq;unfold AGq;refine ABo (Agu (n:=n) (x:=false) hp Aa hn hf fun a b=>rfl) fun ex hex=>?_;rcases hex with ⟨rfl,h⟩ | ⟨rfl,h⟩
 ·exact ABi (decide_eq_false (by omega)).symm
 ·exact ABi (decide_eq_true h).symm
theorem Agx {fuel:Nat} {M:List (List Int)} {p:Int} {lim:Bool} (hM:Agn M) (hf:100 < fuel):AGr fuel M p lim=some (ASt M p lim):=by
 apply ok_eq;unfold AGr ASt;rw [Aiu hM hf];simp only [Option.bind_some]
 cases hr:isRed M with
 | false=>exact ABi (by simp)
 | true=>
   have R:=(APu M).1 hr
   rw [if_neg (by decide),if_pos rfl]
   refine ABo (Aq1 (p:=p) R hf) fun b hb=>?_
   refine AB3 (fun h=>ABi ?_) fun h=>?_
   · rw [if_neg (fun hh=>by rw [hb.2 hh] at h;cases h)]
   · have hg:=hb.1 (by cases b with | true=>rfl | false=>exact absurd rfl h)
     rw [if_pos hg]
     have ho:=ASu hg.1
     have h8:=R.1.2
     refine AB3 (fun hl=>?_) fun hl=>ABi (by rw [if_neg (fun hh=>hl hh.1)])
     rw [Aq2 (by omega) ho.2 (by omega) hf]
     simp only [Option.bind_some]
     refine AB3 (fun h5=>ABi ?_) fun h5=>ABi ?_
     · rw [if_pos ⟨hl,by simpa using h5⟩]
     · rw [if_neg (fun hh=>h5 (by simpa using hh.2))]
end Go.Proofs.YtiegjkmfpcgjjaaGreatDoor
namespace Go.Proofs.YtiegjkmfpcgjjaaGreatDoor
open Go Go.QF
def Qf (n:Nat) (A:Nat->Nat->Int) (v:Nat->Int):Int:=psum (fun i=>nqI n A v i * v i) n
def ATc (v:Nat->Int) (i:Nat) (x:Int):Nat->Int:=fun j=>if j=i then v j + x else v j
theorem Ak1 {n i a:Nat} {A:Nat->Nat->Int} {v:Nat->Int} {x:Int} (hi:i < n):nqI n A (ATc v i x) a=nqI n A v a + A a i * x:=by
 unfold nqI;rw [ATt (f:=fun j=>A a j * v j) (a:=i) hi (fun j hj=>by simp only [ATc,if_neg hj])];simp only [ATc,if_true];rw [Int.mul_add];omega
theorem Awz {n i:Nat} {A:Nat->Nat->Int} {v:Nat->Int} {x:Int} (hA:∀ a b,a < n->b < n->A a b=A b a) (hi:i < n):Qf n A (ATc v i x)=Qf n A v + 2 * x * nqI n A v i + x * x * A i i:=by
 unfold Qf
 have h1:psum (fun a=>nqI n A (ATc v i x) a * ATc v i x a) n=psum (fun a=>(nqI n A v a + A a i * x) * v a) n + ((nqI n A v i + A i i * x) * (v i + x) - (nqI n A v i + A i i * x) * v i):=by
   rw [ATt (f:=fun a=>(nqI n A v a + A a i * x) * v a) (a:=i) hi (fun a ha=>by simp only [Ak1 hi,ATc,if_neg ha])]
   simp only [Ak1 hi,ATc,if_true]
 have h2:psum (fun a=>(nqI n A v a + A a i * x) * v a) n=psum (fun a=>nqI n A v a * v a) n + x * nqI n A v i:=by
   rw [ABv (g:=fun a=>nqI n A v a * v a + x * (A i a * v a)) (fun a ha=>by rw [hA a i ha hi];grind),AG2,ADf]
   rfl
 rw [h1,h2];grind
theorem AK0 (f:Nat->Int):∀ n,psum f (n + 1)=f 0 + psum (fun i=>f (i + 1)) n
  | 0=>by simp [psum]
  | n + 1=>by
    have ih:=AK0 f n
    show psum f (n + 1) + f (n + 1)=f 0 + (psum (fun i=>f (i + 1)) n + f (n + 1))
    omega
def AD6 (x:Int) (v:Nat->Int):Nat->Int
  | 0=>x
  | j + 1=>v j
def SS (P:Nat):Nat->((Nat->Int)->Int)->Int
  | 0,f=>f fun _=>0
  | n + 1,f=>psum (fun x=>SS P n fun v=>f (AD6 (x:Int) v)) P
theorem ANp {P:Nat}:∀ {n:Nat} {f g:(Nat->Int)->Int},(∀ v,f v=g v)->SS P n f=SS P n g:=fun h=>by rw [funext h]
theorem Ak2 (P:Nat):∀ n,SS P n (fun _=>0)=0
  | 0=>rfl
  | n + 1=>by show psum (fun x=>SS P n fun _=>0) P=0;rw [Ak2 P n,AKd]
theorem Aq3 (P:Nat):∀ (n:Nat) (f g:(Nat->Int)->Int),SS P n (fun v=>f v + g v)=SS P n f + SS P n g
  | 0,_,_=>rfl
  | n + 1,f,g=>by
    show psum (fun x=>SS P n fun v=>f (AD6 (x:Int) v) + g (AD6 (x:Int) v)) P=_
    rw [ABv (g:=fun x:Nat=>SS P n (fun v=>f (AD6 (x:Int) v)) + SS P n (fun v=>g (AD6 (x:Int) v))) (fun x _=>Aq3 P n _ _),AG2]
    rfl
theorem Aea (P n:Nat) (f:Nat->(Nat->Int)->Int):∀ m,SS P n (fun v=>psum (fun x=>f x v) m)=psum (fun x=>SS P n (f x)) m
  | 0=>Ak2 P n
  | m + 1=>by
    show SS P n (fun v=>psum (fun x=>f x v) m + f m v)=_
    rw [Aq3,Aea P n f m];rfl
def Aiz (P:Nat) (f:(Nat->Int)->Int):Prop:= ∀ v w,(∀ j,v j % (P:Int)=w j % (P:Int))->f v=f w
theorem Agy {P:Nat} (hP:0 < P) {g:Int->Int} (hg:∀ y z,y % (P:Int)=z % (P:Int)->g y=g z) (s:Int):psum (fun x=>g ((x:Nat) + s)) P=psum (fun x=>g (x:Nat)) P:=by
 have one:∀ h:Int->Int,(∀ y z,y % (P:Int)=z % (P:Int)->h y=h z)->psum (fun x=>h ((x:Nat) + 1)) P=psum (fun x=>h (x:Nat)) P:=fun h hh=>by
   have h1:=AK0 (fun x=>h ((x:Nat):Int)) P
   have h2:psum (fun x=>h ((x:Nat):Int)) (P + 1)=psum (fun x=>h ((x:Nat):Int)) P + h (P:Int):=rfl
   have h3:h (P:Int)=h ((0:Nat):Int):=hh _ _ (by simp)
   have h4:psum (fun i=>h (((i + 1:Nat)):Int)) P=psum (fun x=>h ((x:Nat) + 1)) P:=rfl
   rw [h4] at h1
   omega
 have nat:∀ k:Nat,psum (fun x=>g ((x:Nat) + (k:Int))) P=psum (fun x=>g (x:Nat)) P:=by
   intro k
   induction k with
   | zero=>exact ABv fun x _=>by simp
   | succ k ih=>
     rw [<- ih,<- one (fun y=>g (y + k)) (fun y z h=>hg _ _ (by rw [Int.add_emod,h,<- Int.add_emod]))]
     exact ABv fun x _=>by congr 1;simp;omega
 have h0:0<=s % (P:Int):=Int.emod_nonneg _ (by omega);rw [<- nat (s % (P:Int)).toNat];refine ABv fun x _=>hg _ _ ?_;rw [Int.toNat_of_nonneg h0,Int.add_emod,Int.add_emod (x:Int) (s % (P:Int)),Int.emod_emod]
theorem Ai0 (x s:Int) (v:Nat->Int):ATc (AD6 x v) 0 s=AD6 (x + s) v:=by
 funext j;cases j <;> simp [ATc,AD6]
theorem Aao (x s:Int) (v:Nat->Int) (j:Nat):ATc (AD6 x v) (j + 1) s=AD6 x (ATc v j s):=by
 funext i;cases i <;> simp [ATc,AD6]
theorem ARy {P:Nat} {f:(Nat->Int)->Int} (h:Aiz P f) (x:Int):Aiz P fun v=>f (AD6 x v):=fun v w hvw=>h _ _ fun j=>by cases j with | zero=>rfl | succ j=>exact hvw j
theorem Ak3 {P:Nat} (hP:0 < P):∀ {n j:Nat} {f:(Nat->Int)->Int} (s:Int),Aiz P f->j < n->SS P n (fun v=>f (ATc v j s))=SS P n f
  | 0,_,_,_,_,h=>absurd h (Nat.not_lt_zero _)
  | n + 1,0,f,s,hf,_=>by
    show psum (fun x=>SS P n fun v=>f (ATc (AD6 (x:Int) v) 0 s)) P=psum (fun x=>SS P n fun v=>f (AD6 (x:Int) v)) P
    rw [ABv (g:=fun x:Nat=>SS P n fun v=>f (AD6 ((x:Int) + s) v)) (fun x _=>ANp fun v=>by rw [Ai0])]
    exact Agy hP (g:=fun y=>SS P n fun v=>f (AD6 y v)) (fun y z h=>ANp fun v=>hf _ _ fun j=>by cases j with | zero=>exact h | succ j=>rfl) s
  | n + 1,j + 1,f,s,hf,hj=>by
    show psum (fun x=>SS P n fun v=>f (ATc (AD6 (x:Int) v) (j + 1) s)) P=psum (fun x=>SS P n fun v=>f (AD6 (x:Int) v)) P
    refine ABv fun x _=>?_
    rw [ANp (g:=fun v=>f (AD6 (x:Int) (ATc v j s))) (fun v=>by rw [Aao])]
    exact Ak3 hP s (ARy hf _) (by omega)
def tlM (A:Nat->Nat->Int):Nat->Nat->Int:=fun i j=>A (i + 1) (j + 1)
def ARf (n:Nat) (A:Nat->Nat->Int) (v:Nat->Int):Int:=psum (fun j=>A 0 (j + 1) * v j) n
theorem Aeb {n:Nat} {A:Nat->Nat->Int} {x:Int} {v:Nat->Int} (hA:∀ a b,a < n + 1->b < n + 1->A a b=A b a):Qf (n + 1) A (AD6 x v)=A 0 0 * x * x + 2 * x * ARf n A v + Qf n (tlM A) v:=by
 unfold Qf;rw [AK0];have h0:nqI (n + 1) A (AD6 x v) 0=A 0 0 * x + ARf n A v:=by unfold nqI ARf;rw [AK0];rfl
 have h1:∀ i,i < n->nqI (n + 1) A (AD6 x v) (i + 1) * AD6 x v (i + 1)=nqI n (tlM A) v i * v i + x * (A 0 (i + 1) * v i):=fun i hi=>by
   have:nqI (n + 1) A (AD6 x v) (i + 1)=A (i + 1) 0 * x + nqI n (tlM A) v i:=by unfold nqI;rw [AK0];rfl
   rw [this,hA (i + 1) 0 (by omega) (by omega)]
   show (_ + _) * v i=_
   grind
 rw [h0,ABv (fun i hi=>h1 i hi),AG2,ADf];show (A 0 0 * x + ARf n A v) * x + (psum (fun i=>nqI n (tlM A) v i * v i) n + x * ARf n A v)=_;grind
theorem Aq4 {n:Nat} {p:Int} {A B:Nat->Nat->Int} {v w:Nat->Int} (hA:∀ i j,i < n->j < n->Eqm p (A i j) (B i j)) (hv:∀ j,Eqm p (v j) (w j)):Eqm p (Qf n A v) (Qf n B w):=by
 unfold Qf nqI;exact Eqm.psum fun i hi=>(Eqm.psum fun j hj=>(hA i j hi hj).mul (hv j)).mul (hv i)
def Zc' (P n:Nat) (A:Nat->Nat->Int) (c:Int):Int:=SS P n fun v=>if (Qf n A v - c) % (P:Int)=0 then 1 else 0
theorem Aw0 (P n:Nat) (A:Nat->Nat->Int) (c:Int):Aiz P fun v=>if (Qf n A v - c) % (P:Int)=0 then 1 else 0:=fun v w h=>by
  have:Eqm (P:Int) (Qf n A v - c) (Qf n A w - c):=(Aq4 (fun _ _ _ _=>Eqm.refl _ _) h).sub (Eqm.refl _ c)
  have this:(Qf n A v - c) % (P:Int)=(Qf n A w - c) % (P:Int):=this
  simp only [this]
def ALp (A:Nat->Nat->Int) (u:Int):Nat->Nat->Int:=fun i j=>A (i + 1) (j + 1) - u * (A 0 (i + 1) * A 0 (j + 1))
theorem Aq5 (n:Nat) (A:Nat->Nat->Int) (u:Int) (v:Nat->Int):Qf n (ALp A u) v=Qf n (tlM A) v - u * (ARf n A v * ARf n A v):=by
 unfold Qf
 have h1:∀ i,nqI n (ALp A u) v i=nqI n (tlM A) v i + (-u * A 0 (i + 1)) * ARf n A v:=fun i=>by
   unfold nqI ARf
   rw [<- ADf,<- AG2]
   exact ABv fun j _=>by unfold ALp tlM;grind
 rw [ABv (g:=fun i=>nqI n (tlM A) v i * v i + (-u * ARf n A v) * (A 0 (i + 1) * v i)) (fun i _=>by rw [h1];grind),AG2,ADf];show _ + -u * ARf n A v * ARf n A v=_;grind
theorem Aq6 {P n:Nat} {A:Nat->Nat->Int} {u c:Int} (hP:0 < P) (hA:∀ a b,a < n + 1->b < n + 1->A a b=A b a) (hu:Eqm (P:Int) (A 0 0 * u) 1):Zc' P (n + 1) A c=psum (fun x=>Zc' P n (ALp A u) (c - A 0 0 * (x:Nat) * (x:Nat))) P:=by
 have key:∀ v:Nat->Int,psum (fun x=>if (Qf (n + 1) A (AD6 ((x:Nat):Int) v) - c) % (P:Int)=0 then (1:Int) else 0) P=psum (fun x=>if (Qf n (ALp A u) v - (c - A 0 0 * (x:Nat) * (x:Nat))) % (P:Int)=0 then (1:Int) else 0) P:=fun v=>by
   rw [<- Agy hP (g:=fun y=>if (Qf n (ALp A u) v - (c - A 0 0 * y * y)) % (P:Int)=0 then (1:Int) else 0) (fun y z h=>by
     have h:Eqm (P:Int) y z:=h
     have this:(Qf n (ALp A u) v - (c - A 0 0 * y * y)) % (P:Int)=(Qf n (ALp A u) v - (c - A 0 0 * z * z)) % (P:Int):=(Eqm.refl (P:Int) (Qf n (ALp A u) v)).sub ((Eqm.refl _ c).sub (((Eqm.refl _ (A 0 0)).mul h).mul h))
     simp only [this]) (u * ARf n A v)]
   refine ABv fun x _=>?_
   have e1:Eqm (P:Int) (Qf (n + 1) A (AD6 ((x:Nat):Int) v) - c) (Qf n (ALp A u) v - (c - A 0 0 * (((x:Nat):Int) + u * ARf n A v) * (((x:Nat):Int) + u * ARf n A v))):=by
     rw [Aeb hA,Aq5]
     generalize ARf n A v=L
     generalize Qf n (tlM A) v=T
     have a1:T - u * (L * L) - (c - A 0 0 * ((x:Int) + u * L) * ((x:Int) + u * L))=A 0 0 * x * x + (A 0 0 * u) * (2 * x * L) + (A 0 0 * u) * (u * (L * L)) - u * (L * L) + T - c:=by grind
     rw [a1]
     have a2:Eqm (P:Int) (A 0 0 * x * x + (A 0 0 * u) * (2 * x * L) + (A 0 0 * u) * (u * (L * L)) - u * (L * L) + T - c) (A 0 0 * x * x + 1 * (2 * x * L) + 1 * (u * (L * L)) - u * (L * L) + T - c):=
       (((((Eqm.refl _ _).add (hu.mul (Eqm.refl _ _))).add (hu.mul (Eqm.refl _ _))).sub (Eqm.refl _ _)).add (Eqm.refl _ _)).sub (Eqm.refl _ _)
     refine (Eqm.of_eq ?_).trans a2.symm
     grind
   have e1:(Qf (n + 1) A (AD6 ((x:Nat):Int) v) - c) % (P:Int)=(Qf n (ALp A u) v - (c - A 0 0 * (((x:Nat):Int) + u * ARf n A v) * (((x:Nat):Int) + u * ARf n A v))) % (P:Int):=e1
   simp only [e1]
 show psum (fun x=>SS P n fun v=>if (Qf (n + 1) A (AD6 ((x:Nat):Int) v) - c) % (P:Int)=0 then (1:Int) else 0) P=_;rw [<- Aea P n (fun x v=>if (Qf (n + 1) A (AD6 ((x:Nat):Int) v) - c) % (P:Int)=0 then (1:Int) else 0),ANp key,Aea P n (fun x v=>if (Qf n (ALp A u) v - (c - A 0 0 * (x:Nat) * (x:Nat))) % (P:Int)=0 then (1:Int) else 0)];rfl
def AVi (A:Nat->Nat->Int) (u:Int) (k:Nat):Nat->Nat->Int:=fun i j=>if 1<=i/\i<=k then A i j + -(u * A 0 i) * A 0 j else A i j
theorem Aap {n:Nat} (A:Nat->Nat->Int) (u:Int):∀ k,k<=n->det (n + 1) (AVi A u k)=det (n + 1) A
  | 0,_=>ADe fun i j _ _=>by unfold AVi;rw [if_neg (by omega)]
  | k + 1,hk=>by
    have ih:=Aap (n:=n) A u k (by omega)
    rw [<- ih,<- AIu (F:=AVi A u k) (a:=k + 1) (b:=0) (by omega) (by omega) (by omega) (-(u * A 0 (k + 1)))]
    refine ADe fun i j _ _=>?_
    rw [ACs]
    unfold AVi
    by_cases h:i=k + 1
    · subst h
      rw [if_pos (by omega),if_pos rfl,if_neg (by omega),if_neg (by omega)]
    · rw [if_neg h]
      by_cases h2:1<=i/\i<=k
      · rw [if_pos (by omega),if_pos h2]
      · rw [if_neg (by omega),if_neg h2]
theorem Amx {n:Nat} {p:Int} {A:Nat->Nat->Int} {u:Int} (hA:∀ a b,a < n + 1->b < n + 1->A a b=A b a) (hu:Eqm p (A 0 0 * u) 1):Eqm p (det (n + 1) A) (A 0 0 * det n (ALp A u)):=by
 rw [<- Aap (n:=n) A u n (Nat.le_refl _)];let C:Nat->Nat->Int:=fun i j=>if i=0 then A 0 j else match j with | 0=>0 | j + 1=>A i (j + 1) - u * (A 0 i * A 0 (j + 1))
 have h1:Eqm p (det (n + 1) (AVi A u n)) (det (n + 1) C):=AUg fun i j hi hj=>by
   show Eqm p (AVi A u n i j) (if i=0 then A 0 j else _)
   unfold AVi
   by_cases h0:i=0
   · subst h0;rw [if_neg (by omega),if_pos rfl];exact Eqm.refl _ _
   · rw [if_pos (by omega),if_neg h0]
     cases j with
     | zero=>
       have e:A i 0 + -(u * A 0 i) * A 0 0=A 0 i - A 0 i * (A 0 0 * u):=by rw [hA i 0 hi (by omega)];grind
       rw [e]
       have:=(Eqm.refl p (A 0 i)).sub ((Eqm.refl p (A 0 i)).mul hu)
       refine this.trans (Eqm.of_eq ?_)
       show A 0 i - A 0 i * 1=0
       omega
     | succ j=>exact Eqm.of_eq (by show _=A i (j + 1) - u * (A 0 i * A 0 (j + 1));grind)
 refine h1.trans (Eqm.of_eq ?_);show psum (fun i=>sg i * C i 0 * det n (AE0 i C)) (n + 1)=_;rw [AF1 (a:=0) (by omega) (fun i hi=>by show sg i * (if i=0 then A 0 0 else 0) * _=0;rw [if_neg hi];simp)]
 have e2:det n (AE0 0 C)=det n (ALp A u):=ADe fun i j _ _=>by
   show C (skp 0 i) (j + 1)=_
   have e3:skp 0 i=i + 1:=by unfold skp;rw [if_neg (by omega)]
   rw [e3]
   show (if i + 1=0 then _ else _)=_
   rw [if_neg (by omega)]
   rfl
 rw [e2];show 1 * (if (0:Nat)=0 then A 0 0 else _) * _=_;rw [if_pos rfl,Int.one_mul]
theorem AQg (k:Int):∀ n:Nat,psum (fun _=>k) n=n * k
  | 0=>by simp [psum]
  | n + 1=>by
    have ih:=AQg k n
    show psum (fun _=>k) n + k=((n + 1:Nat):Int) * k
    rw [ih,Int.natCast_add,Int.add_mul];simp
def piv (A:Nat->Nat->Int) (j:Nat) (t:Int):Nat->Nat->Int:=fun a b=>A a b + (if a=0 then t * A j b else 0) + (if b=0 then t * (A a j + (if a=0 then t * A j j else 0)) else 0)
theorem Ak5 {n j:Nat} {A:Nat->Nat->Int} {t:Int} (hj:j < n) (hA:∀ a b,a < n->b < n->A a b=A b a):∀ a b,a < n->b < n->piv A j t a b=piv A j t b a:=fun a b ha hb=>by
  unfold piv
  rw [hA a b ha hb,hA a j ha hj,hA b j hb hj]
  by_cases h1:a=0 <;> by_cases h2:b=0
  · subst h1;subst h2;rfl
  · simp [h1,h2]
  · simp [h1,h2]
  · simp [h1,h2]
theorem At8 {n j:Nat} {A:Nat->Nat->Int} {t:Int} (hj:j < n) (Aa:j≠0):det n (piv A j t)=det n A:=by
 let B:Nat->Nat->Int:=ADj A 0 fun x=>A 0 x + t * A j x
 have h1:det n B=det n A:=AIu (by omega) hj (Ne.symm Aa) t;have h2:det n (ADj (trF B) 0 fun x=>trF B 0 x + t * trF B j x)=det n (trF B):=AIu (by omega) hj (Ne.symm Aa) t;rw [AMz,h1] at h2;rw [<- h2,<- AMz (piv A j t)];refine ADe fun i k _ _=>?_;show piv A j t k i=ADj (trF B) 0 _ i k;rw [ACs]
 have hB:∀ x y,B x y=A x y + (if x=0 then t * A j y else 0):=fun x y=>by
   show ADj A 0 _ x y=_
   rw [ACs]
   by_cases h:x=0
   · subst h;simp
   · simp [h]
 unfold piv;by_cases h:i=0
 ·subst h;rw [if_pos rfl,if_pos rfl];show _=B k 0 + t * B k j;rw [hB,hB]
 ·rw [if_neg h,if_neg h];show _=B k i;rw [hB];omega
theorem Ax7 {P n k:Nat} {A:Nat->Nat->Int} {t c:Int} (hP:0 < P) (hk:k < n) (ht:t * t=1) (hA:∀ a b,a < n + 1->b < n + 1->A a b=A b a):Zc' P (n + 1) (piv A (k + 1) t) c=Zc' P (n + 1) A c:=by
 show psum (fun x=>SS P n fun v=>if (Qf (n + 1) (piv A (k + 1) t) (AD6 ((x:Nat):Int) v) - c) % (P:Int)=0 then (1:Int) else 0) P=psum (fun x=>SS P n fun v=>if (Qf (n + 1) A (AD6 ((x:Nat):Int) v) - c) % (P:Int)=0 then (1:Int) else 0) P;refine ABv fun x _=>?_;rw [<- Ak3 hP (j:=k) (f:=fun v=>if (Qf (n + 1) A (AD6 ((x:Nat):Int) v) - c) % (P:Int)=0 then (1:Int) else 0) (t * x) (ARy (Aw0 P (n + 1) A c) _) hk];refine ANp fun v=>?_
 have e:Qf (n + 1) (piv A (k + 1) t) (AD6 ((x:Nat):Int) v)=Qf (n + 1) A (AD6 ((x:Nat):Int) (ATc v k (t * x))):=by
   rw [<- Aao,Awz hA (by omega),Aeb hA,Aeb (Ak5 (by omega) hA)]
   have h1:nqI (n + 1) A (AD6 ((x:Nat):Int) v) (k + 1)=A (k + 1) 0 * x + psum (fun i=>A (k + 1) (i + 1) * v i) n:=by unfold nqI;rw [AK0];rfl
   have h2:ARf n (piv A (k + 1) t) v=ARf n A v + t * psum (fun i=>A (k + 1) (i + 1) * v i) n:=by
     unfold ARf
     rw [<- ADf,<- AG2]
     exact ABv fun i _=>by unfold piv;simp;grind
   have h3:Qf n (tlM (piv A (k + 1) t)) v=Qf n (tlM A) v:=by
     congr 1
     funext a b
     unfold tlM piv;simp
   have h4:piv A (k + 1) t 0 0=A 0 0 + 2 * (t * A (k + 1) 0) + A (k + 1) (k + 1):=by
     unfold piv
     rw [hA 0 (k + 1) (by omega) (by omega)]
     simp only [if_true]
     have:t * (t * A (k + 1) (k + 1))=A (k + 1) (k + 1):=by rw [<- Int.mul_assoc,ht,Int.one_mul]
     rw [Int.mul_add,this];omega
   rw [h1,h2,h3,h4]
   have h5:t * (x:Int) * (t * x) * A (k + 1) (k + 1)=x * x * A (k + 1) (k + 1):=by
     have:t * (x:Int) * (t * x)=(t * t) * (x * x):=by grind
     rw [this,ht];grind
   rw [h5]
   grind
 simp only [e]
theorem Ai1 {P n:Nat} {A:Nat->Nat->Int} (hp:OPr (P:Int)) (hA:∀ a b,a < n + 1->b < n + 1->A a b=A b a) (hd:det (n + 1) A % (P:Int)≠0):∃ B:Nat->Nat->Int,(∀ a b,a < n + 1->b < n + 1->B a b=B b a)/\det (n + 1) B=det (n + 1) A/\B 0 0 % (P:Int)≠0/\ ∀ c,Zc' P (n + 1) B c=Zc' P (n + 1) A c:=by
  have hP2:=hp.three
  by_cases h0:A 0 0 % (P:Int)≠0
  · exact ⟨A,hA,rfl,h0,fun c=>rfl⟩
  have h0:A 0 0 % (P:Int)=0:=by omega
  have ⟨k,hk,hne⟩:∃ k,k < n/\A 0 (k + 1) % (P:Int)≠0:=by
    refine Classical.byContradiction fun hno=>hd ?_
    have hz:∀ j,j < n + 1->Eqm (P:Int) (A 0 j) 0:=fun j hj=>by
      show _ % _=0 % _;rw [Int.zero_emod];cases j with
      | zero=>exact h0
      | succ j=>exact Classical.byContradiction fun hh=>hno ⟨j,by omega,hh⟩
    have h1:Eqm (P:Int) (det (n + 1) A) (det (n + 1) (ADj A 0 fun _=>0)):=AUg fun i j hi hj=>by
      rw [ACs]
      by_cases h:i=0
      · subst h;rw [if_pos rfl];exact hz j hj
      · rw [if_neg h];exact Eqm.refl _ _
    rw [APm (F:=ADj A 0 fun _=>0) (r:=0) (by omega) (fun q _=>by rw [ACs,if_pos rfl])] at h1;exact Eqm.zero h1
  have key:∀ t:Int,t * t=1->(2 * (t * A (k + 1) 0) + A (k + 1) (k + 1)) % (P:Int)≠0-> ∃ B:Nat->Nat->Int,(∀ a b,a < n + 1->b < n + 1->B a b=B b a)/\det (n + 1) B=det (n + 1) A/\B 0 0 % (P:Int)≠0/\ ∀ c,Zc' P (n + 1) B c=Zc' P (n + 1) A c:=fun t ht h=>by
    refine ⟨piv A (k + 1) t,Ak5 (by omega) hA,At8 (by omega) (by omega),?_,fun c=>Ax7 (by omega) hk ht hA⟩
    have h4:piv A (k + 1) t 0 0=A 0 0 + (2 * (t * A (k + 1) 0) + A (k + 1) (k + 1)):=by
      unfold piv;rw [hA 0 (k + 1) (by omega) (by omega)];simp only [if_true];have:t * (t * A (k + 1) (k + 1))=A (k + 1) (k + 1):=by rw [<- Int.mul_assoc,ht,Int.one_mul]
      rw [Int.mul_add,this];omega
    rw [h4,Int.add_emod,h0,Int.zero_add,Int.emod_emod];exact h
  rw [hA 0 (k + 1) (by omega) (by omega)] at hne
  by_cases h1:(2 * (1 * A (k + 1) 0) + A (k + 1) (k + 1)) % (P:Int)=0
  · refine key (-1) (by decide) fun h2=>?_
    have h3:(4 * A (k + 1) 0) % (P:Int)=0:=by
      have:=(show Eqm (P:Int) _ 0 from h1.trans (Int.zero_emod _).symm).sub (show Eqm (P:Int) _ 0 from h2.trans (Int.zero_emod _).symm);have e:2 * (1 * A (k + 1) 0) + A (k + 1) (k + 1) - (2 * (-1 * A (k + 1) 0) + A (k + 1) (k + 1))=4 * A (k + 1) 0:=by grind
      rw [e] at this;exact Eqm.zero this
    have h4:(4:Int) % (P:Int)≠0:=fun hh=>by
      rcases Int.lt_or_le 4 (P:Int) with h5 | h5
      · rw [Int.emod_eq_of_lt (by omega) h5] at hh;omega
      · have h6:=hp.2;have:(P:Int)=3:=by omega
        rw [this] at hh;simp at hh
    exact AXw hp h4 hne h3
  · exact key 1 (by decide) h1
def Ind (P:Nat) (c:Int):Int:=if c % (P:Int)=0 then 1 else 0
def E1 (P:Nat):Prop:= ∀ a c:Int,a % (P:Int)≠0->psum (fun x=>Ind P (c - a * (x:Nat) * (x:Nat))) P=1 + lg P (a * c)
def E2 (P:Nat):Prop:= ∀ a c:Int,a % (P:Int)≠0->psum (fun x=>lg P (c - a * (x:Nat) * (x:Nat))) P=lg P (-a) * (P * Ind P c - 1)
theorem Aaq {P:Nat} (hp:OPr (P:Int)) (h1:E1 P) (h2:E2 P):∀ (n:Nat) (A:Nat->Nat->Int),(∀ a b,a < n->b < n->A a b=A b a)->det n A % (P:Int)≠0->
    (∀ m,n=2 * m-> ∀ c,(P:Int) * Zc' P n A c=(P:Int) ^ (2 * m) + lg P ((-1) ^ m * det n A) * (P:Int) ^ m * (P * Ind P c - 1))/\(∀ m,n=2 * m + 1-> ∀ c,Zc' P n A c=(P:Int) ^ (2 * m) + (P:Int) ^ m * lg P ((-1) ^ m * det n A * c)):=by
 have Ai:=hp.three;intro n
 induction n with
 | zero=>
   intro A _ _
   refine ⟨fun m hm c=>?_,fun m hm=>by omega⟩
   obtain rfl:m=0:=by omega
   have hl:lg P (1:Int)=1:=by
     unfold lg
     rw [Int.one_pow,Int.emod_eq_of_lt (by omega) (by omega)];simp
   have hz:Zc' P 0 A c=Ind P c:=by
     show (if (Qf 0 A _ - c) % (P:Int)=0 then (1:Int) else 0)=_
     unfold Ind
     have e:Qf 0 A (fun _=>0) - c= -c:=by simp [Qf,psum]
     rw [e]
     have e2:((-c) % (P:Int)=0)↔(c % (P:Int)=0):=⟨fun h=>Int.emod_eq_zero_of_dvd (Int.dvd_neg.1 (Int.dvd_of_emod_eq_zero h)),fun h=>Int.emod_eq_zero_of_dvd (Int.dvd_neg.2 (Int.dvd_of_emod_eq_zero h))⟩
     by_cases h:c % (P:Int)=0
     · rw [if_pos (e2.2 h),if_pos h]
     · rw [if_neg (fun hh=>h (e2.1 hh)),if_neg h]
   show (P:Int) * Zc' P 0 A c=(P:Int) ^ 0 + lg P ((-1) ^ 0 * 1) * (P:Int) ^ 0 * (P * Ind P c - 1)
   rw [hz]
   simp only [Int.pow_zero,Int.mul_one,hl]
   omega
 | succ n ih=>
   intro A0 Ag Ab
   obtain ⟨A,hA,hdA,ha,hZ⟩:=Ai1 hp Ag Ab
   rw [<- hdA] at Ab ⊢
   simp only [<- hZ]
   have hr:=Int.emod_nonneg (A 0 0) (show (P:Int)≠0 by omega)
   have Ah:=Int.emod_lt_of_pos (A 0 0) (show (0:Int) < P by omega)
   obtain ⟨u,hu⟩:=AVq hp.1 (x:=A 0 0 % (P:Int)) (by omega) Ah
   have Ac:Eqm (P:Int) (A 0 0 * u) 1:=by
     have:=((Eqm.refl (P:Int) u).mul (Eqm.mod (P:Int) (A 0 0))).symm.trans hu.2.2
     rwa [Int.mul_comm] at this
   have hdet:=Amx hA Ac
   have hsd:det n (ALp A u) % (P:Int)≠0:=fun hh=>Ab (by
     have:=hdet.trans ((Eqm.refl (P:Int) (A 0 0)).mul (show Eqm (P:Int) _ 0 from hh.trans (Int.zero_emod _).symm))
     rw [Int.mul_zero] at this
     exact Eqm.zero this)
   have hsy:∀ a b,a < n->b < n->ALp A u a b=ALp A u b a:=fun a b ha hb=>by
     unfold ALp
     rw [hA (a + 1) (b + 1) (by omega) (by omega),Int.mul_comm (A 0 (a + 1))]
   obtain ⟨ihe,iho⟩:=ih (ALp A u) hsy hsd
   refine ⟨fun m hm c=>?_,fun m hm c=>?_⟩
   ·
     obtain ⟨m',rfl⟩:∃ m',m=m' + 1:=⟨m - 1,by omega⟩
     have hz:=iho m' (by omega)
     rw [Aq6 (by omega) hA Ac,ABv (g:=fun x:Nat=>(P:Int) ^ (2 * m') + ((P:Int) ^ m' * lg P ((-1) ^ m' * det n (ALp A u))) * lg P (c - A 0 0 * (x:Nat) * (x:Nat))) (fun x _=>by rw [hz,AM0 hp];grind),AG2,AQg,ADf,h2 _ _ ha]
     have e1:lg P ((-1) ^ (m' + 1) * det (n + 1) A)=lg P ((-1) ^ m' * det n (ALp A u)) * lg P (-(A 0 0)):=by
       rw [<- AM0 hp]
       refine AKe hp ?_
       have:=(Eqm.refl (P:Int) ((-1) ^ (m' + 1))).mul hdet
       refine this.trans (Eqm.of_eq ?_)
       rw [Int.pow_succ];grind
     rw [e1]
     have e2:(P:Int) ^ (2 * (m' + 1))=P * (P * (P:Int) ^ (2 * m')):=by
       rw [show 2 * (m' + 1)=2 * m' + 1 + 1 by omega,Int.pow_succ,Int.pow_succ];grind
     rw [e2,Int.pow_succ]
     generalize (P:Int) ^ (2 * m')=X
     generalize (P:Int) ^ m'=Y
     grind
   ·
     have hz:=ihe m (by omega)
     have hmul:(P:Int) * Zc' P (n + 1) A c=(P:Int) * ((P:Int) ^ (2 * m) + (P:Int) ^ m * lg P ((-1) ^ m * det (n + 1) A * c)):=by
       rw [Aq6 (by omega) hA Ac,<- ADf,ABv (g:=fun x:Nat=>((P:Int) ^ (2 * m) - lg P ((-1) ^ m * det n (ALp A u)) * (P:Int) ^ m) + (lg P ((-1) ^ m * det n (ALp A u)) * (P:Int) ^ m * P) * Ind P (c - A 0 0 * (x:Nat) * (x:Nat))) (fun x _=>by rw [hz];grind),AG2,AQg,ADf,h1 _ _ ha]
       have e1:lg P ((-1) ^ m * det (n + 1) A * c)=lg P ((-1) ^ m * det n (ALp A u)) * lg P (A 0 0 * c):=by
         rw [<- AM0 hp]
         refine AKe hp ?_
         have:=((Eqm.refl (P:Int) ((-1) ^ m)).mul hdet).mul (Eqm.refl (P:Int) c)
         refine this.trans (Eqm.of_eq ?_)
         grind
       rw [e1]
       generalize (P:Int) ^ (2 * m)=X
       generalize (P:Int) ^ m=Y
       grind
     exact Int.eq_of_mul_eq_mul_left (by omega) hmul
end Go.Proofs.YtiegjkmfpcgjjaaGreatDoor
