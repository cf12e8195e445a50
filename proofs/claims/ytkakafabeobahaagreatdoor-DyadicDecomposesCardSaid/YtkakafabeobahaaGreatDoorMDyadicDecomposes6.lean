/-
  Texts of a proof, joined. Conditions stand in each statement.
-/
import Derived.Test.YtkakafabeobahaaGreatDoorMDyadicDecomposes5
set_option linter.unusedVariables false
set_option linter.unusedSimpArgs false
open Go
variable {T:Go.QF.AS9} {a p x A v:Int} {M:List (List Int)} {k fuel K i j:Nat}
namespace Go.Proofs.YtkakafabeobahaaGreatDoor
open Go Go.QF
set_option maxRecDepth 100000
theorem BCt (a:Int):Aaz .and .i64 a 1=a % 2:=by
 show w64 (((BitVec.ofInt 64 a &&& BitVec.ofInt 64 1).toNat:Nat):Int)=_;rw [BitVec.toNat_and,BitVec.toNat_ofInt,BitVec.toNat_ofInt,show ((1:Int) % ((2 ^ 64:Nat):Int)).toNat=1 by decide,Nat.and_one_is_mod,wk AGl];omega
theorem An4 (hk:k<=30):w64 (1 * 2 ^ Int.toNat (k:Int))=(2:Int) ^ k:=by
 have h1:(2:Int) ^ k<=2 ^ 30:=AWz AGn hk;have h2:0 < (2:Int) ^ k:=Int.pow_pos AGn;have h3:(2:Int) ^ 30=1073741824:=by decide
 rw [Int.toNat_natCast,Int.one_mul,wk AGl]
theorem BFt {n:Nat} (hn:n<=8) (hk:k<=30) (hf:100 < fuel):Ok (iter (λs=>Acy fuel (tab n n T) k s) fuel 0) λex=>(ex= .inr ()/\Rng n (2 ^ k) T)∨(ex= .inl false/\¬ Rng n (2 ^ k) T):=by
 refine Ajm (n:=n) (λi=> ∀ j,j < n->0<=T i j/\T i j < 2 ^ k) false AGl (λi hi=>?_) ?_
 ·unfold Acy;rw [ATt,if_pos AGl,AU4<|ATv hi];refine AGw (Ajm (n:=n) (λj=>0<=T i j/\T i j < 2 ^ k) false AGl (λj hj=>?_) ?_) λex hex=>?_
  ·unfold Afz;rw [AT1,if_pos AGl,AU4<|ATm hj,An4 hk];exact ATj (λh=>AGp<|.inr ⟨rfl,AGl⟩) λh=>AVc AGl<|ATj (λh2=>AGp<|.inr ⟨rfl,AGl⟩) λh2=>AGp<|.inl ⟨by rw [AUh AGl],AGl⟩
  ·unfold Afz;rw [AT1,if_neg AGl]
  ·rcases hex with ⟨rfl,h⟩ | ⟨rfl,h⟩
   ·exact AGp<|.inl ⟨by rw [AUh AGl],h⟩
   ·exact AGp<|.inr ⟨rfl,h⟩
 ·unfold Acy;rw [ATt,if_neg AGl]
theorem BFu {e:Nat} {s b c:Int} (hek:e<=k) (hk:k<=30) (hf:100 < fuel):Ok (Afc fuel e s a b c k) λr=>r=true↔(0<=a/\a < 2 ^ (k - e))/\(0<=b/\b < 2 ^ (k - e))/\0<=c/\c < 2 ^ (k - e):=by
 have e1:w64 ((k:Int) - (e:Int))=((k - e:Nat):Int):=by rw [wk AGl];omega
 unfold Afc;refine AGw (Ajm (n:=3) (λi=> ∀ x,[a,b,c][i]? =some x->0<=x/\x < 2 ^ (k - e)) false AGl (λi hi=>?_) ?_) λex hex=>?_
 ·obtain ⟨x,hx⟩:∃ x,[a,b,c][i]? =some x:=⟨[a,b,c][i]'(by simpa using hi),List.getElem?_eq_getElem _⟩;unfold Aeq;rw [if_pos AGl,AU4 hx,e1,An4 AGl];exact ATj (λh=>AGp<|.inr ⟨rfl,λh2=>by grind⟩) λh=>AVc AGl<|ATj (λh2=>AGp<|.inr ⟨rfl,λh3=>by grind⟩) λh2=>AGp<|.inl ⟨by rw [AUh AGl],λy hy=>by grind⟩
 ·unfold Aeq;grind
 ·rcases hex with ⟨rfl,h⟩ | ⟨rfl,h⟩
  ·exact AGp ⟨λ_=>⟨h 0 AGl a rfl,h 1 AGl b rfl,h 2 AGl c rfl⟩,λ_=>rfl⟩
  ·refine AGp ⟨λe=>(nomatch e),λh2=>absurd (λi hi x hx=>?_) h⟩;rcases (show i=0∨i=1∨i=2 by omega) with rfl | rfl | rfl
   ·grind
   ·grind
   grind
theorem BG2 {e s b c:Int}:Ok (AZz fuel e s a b c) λr=>r=true↔if s=1 then a % 2=1/\b=0/\c=0 else s=2/\a % 2=0/\b % 2=1/\c % 2=0:=by
 unfold AZz;rw [BCt,BCt,BCt];refine ATj (λh=>?_) λh=>?_
 ·rw [if_pos h];refine ATj (λh1=>ATj (λh2=>AGp ?_) λh2=>AGp ?_) λh1=>AGp ?_
  ·grind
  ·grind
  grind
 ·rw [if_neg h];refine ATj (λh0=>ATj (λh1=>ATj (λh2=>AGp ?_) λh2=>AGp ?_) λh1=>AGp ?_) λh0=>AGp ?_
  ·grind
  ·grind
  ·grind
  grind
theorem Ayj {e:Nat} (hek:e<=k) (hk:k<=30) (h:0<=a/\a < 2 ^ (k - e)):w64 (a * 2 ^ Int.toNat (e:Int))=2 ^ e * a:=by
 have h1:(2:Int) ^ k<=2 ^ 30:=AWz AGn hk;have h3:(2:Int) ^ 30=1073741824:=by decide
 have:=Ato (p:=2) AGn hek AGl h;rw [Int.toNat_natCast,Int.mul_comm,wk AGl]
theorem BFv {n:Nat} {L:List AWq} (hn:n<=8) (hk:k<=30) (hk3:3<=k) (hsz:∀ b∈L,b.2.1=1∨b.2.1=2) (hs:Ack L=n) (hl:L.length<=n) (hf:100 < fuel):
 Ok (iter (λs=>Af1 fuel L k s.1 s.2.1 s.2.2.1 s.2.2.2) fuel (0,0,0,tab n n λ_ _=>0)) λex=>(ex= .inr (tab n n<|Am6 2 L 0 λ_ _=>0)/\ ∀ i,i < L.length->RG 2 k L i)∨(ex= .inl false/\¬ ∀ i,i < L.length->RG 2 k L i):=by
 refine AT8 (λi s=> ∃ (r:Nat) (F:AS9) (last:Int),s=((r:Int),last,(i:Int),tab n n F)/\r + Ack (L.drop i)=n/\Am6 2 (L.drop i) r F=Am6 2 L 0 (λ_ _=>0)/\(∀ j,j < i->RG 2 k L j)/\(if i=0 then last=0 else ∀ b,L[i - 1]? =some b->last=b.1)) L.length ⟨0,λ_ _=>0,0,rfl,by simpa using hs,rfl,λj hj=>absurd hj<|Nat.not_lt_zero j,by rw [if_pos rfl]⟩ AGl λi s hi hI=>?_;obtain ⟨r,F,last,rfl,hr,hb,hG,hlast⟩:=hI;unfold Af1;dsimp only
 by_cases h:i < L.length
 ·obtain ⟨b,hbi⟩:∃ b,L[i]? =some b:=⟨L[i],List.getElem?_eq_getElem h⟩
  have hdr:L.drop i=b :: L.drop (i + 1):=by
   rw [List.drop_eq_getElem_cons h];grind
  rw [hdr] at hr hb;have hszb:=hsz b<|List.mem_of_getElem? hbi;rw [if_pos AGl,AU4 hbi];have hge0:RG 2 k L i->0<=b.1:=λhg=>(hg.1 b hbi).1.1
  have hasc:Asc L i/\0<=b.1->last<=b.1:=λ⟨ha,h0⟩=>by
   by_cases h1:i=0
   ·grind
   ·rw [if_neg h1] at hlast;obtain ⟨c,hc⟩:∃ c,L[i - 1]? =some c:=⟨L[i - 1],List.getElem?_eq_getElem _⟩;rw [hlast c hc];exact ha AGl b c hbi hc
  have hlast0:0<=last:=by
   by_cases h1:i=0
   ·grind
   ·rw [if_neg h1] at hlast;obtain ⟨c,hc⟩:∃ c,L[i - 1]? =some c:=⟨L[i - 1],List.getElem?_eq_getElem _⟩;rw [hlast c hc];exact ((hG (i - 1) AGl).1 c hc).1.1
  refine AGw (Q:=λex=>(ex= .inr ()/\RG 2 k L i)∨(ex= .inl false/\¬ RG 2 k L i)) ?_ λex hex=>?_
  ·refine ATj (λh1=>AGp<|.inr ⟨rfl,λhg=>by have:=hasc ⟨hg.2,hge0 hg⟩;omega⟩) λh1=>?_;rw [wk AGl];refine ATj (λh2=>AGp<|.inr ⟨rfl,λhg=>by have:=(hg.1 b hbi).1.2;omega⟩) λh2=>?_;obtain ⟨e,he⟩:∃ e:Nat,b.1=e:=⟨b.1.toNat,AGl⟩;rw [he]
   refine AGw (BFu AGl hk hf) λrr hrr=>ATj (λh3=>AGp<|.inr ⟨rfl,λhg=>?_⟩) λh3=>?_
   ·have hp:=Asp AGl hszb<|hg.1 b hbi;obtain ⟨e',he',_,hA,hz⟩:=hp;obtain rfl:e=e':=by omega
    have hpp:=(hg.1 b hbi).2;grind
   ·have hrr':=hrr.1 (by grind)
    refine AGw BG2 λw hw=>ATj (λh4=>AGp<|.inr ⟨rfl,λhg=>?_⟩) λh4=>AGp<|.inl ⟨rfl,λc hc=>?_,λh5 c' d hc' hd=>?_⟩
    ·have hpp:=(hg.1 b hbi).2;grind
    ·rw [hbi] at hc;cases hc;have hw':=hw.1 (by grind);refine ⟨⟨AGl,AGl⟩,?_⟩;rw [he,Int.toNat_natCast];grind
    grind
  ·rcases hex with ⟨rfl,hg⟩ | ⟨rfl,hg⟩
   ·obtain ⟨e,he,hek,hA,hsz2⟩:=Asp AGl hszb<|hg.1 b hbi;have heN:b.1.toNat=e:=by omega
    unfold Ack at hr;rw [Am6] at hb;rw [heN] at hb;have hr1:r < n:=by omega
    have hG2:∀ j,j < i + 1->RG 2 k L j:=λj hj=>(Nat.lt_succ_iff_lt_or_eq.1 hj).elim (hG j) λq=>q ▸ hg
    have hl2:(if i + 1=0 then (e:Int)=0 else ∀ c,L[i + 1 - 1]? =some c->(e:Int)=c.1):=by
     grind
    dsimp only;rw [he,AU4<|ATv hr1,if_pos AGl,AU4<|ATm hr1,Ayj hek hk hA,Al4]
    rcases hsz2 with hz | ⟨hz,hB,hC⟩
    ·rw [if_neg AGl];simp only [Option.bind_some];rw [if_neg AGl] at hb;refine AGp ⟨h,r + 1,_,e,?_,AGl,hb,hG2,hl2⟩;rw [hz,AUh AGl,AUh AGl]
    ·have hr2:r + 1 < n:=by omega
     rw [if_pos hz,AU4<|ATv hr1,if_pos AGl,AUh AGl,AU4<|ATm hr2,Ayj hek hk hB,Al4,AU4<|ATv hr2,if_pos AGl,AU4<|ATm hr1,Al4,AU4<|ATv hr2,if_pos AGl,AU4<|ATm hr2,Ayj hek hk hC,Al4];simp only [Option.bind_some];rw [if_pos hz] at hb;refine AGp ⟨h,r + 2,_,e,?_,AGl,hb,hG2,hl2⟩;rw [hz,AVq (x:=(r:Int) + 2) AGl AGl,AUh AGl];rfl
   ·exact AGp<|.inr ⟨rfl,λhall=>hg<|hall i h⟩
 ·obtain rfl:i=L.length:=by omega
  rw [if_neg AGl];rw [List.drop_length] at hb;exact AGp<|.inl ⟨by rw [<- hb];rfl,hG⟩
theorem BCu {n:Nat} {F G:AS9} (hn:n<=8) (hf:100 < fuel):Ok (iter (λs=>Acx fuel (tab n n F) (tab n n G) s) fuel 0) λex=>(ex= .inr ()/\ ∀ i,i < n-> ∀ j,j < n->G i j=F i j)∨(ex= .inl false/\¬ ∀ i,i < n-> ∀ j,j < n->G i j=F i j):=by
 refine Ajm (n:=n) (λi=> ∀ j,j < n->G i j=F i j) false AGl (λi hi=>?_) ?_
 ·unfold Acx;rw [ATt,if_pos AGl,AU4<|ATv hi];refine AGw (Ajm (n:=n) (λj=>G i j=F i j) false AGl (λj hj=>?_) ?_) λex hex=>?_
  ·unfold Af0;rw [AT1,if_pos AGl,AU4<|ATv hi,AU4<|ATm hj,AU4<|ATv hi,AU4<|ATm hj];exact ATj (λh=>AGp<|.inr ⟨rfl,h⟩) λh=>AGp<|.inl ⟨by rw [AUh AGl],Decidable.not_not.1 h⟩
  ·unfold Af0;rw [AT1,if_neg AGl]
  ·rcases hex with ⟨rfl,h⟩ | ⟨rfl,h⟩
   ·exact AGp<|.inl ⟨by rw [AUh AGl],h⟩
   ·exact AGp<|.inr ⟨rfl,h⟩
 ·unfold Acx;rw [ATt,if_neg AGl]
theorem Aw3 {n:Nat} {A:AS9} {L:List AWq} (Ab:1<=n) (hn:n<=8) (hk:k<=30) (Ac:3<=k) (hsz:∀ b∈L,b.2.1=1∨b.2.1=2) (hs:Ack L=n) (hl:L.length<=n) (hg:2147483648 < fuel):
 Ok (Agb fuel (tab n n A) 2 (tab n n T) L k) λb=>b=true↔RC n k 2 A T L:=by
 have hf:100 < fuel:=by omega
 have h1:(2:Int) ^ k<=2 ^ 30:=AWz AGn hk;have h3:(2:Int) ^ 30=1073741824:=by decide
 have h4:(2:Int) ^ 1<=2 ^ k:=AWz AGn AGl;rw [Int.pow_one] at h4;unfold Agb RC;refine AGw (BFt hn hk hf) λex hex=>?_;rcases hex with ⟨rfl,hR⟩ | ⟨rfl,hR⟩
 ·refine AGw (AUa<|BFi Ab hn AGn AGn hg) λd hd=>?_;subst hd;dsimp only;refine ATj (λh=>AGp ⟨λh2=>(nomatch h2),λh2=>absurd h h2.2.2.1⟩) λh=>?_;rw [ATt,if_pos AGl,Int.toNat_natCast,Apd (n:=n) (λ_ _=>0) AGl (λi hi=>?_) λX=>?_]
  ·simp only [Option.bind_some];refine AGw (BFv hn hk Ac hsz hs hl hf) λex hex=>?_;rcases hex with ⟨rfl,hG⟩ | ⟨rfl,hG⟩
   ·dsimp only;rw [if_pos AGl,An4 hk];refine AGw (AUa<|BCl Ab hn AGl AGl hf) λg hgg=>?_;subst hgg;dsimp only;refine AGw (BCu hn hf) λex hex=>?_;rcases hex with ⟨rfl,hS⟩ | ⟨rfl,hS⟩
    ·exact AGp ⟨λ_=>⟨hG,hR,h,hS⟩,λ_=>rfl⟩
    ·exact AGp ⟨λh2=>(nomatch h2),λh2=>absurd h2.2.2.2 hS⟩
   ·exact AGp ⟨λh2=>(nomatch h2),λh2=>absurd h2.1 hG⟩
  ·unfold Af2;dsimp only;rw [ATt,Int.toNat_natCast,List.length_replicate,if_pos AGl,if_pos AGl,AU4<|Ah3 hi,AUx,AXs n (0:Int),Aga,Apc λc _=>rfl,AUh AGl]
  ·unfold Af2;dsimp only;rw [ATt,Int.toNat_natCast,List.length_replicate,if_neg AGl]
 ·exact AGp ⟨λh=>(nomatch h),λh=>absurd h.2.1 hR⟩
end Go.Proofs.YtkakafabeobahaaGreatDoor
namespace Go.Proofs.YtkakafabeobahaaGreatDoor
open Go Go.QF
set_option maxRecDepth 100000
set_option maxHeartbeats 4000000
noncomputable def Ac8 (fuel:Nat) (Ab Ac Aa:Int):Option (Int ⊕ Int):=
 ((if Aa < Ab then if 0<=Aa/\Aa<=64 then if Aaz .and .i64 (Ac / 2 ^ Int.toNat Aa) 1=0 then some (.inl ()) else some (.inr ()) else none else some<|.inr ()):Option (Unit ⊕ Unit)).bind (λex=>match ex with | .inl _=>(some<|.inl<|w64<|Aa + 1) | .inr _=>some<|.inr Aa)
noncomputable def Ac9 (fuel:Nat) (Ah:Int) (Ad:LiI) (Ab Ae Af Ac Aa:Int):Option ((Int × Int × Int × Int) ⊕ (Int × Int × Int)):=
 if w64 (Aa + Ab) < (Ad.length:Int) then (((gI Ad Aa).bind λAi=>(gI Ai<|w64<|Aa + Ab).bind λAj=>(((iter (λs=>Ac8 fuel Ah Aj s) fuel 0).bind (λ(Ak:Int)=>some Ak)):Option Int).bind λAg=>if Ag < Ac then some (Aa,w64<|Aa + Ab,Ag) else some (Ae,Af,Ac)):Option (Int × Int × Int)).bind (λ((Am,Ao,Ap):Int × Int × Int)=>some<|.inl (Am,Ao,Ap,w64<|Aa + 1)) else some<|.inr (Ae,Af,Ac)
noncomputable def Ada (fuel:Nat) (Ag Ab:Int) (Ac:LiI) (Ad Ae Af Aa:Int):Option ((Int × Int × Int × Int) ⊕ (Int × Int × Int)):=
 if Aa < w64 ((Ac.length:Int) - Ab) then (iter (λs=>Ac9 fuel Ag Ac Aa s.1 s.2.1 s.2.2.1 s.2.2.2) fuel (Ad,Ae,Af,Ab)).bind (λ((Ah,Ai,Aj):Int × Int × Int)=>some<|.inl (Ah,Ai,Aj,w64<|Aa + 1)) else some<|.inr (Ad,Ae,Af)
noncomputable def Ab0 (fuel:Nat) (Ab:Int) (Ag:LiI) (Aa:Int) (Ac:LiI):Option ((Int × LiI) ⊕ LiI):=
 if Aa < (Ag.length:Int) then (gI Ac Aa).bind λAd=>(gI Ad Ab).bind λAe=>(gI Ad<|w64<|Ab - 1).bind λAh=>(gI (sI Ac Aa<|sI Ad (w64<|Ab - 1) Ae) Aa).bind λAf=>(gI Af Ab).bind λAi=>some (.inl (w64<|Aa + 1,sI (sI Ac Aa<|sI Ad (w64<|Ab - 1) Ae) Aa<|sI Af Ab Ah)) else some<|.inr Ac
noncomputable def Ab1 (fuel:Nat) (Ab:Int) (Ag:LiI) (Aa:Int) (Ac:LiI):Option ((Int × LiI) ⊕ LiI):=
 if Aa < (Ag.length:Int) then (gI Ac Aa).bind λAd=>(gI Ad Ab).bind λAe=>(gI Ad<|w64<|Ab - 1).bind λAh=>(gI (sI Ac Aa<|sI Ad (w64<|Ab - 1) Ae) Aa).bind λAf=>(gI Af Ab).bind λAi=>some (.inl (w64<|Aa + 1,sI (sI Ac Aa<|sI Ad (w64<|Ab - 1) Ae) Aa<|sI Af Ab Ah)) else some<|.inr Ac
noncomputable def AX7 (fuel:Nat) (Ad Aa:Int) (Ab Ac:LiI):Option ((Int × LiI × LiI) ⊕ (LiI × LiI)):=
 if Aa < 2 then if Aa=0 then (iter (λs=>Ab0 fuel Ad Ab s.1 s.2) fuel (0,Ab)).bind (λ(Ae:LiI)=>some<|.inl (w64<|Aa + 1,Ae,Ac)) else if Aa=1 then (iter (λs=>Ab1 fuel Ad Ac s.1 s.2) fuel (0,Ac)).bind (λ(Af:LiI)=>some<|.inl (w64<|Aa + 1,Ab,Af)) else none else some<|.inr (Ab,Ac)
noncomputable def AZu (fuel:Nat) (Ad Aa:Int) (Ab Ac:LiI):Option ((Int × LiI × LiI) ⊕ (LiI × LiI)):=
 if Ad < Aa then (((gI Ab Aa).bind λAe=>(gI Ab<|w64<|Aa - 1).bind λAf=>(iter (λs=>AX7 fuel Aa s.1 s.2.1 s.2.2) fuel (0,sI (sI Ab (w64<|Aa - 1) Ae) Aa Af,Ac)).bind (λ((Ag,Ah):LiI × LiI)=>some (Ag,Ah))):Option (LiI × LiI)).bind λ(Ai,Aj)=>some (.inl (w64<|Aa - 1,Ai,Aj)) else some<|.inr (Ab,Ac)
noncomputable def Ab2 (fuel:Nat) (Ab:Int) (Ag:LiI) (Aa:Int) (Ac:LiI):Option ((Int × LiI) ⊕ LiI):=
 if Aa < (Ag.length:Int) then (gI Ac Aa).bind λAd=>(gI Ad Ab).bind λAe=>(gI Ad<|w64<|Ab - 1).bind λAh=>(gI (sI Ac Aa<|sI Ad (w64<|Ab - 1) Ae) Aa).bind λAf=>(gI Af Ab).bind λAi=>some (.inl (w64<|Aa + 1,sI (sI Ac Aa<|sI Ad (w64<|Ab - 1) Ae) Aa<|sI Af Ab Ah)) else some<|.inr Ac
noncomputable def Ab3 (fuel:Nat) (Ab:Int) (Ag:LiI) (Aa:Int) (Ac:LiI):Option ((Int × LiI) ⊕ LiI):=
 if Aa < (Ag.length:Int) then (gI Ac Aa).bind λAd=>(gI Ad Ab).bind λAe=>(gI Ad<|w64<|Ab - 1).bind λAh=>(gI (sI Ac Aa<|sI Ad (w64<|Ab - 1) Ae) Aa).bind λAf=>(gI Af Ab).bind λAi=>some (.inl (w64<|Aa + 1,sI (sI Ac Aa<|sI Ad (w64<|Ab - 1) Ae) Aa<|sI Af Ab Ah)) else some<|.inr Ac
noncomputable def AX8 (fuel:Nat) (Ad Aa:Int) (Ab Ac:LiI):Option ((Int × LiI × LiI) ⊕ (LiI × LiI)):=
 if Aa < 2 then if Aa=0 then (iter (λs=>Ab2 fuel Ad Ab s.1 s.2) fuel (0,Ab)).bind (λ(Ae:LiI)=>some<|.inl (w64<|Aa + 1,Ae,Ac)) else if Aa=1 then (iter (λs=>Ab3 fuel Ad Ac s.1 s.2) fuel (0,Ac)).bind (λ(Af:LiI)=>some<|.inl (w64<|Aa + 1,Ab,Af)) else none else some<|.inr (Ab,Ac)
noncomputable def AZv (fuel:Nat) (Ad Aa:Int) (Ab Ac:LiI):Option ((Int × LiI × LiI) ⊕ (LiI × LiI)):=
 if Ad < Aa then (((gI Ab Aa).bind λAe=>(gI Ab<|w64<|Aa - 1).bind λAf=>(iter (λs=>AX8 fuel Aa s.1 s.2.1 s.2.2) fuel (0,sI (sI Ab (w64<|Aa - 1) Ae) Aa Af,Ac)).bind (λ((Ag,Ah):LiI × LiI)=>some (Ag,Ah))):Option (LiI × LiI)).bind λ(Ai,Aj)=>some (.inl (w64<|Aa - 1,Ai,Aj)) else some<|.inr (Ab,Ac)
noncomputable def Ab4 (fuel:Nat) (Ab:Int) (Ag:LiI) (Aa:Int) (Ac:LiI):Option ((Int × LiI) ⊕ LiI):=
 if Aa < (Ag.length:Int) then (gI Ac Aa).bind λAd=>(gI Ad Ab).bind λAe=>(gI Ad<|w64<|Ab - 1).bind λAh=>(gI (sI Ac Aa<|sI Ad (w64<|Ab - 1) Ae) Aa).bind λAf=>(gI Af Ab).bind λAi=>some (.inl (w64<|Aa + 1,sI (sI Ac Aa<|sI Ad (w64<|Ab - 1) Ae) Aa<|sI Af Ab Ah)) else some<|.inr Ac
noncomputable def Ab5 (fuel:Nat) (Ab:Int) (Ag:LiI) (Aa:Int) (Ac:LiI):Option ((Int × LiI) ⊕ LiI):=
 if Aa < (Ag.length:Int) then (gI Ac Aa).bind λAd=>(gI Ad Ab).bind λAe=>(gI Ad<|w64<|Ab - 1).bind λAh=>(gI (sI Ac Aa<|sI Ad (w64<|Ab - 1) Ae) Aa).bind λAf=>(gI Af Ab).bind λAi=>some (.inl (w64<|Aa + 1,sI (sI Ac Aa<|sI Ad (w64<|Ab - 1) Ae) Aa<|sI Af Ab Ah)) else some<|.inr Ac
noncomputable def AX9 (fuel:Nat) (Ad Aa:Int) (Ab Ac:LiI):Option ((Int × LiI × LiI) ⊕ (LiI × LiI)):=
 if Aa < 2 then if Aa=0 then (iter (λs=>Ab4 fuel Ad Ab s.1 s.2) fuel (0,Ab)).bind (λ(Ae:LiI)=>some<|.inl (w64<|Aa + 1,Ae,Ac)) else if Aa=1 then (iter (λs=>Ab5 fuel Ad Ac s.1 s.2) fuel (0,Ac)).bind (λ(Af:LiI)=>some<|.inl (w64<|Aa + 1,Ab,Af)) else none else some<|.inr (Ab,Ac)
noncomputable def AZw (fuel:Nat) (Ad Aa:Int) (Ab Ac:LiI):Option ((Int × LiI × LiI) ⊕ (LiI × LiI)):=
 if Ad < Aa then (((gI Ab Aa).bind λAe=>(gI Ab<|w64<|Aa - 1).bind λAf=>(iter (λs=>AX9 fuel Aa s.1 s.2.1 s.2.2) fuel (0,sI (sI Ab (w64<|Aa - 1) Ae) Aa Af,Ac)).bind (λ((Ag,Ah):LiI × LiI)=>some (Ag,Ah))):Option (LiI × LiI)).bind λ(Ai,Aj)=>some (.inl (w64<|Aa - 1,Ai,Aj)) else some<|.inr (Ab,Ac)
noncomputable def Ab6 (fuel:Nat) (Ab Af Ae Ag:Int) (Ah:LiI) (Aa:Int) (Ac:LiI):Option ((Int × LiI) ⊕ LiI):=
 if Aa < (Ah.length:Int) then (gI Ac Aa).bind λAd=>(gI Ad Ae).bind λAi=>(gI Ad Af).bind λAj=>((if 0<=Ab/\Ab<=64 then some (Aaz .and .i64 (w64<|Ai + w64 (Ag * Aj))<|w64<|w64 (1 * 2 ^ Int.toNat Ab) - 1) else none):Option Int).bind λAk=>some (.inl (w64<|Aa + 1,sI Ac Aa<|sI Ad Ae Ak)) else some<|.inr Ac
noncomputable def Ab7 (fuel:Nat) (Ab Af Ae Ag:Int) (Ah:LiI) (Aa:Int) (Ac:LiI):Option ((Int × LiI) ⊕ LiI):=
 if Aa < (Ah.length:Int) then (gI Ac Aa).bind λAd=>(gI Ad Ae).bind λAi=>(gI Ad Af).bind λAj=>((if 0<=Ab/\Ab<=64 then some (Aaz .and .i64 (w64<|Ai + w64 (Ag * Aj))<|w64<|w64 (1 * 2 ^ Int.toNat Ab) - 1) else none):Option Int).bind λAk=>some (.inl (w64<|Aa + 1,sI Ac Aa<|sI Ad Ae Ak)) else some<|.inr Ac
noncomputable def Ab8 (fuel:Nat) (Ac Af Ad Ag:Int) (Ah:LiA) (Aa:Int) (Ab:LiI):Option ((Int × LiI) ⊕ LiI):=
 if Aa < (Ah.length:Int) then (gI Ab Af).bind λAi=>(gI Ai Aa).bind λAj=>(gI Ab Ad).bind λAe=>(gI Ae Aa).bind λAk=>((if 0<=Ac/\Ac<=64 then some (Aaz .and .i64 (w64<|Ak + w64 (Ag * Aj))<|w64<|w64 (1 * 2 ^ Int.toNat Ac) - 1) else none):Option Int).bind λAm=>some (.inl (w64<|Aa + 1,sI Ab Ad<|sI Ae Aa Am)) else some<|.inr Ab
noncomputable def AYa (fuel:Nat) (Ad Ae Af Ag Aa:Int) (Ab Ac:LiI):Option ((Int × LiI × LiI) ⊕ (LiI × LiI)):=
 if Aa < 2 then if Aa=0 then (iter (λs=>Ab6 fuel Ad Ae Af Ag Ab s.1 s.2) fuel (0,Ab)).bind (λ(Ah:LiI)=>some<|.inl (w64<|Aa + 1,Ah,Ac)) else if Aa=1 then (iter (λs=>Ab7 fuel Ad Ae Af Ag Ac s.1 s.2) fuel (0,Ac)).bind (λ(Ai:LiI)=>some<|.inl (w64<|Aa + 1,Ab,Ai)) else none else some<|.inr (Ab,Ac)
noncomputable def Ab9 (fuel:Nat) (Aa Ac Ae Ai Ab:Int) (Ad Af:LiI):Option ((Int × LiI × LiI) ⊕ (LiI × LiI)):=
 if Ab < (Ad.length:Int) then (gI Ad Ac).bind λAj=>(gI Aj Ab).bind λAk=>if 0<=Ae/\Ae<=64 then ((if 0<=Aa/\Aa<=64 then some (Aaz .and .i64 (w64<|w64 (0 - (Ak / 2 ^ Int.toNat Ae)) * Ai)<|w64<|w64 (1 * 2 ^ Int.toNat Aa) - 1) else none):Option Int).bind λAg=>(((iter (λs=>AYa fuel Aa Ac Ab Ag s.1 s.2.1 s.2.2) fuel (0,Ad,Af)).bind (λ((Ah,Am):LiI × LiI)=>(gI Ah Ac).bind λAo=>(iter (λs=>Ab8 fuel Aa Ac Ab Ag Ao s.1 s.2) fuel (0,Ah)).bind (λ(Ap:LiI)=>some (Ap,Am)))):Option (LiI × LiI)).bind λ(Aq,Ar)=>some (.inl (w64<|Ab + 1,Aq,Ar)) else none else some<|.inr (Ad,Af)
noncomputable def Aca (fuel:Nat) (Ab Af Ae Ag:Int) (Ah:LiI) (Aa:Int) (Ac:LiI):Option ((Int × LiI) ⊕ LiI):=
 if Aa < (Ah.length:Int) then (gI Ac Aa).bind λAd=>(gI Ad Ae).bind λAi=>(gI Ad Af).bind λAj=>((if 0<=Ab/\Ab<=64 then some (Aaz .and .i64 (w64<|Ai + w64 (Ag * Aj))<|w64<|w64 (1 * 2 ^ Int.toNat Ab) - 1) else none):Option Int).bind λAk=>some (.inl (w64<|Aa + 1,sI Ac Aa<|sI Ad Ae Ak)) else some<|.inr Ac
noncomputable def Acb (fuel:Nat) (Ab Af Ae Ag:Int) (Ah:LiI) (Aa:Int) (Ac:LiI):Option ((Int × LiI) ⊕ LiI):=
 if Aa < (Ah.length:Int) then (gI Ac Aa).bind λAd=>(gI Ad Ae).bind λAi=>(gI Ad Af).bind λAj=>((if 0<=Ab/\Ab<=64 then some (Aaz .and .i64 (w64<|Ai + w64 (Ag * Aj))<|w64<|w64 (1 * 2 ^ Int.toNat Ab) - 1) else none):Option Int).bind λAk=>some (.inl (w64<|Aa + 1,sI Ac Aa<|sI Ad Ae Ak)) else some<|.inr Ac
noncomputable def Acd (fuel:Nat) (Ac Af Ad Ag:Int) (Ah:LiA) (Aa:Int) (Ab:LiI):Option ((Int × LiI) ⊕ LiI):=
 if Aa < (Ah.length:Int) then (gI Ab Af).bind λAi=>(gI Ai Aa).bind λAj=>(gI Ab Ad).bind λAe=>(gI Ae Aa).bind λAk=>((if 0<=Ac/\Ac<=64 then some (Aaz .and .i64 (w64<|Ak + w64 (Ag * Aj))<|w64<|w64 (1 * 2 ^ Int.toNat Ac) - 1) else none):Option Int).bind λAm=>some (.inl (w64<|Aa + 1,sI Ab Ad<|sI Ae Aa Am)) else some<|.inr Ab
noncomputable def AYb (fuel:Nat) (Ad Ae Af Ag Aa:Int) (Ab Ac:LiI):Option ((Int × LiI × LiI) ⊕ (LiI × LiI)):=
 if Aa < 2 then if Aa=0 then (iter (λs=>Aca fuel Ad Ae Af Ag Ab s.1 s.2) fuel (0,Ab)).bind (λ(Ah:LiI)=>some<|.inl (w64<|Aa + 1,Ah,Ac)) else if Aa=1 then (iter (λs=>Acb fuel Ad Ae Af Ag Ac s.1 s.2) fuel (0,Ac)).bind (λ(Ai:LiI)=>some<|.inl (w64<|Aa + 1,Ab,Ai)) else none else some<|.inr (Ab,Ac)
noncomputable def Ace (fuel:Nat) (Ab Af Ae Ag:Int) (Ah:LiI) (Aa:Int) (Ac:LiI):Option ((Int × LiI) ⊕ LiI):=
 if Aa < (Ah.length:Int) then (gI Ac Aa).bind λAd=>(gI Ad Ae).bind λAi=>(gI Ad<|w64<|Af + 1).bind λAj=>((if 0<=Ab/\Ab<=64 then some (Aaz .and .i64 (w64<|Ai + w64 (Ag * Aj))<|w64<|w64 (1 * 2 ^ Int.toNat Ab) - 1) else none):Option Int).bind λAk=>some (.inl (w64<|Aa + 1,sI Ac Aa<|sI Ad Ae Ak)) else some<|.inr Ac
noncomputable def Acf (fuel:Nat) (Ab Af Ae Ag:Int) (Ah:LiI) (Aa:Int) (Ac:LiI):Option ((Int × LiI) ⊕ LiI):=
 if Aa < (Ah.length:Int) then (gI Ac Aa).bind λAd=>(gI Ad Ae).bind λAi=>(gI Ad<|w64<|Af + 1).bind λAj=>((if 0<=Ab/\Ab<=64 then some (Aaz .and .i64 (w64<|Ai + w64 (Ag * Aj))<|w64<|w64 (1 * 2 ^ Int.toNat Ab) - 1) else none):Option Int).bind λAk=>some (.inl (w64<|Aa + 1,sI Ac Aa<|sI Ad Ae Ak)) else some<|.inr Ac
noncomputable def Acg (fuel:Nat) (Ac Af Ad Ag:Int) (Ah:LiA) (Aa:Int) (Ab:LiI):Option ((Int × LiI) ⊕ LiI):=
 if Aa < (Ah.length:Int) then (gI Ab<|w64<|Af + 1).bind λAi=>(gI Ai Aa).bind λAj=>(gI Ab Ad).bind λAe=>(gI Ae Aa).bind λAk=>((if 0<=Ac/\Ac<=64 then some (Aaz .and .i64 (w64<|Ak + w64 (Ag * Aj))<|w64<|w64 (1 * 2 ^ Int.toNat Ac) - 1) else none):Option Int).bind λAm=>some (.inl (w64<|Aa + 1,sI Ab Ad<|sI Ae Aa Am)) else some<|.inr Ab
noncomputable def AYc (fuel:Nat) (Ad Ae Af Ag Aa:Int) (Ab Ac:LiI):Option ((Int × LiI × LiI) ⊕ (LiI × LiI)):=
 if Aa < 2 then if Aa=0 then (iter (λs=>Ace fuel Ad Ae Af Ag Ab s.1 s.2) fuel (0,Ab)).bind (λ(Ah:LiI)=>some<|.inl (w64<|Aa + 1,Ah,Ac)) else if Aa=1 then (iter (λs=>Acf fuel Ad Ae Af Ag Ac s.1 s.2) fuel (0,Ac)).bind (λ(Ai:LiI)=>some<|.inl (w64<|Aa + 1,Ab,Ai)) else none else some<|.inr (Ab,Ac)
noncomputable def Ach (fuel:Nat) (Aa Ac Ab Aq Af Ar Ag Ad:Int) (Ae Ah:LiI):Option ((Int × LiI × LiI) ⊕ (LiI × LiI)):=
 if Ad < (Ae.length:Int) then (gI Ae Ac).bind λAu=>(gI Au Ad).bind λAi=>if 0<=Ab/\Ab<=64 then (gI Ae<|w64<|Ac + 1).bind λAv=>(gI Av Ad).bind λAj=>if 0<=Ab/\Ab<=64 then ((if 0<=Aa/\Aa<=64 then some (Aaz .and .i64 (w64<|w64 ((Af / 2 ^ Int.toNat Ab) * (Aj / 2 ^ Int.toNat Ab)) - w64 ((Ar / 2 ^ Int.toNat Ab) * (Ai / 2 ^ Int.toNat Ab)))<|w64<|w64 (1 * 2 ^ Int.toNat Aa) - 1) else none):Option Int).bind λAw=>((if 0<=Aa/\Aa<=64 then some (Aaz .and .i64 (w64<|w64 ((Af / 2 ^ Int.toNat Ab) * (Ai / 2 ^ Int.toNat Ab)) - w64 ((Aq / 2 ^ Int.toNat Ab) * (Aj / 2 ^ Int.toNat Ab)))<|w64<|w64 (1 * 2 ^ Int.toNat Aa) - 1) else none):Option Int).bind λAx=>((if 0<=Aa/\Aa<=64 then some (Aaz .and .i64 (w64<|Aw * Ag)<|w64<|w64 (1 * 2 ^ Int.toNat Aa) - 1) else none):Option Int).bind λAk=>(((iter (λs=>AYb fuel Aa Ac Ad Ak s.1 s.2.1 s.2.2) fuel (0,Ae,Ah)).bind (λ((Am,Ay):LiI × LiI)=>(gI Am Ac).bind λAz=>(iter (λs=>Acd fuel Aa Ac Ad Ak Az s.1 s.2) fuel (0,Am)).bind (λ(A3:LiI)=>some (A3,Ay)))):Option (LiI × LiI)).bind λ(A4,A5)=>((if 0<=Aa/\Aa<=64 then some (Aaz .and .i64 (w64<|Ax * Ag)<|w64<|w64 (1 * 2 ^ Int.toNat Aa) - 1) else none):Option Int).bind λAo=>(((iter (λs=>AYc fuel Aa Ac Ad Ao s.1 s.2.1 s.2.2) fuel (0,A4,A5)).bind (λ((Ap,A6):LiI × LiI)=>(gI Ap<|w64<|Ac + 1).bind λA7=>(iter (λs=>Acg fuel Aa Ac Ad Ao A7 s.1 s.2) fuel (0,Ap)).bind (λ(A8:LiI)=>some (A8,A6)))):Option (LiI × LiI)).bind λ(A9,Ba)=>some (.inl (w64<|Ad + 1,A9,Ba)) else none else none else some<|.inr (Ae,Ah)
noncomputable def AW9 (fuel:Nat) (a3:LiI) (Ac Ab:Int) (Ae Ah:LiI) (Ai:List AWq):Option ((Int × LiI × LiI × List AWq) ⊕ (LiI × LiI × List AWq)):=
 if Ab < (a3.length:Int) then (((((iter (λs=>Ada fuel Ac Ab Ae s.1 s.2.1 s.2.2.1 s.2.2.2) fuel (Ab,Ab,Ac,0)).bind (λ((Av,Aw,Ax):Int × Int × Int)=>some (Av,Aw,Ax))):Option (Int × Int × Int)).bind λ(Aj,Ao,Aa)=>((if Aj < Ao then (((iter (λs=>AZu fuel Ab s.1 s.2.1 s.2.2) fuel (Ao,Ae,Ah)).bind (λ((Ay,Az):LiI × LiI)=>some (Ay,Az))):Option (LiI × LiI)).bind λ(A3,A4)=>(((iter (λs=>AZv fuel Ab s.1 s.2.1 s.2.2) fuel (w64<|Aj + 1,A3,A4)).bind (λ((A5,A6):LiI × LiI)=>some (A5,A6))):Option (LiI × LiI)).bind λ(A7,A8)=>some (A7,A8,2) else (((iter (λs=>AZw fuel Ab s.1 s.2.1 s.2.2) fuel (Aj,Ae,Ah)).bind (λ((A9,Ba):LiI × LiI)=>some (A9,Ba))):Option (LiI × LiI)).bind λ(Bb,Bc)=>some (Bb,Bc,1)):Option (LiI × LiI × Int)).bind (λ((Af,Ap,Ak):LiI × LiI × Int)=>(gI Af Ab).bind λAq=>(gI Aq Ab).bind λAd=>if 0<=Aa/\Aa<=64 then if Ak=1 then ((if 0<=Ac/\Ac<=64 then (Aa5 fuel ([([(Ad / 2 ^ Int.toNat Aa)]:List Int)]:List LiA)<|w64<|1 * 2 ^ Int.toNat Ac).bind λ(Be,B6)=>(gI Be 0).bind λBf=>(gI Bf 0).bind λBg=>some Bg else none):Option Int).bind λBh=>(((iter (λs=>Ab9 fuel Ac Ab Aa Bh s.1 s.2.1 s.2.2) fuel (w64<|Ab + 1,Af,Ap)).bind (λ((Bi,Bj):LiI × LiI)=>some (Bi,Bj))):Option (LiI × LiI)).bind λ(Bl,Bm)=>some (Aa,Ak,Ad / 2 ^ Int.toNat Aa,0,0,Bl,Bm) else (gI Aq<|w64<|Ab + 1).bind λAg=>if 0<=Aa/\Aa<=64 then (gI Af<|w64<|Ab + 1).bind λBn=>(gI Bn<|w64<|Ab + 1).bind λAm=>if 0<=Aa/\Aa<=64 then ((((if 0<=Ac/\Ac<=64 then some (Aaz .and .i64 (w64<|w64 ((Ad / 2 ^ Int.toNat Aa) * (Am / 2 ^ Int.toNat Aa)) - w64 ((Ag / 2 ^ Int.toNat Aa) * (Ag / 2 ^ Int.toNat Aa)))<|w64<|w64 (1 * 2 ^ Int.toNat Ac) - 1) else none):Option Int).bind λBo=>((if 0<=Ac/\Ac<=64 then (Aa5 fuel ([([Bo]:List Int)]:List LiA)<|w64<|1 * 2 ^ Int.toNat Ac).bind λ(Bp,B7)=>(gI Bp 0).bind λBq=>(gI Bq 0).bind λBr=>some Br else none):Option Int).bind λBt=>(iter (λs=>Ach fuel Ac Ab Aa Ad Ag Am Bt s.1 s.2.1 s.2.2) fuel (w64<|Ab + 2,Af,Ap)).bind (λ((Bu,Bv):LiI × LiI)=>some (Bu,Bv))):Option (LiI × LiI)).bind λ(Bw,Bx)=>some (Aa,Ak,Ad / 2 ^ Int.toNat Aa,Ag / 2 ^ Int.toNat Aa,Am / 2 ^ Int.toNat Aa,Bw,Bx) else none else none else none)):Option (Int × Int × Int × Int × Int × LiI × LiI)).bind λ(By,Ar,Bz,B1,B3,B4,B5)=>if Ai.length<=100000000 then some (.inl (w64<|Ab + Ar,B4,B5,Ai ++ [(By,Ar,Bz,B1,B3)])) else none else some<|.inr (Ae,Ah,Ai)
noncomputable def Adb (fuel:Nat) (a3:LiI) (Aa:Int) (Ac:LiI):Option ((Int × LiI) ⊕ LiI):=
 if Aa < (a3.length:Int) then if 0<=(a3.length:Int)/\(a3.length:Int)<=100000000 then if Ac.length<=100000000 then (gI (Ac ++ [List.replicate (Int.toNat (a3.length:Int)) (0:Int)]) Aa).bind λAd=>(gI Ad Aa).bind λAe=>some (.inl (w64<|Aa + 1,sI (Ac ++ [List.replicate (Int.toNat (a3.length:Int)) (0:Int)]) Aa<|sI Ad Aa 1)) else none else none else some<|.inr Ac
noncomputable def AWb (fuel:Nat) (a3:LiI):Option ((Int × LiI × List AWq) × Int):=
 (AVl fuel a3 2).bind λ(Ab,Ac)=>if ¬ Ac=0 then some ((0,[],[]),Ac) else if 0<=Ab/\Ab<=64 then (Acw fuel a3<|w64<|1 * 2 ^ Int.toNat Ab).bind λ(Ad,Ah)=>(iter (λs=>Adb fuel a3 s.1 s.2) fuel (0,[])).bind (λ(Ae:LiI)=>(iter (λs=>AW9 fuel a3 Ab s.1 s.2.1 s.2.2.1 s.2.2.2) fuel (0,Ad,Ae,[])).bind (λ((Ai,Af,Ag):LiI × LiI × List AWq)=>some ((2,Af,Ag),0))) else none
theorem Ai8 {h:AGz} {If:Value} {a3:LiI} {r:((Int × LiI × (List AWq)) × Int)} (H2:AV4 (cI .i64) h If a3) (HO:Ap0 h) (hp:AWb fuel a3=some r):ATz Tryz.prog 25 #[If] h (λx h'=>Ext h h'/\ ∃ (Ii:Value) (Ij:Value) (Ik:List Nat) (Lr:List LnA) (Lv:List Value) (Il:List Nat),x= .tuple #[.agg #[.int .i64 r.1.1,Ii,Ij],.int .i64 r.2]/\AV8 (cI .i64) 61 2 h' Ik Lr Lv Ii r.1.2.1/\OwC Ah5 60 h' Il Ij r.1.2.2/\Sp h' h.size [Ik,Il]):=by
 unfold AWb at hp;refine cwf (l:=[_]) Tryz.func25 rfl rfl (AGq<|AV6 (Kst.k0 h) [(.int .i64 0),(.slice none 0 0),(.slice none 0 0)] Aub λb5 h6 E8 Ds=>AT2<|AGm ?_);obtain ⟨⟨Ag,x13⟩,Lw,Dt⟩:=AGr hp;dsimp only at Dt;refine AVs Ds (Ai7 (H2.ext Ds.x) (HO.ext Ds.x) Lw) λh17 E16 Du=>AGm<|AUk rfl rfl (AUk rfl rfl (ATs<|AGx<|AGs<|AGq<|AGm<|AVz rfl rfl (AGu<|⟨_,rfl,λDv=>?_,λDv=>?_⟩)))
 ·refine AGq<|AXa (v:=(.agg #[(.int .i64 0),(.slice none 0 0),(.slice none 0 0)])) (λ_=>by kernel_rfl)<|AGm<|AVa [(.int .i64 0),(.slice none 0 0),(.slice none 0 0)] Aev rfl rfl rfl rfl (by simp [isOne]) (Du.b p0) λh23 Lx Ly=>AGx<|AG1<|ATd ?_;have B5:=Kst.anil Ah5 60<|Kst.anil2 (cI .i64) 61 2<|Du.sb p0 Ly Lx rfl;obtain rfl:=AGo<|AT4 Dt Dv;exact ⟨_,Ani Aev rfl rfl (B5.b p2),B5.x,_,_,_,_,_,_,rfl,(B5.o2 p1),(B5.o p0),B5.s.sel [1,0] AGn⟩
 ·refine AG0<|q_t<|AGq<|AGm<|AXa (v:=(.agg #[(.int .i64 Ag),(.slice none 0 0),(.slice none 0 0)])) (λ_=>by kernel_rfl)<|AY3 Du [(.int .i64 Ag),(.slice none 0 0),(.slice none 0 0)] λLz h35 E37 Im=>AT2<|AGm<|AGm<|AGm ?_;obtain ⟨L9,Ma⟩:=ifN<|AT5 Dt Dv;refine Aah rfl rfl L9 ?_;obtain ⟨⟨Mb,x44⟩,Mc,Io⟩:=AGr Ma;dsimp only at Io;refine Agw rfl (Aog (H2.ext Im.x) Mc) λAGv h48 Md Me=>?_;obtain ⟨Ab,Mf,Mg,Mh,rfl,Mi,Mj⟩:=Me;refine AGm<|AUk rfl rfl (AUk rfl rfl (AU2 rfl (AVd AVr rfl ?_)));have Dw:=Im.no2 Md Mj Mi;refine Ai5 [(.int .i64 Ag),Ab,(.slice none 0 0)] AU5 rfl rfl (Dw.o2 p0).isOne (Dw.b p1) (Nat.le_of_ble_eq_true rfl) rfl λh60 Mk Ml=>AGu<|AGs<|AGq<|AGm<|AT3 ATb rfl H2 (AGm<|AGu<|AGt ?_);have Ip:=Kst.anil2 (cI .i64) 61 2<|Dw.sb p1 Ml Mk rfl;refine AXv 1152921470247108736 (λx:(Int) × (LiI) × (Value) × LnA × LnN × LvA=>(x.1,x.2.1)) ((0,[],(.slice none 0 0),[],[],[]):(Int) × (LiI) × (Value) × LnA × LnN × LvA) Io (λx=>[(35,(.int .i64 x.1))]) (λx=>(Ip.L.set 0<|aO2 (cI .i64) 61 2 x.2.2.2.1 x.2.2.2.2.1 x.2.2.2.2.2 x.2.2.1 x.2.1).set 2 (aB 94 Lz [(.int .i64 Ag),Ab,x.2.2.1])) Ip ⟨rfl,trivial⟩ ?_;rintro ⟨Mm,Mo,Ac,Ad,Ae,Af⟩ AGy Dx y70 B6 Dy Mq;unfold Adb at Dy;refine AGq<|ATp rfl rfl (AGu<|AGs<|⟨_,rfl,λDz=>?_,λDz=>?_⟩)
  ·refine AG0<|q_t<|AGs<|AGt<|AGq<|AGm<|AGx<|AGs<|AVn (λh'=>UpT (Ad ++ []) Dx h') AG2 ?_;have Co:UpT (Ad ++ []) Dx Dx:=UpT.start<|AV9 (B6.o2 p0).notD all_nil;refine AGm<|AGm<|AU2 rfl (AVd Ajq rfl (AVg AU5 rfl Co (λh' hb=>((B6.b p2).upT hb (A7a (B6.dj p2 p0 AGn) A7b)).cell (i:=2) rfl) (AGm<|AT3 ATb rfl H2 ?_)));obtain ⟨Mr,Ms⟩:=ifN<|AT4 Dy Dz;refine Ajb (c:=(cI .i64)) (a:=0) ATa Abm rfl rfl (λ_=>rfl) rfl Co (λ_ E=>Co.thenE E) rfl rfl AGn Mr λb92 v91 h89 Mt Iq Mu Mv=>?_;have Ir:=Co.thenE Iq;have Cp:=B6.no Iq (AYh Mu Mv) Mt;obtain ⟨Mw,Mx⟩:=ifN Ms;refine Aq9 ATb Aet rfl rfl Ir (λ_ U=>Ir.then U<|Ahi rfl) (λ_=>rfl) rfl (Cp.o p0) (Cp.o2 p1) (Cp.dj p0 p1 AGn) AGn Mw λAG3 AG4 My AG5 Mz M0 M2=>AU2 rfl (AVd Ajq rfl ?_);have D0:=Cp.m2 p0 p1 AGn M0 Mz M2;refine Ai5 [(.int .i64 Ag),Ab,My] AU5 rfl rfl (D0.o2 p1).isOne (D0.b p3) (Nat.le_of_ble_eq_true rfl) rfl λAG6 M3 M4=>AGu<|AS8 ?_;have D1:=D0.sb p3 M4 M3 rfl;refine AGm<|AU2 rfl (AUs Ajq AU5 (D1.b p3) 2 rfl (AGm ?_));obtain ⟨AG7,Is,M5⟩:=AGr Mx;refine AUo ATb ATq (D1.o2 p1) Is λ_ AG8 M6=>AGm ?_;obtain ⟨AG9,M7,M8⟩:=AGr M5;refine AZ0 (m:=Mm) D1 p1 ATa ATg M6 Is M7 (λ_=>rfl) λ_ AHa M9=>ATu<|q_b<|q_t<|AS8<|ATn rfl rfl (AGm<|AGu ?_);exact ⟨(_,_,_,_,_,_),(AGo M8).symm,M9.sel [1,2,3,4] AGn,rfl,trivial⟩
  ·refine ATh<|ATi<|ATi<|AUf<|q_t<|AGq<|AXa (v:=(.agg #[(.int .i64 2),(.slice none 0 0),(.slice none 0 0)])) (λ_=>by kernel_rfl)<|AV6 B6 [(.int .i64 0),(.slice none 0 0),(.slice none 0 0)] Aub λNa AHb AHc It=>AVa [(.int .i64 2),(.slice none 0 0),(.slice none 0 0)] Aev rfl rfl rfl rfl (by simp [isOne]) (It.b p0) λAHd Nb Nc=>AGu<|AGs<|AGq<|AGx<|AGt ?_;have Iu:=Kst.anil Ah5 60<|It.sb p0 Nc Nb rfl;refine AXv 302229149060648079984128 (λx:(Int) × (LiI) × LnA × LnN × LvA × (LiI) × ((List AWq)) × (Value) × LnA=>(x.1,x.2.1,x.2.2.2.2.2.1,x.2.2.2.2.2.2.1)) ((0,Mb,Mf,Mg,Mh,Mo,[],(.slice none 0 0),[]):(Int) × (LiI) × LnA × LnN × LvA × (LiI) × ((List AWq)) × (Value) × LnA) (Mq _ (AGo<|AT5 Dy Dz).symm) (λx=>[(9,(.int .i64 x.1))]) (λx=>(((Iu.L.set 3<|aO2 (cI .i64) 61 2 x.2.2.1 x.2.2.2.1 x.2.2.2.2.1 Ab x.2.1).set 2 (aO2 (cI .i64) 61 2 Ad Ae Af Ac x.2.2.2.2.2.1)).set 0 (aO Ah5 60 x.2.2.2.2.2.2.2.2 x.2.2.2.2.2.2.2.1 x.2.2.2.2.2.2.1)).set 1 (aB 29 Na [(.int .i64 2),(.slice none 0 0),x.2.2.2.2.2.2.2.1])) Iu ⟨rfl,trivial⟩ ?_;rintro ⟨A5,Iv,Iw,Ix,Iy,Iz,AHe,D2,AHf⟩ AHg AHh AHi Bo D3 Nd;unfold AW9 at D3;refine AGs<|AGq<|AGm<|AGm<|AT3 ATb rfl H2 (ATp rfl rfl (AGu<|⟨_,rfl,λD4=>?_,λD4=>?_⟩))
   ·refine AG0<|q_t<|AGt<|AGq<|AGm<|AGm ?_;obtain ⟨Nf,Ng,Nh⟩:=AGr<|AT4 D3 D4;refine ATo (K':=(λxr h'=> ∃ x:(Int) × (Int) × (Int) × (Int) × (Int) × (LiI) × LnA × LnN × LvA × (LiI),(x.1,x.2.1,x.2.2.1,x.2.2.2.1,x.2.2.2.2.1,x.2.2.2.2.2.1,x.2.2.2.2.2.2.2.2.2)=Nf/\xr=(.agg #[(.int .i64 x.1),(.int .i64 x.2.1),(.int .i64 x.2.2.1),(.int .i64 x.2.2.2.1),(.int .i64 x.2.2.2.2.1)])/\Kst h h' ((Bo.L.set 3<|aO2 (cI .i64) 61 2 x.2.2.2.2.2.2.1 x.2.2.2.2.2.2.2.1 x.2.2.2.2.2.2.2.2.1 Ab x.2.2.2.2.2.1).set 2 (aO2 (cI .i64) 61 2 Ad Ae Af Ac x.2.2.2.2.2.2.2.2.2)))) trivial rfl ?_ λAHj AHk Ni=>?_
    ·refine cwf (l:=[_,_]) Tryz.func59 rfl rfl (AGq<|AV6 Bo [(.int .i64 0),(.int .i64 0),(.int .i64 0),(.int .i64 0),(.int .i64 0)] Ak2 λAHl AHm AHn Bp=>Aal<|AGm<|AGm ?_);obtain ⟨Nj,Nk,Nl⟩:=AGr Ng;refine ATo (K':=(λxr h'=> ∃ x:(Int) × (Int) × (Int),(x.1,x.2.1,x.2.2)=Nj/\xr= .tuple #[(.int .i64 x.1),(.int .i64 x.2.1),(.int .i64 x.2.2)]/\Kst h h' (Bp.L))) trivial rfl ?_ λAHo AHp Nm=>?_
     ·refine cwf (l:=[_,_]) Tryz.func110 rfl rfl (AGq<|ATs<|ATs<|AGx<|AGs<|AXi<|AGm<|AGm<|AGm<|AU2 rfl (AUs Aby AT9 (Bp.b p5) 0 rfl (ATs<|ATs<|AGx<|AGs<|AGq<|AGm<|AU2 rfl (AUs AVr AU5 (Bp.b p5) 1 rfl (AT3 ATb rfl (Bp.o2 p4).rd (AGm<|AVh rfl rfl (AGm<|AGu<|AGt ?_)))))));refine AYr 18446744073642450816 Nk (λx=>[(7,(.int .i64 x.1)),(8,(.int .i64 x.2.1)),(9,(.int .i64 x.2.2.1)),(26,(.int .i64 x.2.2.2))]) (λx=>Bp.L) Bp ⟨rfl,rfl,rfl,rfl,trivial⟩ ?_;rintro ⟨Nn,Np,Nq,Nr⟩ AHq AHr AHs D5 D6 Ns;unfold Ada at D6;refine AGq<|ATp rfl rfl (AGu<|AGs<|⟨_,rfl,λD7=>?_,λD7=>?_⟩)
      ·refine AG0<|q_t<|AGs<|AGt<|AGq<|AGm<|AT2<|AGm<|AGx<|AGt<|AYr 9223372035781041024 (AT4 D6 D7) (λx=>[(7,(.int .i64 x.1)),(8,(.int .i64 x.2.1)),(9,(.int .i64 x.2.2.1)),(11,(.int .i64 x.2.2.2))]) (λx=>D5.L) D5 ⟨rfl,rfl,rfl,rfl,trivial⟩ ?_;rintro ⟨Nt,Nu,Nv,D8⟩ AHt AHu AHv Ay D9 Nw;unfold Ac9 at D9;refine AGs<|AGq<|AGm<|AGm<|ATn rfl rfl (AGm<|AU2 rfl (AUs AVr AU5 (Ay.b p5) 1 rfl (AT3 ATb rfl (Ay.o2 p4).rd (ATp rfl rfl (AGu<|⟨_,rfl,λEa=>?_,λEa=>?_⟩)))))
       ·refine AG0<|q_t ?_;obtain ⟨Ny,Nz,N0⟩:=AGr<|AT4 D9 Ea;refine Aer 9223369837831525248 (λx:(Int) × (Int) × (Int)=>[(7,(.int .i64 x.1)),(8,(.int .i64 x.2.1)),(9,(.int .i64 x.2.2))]) (λx h'=>( (x.1,x.2.1,x.2.2))=Ny/\Kst h h' (Ay.L)) ?_ ?_
        ·refine AGt<|AGq<|AGm<|AGm<|AU2 rfl (AUs AVr AU5 (Ay.b p5) 1 rfl (AGm ?_));obtain ⟨AHw,I0,N3⟩:=AGr Nz;refine AUo ATb ATq (Ay.o2 p4) I0 λ_ AHx N4=>AGm<|AGm<|ATn rfl rfl ?_;obtain ⟨AHy,N5,N6⟩:=AGr N3;refine AW6 (m:=D8) ATa ATg (Ay.o2 p4) N4 I0 N5 λ_=>?_;obtain ⟨N7,N8,I1⟩:=AGr N6;refine ATo (K':=(λxr h'=> ∃ x:(Int),x=N7/\xr=(.int .i64 x)/\Kst h h' (Ay.L))) trivial rfl ?_ λAHz AH0 N9=>?_
         ·refine cwf (l:=[_,_]) Tryz.func164 rfl rfl (AGq<|AT2<|AGx<|AGs<|AGt<|AYr 2097120 N8 (λx=>[(5,(.int .i64 x))]) (λx=>Ay.L) Ay ⟨rfl,trivial⟩ ?_);rintro Eb AH1 AH2 AH3 B7 I2 I3;unfold Ac8 at I2;obtain ⟨Oa,I6,Ec⟩:=AGr I2;refine Aer 524224 (λx:Unit=>[]) (λx h'=>(Sum.inl <| ())=Oa/\Kst h h' (B7.L)) ?_ ?_
          ·refine AGq<|AGm<|AGm<|AU2 rfl (AUs Aby AT9 (B7.b p5) 0 rfl (ATp rfl rfl (AGm ?_)));by_cases Cq:Eb < Ag
           ·rw [decide_eq_true Cq];refine ATc 12 true<|AGm<|ATc 12 true<|AGm<|ATc 12 true ?_;obtain ⟨Ob,I7⟩:=ifN<|ifT I6 Cq;refine Aqj rfl rfl Ob (ATc 12 true<|Acp rfl rfl AGn (ATc 12 true<|AU0 rfl rfl (ATf rfl (AGu<|⟨_,rfl,λEd=>?_,λEd=>?_⟩))))
            ·refine AG0<|q_t ?_;exact ⟨(():Unit),⟨AGo<|AT4 I7 Ed,B7⟩,trivial⟩
            ·obtain rfl:=AGo<|AT5 I7 Ed;refine ATh<|ATi<|ATi<|AUf<|q_t<|AGq<|AGm<|AGx<|AG1<|⟨_,AS5,(Eb:(Int)),?_,rfl,?_⟩
             ·exact AGo<|I3 _ (AGo Ec).symm
             ·exact B7
           ·rw [decide_eq_false Cq];refine AY2 12 false<|AS6 rfl (AGu<|AT0 rfl ?_);obtain rfl:=AGo<|ifF I6 Cq;refine ATh<|ATi<|ATi<|AUf<|q_t<|AGq<|AGm<|AGx<|AG1<|⟨_,AS5,(Eb:(Int)),?_,rfl,?_⟩
            ·exact AGo<|I3 _ (AGo Ec).symm
            ·exact B7
          rintro ⟨⟩ AH4 AH5 ⟨Oc,Od⟩;subst Oc;refine AGt<|AS8<|AGm<|ATn rfl rfl (ATs<|ATu<|q_b<|q_t ?_);exact ⟨_,(AGo Ec).symm,Od,rfl,trivial⟩
         obtain ⟨Oe,Og,rfl,I9⟩:=N9;refine ⟨trivial,?_⟩;subst Og;refine AT2<|AGm<|AGm<|ATp rfl rfl (AGu<|⟨_,rfl,λEe=>?_,λEe=>?_⟩)
         ·refine AS8<|AGm<|AGm<|AGm<|ATn rfl rfl (AGm<|ATs<|ATs<|ATs<|ATu<|q_b<|q_t ?_);exact ⟨((D8,(w64<|D8 + Nr),Oe):(Int) × (Int) × (Int)),⟨AGo<|AT4 I1 Ee,I9⟩,rfl,rfl,rfl,trivial⟩
         ·refine AG0<|q_b<|q_t ?_;exact ⟨((Nt,Nu,Nv):(Int) × (Int) × (Int)),⟨AGo<|AT5 I1 Ee,I9⟩,rfl,rfl,rfl,trivial⟩
        rintro ⟨AH6,AH7,AH8⟩ AH9 AIa ⟨Oh,Oi⟩;subst Oh;refine AS8<|AGm<|ATn rfl rfl (AGx ?_);exact ⟨_,(AGo N0).symm,Oi,rfl,rfl,rfl,rfl,trivial⟩
       ·refine ATh<|ATi<|ATi<|AUf<|q_b<|q_t<|AS8<|ATn rfl rfl (AGm<|AGu ?_);exact ⟨_,(AGo<|Nw _ (AGo<|AT5 D9 Ea).symm).symm,Ay,rfl,rfl,rfl,rfl,trivial⟩
      ·refine ATh<|ATi<|ATi<|AUf<|q_t<|AGq<|AGm<|AGm<|AGm<|ATs<|ATs<|AGx<|AG1<|⟨_,Adh,((Nn,Np,Nq):(Int) × (Int) × (Int)),?_,rfl,?_⟩
       ·exact AGo<|Ns _ (AGo<|AT5 D6 D7).symm
       ·exact D5
     obtain ⟨⟨Ja,Oj,Aa⟩,Ol,rfl,Om⟩:=Nm;refine ⟨trivial,?_⟩;subst Ol;refine AGm<|AUk rfl rfl (AUk rfl rfl (AUk rfl rfl (ATs<|ATs<|AT2<|AGm<|AXa (v:=(.agg #[(.int .i64 Aa),(.int .i64 1),(.int .i64 0),(.int .i64 0),(.int .i64 0)])) (λ_=>by kernel_rfl)<|AV6 Om [(.int .i64 0),(.int .i64 0),(.int .i64 0),(.int .i64 0),(.int .i64 0)] Ak2 λOn AIb AIc Jc=>AVa [(.int .i64 Aa),(.int .i64 1),(.int .i64 0),(.int .i64 0),(.int .i64 0)] Aag rfl rfl rfl rfl (by simp [isOne]) (Jc.b p0) λAId Oo Oq=>AGu ?_)));have Bq:=Jc.sb p0 Oq Oo rfl;obtain ⟨Ot,Je,Ou⟩:=AGr Nl;refine Aer 8589672480 (λx:(LiI) × LnA × LnN × LvA × (LiI) × (Int)=>[]) (λx h'=>( (x.1,x.2.2.2.2.1,x.2.2.2.2.2))=Ot/\Kst h h' (((Bq.L.set 5<|aO2 (cI .i64) 61 2 x.2.1 x.2.2.1 x.2.2.2.1 Ab x.1).set 4 (aO2 (cI .i64) 61 2 Ad Ae Af Ac x.2.2.2.2.1)).set 0 (aB 60 On [(.int .i64 Aa),(.int .i64 x.2.2.2.2.2),(.int .i64 0),(.int .i64 0),(.int .i64 0)]))) ?_ ?_
     ·refine AGt<|AGs<|AGt<|AGs<|AGt<|AGs<|AGq<|AGm<|AGm<|ATp rfl rfl (AGx<|⟨_,rfl,λEf=>?_,λEf=>?_⟩)
      ·refine ATh<|ATi<|AUf<|q_t<|AGq<|AVd Ac0 rfl (Ai5 [(.int .i64 Aa),(.int .i64 2),(.int .i64 0),(.int .i64 0),(.int .i64 0)] AT9 rfl rfl rfl (Bq.b p0) (Nat.le_of_ble_eq_true rfl) rfl λAIe Ov Ow=>Aal<|AGm<|AGm<|AGm ?_);have Eg:=Bq.sb p0 Ow Ov rfl;obtain ⟨Ox,Oy,Oz⟩:=AGr<|AT4 Je Ef;refine ATo (K':=(λxr h'=> ∃ x:(LiI) × LnA × LnN × LvA × (LiI),(x.1,x.2.2.2.2)=Ox/\xr= .tuple #[]/\Kst h h' ((Eg.L.set 5<|aO2 (cI .i64) 61 2 x.2.1 x.2.2.1 x.2.2.2.1 Ab x.1).set 4 (aO2 (cI .i64) 61 2 Ad Ae Af Ac x.2.2.2.2)))) trivial rfl ?_ λAIf AIg O0=>?_
       ·refine cwf (l:=[_,_,_]) Tryz.func111 rfl rfl (AGt<|AXv 65474 (λx:(Int) × (LiI) × LnA × LnN × LvA × (LiI)=>(x.1,x.2.1,x.2.2.2.2.2)) ((Oj,Iv,Iw,Ix,Iy,Iz):(Int) × (LiI) × LnA × LnN × LvA × (LiI)) Oy (λx=>[(1,(.int .i64 x.1))]) (λx=>(Eg.L.set 5<|aO2 (cI .i64) 61 2 x.2.2.1 x.2.2.2.1 x.2.2.2.2.1 Ab x.2.1).set 4 (aO2 (cI .i64) 61 2 Ad Ae Af Ac x.2.2.2.2.2)) Eg ⟨rfl,trivial⟩ ?_);rintro ⟨AIh,O1,O2,O3,O4,O5⟩ AIi AIj AIk Az Eh O6;unfold AZu at Eh;refine AGs<|AGq<|AGm<|AGm<|AXr rfl rfl (AGu<|⟨_,rfl,λEi=>?_,λEi=>?_⟩)
        ·refine AG0<|q_t<|AGs<|AGt<|AS8<|AGm<|AGm<|AVh rfl rfl (AGm ?_);obtain ⟨O7,O8,O9⟩:=AGr<|AT4 Eh Ei;refine ATo (K':=(λxr h'=> ∃ x:(LiI) × LnA × LnN × LvA × (LiI),(x.1,x.2.2.2.2)=O7/\xr= .tuple #[]/\Kst h h' ((Az.L.set 5<|aO2 (cI .i64) 61 2 x.2.1 x.2.2.1 x.2.2.2.1 Ab x.1).set 4 (aO2 (cI .i64) 61 2 Ad Ae Af Ac x.2.2.2.2)))) trivial rfl ?_ λAIl AIm Pa=>?_
         ·refine cwf (l:=[_,_,_]) Tryz.func165 rfl rfl (AGs<|AXi<|AGm<|AU2 rfl (AUs AVr AU5 (Az.b p6) 1 rfl (AGm<|AGm<|AU2 rfl (AUs AVr AU5 (Az.b p6) 1 rfl (AGm<|AGm<|AU2 rfl (AUs AVr AU5 (Az.b p6) 1 rfl (AGm ?_)))))));obtain ⟨AIn,Jf,Pb⟩:=AGr O8;refine AUo ATb ATq (Az.o2 p5) Jf λ_ AIo Pc=>AGm<|AU2 rfl (AUs AVr AU5 (Az.b p6) 1 rfl (AGm ?_));obtain ⟨AIp,Jg,Pd⟩:=AGr Pb;refine AUo ATb ATq (Az.o2 p5) Jg λ_ AIq Pe=>Ah6 ATb ATq (Az.o2 p5) Pe Pc Jg Jf rfl rfl (λ_=>rfl) (λ_=>rfl) (λ_=>rfl) (λ_ _=>rfl) λAIr AIs Ej Ek El AIt Pf Pg Ph=>AGu<|AGs<|AXi ?_;have B8:=Az.uo2 p5 Pg Pf Ph;refine AGm<|AU2 rfl (AUs AVr AU5 (B8.b p6) 1 rfl (AGm<|AU2 rfl (AUs Ajq AU5 (B8.b p6) 2 rfl (Ar6 Abz Aw2 rfl trivial tt2 rfl (B8.o2 p5).isOne (B8.o2 p4).isOne λAIu AIv Pj Pk Pl=>Aoo Abz rfl (AGm<|AGu<|AGt ?_)))));have Jh:=B8.nb Pk Pl Pj;refine AYr 4722366412500901036672 Pd (λx=>[(46,(.int .i64 x.1))]) (λx=>(Jh.L.set 6<|aO2 (cI .i64) 61 2 Ej Ek El Ab x.2.1).set 5 (aO2 (cI .i64) 61 2 Ad Ae Af Ac x.2.2)) Jh ⟨rfl,trivial⟩ ?_;rintro ⟨Ji,Pm,Pn⟩ AIw AIx AIy A6 Em Po;unfold AX7 at Em;refine AGq<|ATp rfl rfl (AGu<|AGs<|⟨_,rfl,λEn=>?_,λEn=>?_⟩)
          ·refine AG0<|q_t<|AGs<|AGt<|AGq ?_;have Jj:=AT4 Em En;by_cases Eo:Ji=0
           ·refine Aob 0 Abz rfl rfl Eo AGn (AT6 AU5 rfl ((A6.b p0).cell (i:=0) rfl) (AT2<|AGm<|AT3 ATb rfl (A6.o2 p6).rd (AGm<|AGu<|AGt<|AYr 2361178737835195236864 (ifT Jj Eo) (λx=>[(52,(.int .i64 x.1))]) (λx=>A6.L.set 6<|aO2 (cI .i64) 61 2 Ej Ek El Ab x.2) A6 ⟨rfl,trivial⟩ ?_)));rintro ⟨Cr,AIz⟩ AI0 AI1 AI2 B9 Ep Pp;unfold Ab0 at Ep;refine AGq<|ATp rfl rfl (AGu<|AGs<|⟨_,rfl,λEr=>?_,λEr=>?_⟩)
            ·refine AG0<|q_t<|AGs<|AGt<|AGq ?_;obtain ⟨AI3,Ct,Pq⟩:=AGr<|AT4 Ep Er;refine AUo ATb ATq (B9.o2 p6) Ct λ_ AI4 Cu=>AGx<|AXi<|AGm<|AGm<|AGm<|AGm<|AGm<|AGm ?_;obtain ⟨AI5,Ps,Pt⟩:=AGr Pq;refine AW6 (m:=Cr) ATa ATg (B9.o2 p6) Cu Ct Ps λ_=>(AGm<|AGm ?_);obtain ⟨AI6,Jk,Pu⟩:=AGr Pt;refine AW6 (m:=Cr) ATa ATg (B9.o2 p6) Cu Ct Jk λ_=>AZ0 (m:=Cr) B9 p6 ATa ATg Cu Ct Jk (λ_=>rfl) λ_ AI7 Pv=>?_;obtain ⟨AI8,Pw,Px⟩:=AGr Pu;obtain ⟨AI9,Py,Pz⟩:=AGr Px;refine AZ0 (m:=Cr) Pv p6 ATa ATg Cu Pw Py (λ_=>rfl) λ_ AJa P0=>ATu<|q_b<|q_t<|AS8<|ATn rfl rfl (AGm<|AGu ?_);exact ⟨_,(AGo Pz).symm,P0,rfl,trivial⟩
            ·refine ATh<|ATi<|ATi<|AUf<|q_b<|q_t<|AS8<|ATn rfl rfl (AGm<|AGu ?_);exact ⟨_,(AGo<|Pp _ (AGo<|AT5 Ep Er).symm).symm,B9,rfl,trivial⟩
           ·have Jl:=ifF Jj Eo;by_cases Es:Ji=1
            ·refine Aob 1 Abz rfl rfl Es AGn (AT6 AU5 rfl ((A6.b p0).cell (i:=1) rfl) (AT2<|AGm<|AT3 ATb rfl (A6.o2 p5).rd (AGm<|AGu<|AGt<|AYr 2361178737835195236864 (ifT Jl Es) (λx=>[(52,(.int .i64 x.1))]) (λx=>A6.L.set 5<|aO2 (cI .i64) 61 2 Ad Ae Af Ac x.2) A6 ⟨rfl,trivial⟩ ?_)));rintro ⟨Cv,AJb⟩ AJc AJd AJe Ca Et P1;unfold Ab1 at Et;refine AGq<|ATp rfl rfl (AGu<|AGs<|⟨_,rfl,λEu=>?_,λEu=>?_⟩)
             ·refine AG0<|q_t<|AGs<|AGt<|AGq ?_;obtain ⟨AJf,Cw,P2⟩:=AGr<|AT4 Et Eu;refine AUo ATb ATq (Ca.o2 p5) Cw λ_ AJg Cx=>AGx<|AXi<|AGm<|AGm<|AGm<|AGm<|AGm<|AGm ?_;obtain ⟨AJh,P3,P4⟩:=AGr P2;refine AW6 (m:=Cv) ATa ATg (Ca.o2 p5) Cx Cw P3 λ_=>(AGm<|AGm ?_);obtain ⟨AJi,Jm,P5⟩:=AGr P4;refine AW6 (m:=Cv) ATa ATg (Ca.o2 p5) Cx Cw Jm λ_=>AZ0 (m:=Cv) Ca p5 ATa ATg Cx Cw Jm (λ_=>rfl) λ_ AJj P6=>?_;obtain ⟨AJk,P7,P8⟩:=AGr P5;obtain ⟨AJl,P9,Qa⟩:=AGr P8;refine AZ0 (m:=Cv) P6 p5 ATa ATg Cx P7 P9 (λ_=>rfl) λ_ AJm Qb=>ATu<|q_b<|q_t<|AS8<|ATn rfl rfl (AGm<|AGu ?_);exact ⟨_,(AGo Qa).symm,Qb,rfl,trivial⟩
             ·refine ATh<|ATi<|ATi<|AUf<|q_b<|q_t<|AS8<|ATn rfl rfl (AGm<|AGu ?_);exact ⟨_,(AGo<|P1 _ (AGo<|AT5 Et Eu).symm).symm,Ca,rfl,trivial⟩
            ·have Qc:=ifF Jl Es;cases Qc
          ·refine ATh<|ATi<|ATi<|AUf<|⟨_,Aa0,((Pm,Ej,Ek,El,Pn):(LiI) × LnA × LnN × LvA × (LiI)),?_,rfl,?_⟩
           ·exact AGo<|Po _ (AGo<|AT5 Em En).symm
           ·exact A6.sel [1,2,3,4,5,6,7,8] AGn
         obtain ⟨⟨AJn,AJo,AJp,AJq,AJr⟩,Qd,rfl,Qe⟩:=Pa;refine ⟨trivial,?_⟩;subst Qd;refine ATu<|q_b<|q_t<|AS8<|AGm<|AVh rfl rfl (AGx ?_);exact ⟨(_,_,_,_,_,_),(AGo O9).symm,Qe,rfl,trivial⟩
        ·refine ATh<|ATi<|ATi<|AUf<|⟨_,Aa0,((O1,O2,O3,O4,O5):(LiI) × LnA × LnN × LvA × (LiI)),?_,rfl,?_⟩
         ·exact AGo<|O6 _ (AGo<|AT5 Eh Ei).symm
         ·exact Az
       obtain ⟨⟨Qf,Qg,Qh,Qi,Qj⟩,Qk,rfl,Ev⟩:=O0;refine ⟨trivial,?_⟩;subst Qk;refine AGu<|AS8<|AGm<|ATn rfl rfl (ATs<|ATu<|q_b<|q_t<|AGq<|AGm<|AGm<|AGm ?_);obtain ⟨Ql,Qm,Qn⟩:=AGr Oz;refine ATo (K':=(λxr h'=> ∃ x:(LiI) × LnA × LnN × LvA × (LiI),(x.1,x.2.2.2.2)=Ql/\xr= .tuple #[]/\Kst h h' ((Ev.L.set 5<|aO2 (cI .i64) 61 2 x.2.1 x.2.2.1 x.2.2.2.1 Ab x.1).set 4 (aO2 (cI .i64) 61 2 Ad Ae Af Ac x.2.2.2.2)))) trivial rfl ?_ λAJs AJt Qo=>?_
       ·refine cwf (l:=[_,_,_]) Tryz.func111 rfl rfl (AGt<|AXv 65474 (λx:(Int) × (LiI) × LnA × LnN × LvA × (LiI)=>(x.1,x.2.1,x.2.2.2.2.2)) (((w64<|Ja + 1),Qf,Qg,Qh,Qi,Qj):(Int) × (LiI) × LnA × LnN × LvA × (LiI)) Qm (λx=>[(1,(.int .i64 x.1))]) (λx=>(Ev.L.set 5<|aO2 (cI .i64) 61 2 x.2.2.1 x.2.2.2.1 x.2.2.2.2.1 Ab x.2.1).set 4 (aO2 (cI .i64) 61 2 Ad Ae Af Ac x.2.2.2.2.2)) Ev ⟨rfl,trivial⟩ ?_);rintro ⟨AJu,Qp,Qq,Qr,Qs,Qt⟩ AJv AJw AJx A3 Ew Qu;unfold AZv at Ew;refine AGs<|AGq<|AGm<|AGm<|AXr rfl rfl (AGu<|⟨_,rfl,λEy=>?_,λEy=>?_⟩)
        ·refine AG0<|q_t<|AGs<|AGt<|AS8<|AGm<|AGm<|AVh rfl rfl (AGm ?_);obtain ⟨Qv,Qw,Qx⟩:=AGr<|AT4 Ew Ey;refine ATo (K':=(λxr h'=> ∃ x:(LiI) × LnA × LnN × LvA × (LiI),(x.1,x.2.2.2.2)=Qv/\xr= .tuple #[]/\Kst h h' ((A3.L.set 5<|aO2 (cI .i64) 61 2 x.2.1 x.2.2.1 x.2.2.2.1 Ab x.1).set 4 (aO2 (cI .i64) 61 2 Ad Ae Af Ac x.2.2.2.2)))) trivial rfl ?_ λAJy AJz Qy=>?_
         ·refine cwf (l:=[_,_,_]) Tryz.func165 rfl rfl (AGs<|AXi<|AGm<|AU2 rfl (AUs AVr AU5 (A3.b p6) 1 rfl (AGm<|AGm<|AU2 rfl (AUs AVr AU5 (A3.b p6) 1 rfl (AGm<|AGm<|AU2 rfl (AUs AVr AU5 (A3.b p6) 1 rfl (AGm ?_)))))));obtain ⟨AJ0,Jn,Qz⟩:=AGr Qw;refine AUo ATb ATq (A3.o2 p5) Jn λ_ AJ1 Q0=>AGm<|AU2 rfl (AUs AVr AU5 (A3.b p6) 1 rfl (AGm ?_));obtain ⟨AJ2,Jo,Q1⟩:=AGr Qz;refine AUo ATb ATq (A3.o2 p5) Jo λ_ AJ3 Q2=>Ah6 ATb ATq (A3.o2 p5) Q2 Q0 Jo Jn rfl rfl (λ_=>rfl) (λ_=>rfl) (λ_=>rfl) (λ_ _=>rfl) λAJ4 AJ5 Ez Fa Fb AJ6 Q3 Q4 Q6=>AGu<|AGs<|AXi ?_;have Cb:=A3.uo2 p5 Q4 Q3 Q6;refine AGm<|AU2 rfl (AUs AVr AU5 (Cb.b p6) 1 rfl (AGm<|AU2 rfl (AUs Ajq AU5 (Cb.b p6) 2 rfl (Ar6 Abz Aw2 rfl trivial tt2 rfl (Cb.o2 p5).isOne (Cb.o2 p4).isOne λAJ7 AJ8 Q7 Q8 Q9=>Aoo Abz rfl (AGm<|AGu<|AGt ?_)))));have Jp:=Cb.nb Q8 Q9 Q7;refine AYr 4722366412500901036672 Q1 (λx=>[(46,(.int .i64 x.1))]) (λx=>(Jp.L.set 6<|aO2 (cI .i64) 61 2 Ez Fa Fb Ab x.2.1).set 5 (aO2 (cI .i64) 61 2 Ad Ae Af Ac x.2.2)) Jp ⟨rfl,trivial⟩ ?_;rintro ⟨Jq,Rc,Rd⟩ AJ9 AKa AKb A7 Fc Re;unfold AX8 at Fc;refine AGq<|ATp rfl rfl (AGu<|AGs<|⟨_,rfl,λFd=>?_,λFd=>?_⟩)
          ·refine AG0<|q_t<|AGs<|AGt<|AGq ?_;have Jr:=AT4 Fc Fd;by_cases Fe:Jq=0
           ·refine Aob 0 Abz rfl rfl Fe AGn (AT6 AU5 rfl ((A7.b p0).cell (i:=0) rfl) (AT2<|AGm<|AT3 ATb rfl (A7.o2 p6).rd (AGm<|AGu<|AGt<|AYr 2361178737835195236864 (ifT Jr Fe) (λx=>[(52,(.int .i64 x.1))]) (λx=>A7.L.set 6<|aO2 (cI .i64) 61 2 Ez Fa Fb Ab x.2) A7 ⟨rfl,trivial⟩ ?_)));rintro ⟨Cy,AKc⟩ AKd AKe AKf Cd Ff Rf;unfold Ab2 at Ff;refine AGq<|ATp rfl rfl (AGu<|AGs<|⟨_,rfl,λFg=>?_,λFg=>?_⟩)
            ·refine AG0<|q_t<|AGs<|AGt<|AGq ?_;obtain ⟨AKg,Cz,Rg⟩:=AGr<|AT4 Ff Fg;refine AUo ATb ATq (Cd.o2 p6) Cz λ_ AKh C0=>AGx<|AXi<|AGm<|AGm<|AGm<|AGm<|AGm<|AGm ?_;obtain ⟨AKi,Rh,Ri⟩:=AGr Rg;refine AW6 (m:=Cy) ATa ATg (Cd.o2 p6) C0 Cz Rh λ_=>(AGm<|AGm ?_);obtain ⟨AKj,Js,Rj⟩:=AGr Ri;refine AW6 (m:=Cy) ATa ATg (Cd.o2 p6) C0 Cz Js λ_=>AZ0 (m:=Cy) Cd p6 ATa ATg C0 Cz Js (λ_=>rfl) λ_ AKk Rm=>?_;obtain ⟨AKl,Rn,Ro⟩:=AGr Rj;obtain ⟨AKm,Rq,Rr⟩:=AGr Ro;refine AZ0 (m:=Cy) Rm p6 ATa ATg C0 Rn Rq (λ_=>rfl) λ_ AKn Rs=>ATu<|q_b<|q_t<|AS8<|ATn rfl rfl (AGm<|AGu ?_);exact ⟨_,(AGo Rr).symm,Rs,rfl,trivial⟩
            ·refine ATh<|ATi<|ATi<|AUf<|q_b<|q_t<|AS8<|ATn rfl rfl (AGm<|AGu ?_);exact ⟨_,(AGo<|Rf _ (AGo<|AT5 Ff Fg).symm).symm,Cd,rfl,trivial⟩
           ·have Jt:=ifF Jr Fe;by_cases Fh:Jq=1
            ·refine Aob 1 Abz rfl rfl Fh AGn (AT6 AU5 rfl ((A7.b p0).cell (i:=1) rfl) (AT2<|AGm<|AT3 ATb rfl (A7.o2 p5).rd (AGm<|AGu<|AGt<|AYr 2361178737835195236864 (ifT Jt Fh) (λx=>[(52,(.int .i64 x.1))]) (λx=>A7.L.set 5<|aO2 (cI .i64) 61 2 Ad Ae Af Ac x.2) A7 ⟨rfl,trivial⟩ ?_)));rintro ⟨C1,AKo⟩ AKp AKq AKr Ce Fi Rt;unfold Ab3 at Fi;refine AGq<|ATp rfl rfl (AGu<|AGs<|⟨_,rfl,λFj=>?_,λFj=>?_⟩)
             ·refine AG0<|q_t<|AGs<|AGt<|AGq ?_;obtain ⟨AKs,C2,Ru⟩:=AGr<|AT4 Fi Fj;refine AUo ATb ATq (Ce.o2 p5) C2 λ_ AKt C3=>AGx<|AXi<|AGm<|AGm<|AGm<|AGm<|AGm<|AGm ?_;obtain ⟨AKu,Rv,Rw⟩:=AGr Ru;refine AW6 (m:=C1) ATa ATg (Ce.o2 p5) C3 C2 Rv λ_=>(AGm<|AGm ?_);obtain ⟨AKv,Ju,Rx⟩:=AGr Rw;refine AW6 (m:=C1) ATa ATg (Ce.o2 p5) C3 C2 Ju λ_=>AZ0 (m:=C1) Ce p5 ATa ATg C3 C2 Ju (λ_=>rfl) λ_ AKw Ry=>?_;obtain ⟨AKx,Rz,R3⟩:=AGr Rx;obtain ⟨AKy,R4,R5⟩:=AGr R3;refine AZ0 (m:=C1) Ry p5 ATa ATg C3 Rz R4 (λ_=>rfl) λ_ AKz R6=>ATu<|q_b<|q_t<|AS8<|ATn rfl rfl (AGm<|AGu ?_);exact ⟨_,(AGo R5).symm,R6,rfl,trivial⟩
             ·refine ATh<|ATi<|ATi<|AUf<|q_b<|q_t<|AS8<|ATn rfl rfl (AGm<|AGu ?_);exact ⟨_,(AGo<|Rt _ (AGo<|AT5 Fi Fj).symm).symm,Ce,rfl,trivial⟩
            ·have R7:=ifF Jt Fh;cases R7
          ·refine ATh<|ATi<|ATi<|AUf<|⟨_,Aa0,((Rc,Ez,Fa,Fb,Rd):(LiI) × LnA × LnN × LvA × (LiI)),?_,rfl,?_⟩
           ·exact AGo<|Re _ (AGo<|AT5 Fc Fd).symm
           ·exact A7.sel [1,2,3,4,5,6,7,8] AGn
         obtain ⟨⟨AK0,AK1,AK2,AK3,AK4⟩,R8,rfl,R9⟩:=Qy;refine ⟨trivial,?_⟩;subst R8;refine ATu<|q_b<|q_t<|AS8<|AGm<|AVh rfl rfl (AGx ?_);exact ⟨(_,_,_,_,_,_),(AGo Qx).symm,R9,rfl,trivial⟩
        ·refine ATh<|ATi<|ATi<|AUf<|⟨_,Aa0,((Qp,Qq,Qr,Qs,Qt):(LiI) × LnA × LnN × LvA × (LiI)),?_,rfl,?_⟩
         ·exact AGo<|Qu _ (AGo<|AT5 Ew Ey).symm
         ·exact A3
       obtain ⟨⟨Sa,Sb,Sc,Sd,Se⟩,Sf,rfl,Sg⟩:=Qo;refine ⟨trivial,?_⟩;subst Sf;refine AGu<|ATh<|AUf<|q_t ?_;exact ⟨((Sa,Sb,Sc,Sd,Se,2):(LiI) × LnA × LnN × LvA × (LiI) × (Int)),⟨AGo Qn,Sg⟩,trivial⟩
      ·refine AG0<|q_t<|ATh<|Avk AGn<|ATi<|AUf<|q_t<|AGq<|AGm<|AGm<|AGm ?_;obtain ⟨Sh,Si,Sj⟩:=AGr<|AT5 Je Ef;refine ATo (K':=(λxr h'=> ∃ x:(LiI) × LnA × LnN × LvA × (LiI),(x.1,x.2.2.2.2)=Sh/\xr= .tuple #[]/\Kst h h' ((Bq.L.set 5<|aO2 (cI .i64) 61 2 x.2.1 x.2.2.1 x.2.2.2.1 Ab x.1).set 4 (aO2 (cI .i64) 61 2 Ad Ae Af Ac x.2.2.2.2)))) trivial rfl ?_ λAK5 AK6 Sk=>?_
       ·refine cwf (l:=[_,_,_]) Tryz.func111 rfl rfl (AGt<|AXv 65474 (λx:(Int) × (LiI) × LnA × LnN × LvA × (LiI)=>(x.1,x.2.1,x.2.2.2.2.2)) ((Ja,Iv,Iw,Ix,Iy,Iz):(Int) × (LiI) × LnA × LnN × LvA × (LiI)) Si (λx=>[(1,(.int .i64 x.1))]) (λx=>(Bq.L.set 5<|aO2 (cI .i64) 61 2 x.2.2.1 x.2.2.2.1 x.2.2.2.2.1 Ab x.2.1).set 4 (aO2 (cI .i64) 61 2 Ad Ae Af Ac x.2.2.2.2.2)) Bq ⟨rfl,trivial⟩ ?_);rintro ⟨AK7,Sm,Sn,So,Sq,Sr⟩ AK8 AK9 ALa A4 Fk Ss;unfold AZw at Fk;refine AGs<|AGq<|AGm<|AGm<|AXr rfl rfl (AGu<|⟨_,rfl,λFl=>?_,λFl=>?_⟩)
        ·refine AG0<|q_t<|AGs<|AGt<|AS8<|AGm<|AGm<|AVh rfl rfl (AGm ?_);obtain ⟨St,Su,Sv⟩:=AGr<|AT4 Fk Fl;refine ATo (K':=(λxr h'=> ∃ x:(LiI) × LnA × LnN × LvA × (LiI),(x.1,x.2.2.2.2)=St/\xr= .tuple #[]/\Kst h h' ((A4.L.set 5<|aO2 (cI .i64) 61 2 x.2.1 x.2.2.1 x.2.2.2.1 Ab x.1).set 4 (aO2 (cI .i64) 61 2 Ad Ae Af Ac x.2.2.2.2)))) trivial rfl ?_ λALb ALc Sw=>?_
         ·refine cwf (l:=[_,_,_]) Tryz.func165 rfl rfl (AGs<|AXi<|AGm<|AU2 rfl (AUs AVr AU5 (A4.b p6) 1 rfl (AGm<|AGm<|AU2 rfl (AUs AVr AU5 (A4.b p6) 1 rfl (AGm<|AGm<|AU2 rfl (AUs AVr AU5 (A4.b p6) 1 rfl (AGm ?_)))))));obtain ⟨ALd,Jv,Sx⟩:=AGr Su;refine AUo ATb ATq (A4.o2 p5) Jv λ_ ALe Sy=>AGm<|AU2 rfl (AUs AVr AU5 (A4.b p6) 1 rfl (AGm ?_));obtain ⟨ALf,Jw,Sz⟩:=AGr Sx;refine AUo ATb ATq (A4.o2 p5) Jw λ_ ALg S5=>Ah6 ATb ATq (A4.o2 p5) S5 Sy Jw Jv rfl rfl (λ_=>rfl) (λ_=>rfl) (λ_=>rfl) (λ_ _=>rfl) λALh ALi Fm Fo Fp ALj S7 Ta Tb=>AGu<|AGs<|AXi ?_;have Cf:=A4.uo2 p5 Ta S7 Tb;refine AGm<|AU2 rfl (AUs AVr AU5 (Cf.b p6) 1 rfl (AGm<|AU2 rfl (AUs Ajq AU5 (Cf.b p6) 2 rfl (Ar6 Abz Aw2 rfl trivial tt2 rfl (Cf.o2 p5).isOne (Cf.o2 p4).isOne λALk ALl Tc Td Te=>Aoo Abz rfl (AGm<|AGu<|AGt ?_)))));have Jx:=Cf.nb Td Te Tc;refine AYr 4722366412500901036672 Sz (λx=>[(46,(.int .i64 x.1))]) (λx=>(Jx.L.set 6<|aO2 (cI .i64) 61 2 Fm Fo Fp Ab x.2.1).set 5 (aO2 (cI .i64) 61 2 Ad Ae Af Ac x.2.2)) Jx ⟨rfl,trivial⟩ ?_;rintro ⟨Jy,Tf,Tg⟩ ALm ALn ALo A8 Fq Th;unfold AX9 at Fq;refine AGq<|ATp rfl rfl (AGu<|AGs<|⟨_,rfl,λFr=>?_,λFr=>?_⟩)
          ·refine AG0<|q_t<|AGs<|AGt<|AGq ?_;have Jz:=AT4 Fq Fr;by_cases Ft:Jy=0
           ·refine Aob 0 Abz rfl rfl Ft AGn (AT6 AU5 rfl ((A8.b p0).cell (i:=0) rfl) (AT2<|AGm<|AT3 ATb rfl (A8.o2 p6).rd (AGm<|AGu<|AGt<|AYr 2361178737835195236864 (ifT Jz Ft) (λx=>[(52,(.int .i64 x.1))]) (λx=>A8.L.set 6<|aO2 (cI .i64) 61 2 Fm Fo Fp Ab x.2) A8 ⟨rfl,trivial⟩ ?_)));rintro ⟨C4,ALp⟩ ALq ALr ALs Cg Fu Ti;unfold Ab4 at Fu;refine AGq<|ATp rfl rfl (AGu<|AGs<|⟨_,rfl,λFv=>?_,λFv=>?_⟩)
            ·refine AG0<|q_t<|AGs<|AGt<|AGq ?_;obtain ⟨ALt,C5,Tj⟩:=AGr<|AT4 Fu Fv;refine AUo ATb ATq (Cg.o2 p6) C5 λ_ ALu C6=>AGx<|AXi<|AGm<|AGm<|AGm<|AGm<|AGm<|AGm ?_;obtain ⟨ALv,Tk,Tl⟩:=AGr Tj;refine AW6 (m:=C4) ATa ATg (Cg.o2 p6) C6 C5 Tk λ_=>(AGm<|AGm ?_);obtain ⟨ALw,J0,Tm⟩:=AGr Tl;refine AW6 (m:=C4) ATa ATg (Cg.o2 p6) C6 C5 J0 λ_=>AZ0 (m:=C4) Cg p6 ATa ATg C6 C5 J0 (λ_=>rfl) λ_ ALx Tn=>?_;obtain ⟨ALy,To,Tp⟩:=AGr Tm;obtain ⟨ALz,Tq,Tr⟩:=AGr Tp;refine AZ0 (m:=C4) Tn p6 ATa ATg C6 To Tq (λ_=>rfl) λ_ AL0 Ts=>ATu<|q_b<|q_t<|AS8<|ATn rfl rfl (AGm<|AGu ?_);exact ⟨_,(AGo Tr).symm,Ts,rfl,trivial⟩
            ·refine ATh<|ATi<|ATi<|AUf<|q_b<|q_t<|AS8<|ATn rfl rfl (AGm<|AGu ?_);exact ⟨_,(AGo<|Ti _ (AGo<|AT5 Fu Fv).symm).symm,Cg,rfl,trivial⟩
           ·have J1:=ifF Jz Ft;by_cases Fw:Jy=1
            ·refine Aob 1 Abz rfl rfl Fw AGn (AT6 AU5 rfl ((A8.b p0).cell (i:=1) rfl) (AT2<|AGm<|AT3 ATb rfl (A8.o2 p5).rd (AGm<|AGu<|AGt<|AYr 2361178737835195236864 (ifT J1 Fw) (λx=>[(52,(.int .i64 x.1))]) (λx=>A8.L.set 5<|aO2 (cI .i64) 61 2 Ad Ae Af Ac x.2) A8 ⟨rfl,trivial⟩ ?_)));rintro ⟨C7,AL1⟩ AL2 AL3 AL4 Ch Fx Tt;unfold Ab5 at Fx;refine AGq<|ATp rfl rfl (AGu<|AGs<|⟨_,rfl,λFy=>?_,λFy=>?_⟩)
             ·refine AG0<|q_t<|AGs<|AGt<|AGq ?_;obtain ⟨AL5,C8,Tu⟩:=AGr<|AT4 Fx Fy;refine AUo ATb ATq (Ch.o2 p5) C8 λ_ AL6 C9=>AGx<|AXi<|AGm<|AGm<|AGm<|AGm<|AGm<|AGm ?_;obtain ⟨AL7,Tv,Tw⟩:=AGr Tu;refine AW6 (m:=C7) ATa ATg (Ch.o2 p5) C9 C8 Tv λ_=>(AGm<|AGm ?_);obtain ⟨AL8,J2,Tx⟩:=AGr Tw;refine AW6 (m:=C7) ATa ATg (Ch.o2 p5) C9 C8 J2 λ_=>AZ0 (m:=C7) Ch p5 ATa ATg C9 C8 J2 (λ_=>rfl) λ_ AL9 Ty=>?_;obtain ⟨AMa,Tz,T0⟩:=AGr Tx;obtain ⟨AMb,T3,T4⟩:=AGr T0;refine AZ0 (m:=C7) Ty p5 ATa ATg C9 Tz T3 (λ_=>rfl) λ_ AMc T5=>ATu<|q_b<|q_t<|AS8<|ATn rfl rfl (AGm<|AGu ?_);exact ⟨_,(AGo T4).symm,T5,rfl,trivial⟩
             ·refine ATh<|ATi<|ATi<|AUf<|q_b<|q_t<|AS8<|ATn rfl rfl (AGm<|AGu ?_);exact ⟨_,(AGo<|Tt _ (AGo<|AT5 Fx Fy).symm).symm,Ch,rfl,trivial⟩
            ·have T6:=ifF J1 Fw;cases T6
          ·refine ATh<|ATi<|ATi<|AUf<|⟨_,Aa0,((Tf,Fm,Fo,Fp,Tg):(LiI) × LnA × LnN × LvA × (LiI)),?_,rfl,?_⟩
           ·exact AGo<|Th _ (AGo<|AT5 Fq Fr).symm
           ·exact A8.sel [1,2,3,4,5,6,7,8] AGn
         obtain ⟨⟨AMd,AMe,AMf,AMg,AMh⟩,T7,rfl,T8⟩:=Sw;refine ⟨trivial,?_⟩;subst T7;refine ATu<|q_b<|q_t<|AS8<|AGm<|AVh rfl rfl (AGx ?_);exact ⟨(_,_,_,_,_,_),(AGo Sv).symm,T8,rfl,trivial⟩
        ·refine ATh<|ATi<|ATi<|AUf<|⟨_,Aa0,((Sm,Sn,So,Sq,Sr):(LiI) × LnA × LnN × LvA × (LiI)),?_,rfl,?_⟩
         ·exact AGo<|Ss _ (AGo<|AT5 Fk Fl).symm
         ·exact A4
       obtain ⟨⟨T9,Ua,Ub,Uc,Ud⟩,Ue,rfl,Uf⟩:=Sk;refine ⟨trivial,?_⟩;subst Ue;refine AGu<|ATh<|AUf<|q_t ?_;exact ⟨((T9,Ua,Ub,Uc,Ud,1):(LiI) × LnA × LnN × LvA × (LiI) × (Int)),⟨AGo Sj,Uf⟩,trivial⟩
     rintro ⟨AMi,Ah,Ai,Aj,AMj,Aw⟩ AMk AMl ⟨Ug,Ci⟩;subst Ug;refine AGq<|AGm<|AU2 rfl (AUs AVr AU5 (Ci.b p6) 1 rfl (AGm ?_));obtain ⟨AMm,Da,Uh⟩:=AGr Ou;refine AUo ATb ATq (Ci.o2 p5) Da λ_ AMn Ui=>AGm ?_;obtain ⟨Ak,Uj,Uk⟩:=AGr Uh;refine AW6 (m:=A5) ATa ATg (Ci.o2 p5) Ui Da Uj λ_=>(AGm ?_);obtain ⟨Ul,J3⟩:=ifN Uk;refine Aqj rfl rfl Ul (AVd Ac1 rfl (Ai5 [(.int .i64 Aa),(.int .i64 Aw),(.int .i64<|Ak / 2 ^ Int.toNat Aa),(.int .i64 0),(.int .i64 0)] ATg rfl rfl rfl (Ci.b p0) (Nat.le_of_ble_eq_true rfl) rfl λAMo Um Un=>AGu<|AGs<|AGq ?_));have A9:=Ci.sb p0 Un Um rfl;refine AUs Ac0 AT9 (A9.b p0) 1 rfl (AU0 rfl rfl (AGu<|⟨_,rfl,λFz=>?_,λFz=>?_⟩))
     ·refine AGq<|AGm<|AGm<|AGm<|AGm<|AUs Ac1 ATg (A9.b p0) 2 rfl ?_;obtain ⟨Uo,Up,Uq⟩:=AGr<|AT4 J3 Fz;refine ATo (K':=(λxr h'=> ∃ x:(Int),x=Uo/\xr=(.int .i64 x)/\Kst h h' (A9.L))) trivial rfl ?_ λAMp AMq Ur=>?_
      ·refine cwf (l:=[_,_]) Tryz.func113 rfl rfl (AGq<|AT2<|AGm<|Ar3 (κ:= .i64) [(Ak / 2 ^ Int.toNat Aa)] ATa Abm rfl rfl trivial tt2 rfl rfl rfl rfl λUs Ut AMr Uu Uv Uw Ux=>?_);have F4:=A9.no Uv (AYh Uw Ux) Uu;refine Apq (c:=(cI .i64)) (el:=2) [[Us]] [Ut] [([(Ak / 2 ^ Int.toNat Aa)]:List Int)] ATb Aet rfl rfl trivial tt2 rfl rfl rfl rfl (Aac (F4.o p0).isOne Al2) ⟨(F4.o p0),trivial⟩ AT7 λAMs AMt AMu Uy Uz U0=>?_;have F5:=(((F4.a0).grab p0)).lit Uz Uy (by simpa using U0);refine AGm<|AU2 rfl (AUs Aby AT9 (F5.b p8) 0 rfl ?_);obtain ⟨U3,U8⟩:=ifN Up;refine Aah rfl rfl U3 ?_;obtain ⟨⟨AMv,AMw⟩,Va,J4⟩:=AGr U8;dsimp only at J4;refine Agw rfl (Aj0 (F5.o2 p0).rd Va) λAMx AMy Vb Vc=>?_;obtain ⟨AMz,AM0,AM1,AM2,rfl,Vd,Ve⟩:=Vc;refine AGm<|AUk rfl rfl (AUk rfl rfl (ATs<|AT2<|AGm ?_));have F6:=F5.no2 Vb Ve Vd;obtain ⟨AM3,J5,Vf⟩:=AGr J4;refine AUo ATb ATq (F6.o2 p0) J5 λ_ AM4 Vg=>?_;obtain ⟨Vh,Vi,Vj⟩:=AGr Vf;refine AW6 (m:=0) ATa ATg (F6.o2 p0) Vg J5 Vi λ_=>(AGx<|AG1<|⟨_,AS5,(Vh:(Int)),?_,rfl,?_⟩)
       ·exact AGo Vj
       ·exact F6.sel [3,4,5,6,7,8,9,10] AGn
      obtain ⟨Vk,Vl,rfl,F7⟩:=Ur;refine ⟨trivial,?_⟩;subst Vl;obtain ⟨Vm,Vn,Vo⟩:=AGr Uq;refine ATo (K':=(λxr h'=> ∃ x:(LiI) × (LiI),(x.1,x.2)=Vm/\xr= .tuple #[]/\Kst h h' ((F7.L.set 5<|aO2 (cI .i64) 61 2 Ah Ai Aj Ab x.1).set 4 (aO2 (cI .i64) 61 2 Ad Ae Af Ac x.2)))) trivial rfl ?_ λAM5 AM6 Vp=>?_
      ·refine cwf (l:=[_,_,_,_]) Tryz.func112 rfl rfl (AGq<|AGm<|ATn rfl rfl (AGx<|AGt<|AYr 8796093018880 Vn (λx=>[(8,(.int .i64 x.1))]) (λx=>(F7.L.set 5<|aO2 (cI .i64) 61 2 Ah Ai Aj Ab x.2.1).set 4 (aO2 (cI .i64) 61 2 Ad Ae Af Ac x.2.2)) F7 ⟨rfl,trivial⟩ ?_));rintro ⟨F8,Vs,Vt⟩ AM7 AM8 AM9 Ba F9 Vu;unfold Ab9 at F9;refine AGs<|AGq<|AGm<|AGm<|AU2 rfl (AUs AVr AU5 (Ba.b p6) 1 rfl (AT3 ATb rfl (Ba.o2 p5).rd (ATp rfl rfl (AGu<|⟨_,rfl,λGa=>?_,λGa=>?_⟩))))
       ·refine AG0<|q_t<|AGs<|AGt<|AGq<|AGm<|AU2 rfl (AUs AVr AU5 (Ba.b p6) 1 rfl (AGm ?_));obtain ⟨ANa,J6,Vv⟩:=AGr<|AT4 F9 Ga;refine AUo ATb ATq (Ba.o2 p5) J6 λ_ ANb Vw=>AGm ?_;obtain ⟨Vx,Vy,Vz⟩:=AGr Vv;refine AW6 (m:=A5) ATa ATg (Ba.o2 p5) Vw J6 Vy λ_=>(AGm ?_);obtain ⟨V1,V4⟩:=ifN Vz;refine Aqj rfl rfl V1 (AGx<|AS8<|AGm<|AGm<|AGm<|AGm<|AGm<|Atu rfl (AGm<|Aaq rfl rfl ?_));obtain ⟨V6,V8,Wa⟩:=AGr V4;refine ATo (K':=(λxr h'=> ∃ x:(Int),x=V6/\xr=(.int .i64 x)/\Kst h h' (Ba.L))) trivial rfl ?_ λANc ANd Wb=>?_
        ·refine cwf (l:=[_,_]) Tryz.func167 rfl rfl (AGq<|AT2<|AGm<|AGm<|AU2 rfl (AUs Aby AT9 (Ba.b p6) 0 rfl ?_));obtain ⟨Wc,Wd⟩:=ifN V8;refine Aah rfl rfl Wc (AVh rfl rfl (Acp rfl rfl AGn (AGx<|AG1<|⟨_,AS5,((Aaz .and .i64 (w64<|(w64<|0 - (Vx / 2 ^ Int.toNat Aa)) * Vk)<|w64<|(w64<|1 * 2 ^ Int.toNat Ag) - 1):(Int)),?_,rfl,?_⟩)))
         ·exact AGo Wd
         ·exact Ba
        obtain ⟨Gb,We,rfl,Br⟩:=Wb;refine ⟨trivial,?_⟩;subst We;obtain ⟨Wf,Wg,Wh⟩:=AGr Wa;refine ATo (K':=(λxr h'=> ∃ x:(LiI) × (LiI),(x.1,x.2)=Wf/\xr= .tuple #[]/\Kst h h' ((Br.L.set 5<|aO2 (cI .i64) 61 2 Ah Ai Aj Ab x.1).set 4 (aO2 (cI .i64) 61 2 Ad Ae Af Ac x.2)))) trivial rfl ?_ λANe ANf Wi=>?_
        ·refine cwf (l:=[_,_,_,_]) Tryz.func166 rfl rfl (AGs<|AGs<|AXi<|AGm<|AU2 rfl (AUs AVr AU5 (Br.b p6) 1 rfl (AGm<|AU2 rfl (AUs Ajq AU5 (Br.b p6) 2 rfl (Ar6 Abz Aw2 rfl trivial tt2 rfl (Br.o2 p5).isOne (Br.o2 p4).isOne λANg ANh Wj Wk Wl=>Aoo Abz rfl (AGm<|AGu<|AGt ?_))))));have J7:=Br.nb Wk Wl Wj;refine AYr 4503599610595840 Wg (λx=>[(24,(.int .i64 x.1))]) (λx=>(J7.L.set 6<|aO2 (cI .i64) 61 2 Ah Ai Aj Ab x.2.1).set 5 (aO2 (cI .i64) 61 2 Ad Ae Af Ac x.2.2)) J7 ⟨rfl,trivial⟩ ?_;rintro ⟨J8,ANi,Wm⟩ ANj ANk ANl Ao Gc Wn;unfold AYa at Gc;refine AGq<|ATp rfl rfl (AGu<|AGs<|⟨_,rfl,λGd=>?_,λGd=>?_⟩)
         ·refine AG0<|q_t<|AGs<|AGt<|AGq ?_;have J9:=AT4 Gc Gd;by_cases Ge:J8=0
          ·refine Aob 0 Abz rfl rfl Ge AGn (AT6 AU5 rfl ((Ao.b p0).cell (i:=0) rfl) (AT2<|AGm<|AT3 ATb rfl (Ao.o2 p6).rd (AGm<|AGu<|AGt<|AYr 2251798739945472 (ifT J9 Ge) (λx=>[(30,(.int .i64 x.1))]) (λx=>Ao.L.set 6<|aO2 (cI .i64) 61 2 Ah Ai Aj Ab x.2) Ao ⟨rfl,trivial⟩ ?_)));rintro ⟨Gf,ANm⟩ ANn ANo ANp Bc Gg Wo;unfold Ab6 at Gg;refine AGq<|ATp rfl rfl (AGu<|AGs<|⟨_,rfl,λGh=>?_,λGh=>?_⟩)
           ·refine AG0<|q_t<|AGs<|AGt<|AGq ?_;obtain ⟨ANq,Db,Wp⟩:=AGr<|AT4 Gg Gh;refine AUo ATb ATq (Bc.o2 p6) Db λ_ ANr Gi=>AGx<|AXi<|AGm<|AGm<|AGm<|AGm<|AGm ?_;obtain ⟨Wq,Ka,Wr⟩:=AGr Wp;refine AW6 (m:=Gf) ATa ATg (Bc.o2 p6) Gi Db Ka λ_=>(AGm<|AGm<|AGm ?_);obtain ⟨Ws,Wt,Wu⟩:=AGr Wr;refine AW6 (m:=Gf) ATa ATg (Bc.o2 p6) Gi Db Wt λ_=>(Aaq rfl rfl (ATn rfl rfl ?_));obtain ⟨Wv,Ww,Wx⟩:=AGr Wu;refine ATo (K':=(λxr h'=> ∃ x:(Int),x=Wv/\xr=(.int .i64 x)/\Kst h h' (Bc.L))) trivial rfl ?_ λANs ANt Wy=>?_
            ·refine cwf (l:=[_,_]) Tryz.func167 rfl rfl (AGq<|AT2<|AGm<|AGm<|AU2 rfl (AUs Aby AT9 (Bc.b p7) 0 rfl ?_));obtain ⟨Wz,W0⟩:=ifN Ww;refine Aah rfl rfl Wz (AVh rfl rfl (Acp rfl rfl AGn (AGx<|AG1<|⟨_,AS5,((Aaz .and .i64 (w64<|Wq + (w64<|Gb * Ws))<|w64<|(w64<|1 * 2 ^ Int.toNat Ag) - 1):(Int)),?_,rfl,?_⟩)))
             ·exact AGo W0
             ·exact Bc
            obtain ⟨ANu,W1,rfl,W3⟩:=Wy;refine ⟨trivial,?_⟩;subst W1;refine AZ0 (m:=Gf) W3 p6 ATa ATg Gi Db Ka (λ_=>rfl) λ_ ANv W4=>ATu<|q_b<|q_t<|AS8<|ATn rfl rfl (AGm<|AGu ?_);exact ⟨_,(AGo Wx).symm,W4,rfl,trivial⟩
           ·refine ATh<|ATi<|ATi<|AUf<|q_b<|q_t<|AS8<|ATn rfl rfl (AGm<|AGu ?_);exact ⟨_,(AGo<|Wo _ (AGo<|AT5 Gg Gh).symm).symm,Bc,rfl,trivial⟩
          ·have Kb:=ifF J9 Ge;by_cases Gj:J8=1
           ·refine Aob 1 Abz rfl rfl Gj AGn (AT6 AU5 rfl ((Ao.b p0).cell (i:=1) rfl) (AT2<|AGm<|AT3 ATb rfl (Ao.o2 p5).rd (AGm<|AGu<|AGt<|AYr 2251798739945472 (ifT Kb Gj) (λx=>[(30,(.int .i64 x.1))]) (λx=>Ao.L.set 5<|aO2 (cI .i64) 61 2 Ad Ae Af Ac x.2) Ao ⟨rfl,trivial⟩ ?_)));rintro ⟨Gk,ANw⟩ ANx ANy ANz Be Gl W5;unfold Ab7 at Gl;refine AGq<|ATp rfl rfl (AGu<|AGs<|⟨_,rfl,λGm=>?_,λGm=>?_⟩)
            ·refine AG0<|q_t<|AGs<|AGt<|AGq ?_;obtain ⟨AN0,Dc,W6⟩:=AGr<|AT4 Gl Gm;refine AUo ATb ATq (Be.o2 p5) Dc λ_ AN1 Gn=>AGx<|AXi<|AGm<|AGm<|AGm<|AGm<|AGm ?_;obtain ⟨W7,Kc,W8⟩:=AGr W6;refine AW6 (m:=Gk) ATa ATg (Be.o2 p5) Gn Dc Kc λ_=>(AGm<|AGm<|AGm ?_);obtain ⟨Xa,Xb,Xc⟩:=AGr W8;refine AW6 (m:=Gk) ATa ATg (Be.o2 p5) Gn Dc Xb λ_=>(Aaq rfl rfl (ATn rfl rfl ?_));obtain ⟨Xd,Xe,Xf⟩:=AGr Xc;refine ATo (K':=(λxr h'=> ∃ x:(Int),x=Xd/\xr=(.int .i64 x)/\Kst h h' (Be.L))) trivial rfl ?_ λAN2 AN3 Xg=>?_
             ·refine cwf (l:=[_,_]) Tryz.func167 rfl rfl (AGq<|AT2<|AGm<|AGm<|AU2 rfl (AUs Aby AT9 (Be.b p7) 0 rfl ?_));obtain ⟨Xh,Xi⟩:=ifN Xe;refine Aah rfl rfl Xh (AVh rfl rfl (Acp rfl rfl AGn (AGx<|AG1<|⟨_,AS5,((Aaz .and .i64 (w64<|W7 + (w64<|Gb * Xa))<|w64<|(w64<|1 * 2 ^ Int.toNat Ag) - 1):(Int)),?_,rfl,?_⟩)))
              ·exact AGo Xi
              ·exact Be
             obtain ⟨AN4,Xj,rfl,Xk⟩:=Xg;refine ⟨trivial,?_⟩;subst Xj;refine AZ0 (m:=Gk) Xk p5 ATa ATg Gn Dc Kc (λ_=>rfl) λ_ AN5 Xl=>ATu<|q_b<|q_t<|AS8<|ATn rfl rfl (AGm<|AGu ?_);exact ⟨_,(AGo Xf).symm,Xl,rfl,trivial⟩
            ·refine ATh<|ATi<|ATi<|AUf<|q_b<|q_t<|AS8<|ATn rfl rfl (AGm<|AGu ?_);exact ⟨_,(AGo<|W5 _ (AGo<|AT5 Gl Gm).symm).symm,Be,rfl,trivial⟩
           ·have Xm:=ifF Kb Gj;cases Xm
         ·refine ATh<|ATi<|ATi<|AUf<|q_t<|AGq<|AGm<|AU2 rfl (AUs AVr AU5 (Ao.b p7) 1 rfl (AGm ?_));obtain ⟨AN6,Kd,Xn⟩:=AGr<|Wn _ (AGo<|AT5 Gc Gd).symm;refine AUo ATb ATq (Ao.o2 p6) Kd λ_ AN7 Ke=>AUl ATa rfl ((Ao.o2 p6).rowI Ke Kd) (AGm<|AGu<|AGt ?_);have Gp:=Ao.sel [1,2,3,4,5,6,7,8] AGn;dsimp only [AZ3,Adk] at Gp;refine AYr 2475880077417839045191413760 Xn (λx=>[(60,(.int .i64 x.1))]) (λx=>Gp.L.set 5<|aO2 (cI .i64) 61 2 Ah Ai Aj Ab x.2) Gp ⟨rfl,trivial⟩ ?_;rintro ⟨AN8,Xo⟩ AN9 Bt AOa Ap Gq Xp;unfold Ab8 at Gq;refine AGq<|ATp rfl rfl (AGu<|AGs<|⟨_,rfl,λGr=>?_,λGr=>?_⟩)
          ·refine AG0<|q_t<|AGs<|AGt<|AGq<|AGm ?_;obtain ⟨AOb,Xq,Xr⟩:=AGr<|AT4 Gq Gr;obtain ⟨Xt,Xu,Xv⟩:=AGr Xr;refine AW6 (m:=A5) ATa ATg (Ap.o2 p5) Ke Xq Xu λ_=>(ATs<|AGx<|AVn (λh'=>UpT [] Bt h') AG2 ?_);have Bf:UpT [] Bt Bt:=UpT.start all_nil;refine AGm<|AU2 rfl (AVd AVr rfl (AVg AU5 rfl Bf (λh' hb=>((Ap.b p6).ext hb.ext).cell (i:=1) rfl) (AGm ?_)));obtain ⟨AOc,Bu,Xw⟩:=AGr Xv;refine AVv ATb rfl (Ap.o2 p5) rfl Bu λAOd AOe AOf Xx Xy=>AVg ATq rfl Bf (λh' hb=>ATw Xy hb.ext) (AGm<|AGm<|AGm<|AU2 rfl (AVd AVr rfl (AVg AU5 rfl Bf (λh' hb=>((Ap.b p6).ext hb.ext).cell (i:=1) rfl) (AGm<|AVv ATb rfl (Ap.o2 p5) rfl Bu λAOg AOh AOi Xz X0=>AVg ATq rfl Bf (λh' hb=>ATw X0 hb.ext) (AGm ?_)))));obtain ⟨X3,Dd,X4⟩:=AGr Xw;refine AXj (m:=F8) ATa rfl (Ap.o2 p5) Xz Bu rfl Dd λAOj X5=>?_;obtain ⟨AOk,X6,X8⟩:=(Ap.o2 p5).cells X5 Bu Dd;obtain rfl:=X6;refine AVg ATg rfl Bf (λh' hb=>ATw (X8 0 _ rfl) hb.ext) (AGm<|AGm<|Aaq rfl rfl (ATn rfl rfl ?_));obtain ⟨Ya,Yb,Yc⟩:=AGr X4;have Yd:UpT [] Bt Bt:=UpT.start all_nil;refine ATo (K':=(λxr h'=> ∃ x:(Int),x=Ya/\xr=(.int .i64 x)/\Kst h h' (Ap.L)/\UpT [] Bt h')) Bf rfl ?_ λAOl AOm Ye=>?_
           ·refine cwf (l:=[_,_]) Tryz.func167 rfl rfl (AGq<|AT2<|AGm<|AGm<|AU2 rfl (AVd Aby rfl (AT6 AT9 rfl ((Ap.b p6).cell (i:=0) rfl) ?_)));obtain ⟨Yf,Yg⟩:=ifN Yb;refine Aah rfl rfl Yf (AVh rfl rfl (Acp rfl rfl AGn (AGx<|AG1<|⟨_,AS5,((Aaz .and .i64 (w64<|X3 + (w64<|Gb * Xt))<|w64<|(w64<|1 * 2 ^ Int.toNat Ag) - 1):(Int)),?_,rfl,?_,?_⟩)))
            ·exact AGo Yg
            ·exact Ap
            ·exact Yd
           obtain ⟨Yh,Yi,rfl,Kf,Yj⟩:=Ye;refine ⟨(Bf.then Yj all_nil),?_⟩;subst Yi;refine AXj (m:=F8) ATa rfl (Ap.o2 p5) Xx Bu rfl Dd λAOn Yk=>Afl (m:=F8) (Aem ATg rfl rfl rfl) (Kf.o2 p5) Yk Bu Dd (show ((cI .i64)).rep _ Yh _ from rfl) λAOo Yl Ym=>ATu<|q_b<|q_t<|AS8<|ATn rfl rfl (AGm<|AGu ?_);exact ⟨_,(AGo Yc).symm,(Kf.uO2 p5 Ym Yl),rfl,trivial⟩
          ·refine ATh<|ATi<|ATi<|AUf<|⟨_,Aa0,((Xo,Wm):(LiI) × (LiI)),?_,rfl,?_⟩
           ·exact AGo<|Xp _ (AGo<|AT5 Gq Gr).symm
           ·exact Ap
        obtain ⟨⟨AOp,AOq⟩,Yn,rfl,Yo⟩:=Wi;refine ⟨trivial,?_⟩;subst Yn;refine ATu<|q_b<|q_t<|AS8<|AGm<|ATn rfl rfl (AGx ?_);exact ⟨_,(AGo Wh).symm,Yo,rfl,trivial⟩
       ·refine ATh<|ATi<|ATi<|AUf<|⟨_,Aa0,((Vs,Vt):(LiI) × (LiI)),?_,rfl,?_⟩
        ·exact AGo<|Vu _ (AGo<|AT5 F9 Ga).symm
        ·exact Ba
      obtain ⟨⟨Yp,Yq⟩,Yr,rfl,Gt⟩:=Vp;refine ⟨trivial,?_⟩;subst Yr;refine Aal<|Abd [(.int .i64 Aa),(.int .i64 Aw),(.int .i64<|Ak / 2 ^ Int.toNat Aa),(.int .i64 0),(.int .i64 0)] Aag rfl rfl (Gt.b p0).agg (AVa [(.int .i64 Aa),(.int .i64 Aw),(.int .i64<|Ak / 2 ^ Int.toNat Aa),(.int .i64 0),(.int .i64 0)] Aag rfl rfl rfl rfl (by simp [isOne]) (Gt.b p1) λAOr Ys Yt=>AGu<|AG1<|ATd ?_);have Kg:=Gt.sb p1 Yt Ys rfl;refine ⟨_,AVk Aag rfl rfl (Kg.b p1),((Aa,Aw,(Ak / 2 ^ Int.toNat Aa),0,0,Yp,Ah,Ai,Aj,Yq):(Int) × (Int) × (Int) × (Int) × (Int) × (LiI) × LnA × LnN × LvA × (LiI)),?_,rfl,?_⟩
      ·exact AGo Vo
      ·exact Kg.sel [2,3,4,5,6,7] AGn
     ·refine AG0<|q_t<|AGq<|AGm<|AU2 rfl (AUs AVr AU5 (A9.b p6) 1 rfl (AGm<|AUo ATb ATq (A9.o2 p5) Da λ_ AOs Yu=>AGm<|ATn rfl rfl ?_));obtain ⟨Ax,Yv,Yw⟩:=AGr<|AT5 J3 Fz;refine AW6 (m:=A5) ATa ATg (A9.o2 p5) Yu Da Yv λ_=>(AGm ?_);obtain ⟨Yx,Yy⟩:=ifN Yw;refine Aqj rfl rfl Yx (AVd Ac2 rfl (Ai5 [(.int .i64 Aa),(.int .i64 Aw),(.int .i64<|Ak / 2 ^ Int.toNat Aa),(.int .i64<|Ax / 2 ^ Int.toNat Aa),(.int .i64 0)] ATg rfl rfl rfl (A9.b p0) (Nat.le_of_ble_eq_true rfl) rfl λAOt Yz Y1=>Aal ?_));have Cj:=A9.sb p0 Y1 Yz rfl;refine AGm<|AU2 rfl (AUs AVr AU5 (Cj.b p6) 1 rfl (AGm<|ATn rfl rfl ?_));obtain ⟨AOu,Kh,Y2⟩:=AGr Yy;refine AUo ATb ATq (Cj.o2 p5) Kh λ_ AOv Y3=>AGm<|ATn rfl rfl ?_;obtain ⟨Bb,Y4,Y5⟩:=AGr Y2;refine AW6 (m:=(w64<|A5 + 1)) ATa ATg (Cj.o2 p5) Y3 Kh Y4 λ_=>(AGm ?_);obtain ⟨Y6,Y7⟩:=ifN Y5;refine Aqj rfl rfl Y6 (AVd Ahc rfl (Ai5 [(.int .i64 Aa),(.int .i64 Aw),(.int .i64<|Ak / 2 ^ Int.toNat Aa),(.int .i64<|Ax / 2 ^ Int.toNat Aa),(.int .i64<|Bb / 2 ^ Int.toNat Aa)] ATg rfl rfl rfl (Cj.b p0) (Nat.le_of_ble_eq_true rfl) rfl λAOw Y8 Y9=>Aal<|AGm<|AGm<|AGm ?_));have Gu:=Cj.sb p0 Y9 Y8 rfl;refine Abd [(.int .i64 Aa),(.int .i64 Aw),(.int .i64<|Ak / 2 ^ Int.toNat Aa),(.int .i64<|Ax / 2 ^ Int.toNat Aa),(.int .i64<|Bb / 2 ^ Int.toNat Aa)] Aag rfl rfl (Gu.b p0).agg ?_;obtain ⟨Za,Zd,Ze⟩:=AGr Y7;refine ATo (K':=(λxr h'=> ∃ x:(LiI) × (LiI),(x.1,x.2)=Za/\xr= .tuple #[]/\Kst h h' ((Gu.L.set 5<|aO2 (cI .i64) 61 2 Ah Ai Aj Ab x.1).set 4 (aO2 (cI .i64) 61 2 Ad Ae Af Ac x.2)))) trivial rfl ?_ λAOx AOy Zf=>?_
      ·refine cwf (l:=[_,_,_,_]) Tryz.func114 rfl rfl (AGq<|AY3 Gu [(.int .i64 Aa),(.int .i64 Aw),(.int .i64<|Ak / 2 ^ Int.toNat Aa),(.int .i64<|Ax / 2 ^ Int.toNat Aa),(.int .i64<|Bb / 2 ^ Int.toNat Aa)] λAOz AO0 AO1 Bg=>Aal<|AGm<|AGm<|AUs Ac1 ATg (Bg.b p0) 2 rfl (AUs Ahc ATg (Bg.b p0) 4 rfl (Aaq rfl rfl (AUs Ac2 ATg (Bg.b p0) 3 rfl (AUs Ac2 ATg (Bg.b p0) 3 rfl (Aaq rfl rfl (AVh rfl rfl ?_)))))));obtain ⟨Zg,Zh,Zj⟩:=AGr Zd;refine ATo (K':=(λxr h'=> ∃ x:(Int),x=Zg/\xr=(.int .i64 x)/\Kst h h' (Bg.L))) trivial rfl ?_ λAO2 AO3 Zk=>?_
       ·refine cwf (l:=[_,_]) Tryz.func167 rfl rfl (AGq<|AT2<|AGm<|AGm<|AU2 rfl (AUs Aby AT9 (Bg.b p7) 0 rfl ?_));obtain ⟨Zl,Zm⟩:=ifN Zh;refine Aah rfl rfl Zl (AVh rfl rfl (Acp rfl rfl AGn (AGx<|AG1<|⟨_,AS5,((Aaz .and .i64 (w64<|(w64<|(Ak / 2 ^ Int.toNat Aa) * (Bb / 2 ^ Int.toNat Aa)) - (w64<|(Ax / 2 ^ Int.toNat Aa) * (Ax / 2 ^ Int.toNat Aa)))<|w64<|(w64<|1 * 2 ^ Int.toNat Ag) - 1):(Int)),?_,rfl,?_⟩)))
        ·exact AGo Zm
        ·exact Bg
       obtain ⟨Ki,Zn,rfl,Kj⟩:=Zk;refine ⟨trivial,?_⟩;subst Zn;obtain ⟨Zo,Zp,Zq⟩:=AGr Zj;refine ATo (K':=(λxr h'=> ∃ x:(Int),x=Zo/\xr=(.int .i64 x)/\Kst h h' (Kj.L))) trivial rfl ?_ λAO4 AO5 Zr=>?_
       ·refine cwf (l:=[_,_]) Tryz.func113 rfl rfl (AGq<|AT2<|AGm<|Ar3 (κ:= .i64) [Ki] ATa Abm rfl rfl trivial tt2 rfl rfl rfl rfl λZs Zt AO6 Zu Zv Zw Zx=>?_);have Gv:=Kj.no Zv (AYh Zw Zx) Zu;refine Apq (c:=(cI .i64)) (el:=2) [[Zs]] [Zt] [([Ki]:List Int)] ATb Aet rfl rfl trivial tt2 rfl rfl rfl rfl (Aac (Gv.o p0).isOne Al2) ⟨(Gv.o p0),trivial⟩ AT7 λAO7 AO8 AO9 Zy Zz Z1=>?_;have Gw:=(((Gv.a0).grab p0)).lit Zz Zy (by simpa using Z1);refine AGm<|AU2 rfl (AUs Aby AT9 (Gw.b p9) 0 rfl ?_);obtain ⟨Z4,AAa⟩:=ifN Zp;refine Aah rfl rfl Z4 ?_;obtain ⟨⟨APa,APb⟩,AAb,Kk⟩:=AGr AAa;dsimp only at Kk;refine Agw rfl (Aj0 (Gw.o2 p0).rd AAb) λAPc APd AAc AAd=>?_;obtain ⟨APe,APf,APg,APh,rfl,AAe,AAf⟩:=AAd;refine AGm<|AUk rfl rfl (AUk rfl rfl (ATs<|AT2<|AGm ?_));have Gx:=Gw.no2 AAc AAf AAe;obtain ⟨APi,Kl,AAg⟩:=AGr Kk;refine AUo ATb ATq (Gx.o2 p0) Kl λ_ APj AAh=>?_;obtain ⟨AAi,AAj,AAk⟩:=AGr AAg;refine AW6 (m:=0) ATa ATg (Gx.o2 p0) AAh Kl AAj λ_=>(AGx<|AG1<|⟨_,AS5,(AAi:(Int)),?_,rfl,?_⟩)
        ·exact AGo AAk
        ·exact Gx.sel [3,4,5,6,7,8,9,10,11] AGn
       obtain ⟨Km,AAl,rfl,Kn⟩:=Zr;refine ⟨trivial,?_⟩;subst AAl;refine AT2<|AGm<|ATn rfl rfl (AGx<|AGt<|AYr 81129638414606681695786857676288 Zq (λx=>[(9,(.int .i64 x.1))]) (λx=>(Kn.L.set 6<|aO2 (cI .i64) 61 2 Ah Ai Aj Ab x.2.1).set 5 (aO2 (cI .i64) 61 2 Ad Ae Af Ac x.2.2)) Kn ⟨rfl,trivial⟩ ?_);rintro ⟨Bv,AAm,AAn⟩ APk APl APm Am Gy AAo;unfold Ach at Gy;refine AGs<|AGq<|AGm<|AGm<|AU2 rfl (AUs AVr AU5 (Am.b p7) 1 rfl (AT3 ATb rfl (Am.o2 p6).rd (ATp rfl rfl (AGu<|⟨_,rfl,λGz=>?_,λGz=>?_⟩))))
       ·refine AG0<|q_t<|AGs<|AGt<|AGs<|AXi<|AGm<|AU2 rfl (AUs AVr AU5 (Am.b p7) 1 rfl (AGm ?_));obtain ⟨APn,Ko,AAp⟩:=AGr<|AT4 Gy Gz;refine AUo ATb ATq (Am.o2 p6) Ko λ_ APo AAq=>AGm ?_;obtain ⟨Kp,AAr,AAs⟩:=AGr AAp;refine AW6 (m:=A5) ATa ATg (Am.o2 p6) AAq Ko AAr λ_=>(AGm ?_);obtain ⟨AAt,AAu⟩:=ifN AAs;refine Aqj rfl rfl AAt (AGm<|AU2 rfl (AUs AVr AU5 (Am.b p7) 1 rfl (AGm<|ATn rfl rfl ?_)));obtain ⟨APp,Kr,AAv⟩:=AGr AAu;refine AUo ATb ATq (Am.o2 p6) Kr λ_ APq AAw=>AGm ?_;obtain ⟨Kt,AAx,AAy⟩:=AGr AAv;refine AW6 (m:=(w64<|A5 + 1)) ATa ATg (Am.o2 p6) AAw Kr AAx λ_=>(AGm ?_);obtain ⟨AAz,AA0⟩:=ifN AAy;refine Aqj rfl rfl AAz (ATs<|AT2<|AGm<|AUs Ac2 ATg (Am.b p0) 3 rfl (AGm<|Aaq rfl rfl (AUs Ahc ATg (Am.b p0) 4 rfl (AGm<|Aaq rfl rfl (AVh rfl rfl ?_)))));obtain ⟨AA1,AA2,AA3⟩:=AGr AA0;refine ATo (K':=(λxr h'=> ∃ x:(Int),x=AA1/\xr=(.int .i64 x)/\Kst h h' (Am.L))) trivial rfl ?_ λAPr APs AA4=>?_
        ·refine cwf (l:=[_,_]) Tryz.func167 rfl rfl (AGq<|AT2<|AGm<|AGm<|AU2 rfl (AUs Aby AT9 (Am.b p7) 0 rfl ?_));obtain ⟨AA5,AA6⟩:=ifN AA2;refine Aah rfl rfl AA5 (AVh rfl rfl (Acp rfl rfl AGn (AGx<|AG1<|⟨_,AS5,((Aaz .and .i64 (w64<|(w64<|(Ax / 2 ^ Int.toNat Aa) * (Kt / 2 ^ Int.toNat Aa)) - (w64<|(Bb / 2 ^ Int.toNat Aa) * (Kp / 2 ^ Int.toNat Aa)))<|w64<|(w64<|1 * 2 ^ Int.toNat Ag) - 1):(Int)),?_,rfl,?_⟩)))
         ·exact AGo AA6
         ·exact Am
        obtain ⟨AA7,AA8,rfl,Ck⟩:=AA4;refine ⟨trivial,?_⟩;subst AA8;refine AGm<|Aaq rfl rfl (AT2<|AGm<|AUs Ac2 ATg (Ck.b p0) 3 rfl (AGm<|Aaq rfl rfl (AUs Ac1 ATg (Ck.b p0) 2 rfl (AGm<|Aaq rfl rfl (AVh rfl rfl ?_)))));obtain ⟨AA9,ABa,ABb⟩:=AGr AA3;refine ATo (K':=(λxr h'=> ∃ x:(Int),x=AA9/\xr=(.int .i64 x)/\Kst h h' (Ck.L))) trivial rfl ?_ λAPt APu ABc=>?_
        ·refine cwf (l:=[_,_]) Tryz.func167 rfl rfl (AGq<|AT2<|AGm<|AGm<|AU2 rfl (AUs Aby AT9 (Ck.b p7) 0 rfl ?_));obtain ⟨ABd,ABe⟩:=ifN ABa;refine Aah rfl rfl ABd (AVh rfl rfl (Acp rfl rfl AGn (AGx<|AG1<|⟨_,AS5,((Aaz .and .i64 (w64<|(w64<|(Ax / 2 ^ Int.toNat Aa) * (Kp / 2 ^ Int.toNat Aa)) - (w64<|(Ak / 2 ^ Int.toNat Aa) * (Kt / 2 ^ Int.toNat Aa)))<|w64<|(w64<|1 * 2 ^ Int.toNat Ag) - 1):(Int)),?_,rfl,?_⟩)))
         ·exact AGo ABe
         ·exact Ck
        obtain ⟨ABf,ABg,rfl,G3⟩:=ABc;refine ⟨trivial,?_⟩;subst ABg;refine AGm<|Aaq rfl rfl (AT2<|AGm<|AGm<|AGm<|AGm<|AGm ?_);obtain ⟨ABh,ABi,ABj⟩:=AGr ABb;refine ATo (K':=(λxr h'=> ∃ x:(Int),x=ABh/\xr=(.int .i64 x)/\Kst h h' (G3.L))) trivial rfl ?_ λAPv APw ABk=>?_
        ·refine cwf (l:=[_,_]) Tryz.func167 rfl rfl (AGq<|AT2<|AGm<|AGm<|AU2 rfl (AUs Aby AT9 (G3.b p7) 0 rfl ?_));obtain ⟨ABl,ABm⟩:=ifN ABi;refine Aah rfl rfl ABl (AVh rfl rfl (Acp rfl rfl AGn (AGx<|AG1<|⟨_,AS5,((Aaz .and .i64 (w64<|AA7 * Km)<|w64<|(w64<|1 * 2 ^ Int.toNat Ag) - 1):(Int)),?_,rfl,?_⟩)))
         ·exact AGo ABm
         ·exact G3
        obtain ⟨G4,ABn,rfl,Bw⟩:=ABk;refine ⟨trivial,?_⟩;subst ABn;obtain ⟨ABo,ABp,ABq⟩:=AGr ABj;refine ATo (K':=(λxr h'=> ∃ x:(LiI) × (LiI),(x.1,x.2)=ABo/\xr= .tuple #[]/\Kst h h' ((Bw.L.set 6<|aO2 (cI .i64) 61 2 Ah Ai Aj Ab x.1).set 5 (aO2 (cI .i64) 61 2 Ad Ae Af Ac x.2)))) trivial rfl ?_ λAPx APy ABr=>?_
        ·refine cwf (l:=[_,_,_,_]) Tryz.func166 rfl rfl (AGs<|AGs<|AXi<|AGm<|AU2 rfl (AUs AVr AU5 (Bw.b p7) 1 rfl (AGm<|AU2 rfl (AUs Ajq AU5 (Bw.b p7) 2 rfl (Ar6 Abz Aw2 rfl trivial tt2 rfl (Bw.o2 p6).isOne (Bw.o2 p5).isOne λAPz AP0 ABs ABt ABu=>Aoo Abz rfl (AGm<|AGu<|AGt ?_))))));have Ku:=Bw.nb ABt ABu ABs;refine AYr 4503599610595840 ABp (λx=>[(24,(.int .i64 x.1))]) (λx=>(Ku.L.set 7<|aO2 (cI .i64) 61 2 Ah Ai Aj Ab x.2.1).set 6 (aO2 (cI .i64) 61 2 Ad Ae Af Ac x.2.2)) Ku ⟨rfl,trivial⟩ ?_;rintro ⟨Kv,AP1,ABv⟩ AP2 AP3 AP4 Aq G5 ABw;unfold AYb at G5;refine AGq<|ATp rfl rfl (AGu<|AGs<|⟨_,rfl,λG6=>?_,λG6=>?_⟩)
         ·refine AG0<|q_t<|AGs<|AGt<|AGq ?_;have Kw:=AT4 G5 G6;by_cases G7:Kv=0
          ·refine Aob 0 Abz rfl rfl G7 AGn (AT6 AU5 rfl ((Aq.b p0).cell (i:=0) rfl) (AT2<|AGm<|AT3 ATb rfl (Aq.o2 p7).rd (AGm<|AGu<|AGt<|AYr 2251798739945472 (ifT Kw G7) (λx=>[(30,(.int .i64 x.1))]) (λx=>Aq.L.set 7<|aO2 (cI .i64) 61 2 Ah Ai Aj Ab x.2) Aq ⟨rfl,trivial⟩ ?_)));rintro ⟨G8,AP5⟩ AP6 AP7 AP8 Bh G9 ABx;unfold Aca at G9;refine AGq<|ATp rfl rfl (AGu<|AGs<|⟨_,rfl,λHb=>?_,λHb=>?_⟩)
           ·refine AG0<|q_t<|AGs<|AGt<|AGq ?_;obtain ⟨AP9,De,ABy⟩:=AGr<|AT4 G9 Hb;refine AUo ATb ATq (Bh.o2 p7) De λ_ AQa Hc=>AGx<|AXi<|AGm<|AGm<|AGm<|AGm<|AGm ?_;obtain ⟨ABz,Kx,AB0⟩:=AGr ABy;refine AW6 (m:=G8) ATa ATg (Bh.o2 p7) Hc De Kx λ_=>(AGm<|AGm<|AGm ?_);obtain ⟨AB1,AB2,AB3⟩:=AGr AB0;refine AW6 (m:=G8) ATa ATg (Bh.o2 p7) Hc De AB2 λ_=>(Aaq rfl rfl (ATn rfl rfl ?_));obtain ⟨AB4,AB5,AB6⟩:=AGr AB3;refine ATo (K':=(λxr h'=> ∃ x:(Int),x=AB4/\xr=(.int .i64 x)/\Kst h h' (Bh.L))) trivial rfl ?_ λAQb AQc AB7=>?_
            ·refine cwf (l:=[_,_]) Tryz.func167 rfl rfl (AGq<|AT2<|AGm<|AGm<|AU2 rfl (AUs Aby AT9 (Bh.b p8) 0 rfl ?_));obtain ⟨AB8,AB9⟩:=ifN AB5;refine Aah rfl rfl AB8 (AVh rfl rfl (Acp rfl rfl AGn (AGx<|AG1<|⟨_,AS5,((Aaz .and .i64 (w64<|ABz + (w64<|G4 * AB1))<|w64<|(w64<|1 * 2 ^ Int.toNat Ag) - 1):(Int)),?_,rfl,?_⟩)))
             ·exact AGo AB9
             ·exact Bh
            obtain ⟨AQd,ACa,rfl,ACb⟩:=AB7;refine ⟨trivial,?_⟩;subst ACa;refine AZ0 (m:=G8) ACb p7 ATa ATg Hc De Kx (λ_=>rfl) λ_ AQe ACc=>ATu<|q_b<|q_t<|AS8<|ATn rfl rfl (AGm<|AGu ?_);exact ⟨_,(AGo AB6).symm,ACc,rfl,trivial⟩
           ·refine ATh<|ATi<|ATi<|AUf<|q_b<|q_t<|AS8<|ATn rfl rfl (AGm<|AGu ?_);exact ⟨_,(AGo<|ABx _ (AGo<|AT5 G9 Hb).symm).symm,Bh,rfl,trivial⟩
          ·have Ky:=ifF Kw G7;by_cases Hd:Kv=1
           ·refine Aob 1 Abz rfl rfl Hd AGn (AT6 AU5 rfl ((Aq.b p0).cell (i:=1) rfl) (AT2<|AGm<|AT3 ATb rfl (Aq.o2 p6).rd (AGm<|AGu<|AGt<|AYr 2251798739945472 (ifT Ky Hd) (λx=>[(30,(.int .i64 x.1))]) (λx=>Aq.L.set 6<|aO2 (cI .i64) 61 2 Ad Ae Af Ac x.2) Aq ⟨rfl,trivial⟩ ?_)));rintro ⟨He,AQf⟩ AQg AQh AQi Bi Hf ACd;unfold Acb at Hf;refine AGq<|ATp rfl rfl (AGu<|AGs<|⟨_,rfl,λHg=>?_,λHg=>?_⟩)
            ·refine AG0<|q_t<|AGs<|AGt<|AGq ?_;obtain ⟨AQj,Df,ACe⟩:=AGr<|AT4 Hf Hg;refine AUo ATb ATq (Bi.o2 p6) Df λ_ AQk Hh=>AGx<|AXi<|AGm<|AGm<|AGm<|AGm<|AGm ?_;obtain ⟨ACf,Kz,ACg⟩:=AGr ACe;refine AW6 (m:=He) ATa ATg (Bi.o2 p6) Hh Df Kz λ_=>(AGm<|AGm<|AGm ?_);obtain ⟨ACh,ACi,ACj⟩:=AGr ACg;refine AW6 (m:=He) ATa ATg (Bi.o2 p6) Hh Df ACi λ_=>(Aaq rfl rfl (ATn rfl rfl ?_));obtain ⟨ACk,ACl,ACm⟩:=AGr ACj;refine ATo (K':=(λxr h'=> ∃ x:(Int),x=ACk/\xr=(.int .i64 x)/\Kst h h' (Bi.L))) trivial rfl ?_ λAQl AQm ACn=>?_
             ·refine cwf (l:=[_,_]) Tryz.func167 rfl rfl (AGq<|AT2<|AGm<|AGm<|AU2 rfl (AUs Aby AT9 (Bi.b p8) 0 rfl ?_));obtain ⟨ACo,ACp⟩:=ifN ACl;refine Aah rfl rfl ACo (AVh rfl rfl (Acp rfl rfl AGn (AGx<|AG1<|⟨_,AS5,((Aaz .and .i64 (w64<|ACf + (w64<|G4 * ACh))<|w64<|(w64<|1 * 2 ^ Int.toNat Ag) - 1):(Int)),?_,rfl,?_⟩)))
              ·exact AGo ACp
              ·exact Bi
             obtain ⟨AQn,ACq,rfl,ACr⟩:=ACn;refine ⟨trivial,?_⟩;subst ACq;refine AZ0 (m:=He) ACr p6 ATa ATg Hh Df Kz (λ_=>rfl) λ_ AQo ACs=>ATu<|q_b<|q_t<|AS8<|ATn rfl rfl (AGm<|AGu ?_);exact ⟨_,(AGo ACm).symm,ACs,rfl,trivial⟩
            ·refine ATh<|ATi<|ATi<|AUf<|q_b<|q_t<|AS8<|ATn rfl rfl (AGm<|AGu ?_);exact ⟨_,(AGo<|ACd _ (AGo<|AT5 Hf Hg).symm).symm,Bi,rfl,trivial⟩
           ·have ACt:=ifF Ky Hd;cases ACt
         ·refine ATh<|ATi<|ATi<|AUf<|q_t<|AGq<|AGm<|AU2 rfl (AUs AVr AU5 (Aq.b p8) 1 rfl (AGm ?_));obtain ⟨AQp,La,ACu⟩:=AGr<|ABw _ (AGo<|AT5 G5 G6).symm;refine AUo ATb ATq (Aq.o2 p7) La λ_ AQq Lb=>AUl ATa rfl ((Aq.o2 p7).rowI Lb La) (AGm<|AGu<|AGt ?_);have Hj:=Aq.sel [1,2,3,4,5,6,7,8,9] AGn;dsimp only [AZ3,Adk] at Hj;refine AYr 2475880077417839045191413760 ACu (λx=>[(60,(.int .i64 x.1))]) (λx=>Hj.L.set 6<|aO2 (cI .i64) 61 2 Ah Ai Aj Ab x.2) Hj ⟨rfl,trivial⟩ ?_;rintro ⟨AQr,ACv⟩ AQs Bx AQt Ar Hk ACw;unfold Acd at Hk;refine AGq<|ATp rfl rfl (AGu<|AGs<|⟨_,rfl,λHl=>?_,λHl=>?_⟩)
          ·refine AG0<|q_t<|AGs<|AGt<|AGq<|AGm ?_;obtain ⟨AQu,ACx,ACy⟩:=AGr<|AT4 Hk Hl;obtain ⟨ACz,AC0,AC1⟩:=AGr ACy;refine AW6 (m:=A5) ATa ATg (Ar.o2 p6) Lb ACx AC0 λ_=>(ATs<|AGx<|AVn (λh'=>UpT [] Bx h') AG2 ?_);have Bj:UpT [] Bx Bx:=UpT.start all_nil;refine AGm<|AU2 rfl (AVd AVr rfl (AVg AU5 rfl Bj (λh' hb=>((Ar.b p7).ext hb.ext).cell (i:=1) rfl) (AGm ?_)));obtain ⟨AQv,By,AC2⟩:=AGr AC1;refine AVv ATb rfl (Ar.o2 p6) rfl By λAQw AQx AQy AC3 AC4=>AVg ATq rfl Bj (λh' hb=>ATw AC4 hb.ext) (AGm<|AGm<|AGm<|AU2 rfl (AVd AVr rfl (AVg AU5 rfl Bj (λh' hb=>((Ar.b p7).ext hb.ext).cell (i:=1) rfl) (AGm<|AVv ATb rfl (Ar.o2 p6) rfl By λAQz AQ0 AQ1 AC5 AC6=>AVg ATq rfl Bj (λh' hb=>ATw AC6 hb.ext) (AGm ?_)))));obtain ⟨AC7,Dg,AC8⟩:=AGr AC2;refine AXj (m:=Bv) ATa rfl (Ar.o2 p6) AC5 By rfl Dg λAQ2 AC9=>?_;obtain ⟨AQ3,ADa,ADb⟩:=(Ar.o2 p6).cells AC9 By Dg;obtain rfl:=ADa;refine AVg ATg rfl Bj (λh' hb=>ATw (ADb 0 _ rfl) hb.ext) (AGm<|AGm<|Aaq rfl rfl (ATn rfl rfl ?_));obtain ⟨ADc,ADd,ADe⟩:=AGr AC8;have ADf:UpT [] Bx Bx:=UpT.start all_nil;refine ATo (K':=(λxr h'=> ∃ x:(Int),x=ADc/\xr=(.int .i64 x)/\Kst h h' (Ar.L)/\UpT [] Bx h')) Bj rfl ?_ λAQ4 AQ5 ADg=>?_
           ·refine cwf (l:=[_,_]) Tryz.func167 rfl rfl (AGq<|AT2<|AGm<|AGm<|AU2 rfl (AVd Aby rfl (AT6 AT9 rfl ((Ar.b p7).cell (i:=0) rfl) ?_)));obtain ⟨ADh,ADi⟩:=ifN ADd;refine Aah rfl rfl ADh (AVh rfl rfl (Acp rfl rfl AGn (AGx<|AG1<|⟨_,AS5,((Aaz .and .i64 (w64<|AC7 + (w64<|G4 * ACz))<|w64<|(w64<|1 * 2 ^ Int.toNat Ag) - 1):(Int)),?_,rfl,?_,?_⟩)))
            ·exact AGo ADi
            ·exact Ar
            ·exact ADf
           obtain ⟨ADj,ADk,rfl,Lc,ADl⟩:=ADg;refine ⟨(Bj.then ADl all_nil),?_⟩;subst ADk;refine AXj (m:=Bv) ATa rfl (Ar.o2 p6) AC3 By rfl Dg λAQ6 ADm=>Afl (m:=Bv) (Aem ATg rfl rfl rfl) (Lc.o2 p6) ADm By Dg (show ((cI .i64)).rep _ ADj _ from rfl) λAQ7 ADn ADo=>ATu<|q_b<|q_t<|AS8<|ATn rfl rfl (AGm<|AGu ?_);exact ⟨_,(AGo ADe).symm,(Lc.uO2 p6 ADo ADn),rfl,trivial⟩
          ·refine ATh<|ATi<|ATi<|AUf<|⟨_,Aa0,((ACv,ABv):(LiI) × (LiI)),?_,rfl,?_⟩
           ·exact AGo<|ACw _ (AGo<|AT5 Hk Hl).symm
           ·exact Ar
        obtain ⟨⟨AQ8,AQ9⟩,ADp,rfl,Hm⟩:=ABr;refine ⟨trivial,?_⟩;subst ADp;refine AGu<|AS8<|AGm<|AGm<|AGm<|ATn rfl rfl (AGm<|AGm ?_);obtain ⟨ADq,ADr,ADs⟩:=AGr ABq;refine ATo (K':=(λxr h'=> ∃ x:(Int),x=ADq/\xr=(.int .i64 x)/\Kst h h' (Hm.L))) trivial rfl ?_ λARa ARb ADt=>?_
        ·refine cwf (l:=[_,_]) Tryz.func167 rfl rfl (AGq<|AT2<|AGm<|AGm<|AU2 rfl (AUs Aby AT9 (Hm.b p7) 0 rfl ?_));obtain ⟨ADu,ADv⟩:=ifN ADr;refine Aah rfl rfl ADu (AVh rfl rfl (Acp rfl rfl AGn (AGx<|AG1<|⟨_,AS5,((Aaz .and .i64 (w64<|ABf * Km)<|w64<|(w64<|1 * 2 ^ Int.toNat Ag) - 1):(Int)),?_,rfl,?_⟩)))
         ·exact AGo ADv
         ·exact Hm
        obtain ⟨Hn,ADw,rfl,Bz⟩:=ADt;refine ⟨trivial,?_⟩;subst ADw;obtain ⟨ADx,ADy,ADz⟩:=AGr ADs;refine ATo (K':=(λxr h'=> ∃ x:(LiI) × (LiI),(x.1,x.2)=ADx/\xr= .tuple #[]/\Kst h h' ((Bz.L.set 6<|aO2 (cI .i64) 61 2 Ah Ai Aj Ab x.1).set 5 (aO2 (cI .i64) 61 2 Ad Ae Af Ac x.2)))) trivial rfl ?_ λARc ARd AD0=>?_
        ·refine cwf (l:=[_,_,_,_]) Tryz.func166 rfl rfl (AGs<|AGs<|AXi<|AGm<|AU2 rfl (AUs AVr AU5 (Bz.b p7) 1 rfl (AGm<|AU2 rfl (AUs Ajq AU5 (Bz.b p7) 2 rfl (Ar6 Abz Aw2 rfl trivial tt2 rfl (Bz.o2 p6).isOne (Bz.o2 p5).isOne λARe ARf AD1 AD2 AD3=>Aoo Abz rfl (AGm<|AGu<|AGt ?_))))));have Ld:=Bz.nb AD2 AD3 AD1;refine AYr 4503599610595840 ADy (λx=>[(24,(.int .i64 x.1))]) (λx=>(Ld.L.set 7<|aO2 (cI .i64) 61 2 Ah Ai Aj Ab x.2.1).set 6 (aO2 (cI .i64) 61 2 Ad Ae Af Ac x.2.2)) Ld ⟨rfl,trivial⟩ ?_;rintro ⟨Le,ARg,AD4⟩ ARh ARi ARj Au Ho AD5;unfold AYc at Ho;refine AGq<|ATp rfl rfl (AGu<|AGs<|⟨_,rfl,λHq=>?_,λHq=>?_⟩)
         ·refine AG0<|q_t<|AGs<|AGt<|AGq ?_;have Lf:=AT4 Ho Hq;by_cases Hr:Le=0
          ·refine Aob 0 Abz rfl rfl Hr AGn (AT6 AU5 rfl ((Au.b p0).cell (i:=0) rfl) (AT2<|AGm<|AT3 ATb rfl (Au.o2 p7).rd (AGm<|AGu<|AGt<|AYr 2251798739945472 (ifT Lf Hr) (λx=>[(30,(.int .i64 x.1))]) (λx=>Au.L.set 7<|aO2 (cI .i64) 61 2 Ah Ai Aj Ab x.2) Au ⟨rfl,trivial⟩ ?_)));rintro ⟨Hs,ARk⟩ ARl ARm ARn Bl Ht AD6;unfold Ace at Ht;refine AGq<|ATp rfl rfl (AGu<|AGs<|⟨_,rfl,λHu=>?_,λHu=>?_⟩)
           ·refine AG0<|q_t<|AGs<|AGt<|AGq ?_;obtain ⟨ARo,Dh,AD7⟩:=AGr<|AT4 Ht Hu;refine AUo ATb ATq (Bl.o2 p7) Dh λ_ ARp Hv=>AGx<|AXi<|AGm<|AGm<|AGm<|AGm<|AGm ?_;obtain ⟨AD8,Lg,AD9⟩:=AGr AD7;refine AW6 (m:=Hs) ATa ATg (Bl.o2 p7) Hv Dh Lg λ_=>(AGm<|AGm<|AGm ?_);obtain ⟨AEa,AEb,AEc⟩:=AGr AD9;refine AW6 (m:=Hs) ATa ATg (Bl.o2 p7) Hv Dh AEb λ_=>(Aaq rfl rfl (ATn rfl rfl ?_));obtain ⟨AEd,AEe,AEf⟩:=AGr AEc;refine ATo (K':=(λxr h'=> ∃ x:(Int),x=AEd/\xr=(.int .i64 x)/\Kst h h' (Bl.L))) trivial rfl ?_ λARq ARr AEg=>?_
            ·refine cwf (l:=[_,_]) Tryz.func167 rfl rfl (AGq<|AT2<|AGm<|AGm<|AU2 rfl (AUs Aby AT9 (Bl.b p8) 0 rfl ?_));obtain ⟨AEh,AEi⟩:=ifN AEe;refine Aah rfl rfl AEh (AVh rfl rfl (Acp rfl rfl AGn (AGx<|AG1<|⟨_,AS5,((Aaz .and .i64 (w64<|AD8 + (w64<|Hn * AEa))<|w64<|(w64<|1 * 2 ^ Int.toNat Ag) - 1):(Int)),?_,rfl,?_⟩)))
             ·exact AGo AEi
             ·exact Bl
            obtain ⟨ARs,AEj,rfl,AEk⟩:=AEg;refine ⟨trivial,?_⟩;subst AEj;refine AZ0 (m:=Hs) AEk p7 ATa ATg Hv Dh Lg (λ_=>rfl) λ_ ARt AEl=>ATu<|q_b<|q_t<|AS8<|ATn rfl rfl (AGm<|AGu ?_);exact ⟨_,(AGo AEf).symm,AEl,rfl,trivial⟩
           ·refine ATh<|ATi<|ATi<|AUf<|q_b<|q_t<|AS8<|ATn rfl rfl (AGm<|AGu ?_);exact ⟨_,(AGo<|AD6 _ (AGo<|AT5 Ht Hu).symm).symm,Bl,rfl,trivial⟩
          ·have Lh:=ifF Lf Hr;by_cases Hw:Le=1
           ·refine Aob 1 Abz rfl rfl Hw AGn (AT6 AU5 rfl ((Au.b p0).cell (i:=1) rfl) (AT2<|AGm<|AT3 ATb rfl (Au.o2 p6).rd (AGm<|AGu<|AGt<|AYr 2251798739945472 (ifT Lh Hw) (λx=>[(30,(.int .i64 x.1))]) (λx=>Au.L.set 6<|aO2 (cI .i64) 61 2 Ad Ae Af Ac x.2) Au ⟨rfl,trivial⟩ ?_)));rintro ⟨Hx,ARu⟩ ARv ARw ARx Bm Hy AEm;unfold Acf at Hy;refine AGq<|ATp rfl rfl (AGu<|AGs<|⟨_,rfl,λHz=>?_,λHz=>?_⟩)
            ·refine AG0<|q_t<|AGs<|AGt<|AGq ?_;obtain ⟨ARy,Di,AEn⟩:=AGr<|AT4 Hy Hz;refine AUo ATb ATq (Bm.o2 p6) Di λ_ ARz H5=>AGx<|AXi<|AGm<|AGm<|AGm<|AGm<|AGm ?_;obtain ⟨AEo,Li,AEp⟩:=AGr AEn;refine AW6 (m:=Hx) ATa ATg (Bm.o2 p6) H5 Di Li λ_=>(AGm<|AGm<|AGm ?_);obtain ⟨AEq,AEr,AEs⟩:=AGr AEp;refine AW6 (m:=Hx) ATa ATg (Bm.o2 p6) H5 Di AEr λ_=>(Aaq rfl rfl (ATn rfl rfl ?_));obtain ⟨AEt,AEu,AEv⟩:=AGr AEs;refine ATo (K':=(λxr h'=> ∃ x:(Int),x=AEt/\xr=(.int .i64 x)/\Kst h h' (Bm.L))) trivial rfl ?_ λAR0 AR1 AEw=>?_
             ·refine cwf (l:=[_,_]) Tryz.func167 rfl rfl (AGq<|AT2<|AGm<|AGm<|AU2 rfl (AUs Aby AT9 (Bm.b p8) 0 rfl ?_));obtain ⟨AEx,AEy⟩:=ifN AEu;refine Aah rfl rfl AEx (AVh rfl rfl (Acp rfl rfl AGn (AGx<|AG1<|⟨_,AS5,((Aaz .and .i64 (w64<|AEo + (w64<|Hn * AEq))<|w64<|(w64<|1 * 2 ^ Int.toNat Ag) - 1):(Int)),?_,rfl,?_⟩)))
              ·exact AGo AEy
              ·exact Bm
             obtain ⟨AR2,AEz,rfl,AE0⟩:=AEw;refine ⟨trivial,?_⟩;subst AEz;refine AZ0 (m:=Hx) AE0 p6 ATa ATg H5 Di Li (λ_=>rfl) λ_ AR3 AE1=>ATu<|q_b<|q_t<|AS8<|ATn rfl rfl (AGm<|AGu ?_);exact ⟨_,(AGo AEv).symm,AE1,rfl,trivial⟩
            ·refine ATh<|ATi<|ATi<|AUf<|q_b<|q_t<|AS8<|ATn rfl rfl (AGm<|AGu ?_);exact ⟨_,(AGo<|AEm _ (AGo<|AT5 Hy Hz).symm).symm,Bm,rfl,trivial⟩
           ·have AE2:=ifF Lh Hw;cases AE2
         ·refine ATh<|ATi<|ATi<|AUf<|q_t<|AGq<|AGm<|AU2 rfl (AUs AVr AU5 (Au.b p8) 1 rfl (AGm ?_));obtain ⟨AR4,Lj,AE3⟩:=AGr<|AD5 _ (AGo<|AT5 Ho Hq).symm;refine AUo ATb ATq (Au.o2 p7) Lj λ_ AR5 Lk=>AUl ATa rfl ((Au.o2 p7).rowI Lk Lj) (AGm<|AGu<|AGt ?_);have Ia:=Au.sel [1,2,3,4,5,6,7,8,9] AGn;dsimp only [AZ3,Adk] at Ia;refine AYr 2475880077417839045191413760 AE3 (λx=>[(60,(.int .i64 x.1))]) (λx=>Ia.L.set 6<|aO2 (cI .i64) 61 2 Ah Ai Aj Ab x.2) Ia ⟨rfl,trivial⟩ ?_;rintro ⟨AR6,AE4⟩ AR7 B1 AR8 Av Ib AE5;unfold Acg at Ib;refine AGq<|ATp rfl rfl (AGu<|AGs<|⟨_,rfl,λIc=>?_,λIc=>?_⟩)
          ·refine AG0<|q_t<|AGs<|AGt<|AGq<|AGm ?_;obtain ⟨AR9,AE6,AE7⟩:=AGr<|AT4 Ib Ic;obtain ⟨AE8,AE9,AFa⟩:=AGr AE7;refine AW6 (m:=(w64<|A5 + 1)) ATa ATg (Av.o2 p6) Lk AE6 AE9 λ_=>(ATs<|AGx<|AVn (λh'=>UpT [] B1 h') AG2 ?_);have Bn:UpT [] B1 B1:=UpT.start all_nil;refine AGm<|AU2 rfl (AVd AVr rfl (AVg AU5 rfl Bn (λh' hb=>((Av.b p7).ext hb.ext).cell (i:=1) rfl) (AGm ?_)));obtain ⟨ASa,B3,AFb⟩:=AGr AFa;refine AVv ATb rfl (Av.o2 p6) rfl B3 λASb ASc ASd AFc AFd=>AVg ATq rfl Bn (λh' hb=>ATw AFd hb.ext) (AGm<|AGm<|AGm<|AU2 rfl (AVd AVr rfl (AVg AU5 rfl Bn (λh' hb=>((Av.b p7).ext hb.ext).cell (i:=1) rfl) (AGm<|AVv ATb rfl (Av.o2 p6) rfl B3 λASe ASf ASg AFe AFf=>AVg ATq rfl Bn (λh' hb=>ATw AFf hb.ext) (AGm ?_)))));obtain ⟨AFg,Dj,AFh⟩:=AGr AFb;refine AXj (m:=Bv) ATa rfl (Av.o2 p6) AFe B3 rfl Dj λASh AFi=>?_;obtain ⟨ASi,AFj,AFk⟩:=(Av.o2 p6).cells AFi B3 Dj;obtain rfl:=AFj;refine AVg ATg rfl Bn (λh' hb=>ATw (AFk 0 _ rfl) hb.ext) (AGm<|AGm<|Aaq rfl rfl (ATn rfl rfl ?_));obtain ⟨AFl,AFm,AFn⟩:=AGr AFh;have AFo:UpT [] B1 B1:=UpT.start all_nil;refine ATo (K':=(λxr h'=> ∃ x:(Int),x=AFl/\xr=(.int .i64 x)/\Kst h h' (Av.L)/\UpT [] B1 h')) Bn rfl ?_ λASj ASk AFp=>?_
           ·refine cwf (l:=[_,_]) Tryz.func167 rfl rfl (AGq<|AT2<|AGm<|AGm<|AU2 rfl (AVd Aby rfl (AT6 AT9 rfl ((Av.b p7).cell (i:=0) rfl) ?_)));obtain ⟨AFq,AFr⟩:=ifN AFm;refine Aah rfl rfl AFq (AVh rfl rfl (Acp rfl rfl AGn (AGx<|AG1<|⟨_,AS5,((Aaz .and .i64 (w64<|AFg + (w64<|Hn * AE8))<|w64<|(w64<|1 * 2 ^ Int.toNat Ag) - 1):(Int)),?_,rfl,?_,?_⟩)))
            ·exact AGo AFr
            ·exact Av
            ·exact AFo
           obtain ⟨AFs,AFt,rfl,Ll,AFu⟩:=AFp;refine ⟨(Bn.then AFu all_nil),?_⟩;subst AFt;refine AXj (m:=Bv) ATa rfl (Av.o2 p6) AFc B3 rfl Dj λASl AFv=>Afl (m:=Bv) (Aem ATg rfl rfl rfl) (Ll.o2 p6) AFv B3 Dj (show ((cI .i64)).rep _ AFs _ from rfl) λASm AFw AFx=>ATu<|q_b<|q_t<|AS8<|ATn rfl rfl (AGm<|AGu ?_);exact ⟨_,(AGo AFn).symm,(Ll.uO2 p6 AFx AFw),rfl,trivial⟩
          ·refine ATh<|ATi<|ATi<|AUf<|⟨_,Aa0,((AE4,AD4):(LiI) × (LiI)),?_,rfl,?_⟩
           ·exact AGo<|AE5 _ (AGo<|AT5 Ib Ic).symm
           ·exact Av
        obtain ⟨⟨ASn,ASo⟩,AFy,rfl,AFz⟩:=AD0;refine ⟨trivial,?_⟩;subst AFy;refine ATu<|q_b<|q_t<|AS8<|AGm<|ATn rfl rfl (AGx ?_);exact ⟨_,(AGo ADz).symm,AFz,rfl,trivial⟩
       ·refine ATh<|ATi<|ATi<|AUf<|⟨_,Aa0,((AAm,AAn):(LiI) × (LiI)),?_,rfl,?_⟩
        ·exact AGo<|AAo _ (AGo<|AT5 Gy Gz).symm
        ·exact Am.sel [1,2,3,4,5,6,7,8] AGn
      obtain ⟨⟨AF0,AF1⟩,AF2,rfl,Id⟩:=Zf;refine ⟨trivial,?_⟩;subst AF2;refine Aal<|Abd [(.int .i64 Aa),(.int .i64 Aw),(.int .i64<|Ak / 2 ^ Int.toNat Aa),(.int .i64<|Ax / 2 ^ Int.toNat Aa),(.int .i64<|Bb / 2 ^ Int.toNat Aa)] Aag rfl rfl (Id.b p0).agg (AVa [(.int .i64 Aa),(.int .i64 Aw),(.int .i64<|Ak / 2 ^ Int.toNat Aa),(.int .i64<|Ax / 2 ^ Int.toNat Aa),(.int .i64<|Bb / 2 ^ Int.toNat Aa)] Aag rfl rfl rfl rfl (by simp [isOne]) (Id.b p1) λASp AF3 AF4=>AGu<|AG1 ?_);have Lm:=Id.sb p1 AF4 AF3 rfl;refine ⟨_,AVk Aag rfl rfl (Lm.b p1),((Aa,Aw,(Ak / 2 ^ Int.toNat Aa),(Ax / 2 ^ Int.toNat Aa),(Bb / 2 ^ Int.toNat Aa),AF0,Ah,Ai,Aj,AF1):(Int) × (Int) × (Int) × (Int) × (Int) × (LiI) × LnA × LnN × LvA × (LiI)),?_,rfl,?_⟩
      ·exact AGo Ze
      ·exact Lm.sel [2,3,4,5,6,7] AGn
    obtain ⟨⟨Dk,Dl,Do,Dp,Dq,ASq,ASr,ASs,ASt,ASu⟩,AF5,rfl,AF6⟩:=Ni;refine ⟨trivial,?_⟩;subst AF5;refine AV6 AF6 [(.int .i64 0),(.int .i64 0),(.int .i64 0),(.int .i64 0),(.int .i64 0)] Ak2 λASv ASw ASx Lo=>AVa [(.int .i64 Dk),(.int .i64 Dl),(.int .i64 Do),(.int .i64 Dp),(.int .i64 Dq)] Aag rfl rfl rfl rfl (by simp [isOne]) (Lo.b p0) λASy AF7 AF8=>Aal ?_;have Dr:=Lo.sb p0 AF8 AF7 rfl;refine AUs Afn Ak1 (Dr.b p2) 2 rfl (Abd [(.int .i64 Dk),(.int .i64 Dl),(.int .i64 Do),(.int .i64 Dp),(.int .i64 Dq)] Aag rfl rfl (Dr.b p0).agg ?_);obtain ⟨AF9,AGa⟩:=ifN Nh;refine Afm Ahr Ak2 rfl rfl trivial tt2 (λ_=>rfl) rfl (show (Ah5).rep _ (Dk,Dl,Do,Dp,Dq) [(.int .i64 Dk),(.int .i64 Dl),(.int .i64 Do),(.int .i64 Dp),(.int .i64 Dq)] from rfl) (Dr.o p1) AGn AF9 λASz AS0 AGb AS1 AGc AGd AGe=>AVd Afn rfl ?_;have Ie:=Dr.uo p1 AGd AGc AGe;refine Ai5 [(.int .i64 2),(.slice none 0 0),AGb] Ak1 rfl rfl (Ie.o p1).isOne (Ie.b p2) (Nat.le_of_ble_eq_true rfl) rfl λAS2 AGf AGg=>AGu<|AS8 ?_;have Lq:=Ie.sb p2 AGg AGf rfl;refine AGm<|AUs Ac0 AT9 (Lq.b p0) 1 rfl (ATn rfl rfl (ATs<|ATu<|q_b<|q_t ?_));exact ⟨(_,_,_,_,_,_,_,_,_),(AGo AGa).symm,Lq.sel [1,2,3,4,5,6] AGn,rfl,trivial⟩
   ·refine ATh<|ATi<|ATi<|AUf<|q_t<|AGq<|AGm<|AU2 rfl (AUs Ajq AU5 (Bo.b p4) 2 rfl (AVd Ahb rfl (Ai5 [(.int .i64 2),Ac,D2] AU5 rfl rfl (Bo.o2 p2).isOne (Bo.b p1) (Nat.le_of_ble_eq_true rfl) rfl λAS3 AGh AGi=>Aal ?_)));have Cm:=Bo.sb p1 AGi AGh rfl;refine Abd [(.int .i64 2),Ac,D2] Aev rfl rfl (Cm.b p1).agg (AVa [(.int .i64 2),Ac,D2] Aev rfl rfl rfl rfl (Aac rfl (Aac (Cm.o2 p2).isOne<|Aac (Cm.o p0).isOne Al2)) (Cm.b p5) λAS4 AGj AGk=>AGx<|AG1 ?_);have Cn:=Cm.sb p5 AGk AGj rfl;obtain rfl:=AGo<|Nd _ (AGo<|AT5 D3 D4).symm;exact ⟨_,Ani Aev rfl rfl (Cn.b p5),Cn.x,_,_,_,_,_,_,rfl,(Cn.o2 p2),(Cn.o p0),Cn.s.sel [2,0] AGn⟩
end Go.Proofs.YtkakafabeobahaaGreatDoor
namespace Go.Proofs.YtkakafabeobahaaGreatDoor
open Go Go.QF
set_option maxRecDepth 100000
theorem An5 (hK:K<=30) (z:Int):Eqm (2 ^ K) (w64 z) z:=by
 have h1:Eqm ((2:Int) ^ 64) (w64 z) z:=by
  show w64 z % 2 ^ 64=z % 2 ^ 64
  show IntKind.i64.wrap z % 2 ^ 64=z % 2 ^ 64
  rw [IntKind.wrap_i64];omega
 exact h1.down<|AZg AGl
abbrev mkE (K:Nat) (z:Int):Option Int:=if 0<=(K:Int)/\(K:Int)<=64 then some (Aaz .and .i64 (w64 z)<|w64<|(w64<|1 * 2 ^ Int.toNat (K:Int)) - 1) else none
theorem mk_val (hK:K<=30) {z y:Int} (h:Eqm (2 ^ K) z y):mkE K z=some (y % 2 ^ K):=by
 have h1:(2:Int) ^ K<=2 ^ 30:=AWz AGn hK;have h2:0 < (2:Int) ^ K:=Int.pow_pos AGn;have h3:(2:Int) ^ 30=1073741824:=by decide
 unfold mkE;rw [if_pos AGl,An4 hK,AVq (x:=(2:Int) ^ K - 1) AGl AGl,A9u hK];exact congrArg some<|(An5 hK z).trans h
theorem BG3 (hK:K<=30) (x c y:Int):Eqm (2 ^ K) (x + w64 (c * y)) (x + c * y):=(Eqm.refl _ x).add (An5 hK _)
section
variable {fuel n K:Nat}
theorem A5r {r:Nat} {c:Int} {M:AS9} (hK:K<=30) (hi:i < n) (hj:j < n) (hr:r < n) (hn:n<=8):
 ((gI (tab n n M) (r:Int)).bind λx=>(gI x (i:Int)).bind λy=>(gI x (j:Int)).bind λz=>(mkE K<|y + w64 (c * z)).bind λe=>some<|Sum.inl (β:=List<|List Int) (w64<|(r:Int) + 1,sI (tab n n M) (r:Int)<|sI x (i:Int) e))=some (.inl (((r + 1:Nat):Int),tab n n<|AUw M r λb=>if b=i then (M r i + c * M r j) % 2 ^ K else M r b)):=by
 rw [AU4<|ATv hr,AU4<|ATm hi,AU4<|ATm hj,mk_val hK<|BG3 hK _ _ _];simp only [Option.bind_some];rw [Apy,Aam,AUh AGl]
theorem A5s {l s:Nat} {c:Int} {M:AS9} (hK:K<=30) (hj:j < n) (hl:l < n) (hs:s < n) (hn:n<=8):
 ((gI (tab n n M) (l:Int)).bind λx=>(gI x (s:Int)).bind λy=>(gI (tab n n M) (j:Int)).bind λz=>(gI z (s:Int)).bind λw=>(mkE K<|w + w64 (c * y)).bind λe=>some<|Sum.inl (β:=List<|List Int) (w64<|(s:Int) + 1,sI (tab n n M) (j:Int)<|sI z (s:Int) e))=some (.inl (((s + 1:Nat):Int),tab n n<|AUw M j λb=>if b=s then (M j s + c * M l s) % 2 ^ K else M j b)):=by
 rw [AU4<|ATv hl,AU4<|ATm hs,AU4<|ATv hj,AU4<|ATm hs,mk_val hK<|BG3 hK _ _ _];simp only [Option.bind_some];rw [Apy,Aam,AUh AGl]
theorem A2f {c:Int} {G:AS9} {R:Int->List (List Int)->List (List Int)->Option ((Int × List (List Int) × List (List Int)) ⊕ (List (List Int) × List (List Int)))} {RG RT:List (List Int)->Int × List (List Int)->Option ((Int × List (List Int)) ⊕ List (List Int))} {RE:List Int->Int->List (List Int)->Option ((Int × List (List Int)) ⊕ List (List Int))} (hK:K<=30) (hn:n<=8) (hi:i < n) (hj:j < n) (hne:j≠i) (hf:100 < fuel)
 (r0:∀ G T,R 0 (tab n n G) T=(iter (RG<|tab n n G) fuel (0,tab n n G)).bind λe=>some<|Sum.inl (1,e,T)) (r1:∀ G T,R 1 G (tab n n T)=(iter (RT<|tab n n T) fuel (0,tab n n T)).bind λe=>some<|Sum.inl (2,G,e)) (r2:∀ G T,R 2 G T=some (.inr (G,T)))
 (rg:∀ (X:AS9) (r:Int) M,RG (tab n n X) (r,M)=if r < n then (gI M r).bind λx=>(gI x (i:Int)).bind λy=>(gI x (j:Int)).bind λz=>(mkE K<|y + w64 (c * z)).bind λe=>some (Sum.inl (w64<|r + 1,sI M r<|sI x (i:Int) e)) else some<|.inr M)
 (rt:∀ (X:AS9) (r:Int) M,RT (tab n n X) (r,M)=if r < n then (gI M r).bind λx=>(gI x (i:Int)).bind λy=>(gI x (j:Int)).bind λz=>(mkE K<|y + w64 (c * z)).bind λe=>some (Sum.inl (w64<|r + 1,sI M r<|sI x (i:Int) e)) else some<|.inr M)
 (re:∀ (F:Nat->Int) (s:Int) M,RE (AU9 n F) s M=if s < n then (gI M (j:Int)).bind λx=>(gI x s).bind λy=>(gI M (i:Int)).bind λz=>(gI z s).bind λw=>(mkE K<|w + w64 (c * y)).bind λe=>some (Sum.inl (w64<|s + 1,sI M (i:Int)<|sI z s e)) else some<|.inr M):
 ((iter (λs=>R s.1 s.2.1 s.2.2) fuel (0,tab n n G,tab n n T)).bind (λ((e1,e2):List (List Int) × List (List Int))=>(gI e1 (j:Int)).bind λx=>(iter (λs=>RE x s.1 s.2) fuel (0,e1)).bind λe=>some (e,e2)))=some (tab n n<|Avf (2 ^ K) i j c G,tab n n<|Aqu (2 ^ K) i j c T):=by
 have Agp:∀ (B:Int × List (List Int)->Option ((Int × List (List Int)) ⊕ List (List Int))) (G:AS9),(∀ (r:Int) M,B (r,M)=if r < n then (gI M r).bind λx=>(gI x (i:Int)).bind λy=>(gI x (j:Int)).bind λz=>(mkE K<|y + w64 (c * z)).bind λe=>some (Sum.inl (w64<|r + 1,sI M r<|sI x (i:Int) e)) else some<|.inr M)->iter B fuel (0,tab n n G)=some (tab n n<|Aqu (2 ^ K) i j c G):=λB G hB=>A35 (G':=Aqu (2 ^ K) i j c G) AGl (λr M hr hM=>by rw [hB,if_pos AGl,A5r hK hi hj hr hn,A9r hM]) λX=>by grind
 rw [A9t (fuel:=fuel) (g':=tab n n<|Aqu (2 ^ K) i j c G) (t':=tab n n<|Aqu (2 ^ K) i j c T) AGl (by grind) (by grind)<|by grind];simp only [Option.bind_some];rw [AU4<|ATv hj];unfold Avf;rw [BCq (j:=i) (g:=λb=>(Aqu (2 ^ K) i j c G i b + c * Aqu (2 ^ K) i j c G j b) % 2 ^ K) AGl (λs M hs hM hMs=>by dsimp only;rw [re,if_pos AGl,A5s hK hi hj hs hn,hMs,hM j s hne]) (λX=>by grind),BCr];rfl
theorem Ayk {c:Nat} {G:AS9} {R:Int->List (List Int)->List (List Int)->Option ((Int × List (List Int) × List (List Int)) ⊕ (List (List Int) × List (List Int)))} {RG RT:List (List Int)->Int × List (List Int)->Option ((Int × List (List Int)) ⊕ List (List Int))} (hn:n<=8) (hc:c + 1 < n) (hf:100 < fuel)
 (r0:∀ G T,R 0 (tab n n G) T=(iter (RG<|tab n n G) fuel (0,tab n n G)).bind λe=>some<|Sum.inl (1,e,T)) (r1:∀ G T,R 1 G (tab n n T)=(iter (RT<|tab n n T) fuel (0,tab n n T)).bind λe=>some<|Sum.inl (2,G,e)) (r2:∀ G T,R 2 G T=some (.inr (G,T)))
 (rg:∀ (X:AS9) (r:Int) M,RG (tab n n X) (r,M)=if r < n then (gI M r).bind λx=>(gI x ((c + 1:Nat):Int)).bind λy=>(gI x (c:Int)).bind λz=>(gI (sI M r<|sI x (c:Int) y) r).bind λu=>(gI u ((c + 1:Nat):Int)).bind λw=>some (Sum.inl (w64<|r + 1,sI (sI M r<|sI x (c:Int) y) r<|sI u ((c + 1:Nat):Int) z)) else some<|.inr M)
 (rt:∀ (X:AS9) (r:Int) M,RT (tab n n X) (r,M)=if r < n then (gI M r).bind λx=>(gI x ((c + 1:Nat):Int)).bind λy=>(gI x (c:Int)).bind λz=>(gI (sI M r<|sI x (c:Int) y) r).bind λu=>(gI u ((c + 1:Nat):Int)).bind λw=>some (Sum.inl (w64<|r + 1,sI (sI M r<|sI x (c:Int) y) r<|sI u ((c + 1:Nat):Int) z)) else some<|.inr M):
 iter (λs=>R s.1 s.2.1 s.2.2) fuel (0,sI (sI (tab n n G) (c:Int)<|AU9 n<|G<|c + 1) ((c + 1:Nat):Int)<|AU9 n<|G c,tab n n T)=some (tab n n<|swG c (c + 1) G,tab n n<|swC c (c + 1) T):=by
 have e0:sI (sI (tab n n G) (c:Int)<|AU9 n<|G<|c + 1) ((c + 1:Nat):Int) (AU9 n<|G c)=tab n n λa b=>G (sw2 c (c + 1) a) b:=by
  rw [Aam,Aam];refine Aha λa b _ _=>?_;rw [AUb,AUb];unfold sw2;grind
 have Agp:∀ (B:Int × List (List Int)->Option ((Int × List (List Int)) ⊕ List (List Int))) (G:AS9),(∀ (r:Int) M,B (r,M)=if r < n then (gI M r).bind λx=>(gI x ((c + 1:Nat):Int)).bind λy=>(gI x (c:Int)).bind λz=>(gI (sI M r<|sI x (c:Int) y) r).bind λu=>(gI u ((c + 1:Nat):Int)).bind λw=>some (Sum.inl (w64<|r + 1,sI (sI M r<|sI x (c:Int) y) r<|sI u ((c + 1:Nat):Int) z)) else some<|.inr M)->iter B fuel (0,tab n n G)=some (tab n n<|swC c (c + 1) G):=λB G hB=>A35 (G':=swC c (c + 1) G) AGl (λr M hr hM=>by
  rw [hB,if_pos AGl,A9s hc AGl hr hn];congr 3;exact Avc λb _=>by rw [hM];rfl) λX=>by grind
 rw [e0];exact A9t AGl (by dsimp only;rw [r0,Agp (RG _) _<|rg _];rfl) (by grind) (by grind)
theorem Ayl {f:Nat} {G:AS9} {R:Int->List (List Int)->List (List Int)->Option ((Int × List (List Int) × List (List Int)) ⊕ (List (List Int) × List (List Int)))} (hn:n<=8) (hf:f<=i) (hi:i < n) (hfu:100 < fuel)
 (rs:∀ (c:Nat) G T,f<=c->c + 1 < n->R ((c + 1:Nat):Int) (tab n n G) (tab n n T)=some (.inl ((c:Int),tab n n<|swG c (c + 1) G,tab n n<|swC c (c + 1) T))) (re:∀ G T,R (f:Int) G T=some (.inr (G,T))):
 iter (λs=>R s.1 s.2.1 s.2.2) fuel ((i:Int),tab n n G,tab n n T)=some (tab n n<|mvG f i G,tab n n<|mvC f i T):=by
 apply ok_eq;refine AT8 (λm s=>s=(((i - m:Nat):Int),tab n n<|mvG (i - m) i G,tab n n<|mvC (i - m) i T)/\m<=i - f) (i - f) ⟨by rw [Nat.sub_zero,A9v,A9w],Nat.zero_le _⟩ AGl λm s hm hI=>?_;obtain ⟨rfl,hmf⟩:=hI;dsimp only
 rcases Nat.lt_or_ge m (i - f) with h | h
 ·obtain ⟨c,hc⟩:∃ c,i - m=c + 1:=⟨i - m - 1,AGl⟩;rw [hc,rs c _ _ AGl AGl,A0q AGl,A0r AGl];refine AGp ⟨h,?_,h⟩;grind
 ·rw [show i - m=f by omega,re];exact AGp rfl
end
end Go.Proofs.YtkakafabeobahaaGreatDoor
namespace Go.Proofs.YtkakafabeobahaaGreatDoor
open Go Go.QF
set_option maxRecDepth 100000
theorem A9z (hp:Pr p):PrI p:=⟨hp.1,λx y h=>by
 have h2:=hp.1
 refine Classical.byContradiction λhn=>?_
 have hx:x % p≠0:=λh=>hn<|.inl<|Int.dvd_of_emod_eq_zero h
 have hy:y % p≠0:=λh=>hn<|.inr<|Int.dvd_of_emod_eq_zero h
 have h3:=Int.emod_nonneg x (show p≠0 by omega)
 have h4:=Int.emod_lt_of_pos x (show 0 < p by omega)
 have h5:=Int.emod_nonneg y (show p≠0 by omega)
 have h6:=Int.emod_lt_of_pos y (show 0 < p by omega)
 refine BDs hp (a:=x % p) (x:=y % p) AGl AGl AGl AGl ?_
 rw [<- Int.mul_emod]
 omega⟩
theorem A0u {p a:Int} (hp:Pr p) (ha: ¬ p ∣ a):∀ K:Nat,∃ y,p ^ (K + 1) ∣ y * a - 1
 | 0=>by
   have h2:=hp.1;have hx:a % p≠0:=λh=>ha<|Int.dvd_of_emod_eq_zero h;have h3:=Int.emod_nonneg a (show p≠0 by omega);have h4:=Int.emod_lt_of_pos a (show 0 < p by omega);obtain ⟨y,hy⟩:=At4 hp _ (a % p) (Nat.le_refl _) AGl h4;refine ⟨y,?_⟩;rw [Int.pow_succ,Int.pow_zero,Int.one_mul];refine Apa (m:=p) ?_;show y * a % p=1 % p;rw [Int.emod_eq_of_lt (a:=1) AGn AGl,<- hy];exact ((Eqm.refl p y).mul (Eqm.mod p a)).symm
 | K + 1=>by
   obtain ⟨y,z,hz⟩:=A0u hp ha K;refine ⟨y * (2 - y * a),?_⟩;have e:y * (2 - y * a) * a - 1= -((y * a - 1) * (y * a - 1)):=by grind
   rw [e,hz];refine Int.dvd_neg.2<|Int.dvd_trans (AZg (b:=K + 1 + (K + 1)) AGl) ?_;rw [Int.pow_add];exact ⟨z * z,by grind⟩
theorem Aw4 (hp:Pr p) (ha: ¬ p ∣ a) (hK:1<=K):∃ y,Atz (p ^ K) (a % p ^ K) y:=by
 obtain ⟨y,hy⟩:=A0u hp ha<|K - 1;rw [show K - 1 + 1=K by omega] at hy;have hq:0 < p ^ K:=Int.pow_pos (by have:=hp.1;omega);refine ⟨y % p ^ K,Int.emod_nonneg _ AGl,Int.emod_lt_of_pos _ hq,?_⟩;exact ((Eqm.mod _ y).mul (Eqm.mod _ a)).trans (Aqp hy)
theorem A90 {u:Int} {f E:Nat} (hp:PrI p) (hx:x=u * p ^ E) (hu: ¬ p ∣ u) (hf:p ^ f ∣ x):f<=E:=by
 rcases Nat.lt_or_ge E f with h | h
 ·exfalso;have h1:p ^ (E + 1) ∣ u * p ^ E:=hx ▸ Int.dvd_trans (AZg h) hf;obtain ⟨w,hw⟩:=h1;refine hu ⟨w,Int.eq_of_mul_eq_mul_left (BCd hp E) ?_⟩;grind
 ·exact h
section
variable {fuel n K k:Nat} {p:Int} {H T G:AS9}
end
theorem BFw {m:Int} (R:Arq M) (hm:2<=m) (Aa:m<=2147483647) (hf:100 < fuel):Acw fuel M m=some (tab M.length M.length λi j=>ent M i j % m,0):=by
 have hM:=Apb R;unfold Acw AUu;have h1:AY0 fuel M=some true:=by rw [hM];exact Ape R.1.1 R.1.2 hf
 have h2:AV0 fuel M m=some (tab M.length M.length λi j=>ent M i j % m):=by
  conv=>lhs;rw [hM]
  exact Avb R.1.2 hm Aa hf
 rw [h1];simp only [Option.bind_some];rw [if_neg AGn,if_neg AGl,if_neg AGl];simp only [Option.bind_some];rw [if_neg AGn,h2];rfl
end Go.Proofs.YtkakafabeobahaaGreatDoor
namespace Go.Proofs.YtkakafabeobahaaGreatDoor
open Go Go.QF
set_option maxRecDepth 100000
section
variable {fuel n K k:Nat} {H T G:AS9} {L:List AWq}
theorem Ai2 {E:Nat} (u:Int):2 ^ E * u / 2 ^ Int.toNat (E:Int)=u:=by
 rw [Int.toNat_natCast];exact Int.mul_ediv_cancel_left _<|Int.pow_ne_zero AGn
theorem BFx (hK:K<=30) (hx:0<=x/\x < 2 ^ K) (hf:100 < fuel):Ok (iter (λs=>Ac8 fuel K x s) fuel 0) λr=>(x=0/\r=K)∨ ∃ (E:Nat) (u:Int),r=E/\E < K/\x=u * 2 ^ E/\¬ (2:Int) ∣ u:=by
 refine AT8 (λi s=>s=(i:Int)/\i<=K/\(2:Int) ^ i ∣ x) K ⟨rfl,Nat.zero_le _,AGl⟩ AGl λi s hi hI=>?_;obtain ⟨rfl,hiK,hd⟩:=hI;unfold Ac8;obtain ⟨y,rfl⟩:=hd
 rcases Nat.lt_or_ge i K with h | h
 ·rw [if_pos (show (i:Int) < (K:Int) by omega),if_pos (show 0<=(i:Int)/\(i:Int)<=64 by omega),Ai2,BCt]
  by_cases h2:y % 2=0
  ·rw [if_pos h2];simp only [Option.bind_some];refine AGp ⟨h,AUh AGl,h,?_⟩;obtain ⟨z,rfl⟩:=Int.dvd_of_emod_eq_zero h2;exact ⟨z,by grind⟩
  ·rw [if_neg h2];simp only [Option.bind_some];exact AGp<|.inr ⟨i,y,rfl,h,Int.mul_comm _ _,λh3=>h2<|Int.emod_eq_zero_of_dvd h3⟩
 ·obtain rfl:i=K:=by omega
  rw [if_neg AGl];simp only [Option.bind_some];refine AGp<|.inl ⟨?_,rfl⟩;have h0:(0:Int) < 2 ^ i:=Int.pow_pos AGn
  have hy:y=0:=by
   refine Classical.byContradiction λhy=>?_
   rcases Int.lt_or_le y 1 with h1 | h1
   ·have:=Int.mul_le_mul_of_nonneg_left (show y<= -1 by omega)<|Int.le_of_lt h0;omega
   ·have:=Int.mul_le_mul_of_nonneg_left h1<|Int.le_of_lt h0;omega
  grind
theorem A91 {d r c l:Nat} (hK:K<=30) (hn:n<=8) (hG:Asn n (2 ^ K) G) (hd:d<=n) (hk:k < n) (hS:QSt n k K G d k r c l) (hf:100 < fuel):
 Ok (iter (λs=>Ac9 fuel K (tab n n G) (d:Int) s.1 s.2.1 s.2.2.1 s.2.2.2) fuel ((r:Int),(c:Int),(l:Int),(k:Int))) λex=> ∃ r c l:Nat,ex=((r:Int),(c:Int),(l:Int))/\QSt n k K G (d + 1) k r c l:=by
 refine AT8 (λj s=> ∃ r c l:Nat,s=((r:Int),(c:Int),(l:Int),((k + j:Nat):Int))/\k + j<=n/\QSt n k K G d (k + j) r c l) (n - k) ⟨r,c,l,rfl,AGl,hS⟩ AGl λj s hj hI=>?_;obtain ⟨r,c,l,rfl,hjn,hS⟩:=hI;unfold Ac9;dsimp only;have e1:w64 (((k + j:Nat):Int) + (d:Int))=((k + j + d:Nat):Int):=by rw [wk AGl];omega
 rw [e1,ATt];refine ATj (λh=>?_) λh=>AGp ⟨r,c,l,rfl,hS.row AGl⟩;have hij:k + j + d < n:=by omega
 have hi:k + j < n:=by omega
 have hlK:l<=K:=by rcases hS with ⟨h1,_⟩ | ⟨h1,_⟩ <;> omega
 rw [AU4<|ATv hi,AU4<|ATm hij];obtain ⟨e,he,hcase⟩:=BFx (fuel:=fuel) hK (hG (k + j) (k + j + d) hi hij) hf;rw [he];simp only [Option.bind_some]
 rcases hcase with ⟨h0,rfl⟩ | ⟨E,u,rfl,hEK,hx,hu⟩
 ·rw [if_neg AGl];simp only [Option.bind_some];refine AGp ⟨AGl,r,c,l,?_,AGl,hS.old (by simp_all) λ_=>h0⟩;rw [AUh AGl];rfl
 ·by_cases hl:E < l
  ·rw [if_pos AGl];simp only [Option.bind_some];refine AGp ⟨AGl,k + j,k + j + d,E,?_,AGl,hS.new AGl hij hx hu hl⟩;rw [AUh AGl];rfl
  ·rw [if_neg AGl];simp only [Option.bind_some];refine AGp ⟨AGl,r,c,l,?_,AGl,hS.old (by rw [hx];exact Int.dvd_trans (AZg AGl) ⟨u,Int.mul_comm _ _⟩) λh=>by omega⟩;rw [AUh AGl];rfl
theorem A92 (hK:K<=30) (hn:n<=8) (hG:Asn n (2 ^ K) G) (hk:k < n) (hne:∃ e,k + e < n/\G k (k + e)≠0) (hf:100 < fuel):
 Ok (iter (λs=>Ada fuel K (k:Int) (tab n n G) s.1 s.2.1 s.2.2.1 s.2.2.2) fuel ((k:Int),(k:Int),(K:Int),(0:Int))) λex=> ∃ r c l:Nat,ex=((r:Int),(c:Int),(l:Int))/\l < K/\PV n k 2 G r c l/\ ∀ a e,k<=a->a + e < n->(2:Int) ^ l ∣ G a (a + e):=by
 refine AT8 (λd s=> ∃ r c l:Nat,s=((r:Int),(c:Int),(l:Int),(d:Int))/\d<=n - k/\QSt n k K G d k r c l) (n - k) ⟨k,k,K,rfl,Nat.zero_le _,QSt.init⟩ AGl λd s hd hI=>?_;obtain ⟨r,c,l,rfl,hdn,hS⟩:=hI;unfold Ada;dsimp only;rw [ATt,AVq (x:=(n:Int) - (k:Int)) AGl AGl];refine ATj (λh=>?_) λh=>AGp ⟨r,c,l,rfl,?_⟩
 ·refine AGw (A91 hK hn hG AGl hk hS hf) λex hex=>?_;obtain ⟨r,c,l,rfl,hS⟩:=hex;refine AGp ⟨AGl,r,c,l,?_,AGl,hS⟩;rw [AUh AGl]
 ·obtain rfl:d=n - k:=by omega
  exact hS.done hk hne
theorem Aym (hn:n<=8) (hk:k<=i) (hi:i < n) (hf:100 < fuel):
 iter (λs=>AZu fuel (k:Int) s.1 s.2.1 s.2.2) fuel ((i:Int),tab n n G,tab n n T)=some (tab n n<|mvG k i G,tab n n<|mvC k i T)/\
 iter (λs=>AZv fuel (k:Int) s.1 s.2.1 s.2.2) fuel ((i:Int),tab n n G,tab n n T)=some (tab n n<|mvG k i G,tab n n<|mvC k i T)/\
 iter (λs=>AZw fuel (k:Int) s.1 s.2.1 s.2.2) fuel ((i:Int),tab n n G,tab n n T)=some (tab n n<|mvG k i G,tab n n<|mvC k i T):=by
 have e1:∀ c:Nat,c + 1 < n->w64 (((c + 1:Nat):Int) - 1)=(c:Int):=λc hc=>by rw [wk AGl];omega
 refine ⟨Ayl hn hk hi hf (λc G T hc hcn=>?_) λG T=>?_,Ayl hn hk hi hf (λc G T hc hcn=>?_) λG T=>?_,Ayl hn hk hi hf (λc G T hc hcn=>?_) λG T=>?_⟩
 ·unfold AZu;rw [if_pos AGl,AU4<|ATv hcn,e1 c hcn,AU4<|ATv (show c < n by omega),Ayk (R:=AX7 fuel ((c + 1:Nat):Int)) (RG:=λX s=>Ab0 fuel ((c + 1:Nat):Int) X s.1 s.2) (RT:=λX s=>Ab1 fuel ((c + 1:Nat):Int) X s.1 s.2) hn hcn hf (λG T=>by unfold AX7;rfl) (λG T=>by unfold AX7;rfl) (λG T=>by unfold AX7;rfl) (λX r M=>by unfold Ab0;dsimp only;rw [ATt,e1 c hcn]) λX r M=>by unfold Ab1;dsimp only;rw [ATt,e1 c hcn]];rfl
 ·unfold AZu;grind
 ·unfold AZv;rw [if_pos AGl,AU4<|ATv hcn,e1 c hcn,AU4<|ATv (show c < n by omega),Ayk (R:=AX8 fuel ((c + 1:Nat):Int)) (RG:=λX s=>Ab2 fuel ((c + 1:Nat):Int) X s.1 s.2) (RT:=λX s=>Ab3 fuel ((c + 1:Nat):Int) X s.1 s.2) hn hcn hf (λG T=>by unfold AX8;rfl) (λG T=>by unfold AX8;rfl) (λG T=>by unfold AX8;rfl) (λX r M=>by unfold Ab2;dsimp only;rw [ATt,e1 c hcn]) λX r M=>by unfold Ab3;dsimp only;rw [ATt,e1 c hcn]];rfl
 ·unfold AZv;grind
 ·unfold AZw;rw [if_pos AGl,AU4<|ATv hcn,e1 c hcn,AU4<|ATv (show c < n by omega),Ayk (R:=AX9 fuel ((c + 1:Nat):Int)) (RG:=λX s=>Ab4 fuel ((c + 1:Nat):Int) X s.1 s.2) (RT:=λX s=>Ab5 fuel ((c + 1:Nat):Int) X s.1 s.2) hn hcn hf (λG T=>by unfold AX9;rfl) (λG T=>by unfold AX9;rfl) (λG T=>by unfold AX9;rfl) (λX r M=>by unfold Ab4;dsimp only;rw [ATt,e1 c hcn]) λX r M=>by unfold Ab5;dsimp only;rw [ATt,e1 c hcn]];rfl
 ·unfold AZw;grind
end
end Go.Proofs.YtkakafabeobahaaGreatDoor
namespace Go.Proofs.YtkakafabeobahaaGreatDoor
open Go Go.QF
set_option maxRecDepth 100000
section
variable {fuel n K k E:Nat} {H T G:AS9} {L:List AWq}
theorem DS.move {i:Nat} (S:DS n K H T G L k E) (hi:i < n):∀ (m f:Nat),i=f + m->k<=f->DS n K H (mvC f i T) (mvG f i G) L k E
 | 0,f,h,hf=>by
   obtain rfl:i=f:=h
   rw [A9w,A9v];exact S
 | m + 1,f,h,hf=>by
   have:=(DS.move S hi m (f + 1) AGl AGl).swap hf AGl (show k<=f + 1 by omega) AGl
   rwa [A0r AGl,A0q AGl] at this
theorem A93 {q P y c:Int} (hc:Eqm q c (-y * v)) (hv:Eqm q (v * A) 1):(P * y + c * (P * A)) % q=0:=by
 have one:Eqm q (P * y - P * y * (v * A)) 0:=by
  have:=(Eqm.refl q<|P * y).sub ((Eqm.refl q<|P * y).mul hv)
  grind
 exact Eqm.zero<|((Eqm.refl _ _).add (hc.mul<|Eqm.refl _ _)).trans (Eqm.trans (Eqm.of_eq<|by grind) one)
theorem A94 (S:DS n K H T G L k E) (hK:K<=30) (hE:E<=K) (hn:n<=8) (hk:k < n) (hD:G k k=2 ^ E * A) (hv:Eqm (2 ^ K) (v * A) 1) (hf:100 < fuel):
 Ok (iter (λs=>Ab9 fuel K (k:Int) E v s.1 s.2.1 s.2.2) fuel (((k + 1:Nat):Int),tab n n G,tab n n T)) λex=> ∃ T' G',ex=(tab n n G',tab n n T')/\DS n K H T' G' L k E/\G' k k=2 ^ E * A/\ ∀ j,k < j->j < n->G' k j=0:=by
 refine AT8 (λi s=> ∃ T' G',s=(((k + 1 + i:Nat):Int),tab n n G',tab n n T')/\k + 1 + i<=n/\DS n K H T' G' L k E/\G' k k=2 ^ E * A/\ ∀ j,k < j->j < k + 1 + i->G' k j=0) (n - (k + 1)) ⟨T,G,rfl,AGl,S,hD,λj h1 h2=>by omega⟩ AGl λi s hi hI=>?_;obtain ⟨T',G',rfl,hin,S',hd,hz⟩:=hI;unfold Ab9;dsimp only;rw [ATt];refine ATj (λh=>?_) λh=>AGp ⟨T',G',rfl,S',hd,λj h1 h2=>hz j h1 AGl⟩;obtain ⟨j,hj⟩:∃ j,j=k + 1 + i:=⟨_,rfl⟩;rw [<- hj] at h hin hz ⊢;have hjn:j < n:=by omega
 obtain ⟨y,hy⟩:=S'.fl k j (Nat.le_refl k) hk AGl hjn;rw [AU4<|ATv hk,AU4<|ATm hjn,if_pos (show 0<=(E:Int)/\(E:Int)<=64 by omega),hy,Ai2];have hc:mkE K (w64 (0 - y) * v)=some ((-y * v) % 2 ^ K):=mk_val hK<|(((An5 hK _).trans (Eqm.of_eq<|Int.zero_sub y)).mul (Eqm.refl _ v));unfold mkE at hc;rw [hc];simp only [Option.bind_some];obtain ⟨c,hce⟩:∃ c,c=(-y * v) % 2 ^ K:=⟨_,rfl⟩;rw [<- hce,A2f (R:=AYa fuel K (k:Int) (j:Int) c) (RG:=λX s=>Ab6 fuel K (k:Int) (j:Int) c X s.1 s.2) (RT:=λX s=>Ab7 fuel K (k:Int) (j:Int) c X s.1 s.2) (RE:=Ab8 fuel K (k:Int) (j:Int) c) hK hn hjn hk AGl hf (λG T=>by unfold AYa;rfl) (λG T=>by unfold AYa;rfl) (λG T=>by unfold AYa;rfl) (λX r M=>by unfold Ab6;dsimp only;rw [ATt]) (λX r M=>by unfold Ab7;dsimp only;rw [ATt]) λF s M=>by unfold Ab8;rw [AT1]];simp only [Option.bind_some];have S2:=S'.add (c:=c) hE (show k<=j by omega) hjn (Nat.le_refl k) hk AGl
 refine AGp ⟨AGl,_,_,?_,AGl,S2,?_,λj' h1 h2=>?_⟩
 ·rw [hj,AUh AGl];rfl
 ·rw [Ag7,if_neg AGl,if_neg AGl];exact hd
 ·rw [Ag7,if_neg AGl]
  by_cases h3:j'=j
  ·rw [if_pos h3,hy,hd];exact A93 (hce ▸ Eqm.mod _ _) hv
  grind
theorem A5t {B C:Int} (S:DS n K H T G L k E) (hs:∀ i j,i < n->j < n->H i j=H j i) (hK:K<=30) (hE:E<=K) (hn:n<=8) (hk:k + 1 < n) (hA:G k k=2 ^ E * A) (hB:G k (k + 1)=2 ^ E * B) (hC:G (k + 1) (k + 1)=2 ^ E * C) (hv:Eqm (2 ^ K) (v * (A * C - B * B)) 1) (hf:100 < fuel):
 Ok (iter (λs=>Ach fuel K (k:Int) E (2 ^ E * A) (2 ^ E * B) (2 ^ E * C) v s.1 s.2.1 s.2.2) fuel (((k + 2:Nat):Int),tab n n G,tab n n T)) λex=> ∃ T' G',ex=(tab n n G',tab n n T')/\DS n K H T' G' L k E/\(G' k k=2 ^ E * A/\G' k (k + 1)=2 ^ E * B/\G' (k + 1) (k + 1)=2 ^ E * C)/\ ∀ j,k + 1 < j->j < n->G' k j=0/\G' (k + 1) j=0:=by
 refine AT8 (λi s=> ∃ T' G',s=(((k + 2 + i:Nat):Int),tab n n G',tab n n T')/\k + 2 + i<=n/\DS n K H T' G' L k E/\(G' k k=2 ^ E * A/\G' k (k + 1)=2 ^ E * B/\G' (k + 1) (k + 1)=2 ^ E * C)/\ ∀ j,k + 1 < j->j < k + 2 + i->G' k j=0/\G' (k + 1) j=0) (n - (k + 2)) ⟨T,G,rfl,AGl,S,⟨hA,hB,hC⟩,λj h1 h2=>by omega⟩ AGl λi s hi hI=>?_;obtain ⟨T',G',rfl,hin,S',⟨h1,h2,h3⟩,hz⟩:=hI;unfold Ach;dsimp only;rw [ATt];refine ATj (λh=>?_) λh=>AGp ⟨T',G',rfl,S',⟨h1,h2,h3⟩,λj h1 h2=>hz j h1 AGl⟩;obtain ⟨j,hj⟩:∃ j,j=k + 2 + i:=⟨_,rfl⟩;rw [<- hj] at h hin hz ⊢;have hjn:j < n:=by omega
 have hk0:k < n:=by omega
 have e1:w64 ((k:Int) + 1)=((k + 1:Nat):Int):=AUh AGl;obtain ⟨x,hx⟩:=S'.fl k j (Nat.le_refl k) hk0 AGl hjn;obtain ⟨y,hy⟩:=S'.fl (k + 1) j AGl hk AGl hjn;have hEE:0<=(E:Int)/\(E:Int)<=64:=by omega
 rw [e1,AU4<|ATv hk0,AU4<|ATm hjn,if_pos hEE,AU4<|ATv hk,AU4<|ATm hjn,if_pos hEE,hx,hy,Ai2,Ai2,Ai2,Ai2,Ai2];have sub:∀ a b c d:Int,Eqm (2 ^ K) (w64 (a * b) - w64 (c * d)) (a * b - c * d):=λa b c d=>(An5 hK _).sub (An5 hK _);have hc1:mkE K (w64 (B * y) - w64 (C * x))=some ((B * y - C * x) % 2 ^ K):=mk_val hK<|sub _ _ _ _;have hd1:mkE K (w64 (B * x) - w64 (A * y))=some ((B * x - A * y) % 2 ^ K):=mk_val hK<|sub _ _ _ _;have hc2:mkE K ((B * y - C * x) % 2 ^ K * v)=some ((B * y - C * x) * v % 2 ^ K):=mk_val hK<|(Eqm.mod _ _).mul (Eqm.refl _ v);have hd2:mkE K ((B * x - A * y) % 2 ^ K * v)=some ((B * x - A * y) * v % 2 ^ K):=mk_val hK<|(Eqm.mod _ _).mul (Eqm.refl _ v);unfold mkE at hc1 hd1 hc2 hd2;rw [hc1];simp only [Option.bind_some];rw [hd1];simp only [Option.bind_some];rw [hc2];simp only [Option.bind_some];obtain ⟨c,hce⟩:∃ c,c=(B * y - C * x) * v % 2 ^ K:=⟨_,rfl⟩;obtain ⟨d,hde⟩:∃ d,d=(B * x - A * y) * v % 2 ^ K:=⟨_,rfl⟩;rw [<- hde] at hd2;rw [<- hce,A2f (R:=AYb fuel K (k:Int) (j:Int) c) (RG:=λX s=>Aca fuel K (k:Int) (j:Int) c X s.1 s.2) (RT:=λX s=>Acb fuel K (k:Int) (j:Int) c X s.1 s.2) (RE:=Acd fuel K (k:Int) (j:Int) c) hK hn hjn hk0 AGl hf (λG T=>by unfold AYb;rfl) (λG T=>by unfold AYb;rfl) (λG T=>by unfold AYb;rfl) (λX r M=>by unfold Aca;dsimp only;rw [ATt]) (λX r M=>by unfold Acb;dsimp only;rw [ATt]) λF s M=>by unfold Acd;rw [AT1]];simp only [Option.bind_some];rw [hd2];simp only [Option.bind_some];rw [A2f (R:=AYc fuel K (k:Int) (j:Int) d) (RG:=λX s=>Ace fuel K (k:Int) (j:Int) d X s.1 s.2) (RT:=λX s=>Acf fuel K (k:Int) (j:Int) d X s.1 s.2) (RE:=Acg fuel K (k:Int) (j:Int) d) hK hn hjn hk AGl hf (λG T=>by unfold AYc;rfl) (λG T=>by unfold AYc;rfl) (λG T=>by unfold AYc;rfl) (λX r M=>by unfold Ace;dsimp only;rw [ATt,e1]) (λX r M=>by unfold Acf;dsimp only;rw [ATt,e1]) λF s M=>by unfold Acg;rw [AT1,e1]];simp only [Option.bind_some];have S2:=(S'.add (c:=c) hE (show k<=j by omega) hjn (Nat.le_refl k) hk0 AGl).add (c:=d) hE (show k<=j by omega) hjn (show k<=k + 1 by omega) hk AGl;have keep:∀ a b,a≠j->b≠j->Avf (2 ^ K) j (k + 1) d (Avf (2 ^ K) j k c G') a b=G' a b:=λa b ha hb=>by rw [Ag7,if_neg ha,if_neg hb,Ag7,if_neg ha,if_neg hb]
 have at':∀ a,a≠j->Avf (2 ^ K) j (k + 1) d (Avf (2 ^ K) j k c G') a j=((G' a j + c * G' a k) % 2 ^ K + d * G' a (k + 1)) % 2 ^ K:=λa ha=>by
  rw [Ag7,if_neg ha,if_pos rfl,Ag7,if_neg ha,if_pos rfl,Ag7,if_neg ha,if_neg AGl]
 refine AGp ⟨AGl,_,_,?_,AGl,S2,⟨?_,?_,?_⟩,λj' h4 h5=>?_⟩
 ·rw [hj,AUh AGl];rfl
 ·grind
 ·grind
 ·grind
 ·by_cases h6:j'=j
  ·have hsy:G' (k + 1) k=2 ^ E * B:=by rw [S'.e.sym hs S'.rg hk hk0];exact h2
   rw [h6,at' k AGl,at' (k + 1) AGl,hx,hy,h1,h2,h3,hsy];exact A5q (hce ▸ Eqm.mod _ _) (hde ▸ Eqm.mod _ _) hv
  grind
theorem Ayn:∀ {L:List AWq},As8 L->L.length<=Ack L
 | [],_=>Nat.le_refl 0
 | c :: L,h=>by
   have h1:=Ayn (L:=L) λx hx=>h x<|List.mem_cons_of_mem _ hx
   have h2:=h c AT7
   rw [Am7,List.length_cons];omega
theorem A95: ¬ (2:Int) ∣ x↔x % 2=1:=⟨λh=>by omega,λh h2=>by omega⟩
theorem Ayo (hEK:E<=K) (h:0<=2 ^ E * A/\(2:Int) ^ E * A < 2 ^ K):0<=A/\A < 2 ^ (K - E):=by
 have h0:(0:Int) < 2 ^ E:=Int.pow_pos AGn;refine ⟨Int.nonneg_of_mul_nonneg_right h.1 h0,Int.lt_of_mul_lt_mul_left ?_<|Int.le_of_lt h0⟩;rw [<- Int.pow_add,show E + (K - E)=K by omega];exact h.2
theorem BCv (hM:M.length=n) (S:DS n K H T G L k E) (B:DL K L k E) (hs:∀ i j,i < n->j < n->H i j=H j i) (hd: ¬ (2:Int) ^ (K - 2) ∣ det n H) (hK3:3<=K) (hK:K<=30) (hn:n<=8) (hk:k < n) (hf:2147483648 < fuel):
 ∃ T' G' L' k' E',AW9 fuel M K (k:Int) (tab n n G) (tab n n T) L=some (.inl ((k':Nat),tab n n G',tab n n T',L'))/\k < k'/\k'<=n/\DS n K H T' G' L' k' E'/\DL K L' k' E':=by
 have hP2:Pr 2:=⟨AGl,λd h1 h2=>by omega⟩;have hI:=A9z hP2;have hf2:100 < fuel:=by omega
 have hq1:(2:Int) ^ 1<=2 ^ K:=AWz AGn AGl;have hq2:(2:Int) ^ K<=2 ^ 30:=AWz AGn hK;rw [show (2:Int) ^ 30=1073741824 by decide] at hq2;rw [Int.pow_succ,Int.pow_zero,Int.one_mul] at hq1;have hd2: ¬ (2:Int) ^ K ∣ det n H:=λh=>hd<|Int.dvd_trans (AZg AGl) h;obtain ⟨ex,hpv,r,c,F,rfl,hFK,P,hall⟩:=A92 (fuel:=fuel) (n:=n) (k:=k) (K:=K) (G:=G) hK hn S.rg hk (S.some hs hd2 hk) hf2;have S1:=S.low hs hall;obtain ⟨u,hu,hpu⟩:=P.u;have hrk:=P.hr;have hrc:=P.hrc;have hcn:=P.hc;have hrn:r < n:=by omega
 have hEF:=A90 hI hu hpu<|S.fl r c P.hr hrn AGl P.hc;have hFb:=S1.bound hs hd AGl hk;have hFF:0<=(F:Int)/\(F:Int)<=64:=by omega
 have hLk:L.length<=8:=by have:=Ayn B.sz;have:=B.sum;omega
 by_cases hne:r=c
 ·subst hne;have S2:=S1.move (i:=r) hrn (r - k) k AGl<|Nat.le_refl k;have hdk:mvG k r G k k=2 ^ F * u:=by unfold mvG;rw [A2e,hu,Int.mul_comm]
  obtain ⟨v,hv,hvi⟩:=A9q (f:=fuel) (x:=u) (m:=2 ^ K) AGl AGl (Aw4 hP2 hpu AGl) hf;have hvq:Eqm (2 ^ K) (v * u) 1:=((Eqm.refl _ v).mul (Eqm.mod _ u)).symm.trans hvi.2.2;obtain ⟨ex,hcl,T2,G2,rfl,S3,hd3,hz3⟩:=A94 (fuel:=fuel) S2 hK AGl hn hk hdk hvq hf2;have hub:=Ayo (E:=F) (K:=K) (A:=u) AGl<|hd3 ▸ S3.rg k k hk hk
  refine ⟨T2,G2,L ++ [((F:Int),1,u,0,0)],k + 1,F,?_,AGl,AGl,S3.next1 hs B.sz B.sum hk hz3 hd3,B.push hEF rfl ⟨⟨AGl,AGl⟩,?_⟩ (m:=1) rfl (.inl rfl)⟩
  ·unfold AW9;rw [hM,if_pos AGl,hpv];simp only [Option.bind_some];rw [if_neg AGl,(Aym (fuel:=fuel) (G:=G) (T:=T) hn hrk hrn hf2).2.2];simp only [Option.bind_some];rw [AU4<|ATv hk,AU4<|ATm hk,if_pos hFF,if_pos trivial,if_pos (show 0<=(K:Int)/\(K:Int)<=64 by omega),hdk,Ai2,An4 hK,hv];simp only [Option.bind_some];rw [Al3 (x:=[v]) rfl,Al3 (x:=v) rfl];simp only [Option.bind_some];rw [AUh AGl,hcl];simp only [Option.bind_some];rw [if_pos AGl,AUh AGl]
  grind
 ·have hlt:r < c:=by omega
  have hdg:=P.dg hne;have S2:=(S1.move (i:=c) hcn (c - k) k AGl<|Nat.le_refl k).move (i:=r + 1) AGl (r + 1 - k) k AGl (Nat.le_refl k);obtain ⟨p1,p2,p3⟩:=BCs hrk hlt G;obtain ⟨a,ha⟩:=hdg r hrk hrn;obtain ⟨b,hb⟩:=hdg c AGl hcn;have ha2:G r r=2 ^ F * (2 * a):=by grind
  have hb2:G c c=2 ^ F * (2 * b):=by grind
  rw [ha2] at p1;rw [hu,Int.mul_comm] at p2;rw [hb2] at p3;have hk1:k + 1 < n:=by omega
  have hu1:=A95.1 hpu
  have hdet: ¬ (2:Int) ∣ 2 * a * (2 * b) - u * u:=A95.2 (by
   have h1:u * u % 2=1:=by rw [Int.mul_emod,hu1];rfl
   grind)
  obtain ⟨D,hD⟩:∃ D,D=(2 * a * (2 * b) - u * u) % 2 ^ K:=⟨_,rfl⟩
  have hDnd: ¬ (2:Int) ∣ D:=λh=>hdet (by
   have h2:Eqm 2 D (2 * a * (2 * b) - u * u):=by rw [hD];exact (Eqm.mod (2 ^ K) _).down ⟨2 ^ (K - 1),by rw [<- Int.pow_succ',show K - 1 + 1=K by omega]⟩
   exact Ax8 h2.symm (Int.dvd_refl _) h)
  obtain ⟨v,hv,hvi⟩:=A9q (f:=fuel) (x:=D) (m:=2 ^ K) AGl AGl (Aw4 hP2 hDnd AGl) hf
  have hvq:Eqm (2 ^ K) (v * (2 * a * (2 * b) - u * u)) 1:=by
   refine Eqm.trans ?_ hvi.2.2;refine (Eqm.refl _ v).mul ?_;rw [hD];exact ((Eqm.mod _ _).trans (Eqm.mod _ _)).symm
  obtain ⟨ex,hcl,T2,G2,rfl,S3,⟨q1,q2,q3⟩,hz3⟩:=A5t (fuel:=fuel) S2 hs hK AGl hn hk1 p1 p2 p3 hvq hf2;have b1:=Ayo (E:=F) (K:=K) (A:=2 * a) AGl<|q1 ▸ S3.rg k k hk hk;have b2:=Ayo (E:=F) (K:=K) (A:=u) AGl<|q2 ▸ S3.rg k (k + 1) hk hk1;have b3:=Ayo (E:=F) (K:=K) (A:=2 * b) AGl<|q3 ▸ S3.rg (k + 1) (k + 1) hk1 hk1
  refine ⟨T2,G2,L ++ [((F:Int),2,2 * a,u,2 * b)],k + 2,F,?_,AGl,AGl,S3.next2 hs B.sz B.sum hk1 hz3 q1 q2 q3,B.push hEF rfl ⟨⟨AGl,AGl⟩,?_⟩ (m:=2) rfl (.inr rfl)⟩
  ·have hm1:=(Aym (fuel:=fuel) (G:=G) (T:=T) hn (show k<=c by omega) hcn hf2).1;have hm2:=(Aym (fuel:=fuel) (G:=mvG k c G) (T:=mvC k c T) hn (show k<=r + 1 by omega) (show r + 1 < n by omega) hf2).2.1;have hmk:mkE K (w64 (2 * a * (2 * b)) - w64 (u * u))=some D:=by rw [hD];exact mk_val hK<|(An5 hK _).sub (An5 hK _)
   unfold mkE at hmk;unfold AW9;rw [hM,if_pos AGl,hpv];simp only [Option.bind_some];rw [if_pos AGl,hm1];simp only [Option.bind_some];rw [AUh AGl,hm2];simp only [Option.bind_some];rw [AU4<|ATv hk,AU4<|ATm hk,if_pos hFF,if_neg AGn,AUh AGl,AU4<|ATm hk1,if_pos hFF,AU4<|ATv hk1,AU4<|ATm hk1,if_pos hFF,p1,p2,p3,Ai2,Ai2,Ai2,hmk];simp only [Option.bind_some];rw [if_pos (show 0<=(K:Int)/\(K:Int)<=64 by omega),An4 hK,hv];simp only [Option.bind_some];rw [Al3 (x:=[v]) rfl,Al3 (x:=v) rfl];simp only [Option.bind_some];rw [show w64 ((k:Int) + 2)=((k + 2:Nat):Int) by rw [wk AGl];rfl,hcl];simp only [Option.bind_some];rw [if_pos AGl,show w64 ((k:Int) + 2)=((k + 2:Nat):Int) by rw [wk AGl];rfl]
  simp_all
end
theorem A96 {n:Nat} (hM:M.length=n) (hn:n<=8) (hf:100 < fuel):iter (λs=>Adb fuel M s.1 s.2) fuel (0,[])=some (tab n n dl):=by
 apply ok_eq;refine AT8 (λi s=>s=((i:Int),AU9 i λa=>AU9 n<|dl a)/\i<=n) n ⟨rfl,Nat.zero_le _⟩ AGl λi s hi hI=>?_;obtain ⟨rfl,hin⟩:=hI;unfold Adb;dsimp only;rw [hM]
 refine ATj (λh=>?_) λh=>?_
 ·have hi:i < n:=by omega
  rw [if_pos AGl,AT1,if_pos AGl,Int.toNat_natCast,AXs n (0:Int)]
  have hget:(AU9 i (λa=>AU9 n<|dl a) ++ [AU9 n λ_=>(0:Int)])[i]? =some (AU9 n λ_=>(0:Int)):=by
   rw [List.getElem?_append_right (by rw [AT1];omega),AT1,Nat.sub_self];rfl
  rw [AU4 hget,AU4<|ATm hi,Apy,AUh AGl];refine AGp ⟨hi,?_,hi⟩;congr 1;rw [AUx,List.set_append,if_neg (by rw [AT1];omega),AT1,Nat.sub_self];show AU9 i (λa=>AU9 n<|dl a) ++ [AU9 n λc=>if c=i then 1 else 0]=_
  have:AU9 n (λc=>if c=i then (1:Int) else 0)=AU9 n (dl i):=AUq λc _=>by
   unfold dl;omega
  rw [this];unfold AU9;rw [List.range_succ,List.map_append];rfl
 ·obtain rfl:i=n:=by omega
  exact AGp rfl
theorem BFy (R:Arq M) (hf:2147483648 < fuel):
 ∃ (K E:Nat) (T G:AS9) (L:List AWq),AWb fuel M=some ((2,tab M.length M.length T,L),0)/\AVl fuel M 2=some ((K:Int),0)/\3<=K/\K<=30/\Ayb (det M.length<|ent M) 2 ((K:Int) - 3)/\DS M.length K (ent M) T G L M.length E/\DL K L M.length E:=by
 have hf2:100 < fuel:=by omega
 have hP2:Pr 2:=⟨AGl,λd h1 h2=>by omega⟩;have hI:=A9z hP2;obtain ⟨v,hv,hv2,hj,-⟩:=Asm (fuel:=fuel) R hP2 AGn hf2;obtain ⟨K,hk,hq,hk1,hk3⟩:=A0s R AGn AGn hv;have hK3:=hk3 rfl;have hK:=Arr (p:=2) AGn hq;rw [hk] at hj;rw [if_pos rfl] at hk;have hn:=R.1.2;have hs:∀ i j,i < M.length->j < M.length->ent M i j=ent M j i:=λi j hi hj=>R.2.2.sym i j hi hj
 have hq1:(2:Int)<=2 ^ K:=by
  have h1:(2:Int) ^ 1<=2 ^ K:=AWz AGn hk1;omega
 have hd: ¬ (2:Int) ^ (K - 2) ∣ det M.length (ent M):=λh=>by
  obtain ⟨e,r,he,h1,h2⟩:=hv;have:=A90 (f:=K - 2) hI h1 h2 h;omega
 have hrd:isRed M=true:=(Akq M).2 R
 have hP:AVl fuel M 2=some ((K:Int),0):=by
  unfold AVl Ahe;grind
 unfold AWb;rw [hP];simp only [Option.bind_some];rw [if_neg (show ¬ ¬ True from λh=>h trivial),if_pos (show 0<=(K:Int)/\(K:Int)<=64 by omega),An4 hK,BFw R hq1 hq hf2];simp only [Option.bind_some];rw [A96 rfl hn hf2];simp only [Option.bind_some]
 have S0:DS M.length K (ent M) dl (λi j=>ent M i j % 2 ^ K) [] 0 0:=⟨λi j _ _=>by
  unfold dl;split <;> omega,λi j _ _=>Atp AGl _,BFm λi j _ _=>Eqm.mod _ _,λi j h=>absurd h<|Nat.not_lt_zero i,λi j h=>absurd h<|Nat.not_lt_zero i,λi j _ _ _ _=>⟨ent M i j % 2 ^ K,AGl⟩⟩
 have main:Ok (iter (λs=>AW9 fuel M K s.1 s.2.1 s.2.2.1 s.2.2.2) fuel (0,tab M.length M.length λi j=>ent M i j % 2 ^ K,tab M.length M.length dl,[])) λex=> ∃ (E:Nat) (T G:AS9) (L:List AWq),ex=(tab M.length M.length G,tab M.length M.length T,L)/\DS M.length K (ent M) T G L M.length E/\DL K L M.length E:=by
  refine Au6 (λs=> ∃ (k E:Nat) (T G:AS9) (L:List AWq),s=((k:Int),tab M.length M.length G,tab M.length M.length T,L)/\k<=M.length/\DS M.length K (ent M) T G L k E/\DL K L k E) (λs=>M.length - s.1.toNat) (λs hI=>?_) ⟨0,0,_,_,_,rfl,Nat.zero_le _,S0,DL.nil⟩ AGl;obtain ⟨k,E,T,G,L,rfl,hin,S,B⟩:=hI;dsimp only
  rcases Nat.lt_or_ge k M.length with h | h
  ·obtain ⟨T',G',L',k',E',h1,h2,h3,h4,h5⟩:=BCv (fuel:=fuel) (M:=M) rfl S B hs hd hK3 hK hn h hf;rw [h1];refine AGp ⟨⟨k',E',T',G',L',rfl,h3,h4,h5⟩,?_⟩;omega
  ·obtain rfl:k=M.length:=by omega
   unfold AW9;rw [if_neg AGl];exact AGp ⟨E,T,G,L,rfl,S,B⟩
 obtain ⟨ex,h1,E,T,G,L,rfl,S,B⟩:=main;grind
end Go.Proofs.YtkakafabeobahaaGreatDoor
namespace Go.Proofs.YtkakafabeobahaaGreatDoor
open Go Go.QF
set_option maxRecDepth 100000
set_option maxHeartbeats 4000000
def Aap (fuel:Nat) (a3:LiI) (Aa:Int):Option (Int ⊕ (Bool ⊕ Unit)):=
 if Aa < (a3.length:Int) then (gI a3 Aa).bind λAc=>if 12 < (Ac.length:Int) then some (.inr<|.inl true) else some (.inl<|w64<|Aa + 1) else some<|.inr<|.inr ()
def Aae (fuel:Nat) (a3:LiI):Option Bool:=
 if 12 < (a3.length:Int) then some true else (iter (λs=>Aap fuel a3 s) fuel 0).bind (λex=>match ex with | .inl Ab=>(some Ab) | .inr _=>some false)
theorem Amj {h:AGz} {Aj:Value} {a3:LiI} {r:Bool} (H2:AV4 (cI .i64) h Aj a3) (hp:Aae fuel a3=some r):ATz Tryz.prog 24 #[Aj] h (λx h'=>Ext h h'/\x= .bool r):=by
 unfold Aae at hp;refine cwf (l:=[_]) Tryz.func24 rfl rfl (AGq<|AGx<|AGs<|AGq<|AGm<|AT3 ATb rfl H2 (AXr rfl rfl (AGu ?_)));have K0:=Kst.k0 h;refine ⟨_,rfl,λAf=>?_,λAf=>?_⟩
 ·refine AGq<|AGx<|AG1<|ATd ?_;obtain rfl:=AGo<|AT4 hp Af;exact ⟨_,AS5,K0.x,rfl⟩
 ·refine AG0<|q_t<|AGs<|AGq<|AGm<|AT3 ATb rfl H2 (AGm<|AGu<|AGt ?_);obtain ⟨Ag,Ap,Am⟩:=AGr<|AT5 hp Af;obtain ⟨Aq,Ar,Au⟩:=A69 Ap;refine AYg 261140 (λx:(Int)=>[(10,(.int .i64 x))]) (λk x h'=>iter Aq k x=some Ag/\Kst h h' (K0.L)) AG2 fuel (0:(Int)) ?_ ⟨rfl,trivial⟩ ?_
  ·exact ⟨Au,K0⟩
  rintro A4 Av A5 A6 ⟨Aw,Ac⟩;obtain ⟨Ax,A7,rfl,Aa,Ab⟩:=Av6 Aw;rw [Ar] at Aa;dsimp only at Aa;unfold Aap at Aa;refine AGq<|ATp rfl rfl (AGu<|AGs<|⟨_,rfl,λAh=>?_,λAh=>?_⟩)
  ·refine AG0<|q_t<|AGs<|AGt<|AGq ?_;obtain ⟨A8,Ay,Ao⟩:=AGr<|AT4 Aa Ah;refine Alx ATb rfl H2 rfl Ay λA9 Ba Bb Az A3=>AT6 ATq rfl (ATw Az Ac.x) (AT2<|AGm<|AUl ATa rfl A3 (AXr rfl rfl (AGu<|⟨_,rfl,λAi=>?_,λAi=>?_⟩)))
   ·refine AGq<|AGx ?_;obtain rfl:=AGo<|AT4 Ao Ai;change _=Ag at Ab;subst Ab;refine AG1<|AUg<|ATd<|ATd<|AUg<|ATd ?_;obtain rfl:=AGo Am;exact ⟨_,AS5,Ac.x,rfl⟩
   ·refine AG0<|q_b<|q_t<|AS8<|ATn rfl rfl (AGm<|AGu ?_);obtain rfl:=AGo<|AT5 Ao Ai;exact ⟨Ax,((w64<|Av + 1):(Int)),Nat.lt_succ_self _,⟨Ab,Ac⟩,rfl,trivial⟩
  ·obtain rfl:=AGo<|AT5 Aa Ah;change _=Ag at Ab;subst Ab;refine ATh<|ATi<|ATi<|AUf<|q_t<|AGq<|AGx<|AG1 ?_;obtain rfl:=AGo Am;exact ⟨_,AS5,Ac.x,rfl⟩
end Go.Proofs.YtkakafabeobahaaGreatDoor
namespace Go.Proofs.YtkakafabeobahaaGreatDoor
open Go Go.QF
set_option maxRecDepth 100000
def Szs (L:List AWq):Prop:= ∀ i,i < L.length-> ∀ b,L[i]? =some b->b.2.1=1∨b.2.1=2
theorem A37 {L:List AWq} (h:Szs L):L.length<=Ack L/\Ack L<=2 * L.length:=by
 induction L with
 | nil=>exact ⟨Nat.le_refl _,Nat.le_refl _⟩
 | cons b l ih=>
   have hb:=h 0 AT7 b rfl
   have:=ih λi hi c hc=>h (i + 1) (by simpa using hi) c (by simpa using hc)
   unfold Ack
   grind
theorem BCw {L:List AWq} (h:Szs L):∀ b∈L,b.2.1=1∨b.2.1=2:=λb hb=>by
 obtain ⟨i,hi⟩:=List.getElem?_of_mem hb
 exact h i (List.getElem?_eq_some_iff.1 hi).1 b hi
theorem A0v {L:List AWq} {b:AWq} (h:L[i]? =some b):L.drop i=b :: L.drop (i + 1):=by
 have hi:=(List.getElem?_eq_some_iff.1 h).1;rw [List.drop_eq_getElem_cons hi];grind
theorem BDj {n:Nat} {L:List AWq} (hM:M.length=n) (hn:n<=8) (hl:L.length<=20) (hf:100 < fuel):Ok (iter (λs=>Af3 fuel M L s.1 s.2) fuel (0,0)) λex=>(ex= .inr ((Ack L:Nat):Int)/\Szs L)∨(ex= .inl 3/\¬ (Szs L/\Ack L=n)):=by
 refine AT8 (λi s=> ∃ r:Nat,s=((r:Int),(i:Int))/\r<=2 * i/\(∀ j,j < i-> ∀ b,L[j]? =some b->b.2.1=1∨b.2.1=2)/\r + Ack (L.drop i)=Ack L) L.length ⟨0,rfl,Nat.le_refl _,λj hj=>absurd hj<|Nat.not_lt_zero j,AT7⟩ AGl λi s hi hI=>?_;obtain ⟨r,rfl,Ae,hz,hr⟩:=hI;unfold Af3;dsimp only;by_cases h:i < L.length
 ·obtain ⟨b,hbi⟩:∃ b,L[i]? =some b:=⟨L[i],List.getElem?_eq_getElem h⟩;rw [A0v hbi] at hr;rw [Ack] at hr;rw [if_pos AGl,AU4 hbi]
  have hbad:n < r->¬ (Szs L/\Ack L=n):=λh1 h2=>by
   omega
  have hok:b.2.1=1∨b.2.1=2-> ∀ j,j < i + 1-> ∀ c,L[j]? =some c->c.2.1=1∨c.2.1=2:=λh1 j hj c hc=>by
   grind
  refine AGw (Q:=λex=>(ex= .inr ()/\(b.2.1=1∨b.2.1=2))∨(ex= .inl 3/\¬ (Szs L/\Ack L=n))) (ATj (λh1=>ATj (λh2=>AGp<|.inr ⟨rfl,λh3=>?_⟩) λh2=>ATj (λh3=>AGp<|.inr ⟨rfl,hbad AGl⟩) λh3=>AGp<|.inl ⟨rfl,.inr AGl⟩) λh1=>ATj (λh3=>AGp<|.inr ⟨rfl,hbad AGl⟩) λh3=>AGp<|.inl ⟨rfl,.inl AGl⟩) λex hex=>?_
  ·rcases h3.1 i h b hbi with h4 | h4
   ·exact h1 h4
   ·exact h2 h4
  ·rcases hex with ⟨rfl,h1⟩ | ⟨rfl,h1⟩
   ·refine AGp ⟨h,r + b.2.1.toNat,?_,AGl,hok h1,AGl⟩;rw [AVq (x:=(r:Int) + b.2.1) AGl AGl,AUh AGl];grind
   ·exact AGp<|.inr ⟨rfl,h1⟩
 ·obtain rfl:i=L.length:=by omega
  rw [if_neg AGl];rw [List.drop_length] at hr;have:r=Ack L:=hr;subst this;exact AGp<|.inl ⟨rfl,hz⟩
theorem A38 {n:Nat} {T:List (List Int)} (hM:M.length=n) (hT:T.length<=8) (hf:100 < fuel):Ok (iter (λs=>Acz fuel M T s) fuel 0) λex=>(ex= .inr ()/\ ∀ i,i < T.length-> ∀ z,T[i]? =some z->z.length=n)∨(ex= .inl 3/\¬ ∀ i,i < T.length-> ∀ z,T[i]? =some z->z.length=n):=by
 refine Ajm (n:=T.length) (λi=> ∀ z,T[i]? =some z->z.length=n) 3 AGl (λi hi=>?_) ?_
 ·obtain ⟨z,hz⟩:∃ z,T[i]? =some z:=⟨T[i],List.getElem?_eq_getElem hi⟩;unfold Acz;rw [if_pos AGl,AU4 hz];exact ATj (λh=>AGp<|.inr ⟨rfl,λh2=>h<|by grind⟩) λh=>AGp<|.inl ⟨by rw [AUh AGl],λy hy=>by grind⟩
 ·unfold Acz;grind
theorem A98 {n:Nat} {T:List (List Int)} {L:List AWq} (hn:n<=8) (hl:L.length<=20) (hf:100 < fuel):Ok (AZt fuel p T L n) λb=>b=true↔T.length=n/\(∀ i,i < T.length-> ∀ z,T[i]? =some z->z.length=n)/\Szs L/\Ack L=n:=by
 unfold AZt;refine AGw (Q:=λex=>(ex= .inr ()/\T.length=n/\L.length<=n)∨(ex= .inl false/\¬ (T.length=n/\L.length<=n))) (ATj (λh=>AGp<|.inr ⟨rfl,AGl⟩) λh=>ATj (λh2=>AGp<|.inr ⟨rfl,AGl⟩) λh2=>AGp<|.inl ⟨rfl,AGl,AGl⟩) λex hex=>?_
 rcases hex with ⟨rfl,hT,hL⟩ | ⟨rfl,h⟩
 ·refine AGw (Ajm (n:=T.length) (λi=> ∀ z,T[i]? =some z->z.length=n) false AGl (λi hi=>?_) ?_) λex hex=>?_
  ·obtain ⟨z,hz⟩:∃ z,T[i]? =some z:=⟨T[i],List.getElem?_eq_getElem hi⟩;unfold Aaa;rw [if_pos AGl,AU4 hz];exact ATj (λh=>AGp<|.inr ⟨rfl,λh2=>h<|by grind⟩) λh=>AGp<|.inl ⟨by rw [AUh AGl],λy hy=>by grind⟩
  ·unfold Aaa;grind
  ·rcases hex with ⟨rfl,hrow⟩ | ⟨rfl,hrow⟩
   ·refine AGw (Q:=λex=>(ex= .inr ((n:Int) - (Ack L:Nat))/\Szs L)∨(ex= .inl false/\¬ Szs L)) (AT8 (λi s=> ∃ r:Nat,s=((n:Int) - r,(i:Int))/\r<=2 * i/\(∀ j,j < i-> ∀ b,L[j]? =some b->b.2.1=1∨b.2.1=2)/\r + Ack (L.drop i)=Ack L) L.length ⟨0,AT7,Nat.le_refl _,λj hj=>absurd hj<|Nat.not_lt_zero j,AT7⟩ AGl λi s hi hI=>?_) λex hex=>?_
    ·obtain ⟨r,rfl,hr2,hz,hr⟩:=hI;unfold Adw;dsimp only
     by_cases h:i < L.length
     ·obtain ⟨b,hbi⟩:∃ b,L[i]? =some b:=⟨L[i],List.getElem?_eq_getElem h⟩;rw [A0v hbi] at hr;rw [Ack] at hr;rw [if_pos AGl,AU4 hbi]
      have hok:b.2.1=1∨b.2.1=2-> ∀ j,j < i + 1-> ∀ c,L[j]? =some c->c.2.1=1∨c.2.1=2:=λh1 j hj c hc=>by
       grind
      refine AGw (Q:=λex=>(ex= .inr ()/\(b.2.1=1∨b.2.1=2))∨(ex= .inl false/\¬ Szs L)) (ATj (λh1=>ATj (λh2=>AGp<|.inr ⟨rfl,λh3=>?_⟩) λh2=>AGp<|.inl ⟨rfl,.inr AGl⟩) λh1=>AGp<|.inl ⟨rfl,.inl AGl⟩) λex hex=>?_
      ·rcases h3 i h b hbi with h4 | h4
       ·exact h1 h4
       ·exact h2 h4
      ·rcases hex with ⟨rfl,h1⟩ | ⟨rfl,h1⟩
       ·refine AGp ⟨h,r + b.2.1.toNat,?_,AGl,hok h1,AGl⟩;rw [AVq (x:=(n:Int) - r - b.2.1) AGl AGl,AUh AGl];grind
       ·exact AGp<|.inr ⟨rfl,h1⟩
     ·obtain rfl:i=L.length:=by omega
      rw [if_neg AGl];rw [List.drop_length] at hr;have:r=Ack L:=hr;subst this;exact AGp<|.inl ⟨rfl,hz⟩
    ·rcases hex with ⟨rfl,hz⟩ | ⟨rfl,hz⟩
     ·refine AGp ?_;grind
     ·exact AGp ⟨λh=>(nomatch h),λh=>absurd h.2.2.1 hz⟩
   ·exact AGp ⟨λh=>(nomatch h),λh=>absurd h.2.1 hrow⟩
 ·exact AGp ⟨λh=>(nomatch h),λh2=>absurd ⟨h2.1,by have:=A37 h2.2.2.1;omega⟩ h⟩
theorem pr2:Pr 2:=⟨AGl,λd h1 h2=>by omega⟩
theorem A5u {T:List (List Int)} {L:List AWq} (hM:A0n M) (hl:L.length<=20) (hg:2147483648 < fuel):∃ r,AWh fuel M p T L=some r/\AV1 fuel M p T L=some r:=by
 have hf:100 < fuel:=by omega
 have e0:=Au8 hM hf;unfold AWh AV1;rw [e0];simp only [Ahe,Option.bind_some]
 cases hr:isRed M with
 | false=>simp_all
 | true=>
   have R:=(Akq M).1 hr
   simp only [Bool.not_true,Bool.false_eq_true,reduceIte]
   by_cases hp:p=2
   ·subst hp
    have hn:=R.1
    obtain ⟨n,hMn⟩:∃ n,M.length=n:=⟨_,rfl⟩
    rw [hMn] at hn
    rw [if_neg (show ¬ ¬ (2:Int)=2 from λh=>h rfl),if_neg (show ¬ ¬ (2:Int)=2 from λh=>h rfl),hMn]
    obtain ⟨s,Af,Ac⟩:=A98 (fuel:=fuel) (p:=2) (T:=T) (L:=L) hn.2 hl hf
    rw [Af]
    simp only [Option.bind_some]
    by_cases hT:T.length=n
    ·obtain ⟨ex,h1,h2⟩:=A38 (fuel:=fuel) (T:=T) hMn AGl hf
     rw [if_neg (show ¬ ¬ (T.length:Int)=(n:Int) from λh=>h AGl),h1]
     simp only [Option.bind_some]
     rcases h2 with ⟨rfl,h2⟩ | ⟨rfl,h2⟩
     ·obtain ⟨ex,h3,h4⟩:=BDj (fuel:=fuel) (L:=L) hMn hn.2 hl hf
      simp only []
      rw [h3]
      simp only [Option.bind_some]
      rcases h4 with ⟨rfl,h4⟩ | ⟨rfl,h4⟩
      ·by_cases hb:Ack L=n
       ·obtain rfl:s=true:=Ac.2 ⟨hT,h2,h4,hb⟩
        have hTt:=BFs hT<|A9y (T:=T) (n:=n) h2
        have hMt:=Apb R
        obtain ⟨v,hv,Ak,hj,hd⟩:=Asm (fuel:=fuel) R pr2 AGn hf
        obtain ⟨k,hk,hq,Ai,Ad⟩:=A0s R AGn AGn hv
        rw [hk] at hj hd
        have Aj:=Arr (p:=2) AGn hq
        have hP:AVl fuel M 2=some ((k:Int),0):=by
         unfold AVl Ahe
         grind
        simp only [Bool.not_true,Bool.false_eq_true,reduceIte]
        rw [if_neg (show ¬ ¬ ((Ack L:Nat):Int)=(n:Int) from λh=>h AGl),hP]
        simp only [Option.bind_some]
        rw [hMn] at hMt
        rw [hMt] at hd
        rw [hMt,hTt]
        have hsm:=BCw h4
        have hll:=A37 h4
        obtain ⟨c,h5,h6⟩:=Aw3 (fuel:=fuel) (A:=ent M) (T:=ent T) (L:=L) hn.1 hn.2 Aj (Ad rfl) hsm hb AGl hg
        obtain ⟨d,h9,Aq⟩:=A5n (fuel:=fuel) (A:=ent M) (T:=ent T) (L:=L) hn.1 hn.2 hd (show (2:Int)<=2 by decide) hq Ai Ad hsm hb AGl AGn hf
        grind
       ·have: ¬ s=true:=λh=>hb (Ac.1 h).2.2.2
        rw [if_pos<|show (!s)=true by simpa using this]
        grind
      grind
     grind
    ·have: ¬ s=true:=λh=>hT (Ac.1 h).1
     rw [if_pos (show (!s)=true by simpa using this),if_pos<|show ¬ (T.length:Int)=(n:Int) by omega]
     grind
   simp_all
theorem A99:isRed [[2,1],[1,2]]=true:=by
 unfold isRed
 rw [<- Aaj (M:=[[2,1],[1,2]]) ⟨AGn,AGn,λi j hi hj=>by
  have hi:i < 2:=hi
  have hj:j < 2:=hj
  rcases (by omega:i=0∨i=1) with rfl | rfl <;> rcases (by omega:j=0∨j=1) with rfl | rfl <;> decide⟩]
 decide +kernel
theorem Ayp:AUz (AWk + 1)=some true:=by
 have Ab:100 < AWk + 1:=Nat.lt_of_le_of_lt AGn<|Nat.lt_succ_self AWk;have R:=(Akq _).1 A99;have hd:det 2 (ent [[2,1],[1,2]])=3:=by decide +kernel
 obtain ⟨v,h1,h2,h3,h4⟩:=Asm (fuel:=AWk + 1) R (p:=2) pr2 AGl Ab;obtain rfl:v=0:=A3z (p:=2) (d:=3) AGl (by grind) ⟨0,3,rfl,AGn,AGn⟩;rw [if_pos rfl] at h3;unfold AUz AWh AVl Ahe;simp only [A99,h3,Option.bind_some,Bool.not_true,Bool.false_eq_true,reduceIte];decide +kernel
theorem A5v (hf:100 < fuel):Ok (Aae fuel M) λ_=>True:=by
 unfold Aae;refine ATj (λ_=>AGp trivial) λh=>AGw (Ajm (n:=M.length) (λi=> ∀ z,M[i]? =some z->¬ 12 < z.length) true AGl (λi hi=>?_) ?_) λex hex=>?_
 ·obtain ⟨z,hz⟩:∃ z,M[i]? =some z:=⟨M[i],List.getElem?_eq_getElem hi⟩;unfold Aap;rw [if_pos AGl,AU4 hz];exact ATj (λh=>AGp<|.inr ⟨rfl,λh2=>h2 z hz AGl⟩) λh=>AGp<|.inl ⟨by rw [AUh AGl],λy hy=>by grind⟩
 ·unfold Aap;grind
 ·rcases hex with ⟨rfl,_⟩ | ⟨rfl,_⟩
  ·exact AGp trivial
  ·exact AGp trivial
end Go.Proofs.YtkakafabeobahaaGreatDoor
namespace Go.Proofs.YtkakafabeobahaaGreatDoor
open Go Go.QF
set_option maxRecDepth 100000
set_option maxHeartbeats 4000000
noncomputable def AXh (fuel:Nat) (a1 a2:Int) (a5 a9:LiA) (Ac:LiI) (Ak:Bool):Option Bool:=
 (Aae fuel Ac).bind λAm=>if Am=true then (AUz fuel).bind λAo=>some Ao else if Ak=true then (AXf fuel a1 a2 a5 a9 7).bind λAd=>(AWb fuel Ad).bind λ(Aa,Ae)=>(AU7 fuel Ad).bind λAp=>if (!Ap)=true then if Ae=6 then if w64 ((Aa.2.1.length:Int) + (Aa.2.2.length:Int))=0 then (AUz fuel).bind λAq=>some Aq else some false else some false else if Ae=0 then (AV1 fuel Ad Aa.1 Aa.2.1 Aa.2.2).bind λAr=>if Ar=0 then (AWh fuel Ad Aa.1 Aa.2.1 Aa.2.2).bind λAu=>if Au=0 then (AUz fuel).bind λAv=>some Av else some false else some false else some false else (AWb fuel Ac).bind λ(Ab,Af)=>(AU7 fuel Ac).bind λAw=>if (!Aw)=true then if Af=6 then if w64 ((Ab.2.1.length:Int) + (Ab.2.2.length:Int))=0 then (AUz fuel).bind λAx=>some Ax else some false else some false else if Af=0 then (AV1 fuel Ac Ab.1 Ab.2.1 Ab.2.2).bind λAy=>if Ay=0 then (AWh fuel Ac Ab.1 Ab.2.1 Ab.2.2).bind λAz=>if Az=0 then (AUz fuel).bind λA3=>some A3 else some false else some false else some false
theorem Ah1 {h:AGz} {a1 a2:Int} {Ak:Value} {a5:LiA} {Am:Value} {a9:LiA} {Bj:Value} {Bl:LiI} {Bm r:Bool} (H4:SlC (cI .i8) h Ak a5) (H8:SlC (cI .i8) h Am a9) (Ah:AV4 (cI .i64) h Bj Bl) (HO:Ap0 h) (hp:AXh fuel a1 a2 a5 a9 Bl Bm=some r):ATz Tryz.prog 6 #[(.agg #[(.int .u8 a1),(.int .u8 a2),Ak,Am]),Bj,(.bool Bm)] h (λx h'=>Ext h h'/\x= .bool r):=by
 unfold AXh at hp;refine cwf (l:=[_,_,_]) Tryz.func6 rfl rfl (AGq<|AY3 (Kst.k0 h) [(.int .u8 a1),(.int .u8 a2),Ak,Am] λD0 D1 D2 Bn=>AGx<|AGs<|AGq<|AGm ?_);obtain ⟨D3,Cg,Bo⟩:=AGr hp;refine AVs Bn (Amj (Ah.ext Bn.x) Cg) λD4 D5 Ac=>AGu<|⟨_,rfl,λA9=>?_,λA9=>?_⟩
 ·refine AGq ?_;obtain ⟨D6,Ch,Ci⟩:=AGr<|ifT Bo A9;refine AVs Ac (AYw (HO.ext Ac.x) Ch) λD7 D8 Cj=>AGx<|AG1<|ATd ?_;obtain rfl:=AGo Ci;exact ⟨_,AS5,Cj.x,rfl⟩
 ·refine AG0<|q_t<|AGs<|AGq<|AGm<|AGu ?_;have Bp:=AY5 Bo A9;refine ⟨_,rfl,λBa=>?_,λBa=>?_⟩
  ·refine AS8<|Abd [(.int .u8 a1),(.int .u8 a2),Ak,Am] A8k rfl rfl (Ac.b p0).agg ?_;obtain ⟨D9,Ck,Cm⟩:=AGr<|ifT Bp Ba;refine Agx Ac (Ajf (H4.ext Ac.x) (H8.ext Ac.x) Ck) λEa Eb Ec Ed Ee Ef Bb=>AT2<|AGm ?_;obtain ⟨⟨Ad,Bq⟩,Cn,Br⟩:=AGr Cm;dsimp only at Br;refine Agw rfl (Ai8 (Bb.o2 p0).rd (HO.ext Bb.x) Cn) λEg Eh Co Cp=>?_;obtain ⟨Ao,Ap,Cq,Cr,Ct,Cu,rfl,Cv,Cw,Cx⟩:=Cp;have Bt:=Bb.n Co [aO2 (cI .i64) 61 2 Cq Cr Ct Ao Ad.2.1,aO Ah5 60 Cu Ap Ad.2.2] Cx ⟨Cv,Cw,trivial⟩;simp only [List.cons_append,List.nil_append] at Bt;refine AGm<|AUk rfl rfl (AUk rfl rfl (AV6 Bt [(.int .i64 0),(.slice none 0 0),(.slice none 0 0)] Aub λEi Ej Ek Aq=>AVa [(.int .i64 Ad.1),Ao,Ap] Aev rfl rfl rfl rfl (Aac rfl (Aac (Aq.o2 p1).isOne<|Aac (Aq.o p2).isOne Al2)) (Aq.b p0) λEl Cy Cz=>AGx<|AGs<|AGq<|AGm ?_));have Bu:=Aq.sb p0 Cz Cy rfl;obtain ⟨Em,C0,Bv⟩:=AGr Br;refine AVs Bu (Abc (Bu.o2 p3).rd C0) λEn Eo Aa=>AV5 rfl (AGu<|⟨_,rfl,λBc=>?_,λBc=>?_⟩)
   ·refine AGq<|AGm<|AU0 rfl rfl (AGm ?_);have Bw:=ifT Bv Bc;by_cases Ar:Bq=6
    ·have Bx:=ifT Bw Ar;rw [decide_eq_true Ar];refine ATc 25 true<|AVd Ahb rfl (ATc 25 true<|AT6 AU5 rfl ((Aa.b p0).cell (i:=1) rfl) (ATc 25 true<|AT3 ATb rfl (Aa.o2 p1).rd (ATc 25 true<|AVd Afn rfl (ATc 25 true<|AT6 Ak1 rfl ((Aa.b p0).cell (i:=2) rfl) (ATc 25 true<|AUl Ahr rfl (Aa.o p2).rd (ATc 25 true<|ATn rfl rfl (ATc 25 true<|AU0 rfl rfl (ATf rfl (AGm ?_)))))))));by_cases Au:(w64<|(Ad.2.1.length:Int) + (Ad.2.2.length:Int))=0
     ·rw [decide_eq_true Au];refine ATc 35 true ?_;obtain ⟨Ep,C1,C2⟩:=AGr<|ifT Bx Au;refine AVs Aa (AYw (HO.ext Aa.x) C1) λEr Es C3=>ATf rfl (AGx<|AG1<|ATd ?_);obtain rfl:=AGo C2;exact ⟨_,AS5,C3.x,rfl⟩
     ·rw [decide_eq_false Au];refine Alq 35 false<|AS6 rfl (AGx<|AG1<|ATd ?_);obtain rfl:=AGo<|ifF Bx Au;exact ⟨_,AS5,Aa.x,rfl⟩
    ·rw [decide_eq_false Ar];refine AY2 25 false<|AWi 25 false<|AS6 rfl (AGm<|Alq 35 false<|AS6 rfl (AGx<|AG1<|ATd ?_));obtain rfl:=AGo<|ifF Bw Ar;exact ⟨_,AS5,Aa.x,rfl⟩
   ·refine AG0<|q_t<|AGq<|AGm<|AU0 rfl rfl (AGm ?_);have By:=AY5 Bv Bc;by_cases Av:Bq=0
    ·rw [decide_eq_true Av];refine ATc 40 true<|AGm<|ATc 40 true<|Abd [(.int .i64 Ad.1),Ao,Ap] Aev rfl rfl (Aa.b p0).agg (ATc 40 true ?_);obtain ⟨C4,C5,Bz⟩:=AGr<|ifT By Av;refine AVs Aa (Ag6 (Aa.o2 p3).rd (Aa.o2 p1).rd (Aa.o p2).rd C5) λEt Eu Ae=>ATc 40 true<|AU0 rfl rfl (ATf rfl (AGm ?_));by_cases Aw:C4=0
     ·rw [decide_eq_true Aw];refine ATc 46 true<|AGm<|ATc 46 true<|Abd [(.int .i64 Ad.1),Ao,Ap] Aev rfl rfl (Ae.b p0).agg (ATc 46 true ?_);obtain ⟨C6,C7,B1⟩:=AGr<|ifT Bz Aw;refine AVs Ae (Ah9 (Ae.o2 p3).rd (Ae.o2 p1).rd (Ae.o p2).rd (HO.ext Ae.x) C7) λEv Ew Be=>ATc 46 true<|AU0 rfl rfl (ATf rfl (AGm ?_));by_cases Ax:C6=0
      ·rw [decide_eq_true Ax];refine ATc 52 true ?_;obtain ⟨Ey,C8,C9⟩:=AGr<|ifT B1 Ax;refine AVs Be (AYw (HO.ext Be.x) C8) λEz Fa Da=>ATf rfl (AGx<|AG1 ?_);obtain rfl:=AGo C9;exact ⟨_,AS5,Da.x,rfl⟩
      ·rw [decide_eq_false Ax];refine Alq 52 false<|AS6 rfl (AGx<|AG1 ?_);obtain rfl:=AGo<|ifF B1 Ax;exact ⟨_,AS5,Be.x,rfl⟩
     ·rw [decide_eq_false Aw];refine AWe 46 false<|AS6 rfl (AGm<|Alq 52 false<|AS6 rfl (AGx<|AG1 ?_));obtain rfl:=AGo<|ifF Bz Aw;exact ⟨_,AS5,Ae.x,rfl⟩
    ·rw [decide_eq_false Av];refine AWe 40 false<|AS6 rfl (AGm<|AWe 46 false<|AS6 rfl (AGm<|Alq 52 false<|AS6 rfl (AGx<|AG1 ?_)));obtain rfl:=AGo<|ifF By Av;exact ⟨_,AS5,Aa.x,rfl⟩
  ·refine AG0<|q_t<|AGq<|AGm ?_;obtain ⟨⟨Af,B3⟩,Db,B4⟩:=AGr<|AY5 Bp Ba;dsimp only at B4;refine Agw rfl (Ai8 (Ah.ext Ac.x) (HO.ext Ac.x) Db) λFb Fc Dc Dd=>?_;obtain ⟨Ay,Az,De,Df,Dg,Dh,rfl,Di,Dj,Dk⟩:=Dd;have B5:=Ac.n Dc [aO2 (cI .i64) 61 2 De Df Dg Ay Af.2.1,aO Ah5 60 Dh Az Af.2.2] Dk ⟨Di,Dj,trivial⟩;simp only [List.cons_append,List.nil_append] at B5;refine AGm<|AUk rfl rfl (AUk rfl rfl (AV6 B5 [(.int .i64 0),(.slice none 0 0),(.slice none 0 0)] Aub λFd Fe Ff A3=>AVa [(.int .i64 Af.1),Ay,Az] Aev rfl rfl rfl rfl (Aac rfl (Aac (A3.o2 p1).isOne<|Aac (A3.o p2).isOne Al2)) (A3.b p0) λFg Dl Do=>AGx<|AGs<|AGq<|AGm ?_));have B6:=A3.sb p0 Do Dl rfl;obtain ⟨Fh,Dp,B7⟩:=AGr B4;refine AVs B6 (Abc (Ah.ext B6.x) Dp) λFi Fj Ab=>AV5 rfl (AGu<|⟨_,rfl,λBf=>?_,λBf=>?_⟩)
   ·refine AGq<|AGm<|AU0 rfl rfl (AGm ?_);have B8:=ifT B7 Bf;by_cases A4:B3=6
    ·have B9:=ifT B8 A4;rw [decide_eq_true A4];refine ATc 25 true<|AVd Ahb rfl (ATc 25 true<|AT6 AU5 rfl ((Ab.b p0).cell (i:=1) rfl) (ATc 25 true<|AT3 ATb rfl (Ab.o2 p1).rd (ATc 25 true<|AVd Afn rfl (ATc 25 true<|AT6 Ak1 rfl ((Ab.b p0).cell (i:=2) rfl) (ATc 25 true<|AUl Ahr rfl (Ab.o p2).rd (ATc 25 true<|ATn rfl rfl (ATc 25 true<|AU0 rfl rfl (ATf rfl (AGm ?_)))))))));by_cases A5:(w64<|(Af.2.1.length:Int) + (Af.2.2.length:Int))=0
     ·rw [decide_eq_true A5];refine ATc 35 true ?_;obtain ⟨Fk,Dq,Dr⟩:=AGr<|ifT B9 A5;refine AVs Ab (AYw (HO.ext Ab.x) Dq) λFl Fm Ds=>ATf rfl (AGx<|AG1<|ATd ?_);obtain rfl:=AGo Dr;exact ⟨_,AS5,Ds.x,rfl⟩
     ·rw [decide_eq_false A5];refine Alq 35 false<|AS6 rfl (AGx<|AG1<|ATd ?_);obtain rfl:=AGo<|ifF B9 A5;exact ⟨_,AS5,Ab.x,rfl⟩
    ·rw [decide_eq_false A4];refine AY2 25 false<|AWi 25 false<|AS6 rfl (AGm<|Alq 35 false<|AS6 rfl (AGx<|AG1<|ATd ?_));obtain rfl:=AGo<|ifF B8 A4;exact ⟨_,AS5,Ab.x,rfl⟩
   ·refine AG0<|q_t<|AGq<|AGm<|AU0 rfl rfl (AGm ?_);have Ca:=AY5 B7 Bf;by_cases A6:B3=0
    ·rw [decide_eq_true A6];refine ATc 40 true<|AGm<|ATc 40 true<|Abd [(.int .i64 Af.1),Ay,Az] Aev rfl rfl (Ab.b p0).agg (ATc 40 true ?_);obtain ⟨Dt,Du,Cb⟩:=AGr<|ifT Ca A6;refine AVs Ab (Ag6 (Ah.ext Ab.x) (Ab.o2 p1).rd (Ab.o p2).rd Du) λFo Fp Ag=>ATc 40 true<|AU0 rfl rfl (ATf rfl (AGm ?_));by_cases A7:Dt=0
     ·rw [decide_eq_true A7];refine ATc 46 true<|AGm<|ATc 46 true<|Abd [(.int .i64 Af.1),Ay,Az] Aev rfl rfl (Ag.b p0).agg (ATc 46 true ?_);obtain ⟨Dv,Dw,Cd⟩:=AGr<|ifT Cb A7;refine AVs Ag (Ah9 (Ah.ext Ag.x) (Ag.o2 p1).rd (Ag.o p2).rd (HO.ext Ag.x) Dw) λFq Fr Bg=>ATc 46 true<|AU0 rfl rfl (ATf rfl (AGm ?_));by_cases A8:Dv=0
      ·rw [decide_eq_true A8];refine ATc 52 true ?_;obtain ⟨Ft,Dx,Dy⟩:=AGr<|ifT Cd A8;refine AVs Bg (AYw (HO.ext Bg.x) Dx) λFu Fv Dz=>ATf rfl (AGx<|AG1 ?_);obtain rfl:=AGo Dy;exact ⟨_,AS5,Dz.x,rfl⟩
      ·rw [decide_eq_false A8];refine Alq 52 false<|AS6 rfl (AGx<|AG1 ?_);obtain rfl:=AGo<|ifF Cd A8;exact ⟨_,AS5,Bg.x,rfl⟩
     ·rw [decide_eq_false A7];refine AWe 46 false<|AS6 rfl (AGm<|Alq 52 false<|AS6 rfl (AGx<|AG1 ?_));obtain rfl:=AGo<|ifF Cb A7;exact ⟨_,AS5,Ag.x,rfl⟩
    ·rw [decide_eq_false A6];refine AWe 40 false<|AS6 rfl (AGm<|AWe 46 false<|AS6 rfl (AGm<|Alq 52 false<|AS6 rfl (AGx<|AG1 ?_)));obtain rfl:=AGo<|ifF Ca A6;exact ⟨_,AS5,Ab.x,rfl⟩
end Go.Proofs.YtkakafabeobahaaGreatDoor
namespace Go.Proofs.YtkakafabeobahaaGreatDoor
open Go Go.QF
set_option maxRecDepth 100000
theorem BCx {L:List AWq} (R:Arq M) (hP:AVl fuel M 2=some ((K:Int),0)) (Ac:3<=K) (hK:K<=30) (hsz:As8 L) (hsum:Ack L=M.length) (hR:RC M.length K 2 (ent M) T L) (hg:2147483648 < fuel):AWh fuel M 2 (tab M.length M.length T) L=some 0:=by
 have hf:100 < fuel:=by omega
 have hr:isRed M=true:=(Akq M).2 R;have hn:=R.1;have hll:=Ayn hsz;unfold AWh;simp only [Ahe,Option.bind_some,hr];rw [if_neg AGn,if_neg AGn,ATt,if_neg AGl];obtain ⟨ex,h1,h2⟩:=A38 (fuel:=fuel) (M:=M) (T:=tab M.length M.length T) rfl (by rw [ATt];exact hn.2) hf;rw [h1];simp only [Option.bind_some];rcases h2 with ⟨rfl,h2⟩ | ⟨rfl,h2⟩
 ·obtain ⟨ex,h3,h4⟩:=BDj (fuel:=fuel) (M:=M) (L:=L) rfl hn.2 AGl hf;dsimp only;rw [h3];simp only [Option.bind_some];have hS:Szs L:=λi hi b hb=>hsz b<|List.mem_of_getElem? hb;rcases h4 with ⟨rfl,h4⟩ | ⟨rfl,h4⟩
  ·dsimp only;rw [if_neg AGl,hP];simp only [Option.bind_some];obtain ⟨c,h5,h6⟩:=Aw3 (fuel:=fuel) (A:=ent M) (T:=T) (L:=L) hn.1 hn.2 hK Ac hsz hsum AGl hg;rw [<- Apb R] at h5;grind
  grind
 ·exact absurd (λi hi z hz=>by
   rw [ATt] at hi
   rw [ATv hi] at hz
   cases hz
   exact AT1 _ _) h2
theorem BAa (hM:A0n M) (R:Arq M) (hf:2147483648 < fuel):∃ T L,AWb fuel M=some ((2,T,L),0)/\AWh fuel M 2 T L=some 0/\AV1 fuel M 2 T L=some 0:=by
 obtain ⟨K,E,T,G,L,h1,h2,h3,h4,h5,S,B⟩:=BFy R hf;have hv:=BCx R h2 h3 h4 B.sz B.sum (BG1 S B AGl) hf;have hll:=Ayn B.sz;obtain ⟨r,h6,h7⟩:=A5u (p:=2) (T:=tab M.length M.length T) (L:=L) hM (by have:=B.sum;have:=R.1.2;omega) hf;grind
theorem Avi {c:Prop} [Decidable c] {α:Type} {a b:Option α} {R:α->Prop} (hc:c) (h:Ok a R):Ok (if c then a else b) R:=by grind
theorem Aoh {g kd:Int} {Z Y:List Int} {made:Bool} (hg:0<=g/\g < 256) (hM:A0n M):AXh (AWk + 1) g kd Z Y M made=some true:=by
 have hf:AWk < AWk + 1:=Nat.lt_succ_self _;have Ab:100 < AWk + 1:=Nat.lt_of_le_of_lt AGn hf;have Ae:2147483648 < AWk + 1:=Nat.lt_of_le_of_lt AGn hf;apply ok_eq;unfold AXh;have aw:Ok (AUz<|AWk + 1) (· =true):=⟨true,Ayp,rfl⟩;refine AGw (A5v Ab) λl hl=>ATj (λ_=>AGw aw λx hx=>AGp hx) λ_=>?_
 have key:∀ M:List (List Int),A0n M->Ok ((AWb (AWk + 1) M).bind λ(Aa,Ac)=>((AU7 (AWk + 1) M).bind λAf=>(if (!Af)=true then (if Ac=6 then (if (w64<|(Aa.2.1.length:Int) + (Aa.2.2.length:Int))=0 then ((AUz<|AWk + 1).bind λAg=>(some Ag)) else (some false)) else (some false)) else (if Ac=0 then ((AV1 (AWk + 1) M Aa.1 Aa.2.1 Aa.2.2).bind λAh=>(if Ah=0 then ((AWh (AWk + 1) M Aa.1 Aa.2.1 Aa.2.2).bind λAi=>(if Ai=0 then ((AUz<|AWk + 1).bind λAj=>(some Aj)) else (some false))) else (some false))) else (some false))))) (· =true):=λM hM=>by
  rw [Au8 hM Ab]
  cases hr:isRed M with
  | false=>
    have e1:AWb (AWk + 1) M=some ((0,[],[]),6):=by unfold AWb AVl Ahe;rw [hr];rfl
    rw [e1]
    simp only [Option.bind_some]
    exact Avi (by grind) (Avi AGl<|Avi (by first | exact trivial | rfl)<|AGw aw λx hx=>AGp hx)
  | true=>
    obtain ⟨T,L,e1,e2,e3⟩:=BAa hM ((Akq M).1 hr) Ae
    grind
 refine ATj (λ_=>AGw (BFb hg AGn hf) λh hh=>?_) λ_=>key M hM;obtain ⟨n,A,rfl,h1,h2,R,-⟩:=hh;exact key _<|A9d AGl R
end Go.Proofs.YtkakafabeobahaaGreatDoor
