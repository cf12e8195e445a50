/-
  Texts of a proof, joined. Conditions stand in each statement.
-/
import Derived.Test.YtkakafabeobahaaGreatDoorMJordanVerifies5
set_option linter.unusedVariables false
set_option linter.unusedSimpArgs false
open Go
variable {h h0:Go.QF.AO2} {i x a p j r q f a1:Int} {g X t:List (List Int)} {Gs:List (List Nat)} {F:List Nat} {rs:List Value} {fuel k er el:Nat} {α:Type} {v:Value}
namespace Go.Proofs.YtkakafabeobahaaGreatDoor
open Go Go.QF
set_option maxRecDepth 100000
def BCw (n:Nat) (m:Int) (z:List Int):Prop:=z.length=n/\ ∀ x∈z,0<=x/\x < m
def SqS (n:Nat) (m:Int) (g:List (List Int)):Prop:=g.length=n/\ ∀ z∈g,BCw n m z
theorem Am9 {n:Nat} {m:Int} {β:Type} {f:List Int->Option β} {R:β->Prop} (hg:SqS n m g) (hi:0<=i/\i < n) (k:∀ z,BCw n m z->Ok (f z) R):Ok ((gI g i).bind f) R:=by
 have hl:=hg.1;have h:i.toNat < g.length:=by omega
 exact Ahj (n:=i.toNat) (List.getElem?_eq_getElem h) AOq<|k _<|hg.2 _<|List.getElem_mem h
theorem Ak0 {n:Nat} {m:Int} {z:List Int} {β:Type} {f:Int->Option β} {R:β->Prop} (hz:BCw n m z) (hi:0<=i/\i < n) (k:∀ x,0<=x->x < m->Ok (f x) R):Ok ((gI z i).bind f) R:=by
 have hl:=hz.1;have h:i.toNat < z.length:=by omega
 have:=hz.2 _<|List.getElem_mem h;exact Ahj (n:=i.toNat) (List.getElem?_eq_getElem h) AOq<|k _ this.1 this.2
theorem Ajv {n:Nat} {m:Int} {z:List Int} (hz:BCw n m z) (h0:0<=x) (h1:x < m):BCw n m (sI z i x):=by
 refine ⟨by unfold sI;rw [List.length_set];exact hz.1,λy hy=>?_⟩;rcases List.mem_or_eq_of_mem_set hy with h | rfl
 ·exact hz.2 y h
 ·exact ⟨h0,h1⟩
theorem Ajz {n:Nat} {m:Int} {z:List Int} (hg:SqS n m g) (hz:BCw n m z):SqS n m (sI g i z):=by
 refine ⟨by unfold sI;rw [List.length_set];exact hg.1,λy hy=>?_⟩;rcases List.mem_or_eq_of_mem_set hy with h | rfl
 ·exact hg.2 y h
 ·exact hz
theorem Axe {S:Type} (I:S->Prop) {body:Int × S->Option ((Int × S) ⊕ S)} {n i0:Nat} {s0:S} (hn:n<=1000) (Af:i0<=n) (h:∀ (i:Nat) s,i < n->I s->Ok (body ((i:Int),s)) λr=> ∃ s',r= .inl (((i + 1:Nat):Int),s')/\I s') (he:∀ s,I s->body ((n:Int),s)=some (.inr s)) (hI:I s0) (hf:1000 < fuel):Ok (iter body fuel ((i0:Int),s0)) I:=by
 refine Ah3 (λi s=> ∃ s',s=(((i0 + i:Nat):Int),s')/\i0 + i<=n/\I s') (n - i0) ⟨s0,rfl,AOq,hI⟩ AOq λi s hi hI=>?_;obtain ⟨s',rfl,h1,h2⟩:=hI;rcases Nat.lt_or_ge (i0 + i) n with h3 | h3
 ·refine A6l (h (i0 + i) s' h3 h2) λr hr=>?_;obtain ⟨s2,rfl,h4⟩:=hr;exact ⟨AOq,s2,rfl,AOq,h4⟩
 ·rw [show i0 + i=n by omega,he s' h2];exact AOt h2
theorem A3a {m:Int} (hm:0 < m) (Ac:m<=2147483647):Ah5 fuel a m=some (a % m):=by
 unfold Ah5;rw [if_pos AOq];have h1:=Int.emod_nonneg a (show m≠0 by omega);have h2:=Int.emod_lt_of_pos a hm;have h3:=Int.tmod_lt_of_pos a hm;have h5:=Int.tmod_lt_of_pos (-a) hm;rw [Int.neg_tmod] at h5;have h4:a.tmod m % m=a % m:=by rw [Int.tmod_def,Int.sub_emod,Int.mul_emod_right,Int.sub_zero,Int.emod_emod]
 by_cases h:Int.tmod a m < 0
 ·rw [if_pos h,wk AOq];have:(a.tmod m + m) % m=a.tmod m + m:=Int.emod_eq_of_lt AOq AOq;rw [Int.add_emod_right,h4] at this;rw [this]
 ·rw [if_neg h];have:a.tmod m % m=a.tmod m:=Int.emod_eq_of_lt AOq AOq;rw [h4] at this;rw [this]
theorem BSj (hx:1<=x) (Ah:x<=2147483647) (hp:2<=p) (hf:1000 < fuel):Ok (Aih fuel x p) λe=> ∃ E:Nat,e=E/\p ^ E<=x:=by
 unfold Aih
 have Ad:∀ i:Nat,31<=i->(2147483648:Int)<=p ^ i:=λi hi=>by
  have h1:=Arj (x:=2) (y:=p) AOq hp 31
  have h2:=Aly (p:=p) AOq hi
  have:(2:Int) ^ 31=2147483648:=by decide
  omega
 have hle:∀ (i:Nat) (y:Int),p ^ i * y=x->1<=y->p ^ i<=x:=λi y h h1=>by
  have hpos:0 < p ^ i:=Int.pow_pos AOq
  have:p ^ i * 1<=p ^ i * y:=Int.mul_le_mul_of_nonneg_left h1 AOq
  omega
 refine AOy (Q:=λe:Int=> ∃ E:Nat,e=E/\p ^ E<=x) (Ah3 (body:=λs=>Alw fuel p s.1 s.2) (fuel:=fuel) (s0:=(x,0)) (λ(i:Nat) (s:Int × Int)=>p ^ i * s.1=x/\s.2=(i:Int)/\1<=s.1) 31 ⟨Ah7,rfl,hx⟩ AOq λi s hi hI=>?_) λe he=>⟨e,rfl,he⟩;obtain ⟨y,z⟩:=s;obtain ⟨h1,h2,h3⟩:=hI;dsimp only at h1 h2 h3;subst h2;have hpi:=hle i y h1 h3
 have Ai:i < 31:=by
  refine Nat.lt_of_not_le λhh=>?_
  have:=Ad i hh;omega
 have hyx:y<=x:=by
  have hpos:0 < p ^ i:=Int.pow_pos AOq
  have:1 * y<=p ^ i * y:=Int.mul_le_mul_of_nonneg_right AOq AOq
  omega
 unfold Alw;dsimp only;refine AOy (Q:=λex=>(ex= .inl ()/\y % p=0)∨ex= .inr ()) ?_ λex hex=>?_
 ·rw [if_pos AOq,if_pos AOq,Int.tmod_eq_emod_of_nonneg AOq];exact Aha (λh=>AOt<|.inl ⟨rfl,h⟩) λh=>AOt<|.inr rfl
 ·rcases hex with ⟨rfl,h4⟩ | rfl
  ·dsimp only;rw [if_pos AOq,Int.tdiv_eq_ediv_of_nonneg AOq];obtain ⟨q,hq⟩:=Int.dvd_of_emod_eq_zero h4;have e1:y / p=q:=by rw [hq];exact Int.mul_ediv_cancel_left _ AOq
   have Ag:1<=q:=by
    refine Classical.byContradiction λhh=>?_
    have:p * q<=0:=Int.mul_nonpos_of_nonneg_of_nonpos AOq AOq
    omega
   have hqy:q<=y:=by
    have:1 * q<=p * q:=Int.mul_le_mul_of_nonneg_right AOq AOq
    omega
   rw [e1,Aj7 (x:=q) AOq AOq,Ah6 AOq];exact AOt ⟨AOq,by rw [Int.pow_succ,Int.mul_assoc,<- hq];exact h1,rfl,Ag⟩
  ·exact AOt ⟨i,rfl,hpi⟩
theorem BN1 {m:Int} (hm:p ^ k=m) (hx:0<=x) (hxm:x < m) (Aa:m<=2147483647) (hp:2<=p) (hf:1000 < fuel):Ok (if x=0 then (some<|(k:Int)) else ((Aih fuel x p).bind λy=>(some y))) λe=> ∃ E:Nat,e=E/\E<=k:=by
 refine Aha (λh=>AOt ⟨k,rfl,Nat.le_refl _⟩) λh=>AOy (BSj AOq AOq hp hf) λe he=>AOt ?_;obtain ⟨E,rfl,hE⟩:=he;refine ⟨E,rfl,Nat.le_of_not_lt λhh=>?_⟩;have:=Aly (p:=p) AOq<|Nat.le_of_lt hh;omega
theorem BSk {m:Int} (ha:0<=a) (Af:a<=2147483647) (hm:0 < m) (Ad:m<=2147483647) (hf:2147483648 < fuel):Ok (Ake fuel a m) λ_=>True:=by
 unfold Ake;refine AOy (Q:=λ_=>True) ?_ λx _=>Aha (λ_=>AOt trivial) λ_=>?_
 ·unfold Ar7;refine AOy (Q:=λ_=>True) (A4v (λs:Int × Int=>0<=s.1/\0<=s.2) (λs=>s.2.toNat) (λs hI=>?_) ⟨ha,Int.le_of_lt hm⟩ (by show m.toNat < fuel;omega)) λe _=>AOt trivial;obtain ⟨y,z⟩:=s;obtain ⟨h1,h2⟩:=hI;unfold Atj;dsimp only at h1 h2 ⊢;refine Aha (λh=>Ah8 AOq<|AOt ?_) λh=>AOt trivial;rw [Int.tmod_eq_emod_of_nonneg h1];have g1:=Int.emod_nonneg y (show z≠0 by omega);have g2:=Int.emod_lt_of_pos y (show 0 < z by omega);exact ⟨⟨h2,g1⟩,by dsimp only;omega⟩
 ·refine AOy (Q:=λ_=>True) (A4v (λs:Int × Int × Int × Int=>(0<=s.1/\s.1<=2147483647)/\0<=s.2.1/\s.2.1<=2147483647) (λs=>s.2.1.toNat) (λs hI=>?_) ⟨⟨ha,Af⟩,Int.le_of_lt hm,Ad⟩ (by show m.toNat < fuel;omega)) λe _=>?_
  ·obtain ⟨y,z,u,v⟩:=s;obtain ⟨h1,h2,h3⟩:=hI;unfold Apa;dsimp only at h1 h2 h3 ⊢;refine Aha (λh=>Ah8 AOq<|AOt ?_) λh=>AOt trivial;have g1:=Int.emod_nonneg y (show z≠0 by omega);have g2:=Int.emod_lt_of_pos y (show 0 < z by omega);have g3:=Int.mul_ediv_add_emod y z;have g4:0<=y / z:=Int.ediv_nonneg h1.1 h2;have g5:y / z<=y:=Int.ediv_le_self _ h1.1;have g6:Int.tdiv y z=y / z:=Int.tdiv_eq_ediv_of_nonneg h1.1;have g7:y / z * z=z * (y / z):=Int.mul_comm _ _;rw [g6,Aj7 (x:=y / z) AOq AOq,Aj7 (x:=y / z * z) AOq AOq,Aj7 (x:=y - y / z * z) AOq AOq,show y - y / z * z=y % z by omega];exact ⟨⟨⟨h2,h3⟩,g1,by dsimp only;omega⟩,by dsimp only;omega⟩
  ·rw [A3a hm Ad];exact AOt trivial
theorem BN2 {n:Nat} {m:Int} (hX:SqS n m X) (hg:SqS n m g) (hm:0 < m) (Aa:m<=2147483647) (hn:n<=8) (hj:0<=j/\j < n) (hr:0<=r/\r < n) (hf:1000 < fuel):Ok (iter (λs=>Aku fuel m j r X s.1 s.2) fuel (0,g)) (SqS n m):=by
 refine Axe (i0:=0) (SqS n m) (n:=n) AOq AOq (λi s hi hs=>?_) (λs hs=>?_) hg hf
 ·unfold Aku;have hl:=hX.1;dsimp only;rw [if_pos AOq];refine Am9 hs ⟨AOq,AOq⟩ λz hz=>Ak0 hz hj λa _ _=>Ak0 hz hr λb _ _=>?_;refine Ah8 AOq ?_;rw [A3a hm Aa];exact AOt ⟨_,by rw [Ah6 AOq],Ajz hs<|Ajv hz (Int.emod_nonneg _ AOq)<|Int.emod_lt_of_pos _ hm⟩
 ·unfold Aku;have hl:=hX.1;dsimp only;rw [if_neg AOq]
theorem BN3 {n:Nat} {m:Int} (hX:SqS n m X) (hg:SqS n m g) (hm:0 < m) (Aa:m<=2147483647) (hn:n<=8) (hj:0<=j/\j < n) (hr:0<=r/\r < n) (hf:1000 < fuel):Ok (iter (λs=>Akt fuel m j r X s.1 s.2) fuel (0,g)) (SqS n m):=by
 refine Axe (i0:=0) (SqS n m) (n:=n) AOq AOq (λi s hi hs=>?_) (λs hs=>?_) hg hf
 ·unfold Akt;have hl:=hX.1;dsimp only;rw [if_pos AOq];refine Am9 hs hj λz hz=>Ak0 hz ⟨AOq,AOq⟩ λa _ _=>Am9 hs hr λz2 Ab=>Ak0 Ab ⟨AOq,AOq⟩ λb _ _=>?_;refine Ah8 AOq ?_;rw [A3a hm Aa];exact AOt ⟨_,by rw [Ah6 AOq],Ajz hs<|Ajv hz (Int.emod_nonneg _ AOq)<|Int.emod_lt_of_pos _ hm⟩
 ·unfold Akt;have hl:=hX.1;dsimp only;rw [if_neg AOq]
theorem BN4 {n:Nat} {m:Int} (hX:SqS n m X) (hg:SqS n m g) (hm:0 < m) (Aa:m<=2147483647) (hn:n<=8) (hj:0<=j/\j < n) (hr:0<=r/\r < n) (hf:1000 < fuel):Ok (iter (λs=>Aks fuel m j r X s.1 s.2) fuel (0,g)) (SqS n m):=by
 refine Axe (i0:=0) (SqS n m) (n:=n) AOq AOq (λi s hi hs=>?_) (λs hs=>?_) hg hf
 ·unfold Aks;have hl:=hX.1;dsimp only;rw [if_pos AOq];refine Am9 hs ⟨AOq,AOq⟩ λz hz=>Ak0 hz hj λa _ _=>Ak0 hz hr λb _ _=>?_;refine Ah8 AOq ?_;rw [A3a hm Aa];exact AOt ⟨_,by rw [Ah6 AOq],Ajz hs<|Ajv hz (Int.emod_nonneg _ AOq)<|Int.emod_lt_of_pos _ hm⟩
 ·unfold Aks;have hl:=hX.1;dsimp only;rw [if_neg AOq]
theorem BN5 {n:Nat} {m u:Int} (hX:SqS n m X) (hg:SqS n m g) (hm:0 < m) (Aa:m<=2147483647) (hn:n<=8) (hj:0<=j/\j < n) (hr:0<=r/\r < n) (hf:1000 < fuel):Ok (iter (λs=>Aky fuel m r q u j X x s.1 s.2) fuel (0,g)) (SqS n m):=by
 refine Axe (i0:=0) (SqS n m) (n:=n) AOq AOq (λi s hi hs=>?_) (λs hs=>?_) hg hf
 ·unfold Aky;have hl:=hX.1;dsimp only;rw [if_pos AOq];refine Am9 hs ⟨AOq,AOq⟩ λz hz=>Ak0 hz hj λa _ _=>Ak0 hz hr λb _ _=>?_;refine Ah8 AOq ?_;rw [A3a hm Aa];exact AOt ⟨_,by rw [Ah6 AOq],Ajz hs<|Ajv hz (Int.emod_nonneg _ AOq)<|Int.emod_lt_of_pos _ hm⟩
 ·unfold Aky;have hl:=hX.1;dsimp only;rw [if_neg AOq]
theorem BN6 {n:Nat} {m u:Int} (hX:SqS n m X) (hg:SqS n m g) (hm:0 < m) (Aa:m<=2147483647) (hn:n<=8) (hj:0<=j/\j < n) (hr:0<=r/\r < n) (hf:1000 < fuel):Ok (iter (λs=>Akx fuel m r q u j x X s.1 s.2) fuel (0,g)) (SqS n m):=by
 refine Axe (i0:=0) (SqS n m) (n:=n) AOq AOq (λi s hi hs=>?_) (λs hs=>?_) hg hf
 ·unfold Akx;have hl:=hX.1;dsimp only;rw [if_pos AOq];refine Am9 hs hj λz hz=>Ak0 hz ⟨AOq,AOq⟩ λa _ _=>Am9 hs hr λz2 Ab=>Ak0 Ab ⟨AOq,AOq⟩ λb _ _=>?_;refine Ah8 AOq ?_;rw [A3a hm Aa];exact AOt ⟨_,by rw [Ah6 AOq],Ajz hs<|Ajv hz (Int.emod_nonneg _ AOq)<|Int.emod_lt_of_pos _ hm⟩
 ·unfold Akx;have hl:=hX.1;dsimp only;rw [if_neg AOq]
theorem BN7 {n:Nat} {m u:Int} (hX:SqS n m X) (hg:SqS n m g) (hm:0 < m) (Aa:m<=2147483647) (hn:n<=8) (hj:0<=j/\j < n) (hr:0<=r/\r < n) (hf:1000 < fuel):Ok (iter (λs=>Akw fuel m r q u j X x s.1 s.2) fuel (0,g)) (SqS n m):=by
 refine Axe (i0:=0) (SqS n m) (n:=n) AOq AOq (λi s hi hs=>?_) (λs hs=>?_) hg hf
 ·unfold Akw;have hl:=hX.1;dsimp only;rw [if_pos AOq];refine Am9 hs ⟨AOq,AOq⟩ λz hz=>Ak0 hz hj λa _ _=>Ak0 hz hr λb _ _=>?_;refine Ah8 AOq ?_;rw [A3a hm Aa];exact AOt ⟨_,by rw [Ah6 AOq],Ajz hs<|Ajv hz (Int.emod_nonneg _ AOq)<|Int.emod_lt_of_pos _ hm⟩
 ·unfold Akw;have hl:=hX.1;dsimp only;rw [if_neg AOq]
theorem BN8 {n:Nat} {m u:Int} (hX:SqS n m X) (hg:SqS n m g) (hm:0 < m) (Aa:m<=2147483647) (hn:n<=8) (hj:0<=j/\j < n) (hr:0<=r/\r < n) (hf:1000 < fuel):Ok (iter (λs=>Akn fuel m r q u j X f s.1 s.2) fuel (0,g)) (SqS n m):=by
 refine Axe (i0:=0) (SqS n m) (n:=n) AOq AOq (λi s hi hs=>?_) (λs hs=>?_) hg hf
 ·unfold Akn;have hl:=hX.1;dsimp only;rw [if_pos AOq];refine Am9 hs ⟨AOq,AOq⟩ λz hz=>Ak0 hz hj λa _ _=>Ak0 hz hr λb _ _=>?_;refine Ah8 AOq ?_;rw [A3a hm Aa];exact AOt ⟨_,by rw [Ah6 AOq],Ajz hs<|Ajv hz (Int.emod_nonneg _ AOq)<|Int.emod_lt_of_pos _ hm⟩
 ·unfold Akn;have hl:=hX.1;dsimp only;rw [if_neg AOq]
theorem BN9 {n:Nat} {m u:Int} (hX:SqS n m X) (hg:SqS n m g) (hm:0 < m) (Aa:m<=2147483647) (hn:n<=8) (hj:0<=j/\j < n) (hr:0<=r/\r < n) (hf:1000 < fuel):Ok (iter (λs=>Akm fuel m r q u j f X s.1 s.2) fuel (0,g)) (SqS n m):=by
 refine Axe (i0:=0) (SqS n m) (n:=n) AOq AOq (λi s hi hs=>?_) (λs hs=>?_) hg hf
 ·unfold Akm;have hl:=hX.1;dsimp only;rw [if_pos AOq];refine Am9 hs hj λz hz=>Ak0 hz ⟨AOq,AOq⟩ λa _ _=>Am9 hs hr λz2 Ab=>Ak0 Ab ⟨AOq,AOq⟩ λb _ _=>?_;refine Ah8 AOq ?_;rw [A3a hm Aa];exact AOt ⟨_,by rw [Ah6 AOq],Ajz hs<|Ajv hz (Int.emod_nonneg _ AOq)<|Int.emod_lt_of_pos _ hm⟩
 ·unfold Akm;have hl:=hX.1;dsimp only;rw [if_neg AOq]
theorem BOa {n:Nat} {m u:Int} (hX:SqS n m X) (hg:SqS n m g) (hm:0 < m) (Aa:m<=2147483647) (hn:n<=8) (hj:0<=j/\j < n) (hr:0<=r/\r < n) (hf:1000 < fuel):Ok (iter (λs=>Akl fuel m r q u j X f s.1 s.2) fuel (0,g)) (SqS n m):=by
 refine Axe (i0:=0) (SqS n m) (n:=n) AOq AOq (λi s hi hs=>?_) (λs hs=>?_) hg hf
 ·unfold Akl;have hl:=hX.1;dsimp only;rw [if_pos AOq];refine Am9 hs ⟨AOq,AOq⟩ λz hz=>Ak0 hz hj λa _ _=>Ak0 hz hr λb _ _=>?_;refine Ah8 AOq ?_;rw [A3a hm Aa];exact AOt ⟨_,by rw [Ah6 AOq],Ajz hs<|Ajv hz (Int.emod_nonneg _ AOq)<|Int.emod_lt_of_pos _ hm⟩
 ·unfold Akl;have hl:=hX.1;dsimp only;rw [if_neg AOq]
theorem BOb {n:Nat} {m u:Int} (hX:SqS n m X) (hg:SqS n m g) (hm:0 < m) (Aa:m<=2147483647) (hn:n<=8) (hj:0<=j/\j < n) (hr:0<=w64 (r + 1)/\w64 (r + 1) < n) (hf:1000 < fuel):Ok (iter (λs=>Akq fuel m r q u j f X s.1 s.2) fuel (0,g)) (SqS n m):=by
 refine Axe (i0:=0) (SqS n m) (n:=n) AOq AOq (λi s hi hs=>?_) (λs hs=>?_) hg hf
 ·unfold Akq;have hl:=hX.1;dsimp only;rw [if_pos AOq];refine Am9 hs ⟨AOq,AOq⟩ λz hz=>Ak0 hz hj λa _ _=>Ak0 hz hr λb _ _=>?_;refine Ah8 AOq ?_;rw [A3a hm Aa];exact AOt ⟨_,by rw [Ah6 AOq],Ajz hs<|Ajv hz (Int.emod_nonneg _ AOq)<|Int.emod_lt_of_pos _ hm⟩
 ·unfold Akq;have hl:=hX.1;dsimp only;rw [if_neg AOq]
theorem BOc {n:Nat} {m u:Int} (hX:SqS n m X) (hg:SqS n m g) (hm:0 < m) (Aa:m<=2147483647) (hn:n<=8) (hj:0<=j/\j < n) (hr:0<=w64 (r + 1)/\w64 (r + 1) < n) (hf:1000 < fuel):Ok (iter (λs=>Akp fuel m r q u j f X s.1 s.2) fuel (0,g)) (SqS n m):=by
 refine Axe (i0:=0) (SqS n m) (n:=n) AOq AOq (λi s hi hs=>?_) (λs hs=>?_) hg hf
 ·unfold Akp;have hl:=hX.1;dsimp only;rw [if_pos AOq];refine Am9 hs hj λz hz=>Ak0 hz ⟨AOq,AOq⟩ λa _ _=>Am9 hs hr λz2 Ab=>Ak0 Ab ⟨AOq,AOq⟩ λb _ _=>?_;refine Ah8 AOq ?_;rw [A3a hm Aa];exact AOt ⟨_,by rw [Ah6 AOq],Ajz hs<|Ajv hz (Int.emod_nonneg _ AOq)<|Int.emod_lt_of_pos _ hm⟩
 ·unfold Akp;have hl:=hX.1;dsimp only;rw [if_neg AOq]
theorem BOd {n:Nat} {m u:Int} (hX:SqS n m X) (hg:SqS n m g) (hm:0 < m) (Aa:m<=2147483647) (hn:n<=8) (hj:0<=j/\j < n) (hr:0<=w64 (r + 1)/\w64 (r + 1) < n) (hf:1000 < fuel):Ok (iter (λs=>Ako fuel m r q u j f X s.1 s.2) fuel (0,g)) (SqS n m):=by
 refine Axe (i0:=0) (SqS n m) (n:=n) AOq AOq (λi s hi hs=>?_) (λs hs=>?_) hg hf
 ·unfold Ako;have hl:=hX.1;dsimp only;rw [if_pos AOq];refine Am9 hs ⟨AOq,AOq⟩ λz hz=>Ak0 hz hj λa _ _=>Ak0 hz hr λb _ _=>?_;refine Ah8 AOq ?_;rw [A3a hm Aa];exact AOt ⟨_,by rw [Ah6 AOq],Ajz hs<|Ajv hz (Int.emod_nonneg _ AOq)<|Int.emod_lt_of_pos _ hm⟩
 ·unfold Ako;have hl:=hX.1;dsimp only;rw [if_neg AOq]
def SqP (n:Nat) (m:Int) (s:List (List Int) × List (List Int)):Prop:=SqS n m s.1/\SqS n m s.2
theorem BOe {n:Nat} {m:Int} (hX:SqS n m X) (hg:SqS n m g) (ht:SqS n m t) (hn:n<=8) (hj:0<=j/\j < n) (hr:0<=r/\r < n) (hf:1000 < fuel):Ok (iter (λs=>Akv fuel j r X s.1 s.2.1 s.2.2) fuel (0,g,t)) (SqP n m):=by
 refine Axe (i0:=0) (SqP n m) (n:=n) AOq AOq (λi s hi hs=>?_) (λs hs=>?_) ⟨hg,ht⟩ hf
 ·obtain ⟨a,b⟩:=s;obtain ⟨h1,h2⟩:=hs;unfold Akv;have hl:=hX.1;dsimp only at h1 h2 ⊢;rw [if_pos AOq];have Ac:0<=(i:Int)/\(i:Int) < n:=⟨AOq,AOq⟩;refine Am9 h1 Ac λz hz=>Ak0 hz hj λx x0 x1=>Ak0 hz hr λy y0 y1=>Am9 (Ajz h1<|Ajv hz x0 x1) Ac λz2 Af=>Ak0 Af hj λ_ _ _=>Am9 h2 Ac λw hw=>Ak0 hw hj λu u0 u1=>Ak0 hw hr λv v0 v1=>Am9 (Ajz h2<|Ajv hw u0 u1) Ac λw2 Ai=>Ak0 Ai hj λ_ _ _=>?_;exact AOt ⟨_,by rw [Ah6 AOq],Ajz (Ajz h1<|Ajv hz x0 x1)<|Ajv Af y0 y1,Ajz (Ajz h2<|Ajv hw u0 u1)<|Ajv Ai v0 v1⟩
 ·unfold Akv;have hl:=hX.1;dsimp only;rw [if_neg AOq]
theorem BOf {n:Nat} {m:Int} (hX:SqS n m X) (hg:SqS n m g) (ht:SqS n m t) (hn:n<=8) (hj:0<=j/\j < n) (hr:0<=r/\r < n) (hf:1000 < fuel):Ok (iter (λs=>Akj fuel r X j s.1 s.2.1 s.2.2) fuel (0,g,t)) (SqP n m):=by
 refine Axe (i0:=0) (SqP n m) (n:=n) AOq AOq (λi s hi hs=>?_) (λs hs=>?_) ⟨hg,ht⟩ hf
 ·obtain ⟨a,b⟩:=s;obtain ⟨h1,h2⟩:=hs;unfold Akj;have hl:=hX.1;dsimp only at h1 h2 ⊢;rw [if_pos AOq];have Ac:0<=(i:Int)/\(i:Int) < n:=⟨AOq,AOq⟩;refine Am9 h1 Ac λz hz=>Ak0 hz hj λx x0 x1=>Ak0 hz hr λy y0 y1=>Am9 (Ajz h1<|Ajv hz x0 x1) Ac λz2 Af=>Ak0 Af hj λ_ _ _=>Am9 h2 Ac λw hw=>Ak0 hw hj λu u0 u1=>Ak0 hw hr λv v0 v1=>Am9 (Ajz h2<|Ajv hw u0 u1) Ac λw2 Ai=>Ak0 Ai hj λ_ _ _=>?_;exact AOt ⟨_,by rw [Ah6 AOq],Ajz (Ajz h1<|Ajv hz x0 x1)<|Ajv Af y0 y1,Ajz (Ajz h2<|Ajv hw u0 u1)<|Ajv Ai v0 v1⟩
 ·unfold Akj;have hl:=hX.1;dsimp only;rw [if_neg AOq]
theorem BOg {n:Nat} {m:Int} (hX:SqS n m X) (hg:SqS n m g) (ht:SqS n m t) (hn:n<=8) (hj:0<=j/\j < n) (hr:0<=w64 (r + 1)/\w64 (r + 1) < n) (hf:1000 < fuel):Ok (iter (λs=>Akk fuel r j X s.1 s.2.1 s.2.2) fuel (0,g,t)) (SqP n m):=by
 refine Axe (i0:=0) (SqP n m) (n:=n) AOq AOq (λi s hi hs=>?_) (λs hs=>?_) ⟨hg,ht⟩ hf
 ·obtain ⟨a,b⟩:=s;obtain ⟨h1,h2⟩:=hs;unfold Akk;have hl:=hX.1;dsimp only at h1 h2 ⊢;rw [if_pos AOq];have Ac:0<=(i:Int)/\(i:Int) < n:=⟨AOq,AOq⟩;refine Am9 h1 Ac λz hz=>Ak0 hz hj λx x0 x1=>Ak0 hz hr λy y0 y1=>Am9 (Ajz h1<|Ajv hz x0 x1) Ac λz2 Af=>Ak0 Af hj λ_ _ _=>Am9 h2 Ac λw hw=>Ak0 hw hj λu u0 u1=>Ak0 hw hr λv v0 v1=>Am9 (Ajz h2<|Ajv hw u0 u1) Ac λw2 Ai=>Ak0 Ai hj λ_ _ _=>?_;exact AOt ⟨_,by rw [Ah6 AOq],Ajz (Ajz h1<|Ajv hz x0 x1)<|Ajv Af y0 y1,Ajz (Ajz h2<|Ajv hw u0 u1)<|Ajv Ai v0 v1⟩
 ·unfold Akk;have hl:=hX.1;dsimp only;rw [if_neg AOq]
theorem BOh {n:Nat} {m u:Int} {r:Nat} (hg:SqS n m g) (ht:SqS n m t) (hm:0 < m) (Ae:m<=2147483647) (hn:n<=8) (hr:r < n) (hq:q≠0) (hmq:w64 (Int.tdiv m q)≠0) (hf:1000 < fuel):Ok (iter (λs=>Akz fuel m (r:Int) q u s.1 s.2.1 s.2.2) fuel (((r + 1:Nat):Int),g,t)) (SqP n m):=by
 refine Axe (i0:=r + 1) (SqP n m) (n:=n) AOq AOq (λi s hi hs=>?_) (λs hs=>?_) ⟨hg,ht⟩ hf
 ·obtain ⟨a,b⟩:=s;obtain ⟨h1,h2⟩:=hs;unfold Akz;dsimp only at h1 h2 ⊢;have hl:=h1.1;rw [if_pos AOq];have Ac:0<=(i:Int)/\(i:Int) < n:=⟨AOq,AOq⟩;have Ad:0<=(r:Int)/\(r:Int) < n:=⟨AOq,AOq⟩;refine Am9 h1 Ad λz hz=>Ak0 hz Ac λx x0 x1=>Ah8 hq<|Ah8 hq<|Ah8 hmq<|AOy (Q:=SqP n m) ?_ λe he=>AOt ⟨_,by rw [Ah6 AOq],he⟩;exact AOy (BN5 h1 h1 hm Ae hn Ac Ad hf) λe1 Af=>AOy (BN6 Af Af hm Ae hn Ac Ad hf) λe2 Ag=>AOy (BN7 h2 h2 hm Ae hn Ac Ad hf) λe3 Ah=>AOt ⟨Ag,Ah⟩
 ·obtain ⟨a,b⟩:=s;obtain ⟨h1,h2⟩:=hs;unfold Akz;dsimp only at h1 h2 ⊢;have hl:=h1.1;rw [if_neg AOq]
theorem BOi {n:Nat} {m b c u:Int} {r:Nat} (hg:SqS n m g) (ht:SqS n m t) (hm:0 < m) (Ac:m<=2147483647) (hn:n<=8) (hr:r + 1 < n) (hq:q≠0) (hmq:0 < w64 (Int.tdiv m q)) (Am:w64 (Int.tdiv m q)<=2147483647) (hf:1000 < fuel):Ok (iter (λs=>Akr fuel m (r:Int) b q a c u s.1 s.2.1 s.2.2) fuel (((r + 2:Nat):Int),g,t)) (SqP n m):=by
 have hw:w64 ((r:Int) + 1)=((r + 1:Nat):Int):=Ah6 AOq;refine Axe (i0:=r + 2) (SqP n m) (n:=n) AOq AOq (λi s hi hs=>?_) (λs hs=>?_) ⟨hg,ht⟩ hf
 ·obtain ⟨s1,s2⟩:=s;obtain ⟨h1,h2⟩:=hs;unfold Akr;dsimp only at h1 h2 ⊢;have hl:=h1.1;rw [if_pos AOq];have Ab:0<=(i:Int)/\(i:Int) < n:=⟨AOq,AOq⟩;have Af:0<=(r:Int)/\(r:Int) < n:=⟨AOq,AOq⟩;have Ag:0<=w64 ((r:Int) + 1)/\w64 ((r:Int) + 1) < n:=by rw [hw];omega
  have hne:w64 (Int.tdiv m q)≠0:=by omega
  refine Am9 h1 Af λz hz=>Ak0 hz Ab λx x0 x1=>Ah8 hq<|Am9 h1 Ag λz2 Ao=>Ak0 Ao Ab λy y0 y1=>Ah8 hq<|Ah8 hne<|Ah8 hne ?_;rw [A3a hmq Am];simp only [Option.bind_some];refine Ah8 hne<|Ah8 hne<|Ah8 hne ?_;rw [A3a hmq Am];simp only [Option.bind_some];refine Ah8 hne<|AOy (Q:=SqP n m) (AOy (BN8 h1 h1 hm Ac hn Ab Af hf) λe1 Ae=>AOy (BN9 Ae Ae hm Ac hn Ab Af hf) λe2 Ah=>AOy (BOa h2 h2 hm Ac hn Ab Af hf) λe3 Ai=>AOt ⟨Ah,Ai⟩) λe he=>?_;obtain ⟨g1,t1⟩:=e;obtain ⟨q1,q2⟩:=he;dsimp only at q1 q2 ⊢;refine AOy (Q:=SqP n m) (AOy (BOb q1 q1 hm Ac hn Ab Ag hf) λe1 Ae=>AOy (BOc Ae Ae hm Ac hn Ab Ag hf) λe2 Ah=>AOy (BOd q2 q2 hm Ac hn Ab Ag hf) λe3 Ai=>AOt ⟨Ah,Ai⟩) λe he=>AOt ⟨_,by rw [Ah6 AOq],he⟩
 ·obtain ⟨s1,s2⟩:=s;obtain ⟨h1,h2⟩:=hs;unfold Akr;dsimp only at h1 h2 ⊢;have hl:=h1.1;rw [if_neg AOq]
def IxP (r n:Nat) (s:Int × Int):Prop:=(r:Int)<=s.1/\s.1<=s.2/\s.2 < n
theorem BF4 {n r:Nat} {m b:Int} (hm:p ^ k=m) (hg:SqS n m g) (Ab:m<=2147483647) (hp:2<=p) (hij:(r:Int)<=i/\i<=j/\j < n) (ha:IxP r n (a,b)) (hf:1000 < fuel):Ok (((gI g i).bind λz=>((gI z j).bind λx=>(((if x=0 then (some<| (k:Int)) else ((Aih fuel x p).bind λy=>(some<| y))):Option (Int)).bind λe1=>((gI g a).bind λz2=>((gI z2 b).bind λx2=>(((if x2=0 then (some<| (k:Int)) else ((Aih fuel x2 p).bind λy=>(some<| y))):Option (Int)).bind λe2=>(if e1 < e2 then (some<| (i,j)) else (some<| (a,b))))))))):Option (Int × Int)) (IxP r n):=by
 have Ak:(r:Int)<=a/\a<=b/\b < n:=ha;refine Am9 hg (i:=i) ⟨AOq,AOq⟩ λz hz=>Ak0 hz (i:=j) ⟨AOq,AOq⟩ λx x0 x1=>AOy (BN1 hm x0 x1 Ab hp hf) λe1 _=>Am9 hg (i:=a) ⟨AOq,AOq⟩ λz2 Ah=>Ak0 Ah (i:=b) ⟨AOq,AOq⟩ λx2 y0 y1=>AOy (BN1 hm y0 y1 Ab hp hf) λe2 _=>Aha (λ_=>AOt hij) λ_=>AOt ha
theorem BQ9 {n r:Nat} {m:Int} (hm:p ^ k=m) (hg:SqS n m g) (Ac:m<=2147483647) (hp:2<=p) (hn:n<=8) (hr:r < n) (hf:1000 < fuel):Ok (iter (λs=>Anh fuel p (k:Int) g s.1 s.2.1 s.2.2) fuel ((r:Int),(r:Int),(r:Int))) (IxP r n):=by
 refine Ah3 (λi s=>IxP r n (s.1,s.2.1)/\s.2.2=((r + i:Nat):Int)/\r + i<=n) n ⟨⟨by dsimp only;omega,by dsimp only;omega,by dsimp only;omega⟩,rfl,AOq⟩ AOq λi s hi hI=>?_;obtain ⟨a,b,c⟩:=s;obtain ⟨h1,h2,h3⟩:=hI;dsimp only at h1 h2;subst h2;have hl:=hg.1;unfold Anh;dsimp only;refine Aha (λh=>?_) λh=>AOt h1;have Ae:0<=((r + i:Nat):Int)/\((r + i:Nat):Int) < n:=⟨AOq,AOq⟩;exact AOy (BF4 hm hg Ac hp ⟨AOq,AOq,AOq⟩ h1 hf) λe he=>AOt ⟨AOq,he,by rw [Ah6 AOq];rfl,AOq⟩
theorem BRa {n r:Nat} {m b:Int} (hm:p ^ k=m) (hg:SqS n m g) (Ae:m<=2147483647) (hp:2<=p) (hn:n<=8) (hr:r < n) (hab:IxP r n (a,b)) (hf:1000 < fuel):Ok (iter (λs=>Ang fuel p (k:Int) g s.1 s.2.1 s.2.2) fuel (a,b,(r:Int))) (IxP r n):=by
 refine Ah3 (λi s=>IxP r n (s.1,s.2.1)/\s.2.2=((r + i:Nat):Int)/\r + i<=n) n ⟨hab,rfl,AOq⟩ AOq λi s hi hI=>?_;obtain ⟨a,b,c⟩:=s;obtain ⟨h1,h2,h3⟩:=hI;dsimp only at h1 h2;subst h2;have hl:=hg.1;unfold Ang;dsimp only;refine Aha (λh=>?_) λh=>AOt h1;have Ag:0<=((r + i:Nat):Int)/\((r + i:Nat):Int) < n:=⟨AOq,AOq⟩;refine AOy (Q:=IxP r n) ?_ λe he=>AOt ⟨AOq,he,by rw [Ah6 AOq];rfl,AOq⟩;rw [Ah6 AOq];refine Ah3 (λj s=>IxP r n (s.1,s.2.1)/\s.2.2=((r + i + 1 + j:Nat):Int)/\r + i + 1 + j<=n) n ⟨h1,rfl,AOq⟩ AOq λj s hj hJ=>?_;obtain ⟨a,b,c⟩:=s;obtain ⟨g1,g2,g3⟩:=hJ;dsimp only at g1 g2;subst g2;unfold Aps;dsimp only;refine Aha (λh=>?_) λh=>AOt g1;exact AOy (BF4 hm hg Ae hp ⟨AOq,AOq,AOq⟩ g1 hf) λe he=>AOt ⟨AOq,he,by rw [Ah6 AOq];rfl,AOq⟩
theorem Aws {m:Int} {E:Nat} (hm:p ^ k=m) (hp:2<=p) (hE:E<=k) (Ab:m<=2147483647):w64 (Int.tdiv m<|p ^ E)=p ^ (k - E)/\1<=p ^ (k - E)/\p ^ (k - E)<=m/\1<=p ^ E/\p ^ E<=m:=by
 have h1:0 < p ^ E:=Int.pow_pos AOq;have h2:0 < p ^ (k - E):=Int.pow_pos AOq;have h3:=Aly (p:=p) AOq hE;have h4:=Aly (p:=p) AOq (show k - E<=k by omega);have h5:m=p ^ E * p ^ (k - E):=by rw [<- Int.pow_add,show E + (k - E)=k by omega,hm]
 refine ⟨?_,AOq,AOq,AOq,AOq⟩;rw [h5,Int.mul_tdiv_cancel_left _ AOq,wk AOq]
theorem BRb {n r:Nat} {m:Int} {M:List (List Int)} {L:List Alq} (hM:M.length=n) (hm:p ^ k=m) (hg:SqS n m g) (ht:SqS n m t) (Ac:m<=2147483647) (hp:2<=p) (hn:n<=8) (hr:r<=n) (hL:L.length<=r) (hf:2147483648 < fuel):Ok (Ani fuel M p (k:Int) m (r:Int) g t L) λe=>(∃ (r':Nat) (g' t':List (List Int)) (L':List Alq),r < r'/\r'<=n/\e= .inl ((r':Int),g',t',L')/\SqS n m g'/\SqS n m t'/\L'.length<=r')∨(r=n/\e= .inr (g,t,L)):=by
 have Aj:0 < m:=by rw [<- hm];exact Int.pow_pos AOq
 unfold Ani;refine Aha (λh=>?_) λh=>AOt<|.inr ⟨AOq,rfl⟩;have hrn:r < n:=by omega
 have Ad:0<=(r:Int)/\(r:Int) < n:=⟨AOq,AOq⟩;have Ab:1000 < fuel:=by omega
 refine AOy (Q:=IxP r n) (AOy (BQ9 hm hg Ac AOq hn hrn Ab) λe he=>AOy (BRa hm hg Ac AOq hn hrn he Ab) λe2 A6=>AOt A6) λe he=>?_;obtain ⟨i,j⟩:=e;obtain ⟨A7,A8,A9⟩:=he;dsimp only at A7 A8 A9 ⊢;have hi:0<=i/\i < n:=⟨AOq,AOq⟩;have hj:0<=j/\j < n:=⟨AOq,AOq⟩;refine AOy (Q:=λex=>ex= .inr ((r:Int),g,t,L)∨ ∃ g' t' L',r + 2<=n/\ex= .inl (((r + 2:Nat):Int),g',t',L')/\SqS n m g'/\SqS n m t'/\L'.length<=r + 1) (Aha (λhne=>Aha (λ_=>?_) λ_=>AOt<|.inl rfl) λ_=>AOt<|.inl rfl) λex hex=>?_
 ·have Ba:r + 1 < n:=by omega
  have hw:w64 ((r:Int) + 1)=((r + 1:Nat):Int):=Ah6 AOq;have A4:w64 ((r:Int) + 2)=((r + 2:Nat):Int):=by rw [wk AOq];rfl
  have Ak:0<=w64 ((r:Int) + 1)/\w64 ((r:Int) + 1) < n:=by rw [hw];omega
  refine AOy (Q:=SqP n m) (AOy (BOf hg hg ht hn hi Ad Ab) λe2 h2=>Am9 h2.1 hi λz hz=>Am9 h2.1 Ad λw hw=>AOt ⟨Ajz (Ajz h2.1 hz) hw,h2.2⟩) λe1 h1=>?_;obtain ⟨g1,t1⟩:=e1;obtain ⟨Ag,Am⟩:=h1;dsimp only at Ag Am ⊢;refine AOy (Q:=SqP n m) (AOy (BOg Ag Ag Am hn hj Ak Ab) λe2 h2=>Am9 h2.1 hj λz hz=>Am9 h2.1 Ak λw hw=>AOt ⟨Ajz (Ajz h2.1 hz) hw,h2.2⟩) λe2 h2=>?_;obtain ⟨g2,t2⟩:=e2;obtain ⟨Af,Ao⟩:=h2;dsimp only at Af Ao ⊢;refine AOy (Q:=λe=>SqS n m e.2.2.2.2.2.1/\SqS n m e.2.2.2.2.2.2) ?_ λe3 h3=>?_
  ·refine Am9 Af Ad λz hz=>Ak0 hz Ak λx x0 x1=>AOy (BN1 hm x0 x1 Ac AOq Ab) λe he=>?_;obtain ⟨E,rfl,hE⟩:=he;obtain ⟨s1,s2,s3,s4,s5⟩:=Aws hm AOq hE Ac;rw [A5w AOq AOq AOq];simp only [Option.bind_some];refine Ah8 AOq<|Ak0 hz Ad λx2 y0 y1=>Ah8 AOq<|Ah8 AOq<|Am9 Af Ak λz2 Bl=>Ak0 Bl Ak λx3 w0 w1=>Ah8 AOq<|Ah8 (by rw [s1];omega)<|Ah8 (by rw [s1];omega) ?_;rw [s1,A3a AOq AOq];simp only [Option.bind_some];refine AOy (BSk (Int.emod_nonneg _ AOq) (by have:=Int.emod_lt_of_pos (w64<|Int.tmod (w64<|w64 (Int.tdiv x2<|p ^ E) * w64 (Int.tdiv x3<|p ^ E)) (p ^ (k - E)) - Int.tmod (w64<|w64 (Int.tdiv x<|p ^ E) * w64 (Int.tdiv x<|p ^ E)) (p ^ (k - E))) (show 0 < p ^ (k - E) by omega);omega) AOq AOq hf) λu _=>?_;obtain ⟨u,ub⟩:=u;dsimp only;rw [A4];refine AOy (BOi Af Ao Aj Ac hn Ba AOq (by rw [s1];omega) (by rw [s1];omega) Ab) λe4 h4=>AOt h4
  ·obtain ⟨b1,b2,b3,b4,b5,g4,t4⟩:=e3;obtain ⟨Aq,Ar⟩:=h3;dsimp only at Aq Ar ⊢;rw [if_pos AOq,A4];exact AOt<|.inr ⟨g4,t4,_,AOq,rfl,Aq,Ar,by rw [List.length_append];show L.length + 1<=r + 1;omega⟩
 rcases hex with rfl | ⟨g',t',L',q1,rfl,q2,q3,q4⟩;rotate_left
 ·exact AOt<|.inl ⟨r + 2,g',t',L',AOq,q1,rfl,q2,q3,AOq⟩
 dsimp only;refine AOy (Q:=SqP n m) (Aha (λ_=>AOy (Q:=SqP n m) (AOy (BN2 hg hg Aj Ac hn hi hj Ab) λe1 h1=>AOy (BN3 h1 h1 Aj Ac hn hi hj Ab) λe2 h2=>AOy (BN4 ht ht Aj Ac hn hi hj Ab) λe3 h3=>AOt ⟨h2,h3⟩) λe h=>AOt h) λ_=>AOt ⟨hg,ht⟩) λe1 h1=>?_;obtain ⟨g1,t1⟩:=e1;obtain ⟨Ag,Am⟩:=h1;dsimp only at Ag Am ⊢;refine AOy (Q:=SqP n m) (AOy (BOe Ag Ag Am hn hi Ad Ab) λe2 h2=>Am9 h2.1 hi λz hz=>Am9 h2.1 Ad λw hw=>AOt ⟨Ajz (Ajz h2.1 hz) hw,h2.2⟩) λe2 h2=>?_;obtain ⟨g2,t2⟩:=e2;obtain ⟨Af,Ao⟩:=h2;dsimp only at Af Ao ⊢;refine AOy (Q:=λe=>SqS n m e.2.2.2.2.2.1/\SqS n m e.2.2.2.2.2.2) ?_ λe3 h3=>?_
 ·refine Am9 Af Ad λz hz=>Ak0 hz Ad λx x0 x1=>AOy (BN1 hm x0 x1 Ac AOq Ab) λe he=>?_;obtain ⟨E,rfl,hE⟩:=he;obtain ⟨s1,s2,s3,s4,s5⟩:=Aws hm AOq hE Ac;rw [A5w AOq AOq AOq];simp only [Option.bind_some];rw [if_pos AOq,if_pos AOq,s1]
  have hxq:0<=Int.tdiv x (p ^ E)/\Int.tdiv x (p ^ E)<=x:=by
   rw [Int.tdiv_eq_ediv_of_nonneg x0]
   exact ⟨Int.ediv_nonneg x0 AOq,Int.ediv_le_self _ x0⟩
  rw [Aj7 (x:=Int.tdiv x<|p ^ E) AOq AOq];refine AOy (BSk hxq.1 AOq AOq AOq hf) λu _=>?_;obtain ⟨u,ub⟩:=u;dsimp only;have hw:w64 ((r:Int) + 1)=((r + 1:Nat):Int):=Ah6 AOq;rw [hw];refine AOy (BOh Af Ao Aj Ac hn hrn AOq (by rw [s1];omega) Ab) λe4 h4=>?_;obtain ⟨g3,t3⟩:=e4;obtain ⟨A3,A5⟩:=h4;dsimp only at A3 A5 ⊢;refine Am9 A3 Ad λz hz=>Ak0 hz Ad λx x0 x1=>?_;rw [if_pos AOq];exact AOt ⟨A3,A5⟩
 ·obtain ⟨b1,b2,b3,b4,b5,g4,t4⟩:=e3;obtain ⟨Aq,Ar⟩:=h3;dsimp only at Aq Ar ⊢;rw [if_pos AOq,Ah6 AOq];exact AOt<|.inl ⟨r + 1,g4,t4,_,AOq,AOq,rfl,Aq,Ar,by rw [List.length_append];show L.length + 1<=r + 1;omega⟩
theorem BRc {M:List (List Int)} (R:A5s M) (hp:Pr p) (hp2:p<=9973) (hf:2147483648 < fuel):Ok (Ak5 fuel M p) λr=>r.1=p/\(∃ m,m<=2147483647/\SqS M.length m r.2.1)/\r.2.2.length<=M.length:=by
 have hp3:=hp.1;obtain ⟨v,hv,hv2,-,hd⟩:=A5u R hp hp2 (show 100 < fuel by omega);obtain ⟨k,hk,hk2,hk1⟩:=BCv R AOq hp2 hv;rw [hk] at hd;have h8:=R.1.2;have hf2:100 < fuel:=by omega
 unfold Ak5;rw [hd];simp only [Option.bind_some];rw [A5w AOq hk2 hf2];simp only [Option.bind_some]
 have hpk:p<=p ^ k:=by
  have:=Aly (p:=p) AOq (show 1<=k by omega);rwa [Int.pow_succ,Int.pow_zero,Int.one_mul] at this
 have hred:Ajg fuel M (p ^ k)=some (tab M.length M.length λi j=>ent M i j % p ^ k):=by
  conv=>lhs;rw [A4y R]
  exact BEb h8 AOq hk2 hf2
 rw [hred];simp only [Option.bind_some]
 have hg:SqS M.length (p ^ k) (tab M.length M.length λi j=>ent M i j % p ^ k):=by
  refine ⟨Ahv ..,λz hz=>?_⟩;rw [Awe] at hz;obtain ⟨i,_,rfl⟩:=List.mem_map.1 hz;refine ⟨Ahz ..,λx hx=>?_⟩;obtain ⟨j,_,rfl⟩:=List.mem_map.1 hx;exact ⟨Int.emod_nonneg _ AOq,Int.emod_lt_of_pos _ AOq⟩
 refine AOy (Q:=SqS M.length<|p ^ k) (Ah3 (λi s=>s.1=(i:Int)/\i<=M.length/\s.2.length=i/\ ∀ z∈s.2,BCw M.length (p ^ k) z) M.length ?_ AOq λi s hi hI=>?_) λe he=>?_
 ·exact ⟨rfl,Nat.zero_le _,rfl,λz hz=>by cases hz⟩
 ·obtain ⟨a,s⟩:=s;obtain ⟨h1,h2,h3,h4⟩:=hI;dsimp only at h1 h3 h4;subst h1;unfold Apt;dsimp only;refine Aha (λh=>?_) λh=>AOt ⟨AOq,h4⟩;rw [if_pos AOq];have e3:List.replicate (Int.toNat (M.length:Int)) (0:Int)=Aju M.length λ_=>0:=Amp M.length 0;rw [e3]
  have hz:BCw M.length (p ^ k) (Aju M.length λ_=>0):=⟨Ahz ..,λx hx=>by
   obtain ⟨j,_,rfl⟩:=List.mem_map.1 hx;omega⟩
  refine Ak0 hz ⟨AOq,AOq⟩ λ_ _ _=>?_;rw [if_pos AOq];refine AOt ⟨AOq,by rw [Ah6 AOq],AOq,by rw [List.length_append,h3];rfl,λw hw=>?_⟩;rw [List.mem_append,List.mem_singleton] at hw
  rcases hw with hw | rfl
  ·exact h4 w hw
  ·exact Ajv hz AOq AOq
 refine AOy (Q:=λe=>SqS M.length (p ^ k) e.2.1/\e.2.2.length<=M.length) ?_ λe3 h3=>?_
 ·refine A4v (λs=> ∃ (i:Nat) (g t:List (List Int)) (L:List Alq),s=((i:Int),g,t,L)/\i<=M.length/\SqS M.length (p ^ k) g/\SqS M.length (p ^ k) t/\L.length<=i) (λs=>M.length - s.1.toNat) (λs hI=>?_) ⟨0,_,_,_,rfl,AOq,hg,he,Nat.le_refl _⟩ (by show M.length - 0 < fuel;omega);obtain ⟨i,g,t,L,rfl,h1,h2,h3,h4⟩:=hI;refine A6l (BRb rfl rfl h2 h3 hk2 AOq h8 h1 h4 hf) λe he=>?_
  rcases he with ⟨r',g',t',L',h5,h6,rfl,h7,h9,h10⟩ | ⟨h5,rfl⟩
  ·exact ⟨⟨r',g',t',L',rfl,h6,h7,h9,h10⟩,by dsimp only;omega⟩
  ·exact ⟨h3,by dsimp only;omega⟩
 ·obtain ⟨g,t,L⟩:=e3;exact AOt ⟨rfl,⟨p ^ k,hk2,h3.1⟩,h3.2⟩
end Go.Proofs.YtkakafabeobahaaGreatDoor
namespace Go.Proofs.YtkakafabeobahaaGreatDoor
open Go Go.QF
set_option maxRecDepth 100000
theorem pr3:Pr 3:=⟨AOq,λd h1 h2=>by
 obtain rfl:d=2:=by omega
 decide⟩
theorem BS2:A6d 3=true:=by simp [A6d,pr3]
theorem BO8:isRed [[2,1],[1,2]]=true:=by
 unfold isRed
 rw [<- Ao0 (M:=[[2,1],[1,2]]) ⟨AOs,AOs,λi j hi hj=>by
  have hi:i < 2:=hi
  have hj:j < 2:=hj
  rcases (by omega:i=0∨i=1) with rfl | rfl <;> rcases (by omega:j=0∨j=1) with rfl | rfl <;> decide⟩]
 decide +kernel
theorem BS3:BAr 3 3 1:=⟨1,1,rfl,AOs,AOs⟩
theorem BAw:Aow (Alf + 1)=some true:=by
 have Aa:100 < Alf + 1:=Nat.lt_of_le_of_lt AOs<|Nat.lt_succ_self Alf;have R:=(A5t _).1 BO8;have hd:det 2 (ent [[2,1],[1,2]])=3:=by decide +kernel
 obtain ⟨v,h1,h2,h3,h4⟩:=A5u (fuel:=Alf + 1) R (p:=3) pr3 AOq Aa;obtain rfl:v=1:=BAs AOq (by simpa [hd] using h1) BS3;rw [if_neg AOs] at h3;have h5:=BLd (fuel:=Alf + 1) (p:=3) (k:=2) AOq AOs Aa;unfold Aow Aqs Ate Apr Awy A0i;simp only [BS2,BO8,h3,Option.bind_some,Bool.not_true,Bool.false_eq_true,reduceIte];decide +kernel
end Go.Proofs.YtkakafabeobahaaGreatDoor
namespace Go.Proofs.YtkakafabeobahaaGreatDoor
open Go Go.QF
set_option maxRecDepth 100000
theorem BRd (n:Nat) (h2:2<=n) (h:((List.range n).all λd=>decide (d < 2) || decide (n % d≠0))=true):Pr (n:Int):=⟨AOq,λd h3 h4=>by
 have h5:=List.all_eq_true.1 h d.toNat<|List.mem_range.2 AOq
 rw [Bool.or_eq_true,decide_eq_true_eq,decide_eq_true_eq] at h5
 rcases h5 with h5 | h5
 ·omega
 ·intro h6
  apply h5
  have:((n % d.toNat:Nat):Int)=0:=by rw [Int.natCast_emod,Int.toNat_of_nonneg AOq,h6]
  omega⟩
theorem pr8 (n:Nat) (h2:2<=n) (h:((List.range n).all λd=>decide (d < 2) || decide (n % d≠0))=true) (h3:2 < n) (h4:n<=23):Pr (n:Int)/\2 < (n:Int)/\(n:Int)<=23:=⟨BRd n h2 h,AOq,AOq⟩
theorem BEe {k:Int} (hk:0<=k/\k < 256):Ok (Am8 fuel k) λp=>Pr p/\2 < p/\p<=23:=by
 unfold Am8;obtain ⟨q,h1,h2⟩:=BEj k 8 hk.1 AOs;refine Ahj (n:=q) (List.getElem?_eq_getElem<|by exact h2) h1<|AOt ?_;rcases (by omega:q=0∨q=1∨q=2∨q=3∨q=4∨q=5∨q=6∨q=7) with rfl | rfl | rfl | rfl | rfl | rfl | rfl | rfl
 ·exact pr8 3 AOs (by decide +kernel) AOs AOs
 ·exact pr8 5 AOs (by decide +kernel) AOs AOs
 ·exact pr8 7 AOs (by decide +kernel) AOs AOs
 ·exact pr8 11 AOs (by decide +kernel) AOs AOs
 ·exact pr8 13 AOs (by decide +kernel) AOs AOs
 ·exact pr8 17 AOs (by decide +kernel) AOs AOs
 ·exact pr8 19 AOs (by decide +kernel) AOs AOs
 ·exact pr8 23 AOs (by decide +kernel) AOs AOs
end Go.Proofs.YtkakafabeobahaaGreatDoor
namespace Go.Proofs.YtkakafabeobahaaGreatDoor
open Go Go.QF
theorem BRe {h1 h2:AO2} {b:Nat} (S:Sp h2 h1.size [F]) (hb:Off h1.size h2.size b):b ∉ F:=λhx=>by
 have:=S.2 b (by simpa using hx)
 rcases hb with h | h <;> omega
theorem BRf {lo b:Nat} {Fs:List (List Nat)} (S:Sp h lo Fs) (hb:h.size<=b):b ∉ Fs.flatten:=λhx=>by
 have:=S.2 b hx
 omega
theorem Kst.nb1 {a:Asr} {l:List Asr} (k:Kst h0 h (a :: l)) {t b:Nat} {c:List Value} (V:Akb t h b c) (hb:h0.size<=b) (ha:b ∉ a.F) (hl:b ∉ (fps l).flatten):Kst h0 h (a :: aB t b c :: l):=by
 have h1:fps (a :: l)=a.F :: fps l:=rfl;have h2:fps (a :: aB t b c :: l)=a.F :: [b] :: fps l:=rfl;have hs:=k.s;rw [h1] at hs;refine ⟨k.x,?_,k.p.1,V,k.p.2⟩;rw [h2];refine ⟨?_,λx hx=>?_⟩
 ·have:=hs.1;simp only [List.flatten_cons,List.nodup_append,List.mem_append] at this ⊢;obtain ⟨n1,n2,n3⟩:=this;refine ⟨n1,⟨Ah7,n2,λx hx y hy=>?_⟩,λx hx y hy=>?_⟩
  ·rw [List.mem_singleton.1 hx];exact λe=>hl<|e ▸ hy
  ·rcases hy with hy | hy
   ·rw [List.mem_singleton.1 hy];exact λe=>ha<|e ▸ hx
   ·exact n3 x hx y hy
 ·simp only [List.flatten_cons,List.mem_append,List.mem_singleton] at hx;rcases hx with hx | hx | hx
  ·exact hs.2 x (by simp [hx])
  ·rw [hx];exact ⟨hb,V.lt⟩
  ·exact hs.2 x (by simp only [List.flatten_cons,List.mem_append];exact .inr hx)
theorem A9n {G:List Nat} {h1:AO2} {x:Nat} (U:UpT G h h1) (hx:x < h.size) (H:Axz h1 x):Axz h x:=by
 by_cases hg:x∈G
 ·exact (U.2 x hg hx).1
 ·obtain ⟨o,h2,h3⟩:=H;exact ⟨o,by rw [<- U.1.2 x hx hg];exact h2,h3⟩
def aS2 {α:Type} (c:Cod α) (F:List Nat) (v:Value) (M:List (List α)):Asr:=⟨F,λh=> ∀ (G:List Nat) (h':AO2),UpT G h h'->(∀ b∈F,b ∉ G)->Ajx c h' v M,λ{G h h'} U d H G' h2 U' d'=>H (G ++ G') h2 (U.trans U' λx hx hl=>A9n U hl (U'.2 x hx<|Nat.lt_of_lt_of_le hl U.size).1) λb hb hg=>(List.mem_append.1 hg).elim (d b hb) (d' b hb)⟩
theorem Kst.s2 {c:Cod α} {l l':List Asr} (k:Kst h0 h l) {i:Nat} {M:List (List α)} (e:Rep i l (aS2 c F v M) (aS2 c F v M) l'):Ajx c h v M:=(show (aS2 c F v M).P h from Asa k.p e.1) [] h (UpT.refl h) λ_ _=>by simp
theorem Kst.s2P {c:Cod α} {l l':List Asr} (k:Kst h0 h l) {i:Nat} {M:List (List α)} (e:Rep i l (aS2 c F v M) (aS2 c F v M) l'):(aS2 c F v M).P h:=Asa k.p e.1
theorem A1p {c:Cod α} {M:List (List α)} (H:Aj0 c er el h F Gs rs v M):(aS2 c F v M).P h:=λ_ _ U d=>(H.upT U d).rd
theorem BSl {c:Cod α} {v':Value} {M M':List (List α)} (H:Aj0 c er el h F Gs rs v M) (hv:∀ {h1},Ajx c h1 v M->Ajx c h1 v' M'):(aS2 c F v' M').P h:=λ_ _ U d=>hv (H.upT U d).rd
def aS1 {α:Type} (c:Cod α) (F:List Nat) (v:Value) (M:List α):Asr:=⟨F,λh=> ∀ (G:List Nat) (h':AO2),UpT G h h'->(∀ b∈F,b ∉ G)->SlC c h' v M,λ{G h h'} U d H G' h2 U' d'=>H (G ++ G') h2 (U.trans U' λx hx hl=>A9n U hl (U'.2 x hx<|Nat.lt_of_lt_of_le hl U.size).1) λb hb hg=>(List.mem_append.1 hg).elim (d b hb) (d' b hb)⟩
theorem Kst.s1 {c:Cod α} {l l':List Asr} (k:Kst h0 h l) {i:Nat} {M:List α} (e:Rep i l (aS1 c F v M) (aS1 c F v M) l'):SlC c h v M:=(show (aS1 c F v M).P h from Asa k.p e.1) [] h (UpT.refl h) λ_ _=>by simp
theorem A0p {c:Cod α} {M:List α} (H:OwC c el h F v M):(aS1 c F v M).P h:=λ_ _ U d=>(H.upT U d).rd
theorem BSm {c:Cod α} {v':Value} {M M':List α} (H:OwC c el h F v M) (hv:∀ {h1},SlC c h1 v M->SlC c h1 v' M'):(aS1 c F v' M').P h:=λ_ _ U d=>hv (H.upT U d).rd
theorem Kst.us2 {c:Cod α} {h':AO2} {l l':List Asr} (k:Kst h0 h l) {i:Nat} {x x':List (List α)} (e:Rep i l (aO2 c er el F Gs rs v x) (aS2 c F v x') l') (U:UpT F h h') (V:(aS2 c F v x').P h'):Kst h0 h' l':=by
 have HO:Aj0 c er el h F Gs rs v x:=Asa k.p e.1;exact k.u e U V HO.nodup (λb hb=>Nat.lt_of_lt_of_le (HO.lt b hb) U.size) λ_ hb=> .inl hb
theorem BHu {c:Cod α} {a:Option Addr} {n cap:Nat} {M:List (List α)} (H:Ajx c h (.slice a n cap) M) (hk:k<=n) (hc:n<=cap):Ajx c h (.slice (if cap=k then a else a.map (·.add<|k * 1)) (n - k)<|cap - k) (M.drop k):=by
 obtain ⟨hcp,rs,⟨a',cap',hv,hcell⟩,hl,hr⟩:=H;injection hv with h1 h2 h3;subst h1;subst h2;subst h3;refine ⟨⟨_,_,_,rfl,AOq⟩,rs.drop k,⟨_,_,by rw [List.length_map,List.length_map,List.length_drop],λi r hir=>?_⟩,by simp [hl],λi r L h1 h2=>?_⟩
 ·rw [List.map_drop,List.getElem?_drop] at hir;have hil:=(List.getElem?_eq_some_iff.1 hir).1;obtain ⟨b,o,rfl,h2⟩:=hcell _ r hir;refine ⟨b,o + k * 1,?_,λj x hx=>?_⟩
  ·rw [if_neg (by simp at hil;simp at hc;omega)];simp [Addr.add]
  ·have:=h2 j x hx;rwa [show o + k * 1 + i * 1 + j=o + (k + i) * 1 + j by omega]
 ·rw [List.getElem?_drop] at h1 h2;exact hr _ r L h1 h2
section
variable {P:Program} {B:AO2->Prop} {st:Bool} {ops:Array Oper} {rest:List Oper} {e:Env} {h:AO2} {K:Env->AO2->Prop} {d d' d2:Nat} {ty ty2 ty3:TypeId} {pos pos2 pos3:String} {af af2 af3:Array Edge}
theorem BEf {c:Cod α} {x y:Operand} {t:Nat} {M:List (List α)} {κ:IntKind} {k:Int} (hT:SlT P t el 1) (hx:e.ev x=v) (HS:Ajx c h0 v M) (hy:e.ev y= .int κ k) (hk:0<=k/\k<=M.length) (H:∀ v',(∀ {h1},Ajx c h1 v M->Ajx c h1 v' (M.drop k.toNat))->Aud v'->RL P B st ops rest (e.set d v') h K):RL P B st ops (⟨some d,.slice t x (some y) none none,ty,pos,af,none⟩ :: rest) e h K:=by
 obtain ⟨m,rfl⟩:∃ m:Nat,k=m:=⟨k.toNat,AOq⟩;obtain ⟨hc,rs,⟨a',c',hv,_⟩,hl,_⟩:=HS;obtain ⟨a,n,cp,rfl,hnc⟩:=hc;injection hv with _ hn _;rw [List.length_map] at hn;exact A62 hT hx hy AOq hnc<|H _ (λH1=>BHu H1 AOq hnc) ⟨_,_,_,rfl,AOq⟩
theorem BSn {c:Cod α} {x y:Operand} {t:Nat} {r1 r':Value} {M:List (List α)} {n m:Int} {L L1 L':List α} (ht:NaT P t) (HO:Aj0 c er el h F Gs rs v M) (hL:gI M n=some L) {b:Nat} (hF:F=b :: Gs.flatten) (hx:e.ev x= .pointer (some ⟨b,n.toNat,none⟩)) (hy:e.ev y=r') (hr:rs[m.toNat]? =some r1) (hm:gI M m=some L1) (hv:∀ {h1},SlC c h1 r1 L1->SlC c h1 r' L') (ho:isOne r'=true)
 (H:∀ h',(aS2 c F v<|sI M n L').P h'->UpT F h h'->RL P B st ops rest e h' K):RL P B st ops (⟨none,.store t x y,ty,pos,af,none⟩ :: rest) e h K:=by
 obtain ⟨i,rfl,hm0⟩:=Ao2 hL;obtain ⟨q,rfl,hq0⟩:=Ao2 hm;clear hL hm;have hL:=hm0;simp only [Int.toNat_natCast,sI] at hx hr H ⊢;have hnd:=HO.notD;have hi:=(List.getElem?_eq_some_iff.1 hL).1
 rcases HO with ⟨rfl,_⟩ | ⟨b',hF',hn,h2,h3,h4,h5,h6⟩
 ·simp at hL
 rw [hF] at hF';injection hF' with hF';subst hF';rw [hF] at hn;have hnf:=List.nodup_cons.1 hn;refine (Ame (n:=i) (el:=er) (g:=b) ht (by grind) hy ho) v _ h2 (by grind) λh' hS hU=>?_;have h2':=hS v _ h2 (by grind);have U:UpT F h h':=Av9 hU (by simp [hF]) (λb hb _=>hnd b hb)<|h2'.notD h3;have U1:UpT [b] h h':=Av9 hU Ah7 (λx hx _=>hnd x<|by grind)<|h2'.notD h3;have h2s:Aqw h' er 1 b v ((rs.set i r').map λr=>[r]):=by simp_all
 have hq:=(List.getElem?_eq_some_iff.1 hq0).1;refine H h' (λG h3' U' d'=>?_) U
 have rows:∀ (j:Nat) (r:Value) (L:List α),rs[j]? =some r->M[j]? =some L->SlC c h3' r L:=λj r L hj hjL=>by
  have hjl:=(List.getElem?_eq_some_iff.1 hjL).1;have hG:=List.getElem?_eq_getElem (show j < Gs.length by omega);refine (((h6 j _ r L hG hj hjL).upT U1 λz hz hzb=>?_).upT U' λz hz=>d' z (by rw [hF];exact List.mem_cons_of_mem _<|Ale hG hz)).rd;rw [List.mem_singleton.1 hzb] at hz;exact hnf.1<|Ale hG hz
 have hk:=h2s.upd (S:=(· ∈G)) U'.1<|d' b (by simp [hF]);refine ⟨let ⟨_,_,hv,_,hl,_⟩:=hk;⟨_,_,_,hv,hl⟩,rs.set i r',hk.sl,by simp [h4],λj r L hj hjL=>?_⟩
 by_cases hji:j=i
 ·subst hji;rw [List.getElem?_set_self AOq] at hj hjL;injection hj with hj;injection hjL with hjL;subst hj;subst hjL;exact hv<|rows q r1 L1 hr hq0
 ·rw [List.getElem?_set_ne λhe=>hji he.symm] at hj hjL;exact rows j r L hj hjL
end
end Go.Proofs.YtkakafabeobahaaGreatDoor
namespace Go.Proofs.YtkakafabeobahaaGreatDoor
open Go Go.QF
set_option maxRecDepth 100000
set_option maxHeartbeats 40000000
def Asu (fuel:Nat) (a4:LiI) (Aa:Int) (Ab:LiI):Option ((Int × LiI) ⊕ LiI):=
 if Aa < (a4.length:Int) then (gI a4 Aa).bind λAd=>if Ad.length<=100000000 then if Ab.length<=100000000 then some (.inl (w64<|Aa + 1,Ab ++ [Ad])) else none else none else some<|.inr Ab
def Apb (fuel:Nat) (a1:Int) (a4:LiI) (a8:List Alq):Option (Int × LiI × (List Alq)):=
 if a8.length<=100000000 then (iter (λs=>Asu fuel a4 s.1 s.2) fuel (0,[])).bind (λ(Ad:LiI)=>some (a1,Ad,a8)) else none
theorem A0q {Ai:Value} {a4:LiI} {Aj:Value} {a8:(List Alq)} {r:(Int × LiI × (List Alq))} (H3:Ajx (cI .i64) h Ai a4) (H7:SlC Ar1 h Aj a8) (hp:Apb fuel a1 a4 a8=some r):Ahq Tryz.prog 32 #[(.agg #[(.int .i64 a1),Ai,Aj])] h (λx h'=>Ext h h'/\ ∃ (Ay:Value) (Az:Value) (A3:List Nat) (Bj:List LnA) (Bl:List Value) (A4:List Nat),x= .agg #[.int .i64 r.1,Ay,Az]/\Aj0 (cI .i64) 61 2 h' A3 Bj Bl Ay r.2.1/\OwC Ar1 60 h' A4 Az r.2.2/\Sp h' h.size [A3,A4]):=by
 unfold Apb at hp;refine cwf (l:=[_]) Tryz.func32 rfl rfl (AOv<|Ao1 (Kst.k0 h) [(.int .i64 a1),Ai,Aj] λCj Ck Cm Bm=>Aj3 Bm [(.int .i64 0),(.slice none 0 0),(.slice none 0 0)] A2c λCn Ak Co Ad=>AOz<|AOx ?_);have Af:UpT [] Ak Ak:=UpT.start all_nil;refine A03 (B:=λh'=>UpT [] Ak h') 6 [⟨3,29,[.int .i64 0,.slice none 0 0,.slice none 0 0]⟩] (λ_ _ U E=>U.thenE E) AO5 Af (A95 rfl A2c rfl (λ_ _ U E=>U.thenE E))<|h_l rfl (Ah1 Aqn rfl (Ahh<|h_l rfl (Ahk AO9 rfl Af (λh' hb=>((Ad.b p1).ext hb.ext).cell (i:=0) rfl) (Ahh<|h_l rfl (Ah1 Anw rfl (Ahh<|h_l rfl (Ahk At1 rfl Af (λh' hb=>((Ad.b p1).ext hb.ext).cell (i:=2) rfl) (Ahh<|h_e rfl λCp A5=>?_))))))));have A6:=Af.thenE A5;have A7:=Ad.e A5;obtain ⟨Bn,Bo⟩:=ifN hp;refine BBm Asz Axm rfl rfl A6 (λ_ E=>A6.thenE E) rfl rfl (H7.ext A7.x) AOs Bn λCq Ac Cr Bp A8 A9=>?_;have Ba:=A7.no A8 A9 Bp;refine Ahh ⟨A8,?_⟩;refine h_l rfl ?_;obtain ⟨_,_,_,Bq⟩:=(Ba.o p0).rd.shape;refine Akh (v:=(.agg #[(.int .i64 a1),(.slice none 0 0),Ac])) (λ_=>by subst Bq;kernel_rfl)<|Ahh<|A7q λCt Br=>BMj λBt Bu Bb Bv=>?_;have Am:=(Ba.e Br).nb1 Bu (Nat.le_trans Ad.x.1 Bb) (BRe A9 Bv.2) (BRf Ad.s Bb);refine Ai5 [(.int .i64 a1),(.slice none 0 0),Ac] Ai8 rfl rfl rfl rfl (Aic rfl (Aic rfl (Aic (Am.o p0).isOne Aoo))) (Am.b p1) λCu Bw Bx=>AOz<|AOx<|AOv ?_;have Bc:=Am.sb p1 Bx Bw rfl;refine Ajl Ape Aia (Bc.b p3) 1 rfl (Ahw APa rfl H3 (AOr<|AOz<|AO0 ?_));have Ao:=(Kst.anil2 (cI .i64) 61 2 Bc).sel [0,1,2,3] AOs;dsimp only [Apc,As8] at Ao;refine Anb 134184992 (λx:(Int) × (LiI) × (Value) × LnA × LnN × LvA=>(x.1,x.2.1)) ((0,[],(.slice none 0 0),[],[],[]):(Int) × (LiI) × (Value) × LnA × LnN × LvA) Bo (λx=>[(15,(.int .i64 x.1))]) (λx=>(Ao.L.set 0<|aO2 (cI .i64) 61 2 x.2.2.2.1 x.2.2.2.2.1 x.2.2.2.2.2 x.2.2.1 x.2.1).set 2 (aB 29 Bt [(.int .i64 a1),x.2.2.1,Ac])) Ao ⟨rfl,trivial⟩ ?_;rintro ⟨Cv,Cw,Be,Bf,Cx,Cy⟩ Cz Ap C0 Aa Aq By;unfold Asu at Aq;refine AOv<|Aho rfl rfl (AOz<|AOx<|⟨_,rfl,λAr=>?_,λAr=>?_⟩)
 ·refine AO4<|q_t<|AOx<|AO0<|AOv ?_;obtain ⟨C1,Bz,B1⟩:=AOw<|Ahx Aq Ar;refine An4 APa Ahb H3 Aa.x Bz λ_ C2 B3=>AO1<|Aiz (λh'=>UpT (Bf ++ []) Ap h') AO5 ?_;have Ag:UpT (Bf ++ []) Ap Ap:=UpT.start<|Aiv (Aa.o2 p0).notD all_nil;refine Ah1 Ape rfl (Ahk Aia rfl Ag (λh' hb=>((Aa.b p2).upT hb (A18 (Aa.dj p2 p0 AOs) A9x)).cell (i:=1) rfl) (AOr ?_));obtain ⟨B4,B5⟩:=ifN B1;refine BBm APd Arq rfl rfl Ag (λ_ E=>Ag.thenE E) rfl rfl (B3.ext Aa.x) AOs B4 λC3 C4 C5 B6 Bg B7=>?_;have Bh:=Ag.thenE Bg;have Ah:=Aa.no Bg B7 B6;obtain ⟨B8,B9⟩:=ifN B5;refine A2s APa Atu rfl rfl Bh (λ_ U=>Bh.then U<|Am2 rfl) (λ_=>rfl) rfl (Ah.o p0) (Ah.o2 p1) (Ah.dj p0 p1 AOs) AOs B8 λC6 C7 Ca C8 Cb Cd Ce=>Ah1 Ape rfl ?_;have Au:=Ah.m2 p0 p1 AOs Cd Cb Ce;refine Au6 [(.int .i64 a1),Ca,Ac] Aia rfl rfl (Au.o2 p1).isOne (Au.b p3) (Nat.le_of_ble_eq_true rfl) rfl λC9 Cf Cg=>Ahh<|q_b<|q_t<|Ag6<|Ahp rfl rfl (AOr<|AOz ?_);exact ⟨(_,_,_,_,_,_),(AOu B9).symm,(Au.sb p3 Cg Cf rfl).sel [1,2,3,4] AOs,rfl,trivial⟩
 ·refine Ahf<|Ahg<|Ahg<|Aim<|q_t<|AOv<|Apd [(.int .i64 a1),Be,Ac] Ai8 rfl rfl (Aa.b p2).agg (Ai5 [(.int .i64 a1),Be,Ac] Ai8 rfl rfl rfl rfl (Aic rfl (Aic (Aa.o2 p0).isOne<|Aic (Aa.o p1).isOne Aoo)) (Aa.b p3) λDa Ch Ci=>AOz<|AO6 ?_);have Ae:=Aa.sb p3 Ci Ch rfl;obtain rfl:=AOu<|By _ (AOu<|Ahy Aq Ar).symm;exact ⟨_,Ai1 Ai8 rfl rfl (Ae.b p3),Ae.x,_,_,_,_,_,_,rfl,(Ae.o2 p0),(Ae.o p1),Ae.s.sel [0,1] AOs⟩
def Al9 (fuel:Nat) (a1:Int) (a4:LiI) (a8:List Alq) (Ab Ac Ae:Int):Option (Int × LiI × (List Alq)):=
 (Apb fuel a1 a4 a8).bind λAa=>((if (Aa.2.1.length:Int)=0 then some (.inl (Aa.1,Aa.2.1,Aa.2.2)) else if (Aa.2.2.length:Int)=0 then some (.inl (Aa.1,Aa.2.1,Aa.2.2)) else some<|.inr (0,[],[])):Option ((Int × LiI × List Alq) ⊕ (Int × LiI × List Alq))).bind (λex=>match ex with | .inl Aq=>(some Aq) | .inr (Av,Aw,Ax)=>if (Aa.2.2.length:Int)≠0 then (gI Aa.2.2<|Int.tmod (w64 Ab) (Aa.2.2.length:Int)).bind λAy=>if (Aa.2.1.length:Int)≠0 then (gI Aa.2.1<|Int.tmod (w64 Ab) (Aa.2.1.length:Int)).bind λAd=>((if Int.tmod Ac 12=0 then some (decide (Int.tmod Ac 12=0)) else some<|decide (Int.tmod Ac 12=1)):Option Bool).bind (λ(Ar:Bool)=>if Ar=true then if 0 < (Ad.length:Int) then if (Ad.length:Int)≠0 then (gI Aa.2.1<|Int.tmod (w64 Ab) (Aa.2.1.length:Int)).bind λAk=>(gI Ak<|Int.tmod (w64<|IntKind.wrap .u8<|Int.tdiv Ab 8) (Ad.length:Int)).bind λAu=>some (Aa.1,sI Aa.2.1 (Int.tmod (w64 Ab) (Aa.2.1.length:Int))<|sI Ak (Int.tmod (w64<|IntKind.wrap .u8<|Int.tdiv Ab 8) (Ad.length:Int))<|w64<|Au + Ae,Aa.2.2) else none else some (Aa.1,Aa.2.1,Aa.2.2) else if Int.tmod Ac 12=2 then (gI Aa.2.2<|Int.tmod (w64 Ab) (Aa.2.2.length:Int)).bind λAf=>some (Aa.1,Aa.2.1,sI Aa.2.2 (Int.tmod (w64 Ab) (Aa.2.2.length:Int)) (Af.1,Af.2.1,w64<|Af.2.2.1 + Ae,Af.2.2.2.1,Af.2.2.2.2)) else if Int.tmod Ac 12=3 then (gI Aa.2.2<|Int.tmod (w64 Ab) (Aa.2.2.length:Int)).bind λAg=>some (Aa.1,Aa.2.1,sI Aa.2.2 (Int.tmod (w64 Ab) (Aa.2.2.length:Int)) (Ag.1,Ag.2.1,Ag.2.2.1,w64<|Ag.2.2.2.1 + Ae,Ag.2.2.2.2)) else if Int.tmod Ac 12=4 then (gI Aa.2.2<|Int.tmod (w64 Ab) (Aa.2.2.length:Int)).bind λAh=>some (Aa.1,Aa.2.1,sI Aa.2.2 (Int.tmod (w64 Ab) (Aa.2.2.length:Int)) (Ah.1,Ah.2.1,Ah.2.2.1,Ah.2.2.2.1,w64<|Ah.2.2.2.2 + Ae)) else if Int.tmod Ac 12=5 then (gI Aa.2.2<|Int.tmod (w64 Ab) (Aa.2.2.length:Int)).bind λAi=>some (Aa.1,Aa.2.1,sI Aa.2.2 (Int.tmod (w64 Ab) (Aa.2.2.length:Int)) (w64<|Ai.1 + Int.tmod Ae 3,Ai.2.1,Ai.2.2.1,Ai.2.2.2.1,Ai.2.2.2.2)) else if Int.tmod Ac 12=6 then (gI Aa.2.2<|Int.tmod (w64 Ab) (Aa.2.2.length:Int)).bind λAj=>some (Aa.1,Aa.2.1,sI Aa.2.2 (Int.tmod (w64 Ab) (Aa.2.2.length:Int)) (Aj.1,w64<|1 + w64 (Int.tmod (IntKind.wrap .u64 Ae) 3),Aj.2.2.1,Aj.2.2.2.1,Aj.2.2.2.2)) else if Int.tmod Ac 12=7 then if (0:Int)<=1/\1<=(Aa.2.2.length:Int) then some (Aa.1,Aa.2.1,List.drop (Int.toNat 1) Aa.2.2) else none else if Int.tmod Ac 12=8 then if (0:Int)<=1/\1<=(Aa.2.1.length:Int) then some (Aa.1,List.drop (Int.toNat 1) Aa.2.1,Aa.2.2) else none else if Int.tmod Ac 12=9 then if 0<=w64 (Int.tdiv (Ad.length:Int) 2)/\w64 (Int.tdiv (Ad.length:Int) 2)<=(Ad.length:Int) then (gI Aa.2.1 0).bind λAz=>some (Aa.1,sI Aa.2.1 0<|List.take (Int.toNat<|w64<|Int.tdiv (Ad.length:Int) 2) Ad,Aa.2.2) else none else if Int.tmod Ac 12=10 then some (w64<|Aa.1 + Int.tmod Ae 4,Aa.2.1,Aa.2.2) else some (Aa.1,Aa.2.1,Aa.2.2)) else none else none)
theorem Axf {Bl:Value} {a4:LiI} {Bm:Value} {a8:(List Alq)} {Ak Bn Ag:Int} {r:(Int × LiI × (List Alq))} (H3:Ajx (cI .i64) h Bl a4) (H7:SlC Ar1 h Bm a8) (hp:Al9 fuel a1 a4 a8 Ak Bn Ag=some r):Ahq Tryz.prog 10 #[(.agg #[(.int .i64 a1),Bl,Bm]),(.int .u8 Ak),(.int .u8 Bn),(.int .i64 Ag)] h (λx h'=>Ext h h'/\ ∃ (Cg:Value) (Ch:Value) (Ci:List Nat) (Cj:List Nat),x= .agg #[.int .i64 r.1,Cg,Ch]/\(aS2 (cI .i64) Ci Cg r.2.1).P h'/\(aS1 Ar1 Cj Ch r.2.2).P h'/\Sp h' h.size [Ci,Cj]):=by
 unfold Al9 at hp;refine cwf (l:=[_,_,_,_]) Tryz.func10 rfl rfl (AOv<|Ao1 (Kst.k0 h) [(.int .i64 a1),Bl,Bm] λGr Gt Gu Dc=>Aj3 Dc [(.int .i64 0),(.slice none 0 0),(.slice none 0 0)] A2c λDd Gv Gw Bo=>Apu<|Apd [(.int .i64 a1),Bl,Bm] Ai8 rfl rfl (Bo.b p1).agg ?_);obtain ⟨Ab,De,Df⟩:=AOw hp;refine Aqy rfl (A0q (H3.ext Bo.x) (H7.ext Bo.x) De) λGx Gy Dg Dh=>?_;obtain ⟨Ac,Ad,Di,Dj,Dk,Dl,rfl,Do,Dp,Dq⟩:=Dh;have Ck:=Bo.n Dg [aO2 (cI .i64) 61 2 Di Dj Dk Ac Ab.2.1,aO Ar1 60 Dl Ad Ab.2.2] Dq ⟨Do,Dp,trivial⟩;simp only [List.cons_append,List.nil_append] at Ck;refine Aj3 Ck [(.int .i64 0),(.slice none 0 0),(.slice none 0 0)] A2c λGz G3 G4 Bp=>Ai5 [(.int .i64 Ab.1),Ac,Ad] Ai8 rfl rfl rfl rfl (Aic rfl (Aic (Bp.o2 p1).isOne<|Aic (Bp.o p2).isOne Aoo)) (Bp.b p0) λG5 Dr Ds=>AOz ?_;have Ae:=Bp.sb p0 Ds Dr rfl;obtain ⟨Dt,Cm,Bv⟩:=AOw Df;refine Aqt 33538048 (λx:(Int) × (LiI) × (Value) × LnA × LnN × LvA × ((List Alq)) × (Value) × LnA=>[]) (λx h'=>(Sum.inr <| (x.1,x.2.1,x.2.2.2.2.2.2.1))=Dt/\Kst h h' (aO2 (cI .i64) 61 2 x.2.2.2.1 x.2.2.2.2.1 x.2.2.2.2.2.1 x.2.2.1 x.2.1 :: aO Ar1 60 x.2.2.2.2.2.2.2.2 x.2.2.2.2.2.2.2.1 x.2.2.2.2.2.2.1 :: ((Apc Ae.L [0,1,2,3]).set 3 (aB 29 Dd [(.int .i64 x.1),x.2.2.1,x.2.2.2.2.2.2.2.1])))) ?_ ?_
 ·refine AOv<|Ajl Ape Aia (Ae.b p0) 1 rfl (Ahw APa rfl (Ae.o2 p1).rd (Aiy rfl rfl (AOr ?_)));by_cases Bq:(Ab.2.1.length:Int)=0
  ·rw [decide_eq_true Bq];refine Alo 18 true<|Ag7 rfl (AOz<|Ahn rfl (AOv<|Apd [(.int .i64 Ab.1),Ac,Ad] Ai8 rfl rfl (Ae.b p0).agg (Ai5 [(.int .i64 Ab.1),Ac,Ad] Ai8 rfl rfl rfl rfl (Aic rfl (Aic (Ae.o2 p1).isOne<|Aic (Ae.o p2).isOne Aoo)) (Ae.b p3) λG6 Du Dv=>AOz ?_)));have Am:=Ae.sb p3 Dv Du rfl;obtain rfl:=AOu<|ifT Cm Bq;refine AO6<|Ag9 ?_;obtain rfl:=AOu Bv;exact ⟨_,Ai1 Ai8 rfl rfl (Am.b p3),Am.x,_,_,_,_,rfl,(A1p<|Am.o2 p1),(A0p<|Am.o p2),Am.s.sel [1,2] AOs⟩
  ·have Cn:=ifF Cm Bq;rw [decide_eq_false Bq];refine Ag8 18 false<|Ah1 Anw rfl (Ag8 18 false<|Aht At1 rfl ((Ae.b p0).cell (i:=2) rfl) (Ag8 18 false<|Aio Asz rfl (Ae.o p2).rd (Ag8 18 false<|Aiy rfl rfl (APb rfl (AOz<|⟨_,rfl,λBw=>?_,λBw=>?_⟩)))))
   ·refine AOv<|Apd [(.int .i64 Ab.1),Ac,Ad] Ai8 rfl rfl (Ae.b p0).agg (Ai5 [(.int .i64 Ab.1),Ac,Ad] Ai8 rfl rfl rfl rfl (Aic rfl (Aic (Ae.o2 p1).isOne<|Aic (Ae.o p2).isOne Aoo)) (Ae.b p3) λG7 Dw Dx=>AOz ?_);have Ao:=Ae.sb p3 Dx Dw rfl;obtain rfl:=AOu<|Ahx Cn Bw;refine AO6<|Ag9 ?_;obtain rfl:=AOu Bv;exact ⟨_,Ai1 Ai8 rfl rfl (Ao.b p3),Ao.x,_,_,_,_,rfl,(A1p<|Ao.o2 p1),(A0p<|Ao.o p2),Ao.s.sel [1,2] AOs⟩
   ·refine AO4<|q_t ?_;exact ⟨((0,[],(.slice none 0 0),[],[],[],[],(.slice none 0 0),[]):(Int) × (LiI) × (Value) × LnA × LnN × LvA × ((List Alq)) × (Value) × LnA),⟨AOu<|Ahy Cn Bw,(Kst.anil Ar1 60<|Kst.anil2 (cI .i64) 61 2 Ae).sel [1,0,2,3,4,5] AOs⟩,trivial⟩
 rintro ⟨G8,G9,Hb,Hc,Hd,He,Hf,Hg,Hh⟩ Hj Hk ⟨Dy,Af⟩;subst Dy;refine AOx<|Ana<|Ajl Anw At1 (Af.b p2) 2 rfl (AOr<|Asv Axw Awq rfl (Ajl Anw At1 (Af.b p2) 2 rfl (Aio Asz rfl (Af.o p4).rd ?_)));obtain ⟨Dz,D0⟩:=ifN Bv;refine Ajh rfl rfl Dz ?_;obtain ⟨Hl,D1,D2⟩:=AOw D0;refine A19 Asz rfl (Af.o p4) rfl D1 λHm Ah=>AO1<|AOx<|Ana<|Ajl Ape Aia (Af.b p2) 1 rfl (AOr<|Asv Axw Awq rfl (Ajl Ape Aia (Af.b p2) 1 rfl (Ahw APa rfl (Af.o2 p3).rd ?_)));obtain ⟨D3,D4⟩:=ifN D2;refine Ajh rfl rfl D3 ?_;obtain ⟨Hn,Aj,D5⟩:=AOw D4;refine Ai2 APa Ahb (Af.o2 p3) Aj λ_ Ho Ai=>AO1<|AOx<|AOv<|AOr<|Ajh rfl rfl AOs (AOz<|AO0 ?_);obtain ⟨D6,Co,Cp⟩:=AOw D5;refine Aqt 492581209243648 (λx:(Bool)=>[(46,(.bool x))]) (λx h'=>( x)=D6/\Kst h h' (Af.L)) ?_ ?_
 ·refine AOv<|Aiy rfl rfl (AO1<|⟨_,rfl,λBx=>?_,λBx=>?_⟩)
  ·refine AO4<|q_t ?_;exact ⟨((decide ((Int.tmod Bn 12)=0)):(Bool)),⟨AOu<|Ahx Co Bx,Af⟩,rfl,trivial⟩
  ·refine Ag6<|Aiy rfl rfl (AO1 ?_);exact ⟨((decide ((Int.tmod Bn 12)=1)):(Bool)),⟨AOu<|Ahy Co Bx,Af⟩,rfl,trivial⟩
 rintro Hq Hr Hs ⟨D7,Aa⟩;subst D7;refine ⟨_,rfl,λBy=>?_,λBy=>?_⟩
 ·refine AOv<|AOr<|Aio APd rfl ((Aa.o2 p3).rowI Ai Aj) (An0 rfl rfl (AOz ?_));have Cq:=ifT Cp By;refine ⟨_,rfl,λBz=>?_,λBz=>?_⟩
  ·refine Ag6<|AOr<|AOr<|Aub rfl rfl AOs (Asv Axw Awq rfl (AOr<|Aio APd rfl ((Aa.o2 p3).rowI Ai Aj) ?_));obtain ⟨D8,D9⟩:=ifN<|Ahx Cq Bz;refine Ajh rfl rfl D8 ?_;obtain ⟨Ht,Cr,Ea⟩:=AOw D9;obtain ⟨Hu,Ct,Eb⟩:=AOw Ea;refine At4 (m:=(Int.tmod (w64 Ak) (Ab.2.1.length:Int))) APd AO9 (Aa.o2 p3) Ai Cr Ct λ_=>(AOr<|Ahp rfl rfl (As1 (m:=(Int.tmod (w64 Ak) (Ab.2.1.length:Int))) Aa p3 APd AO9 Ai Cr Ct (λ_=>rfl) λ_ Hv Ap=>Ahh<|q_b<|q_t<|AOv<|Apd [(.int .i64 Ab.1),Ac,Ad] Ai8 rfl rfl (Ap.b p2).agg (Ai5 [(.int .i64 Ab.1),Ac,Ad] Ai8 rfl rfl rfl rfl (Aic rfl (Aic (Ap.o2 p3).isOne<|Aic (Ap.o p4).isOne Aoo)) (Ap.b p5) λHw Ec Ed=>AOz<|AO6 ?_)));have Aq:=Ap.sb p5 Ed Ec rfl;obtain rfl:=AOu Eb;exact ⟨_,Ai1 Ai8 rfl rfl (Aq.b p5),Aq.x,_,_,_,_,rfl,(A1p<|Aq.o2 p3),(A0p<|Aq.o p4),Aq.s.sel [3,4] AOs⟩
  ·refine AO4<|q_b<|q_t<|AOv<|Apd [(.int .i64 Ab.1),Ac,Ad] Ai8 rfl rfl (Aa.b p2).agg (Ai5 [(.int .i64 Ab.1),Ac,Ad] Ai8 rfl rfl rfl rfl (Aic rfl (Aic (Aa.o2 p3).isOne<|Aic (Aa.o p4).isOne Aoo)) (Aa.b p5) λHx Ee Ef=>AOz<|AO6 ?_);have Ar:=Aa.sb p5 Ef Ee rfl;obtain rfl:=AOu<|Ahy Cq Bz;exact ⟨_,Ai1 Ai8 rfl rfl (Ar.b p5),Ar.x,_,_,_,_,rfl,(A1p<|Ar.o2 p3),(A0p<|Ar.o p4),Ar.s.sel [3,4] AOs⟩
 ·refine AOv<|Aiy rfl rfl (AO1 ?_);have Cu:=Aoy Cp By;refine ⟨_,rfl,λB1=>?_,λB1=>?_⟩
  ·refine Ag6<|AOr<|Ah2 rfl (Ah1 At2 rfl ?_);obtain ⟨Au,Cv,Eg⟩:=AOw<|Ahx Cu B1;obtain ⟨Hy,Eh,Ei⟩:=(Aa.o p4).cells Ah Cv;obtain rfl:=Eh;refine Aht AO9 rfl (Ei 2 _ rfl) (AOr<|Ahp rfl rfl (Ah2 rfl (Ah1 At2 rfl (A3t (c:=Ar1) (a':=(Au.1,Au.2.1,(w64<|Au.2.2.1 + Ag),Au.2.2.2.1,Au.2.2.2.2)) AO9 rfl rfl rfl AOs (Aa.o p4) Ah Cv (λ_ q=>by cases q;rfl) λHz Ej Ek=>Ahh<|q_b<|q_t<|AOv ?_))));have Av:=Aa.uO p4 Ek Ej;refine Apd [(.int .i64 Ab.1),Ac,Ad] Ai8 rfl rfl (Av.b p2).agg (Ai5 [(.int .i64 Ab.1),Ac,Ad] Ai8 rfl rfl rfl rfl (Aic rfl (Aic (Av.o2 p3).isOne<|Aic (Av.o p4).isOne Aoo)) (Av.b p5) λH5 El Em=>AOz<|AO6 ?_);have Aw:=Av.sb p5 Em El rfl;obtain rfl:=AOu Eg;exact ⟨_,Ai1 Ai8 rfl rfl (Aw.b p5),Aw.x,_,_,_,_,rfl,(A1p<|Aw.o2 p3),(A0p<|Aw.o p4),Aw.s.sel [3,4] AOs⟩
  ·refine AOv<|Aiy rfl rfl (AO1 ?_);have Cw:=Ahy Cu B1;refine ⟨_,rfl,λB3=>?_,λB3=>?_⟩
   ·refine Ag6<|AOr<|Ah2 rfl (Ah1 Ax1 rfl ?_);obtain ⟨Ax,Cx,En⟩:=AOw<|Ahx Cw B3;obtain ⟨Ia,Eo,Ep⟩:=(Aa.o p4).cells Ah Cx;obtain rfl:=Eo;refine Aht AO9 rfl (Ep 3 _ rfl) (AOr<|Ahp rfl rfl (Ah2 rfl (Ah1 Ax1 rfl (A3t (c:=Ar1) (a':=(Ax.1,Ax.2.1,Ax.2.2.1,(w64<|Ax.2.2.2.1 + Ag),Ax.2.2.2.2)) AO9 rfl rfl rfl AOs (Aa.o p4) Ah Cx (λ_ q=>by cases q;rfl) λIb Er Es=>Ahh<|q_b<|q_t<|AOv ?_))));have Ay:=Aa.uO p4 Es Er;refine Apd [(.int .i64 Ab.1),Ac,Ad] Ai8 rfl rfl (Ay.b p2).agg (Ai5 [(.int .i64 Ab.1),Ac,Ad] Ai8 rfl rfl rfl rfl (Aic rfl (Aic (Ay.o2 p3).isOne<|Aic (Ay.o p4).isOne Aoo)) (Ay.b p5) λIc Et Eu=>AOz<|AO6 ?_);have Az:=Ay.sb p5 Eu Et rfl;obtain rfl:=AOu En;exact ⟨_,Ai1 Ai8 rfl rfl (Az.b p5),Az.x,_,_,_,_,rfl,(A1p<|Az.o2 p3),(A0p<|Az.o p4),Az.s.sel [3,4] AOs⟩
   ·refine AOv<|Aiy rfl rfl (AO1 ?_);have Cy:=Ahy Cw B3;refine ⟨_,rfl,λB4=>?_,λB4=>?_⟩
    ·refine Ag6<|AOr<|Ah2 rfl (Ah1 Azh rfl ?_);obtain ⟨A3,Cz,Ev⟩:=AOw<|Ahx Cy B4;obtain ⟨Id,Ew,Ey⟩:=(Aa.o p4).cells Ah Cz;obtain rfl:=Ew;refine Aht AO9 rfl (Ey 4 _ rfl) (AOr<|Ahp rfl rfl (Ah2 rfl (Ah1 Azh rfl (A3t (c:=Ar1) (a':=(A3.1,A3.2.1,A3.2.2.1,A3.2.2.2.1,(w64<|A3.2.2.2.2 + Ag))) AO9 rfl rfl rfl AOs (Aa.o p4) Ah Cz (λ_ q=>by cases q;rfl) λIe Ez Fa=>Ahh<|q_b<|q_t<|AOv ?_))));have A4:=Aa.uO p4 Fa Ez;refine Apd [(.int .i64 Ab.1),Ac,Ad] Ai8 rfl rfl (A4.b p2).agg (Ai5 [(.int .i64 Ab.1),Ac,Ad] Ai8 rfl rfl rfl rfl (Aic rfl (Aic (A4.o2 p3).isOne<|Aic (A4.o p4).isOne Aoo)) (A4.b p5) λIf Fb Fc=>AOz<|AO6 ?_);have A5:=A4.sb p5 Fc Fb rfl;obtain rfl:=AOu Ev;exact ⟨_,Ai1 Ai8 rfl rfl (A5.b p5),A5.x,_,_,_,_,rfl,(A1p<|A5.o2 p3),(A0p<|A5.o p4),A5.s.sel [3,4] AOs⟩
    ·refine AOv<|Aiy rfl rfl (AO1 ?_);have C0:=Ahy Cy B4;refine ⟨_,rfl,λB5=>?_,λB5=>?_⟩
     ·refine Ag6<|AOr<|Ah2 rfl (Ah1 Apf rfl ?_);obtain ⟨A6,C1,Fd⟩:=AOw<|Ahx C0 B5;obtain ⟨Ih,Fe,Ff⟩:=(Aa.o p4).cells Ah C1;obtain rfl:=Fe;refine Aht Aiw rfl (Ff 0 _ rfl) (AOr<|Ajh rfl rfl AOs (Ahp rfl rfl (Ah2 rfl (Ah1 Apf rfl (A3t (c:=Ar1) (a':=((w64<|A6.1 + (Int.tmod Ag 3)),A6.2.1,A6.2.2.1,A6.2.2.2.1,A6.2.2.2.2)) Aiw rfl rfl rfl AOs (Aa.o p4) Ah C1 (λ_ q=>by cases q;rfl) λIi Fg Fh=>Ahh<|q_b<|q_t<|AOv ?_)))));have A7:=Aa.uO p4 Fh Fg;refine Apd [(.int .i64 Ab.1),Ac,Ad] Ai8 rfl rfl (A7.b p2).agg (Ai5 [(.int .i64 Ab.1),Ac,Ad] Ai8 rfl rfl rfl rfl (Aic rfl (Aic (A7.o2 p3).isOne<|Aic (A7.o p4).isOne Aoo)) (A7.b p5) λIj Fi Fj=>AOz<|AO6 ?_);have A8:=A7.sb p5 Fj Fi rfl;obtain rfl:=AOu Fd;exact ⟨_,Ai1 Ai8 rfl rfl (A8.b p5),A8.x,_,_,_,_,rfl,(A1p<|A8.o2 p3),(A0p<|A8.o p4),A8.s.sel [3,4] AOs⟩
     ·refine AOv<|Aiy rfl rfl (AO1 ?_);have C2:=Ahy C0 B5;refine ⟨_,rfl,λB6=>?_,λB6=>?_⟩
      ·refine Ag6<|AOr<|AOr<|Asv Arp Ajp rfl (Ajh rfl rfl AOs (Asv Ajp Awq rfl (Ahp rfl rfl (Ah2 rfl (Ah1 A2u rfl ?_)))));obtain ⟨Br,Fk,Fl⟩:=AOw<|Ahx C2 B6;refine A3t (c:=Ar1) (a':=(Br.1,(w64<|1 + (w64<|Int.tmod (IntKind.wrap .u64 Ag) 3)),Br.2.2.1,Br.2.2.2.1,Br.2.2.2.2)) Aiw rfl rfl rfl AOs (Aa.o p4) Ah Fk (λ_ q=>by cases q;rfl) λIk Fm Fo=>Ahh<|q_b<|q_t<|AOv ?_;have A9:=Aa.uO p4 Fo Fm;refine Apd [(.int .i64 Ab.1),Ac,Ad] Ai8 rfl rfl (A9.b p2).agg (Ai5 [(.int .i64 Ab.1),Ac,Ad] Ai8 rfl rfl rfl rfl (Aic rfl (Aic (A9.o2 p3).isOne<|Aic (A9.o p4).isOne Aoo)) (A9.b p5) λIl Fp Fq=>AOz<|AO6 ?_);have Ba:=A9.sb p5 Fq Fp rfl;obtain rfl:=AOu Fl;exact ⟨_,Ai1 Ai8 rfl rfl (Ba.b p5),Ba.x,_,_,_,_,rfl,(A1p<|Ba.o2 p3),(A0p<|Ba.o p4),Ba.s.sel [3,4] AOs⟩
      ·refine AOv<|Aiy rfl rfl (AO1 ?_);have C3:=Ahy C2 B6;refine ⟨_,rfl,λB7=>?_,λB7=>?_⟩
       ·refine Ag6<|Ajl Anw At1 (Aa.b p2) 2 rfl ?_;obtain ⟨Fr,Ft⟩:=ifN<|Ahx C3 B7;refine BGy Asz rfl (Aa.o p4).rd (Aa.o p4).cap rfl Fr λB8 Fu C4=>Ah1 Anw rfl (Au6 [(.int .i64 Ab.1),Ac,B8] At1 rfl rfl C4.one (Aa.b p2) (Nat.le_of_ble_eq_true rfl) rfl λIm Fv Fw=>Ahh<|q_b<|q_t<|AOv ?_);have Bt:=Aa.sb p2 Fw Fv rfl;refine Apd [(.int .i64 Ab.1),Ac,B8] Ai8 rfl rfl (Bt.b p2).agg (Ai5 [(.int .i64 Ab.1),Ac,B8] Ai8 rfl rfl rfl rfl (Aic rfl (Aic (Bt.o2 p3).isOne<|Aic C4.one Aoo)) (Bt.b p5) λIo Fx Fy=>AOz<|AO6 ?_);have Bb:=Bt.sb p5 Fy Fx rfl;obtain rfl:=AOu Ft;exact ⟨_,Ai1 Ai8 rfl rfl (Bb.b p5),Bb.x,_,_,_,_,rfl,(A1p<|Bb.o2 p3),(BSm (Bb.o p4) Fu),Bb.s.sel [3,4] AOs⟩
       ·refine AOv<|Aiy rfl rfl (AO1 ?_);have C5:=Ahy C3 B7;refine ⟨_,rfl,λB9=>?_,λB9=>?_⟩
        ·refine Ag6<|Ajl Ape Aia (Aa.b p2) 1 rfl ?_;obtain ⟨Fz,F4⟩:=ifN<|Ahx C5 B9;refine BEf APa rfl (Aa.o2 p3).rd rfl Fz λCa F5 C6=>Ah1 Ape rfl (Au6 [(.int .i64 Ab.1),Ca,Ad] Aia rfl rfl C6.one (Aa.b p2) (Nat.le_of_ble_eq_true rfl) rfl λIp F6 F7=>Ahh<|q_b<|q_t<|AOv ?_);have Bu:=Aa.sb p2 F7 F6 rfl;refine Apd [(.int .i64 Ab.1),Ca,Ad] Ai8 rfl rfl (Bu.b p2).agg (Ai5 [(.int .i64 Ab.1),Ca,Ad] Ai8 rfl rfl rfl rfl (Aic rfl (Aic C6.one<|Aic (Bu.o p4).isOne Aoo)) (Bu.b p5) λIq F8 F9=>AOz<|AO6 ?_);have Bc:=Bu.sb p5 F9 F8 rfl;obtain rfl:=AOu F4;exact ⟨_,Ai1 Ai8 rfl rfl (Bc.b p5),Bc.x,_,_,_,_,rfl,(BSl (Bc.o2 p3) F5),(A0p<|Bc.o p4),Bc.s.sel [3,4] AOs⟩
        ·refine AOv<|Aiy rfl rfl (AO1 ?_);have C7:=Ahy C5 B9;refine ⟨_,rfl,λCb=>?_,λCb=>?_⟩
         ·refine Ana<|Ajl Ape Aia (Aa.b p2) 1 rfl (AOr<|AOr<|Aio APd rfl ((Aa.o2 p3).rowI Ai Aj) (Aub rfl rfl AOs ?_));obtain ⟨Ga,Gb⟩:=ifN<|Ahx C7 Cb;refine BMn APd rfl ((Aa.o2 p3).rowI Ai Aj) ((Aa.o2 p3).rowCap Ai Aj) rfl Ga λIr Gc Gd=>?_;obtain ⟨Is,C8,Ge⟩:=AOw Gb;refine Aii APa rfl (Aa.o2 p3) rfl C8 λIt Iu Gf Iv Iw=>BSn (m:=(Int.tmod (w64 Ak) (Ab.2.1.length:Int))) Ahb (Aa.o2 p3) C8 Gf rfl rfl Ai Aj Gc Gd.one λIx Gg Gh=>Ahh<|q_b<|q_t<|AOv ?_;have Be:=Aa.us2 p3 Gh Gg;refine Apd [(.int .i64 Ab.1),Ac,Ad] Ai8 rfl rfl (Be.b p2).agg (Ai5 [(.int .i64 Ab.1),Ac,Ad] Ai8 rfl rfl rfl rfl (Aic rfl (Aic ((Be.s2 p3)).isOne<|Aic (Be.o p4).isOne Aoo)) (Be.b p5) λIy Gi Gj=>AOz<|AO6 ?_);have Bf:=Be.sb p5 Gj Gi rfl;obtain rfl:=AOu Ge;exact ⟨_,Ai1 Ai8 rfl rfl (Bf.b p5),Bf.x,_,_,_,_,rfl,(Bf.s2P p3),(A0p<|Bf.o p4),Bf.s.sel [3,4] AOs⟩
         ·refine AOv<|Aiy rfl rfl (AO1 ?_);have C9:=Ahy C7 Cb;refine ⟨_,rfl,λCd=>?_,λCd=>?_⟩
          ·refine Ag6<|Ajl Aqn AO9 (Aa.b p2) 0 rfl (AOr<|Ajh rfl rfl AOs (Ahp rfl rfl (Ah1 Aqn rfl (Au6 [(.int .i64<|w64<|Ab.1 + (Int.tmod Ag 4)),Ac,Ad] AO9 rfl rfl rfl (Aa.b p2) (Nat.le_of_ble_eq_true rfl) rfl λIz Gk Gl=>Ahh<|q_b<|q_t<|AOv ?_))));have Bg:=Aa.sb p2 Gl Gk rfl;refine Apd [(.int .i64<|w64<|Ab.1 + (Int.tmod Ag 4)),Ac,Ad] Ai8 rfl rfl (Bg.b p2).agg (Ai5 [(.int .i64<|w64<|Ab.1 + (Int.tmod Ag 4)),Ac,Ad] Ai8 rfl rfl rfl rfl (Aic rfl (Aic (Bg.o2 p3).isOne<|Aic (Bg.o p4).isOne Aoo)) (Bg.b p5) λI0 Gm Gn=>AOz<|AO6 ?_);have Bh:=Bg.sb p5 Gn Gm rfl;obtain rfl:=AOu<|Ahx C9 Cd;exact ⟨_,Ai1 Ai8 rfl rfl (Bh.b p5),Bh.x,_,_,_,_,rfl,(A1p<|Bh.o2 p3),(A0p<|Bh.o p4),Bh.s.sel [3,4] AOs⟩
          ·refine AO4<|q_b<|q_t<|AOv<|Apd [(.int .i64 Ab.1),Ac,Ad] Ai8 rfl rfl (Aa.b p2).agg (Ai5 [(.int .i64 Ab.1),Ac,Ad] Ai8 rfl rfl rfl rfl (Aic rfl (Aic (Aa.o2 p3).isOne<|Aic (Aa.o p4).isOne Aoo)) (Aa.b p5) λI1 Gp Gq=>AOz<|AO6 ?_);have Bi:=Aa.sb p5 Gq Gp rfl;obtain rfl:=AOu<|Ahy C9 Cd;exact ⟨_,Ai1 Ai8 rfl rfl (Bi.b p5),Bi.x,_,_,_,_,rfl,(A1p<|Bi.o2 p3),(A0p<|Bi.o p4),Bi.s.sel [3,4] AOs⟩
noncomputable def Amn (fuel:Nat) (a1 a2:Int) (a5 a9:LiA) (Ah Ai Aj Ak:Int):Option Bool:=
 (Alu fuel a1 a2 a5 a9 5).bind λAb=>(Am8 fuel Ah).bind λAm=>(Ak5 fuel Ab Am).bind λAc=>(Al9 fuel Ac.1 Ac.2.1 Ac.2.2 Ai Aj<|Int.tmod Ak 100).bind λAa=>(Apr fuel Ab Aa.1 Aa.2.1 Aa.2.2).bind λAo=>(Aog fuel Ab Aa.1 Aa.2.1 Aa.2.2).bind λAp=>if Ao=Ap then (Aow fuel).bind λAq=>some Aq else some false
theorem Avz {a2:Int} {Ae:Value} {a5:LiA} {Af:Value} {a9:LiA} {Av Aw Ax Ay:Int} {r:Bool} (H4:SlC (cI .i8) h Ae a5) (H8:SlC (cI .i8) h Af a9) (HO:A26 h) (hp:Amn fuel a1 a2 a5 a9 Av Aw Ax Ay=some r):Ahq Tryz.prog 4 #[(.agg #[(.int .u8 a1),(.int .u8 a2),Ae,Af]),(.int .u8 Av),(.int .u8 Aw),(.int .u8 Ax),(.int .i64 Ay)] h (λx h'=>Ext h h'/\x= .bool r):=by
 unfold Amn at hp;refine cwf (l:=[_,_,_,_,_]) Tryz.func4 rfl rfl (AOv<|Ao1 (Kst.k0 h) [(.int .u8 a1),(.int .u8 a2),Ae,Af] λCi Cj Ck Ag=>Ah4<|Apd [(.int .u8 a1),(.int .u8 a2),Ae,Af] BKd rfl rfl (Ag.b p0).agg ?_);obtain ⟨Cm,Ba,Bb⟩:=AOw hp;refine Aus Ag (Aww (H4.ext Ag.x) (H8.ext Ag.x) Ba) λCn Co Cp v30 Cq Cr Bc=>Ah4<|AOr<|AOr ?_;obtain ⟨Ct,Be,Bf⟩:=AOw Bb;refine Aj5 Bc (Ax5 Be) λCu Cv Az=>?_;obtain ⟨A3,Bg,Bh⟩:=AOw Bf;refine Aqy rfl (Axv (Az.o2 p0).rd Bg) λCw Cx Bi Bj=>?_;obtain ⟨Bl,Bm,Bn,Bo,Bp,Bq,rfl,Br,Bt,Bu⟩:=Bj;have Ah:=Az.n Bi [aO2 (cI .i64) 61 2 Bn Bo Bp Bl A3.2.1,aO Ar1 60 Bq Bm A3.2.2] Bu ⟨Br,Bt,trivial⟩;simp only [List.cons_append,List.nil_append] at Ah;refine AOr<|AOr<|AOr<|Ajh rfl rfl AOs ?_;obtain ⟨Ab,Bv,Bw⟩:=AOw Bh;refine Aqy rfl (Axf (Ah.o2 p0).rd (Ah.o p1).rd Bv) λCy Cz Bx By=>?_;obtain ⟨Ai,Aj,Bz,B1,rfl,B3,B4,B5⟩:=By;have A4:=Ah.n Bx [aS2 (cI .i64) Bz Ai Ab.2.1,aS1 Ar1 B1 Aj Ab.2.2] B5 ⟨B3,B4,trivial⟩;simp only [List.cons_append,List.nil_append] at A4;refine Aj3 A4 [(.int .i64 0),(.slice none 0 0),(.slice none 0 0)] A2c λC0 C1 C2 Ak=>Ai5 [(.int .i64 Ab.1),Ai,Aj] Ai8 rfl rfl rfl rfl (Aic rfl (Aic ((Ak.s2 p1)).isOne<|Aic ((Ak.s1 p2)).isOne Aoo)) (Ak.b p0) λAp B6 B7=>AOz<|AOx<|Aiz (λh'=>UpT [] Ap h') AO5 ?_;have Aa:=Ak.sb p0 B7 B6 rfl;have A5:UpT [] Ap Ap:=UpT.start all_nil;refine AOr<|Ao4 [(.int .i64 Ab.1),Ai,Aj] Ai8 rfl rfl A5 (λh' hb=>((Aa.b p0).ext hb.ext).agg) ?_;obtain ⟨B8,B9,Ca⟩:=AOw Bw;refine A1m Aa A5 (Ayx (Aa.o2 p5).rd (Aa.s2 p1) (Aa.s1 p2) (HO.ext Aa.x) B9) λC3 C4 Am A6=>AOr<|Ao4 [(.int .i64 Ab.1),Ai,Aj] Ai8 rfl rfl A6 (λh' hb=>((Aa.b p0).ext hb.ext).agg) ?_;obtain ⟨Cb,Cd,A7⟩:=AOw Ca;refine A1m Am A6 (Aza (Am.o2 p5).rd (Am.s2 p1) (Am.s1 p2) Cd) λC5 C6 Aq Ce=>Aiy rfl rfl (AOr ?_);by_cases Ao:B8=Cb
 ·rw [decide_eq_true Ao];refine Ag8 31 true ?_;obtain ⟨C7,Cf,Cg⟩:=AOw<|ifT A7 Ao;refine A1m Aq Ce (Azy (HO.ext Aq.x) Cf) λC8 C9 Ch Da=>Ag7 rfl (AO1<|AO6 ?_);obtain rfl:=AOu Cg;exact ⟨_,AO7,Ch.x,rfl⟩
 ·rw [decide_eq_false Ao];refine A5z 31 false<|APb rfl (AO1<|AO6 ?_);obtain rfl:=AOu<|ifF A7 Ao;exact ⟨_,AO7,Aq.x,rfl⟩
end Go.Proofs.YtkakafabeobahaaGreatDoor
namespace Go.Proofs.YtkakafabeobahaaGreatDoor
open Go Go.QF
set_option maxRecDepth 100000
theorem BOj {T:List (List Int)} {L:List Alq} (hT:T.length<=8) (hr:∀ z∈T,z.length<=8) (hL:L.length<=8) (hf:100 < fuel):Apb fuel p T L=some (p,T,L):=by
 apply ok_eq;unfold Apb;refine Ah8 AOq<|AOy (Q:=(· =T)) (Ah3 (λi s=>s=((i:Int),T.take i)/\i<=T.length) T.length ⟨rfl,Nat.zero_le _⟩ AOq λi s hi hI=>?_) λe he=>AOt (by rw [he]);obtain ⟨rfl,hin⟩:=hI;unfold Asu;dsimp only;refine Aha (λh=>?_) λh=>AOt (by rw [show i=T.length by omega,List.take_length]);have hi:i < T.length:=by omega
 have hg:=List.getElem?_eq_getElem hi;have:=hr _<|List.getElem_mem hi;rw [Amr hg,if_pos AOq,if_pos (by rw [List.length_take];omega),Ah6 AOq];exact AOt ⟨hi,by rw [List.take_add_one,hg];rfl,hi⟩
theorem BRh (l:List α) (i:Int) (x:α):(sI l i x).length=l.length:=by unfold sI;rw [List.length_set]
theorem BRi {fl n:Int} {T:List (List Int)} {L:List Alq} (hT:T.length<=8) (hr:∀ z∈T,z.length<=8) (hL:L.length<=8) (ha:0<=a/\a < 256) (hf:100 < fuel):Ok (Al9 fuel p T L a fl n) λr=>r.2.2.length<=8:=by
 unfold Al9;rw [BOj hT hr hL hf];simp only [Option.bind_some];refine AOy (Q:=λex=>ex= .inl (p,T,L)∨(∃ e,ex= .inr e)/\0 < T.length/\0 < L.length) (Aha (λ_=>AOt<|.inl rfl) λh=>Aha (λ_=>AOt<|.inl rfl) λh2=>AOt<|.inr ⟨⟨_,rfl⟩,AOq,AOq⟩) λex hex=>?_;rcases hex with rfl | ⟨⟨⟨x,y,z⟩,rfl⟩,h1,h2⟩
 ·exact AOt hL
 dsimp only
 have ix:∀ (b:Int) (m:Nat),0<=b->0 < m-> ∃ k:Nat,Int.tmod b (m:Int)=k/\k < m:=λb m h0 hm=>by
  have h3:=Int.emod_nonneg b (show (m:Int)≠0 by omega)
  have h4:=Int.emod_lt_of_pos b (show (0:Int) < m by omega)
  rw [Int.tmod_eq_emod_of_nonneg h0]
  exact ⟨(b % m).toNat,AOq,AOq⟩
 have hw:w64 a=a:=wk AOq;rw [hw];obtain ⟨k,hk,hkl⟩:=ix a L.length ha.1 h2;obtain ⟨q,hq,hql⟩:=ix a T.length ha.1 h1;have gL:=List.getElem?_eq_getElem hkl;have gT:=List.getElem?_eq_getElem hql;have hrow:=hr _<|List.getElem_mem hql;have len:∀ {b:Alq},(sI L (Int.tmod a L.length) b).length<=8:=λ{b} =>by rw [BRh];exact hL
 refine Ah8 AOq<|Ahj gL hk<|Ah8 AOq<|Ahj gT hq<|AOy (Q:=λ_=>True) (Aha (λ_=>AOt trivial) λ_=>AOt trivial) λe _=>Aha (λ_=>Aha (λh3=>?_) λ_=>AOt hL) λ_=>Aha (λ_=>Ahj gL hk<|AOt len) λ_=>Aha (λ_=>Ahj gL hk<|AOt len) λ_=>Aha (λ_=>Ahj gL hk<|AOt len) λ_=>Aha (λ_=>Ahj gL hk<|AOt len) λ_=>Aha (λ_=>Ahj gL hk<|AOt len) λ_=>Aha (λ_=>Ah8 AOq<|AOt (by dsimp only;rw [List.length_drop];omega)) λ_=>Aha (λ_=>Ah8 AOq<|AOt hL) λ_=>Aha (λ_=>?_) λ_=>Aha (λ_=>AOt hL) λ_=>AOt hL
 ·have h5:0<=w64 (IntKind.wrap .u8<|Int.tdiv a 8):=by
   have h6:IntKind.wrap .u8 (Int.tdiv a 8)=Int.tdiv a 8 % 256:=IntKind.wrap_u8 _
   have h7:=Int.emod_nonneg (Int.tdiv a 8) (show (256:Int)≠0 by decide)
   have h8:=Int.emod_lt_of_pos (Int.tdiv a 8) (show (0:Int) < 256 by decide)
   rw [h6,wk AOq];omega
  obtain ⟨s,hs,hsl⟩:=ix _ T[q].length h5 AOq;exact Ah8 AOq<|Ahj gT hq<|Ahj (List.getElem?_eq_getElem hsl) hs<|AOt hL
 ·have h5:Int.tdiv (T[q].length:Int) 2=((T[q].length / 2:Nat):Int):=by rw [Int.tdiv_eq_ediv_of_nonneg AOq];omega
  rw [h5,wk AOq];exact Ah8 AOq<|Ahj (n:=0) (List.getElem?_eq_getElem h1) rfl (AOt hL)
theorem BRj {M:List (List Int)} (R:A5s M) (hp:Pr p) (Aa:p<=9973) (hf:2147483648 < fuel):Ok (Ak5 fuel M p) λr=>r.2.1.length<=8/\(∀ z∈r.2.1,z.length<=8)/\r.2.2.length<=8:=by
 have h8:=R.1.2;refine A6l (BRc R hp Aa hf) λr hr=>?_;obtain ⟨-,⟨m,-,h1,h2⟩,h3⟩:=hr;exact ⟨AOq,λz hz=>by have:=(h2 z hz).1;omega,AOq⟩
theorem A3b {g kd k fl n:Int} {Z Y:List Int} (hg:0<=g/\g < 256) (hk:0<=k/\k < 256) (ha:0<=a/\a < 256):Amn (Alf + 1) g kd Z Y k a fl n=some true:=by
 have hf:Alf < Alf + 1:=Nat.lt_succ_self _;have Ab:100 < Alf + 1:=Nat.lt_of_le_of_lt AOs hf;have Aa:2147483648 < Alf + 1:=Nat.lt_of_le_of_lt AOs hf;apply ok_eq;unfold Amn;refine AOy (BQu hg AOs hf) λM hM=>AOy (BEe hk) λp hp=>?_;obtain ⟨m,A,rfl,h1,h2,RF,-⟩:=hM;have R:=BNs h1 AOq RF;have hfit:=BK7 (by omega:m<=8) RF;refine AOy (BRj R hp.1 AOq Aa) λj hj=>AOy (BRi hj.1 hj.2.1 hj.2.2 ha Ab) λb _=>?_;obtain ⟨r,e1,e2⟩:=BHs (fuel:=Alf + 1) (M:=tab m m A) (p:=b.1) (T:=b.2.1) (L:=b.2.2) hfit Aa;rw [e1];simp only [Option.bind_some];rw [e2];simp only [Option.bind_some];rw [if_pos trivial,BAw];exact AOt rfl
end Go.Proofs.YtkakafabeobahaaGreatDoor
