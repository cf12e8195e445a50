/-
  Texts of a proof, joined. Conditions stand in each statement.
-/
import Derived.Lib.SmallJoins
import Derived.Test.YtegoafpaljeobaaGreatDoorMJordanInvariant4
set_option linter.unusedVariables false
set_option linter.unusedSimpArgs false
set_option maxRecDepth 100000
set_option maxHeartbeats 40000000
open Go Go.QF
variable {a3:Go.Proofs.YtegoafpaljeobaaGreatDoor.LiI} {h:Go.QF.AH8} {A T A0 G F H G':Go.QF.AIe} {p v x y d a1 Ac a2 a5 q:Int} {M:List (List Int)} {a i k K j r l E s fuel N q0:Nat} {g:Nat->Int} {S:Type} {Ao:Value}
namespace Go.QF
def PrI (p:Int):Prop:=2<=p/\ ∀ x y:Int,p ∣ x * y->p ∣ x∨p ∣ y
theorem PrI.ne (hp:PrI p):p≠0:=by have:=hp.1;omega
theorem PrI.cancel {u:Int} (hp:PrI p) (hu: ¬ p ∣ u):∀ (m:Nat) {x:Int},p ^ m ∣ u * x->p ^ m ∣ x:=by
 intro m
 induction m with
 | zero=>grind
 | succ m ih=>
   intro x h
   have h1:p ∣ u * x:=Int.dvd_trans ⟨p ^ m,by grind⟩ h
   rcases hp.2 _ _ h1 with h2 | h2
   ·grind
   ·obtain ⟨y,rfl⟩:=h2
    obtain ⟨z,hz⟩:=h
    have h3:p * (u * y)=p * (p ^ m * z):=by grind
    obtain ⟨w,hw⟩:=ih ⟨z,Int.eq_of_mul_eq_mul_left hp.ne h3⟩
    exact ⟨w,by grind⟩
theorem PrI.ndvd_mul {u:Int} (hp:PrI p) (hu: ¬ p ∣ u) (hv: ¬ p ∣ v): ¬ p ∣ u * v:=λh=>(hp.2 _ _ h).elim hu hv
theorem PrI.ndvd_pow {p u:Int} (hp:PrI p) (hu: ¬ p ∣ u):∀ m:Nat,¬ p ∣ u ^ m
 | 0=>λh=>by
   have h1:=hp.1
   obtain ⟨k,hk⟩:=h
   simp only [Int.pow_zero] at hk
   have h2:k≠0:=by grind
   have:0 < k∨k < 0:=by omega
   rcases this with h | h
   ·have:=Int.mul_le_mul_of_nonneg_right h1 (show 0<=k by omega);omega
   ·have:=Int.mul_neg_of_pos_of_neg (show 0 < p by omega) h;omega
 | m + 1=>by rw [Int.pow_succ];exact hp.ndvd_mul (hp.ndvd_pow hu m) hu
theorem AKv {b:Nat} (h:a<=b):p ^ a ∣ p ^ b:=⟨p ^ (b - a),by rw [<- Int.pow_add];congr 1;omega⟩
theorem Ajg {m:Int} (h:Eqm m x y) (hd:d ∣ m) (hy:d ∣ y):d ∣ x:=by
 have h1:m ∣ x - y:=Int.dvd_of_emod_eq_zero<|Int.emod_eq_emod_iff_emod_sub_eq_zero.1 h;have h2:=Int.dvd_add (Int.dvd_trans hd h1) hy;grind
theorem Ac8 {m:Int} (h:m ∣ x - y):Eqm m x y:=Int.emod_eq_emod_iff_emod_sub_eq_zero.2<|Int.emod_eq_zero_of_dvd h
theorem AVm {m:Int} (h:Eqm m x y):m ∣ x - y:=Int.dvd_of_emod_eq_zero<|Int.emod_eq_emod_iff_emod_sub_eq_zero.1 h
theorem Eqm.down {m:Int} (h:Eqm m x y) (hd:d ∣ m):Eqm d x y:=Ac8<|Int.dvd_trans hd<|AVm h
theorem AXf {m:Int}:Eqm m x 0↔m ∣ x:=⟨λh=>by simpa using AVm h,λh=>Ac8<|by simpa using h⟩
theorem Aky {d:Int} {f:Nat->Int}:∀ {n:Nat},(∀ i,i < n->d ∣ f i)->d ∣ psum f n
 | 0,_=>⟨0,by simp [psum]⟩
 | n + 1,h=>by simp only [psum];exact Int.dvd_add (Aky λi hi=>h i AHx)<|h n AHx
theorem Ar1 {n:Nat} {S:AIe} (hi:i < n) (hz:∀ r c,r<=i->i<=c->c < n->p ∣ S r c):p ∣ det n S:=by
 let Z:AIe:=λr c=>if r<=i/\i<=c then 0 else S r c
 have h1:Eqm p (det n S) (det n Z):=Agx λr c hr hc=>by
  show Eqm p (S r c) (if r<=i/\i<=c then 0 else S r c)
  split
  ·next h=>exact AXf.2<|hz r c h.1 h.2 hc
  ·exact Eqm.refl _ _
 obtain ⟨m,rfl⟩:∃ m,n=i + 1 + m:=⟨n - i - 1,AHx⟩
 have h2:det (i + 1 + m) Z=0:=by
  rw [<- ARh,AZo (T:=trF Z) λa b ha _ hb=>?_]
  ·rw [AXa (n:=i + 1) (r:=i) AHx λq hq=>?_,Int.zero_mul];show (if q<=i/\i<=i then (0:Int) else _)=0;omega
  ·show (if b<=i/\i<=a then (0:Int) else _)=0;omega
 rw [h2] at h1;exact AXf.1 h1
theorem At1 {n:Nat} {S:AIe} (hk:k<=n) (hz:∀ r c,r < k->k<=c->c < n->p ∣ S r c):Eqm p (det n S) (det k S * det (n - k) (shF k S)):=by
 let Z:AIe:=λr c=>if r < k/\k<=c then 0 else S r c
 have h1:Eqm p (det n S) (det n Z):=Agx λr c hr hc=>by
  show Eqm p (S r c) (if r < k/\k<=c then 0 else S r c)
  split
  ·next h=>exact AXf.2<|hz r c h.1 h.2 hc
  ·exact Eqm.refl _ _
 obtain ⟨m,rfl⟩:∃ m,n=k + m:=⟨n - k,AHx⟩;refine h1.trans<|Eqm.of_eq ?_
 rw [<- ARh,AZo (T:=trF Z) λa b ha _ hb=>?_,show k + m - k=m by omega]
 ·congr 1
  ·rw [<- ARh S];refine AJm λa b ha hb=>?_;show (if b < k/\k<=a then (0:Int) else _)=_;rw [if_neg AHx];rfl
  ·rw [<- ARh (shF k S)];refine AJm λa b ha hb=>?_;show (if k + b < k/\k<=k + a then (0:Int) else _)=_;rw [if_neg AHx];rfl
 ·show (if b < k/\k<=a then (0:Int) else _)=0;omega
structure Jd (n K:Nat) (p:Int) (e:Nat->Nat) (a D:AIe):Prop where
 asc:∀ i j,i<=j->j < n->e i<=e j
 lt:∀ i,i < n->e i < K
 ent:∀ i j,i < n->j < n->Eqm (p ^ K) (D i j) (p ^ e i * a i j)
 blk:∀ i j,i < n->j < n->e i≠e j->a i j=0
 sym:∀ i j,i < n->j < n->a i j=a j i
 inv:∃ (c:AIe) (u:Nat->Int),(∀ i k,i < n->k < n->e i≠e k->c i k=0)/\(∀ i,i < n->¬ p ∣ u i)/\ ∀ i j,i < n->j < n->psum (λk=>c i k * a k j) n=u i * dl i j
def Car (n K:Nat) (p:Int) (D S D':AIe):Prop:= ∀ i j,i < n->j < n->Eqm (p ^ K) (AJv n (trF S) (AJv n D S) i j) (D' i j)
theorem AWc (c:Int) (f:Nat->Int) (n:Nat):c * psum f n=psum (λi=>c * f i) n:=(ALz c f n).symm
theorem Af4 (c:Int) (f:Nat->Int) (n:Nat):psum f n * c=psum (λi=>f i * c) n:=by
 rw [Int.mul_comm,AWc];grind
theorem At2 {n:Nat} {D S D':AIe} (H:Car n K p D S D') (hi:i < n) (hj:j < n):Eqm (p ^ K) (det n S * AJv n D S i j) (psum (λk=>ARj n S k i * D' k j) n):=by
 have h1:Eqm (p ^ K) (psum (λk=>ARj n S k i * AJv n (trF S) (AJv n D S) k j) n) (psum (λk=>ARj n S k i * D' k j) n):=Eqm.psum λk hk=>(Eqm.refl _ _).mul (H k j hk hj);refine Eqm.trans (Eqm.of_eq ?_) h1
 have h2:psum (λk=>ARj n S k i * AJv n (trF S) (AJv n D S) k j) n=psum (λl=>psum (λk=>S l k * ARj n S k i) n * AJv n D S l j) n:=by
  rw [AIl (f:=λk=>ARj n S k i * AJv n (trF S) (AJv n D S) k j) (g:=λk=>psum (λl=>ARj n S k i * (S l k * AJv n D S l j)) n) λk _=>AWc _ _ _,AZm]
  exact AIl λl _=>by
   rw [Af4];grind
 rw [h2,AIl (g:=λl=>AJv n D S l j * (det n S * dl i l)) λl hl=>by rw [Ab3 hl hi,Int.mul_comm];unfold dl;grind];rw [ASc hi λl hl hne=>by unfold dl;grind];unfold dl;grind
theorem Azg {n:Nat} {e:Nat->Nat} {a D S:AIe} (J:Jd n K p e a D) (hi:i < n):Eqm (p ^ K) (AJv n D S i j) (p ^ e i * AJv n a S i j):=by
 unfold AJv;rw [AWc];exact Eqm.psum λk hk=>((J.ent i k hi hk).mul (Eqm.refl _ _)).trans (Eqm.of_eq<|by grind)
theorem A5m {n:Nat} {f:Nat->Nat} {b D' R:AIe} (J:Jd n K p f b D') (hj:j < n):Eqm (p ^ K) (psum (λk=>R k i * D' k j) n) (p ^ f j * psum (λk=>R k i * b k j) n):=by
 rw [AWc];refine Eqm.psum λk hk=>?_;by_cases h:f k=f j
 ·exact ((Eqm.refl _ _).mul (J.ent k j hk hj)).trans (Eqm.of_eq (by rw [h];grind))
 ·exact ((Eqm.refl _ _).mul (J.ent k j hk hj)).trans (Eqm.of_eq (by rw [J.blk k j hk hj h];simp))
section
variable {n K:Nat} {p:Int} {e f:Nat->Nat} {a b D D' S:AIe}
theorem A5n (J:Jd n K p e a D) (J':Jd n K p f b D') (H:Car n K p D S D') (hi:i < n) (hj:j < n):
 Eqm (p ^ K) (p ^ e i * (det n S * AJv n a S i j)) (p ^ f j * psum (λk=>ARj n S k i * b k j) n):=by
 refine Eqm.trans (Eqm.of_eq ?_)<|(Eqm.trans ((Eqm.refl _<|det n S).mul (Azg J (S:=S) (j:=j) hi).symm)<|At2 H hi hj).trans (A5m J' hj);grind
theorem Aa8 (hp:PrI p) (m:Nat):p ^ m≠0:=Int.pow_ne_zero hp.ne
theorem Af5 (p:Int) {a b:Nat} (h:a<=b):p ^ b=p ^ a * p ^ (b - a):=by rw [<- Int.pow_add];congr 1;omega
theorem Ajh (hp:PrI p) (hS: ¬ p ∣ det n S) (J:Jd n K p e a D) (J':Jd n K p f b D') (H:Car n K p D S D') (hi:i < n) (hj:j < n) (hlt:e i < f j):p ^ (f j - e i) ∣ S i j:=by
 have hX:∀ k,k < n->e k=e i->p ^ (f j - e i) ∣ AJv n a S k j:=λk hk hek=>by
  have h1:=A5n J J' H hk hj;rw [hek] at h1;have h2:p ^ f j ∣ p ^ e i * (det n S * AJv n a S k j):=Ajg h1 (AKv<|Nat.le_of_lt<|J'.lt j hj) ⟨_,rfl⟩;rw [Af5 p<|Nat.le_of_lt hlt] at h2;obtain ⟨z,hz⟩:=h2;rw [Int.mul_assoc] at hz;exact hp.cancel hS _ ⟨z,Int.eq_of_mul_eq_mul_left (Aa8 hp _) hz⟩
 obtain ⟨c,u,hc,hu,hca⟩:=J.inv;refine hp.cancel (hu i hi) _ ?_
 have h3:u i * S i j=psum (λk=>c i k * AJv n a S k j) n:=by
  unfold AJv
  rw [AIl (g:=λk=>psum (λl=>c i k * (a k l * S l j)) n) λk _=>AWc _ _ _,AZm,
   AIl (g:=λl=>S l j * (u i * dl i l)) λl hl=>by
    rw [<- hca i l hi hl,AWc];grind]
  rw [ASc hi λl hl hne=>by unfold dl;grind];unfold dl;grind
 rw [h3];refine Aky λk hk=>?_
 by_cases h:e i=e k
 ·exact Int.dvd_trans (hX k hk h.symm) ⟨c i k,Int.mul_comm _ _⟩
 simp_all
theorem Azh (hp:PrI p) (hS: ¬ p ∣ det n S) (J:Jd n K p e a D) (J':Jd n K p f b D') (H:Car n K p D S D') (hi:i < n):f i<=e i:=by
 rcases Nat.lt_or_ge (e i) (f i) with hlt | h
 ·exfalso;refine hS<|Ar1 hi λr c hr hc hcn=>?_;have h1:=J.asc r i hr hi;have h2:=J'.asc i c hc hcn;have h3:=Ajh hp hS J J' H (i:=r) (j:=c) AHx hcn AHx;exact Int.dvd_trans ⟨p ^ (f c - e r - 1),by rw [<- Int.pow_succ'];congr 1;omega⟩ h3
 ·exact h
theorem Ap3:det n (ARj n S) * det n S=det n S ^ n:=by
 rw [<- ARo,AJm (F:=AJv n (ARj n S) S) (G:=λi j=>det n S * dl i j) λi j hi hj=>Apr hi hj]
 have:∀ (m:Nat) (d:Int),ANq (λ_=>d) m=d ^ m:=λm d=>by
  induction m with
  | zero=>simp [ANq]
  | succ m ih=>simp only [ANq];grind
 rw [Abz (F:=λi j=>det n S * dl i j) (λc i hc hci hi=>by show det n S * dl i c=0;unfold dl;grind),<- this];exact AYh λi hi=>by unfold dl;grind
theorem Ap4 (hp:PrI p) (hS: ¬ p ∣ det n S): ¬ p ∣ det n (ARj n S):=λh=>hp.ndvd_pow hS n<|Ap3 (S:=S) ▸ Int.dvd_trans h ⟨_,rfl⟩
theorem Azi (hp:PrI p) (hd: ¬ p ∣ d) (J:Jd n K p e a D):Jd n K p e (λi j=>d * a i j) (λi j=>d * D i j):=by
 refine ⟨J.asc,J.lt,λi j hi hj=>((Eqm.refl _ d).mul (J.ent i j hi hj)).trans (Eqm.of_eq<|by grind),λi j hi hj h=>by rw [J.blk i j hi hj h,Int.mul_zero],λi j hi hj=>by rw [J.sym i j hi hj],?_⟩;obtain ⟨c,u,h1,h2,h3⟩:=J.inv;refine ⟨c,λi=>d * u i,h1,λi hi=>hp.ndvd_mul hd<|h2 i hi,λi j hi hj=>?_⟩;rw [AIl (g:=λk=>d * (c i k * a k j)) λk _=>by grind,ALz,h3 i j hi hj,Int.mul_assoc]
theorem AMs {B C:AIe} (i j:Nat):AJv n (AJv n A B) C i j=AJv n A (AJv n B C) i j:=by
 unfold AJv;rw [AIl (g:=λk=>psum (λl=>A i l * B l k * C k j) n) λk _=>Af4 _ _ _,AZm]
 exact AIl λl _=>by
  rw [AWc]
  grind
theorem Ap5 (H:Car n K p D S D'):Car n K p D' (ARj n S) λi j=>det n S * det n S * D i j:=λi j hi hj=>by
 have h1:Eqm (p ^ K) (AJv n (trF<|ARj n S) (AJv n D'<|ARj n S) i j) (AJv n (λr c=>det n S * AJv n D S r c) (ARj n S) i j):=by
  rw [<- AMs];unfold AJv;exact Eqm.psum λk hk=>((At2 H hi hk).symm).mul (Eqm.refl _ _)
 refine h1.trans<|Eqm.of_eq ?_
 have h2:AJv n (λr c=>det n S * AJv n D S r c) (ARj n S) i j=det n S * AJv n (AJv n D S) (ARj n S) i j:=by
  unfold AJv;rw [AWc];grind
 rw [h2,AMs]
 have h3:AJv n D (AJv n S<|ARj n S) i j=det n S * D i j:=by
  show psum (λk=>D i k * AJv n S (ARj n S) k j) n=_;rw [AIl (g:=λk=>D i k * (det n S * dl k j)) λk hk=>by rw [show AJv n S (ARj n S) k j=_ from Ab3 hk hj]];rw [ASc hj λl hl hne=>by unfold dl;grind];unfold dl;grind
 rw [h3];grind
theorem Aji (hp:PrI p) (hS: ¬ p ∣ det n S) (J:Jd n K p e a D) (J':Jd n K p f b D') (H:Car n K p D S D') (hi:i < n):e i=f i:=by
 have h1:=Azh hp hS J J' H hi;have h2:=Azh hp (Ap4 hp hS) J' (Azi hp (hp.ndvd_mul hS hS) J) (Ap5 H) hi;omega
theorem Ain {n m:Nat} (h:k + m<=n) (hz:∀ i,i < n->(i < k∨k + m<=i)->g i=0):psum g n=psum (λr=>g<|k + r) m:=by
 obtain ⟨t,rfl⟩:∃ t,n=k + m + t:=⟨n - (k + m),AHx⟩;have h1:∀ t,k + m + t<=k + m + t->True:=λ_ _=>trivial
 have split:∀ (x y:Nat),psum g (x + y)=psum g x + psum (λr=>g<|x + r) y:=by
  intro x y;induction y with
  | zero=>simp [psum]
  | succ y ih=>rw [<- Nat.add_assoc];simp only [psum];rw [ih];omega
 rw [split,split,AIl (g:=λ_=>0) (n:=k) λi hi=>hz i AHx<|.inl hi,AM0,
  AIl (f:=λr=>g<|k + m + r) (g:=λ_=>0) (n:=t) λi hi=>hz _ AHx<|.inr AHx,AM0]
 omega
def Cut (n:Nat) (e:Nat->Nat) (k:Nat):Prop:=k<=n/\ ∀ r c,r < k->k<=c->c < n->e r < e c
theorem At3 (hp:PrI p) (hS: ¬ p ∣ det n S) (J:Jd n K p e a D) (J':Jd n K p f b D') (H:Car n K p D S D') (C:Cut n e k) {c:Nat} (hr:r < k) (hc:k<=c) (hcn:c < n):p ∣ S r c:=by
 have h1:=C.2 r c hr hc hcn;rw [Aji hp hS J J' H hcn] at h1;have h3:=Ajh hp hS J J' H (i:=r) (j:=c) AHx hcn h1;exact Int.dvd_trans ⟨p ^ (f c - e r - 1),by rw [<- Int.pow_succ'];congr 1;omega⟩ h3
theorem Ar2 (hp:PrI p) (hS: ¬ p ∣ det n S) (J:Jd n K p e a D) (J':Jd n K p f b D') (H:Car n K p D S D') {m:Nat} (C:Cut n e k) (C':Cut n e (k + m)): ¬ p ∣ det m (shF k S):=λh=>by
 have h1:=At1 (S:=S) C.1 λr c hr hc hcn=>At3 hp hS J J' H C hr hc hcn;have h2:=At1 (n:=n - k) (k:=m) (S:=shF k S) (p:=p) (by have:=C'.1;omega) λr c hr hc hcn=>At3 hp hS J J' H C' (r:=k + r) (c:=k + c) AHx AHx AHx;have h3:p ∣ det (n - k) (shF k S):=Ajg h2 (Int.dvd_refl p)<|Int.dvd_trans h ⟨_,rfl⟩;exact hS<|Ajg h1 (Int.dvd_refl p)<|Int.dvd_trans h3 ⟨det k S,Int.mul_comm _ _⟩
theorem Avz (hp:PrI p) (hS: ¬ p ∣ det n S) (J:Jd n K p e a D) (J':Jd n K p f b D') (H:Car n K p D S D') {m:Nat} (C:Cut n e k) (C':Cut n e (k + m)) (hc:∀ i,k<=i->i < k + m->e i=e k) (hj:j < m) (hl:l < m):
 Eqm p (b (k + j)<|k + l) (AJv m (trF<|shF k S) (AJv m (shF k a)<|shF k S) j l):=by
 have hn:=C'.1;have hm:0 < m:=by omega
 have hjn:k + j < n:=by omega
 have hln:k + l < n:=by omega
 have hej:=hc (k + j) AHx AHx;have hel:=hc (k + l) AHx AHx;have hfj:=Aji hp hS J J' H hjn;have hfl:=Aji hp hS J J' H hln;have hK:=J.lt (k + j) hjn;have hd:p ^ (e k + 1) ∣ p ^ K:=AKv AHx
 have h1:Eqm (p ^ (e k + 1)) (p ^ e k * b (k + j) (k + l)) (psum (λi=>S i (k + j) * (p ^ e i * AJv n a S i (k + l))) n):=by
  have h2:=(H (k + j) (k + l) hjn hln).trans (J'.ent (k + j) (k + l) hjn hln);rw [<- hfj,hej] at h2;refine (h2.symm.down hd).trans ?_;exact Eqm.psum λi hi=>(Eqm.refl _ _).mul ((Azg J hi).down hd)
 have h2:∀ i,i < n->Eqm (p ^ (e k + 1)) (S i (k + j) * (p ^ e i * AJv n a S i (k + l))) (if e i=e k then p ^ e k * (S i (k + j) * AJv n a S i (k + l)) else 0):=λi hi=>by
  split
  ·next h=>rw [h];exact Eqm.of_eq (by grind)
  ·next h=>
   refine AXf.2 ?_
   rcases Nat.lt_or_ge (e k) (e i) with h3 | h3
   ·exact Int.dvd_trans (AKv (p:=p)<|show e k + 1<=e i by omega) ⟨S i (k + j) * AJv n a S i (k + l),by grind⟩
   ·have h4:e i < e k:=by omega
    have h5:=Ajh hp hS J J' H (i:=i) (j:=k + j) hi hjn AHx;rw [<- hfj,hej] at h5
    have h6:p ^ (e k - e i) ∣ AJv n a S i (k + l):=by
     refine Aky λq hq=>?_
     by_cases hq2:e i=e q
     ·have h7:=Ajh hp hS J J' H (i:=q) (j:=k + l) hq hln AHx;rw [<- hfl,hel,<- hq2] at h7;exact Int.dvd_trans h7 ⟨a i q,Int.mul_comm _ _⟩
     ·rw [J.blk i q hi hq hq2,Int.zero_mul];simp_all
    obtain ⟨x,hx⟩:=h5;obtain ⟨y,hy⟩:=h6;rw [hx,hy];refine Int.dvd_trans (AKv (p:=p)<|show e k + 1<=e i + (e k - e i) + (e k - e i) by omega) ⟨x * y,?_⟩;rw [Int.pow_add,Int.pow_add];grind
 have h3:=h1.trans<|Eqm.psum h2
 have hw:∀ i,i < n->(i < k∨k + m<=i)->e i≠e k:=λi hi h=>by
  rcases h with h | h
  ·have:=C.2 i k h (Nat.le_refl k) AHx;omega
  ·have:=C'.2 k i AHx h hi;omega
 rw [Ain (k:=k) (m:=m) hn λi hi h=>if_neg<|hw i hi h] at h3;rw [AIl (g:=λr=>p ^ e k * (S (k + r) (k + j) * AJv n a S (k + r) (k + l))) λr hr=>if_pos<|hc (k + r) AHx AHx,ALz] at h3
 have h4:Eqm p (b (k + j)<|k + l) (psum (λr=>S (k + r) (k + j) * AJv n a S (k + r) (k + l)) m):=by
  refine Ac8 ?_;obtain ⟨z,hz⟩:=AVm h3;rw [Int.pow_succ,<- Int.mul_sub,Int.mul_assoc] at hz;exact ⟨z,Int.eq_of_mul_eq_mul_left (Aa8 hp _) hz⟩
 refine h4.trans<|Eqm.of_eq ?_;refine AIl λr hr=>?_;show _=S (k + r) (k + j) * _;congr 1
 exact Ain (g:=λq=>a (k + r) q * S q (k + l)) hn λi hi h=>by
  rw [J.blk (k + r) i AHx hi (by grind),Int.zero_mul]
theorem Av0 (hp:PrI p) (hS: ¬ p ∣ det n S) (J:Jd n K p e a D) (J':Jd n K p f b D') (H:Car n K p D S D') {m:Nat} (C:Cut n e k) (C':Cut n e (k + m)) (hc:∀ i,k<=i->i < k + m->e i=e k):
 ∃ s,¬ p ∣ s/\Eqm p (det m<|shF k b) (s * s * det m (shF k a)):=by
 refine ⟨_,Ar2 hp hS J J' H C C',?_⟩;refine (Agx λj l hj hl=>Avz hp hS J J' H C C' hc hj hl).trans (Eqm.of_eq ?_);rw [ARo,ARo,ARh];grind
end
end Go.QF
namespace Go.Proofs.YtegoafpaljeobaaGreatDoor
theorem Azj {E:Type} {body:S->Option (S ⊕ E)} {Q:E->Prop} (I:Nat->S->Prop) (hs:∀ k s,I k s->Ok (body s) λr=>match r with | .inl s'=> ∃ k',k' < k/\I k' s' | .inr e=>Q e):∀ {fuel k:Nat} {s0:S},I k s0->k < fuel->Ok (iter body fuel s0) Q:=by
 intro fuel;induction fuel with
 | zero=>omega
 | succ f ih=>
   intro k s0 h0 hf;obtain ⟨r,hr,hq⟩:=hs k s0 h0;cases r with
   | inl s'=>
     obtain ⟨k',h1,h2⟩:=hq;obtain ⟨e,he,hQ⟩:=ih h2 AHx;exact ⟨e,by simp [iter,hr,he],hQ⟩
   | inr e=>exact ⟨e,by simp [iter,hr],hq⟩
theorem Ap6 {n:Nat} (hj:j < i) (hi:i < n) (hs:s < n) (X:Nat->Int):psum (λk=>X k * Af2 A i j k s) n=X s + if s=i then Ab4 A i j * X j else 0:=by
 have h1:∀ k,X k * Af2 A i j k s=X k * dl k s + (if k=j then (if s=i then Ab4 A i j * X j else 0) else 0):=λk=>by
  unfold Af2
  rw [AJa]
  split
  ·next h=>
   subst h
   split
   ·next h2=>subst h2;unfold dl;grind
   ·simp
  ·simp
 rw [AIl λk _=>h1 k,ATk,AWf X hs,ASc (a:=j) AHx λk _ hk=>if_neg hk,if_pos rfl]
theorem Ap7 {n:Nat} (hj:j < i) (hi:i < n) (hr:r < n) (hs:s < n):AJv n (AJv n (trF<|Af2 A i j) A) (Af2 A i j) r s=Agz A i j (Ab4 A i j) r s:=by
 have h2:∀ k,AJv n (trF<|Af2 A i j) A r k=A r k + if r=i then Ab4 A i j * A j k else 0:=λk=>by
  show psum (λl=>Af2 A i j l r * A l k) n=_
  rw [AIl (g:=λl=>A l k * Af2 A i j l r) λl _=>Int.mul_comm _ _]
  exact Ap6 hj hi hr λl=>A l k
 show psum (λk=>AJv n (trF<|Af2 A i j) A r k * Af2 A i j k s) n=_;rw [Ap6 hj hi hs λk=>AJv n (trF<|Af2 A i j) A r k];rw [h2,h2,Ajf];grind
theorem Ans (j k s:Nat):AOg dl (j + 1) j k s=dl (tau j k) s:=by
 rw [AVu];unfold tau;grind
theorem At4 (j k:Nat):tau j (tau j k)=k:=by unfold tau;grind
theorem A5o {n:Nat} (hj:j + 1 < n) (hk:k < n):tau j k < n:=by unfold tau;grind
theorem At5 {n:Nat} (hj:j + 1 < n) (hs:s < n) (X:Nat->Int):psum (λk=>X k * AOg dl (j + 1) j k s) n=X (tau j s):=by
 rw [ASc (a:=tau j s) (A5o hj hs) λk hk hne=>?_]
 ·rw [Ans,At4];unfold dl;grind
 ·rw [Ans];unfold dl;rw [if_neg λh=>hne<|by rw [<- h,At4]];simp
theorem At6 {n:Nat} (hj:j + 1 < n) (hr:r < n) (hs:s < n):AJv n (AJv n (trF<|AOg dl (j + 1) j) A) (AOg dl (j + 1) j) r s=swA A j r s:=by
 show psum (λk=>AJv n (trF<|AOg dl (j + 1) j) A r k * AOg dl (j + 1) j k s) n=_;rw [At5 hj hs λk=>AJv n (trF<|AOg dl (j + 1) j) A r k];show psum (λl=>AOg dl (j + 1) j l r * A l (tau j s)) n=_;rw [AIl (g:=λl=>A l (tau j s) * AOg dl (j + 1) j l r) λl _=>Int.mul_comm _ _];exact At5 hj hr λl=>A l<|tau j s
theorem AO0 {n:Nat} {A' B B':AIe} (hA:∀ k,k < n->A i k=A' i k) (hB:∀ k,k < n->B k j=B' k j):AJv n A B i j=AJv n A' B' i j:=AIl λk hk=>by grind
theorem Ac9 {n:Nat} {U:AIe} (i j:Nat):trF (AJv n T U) i j=AJv n (trF U) (trF T) i j:=AIl λk _=>Int.mul_comm _ _
def AY3 (n:Nat) (A0 T A:AIe):Prop:= ∀ i j,i < n->j < n->A i j=AJv n (trF T) (AJv n A0 T) i j
theorem AZr {n:Nat} {U B:AIe} (H:AY3 n A0 T A) (K:∀ i j,i < n->j < n->AJv n (AJv n (trF U) A) U i j=B i j):AY3 n A0 (AJv n T U) B:=λi j hi hj=>by
 rw [<- K i j hi hj,AMs]
 have h1:AJv n (trF U) (AJv n A U) i j=AJv n (trF U) (AJv n (trF T)<|AJv n A0<|AJv n T U) i j:=by
  refine AO0 (λ_ _=>rfl) λk hk=>?_;rw [AO0 (A':=AJv n (trF T)<|AJv n A0 T) (λl hl=>H k l hk hl) λ_ _=>rfl,AMs];refine AO0 (λ_ _=>rfl) λl hl=>?_;rw [AMs]
 rw [h1,<- AMs];exact AO0 (λk _=>(Ac9 i k).symm) λ_ _=>rfl
theorem Ajj {n:Nat}:AY3 n A dl A:=λi j hi hj=>by
 show _=psum (λk=>dl k i * AJv n A dl k j) n
 rw [AIl (g:=λk=>AJv n A dl k j * dl k i) λk _=>Int.mul_comm _ _,AWf (λk=>AJv n A dl k j) hi]
 exact (Arp hj).symm
theorem Akz {n:Nat} (H:AY3 n A0 T A):det n A=det n T * det n T * det n A0:=by
 rw [AJm H,ARo,ARo,ARh];grind
def dmN (n:Nat):Int:=if n<=6 then 2 ^ 59 else 9 ^ 8
def bdN (n:Nat):Int:=if n<=6 then 2 ^ 194 else 2 ^ 97
theorem Ah7 (n:Nat):9 ^ 8<=dmN n/\dmN n<=2 ^ 59:=by unfold dmN;split <;> decide
theorem A5p (n:Nat):(bdN n).natAbs<=mN n:=by unfold bdN mN;split <;> decide
theorem A3y {m n:Nat} {D:Int} (hn:n<=m + 1) (hk:k<=m) (hD:0<=D):(1 + (k:Int) * ((2 ^ (n - 1) * (2 * D)) * (2 ^ (n - 1) * (2 * D)))) * D<=(1 + (m:Int) * ((2 ^ m * (2 * D)) * (2 ^ m * (2 * D)))) * D:=by
 have p0:0<=2 ^ (n - 1) * (2 * D):=Int.mul_nonneg (Int.le_of_lt<|Aeh _) AHx;have h0:(2:Int) ^ (n - 1) * (2 * D)<=2 ^ m * (2 * D):=Int.mul_le_mul_of_nonneg_right (Ae6 AHx) AHx;have h1:=Int.mul_le_mul h0 h0 p0 AHx;have h2:=Int.mul_le_mul (show (k:Int)<=m by omega) h1 (Int.mul_nonneg p0 p0) AHx;exact Int.mul_le_mul_of_nonneg_right AHx hD
theorem A5q {n:Nat} (hn:n<=8) (hk:k < n):(1 + (k:Int) * ((2 ^ (n - 1) * (2 * dmN n)) * (2 ^ (n - 1) * (2 * dmN n)))) * dmN n<=bdN n:=by
 unfold dmN bdN;rcases Nat.lt_or_ge 6 n with h | h
 ·rw [if_neg AHx,if_neg AHx];exact Int.le_trans (A3y (m:=7) AHx AHx AHz) AHz
 ·rw [if_pos h,if_pos h];exact Int.le_trans (A3y (m:=5) AHx AHx AHz) AHz
theorem A5r (n:Nat):3 * dmN n<=bdN n:=by unfold dmN bdN;split <;> decide
theorem A2p {n t:Nat} (hn:n<=8) (h:Ann n (dmN n) A i t):∀ k,k < n->A k k<=bdN n:=λk hk=>by
 by_cases e:k=i
 ·subst e
  have hd:=(Ah7 n).1
  have h1:=Amb (p:=(2 ^ (n - 1) * (2 * dmN n)) * (2 ^ (n - 1) * (2 * dmN n))) (q:=1) h.sym h.pos h.hi h.dm (sq_nonneg _) AHz (λl hl=>by
   have h2:=h.lamb l hl
   have h3:(2:Int) ^ t * (2 * dmN n)<=2 ^ (n - 1) * (2 * dmN n):=Int.mul_le_mul_of_nonneg_right (Ae6 (by have:=h.ht;omega)) AHx
   have h4:=h.pos (l + 1) AHx
   have h5:=Int.mul_le_mul_of_nonneg_right h3<|Int.le_of_lt h4
   have h6:=Aeg (x:=Mn l A k l) (y:=2 ^ (n - 1) * (2 * dmN n) * det (l + 1) A) AHx AHx
   grind) k 0 AHx
  rw [AU1,show det 0 A=1 from rfl,Int.one_mul,Int.mul_one] at h1
  exact Int.le_trans h1<|A5q hn hk
 ·exact Int.le_trans (h.rows k hk e)<|A5r n
theorem Ap8 {n:Nat} {B:Int} (hs:AS2 n A) (hp:AVl n A) (hB:∀ k,k < n->A k k<=B) (hi:i < n) (hj:j < n): -B<=A i j/\A i j<=B:=by
 have h1:=Ah3 (k:=0) hs hp (Nat.zero_le _) hi hj;simp only [AU1] at h1;have p1:=Ah4 (k:=0) hs hp (Nat.zero_le _) hi;have p2:=Ah4 (k:=0) hs hp (Nat.zero_le _) hj;simp only [AU1] at p1 p2;have h2:=Int.mul_le_mul (hB i hi) (hB j hj) p2<|Int.le_trans p1<|hB i hi;exact Apw (Int.le_trans p1<|hB i hi)<|Int.le_trans h1 h2
theorem Ant {n:Nat} {B:Int} (hs:AS2 n A) (hp:AVl n A) (hB:∀ k,k < n->A k k<=B) (hi:i < n) (hj:j < n):(A i j).natAbs<=B.natAbs:=by
 have:=Ap8 hs hp hB hi hj;omega
def Ak0:Nat:=(2 ^ 158) ^ 10
theorem Ap9:16 * (Ak0 * Ak0) < AM1:=by decide
def Ame:Nat:=(2 ^ 220) ^ 5
theorem A7v {n:Nat} (hn:n<=8) (hE:∀ i j,(A0 i j).natAbs<=2 ^ 60) (hs:AS2 n A0) (hp:AVl n A0) (H:AY3 n A0 T A) (hB:∀ k,k < n->A k k<=bdN n) (hk:k < n) (hs2:s < n):(T k s).natAbs<=Ame:=by
 have h1:=Atq hs hp (λr=>T r s) hk
 have h2:bil n 0 A0 (λr=>T r s) (λr=>T r s)=A s s:=by
  rw [H s s hs2 hs2];show _=psum (λi=>T i s * psum (λj=>A0 i j * T j s) n) n;unfold bil;refine AIl λi _=>?_;rw [<- ALz];exact AIl λj _=>by rw [AU1];grind
 rw [h2] at h1
 have h3:(ARj n A0 k k).natAbs<=dBd (2 ^ 60) 9:=by
  refine Nat.le_trans (Ai9 (m:=2 ^ 60) λi j=>?_)<|AYi AHz AHx;rw [AJa]
  split
  ·unfold dl;split <;> decide
  ·exact hE i j
 have h4:ARj n A0 k k * A s s<=(dBd (2 ^ 60) 9:Nat) * bdN n:=by
  have p0:0<=A s s:=by
   have:A s s=bil n 0 A0 (λr=>T r s) (λr=>T r s):=h2.symm;rw [this];exact AX6 hs hp _ n 0 AHx
  have b1:ARj n A0 k k<=(dBd (2 ^ 60) 9:Nat):=by omega
  have b2:=Int.mul_le_mul_of_nonneg_right b1 p0;have b3:=Int.mul_le_mul_of_nonneg_left (hB s hs2) (show (0:Int)<=(dBd (2 ^ 60) 9:Nat) by omega);omega
 have h5:((dBd (2 ^ 60) 9:Nat):Int) * bdN n<=(Ame:Int) * (Ame:Int):=by unfold bdN;split <;> decide
 have h6:=Apw (x:=T k s) (y:=(Ame:Int)) AHx<|Int.le_trans (Int.le_trans h1 h4) h5;omega
structure Alh (n:Nat) (A:AIe):Prop where
 sym:AS2 n A
 pos:AVl n A
 sz:Ag0 A n
 lv:Aim A n
 dt:det n A<=10000
structure RSt (n:Nat) (A0 A T:AIe) (i t:Nat):Prop where
 inv:Ann n (dmN n) A i t
 car:AY3 n A0 T A
 dt:det n A=det n A0
def A8i (n:Nat) (A0:AIe) (k:Nat) (s:List (List Int) × List (List Int)):Prop:=
 ∃ A T i t,RSt n A0 A T i t/\s=(tab n n A,tab n n T)/\k=(Ap1 n A).toNat * 128 + (128 - (16 * i + t))
theorem At7 {n:Nat} (hp:AVl n A):0<=Ap1 n A:=by
 have:∀ m,m<=n + 1->0<=psum (λk=>det k A) m:=λm=>by
  induction m with
  | zero=>intro _;exact Int.le_refl _
  | succ m ih=>intro h;have h1:=ih AHx;have h2:=hp m AHx;simp only [psum];omega
 exact this _<|Nat.le_refl _
theorem A2q {n:Nat} (hd:∀ k,k<=n->det k A<=dmN n):Ap1 n A<=(n + 1:Nat) * dmN n:=by
 have:∀ m,m<=n + 1->psum (λk=>det k A) m<=(m:Nat) * dmN n:=λm=>by
  induction m with
  | zero=>intro _;simp [psum]
  | succ m ih=>intro h;have h1:=ih AHx;have h2:=hd m AHx;simp only [psum];grind
 exact this _<|Nat.le_refl _
theorem Av1 {n:Nat} (hn:n<=8) (hj:j < i) (hi:i < n) (hp:AVl n A) (hb:∀ i j,i < n->j < n->(A i j).natAbs<=mN n):(Ab4 A i j).natAbs<=3 * gN n:=by
 have b1:(Mn j A i j).natAbs<=gN n:=Akv hn hi AHx AHx hb;have b2:(det (j + 1) A).natAbs<=gN n:=Aei hn AHx hb;have hd:=hp (j + 1) AHx;unfold Ab4;rw [Int.natAbs_neg];have:=Int.natAbs_ediv_le_natAbs (2 * Mn j A i j + det (j + 1) A)<|2 * det (j + 1) A;omega
theorem Amf {n:Nat} (Ac:1<=n) (hn:n<=8) (hs:AS2 n A0) (hp:AVl n A0) (hE:∀ i j,(A0 i j).natAbs<=2 ^ 60) (hD:∀ k,k<=n->det k A0<=dmN n) (hr:∀ k,k < n->A0 k k<=3 * dmN n) (hdt:det n A0<=10000) (hf:AM1 < fuel):
 Ok (ANi fuel<|tab n n A0) λr=> ∃ A T,r=(tab n n A,tab n n T,0)/\Alh n A/\AY3 n A0 T A/\det n A=det n A0/\ ∀ k,k < n->A k k<=3 * dmN n:=by
 have Ad:100 < fuel:=Nat.lt_of_le_of_lt AHz hf;have Ar:100000000 < fuel:=Nat.lt_of_le_of_lt AHz hf;have Aj:∀ i j,i < n->j < n->(A0 i j).natAbs<=mN n:=λi j _ _=>Nat.le_trans (hE i j)<|Nat.le_trans AHz<|Apl n;unfold ANi;refine AH9 (Akx Ac hn Aj Ad) λv hv=>?_;have Ao:=hv.2 ⟨hs,hp⟩;subst Ao;refine AI4 (λh=>absurd rfl h) λ_=>AH9 (AJ2<|A2n hn Aj Ad) λb hb=>?_;subst hb;refine AI4 (λh=>by simp [hdt] at h) λ_=>?_;refine AH9 (AJ2<|Ati (A:=tab n n A0) (by rw [AJf];omega) (λz hz=>by rw [Agg z hz];omega) (by rw [AJf];omega)) λx hx=>?_;subst hx;rw [AJf];refine AH9 (AJ2<|Atz Ac AHx Ad) λx hx=>?_;subst hx;dsimp only;refine AH9 (Azj (A8i n A0) (Q:=λr=> ∃ A T,r=(tab n n A,tab n n T,0)/\Alh n A/\AY3 n A0 T A/\det n A=det n A0/\ ∀ k,k < n->A k k<=3 * dmN n) (λk s hI=>?_) (k:=(Ap1 n A0).toNat * 128 + 128) ⟨A0,dl,0,0,⟨Akt Ac hs hp hD hr,Ajj,rfl⟩,rfl,rfl⟩ ?_) λr hr=>AH4 hr
 ·obtain ⟨A,T,i,t,R,rfl,rfl⟩:=hI;have L:=R.inv;have hbd:=A2p hn L;have hb:∀ i j,i < n->j < n->(A i j).natAbs<=mN n:=λi j hi hj=>Nat.le_trans (Ant L.sym L.pos hbd hi hj)<|A5p n;have hT:∀ k s,k < n->s < n->(T k s).natAbs<=Ame:=λk s hk Ab=>A7v hn hE hs hp R.car hbd hk Ab;have hTD:Ame<=Ak0:=by decide
  have hg:=Ayk n;have hgm:=A7l n;have Ap:=Apl n;have hMD:mN n<=Ak0:=Nat.le_trans (Nat.le_trans (Nat.le_mul_of_pos_left _<|show 0 < 24 * gN n by omega)<|Nat.le_of_eq<|Nat.mul_assoc 24 (gN n)<|mN n) hgm;have hGD:3 * gN n<=Ak0:=Nat.le_trans (Nat.le_trans (show 3 * gN n<=24 * gN n by omega)<|Nat.le_mul_of_pos_right _<|Nat.lt_of_lt_of_le AHz Ap)<|Nat.le_trans (Nat.le_of_eq<|Nat.mul_assoc 24 (gN n)<|mN n) hgm;unfold AR7;refine AH9 (A5l Ac hn L.pos hb hf) λr hr=>?_
  have prod:∀ {U:AIe},(∀ i j,i < n->j < n->(U i j).natAbs<=3 * gN n)->(ALk fuel (tab n n A) (tab n n U)=some (tab n n<|AJv n (AJv n (trF U) A) U)/\AKt fuel (tab n n T) (tab n n U)=some (tab n n<|AJv n T U)):=λ{U} hU=>by
   have Ak:∀ i j,i < n->j < n->(U i j).natAbs<=Ak0:=λi j hi hj=>Nat.le_trans (hU i j hi hj) hGD
   refine ⟨Atx Ac AHx Ap9 (λi j hi hj=>Nat.le_trans (hb i j hi hj) hMD) Ak (λi j hi hj=>?_) Ad,?_⟩
   ·have h3:(AJv n (trF U) A i j).natAbs=(psum (λl=>U l i * A l j) n).natAbs:=rfl
    have h4:∀ l,l < n->(U l i).natAbs<=3 * gN n/\(A l j).natAbs<=mN n:=λl hl=>⟨hU l i hl hi,hb l j hl hj⟩
    have h5:(psum (λl=>U l i * A l j) n).natAbs<=n * (3 * gN n * mN n):=by
     refine QF.psum_abs λl hl=>?_
     rw [Int.natAbs_mul]
     exact Nat.mul_le_mul (h4 l hl).1 (h4 l hl).2
    have h6:n * (3 * gN n * mN n)<=8 * (3 * gN n * mN n):=Nat.mul_le_mul_right _ hn
    have h7:8 * (3 * gN n * mN n)<=Ak0:=Nat.le_trans (Nat.le_of_eq<|by rw [Nat.mul_assoc 3,<- Nat.mul_assoc 8]) hgm
    omega
   ·unfold AKt
    rw [Azc Ac AHx Ap9 (λi j hi hj=>Nat.le_trans (hT i j hi hj) hTD) Ak Ad]
    rfl
  rcases hr with ⟨rfl,hsz,hlv⟩ | ⟨i',j,hji,hi',hbad,hsz,hzi,hlv,rfl⟩ | ⟨j,hj,hbad,hsz,hlv,rfl⟩
  ·dsimp only;refine AI4 (λ_=>?_) λh=>absurd rfl h;have hrest:=Ae5 hn L λl hl=>hsz i l hl L.hi;refine AH9 (AJ2<|A7s Ac AHx (λi j hi hj=>Nat.lt_of_le_of_lt (Ant L.sym L.pos hrest hi hj) (by have:=Ah7 n;omega)) Ad) λx hx=>AH4 ?_;subst hx;exact ⟨A,T,rfl,⟨L.sym,L.pos,hsz,hlv,by rw [R.dt];exact hdt⟩,R.car,R.dt,hrest⟩
  ·dsimp only;refine AI4 (λh=>absurd h AHz) λ_=>?_
   have hU:∀ r s,r < n->s < n->(Af2 A i' j r s).natAbs<=3 * gN n:=λr s hr Ab=>by
    have hdl:∀ a b,(dl a b).natAbs<=3 * gN n:=λa b=>by unfold dl;split <;> omega
    unfold Af2
    rw [AJa]
    split
    ·split
     ·exact Av1 hn hji hi' L.pos hb
     ·exact hdl _ _
    ·exact hdl _ _
   obtain ⟨e1,e2⟩:=prod hU;refine AH9 (AJ2 e1) λx hx=>AH9 (AJ2 e2) λy hy=>AH4 ?_;subst hx;subst hy;obtain ⟨L2,hm⟩:=Avx hn L hi' hji hbad hsz hzi hlv;have hsum:Ap1 n (Agz A i' j<|Ab4 A i' j)=Ap1 n A:=AIl λk _=>AX9 hji;refine ⟨_,?_,Agz A i' j<|Ab4 A i' j,AJv n T<|Af2 A i' j,i',i' - j,⟨L2,AZr R.car λr s hr Ab=>Ap7 hji hi' hr Ab,by rw [AX9 hji];exact R.dt⟩,?_,rfl⟩
   ·omega
   ·rw [AS5 λr s hr Ab=>Ap7 hji hi' hr Ab]
  ·dsimp only;refine AI4 (λh=>absurd h AHz) λ_=>?_
   have hU:∀ r s,r < n->s < n->(AOg dl (j + 1) j r s).natAbs<=3 * gN n:=λr s hr Ab=>by
    rw [Ans];unfold dl;split <;> omega
   obtain ⟨e1,e2⟩:=prod hU;refine AH9 (AJ2 e1) λx hx=>AH9 (AJ2 e2) λy hy=>AH4 ?_;subst hx;subst hy;obtain ⟨L2,hm⟩:=Avy hn L hj hbad (λr l h1 h2=>hsz r l h1 AHx) λr hr=>hlv r AHx;refine ⟨_,?_,swA A j,AJv n T<|AOg dl (j + 1) j,0,0,⟨L2,AZr R.car λr s hr Ab=>At6 hj hr Ab,by rw [Atr AHx];exact R.dt⟩,?_,rfl⟩
   ·have h1:=At7 L.pos;have h2:=At7 L2.pos;have:=L.hi;have:=L.ht;omega
   ·rw [AS5 λr s hr Ab=>At6 hj hr Ab]
 ·have h1:=A2q hD;have h2:((n + 1:Nat):Int) * dmN n<=9 * dmN n:=Int.mul_le_mul_of_nonneg_right AHx (by have:=Ah7 n;omega);have h3:9 * dmN n<=9 * 2 ^ 59:=Int.mul_le_mul_of_nonneg_left (Ah7 n).2 AHz;have h4:9 * 2 ^ 59 * 128 + 128 < AM1:=by decide
  omega
def part (n i:Nat) (G:AIe):List (List Int):=AK7 n λr=>if r < i then AK7 n (G r) else []
theorem ATv {n:Nat} (hr:r < i) (hn:r < n):(part n i G)[r]? =some (AK7 n<|G r):=by
 unfold part;rw [AI5 hn,if_pos hr]
theorem AZj {n:Nat} (hn:i < n):(part n i G)[i]? =some []:=by
 unfold part;rw [AI5 hn,if_neg<|Nat.lt_irrefl i]
theorem AVn {n:Nat} (hr:r < i):(part n i G).set r (AK7 n g)=part n i (AKi G r g):=by
 unfold part;rw [AL7];refine AJ3 λk _=>?_;by_cases h:k=r
 ·subst h;rw [if_pos rfl,if_pos hr,AKk]
 ·rw [if_neg h,AOt _ _ h]
theorem AXg {n:Nat}:(part n i G).set i (AK7 n g)=part n (i + 1) (AKi G i g):=by
 unfold part;rw [AL7];refine AJ3 λk _=>?_;by_cases h:k=i
 ·subst h;rw [if_pos rfl,if_pos AHx,AKk]
 ·rw [if_neg h,AOt _ _ h];grind
theorem AVv (n:Nat) (G:AIe):part n n G=tab n n G:=by
 unfold part;rw [AYg];exact AJ3 λk hk=>if_pos hk
theorem AVw (n:Nat) (G:AIe):List.replicate n ([]:List Int)=part n 0 G:=by
 rw [AOm];exact AJ3 λk _=>(if_neg AHx).symm
theorem Ada {L:List Int} {q:Nat} (hq:q < 4611686018427387904):Ok (if (L.length:Int)<=((q:Nat):Int) then (some ((0:Int),((q:Nat):Int))) else ((gI L<|w64<|(w64<|((q:Nat):Int) + 1) - 1).bind λx=>(some ((w64 x),(w64<|((q:Nat):Int) + 1))))) λe=> ∃ p:Nat,e.2=(p:Int)/\p<=q + 1:=by
 refine AI4 (λh=>AH4 ⟨q,rfl,AHx⟩) λh=>?_;have hl:q < L.length:=by omega
 refine AI8 (n:=q) (List.getElem?_eq_getElem hl) (by rw [AKn (x:=(q:Int) + 1) AHx AHx,wk AHx];omega)<|AH4 ⟨q + 1,?_,AHx⟩;rw [AKn (x:=(q:Int) + 1) AHx AHx];omega
theorem Ab5 (x:Int) (m:Nat) (hm:0 < m):0<=Int.tmod (w64<|IntKind.wrap .u8 x) (m:Int)/\Int.tmod (w64<|IntKind.wrap .u8 x) (m:Int) < m:=by
 have h1:IntKind.wrap .u8 x=x % 256:=by rw [IntKind.wrap_u8]
 rw [h1];have a1:=Int.emod_nonneg x (show (256:Int)≠0 by decide);have a2:=Int.emod_lt_of_pos x (show (0:Int) < 256 by decide);rw [wk AHx,Int.tmod_eq_emod_of_nonneg a1];exact ⟨Int.emod_nonneg _ AHx,Int.emod_lt_of_pos _ AHx⟩
def dgF (f:Nat->Int) (r c:Nat):Int:=if c=r then f r else 0
theorem A7w {L:List Int} (hN:w64 (1 + (Int.tmod (w64 a1) Ac))=(N:Int)) (Af:N<=8) (Ag:q0<=1000) (hf:100 < fuel):
 Ok (iter (λs=>ANj fuel a1 L Ac s.1 s.2.1 s.2.2) fuel (0,(q0:Int),(List.replicate (Int.toNat<|w64<|1 + (Int.tmod (w64 a1) Ac)) ([]:List Int)))) λe=> ∃ (q:Nat) (f:Nat->Int),e=((q:Int),tab N N<|dgF f)/\q<=q0 + N/\ ∀ r,r < N->1<=f r/\f r<=6:=by
 refine AJg (λi s=> ∃ (q:Nat) (f:Nat->Int),s=(((i:Nat):Int),(q:Int),part N i<|dgF f)/\i<=N/\q<=q0 + i/\ ∀ r,r < i->1<=f r/\f r<=6) N ⟨q0,λ_=>0,by rw [hN,Int.toNat_natCast,AVw N<|dgF λ_=>0];rfl,AHx,AHx,λr hr=>by omega⟩ AHx λi s hi hI=>?_;obtain ⟨q,f,rfl,hiN,hq,Ad⟩:=hI;unfold ANj;dsimp only;rw [List.length_replicate,hN,Int.toNat_natCast];refine AI4 (λh=>AJ4 AHx ?_) λh=>AH4 ?_
 ·have hi':i < N:=by omega
  refine AI8 (AZj hi') rfl ?_;rw [AKf,AOm N (0:Int),AXg];refine AI8 (ATv AHx hi') rfl ?_;rw [AKk];refine AH9 (Q:=λe:Int × Int=>0<=e.1/\e.1 < 6/\ ∃ p:Nat,e.2=(p:Int)/\p<=q + 1) (AH9 (Ada (L:=L) (q:=q) AHx) λe he=>?_) λe he=>AI8 (AI5 hi') rfl (AH4 ⟨AHx,?_⟩)
  ·exact AH4 ⟨(Ab5 _ 6 AHz).1,(Ab5 _ 6 AHz).2,he⟩
  ·obtain ⟨h1,h2,p,h3,h4⟩:=he;refine ⟨p,λr=>if r=i then 1 + e.1 else f r,?_,AHx,AHx,λr hr=>?_⟩
   ·rw [AKn (x:=(i:Int) + 1) AHx AHx,AKn (x:=1 + e.1) AHx AHx,h3,AKf,AKf,AL7,AVn AHx];refine congrArg (λz=>(((i + 1:Nat):Int),(p:Int),z))<|AJ3 λr hr=>?_;split
    ·refine AJ3 λc hc=>?_;rw [AJa];unfold dgF;dsimp only;split
     ·omega
     ·next h=>rw [AJa,if_neg h]
    ·rfl
   grind
 ·obtain rfl:i=N:=by omega
  exact ⟨q,f,by rw [AVv],AHx,Ad⟩
theorem A5s {L:List Int} (hN:w64 (1 + (Int.tmod (w64 a1) Ac))=(N:Int)) (Af:N<=8) (Ag:q0<=1000) (hf:100 < fuel):
 Ok (iter (λs=>AM2 fuel a1 L Ac s.1 s.2.1 s.2.2) fuel (0,(q0:Int),(List.replicate (Int.toNat<|w64<|1 + (Int.tmod (w64 a1) Ac)) ([]:List Int)))) λe=> ∃ (q:Nat) (f:Nat->Int),e=((q:Int),tab N N<|dgF f)/\q<=q0 + N/\ ∀ r,r < N->1<=f r/\f r<=9:=by
 refine AJg (λi s=> ∃ (q:Nat) (f:Nat->Int),s=(((i:Nat):Int),(q:Int),part N i<|dgF f)/\i<=N/\q<=q0 + i/\ ∀ r,r < i->1<=f r/\f r<=9) N ⟨q0,λ_=>0,by rw [hN,Int.toNat_natCast,AVw N<|dgF λ_=>0];rfl,AHx,AHx,λr hr=>by omega⟩ AHx λi s hi hI=>?_;obtain ⟨q,f,rfl,hiN,hq,Ad⟩:=hI;unfold AM2;dsimp only;rw [List.length_replicate,hN,Int.toNat_natCast];refine AI4 (λh=>AJ4 AHx ?_) λh=>AH4 ?_
 ·have hi':i < N:=by omega
  refine AI8 (AZj hi') rfl ?_;rw [AKf,AOm N (0:Int),AXg];refine AI8 (ATv AHx hi') rfl ?_;rw [AKk];refine AH9 (Q:=λe:Int × Int=>0<=e.1/\e.1 < 9/\ ∃ p:Nat,e.2=(p:Int)/\p<=q + 1) (AH9 (Ada (L:=L) (q:=q) AHx) λe he=>?_) λe he=>AI8 (AI5 hi') rfl (AH4 ⟨AHx,?_⟩)
  ·exact AH4 ⟨(Ab5 _ 9 AHz).1,(Ab5 _ 9 AHz).2,he⟩
  ·obtain ⟨h1,h2,p,h3,h4⟩:=he;refine ⟨p,λr=>if r=i then 1 + e.1 else f r,?_,AHx,AHx,λr hr=>?_⟩
   ·rw [AKn (x:=(i:Int) + 1) AHx AHx,AKn (x:=1 + e.1) AHx AHx,h3,AKf,AKf,AL7,AVn AHx];refine congrArg (λz=>(((i + 1:Nat):Int),(p:Int),z))<|AJ3 λr hr=>?_;split
    ·refine AJ3 λc hc=>?_;rw [AJa];unfold dgF;dsimp only;split
     ·omega
     ·next h=>rw [AJa,if_neg h]
    ·rfl
   grind
 ·obtain rfl:i=N:=by omega
  exact ⟨q,f,by rw [AVv],AHx,Ad⟩
theorem A5t {L:List Int} (hN:w64 (1 + (Int.tmod (w64 a1) Ac))=(N:Int)) (Af:N<=8) (Ag:q0<=1000) (hf:100 < fuel):
 Ok (iter (λs=>AM3 fuel a1 L Ac s.1 s.2.1 s.2.2) fuel (0,(q0:Int),(List.replicate (Int.toNat<|w64<|1 + (Int.tmod (w64 a1) Ac)) ([]:List Int)))) λe=> ∃ (q:Nat) (f:Nat->Int),e=((q:Int),tab N N<|dgF f)/\q<=q0 + N/\ ∀ r,r < N->1<=f r/\f r<=1:=by
 refine AJg (λi s=> ∃ (q:Nat) (f:Nat->Int),s=(((i:Nat):Int),(q:Int),part N i<|dgF f)/\i<=N/\q<=q0 + i/\ ∀ r,r < i->1<=f r/\f r<=1) N ⟨q0,λ_=>0,by rw [hN,Int.toNat_natCast,AVw N<|dgF λ_=>0];rfl,AHx,AHx,λr hr=>by omega⟩ AHx λi s hi hI=>?_;obtain ⟨q,f,rfl,hiN,hq,Ad⟩:=hI;unfold AM3;dsimp only;rw [List.length_replicate,hN,Int.toNat_natCast];refine AI4 (λh=>AJ4 AHx ?_) λh=>AH4 ?_
 ·have hi':i < N:=by omega
  refine AI8 (AZj hi') rfl ?_;rw [AKf,AOm N (0:Int),AXg];refine AI8 (ATv AHx hi') rfl ?_;rw [AKk];refine AH9 (Q:=λe:Int × Int=>0<=e.1/\e.1 < 1/\ ∃ p:Nat,e.2=(p:Int)/\p<=q + 1) (AH9 (Ada (L:=L) (q:=q) AHx) λe he=>?_) λe he=>AI8 (AI5 hi') rfl (AH4 ⟨AHx,?_⟩)
  ·exact AH4 ⟨(Ab5 _ 1 AHz).1,(Ab5 _ 1 AHz).2,he⟩
  ·obtain ⟨h1,h2,p,h3,h4⟩:=he;refine ⟨p,λr=>if r=i then 1 + e.1 else f r,?_,AHx,AHx,λr hr=>?_⟩
   ·rw [AKn (x:=(i:Int) + 1) AHx AHx,AKn (x:=1 + e.1) AHx AHx,h3,AKf,AKf,AL7,AVn AHx];refine congrArg (λz=>(((i + 1:Nat):Int),(p:Int),z))<|AJ3 λr hr=>?_;split
    ·refine AJ3 λc hc=>?_;rw [AJa];unfold dgF;dsimp only;split
     ·omega
     ·next h=>rw [AJa,if_neg h]
    ·rfl
   grind
 ·obtain rfl:i=N:=by omega
  exact ⟨q,f,by rw [AVv],AHx,Ad⟩
theorem A5u {L:List Int} (hN:w64 (1 + (Int.tmod (w64 a1) Ac))=(N:Int)) (Af:N<=8) (Ag:q0<=1000) (hf:100 < fuel):
 Ok (iter (λs=>AM4 fuel a1 L Ac s.1 s.2.1 s.2.2) fuel (0,(q0:Int),(List.replicate (Int.toNat<|w64<|1 + (Int.tmod (w64 a1) Ac)) ([]:List Int)))) λe=> ∃ (q:Nat) (f:Nat->Int),e=((q:Int),tab N N<|dgF f)/\q<=q0 + N/\ ∀ r,r < N->1<=f r/\f r<=2:=by
 refine AJg (λi s=> ∃ (q:Nat) (f:Nat->Int),s=(((i:Nat):Int),(q:Int),part N i<|dgF f)/\i<=N/\q<=q0 + i/\ ∀ r,r < i->1<=f r/\f r<=2) N ⟨q0,λ_=>0,by rw [hN,Int.toNat_natCast,AVw N<|dgF λ_=>0];rfl,AHx,AHx,λr hr=>by omega⟩ AHx λi s hi hI=>?_;obtain ⟨q,f,rfl,hiN,hq,Ad⟩:=hI;unfold AM4;dsimp only;rw [List.length_replicate,hN,Int.toNat_natCast];refine AI4 (λh=>AJ4 AHx ?_) λh=>AH4 ?_
 ·have hi':i < N:=by omega
  refine AI8 (AZj hi') rfl ?_;rw [AKf,AOm N (0:Int),AXg];refine AI8 (ATv AHx hi') rfl ?_;rw [AKk];refine AH9 (Q:=λe:Int × Int=>0<=e.1/\e.1 < 2/\ ∃ p:Nat,e.2=(p:Int)/\p<=q + 1) (AH9 (Ada (L:=L) (q:=q) AHx) λe he=>?_) λe he=>AI8 (AI5 hi') rfl (AH4 ⟨AHx,?_⟩)
  ·exact AH4 ⟨(Ab5 _ 2 AHz).1,(Ab5 _ 2 AHz).2,he⟩
  ·obtain ⟨h1,h2,p,h3,h4⟩:=he;refine ⟨p,λr=>if r=i then 1 + e.1 else f r,?_,AHx,AHx,λr hr=>?_⟩
   ·rw [AKn (x:=(i:Int) + 1) AHx AHx,AKn (x:=1 + e.1) AHx AHx,h3,AKf,AKf,AL7,AVn AHx];refine congrArg (λz=>(((i + 1:Nat):Int),(p:Int),z))<|AJ3 λr hr=>?_;split
    ·refine AJ3 λc hc=>?_;rw [AJa];unfold dgF;dsimp only;split
     ·omega
     ·next h=>rw [AJa,if_neg h]
    ·rfl
   grind
 ·obtain rfl:i=N:=by omega
  exact ⟨q,f,by rw [AVv],AHx,Ad⟩
theorem A5v {L:List Int} {F0:AIe} (Ag:N<=8) (Ah:q0<=1000) (Ad:∀ i j,i < N->j < N->(F0 i j).natAbs<=9) (hf:100 < fuel):
 Ok (iter (λs=>ANk fuel L (tab N N F0) s.1 s.2.1 s.2.2) fuel (0,(q0:Int),tab N N F0)) λe=> ∃ (q:Nat) (F:AIe),e=((q:Int),tab N N F)/\q<=q0 + 8 * N/\ ∀ i j,i < N->j < N->(F i j).natAbs<=9:=by
 refine AJg (λi s=> ∃ (q:Nat) (F:AIe),s=(((i:Nat):Int),(q:Int),tab N N F)/\i<=N/\q<=q0 + 8 * i/\ ∀ i j,i < N->j < N->(F i j).natAbs<=9) N ⟨q0,F0,rfl,AHx,AHx,Ad⟩ AHx λi s hi hI=>?_;obtain ⟨q,F,rfl,hiN,hq,hF⟩:=hI;unfold ANk;dsimp only;rw [AJf];refine AI4 (λh=>?_) λh=>AH4 ⟨q,F,rfl,AHx,hF⟩;have hi':i < N:=by omega
 refine AH9 (AJg (λj s=> ∃ (p:Nat) (F:AIe),s=(((j:Nat):Int),(p:Int),tab N N F)/\j<=i/\p<=q + j/\ ∀ i j,i < N->j < N->(F i j).natAbs<=9) i (Q:=λe=> ∃ (p:Nat) (F:AIe),e=((p:Int),tab N N F)/\p<=q + i/\ ∀ i j,i < N->j < N->(F i j).natAbs<=9) ⟨q,F,rfl,AHx,AHx,hF⟩ AHx λj s hj hJ=>?_) λe he=>?_
 ·obtain ⟨p,F,rfl,hji,hp,hF⟩:=hJ;unfold APm;dsimp only;refine AI4 (λh=>?_) λh=>AH4 ⟨p,F,rfl,AHx,hF⟩;have hj':j < i:=by omega
  refine AI8 (AJo hi') rfl (AH9 (Ada (L:=L) (q:=p) AHx) λe he=>AI8 (AI5 AHx) rfl ?_);obtain ⟨p2,h3,h4⟩:=he;rw [AKf,AKf,AL7,show (AK7 N λc=>if c=j then Int.tmod e.1 3 else F i c)=(List.range N).map λc=>if c=j then Int.tmod e.1 3 else F i c from rfl,AS8];refine AI8 (AJo AHx) rfl (AI8 (AJo hi') rfl (AI8 (AI5 AHx) rfl (AI8 (AI5 hi') rfl (AH4 ⟨AHx,p2,?_⟩))));generalize Af:(AKi F i λc=>if c=j then Int.tmod e.1 3 else F i c)=F1
  have hv:(Int.tmod e.1 3).natAbs<=9:=by
   grind
  have hF1b:∀ i j,i < N->j < N->(F1 i j).natAbs<=9:=λa b ha hb=>by
   subst Af
   rw [AJa]
   split
   ·split
    ·exact hv
    grind
   grind
  refine ⟨AKi F1 j λc=>if c=i then F1 i j else F1 j c,?_,AHx,AHx,λa b ha hb=>?_⟩
  ·rw [wk AHx,h3,AKf,AKf,AL7,show (AK7 N λc=>if c=i then F1 i j else F1 j c)=(List.range N).map λc=>if c=i then F1 i j else F1 j c from rfl,AS8];rfl
  ·rw [AJa];split
   ·split
    ·grind
    grind
   grind
 ·obtain ⟨p,F,rfl,hp,hF⟩:=he;exact AH4 ⟨AHx,p,F,by rw [wk AHx];rfl,AHx,AHx,hF⟩
theorem At8 {b:Bool} (Ag:1<=N) (Ah:N<=8) (hf:100 < fuel):Ok (AOk fuel (N:Int) b) λe=> ∃ F,e=tab N N F/\ ∀ i j,i < N->j < N->(F i j).natAbs<=2:=by
 unfold AOk;refine AJ4 AHx ?_;rw [Int.toNat_natCast];refine AH9 (AJg (λi s=> ∃ G:AIe,s=(((i:Nat):Int),part N i G)/\i<=N/\ ∀ r c,(G r c).natAbs<=2) N (Q:=λe=> ∃ F,e=tab N N F/\ ∀ i j,i < N->j < N->(F i j).natAbs<=2) ⟨λ_ _=>0,by rw [AVw N λ_ _=>0];rfl,AHx,λ_ _=>Nat.zero_le _⟩ AHx λi s hi hI=>?_) λe he=>AH4 he;obtain ⟨G,rfl,hiN,hG⟩:=hI;unfold ATh;dsimp only;rw [List.length_replicate,Int.toNat_natCast];refine AI4 (λh=>AJ4 AHx ?_) λh=>AH4 ?_
 ·have hi':i < N:=by omega
  refine AI8 (AZj hi') rfl ?_;rw [AKf,AOm N (0:Int),AXg];refine AI8 (ATv AHx hi') rfl ?_;rw [AKk];refine AI8 (AI5 hi') rfl ?_;rw [AKf,AKf,AL7,AVn AHx]
  have Ab:∀ r c,(AKi (AKi G i λx=>0) i (λc=>if c=i then 2 else 0) r c).natAbs<=2:=λr c=>by
   rw [AJa]
   split
   ·split <;> decide
   ·rw [AJa]
    grind
  generalize (AKi (AKi G i λx=>0) i λc=>if c=i then 2 else 0)=G1 at Ab;have wi:w64 ((i:Int) + 1)=((i + 1:Nat):Int):=by rw [wk AHx];omega
  refine AH9 (Q:=λk=>k=(i:Int) - 1∨k=(i:Int) - 2) ?_ λk hk=>?_
  ·have w1:w64 ((i:Int) - 1)=(i:Int) - 1:=wk AHx;have w2:w64 ((i:Int) - 2)=(i:Int) - 2:=wk AHx;rw [w1,w2];exact AI4 (λ_=>AI4 (λ_=>AI4 (λ_=>AH4<|.inr rfl) λ_=>AH4<|.inl rfl) λ_=>AH4<|.inl rfl) λ_=>AH4<|.inl rfl
  ·refine AI4 (λh=>?_) λh=>AH4 ⟨AHx,G1,by rw [wi],AHx,Ab⟩;obtain ⟨k,rfl⟩:∃ q:Nat,k=q:=⟨k.toNat,AHx⟩;have hki:k < i:=by omega
   refine AI8 (ATv AHx hi') rfl (AI8 (ATv AHx AHx) rfl (AI8 (AI5 AHx) rfl ?_));rw [AKf,AKf,AL7,AVn AHx]
   have Af:∀ r c,(AKi G1 i (λc=>if c=k then -1 else G1 i c) r c).natAbs<=2:=λr c=>by
    rw [AJa]
    grind
   generalize (AKi G1 i λc=>if c=k then -1 else G1 i c)=G2 at Af;refine AI8 (ATv AHx AHx) rfl (AI8 (AI5 hi') rfl (AH4 ⟨AHx,AKi G2 k λc=>if c=i then -1 else G2 k c,?_,AHx,λr c=>?_⟩))
   ·rw [wi,AKf,AKf,AL7,AVn AHx]
   ·rw [AJa];grind
 ·obtain rfl:i=N:=by omega
  exact ⟨G,AVv _ _,λa b _ _=>hG a b⟩
theorem Azl {n B:Nat} (hB:B < 9223372036854775808) (h:∀ i j,i < n->j < n->(F i j).natAbs<=B):∀ z∈tab n n F,∀ x∈z,-9223372036854775808<=x/\x<=9223372036854775807:=λz hz x hx=>by
 obtain ⟨i,hi⟩:=List.getElem?_of_mem hz
 have hin:i < n:=by have:=(List.getElem?_eq_some_iff.1 hi).1;rwa [AJf] at this
 rw [AJo hin] at hi
 cases hi
 obtain ⟨j,hj⟩:=List.getElem?_of_mem hx
 have hjn:j < n:=by have:=(List.getElem?_eq_some_iff.1 hj).1;rwa [AJ5] at this
 rw [AI5 hjn] at hj
 grind
theorem A2r {n:Nat} (hn:1<=n) (Aa:n<=16):okM (tab n n F)=true:=by
 have hc:AYd (tab n n F)=n:=Awq hn;unfold okM;rw [decide_eq_true_iff,AJf,hc];exact ⟨hn,Aa,λz hz=>by rw [Agg z hz];omega⟩
theorem Anu {n:Nat} (hn:1<=n) (Aa:n<=16) (h:∀ i j,i < n->j < n->(F i j).natAbs<=9223372036854775807) (hf:17 < fuel):ALn fuel (tab n n F)=some (tab n n F):=by
 rw [A7k (Azl AHz h) hf,if_pos<|A2r hn Aa]
theorem A5w {n:Nat} (Ab:1<=n) (hn:n<=8) (hb:∀ i j,i < n->j < n->(F i j).natAbs<=1000000) (hf:100 < fuel):Ok (AQm fuel<|tab n n F) λr=>r=true↔AS2 n F/\AVl n F/\det n F<=10000:=by
 have Ac:∀ i j,i < n->j < n->(F i j).natAbs<=mN n:=λi j hi hj=>Nat.le_trans (hb i j hi hj)<|Nat.le_trans AHz<|Apl n;unfold AQm;refine AH9 (AJ2<|Anu Ab AHx (λi j hi hj=>Nat.le_trans (hb i j hi hj) AHz) AHx) λx hx=>?_;subst hx;refine AH9 (Akx Ab hn Ac hf) λv hv=>AI4 (λh=>?_) λh=>AH4<|Iff.intro (λh2=>nomatch h2) λh2=>absurd (hv.2 ⟨h2.1,h2.2.1⟩) h;have h1:=hv.1 h;refine AH9 (AJ2<|Agt hn (Nat.le_refl _) Ac AHx) λd hd=>AH9 (Q:=(· =10000)) ⟨10000,if_pos AHx,rfl⟩ λt ht=>AH9 (AJ2 (a:=Abw d t) rfl) λc hc=>AH4 ?_;subst hd;subst ht;subst hc;rw [decide_eq_true_iff,Anp];grind
theorem A5x {n:Nat} {f:Nat->Int} (hn:n<=8) (h:∀ r,r < n->1<=f r/\f r<=2):AS2 n (dgF f)/\AVl n (dgF f)/\det n (dgF f)<=10000:=by
 have hd:∀ k,k<=n->det k (dgF f)=ANq f k:=λk hk=>by
  rw [Abz (F:=dgF f) (λc i hc hci hi=>by unfold dgF;omega)]
  exact AYh λi _=>by unfold dgF;rw [if_pos rfl]
 have hb:∀ k,k<=n->0 < ANq f k/\ANq f k<=2 ^ k:=λk=>by
  induction k with
  | zero=>intro _;simp [ANq]
  | succ k ih=>
    intro hk
    have h1:=ih AHx
    have h2:=h k AHx
    simp only [ANq]
    refine ⟨Int.mul_pos h1.1 AHx,?_⟩
    rw [Int.pow_succ]
    exact Int.mul_le_mul h1.2 h2.2 AHx<|Int.le_of_lt<|Aeh k
 refine ⟨λi j hi hj=>?_,λk hk=>by grind,?_⟩
 ·unfold dgF;grind
 ·rw [hd n<|Nat.le_refl n];have:=(hb n<|Nat.le_refl n).2;have h2:=Ae6 hn;omega
structure A3z (n:Nat) (A:AIe):Prop where
 n1:1<=n
 n8:n<=8
 sym:AS2 n A
 pos:AVl n A
 bd:∀ i j,i < n->j < n->(A i j).natAbs<=9
 dt:det n A<=10000
theorem At9 {n m:Nat} {f:Nat->Int} (h:∀ r,r < n->1<=f r/\f r<=(m:Int)):∀ i j,i < n->j < n->(dgF f i j).natAbs<=m:=λi j hi hj=>by
 unfold dgF
 grind
theorem A5y {most:Int} {L L2:List Int} (h1:0<=a1/\a1 < 256) (hm:1<=most/\most<=8) (hf:100 < fuel):Ok (AK3 fuel a1 a2 L L2 most) λr=> ∃ n A,r=tab n n A/\A3z n A/\(n:Int)=1 + Int.tmod a1 most:=by
 have t1:=Int.emod_nonneg a1 (show most≠0 by omega);have t2:=Int.emod_lt_of_pos a1 (show 0 < most by omega);have t3:Int.tmod a1 most=a1 % most:=Int.tmod_eq_emod_of_nonneg h1.1
 have hN:w64 (1 + Int.tmod (w64 a1) most)=((1 + a1 % most).toNat:Int):=by
  rw [AKn (x:=a1) AHx AHx,t3,wk AHx];omega
 generalize hNN:(1 + a1 % most).toNat=N at hN;have Ad:1<=N:=by omega
 have Ab:N<=8:=by omega
 unfold AK3;refine AJ4 AHx<|AH9 (Q:=λe=> ∃ (q:Nat) (F:AIe),e=(tab N N F,(q:Int))/\q<=200/\ ∀ i j,i < N->j < N->(F i j).natAbs<=9) (AH9 (Q:=λ_=>True) ?_ λk _=>AI4 (λ_=>?_) λ_=>AI4 (λ_=>?_) λ_=>AI4 (λ_=>?_) λ_=>AI4 (λ_=>?_) λ_=>?_) λe he=>?_
 ·exact AI4 (λ_=>AH4 trivial) λ_=>AI4 (λ_=>AH4 trivial) λ_=>AI4 (λ_=>AH4 trivial) λ_=>AH4 trivial
 ·refine AH9 (Q:=λe=> ∃ (q:Nat) (F:AIe),e=(tab N N F,(q:Int))/\q<=200/\ ∀ i j,i < N->j < N->(F i j).natAbs<=9) (AH9 (Q:=λe=> ∃ (q:Nat) (f:Nat->Int),e=(tab N N<|dgF f,(q:Int))/\q<=8/\ ∀ r,r < N->1<=f r/\f r<=6) (AJ4 (by rw [hN];omega)<|AH9 (A7w (q0:=0) (L:=L) hN Ab AHx hf) λe he=>AH4 ?_) λe he=>?_) λe he=>AH4 he
  ·obtain ⟨q,f,rfl,h2,h3⟩:=he;grind
  ·obtain ⟨q,f,rfl,h2,h3⟩:=he;refine AH9 (A5v (L:=L) (q0:=q) Ab AHx (λi j hi hj=>Nat.le_trans (At9 (m:=6) h3 i j hi hj) AHz) hf) λe he=>AH4 ?_;obtain ⟨q,F,rfl,h4,h5⟩:=he;grind
 ·rw [hN];refine AH9 (At8 Ad Ab hf) λF hF=>?_;obtain ⟨F,rfl,hF⟩:=hF;refine AI8 (n:=0) (AJo AHx) rfl (AI8 (n:=0) (AI5 AHx) rfl (AH9 (Q:=λe:Int × Int=>0<=e.1/\e.1 < 3/\ ∃ p:Nat,e.2=(p:Int)/\p<=0 + 1) (AH9 (Ada (L:=L) (q:=0) AHx) λe he=>AH4 ⟨(Ab5 _ 3 AHz).1,(Ab5 _ 3 AHz).2,he⟩) λe he=>AH4 ?_));obtain ⟨c1,c2,p,c3,c4⟩:=he;have c5:=hF 0 0 AHx AHx;refine ⟨p,AKi F 0 λc=>if c=0 then F 0 0 + e.1 else F 0 c,?_,AHx,λi j hi hj=>?_⟩
  ·rw [c3,wk AHx];refine congrArg (λz=>(z,(p:Int))) ?_;show (tab N N F).set 0 ((AK7 N<|F 0).set 0 (F 0 0 + e.1))=_;rw [AL7];exact AS8
  ·rw [AJa];split
   ·grind
   grind
 ·rw [hN];refine AH9 (At8 Ad Ab hf) λF hF=>?_;obtain ⟨F,rfl,hF⟩:=hF;have w1:w64 ((N:Int) - 1)=((N - 1:Nat):Int):=by rw [wk AHx];omega
  rw [w1];refine AI8 (AJo AHx) rfl (AI8 (AI5 AHx) rfl (AH9 (Q:=λe:Int × Int=>0<=e.1/\e.1 < 2/\ ∃ p:Nat,e.2=(p:Int)/\p<=0 + 1) (AH9 (Ada (L:=L) (q:=0) AHx) λe he=>AH4 ⟨(Ab5 _ 2 AHz).1,(Ab5 _ 2 AHz).2,he⟩) λe he=>AH4 ?_));obtain ⟨c1,c2,p,c3,c4⟩:=he;have c5:=hF (N - 1) (N - 1) AHx AHx;refine ⟨p,AKi F (N - 1) λc=>if c=N - 1 then F (N - 1) (N - 1) + e.1 else F (N - 1) c,?_,AHx,λi j hi hj=>?_⟩
  ·rw [c3,wk AHx,AKf,AKf];refine congrArg (λz=>(z,(p:Int))) ?_;rw [AL7];exact AS8
  ·rw [AJa];split
   ·split
    ·omega
    grind
   grind
 ·refine AH9 (Q:=λe=> ∃ (q:Nat) (F:AIe),e=(tab N N F,(q:Int))/\q<=200/\ ∀ i j,i < N->j < N->(F i j).natAbs<=9) (AJ4 (by rw [hN];omega)<|AH9 (A5s (q0:=0) (L:=L) hN Ab AHx hf) λe he=>AH4 ?_) λe he=>AH4 he;obtain ⟨q,f,rfl,h2,h3⟩:=he;exact ⟨q,dgF f,rfl,AHx,λi j hi hj=>At9 (m:=9) h3 i j hi hj⟩
 ·refine AH9 (Q:=λe=> ∃ (q:Nat) (F:AIe),e=(tab N N F,(q:Int))/\q<=200/\ ∀ i j,i < N->j < N->(F i j).natAbs<=9) (AJ4 (by rw [hN];omega)<|AH9 (A5t (q0:=0) (L:=L) hN Ab AHx hf) λe he=>AH4 ?_) λe he=>AH4 he;obtain ⟨q,f,rfl,h2,h3⟩:=he;exact ⟨q,dgF f,rfl,AHx,λi j hi hj=>Nat.le_trans (At9 (m:=1) h3 i j hi hj) AHz⟩
 ·obtain ⟨q,F,rfl,h2,h3⟩:=he;dsimp only;refine AH9 (A5w Ad Ab (λi j hi hj=>Nat.le_trans (h3 i j hi hj) AHz) hf) λb hb=>AI4 (λhn=>?_) λhn=>AH4 ?_
  ·refine AH9 (Q:=λe=> ∃ f:Nat->Int,e.1=tab N N (dgF f)/\ ∀ r,r < N->1<=f r/\f r<=2) (AJ4 (by rw [hN];omega)<|AH9 (A5u (q0:=q) (L:=L) hN Ab AHx hf) λe he=>AH4 ?_) λe he=>AH4 ?_
   ·grind
   ·obtain ⟨f,h4,h5⟩:=he;obtain ⟨d1,d2,d3⟩:=A5x Ab h5;exact ⟨N,dgF f,h4,⟨Ad,Ab,d1,d2,λi j hi hj=>Nat.le_trans (At9 (m:=2) h5 i j hi hj) AHz,d3⟩,by rw [t3];omega⟩
  ·have hg:AS2 N F/\AVl N F/\det N F<=10000:=hb.1 (by simpa using hn);exact ⟨N,F,rfl,⟨Ad,Ab,hg.1,hg.2.1,h3,hg.2.2⟩,by rw [t3];omega⟩
theorem Azm (h1:LvF A k) (h2:SzF A (k + 1) k) (hp:0 < det (k + 1) A):det (k + 1) A * det (k + 1) A<=2 * (det k A * det (k + 2) A):=by
 unfold LvF at h1;unfold SzF at h2;have h3:(2 * Mn k A (k + 1) k) * (2 * Mn k A (k + 1) k)<=det (k + 1) A * det (k + 1) A:=Aeg AHx h2.2;grind
theorem AUc {x y:Int} (h0:0<=x) (h:x<=y):∀ k:Nat,x ^ k<=y ^ k
 | 0=>by simp
 | k + 1=>by
   rw [Int.pow_succ,Int.pow_succ]
   exact Int.mul_le_mul (AUc h0 h k) h h0<|Int.le_trans (Int.pow_nonneg h0)<|AUc h0 h k
def tri:Nat->Nat
 | 0=>0
 | k + 1=>tri k + (k + 1)
theorem Ar3 {n:Nat} (hp:AVl n A) (hs:Ag0 A n) (hl:Aim A n):∀ k,k + 1<=n->det k A ^ (k + 1)<=det (k + 1) A ^ k * 2 ^ tri k:=by
 intro k;induction k with
 | zero=>intro _;simp [det,tri]
 | succ k ih=>
   intro hk;have ih:=ih AHx;have p0:=hp k AHx;have p1:=hp (k + 1) AHx;have p2:=hp (k + 2) AHx;have h1:=Azm (hl k AHx) (hs (k + 1) k AHx AHx) p1;generalize det k A=a at *
   generalize det (k + 1) A=b at *
   generalize det (k + 2) A=c at *
   have h2:(b * b) ^ (k + 1)<=(2 * (a * c)) ^ (k + 1):=AUc (Int.le_of_lt<|Int.mul_pos p1 p1) h1 _;rw [Int.mul_pow,Int.mul_pow,Int.mul_pow] at h2;have h3:a ^ (k + 1) * c ^ (k + 1)<=b ^ k * 2 ^ tri k * c ^ (k + 1):=Int.mul_le_mul_of_nonneg_right ih<|Int.le_of_lt<|Int.pow_pos p2;have h4:2 ^ (k + 1) * (a ^ (k + 1) * c ^ (k + 1))<=2 ^ (k + 1) * (b ^ k * 2 ^ tri k * c ^ (k + 1)):=Int.mul_le_mul_of_nonneg_left h3<|Int.le_of_lt<|Aeh _;have h5:=Int.le_trans h2 h4;have e1:b ^ (k + 1) * b ^ (k + 1)=b ^ k * b ^ (k + 1 + 1):=by grind
   have e2:(2:Int) ^ (k + 1) * (b ^ k * 2 ^ tri k * c ^ (k + 1))=b ^ k * (c ^ (k + 1) * 2 ^ tri (k + 1)):=by
    have:(2:Int) ^ tri (k + 1)=2 ^ tri k * 2 ^ (k + 1):=by rw [<- Int.pow_add];rfl
    rw [this];grind
   rw [e1,e2] at h5;exact Int.le_of_mul_le_mul_left h5<|Int.pow_pos p1
def dU:Nat->Int
 | 8=>10000
 | 7=>35777
 | 6=>64000
 | 5=>57243
 | 4=>25600
 | _=>10000
theorem A7x (k:Nat):dU k<=64000:=by unfold dU;split <;> omega
theorem A30 (k:Nat):10000<=dU k:=by unfold dU;split <;> omega
theorem A2s:∀ k,k < 8->dU (k + 1) ^ k * 2 ^ tri k < (dU k + 1) ^ (k + 1):=by decide
theorem Av2 {n:Nat} (hn:n<=8) (hp:AVl n A) (hs:Ag0 A n) (hl:Aim A n) (hd:det n A<=10000):∀ m k,k + m=n->det k A<=dU k:=by
 intro m
 induction m with
 | zero=>
    intro k hk;obtain rfl:k=n:=by omega
    exact Int.le_trans hd (A30 _)
 | succ m ih=>
   intro k hk
   have h1:=ih (k + 1) AHx
   have h2:=Ar3 hp hs hl k AHx
   have p0:=hp k AHx
   have p1:=hp (k + 1) AHx
   rcases Int.lt_or_le (dU k) (det k A) with h | h
   ·exfalso
    have h3:(dU k + 1) ^ (k + 1)<=det k A ^ (k + 1):=AUc (by have:=A30 k;omega) AHx _
    have h4:det (k + 1) A ^ k * 2 ^ tri k<=dU (k + 1) ^ k * 2 ^ tri k:=Int.mul_le_mul_of_nonneg_right (AUc (Int.le_of_lt p1) h1 k)<|Int.le_of_lt<|Aeh _
    have h5:=A2s k AHx
    omega
   ·exact h
theorem Ag1 {n:Nat} (hn:n<=8) (R:Alh n A) (hk:k<=n):0 < det k A/\det k A<=64000:=
 ⟨R.pos k hk,Int.le_trans (Av2 hn R.pos R.sz R.lv R.dt (n - k) k AHx)<|A7x k⟩
theorem Ajk {n:Nat} (hn:n<=8) (R:Alh n A) (hi:i < n) (hj:j < n): -192000<=A i j/\A i j<=192000:=
 Ap8 R.sym R.pos (λk hk=>Apy (Dm:=64000) hn R.sym R.pos hk (λk hk=>(Ag1 hn R hk).2) λl hl=>R.sz k l hl hk) hi hj
structure RB (n:Nat) (A:AIe) (k:Nat):Prop where
 pos:∀ j,k < j->j<=n->0 < det j A
 lt:∀ j,k < j->j < n->det j A < 65536
 sz:∀ l i,k<=l->l < i->i < n->SzF A i l
 lv:∀ l,k<=l->l + 1 < n->LvF A l
 dt:det n A<=10000
theorem A5z {m:Nat} (h0:0 < det k A) (hF:∀ i j,i < m + 1->j < m + 1->F i j=Mn k A (k + i) (k + j)) (hi:i < m) (hj:j < m):Aan F (det k A) i j=Mn (k + 1) A (k + 1 + i) (k + 1 + j):=by
 unfold Aan;rw [hF 0 0 AHx AHx,hF (i + 1) (j + 1) AHx AHx,hF (i + 1) 0 AHx AHx,hF 0 (j + 1) AHx AHx,Nat.add_zero,Ae0 AHx,Int.mul_tdiv_cancel_left _ AHx];grind
theorem Aqa {n:Nat}:∀ (m k:Nat) (F:AIe),k + m=n->1<=m->0 < det k A->(∀ i j,i < m->j < m->F i j=Mn k A (k + i) (k + j))->(AY2 m F (det k A)=true↔RB n A k):=by
 intro m
 induction m with
 | zero=>omega
 | succ m ih=>
   intro k F hk _ h0 hF
   have Ad:F 0 0=det (k + 1) A:=by rw [hF 0 0 AHx AHx];exact ARp k A
   cases m with
   | zero=>
     obtain rfl:k + 1=n:=hk
     show decide (0 < F 0 0/\F 0 0<=10000)=true↔_
     rw [decide_eq_true_iff,Ad]
     exact ⟨λh=>⟨λj h1 h2=>by grind,λj h1 h2=>by omega,λl i h1 h2 h3=>by omega,λl h1 h2=>by omega,h.2⟩,λh=>⟨h.pos (k + 1) AHx<|Nat.le_refl _,h.dt⟩⟩
   | succ m=>
     have hN:∀ i j,i < m + 1->j < m + 1->Aan F (det k A) i j=Mn (k + 1) A (k + 1 + i) (k + 1 + j):=λi j hi hj=>A5z h0 hF hi hj
     have hS:AY1 (m + 1 + 1) F↔(0 < det (k + 1) A/\det (k + 1) A < 65536)/\ ∀ i,k < i->i < n->SzF A i k:=by
      unfold AY1
      rw [Ad]
      refine and_congr_right λ_=>⟨λh i h1 h2=>?_,λh i h1 h2=>?_⟩
      ·have h3:=h (i - k) AHx AHx
       rw [hF (i - k) 0 AHx AHx,show k + (i - k)=i by omega] at h3
       unfold SzF
       grind
      ·have h3:=h (k + i) AHx AHx
       unfold SzF at h3
       grind
     have hL:Afg F (det k A)↔LvF A k:=by
      unfold Afg LvF
      rw [Ad,hN 0 0 AHx AHx,Nat.add_zero,ARp (k + 1) A,hF 1 0 AHx AHx,Nat.add_zero]
      grind
     show (decide (AY1 (m + 1 + 1) F) && (decide (Afg F<|det k A) && AY2 (m + 1) (Aan F<|det k A) (F 0 0)))=true↔_
     rw [Bool.and_eq_true,Bool.and_eq_true,decide_eq_true_iff,decide_eq_true_iff,hS,hL,Ad]
     constructor
     ·rintro ⟨⟨⟨h1,h2⟩,h3⟩,h4,h5⟩
      have R:=(ih (k + 1) _ AHx AHx h1 hN).1 h5
      refine ⟨λj a b=>?_,λj a b=>?_,λl i a b c=>?_,λl a b=>?_,R.dt⟩
      ·by_cases e:j=k + 1
       ·grind
       ·exact R.pos j AHx b
      ·by_cases e:j=k + 1
       ·grind
       ·exact R.lt j AHx b
      ·by_cases e:l=k
       ·grind
       ·exact R.sz l i AHx b c
      ·by_cases e:l=k
       ·grind
       ·exact R.lv l AHx b
     ·intro R
      have h1:=R.pos (k + 1) AHx AHx
      exact ⟨⟨⟨h1,R.lt (k + 1) AHx AHx⟩,λi a b=>R.sz k i (Nat.le_refl k) a b⟩,R.lv k (Nat.le_refl k) AHx,(ih (k + 1) _ AHx AHx h1 hN).2 ⟨λj a b=>R.pos j AHx b,λj a b=>R.lt j AHx b,λl i a b c=>R.sz l i AHx b c,λl a b=>R.lv l AHx b,R.dt⟩⟩
def Ah8 (M:List (List Int)):Prop:=(1<=M.length/\M.length<=8)/\(∀ z∈M,z.length=M.length)/\Alh M.length (ent M)
theorem Amg (M:List (List Int)):isRed M=true↔Ah8 M:=by
 unfold isRed;rw [Bool.and_eq_true];constructor
 ·rintro ⟨h1,h2⟩;have S:=Akk h1;have R:=(Aqa (A:=ent M) (n:=M.length) M.length 0 (ent M) AHx S.1.1 (by simp [det]) λi j _ _=>by rw [AU1,Nat.zero_add,Nat.zero_add]).1 (by simpa [det] using h2);refine ⟨S.1,S.2.1,λi j hi hj=>(S.2.2 i j hi hj).1,λk hk=>?_,λr l h3 h4=>R.sz l r (Nat.zero_le _) h3 h4,λl hl=>R.lv l (Nat.zero_le _) hl,R.dt⟩;rcases Nat.eq_zero_or_pos k with h | h
  ·subst h;simp [det]
  ·exact R.pos k h hk
 ·rintro ⟨h1,h2,R⟩;refine ⟨(APn ⟨h1,h2,λi j hi hj=>⟨R.sym i j hi hj,?_,?_⟩⟩).symm,?_⟩
  ·have:=Ajk h1.2 R hi hj;omega
  ·have:=Ajk h1.2 R hi hj;omega
  ·have h3:=(Aqa (A:=ent M) (n:=M.length) M.length 0 (ent M) AHx h1.1 (by simp [det]) λi j _ _=>by rw [AU1,Nat.zero_add,Nat.zero_add]).2 ⟨λj _ hj=>R.pos j hj,λj _ hj=>by have:=Ag1 h1.2 R (k:=j) AHx;omega,λl i _ a b=>R.sz i l a b,λl _ hl=>R.lv l hl,R.dt⟩;simpa [det] using h3
open Go.ChangeShapes Go.WideShapes Go.ChangeAt Go.RowKit
theorem Av3:Tryz.prog.cellsOf 24=4:=by kernel_rfl
theorem Azn {H:Type} {enc:TypeId × Value->H} {W:World} {r:Reach} {b0:Nat} {v:Value} {d:DataW H} {p:List MemPlace} (hv:Value.okWide Tryz.prog W r b0 24 v) (h:DataW.Trod enc Tryz.prog W 0 (λ_=>true) true 24 v d p):
 ∃ (g k:Int) (lv bv:Value) (Z Y:List Int),v= .agg #[.int .u8 g,.int .u8 k,lv,bv]/\SlC (cI .i8) W.heap lv Z/\SlC (cI .i8) W.heap bv Y/\(0<=g/\g < 256)/\(0<=k/\k < 256)/\(∀ z∈Z,-128<=z/\z<=127)/\ ∀ z∈Y,-128<=z/\z<=127:=by
 obtain ⟨cs,rfl,hsz⟩:=okWide_struct Tryz.underlying24 hv;rw [Av3] at hsz;obtain ⟨l⟩:=cs
 match l,hsz with
 | [c0,c1,c2,c3],_=>
   obtain ⟨fuel,hf⟩:=h;obtain ⟨y0,y1,y2,y3,n,_,_,h0,h1,h2,h3⟩:=Joins.trod_struct4 Tryz.underlying24 hf;simp [Value.cells,Aw1,Aw2] at h0 h1 h2 h3;obtain ⟨x0,e0,_,w0⟩:=DataW.trod_int Tryz.underlying5 h0;obtain ⟨x1,e1,_,w1⟩:=DataW.trod_int Tryz.underlying5 h1;simp at e0 e1;subst e0;subst e1;have b0:=wf_u8 w0;have b1:=wf_u8 w1;obtain ⟨Z,HZ,hZ⟩:=Aw3 h2;obtain ⟨Y,HY,hY⟩:=Aw3 h3;exact ⟨x0,x1,c2,c3,Z,Y,rfl,Ayq HZ,Ayq HY,AHx,AHx,hZ,hY⟩
end Go.Proofs.YtegoafpaljeobaaGreatDoor
namespace Go.Proofs.YtegoafpaljeobaaGreatDoor
theorem Aua {n:Nat} (hn:n<=8) (R:Alh n A) (hk:k<=n) (hi:i < n) (hj:j < n):(Mn k A i j).natAbs<=12288000000:=by
 have h1:=Ah3 R.sym R.pos hk hi hj
 have b:∀ i,i < n->Mn k A i i<=12288000000:=λi hi=>by
  have h2:=Ay3 R.sym R.pos hi k hk
  have h3:=Ag1 hn R hk
  have h4:=Ajk hn R hi hi
  have h5:det k A * A i i<=det k A * 192000:=Int.mul_le_mul_of_nonneg_left h4.2 AHx
  omega
 have p:=λi (hi:i < n)=>Ah4 R.sym R.pos hk hi;have h2:=Int.mul_le_mul (b i hi) (b j hj) (p j hj) AHx;have:=Apw (x:=Mn k A i j) (y:=12288000000) AHx<|Int.le_trans h1 h2;omega
theorem A50 {n:Nat} (Aq:1<=n) (hn:n<=8) (R:Alh n A) (hf:100 < fuel):APx fuel (tab n n A)=some (det n A):=by
 apply ok_eq;unfold APx;rw [AJf];refine AJ4 AHx ?_;rw [Int.toNat_natCast];refine AH9 (AJg (λi s=>s=(((i:Nat):Int),part n i A)/\i<=n) n (Q:=(· =tab n n A)) ⟨by rw [AVw n A];rfl,Nat.zero_le _⟩ AHx λi s hi hI=>?_) λe he=>?_
 ·obtain ⟨rfl,hin⟩:=hI;unfold ATt;dsimp only;rw [AJf];refine AI4 (λh=>AI8 (AJo AHx) rfl (AJ4 AHx<|AI8 (AZj AHx) rfl ?_)) λh=>AH4 ?_
  ·have hi':i < n:=by omega
   rw [Int.toNat_natCast,AKf,AOm n (0:Int),AXg];refine AI8 (ATv AHx hi') rfl (AJ4 (by rw [AJ5,AJ5];omega)<|AH4 ⟨hi',?_,AHx⟩);rw [wk AHx,AKf,AVn AHx,Aey,AX4];grind
  ·obtain rfl:i=n:=by omega
   exact AVv _ _
 subst he;refine AH9 (Q:=(· =1)) ⟨1,if_pos AHx,rfl⟩ λone h1=>?_;subst h1;refine AH9 (AJg (λk s=> ∃ G,s=(false,((k:Int),tab n n G,det k A))/\k<=n/\ ∀ r c,k<=r->r < n->k<=c->c < n->G r c=Mn k A r c) n (Q:=λex=>match ex with | .inl e=>False | .inr (neg,last)=>neg=false/\last=det n A) ⟨A,rfl,Nat.zero_le _,λr c _ _ _ _=>(AU1 A r c).symm⟩ AHx λk s hk hI=>?_) λex hex=>?_
 ·obtain ⟨G,rfl,hkn,hG⟩:=hI;unfold ATs;dsimp only;rw [AJf];refine AI4 (λh=>?_) λh=>AH4 ⟨rfl,?_⟩
  ·have hk':k < n:=by omega
   have hGk:G k k=det (k + 1) A:=by rw [hG k k AHx hk' AHx hk',ARp]
   have hpos:0 < det (k + 1) A:=R.pos (k + 1) AHx;have hlast:=Ag1 hn R (k:=k) AHx;refine AH9 (Q:=(· =(k:Int))) (AH9 (AJg (λ_ s=>s=(k:Int)) 0 (Q:=(· =(k:Int))) rfl AHx λi s hi hI=>?_) λe he=>AH4 he) λe he=>?_
   ·subst hI;unfold ATp;rw [AJf];refine AH9 (Q:=λex=>match ex with | .inl _=>False | .inr _=>True) (AI4 (λh2=>AI8 (AJo hk') rfl (AI8 (AI5 hk') rfl (AH9 (AJ2 (a:=AOr<|G k k) rfl) λsg hsg=>AI4 (λh3=>?_) λh3=>AH4 trivial))) λh2=>absurd h h2) λex hex=>?_
    ·exfalso;rw [hsg] at h3;have:=(AZi _).1 h3;omega
    ·cases ex with
     | inl u=>exact hex.elim
     | inr u=>exact AH4 rfl
   ·subst he;refine AI4 (λh2=>by omega) λ_=>AH9 (Q:=(· =(false,tab n n G))) (AI4 (λh2=>absurd rfl h2) λ_=>AH4 rfl) λr hr=>?_;subst hr;dsimp only;refine AI8 (AJo hk') rfl (AI8 (AI5 hk') rfl ?_);rw [wk AHx]
    have hq:∀ r c,k < r->r < n->k < c->c < n->bQ k G (det k A) r c=Mn (k + 1) A r c:=λr c h1 h2 h3 h4=>by
     unfold bQ
     rw [hGk,hG r c AHx h2 AHx h4,hG r k AHx h2 AHx hk',hG k c AHx hk' AHx h4,<- ARp k A,Ae0 AHx,Int.mul_ediv_cancel_left _ AHx]
    have habs:∀ r c,k<=r->r < n->k<=c->c < n->(G r c).natAbs<=12288000000:=λr c h1 h2 h3 h4=>by rw [hG r c h1 h2 h3 h4];exact Aua hn R AHx h2 h4
    refine AH9 (AJg (λi s=>s=(((k + 1 + i:Nat):Int),tab n n<|bF k G (det k A) (k + 1 + i)<|k + 1)/\k + 1 + i<=n) (n - (k + 1)) (Q:=(· =tab n n (bF k G (det k A) n<|k + 1))) ⟨by rw [Nat.add_zero,Api];simp,AHx⟩ AHx λi s hi hI=>?_) λa3 Ag=>?_
    ·obtain ⟨rfl,hin⟩:=hI;unfold ATr;dsimp only;rw [AJf];obtain ⟨q,hqe⟩:∃ q,k + 1 + i=q:=⟨_,rfl⟩;rw [hqe] at hin ⊢;refine AI4 (λh3=>?_) λh3=>AH4 ?_
     ·have hqn:q < n:=by omega
      rw [wk AHx];refine AH9 (AJg (λj s=>s=(((k + 1 + j:Nat):Int),tab n n<|bF k G (det k A) q<|k + 1 + j)/\k + 1 + j<=n) (n - (k + 1)) (Q:=(· =tab n n (bF k G (det k A) q n))) ⟨AI9,AHx⟩ AHx λj s hj hJ=>?_) λa4 Ah=>AH4 ?_
      ·obtain ⟨rfl,hjn⟩:=hJ;unfold ATq;dsimp only;rw [AJf];obtain ⟨c,hc⟩:∃ c,k + 1 + j=c:=⟨_,rfl⟩;rw [hc] at hjn ⊢;refine AI4 (λh4=>?_) λh4=>AH4 ?_
       ·have hcn:c < n:=by omega
        have a1:=habs k k AHx hk' AHx hk';have a2:=habs q c AHx hqn AHx hcn;have a3:=habs q k AHx hqn AHx hk';have a4:=habs k c AHx hk' AHx hcn;have m1:=Nat.mul_le_mul a1 a2;have m2:=Nat.mul_le_mul a3 a4;have hB:12288000000 * 12288000000 < AM1:=by decide
        refine AI8 (AJo hqn) rfl (AI8 (AI5 hcn) rfl ?_);rw [A3r];refine AH9 (AJ2 (a:=G k k * G q c)<|if_pos AHx) λx1 Ak=>AI8 (AI5 hk') rfl (AI8 (AJo hk') rfl (AI8 (AI5 hcn) rfl ?_));subst Ak;rw [A3q,Ath];refine AH9 (AJ2 (a:=G q k * G k c)<|if_pos AHx) λx2 Am=>?_;subst Am;refine AH9 (AJ2 (a:=G k k * G q c - G q k * G k c)<|if_pos ⟨by rw [Int.natAbs_mul];omega,by rw [Int.natAbs_mul];omega⟩) λx3 Ao=>?_;subst Ao
        have hnum:G k k * G q c - G q k * G k c=det k A * Mn (k + 1) A q c:=by
         rw [hGk,hG q c AHx hqn AHx hcn,hG q k AHx hqn AHx hk',hG k c AHx hk' AHx hcn,<- ARp k A,Ae0 AHx]
        have m3:(det k A * Mn (k + 1) A q c).natAbs<=64000 * 12288000000:=by
         rw [Int.natAbs_mul]
         exact Nat.mul_le_mul AHx<|Aua hn R AHx hqn hcn
        refine AH9 (Q:=λx=>x.1=bQ k G (det k A) q c) ⟨_,if_pos ⟨by rw [hnum];omega,AHx,AHx⟩,rfl⟩ λx4 Ap=>AH4 ⟨AHx,?_,AHx⟩;rw [Ap,wk AHx,Akg,Ayf k G (det k A) AHx AHx];grind
       grind
      ·subst Ah;refine ⟨AHx,?_,AHx⟩;rw [wk AHx];congr 1
       ·omega
       ·refine ARc λr c hr hc=>?_;rw [Aye k n G (det k A) q hc,<- Nat.add_assoc,hqe]
     grind
    ·subst Ag;refine AH4 ⟨hk',bF k G (det k A) n<|k + 1,?_,AHx,λr c h1 h2 h3 h4=>?_⟩
     ·rw [hGk];rfl
     ·have:bF k G (det k A) n (k + 1) r c=bQ k G (det k A) r c:=by unfold bF;omega
      grind
  grind
 ·match ex,hex with
  | .inl e,hex=>exact hex.elim
  | .inr (neg,last),hex=>
    obtain ⟨rfl,rfl⟩:=hex
    dsimp only
    exact AI4 (λh=>nomatch h) λ_=>AH4 rfl
theorem Aqb {n:Nat} (hn:1<=n) (Ab:n<=16) (hf:100 < fuel):APw fuel (tab n n F)=some ((n:Int),(n:Int),true)/\AOy fuel (tab n n F)=some ((n:Int),(n:Int),true):=by
 constructor <;>
 ·apply ok_eq;first | unfold APw | unfold AOy
  rw [AJf];refine AH9 (Q:=λex=>match ex with | .inl _=>False | .inr _=>True) (AI4 (λh=>by omega) λh=>AI4 (λh2=>by omega) λh2=>AH4 trivial) λex hex=>?_
  cases ex with
  | inl e=>exact hex.elim
  | inr u=>
    dsimp only
    refine AI8 (n:=0) (AJo AHx) rfl ?_
    rw [AJ5]
    refine AH9 (Q:=λex=>match ex with | .inl _=>False | .inr _=>True) (AI4 (λh=>by omega) λh=>AI4 (λh2=>by omega) λh2=>AH4 trivial) λex hex=>?_
    cases ex with
    | inl e=>exact hex.elim
    | inr u=>
      dsimp only
      refine AH9 (AJg (λi (s:Int)=>s=i) n (Q:=λex=>match ex with | .inl _=>False | .inr _=>True) rfl AHx λi s hi hI=>?_) λex hex=>?_
      ·subst hI
       first | unfold ATo | unfold AR8
       rw [AJf]
       refine AI4 (λh=>AI8 (AJo AHx) rfl ?_) λh=>AH4 trivial
       rw [AJ5,AJ5]
       exact AI4 (λh2=>absurd rfl h2) λ_=>AH4 ⟨AHx,wk AHx⟩
      ·cases ex with
       | inl e=>exact hex.elim
       | inr u=>exact AH4 rfl
theorem A2t {n:Nat} (hn:1<=n) (Aa:n<=16) (hb:∀ i j,i < n->j < n->(F i j).natAbs<=9223372036854775807) (hf:100 < fuel):ASj fuel (tab n n F)=some (tab n n F,true):=by
 apply ok_eq;unfold ASj;refine AH9 (AJ2 (Aqb hn Aa hf).1) λx hx=>?_;subst hx;dsimp only;refine AI4 (λh=>nomatch h) λ_=>AH9 (Q:=(· =tab n n F)) (AJ4 AHx ?_) λe he=>AH4 (by rw [he]);rw [Int.toNat_natCast];refine AH9 (AJg (λi s=>s=(((i:Nat):Int),part n i F)/\i<=n) n (Q:=(· =tab n n F)) ⟨by rw [AVw n F];rfl,Nat.zero_le _⟩ AHx λi s hi hI=>?_) λe he=>AH4 he;obtain ⟨rfl,hin⟩:=hI;unfold AVh;dsimp only;rw [List.length_replicate,Int.toNat_natCast];refine AI4 (λh=>AJ4 AHx<|AI8 (AZj AHx) rfl ?_) λh=>AH4 ?_
 ·have hi':i < n:=by omega
  rw [AKf,AOm n (0:Int),AXg];refine AI8 (ATv AHx hi') rfl ?_;rw [AKk];refine AH9 (AJg (λj s=>s=(((j:Nat):Int),part n (i + 1)<|AKi F i λc=>if c < j then F i c else 0)/\j<=n) n (Q:=(· =part n (i + 1) F)) ⟨?_,Nat.zero_le _⟩ AHx λj s hj hJ=>?_) λe he=>AH4 ⟨hi',?_,AHx⟩
  ·grind
  ·obtain ⟨rfl,hjn⟩:=hJ;unfold AVg;dsimp only;rw [AJ5];refine AI4 (λh=>?_) λh=>AH4 ?_
   ·have hj':j < n:=by omega
    refine AI8 (ATv AHx hi') rfl ?_;rw [AKk];have:=hb i j hi' hj';refine AH9 (Q:=(· =F i j)) (AI8 (AJo hi') rfl (AI8 (AI5 hj') rfl (AH9 (Q:=(· =F i j)) ⟨_,if_pos AHx,rfl⟩ λx hx=>AH4 hx))) λx hx=>?_;subst hx;refine AI8 (AI5 hj') rfl (AH4 ⟨AHx,?_,AHx⟩);rw [wk AHx,AKf,AKf,AL7,AVn AHx,Aey];grind
   ·obtain rfl:j=n:=by omega
    unfold part;refine AJ3 λr hr=>?_;split
    ·refine AJ3 λc hc=>?_;rw [AJa];grind
    ·rfl
  ·rw [he,wk AHx];rfl
 ·obtain rfl:i=n:=by omega
  exact AVv _ _
def Ak1 (d p e:Int):Prop:= ∃ (k:Nat) (r:Int),e=k/\d=r * p ^ k/\¬ p ∣ r
theorem Ag2 {a b:Int} (hp:2<=p) (ha:Ak1 d p a) (hb:Ak1 d p b):a=b:=by
 have key:∀ (k l:Nat) (r s:Int),k < l->r * p ^ k=s * p ^ l->p ∣ r:=λk l r s hkl h=>by
  obtain ⟨m,rfl⟩:∃ m,l=k + 1 + m:=⟨l - k - 1,AHx⟩
  rw [Int.pow_add,Int.pow_add,Int.pow_one] at h
  have h1:p ^ k * r=p ^ k * (p * (s * p ^ m)):=by grind
  exact ⟨_,Int.eq_of_mul_eq_mul_left (Int.pow_ne_zero AHx) h1⟩
 obtain ⟨k,r,rfl,h1,h2⟩:=ha;obtain ⟨l,s,rfl,h3,h4⟩:=hb;grind
theorem Ae8 {r:Int} (hp:2<=p) (hr:0 < r) (hd:d<=10000) (h:d=r * p ^ k):k<=13:=by
 rcases Nat.lt_or_ge 13 k with h1 | h1
 ·exfalso;have h2:(2:Int) ^ 14<=2 ^ k:=Ae6 h1;have h3:(2:Int) ^ k<=p ^ k:=AUc AHx hp k;have h4:1 * p ^ k<=r * p ^ k:=Int.mul_le_mul_of_nonneg_right AHx AHx;omega
 ·exact h1
theorem A51 (Ac:1<=d) (hd:d<=10000) (hp:2<=p) (Ad:p<=9973) (hf:100 < fuel):Ok (AJk fuel d p) (Ak1 d p):=by
 unfold AJk;refine AH9 (AJg (λi s=> ∃ r:Int,s=(r,(i:Int))/\0 < r/\d=r * p ^ i) 14 (Q:=Ak1 d p) ⟨d,rfl,AHx,AI9⟩ AHx λi s hi hI=>?_) λe he=>AH4 he;obtain ⟨r,rfl,hr,hdr⟩:=hI;have Ae:=Ae8 hp hr hd hdr
 have hrd:r<=d:=by
  have h1:r * 1<=r * p ^ i:=Int.mul_le_mul_of_nonneg_left (Int.pow_pos AHx) AHx
  omega
 unfold AOo;dsimp only;refine AH9 (Q:=λex=>match ex with | .inl _=>p ∣ r | .inr _=> ¬ p ∣ r) (AI4 (λh=>AJ4 AHx<|AI4 (λh2=>AH4 ?_) λh2=>AH4 ?_) λh=>by omega) λex hex=>?_
 ·exact Int.dvd_of_tmod_eq_zero h2
 ·exact λh3=>h2<|Int.tmod_eq_zero_of_dvd h3
 ·cases ex with
  | inl u=>
    obtain ⟨q,rfl⟩:p ∣ r:=hex
    have hq:0 < q:=Int.pos_of_mul_pos_right hr AHx
    have hqr:1 * q<=p * q:=Int.mul_le_mul_of_nonneg_right AHx AHx
    refine AJ4 AHx<|AH4 ⟨AHx,q,?_,hq,by grind⟩
    rw [Int.mul_tdiv_cancel_left _ AHx,AKn (x:=q) AHx AHx,wk AHx]
    rfl
  | inr u=>exact AH4 ⟨i,r,rfl,hdr,hex⟩
def pwL (p:Int) (m:Nat):List Int:=AK7 m λi=>p ^ (2 ^ i)
theorem Azo {a b:Int} (ha:a.natAbs < 18446744073709551616) (hb:b.natAbs < 18446744073709551616) (h0:b≠0):Aeb fuel a b=some (a / b,a % b,true):=if_pos ⟨ha,hb,h0⟩
theorem A52 (Am:1<=d) (hd:d<=10000) (hp:Pr p) (Ag:p<=9973) (hf:100 < fuel):Ok (ASk fuel d p) λr=>Ak1 d p r.1:=by
 have Ae:2<=p:=hp.1;have pw:∀ k:Nat,0 < p ^ k:=λk=>Int.pow_pos AHx;unfold ASk;refine AH9 (AJ2 (a:=AS7 p) rfl) λb hb=>?_;rw [<- Agf AHx hp] at hb;subst hb;refine AI4 (λh=>nomatch h) λ_=>AH9 (AJ2 (a:=AOr d) rfl) λs hs=>?_;subst hs;refine AI4 (λh=>absurd ((AZi d).1 h) AHx) λ_=>AH9 (AJ2 (a:=d) rfl) λx hx=>AH9 (Q:=(· =p)) ⟨p,if_pos AHx,rfl⟩ λy hy=>?_;subst hx;subst hy;refine AH9 (AJg (λj s=> ∃ r:Int,s=(pwL y<|j + 1,r,((2 ^ j - 1:Nat):Int))/\0 < r/\x=r * y ^ (2 ^ j - 1)) 5 (Q:=λe=> ∃ (j:Nat) (r:Int),e=(pwL y<|j + 1,r,((2 ^ j - 1:Nat):Int))/\0 < r/\x=r * y ^ (2 ^ j - 1)/\¬ y ^ (2 ^ j) ∣ r/\j<=4) ⟨x,?_,AHx,AI9⟩ AHx λj s hj hI=>?_) λe he=>?_
 ·refine congrArg (λl=>(l,x,(0:Int))) ?_;show [y]=[y ^ 1];rw [Int.pow_one]
 ·obtain ⟨r,rfl,hr,hxr⟩:=hI;have Ao:=Ae8 Ae hr hd hxr
  have Af:j<=3:=by
   rcases Nat.lt_or_ge 3 j with h | h
   ·exfalso
    have:=Nat.pow_le_pow_right (show 0 < 2 by omega) h
    omega
   ·exact h
  have hrx:r<=x:=by
   have h1:r * 1<=r * y ^ (2 ^ j - 1):=Int.mul_le_mul_of_nonneg_left (pw _) AHx
   omega
  have hjp:1<=2 ^ j:=Nat.one_le_two_pow
  have Ap:2 ^ j<=8:=by
   have:=Nat.pow_le_pow_right (show 0 < 2 by omega) Af
   omega
  have hyb:y ^ (2 ^ j)<=10000 * 9973:=by
   have e1:y ^ (2 ^ j)=y ^ (2 ^ j - 1) * y:=by rw [<- Int.pow_succ];congr 1;omega
   have h2:1 * y ^ (2 ^ j - 1)<=r * y ^ (2 ^ j - 1):=Int.mul_le_mul_of_nonneg_right AHx<|Int.le_of_lt<|pw _
   rw [e1]
   exact Int.mul_le_mul AHx Ag AHx AHx
  have Ad:=pw<|2 ^ j;unfold AVk;dsimp only;have hl:(pwL y<|j + 1).length=j + 1:=AJ5 _ _;rw [hl,AKn (x:=((j + 1:Nat):Int) - 1) AHx AHx];refine AI8 (n:=j) (AI5 AHx) AHx<|AJ4 AHx ?_;rw [show (((j + 1:Nat):Int) - 1).toNat=j by omega,show (1:Int) * 2 ^ j=((2 ^ j:Nat):Int) by simp,AKn (x:=((2 ^ j:Nat):Int)) AHx AHx];refine AH9 (Q:=λe:Bool × Int × Int=>if y ^ (2 ^ j) ∣ r then e=(true,r / y ^ (2 ^ j),((2 ^ (j + 1) - 1:Nat):Int)) else e=(false,r,((2 ^ j - 1:Nat):Int))) (AH9 (AJ2<|Azo (fuel:=fuel) (a:=r) (b:=y ^ (2 ^ j)) AHx AHx AHx) λq hq=>AH9 (AJ2 (a:=AOr q.2.1) rfl) λs hs=>?_) λe he=>?_
  ·subst hq;subst hs;dsimp only;refine AI4 (λh=>AH4 ?_) λh=>AH4 ?_
   ·have hnd: ¬ y ^ (2 ^ j) ∣ r:=λh2=>h<|(AZi _).2 (Int.emod_eq_zero_of_dvd h2);rw [if_neg hnd]
   ·have hdv:y ^ (2 ^ j) ∣ r:=Int.dvd_of_emod_eq_zero<|(AZi _).1 (Classical.not_not.1 h);rw [if_pos hdv,wk AHx,Nat.pow_succ];grind
  ·by_cases hdv:y ^ (2 ^ j) ∣ r
   ·rw [if_pos hdv] at he;subst he;dsimp only;refine AI4 (λ_=>?_) λh=>absurd rfl h;obtain ⟨q,rfl⟩:=hdv;have Ah:0 < q:=Int.pos_of_mul_pos_right hr Ad;have hqm:y ^ (2 ^ j) * 1<=y ^ (2 ^ j) * q:=Int.mul_le_mul_of_nonneg_left AHx AHx;have hB:10000 * 10000 < AM1:=by decide
    have m1:(y ^ (2 ^ j)).natAbs * (y ^ (2 ^ j)).natAbs<=10000 * 10000:=Nat.mul_le_mul AHx AHx;refine AH9 (AJ2 (a:=y ^ (2 ^ j) * y ^ (2 ^ j))<|if_pos AHx) λz hz=>AJ4 AHx<|AH4 ⟨AHx,q,?_,Ah,?_⟩
    ·subst hz;rw [Int.mul_ediv_cancel_left _ AHx];refine congrArg (λl=>(l,q,((2 ^ (j + 1) - 1:Nat):Int))) ?_;have e1:y ^ (2 ^ j) * y ^ (2 ^ j)=y ^ (2 ^ (j + 1)):=by rw [<- Int.pow_add,Nat.pow_succ];congr 1;omega
     rw [e1];exact AX3 (j + 1) λi=>y ^ (2 ^ i)
    ·rw [hxr];have e1:y ^ (2 ^ (j + 1) - 1)=y ^ (2 ^ j) * y ^ (2 ^ j - 1):=by rw [<- Int.pow_add,Nat.pow_succ];congr 1;omega
     rw [e1];grind
   ·rw [if_neg hdv] at he;subst he;exact AI4 (λh=>nomatch h) λ_=>AH4 ⟨j,r,rfl,hr,hxr,hdv,AHx⟩
 ·obtain ⟨j,r,rfl,hr,hxr,hnd,Af⟩:=he;dsimp only
  have hY:∀ q,q < j->y ^ (2 ^ q)<=10000:=λq hq=>by
   have h0:=Nat.pow_le_pow_right (show 0 < 2 by omega) (show q + 1<=j by omega)
   have h1:=Nat.one_le_two_pow (n:=q)
   rw [Nat.pow_succ] at h0
   have e1:y ^ (2 ^ j - 1)=y ^ (2 ^ q) * y ^ (2 ^ j - 1 - 2 ^ q):=by rw [<- Int.pow_add];congr 1;omega
   have h2:y ^ (2 ^ q) * 1<=y ^ (2 ^ q) * y ^ (2 ^ j - 1 - 2 ^ q):=Int.mul_le_mul_of_nonneg_left (pw _)<|Int.le_of_lt<|pw _
   have h3:1 * y ^ (2 ^ j - 1)<=r * y ^ (2 ^ j - 1):=Int.mul_le_mul_of_nonneg_right AHx<|Int.le_of_lt<|pw _
   omega
  have hl:(pwL y<|j + 1).length=j + 1:=AJ5 _ _;rw [hl,AKn (x:=((j + 1:Nat):Int) - 2) AHx AHx];refine AH9 (AJg (λi s=> ∃ (r:Int) (k:Nat),s=((j:Int) - 1 - i,r,(k:Int))/\i<=j/\0 < r/\x=r * y ^ k/\¬ y ^ (2 ^ (j - i)) ∣ r) j (Q:=λe=> ∃ (r:Int) (k:Nat),e=(r,(k:Int))/\x=r * y ^ k/\¬ y ∣ r) ⟨r,2 ^ j - 1,by grind,AHx,hr,hxr,AHx⟩ AHx λi s hi hI=>?_) λe he=>?_
  ·obtain ⟨r,k,rfl,hij,hr,hxr,hnd⟩:=hI;have Au:=Ae8 Ae hr hd hxr
   have hrx:r<=x:=by
    have h1:r * 1<=r * y ^ k:=Int.mul_le_mul_of_nonneg_left (pw _) AHx
    omega
   unfold AVj;dsimp only;refine AI4 (λh=>?_) λh=>AH4 ⟨r,k,rfl,hxr,?_⟩
   ·obtain ⟨q,hq⟩:∃ q:Nat,(j:Int) - 1 - i=q:=⟨j - 1 - i,AHx⟩;rw [hq];have hqj:q < j + 1:=by omega
    have Aj:q<=3:=by omega
    have Av:1<=2 ^ q:=Nat.one_le_two_pow;have Aw:2 ^ q<=8:=by have:=Nat.pow_le_pow_right (show 0 < 2 by omega) Aj;omega
    have hyb:=hY q AHx;have Ad:=pw<|2 ^ q;have hsmall:y ^ (2 ^ q) ∣ r->y ^ (2 ^ q)<=r:=λh=>Int.le_of_dvd hr h;refine AI8 (n:=q) (AI5 hqj) rfl (AJ4 AHx ?_);rw [Int.toNat_natCast,show (1:Int) * 2 ^ q=((2 ^ q:Nat):Int) by simp,AKn (x:=((2 ^ q:Nat):Int)) AHx AHx];refine AH9 (Q:=λe:Bool × Int × Int=>if y ^ (2 ^ q) ∣ r then e=(true,r / y ^ (2 ^ q),((k + 2 ^ q:Nat):Int)) else e=(false,r,(k:Int))) (AH9 (AJ2<|Azo (fuel:=fuel) (a:=r) (b:=y ^ (2 ^ q)) AHx AHx AHx) λt ht=>AH9 (AJ2 (a:=AOr t.2.1) rfl) λs hs=>?_) λe he=>?_
    ·subst ht;subst hs;dsimp only;refine AI4 (λh=>AH4 ?_) λh=>AH4 ?_
     ·have hnd: ¬ y ^ (2 ^ q) ∣ r:=λh2=>h<|(AZi _).2 (Int.emod_eq_zero_of_dvd h2);rw [if_neg hnd]
     ·have hdv:y ^ (2 ^ q) ∣ r:=Int.dvd_of_emod_eq_zero<|(AZi _).1 (Classical.not_not.1 h);rw [if_pos hdv,wk AHx];grind
    ·rw [AKn (x:=(q:Int) - 1) AHx AHx];by_cases hdv:y ^ (2 ^ q) ∣ r
     ·rw [if_pos hdv] at he;subst he;obtain ⟨w,rfl⟩:=hdv;have Ak:0 < w:=Int.pos_of_mul_pos_right hr Ad;refine AH4 ⟨AHx,w,k + 2 ^ q,?_,AHx,Ak,?_,?_⟩
      ·rw [Int.mul_ediv_cancel_left _ AHx];grind
      ·grind
      ·rw [show j - (i + 1)=q by omega];rintro ⟨u,rfl⟩;refine hnd ⟨u,?_⟩;rw [show j - i=q + 1 by omega,Nat.pow_succ,Nat.mul_two,Int.pow_add];grind
     ·rw [if_neg hdv] at he;subst he;refine AH4 ⟨AHx,r,k,?_,AHx,hr,hxr,by grind⟩;grind
   ·have:j - i=0:=by omega
    rw [this,Nat.pow_zero,Int.pow_one] at hnd;exact hnd
  ·obtain ⟨r,k,rfl,h1,h2⟩:=he;exact AH4 ⟨k,r,rfl,h1,h2⟩
theorem Ag3 (R:Ah8 M):M=tab M.length M.length (ent M):=Aq2 R.2.1
theorem Aub {n:Nat} (Ac:1<=n) (hn:n<=8) (R:Alh n A):Ah8 (tab n n A):=by
 refine ⟨by rw [AJf];omega,λz hz=>by rw [AJf];exact Agg z hz,?_⟩;rw [AJf];have e:∀ i j,i < n->j < n->ent (tab n n A) i j=A i j:=λi j hi hj=>Amq hi hj;have hd:∀ k,k<=n->det k (ent<|tab n n A)=det k A:=λk hk=>AJm λi j hi hj=>e i j AHx AHx
 have hm:∀ k i j,k<=n->i < n->j < n->Mn k (ent<|tab n n A) i j=Mn k A i j:=λk i j hk hi hj=>by
  unfold Mn
  exact AJm λa b ha hb=>e _ _ (AXe hk hi)<|AXe hk hj
 refine ⟨λi j hi hj=>by rw [e i j hi hj,e j i hj hi];exact R.sym i j hi hj,λk hk=>by rw [hd k hk];exact R.pos k hk,λr l h1 h2=>?_,λr hr=>?_,by rw [hd n<|Nat.le_refl n];exact R.dt⟩
 ·have:=R.sz r l h1 h2;unfold SzF at this ⊢;grind
 ·have:=R.lv r hr;unfold LvF at this ⊢;grind
theorem Ak2 (R:Ah8 M):1<=det M.length (ent M)/\det M.length (ent M)<=10000:=⟨by have:=R.2.2.pos _<|Nat.le_refl _;omega,R.2.2.dt⟩
theorem Auc (R:Ah8 M) (hi:i < M.length) (hj:j < M.length):(ent M i j).natAbs<=192000:=by have:=Ajk R.1.2 R.2.2 hi hj;omega
theorem Av4 (R:Ah8 M) (hf:100 < fuel):AQp fuel M=some (det M.length<|ent M):=by
 apply ok_eq;obtain ⟨v1,v2⟩:=Ak2 R;have hT:=Ag3 R;have h1:=R.1;unfold AQp;generalize hF:ent M=F at *;generalize hL:M.length=n at *;have hb:∀ i j,i < n->j < n->(F i j).natAbs<=192000:=λi j hi hj=>by subst hF;subst hL;exact Auc R hi hj
 rw [hT];refine AH9 (AJ2<|Anu h1.1 AHx (λi j hi hj=>Nat.le_trans (hb i j hi hj) AHz) AHx) λx hx=>?_;subst hx;refine AH9 (AJ2<|Agt h1.2 (Nat.le_refl _) (λi j hi hj=>Nat.le_trans (hb i j hi hj)<|Nat.le_trans AHz<|Apl _) AHx) λy hy=>?_;subst hy;refine AH9 (AJ2 (a:=(det n F,true))<|if_pos AHx) λz hz=>AH4 ?_;rw [hz]
theorem A53 (Ab:1<=d) (hd:d<=10000) (hp:2<=p) (h:Ak1 d p v):0<=v/\v<=13:=by
 obtain ⟨k,r,rfl,h1,h2⟩:=h
 have hr:0 < r:=by
  have hpk:0 < p ^ k:=Int.pow_pos AHx
  rcases Int.lt_or_le 0 r with h | h
  ·exact h
  ·have:=Int.mul_nonpos_of_nonpos_of_nonneg h<|Int.le_of_lt hpk;omega
 have:=Ae8 hp hr hd h1;omega
theorem Ae9 (R:Ah8 M) (hp:Pr p) (hp2:p<=9973) (hf:100 < fuel):∃ v,Ak1 (det M.length<|ent M) p v/\(0<=v/\v<=13)/\AMf fuel M p=some (if p=2 then v + 3 else v + 1)/\AOz fuel M p=some (if p=2 then v + 3 else v + 1):=by
 obtain ⟨v1,v2⟩:=Ak2 R;obtain ⟨⟨v,r0,e0⟩,hv1,hv⟩:=A52 v1 v2 hp hp2 hf;dsimp only at hv;have hvb:=A53 v1 v2 hp.1 hv
 refine ⟨v,hv,hvb,?_,?_⟩
 ·apply ok_eq;have hT:=Ag3 R;have h1:=R.1;have RF:=R.2.2;unfold AMf;generalize hF:ent M=F at *
  generalize hL:M.length=n at *
  have hb:∀ i j,i < n->j < n->(F i j).natAbs<=192000:=λi j hi hj=>by subst hF;subst hL;exact Auc R hi hj
  rw [hT];refine AH9 (AJ2<|A2t h1.1 AHx (λi j hi hj=>Nat.le_trans (hb i j hi hj) AHz) hf) λx hx=>?_;subst hx;dsimp only
  refine AH9 (Q:=(· =(det n F,true))) ?_ λy hy=>?_
  ·unfold AZf;refine AH9 (AJ2 (Aqb h1.1 AHx hf).2) λx hx=>?_;subst hx;dsimp only;exact AI4 (λh=>nomatch h) λ_=>AI4 (λh=>absurd rfl h) λ_=>AH9 (AJ2<|A50 h1.1 h1.2 RF hf) λz hz=>AH4 (by rw [hz])
  ·subst hy;dsimp only;refine AH9 (AJ2 hv1) λz hz=>?_;subst hz;dsimp only
   refine AI4 (λh=>AH4 ?_) λh=>AH4 ?_
   ·rw [if_pos h,wk AHx]
   ·rw [if_neg h,wk AHx]
 ·apply ok_eq;unfold AOz;refine AH9 (AJ2<|Av4 R hf) λd hd=>?_;subst hd;refine AH9 (A51 v1 v2 hp.1 hp2 hf) λw hw=>?_;obtain rfl:=Ag2 hp.1 hv hw
  refine AI4 (λh=>AH4 ?_) λh=>AH4 ?_
  ·rw [if_pos h,wk AHx]
  ·rw [if_neg h,wk AHx]
theorem Ass (a:Int) (m:Nat) (ha:0<=a) (hm:0 < m):∃ q:Nat,Int.tmod a (m:Int)=q/\q < m:=by
 rw [Int.tmod_eq_emod_of_nonneg ha];have h1:=Int.emod_nonneg a (show (m:Int)≠0 by omega);have h2:=Int.emod_lt_of_pos a (show (0:Int) < m by omega);exact ⟨(a % m).toNat,AHx,AHx⟩
def AUd (fuel:Nat) (a3:LiI) (Ab:Int):Option (Int ⊕ (Bool ⊕ Unit)):=
 if Ab < (a3.length:Int) then (gI a3 Ab).bind λAc=>(gI a3 0).bind λAd=>if ¬ (Ac.length:Int)=(Ad.length:Int) then some (.inr<|.inl false) else some (.inl<|w64<|Ab + 1) else some<|.inr<|.inr ()
def AOd (fuel:Nat) (a3:LiI):Option Bool:=
 ((if (a3.length:Int) < 1 then some (.inl false) else if 16 < (a3.length:Int) then some (.inl false) else (gI a3 0).bind λAb=>if (Ab.length:Int) < 1 then some (.inl false) else if 16 < (Ab.length:Int) then some (.inl false) else some<|.inr ()):Option (Bool ⊕ Unit)).bind (λex=>match ex with | .inl Ac=>(some Ac) | .inr _=>(iter (λs=>AUd fuel a3 s) fuel 0).bind (λex=>match ex with | .inl Ad=>(some Ad) | .inr _=>some true))
theorem AUe {r:Bool} (H2:ANp (cI .i64) h Ao a3) (hp:AOd fuel a3=some r):AI7 Tryz.prog 43 #[Ao] h (λx h'=>Ext h h'/\x= .bool r):=by
 unfold AOd at hp;refine cwf (l:=[_]) Tryz.func43 rfl rfl (AH1<|AH7 ?_);have K0:=Kst.k0 h;obtain ⟨Az,Ap,Ac⟩:=AH2 hp;refine ARb 134217700 (λx:Unit=>[]) (λx h'=>(Sum.inr <| ())=Az/\Kst h h' (K0.L)) ?_ ?_
 ·refine AH1<|AHy<|AJh AIk rfl H2 (AI3 rfl rfl (AHy ?_));by_cases Af:(a3.length:Int) < 1
  ·rw [decide_eq_true Af];refine ANe 8 true<|AIm rfl (AHy<|AN1 13 true<|AIm rfl (AHy<|AN1 20 true<|AIm rfl (AH5<|AI2 rfl (AH1<|AH7 ?_))));obtain rfl:=AH0<|ifT Ap Af;refine AIc<|AIt ?_;obtain rfl:=AH0 Ac;exact ⟨_,AId,K0.x,rfl⟩
  ·have Aq:=ifF Ap Af;rw [decide_eq_false Af];refine AIs 8 false<|AHy<|AIs 8 false<|AJh AIk rfl H2 (AIs 8 false<|APu rfl rfl (AIn rfl (AHy ?_)));by_cases Ag:16 < (a3.length:Int)
   ·rw [decide_eq_true Ag];refine AN1 13 true<|AIm rfl (AHy<|AN1 20 true<|AIm rfl (AH5<|AI2 rfl (AH1<|AH7 ?_)));obtain rfl:=AH0<|ifT Aq Ag;refine AIc<|AIt ?_;obtain rfl:=AH0 Ac;exact ⟨_,AId,K0.x,rfl⟩
   ·rw [decide_eq_false Ag];refine AIs 13 false<|AHy<|AIs 13 false ?_;obtain ⟨A3,Ar,Au⟩:=AH2<|ifF Aq Ag;refine Ad7 AIk rfl H2 rfl Ar λBf Bg Bh A4 A5=>AIs 13 false<|AI1 AIv rfl (AIj A4 K0.x) (AIs 13 false<|AJ8 AIi rfl A5 (AIs 13 false<|AI3 rfl rfl (AIn rfl (AHy ?_))));by_cases Ah:(A3.length:Int) < 1
    ·rw [decide_eq_true Ah];refine AN1 20 true<|AIm rfl (AH5<|AI2 rfl (AH1<|AH7 ?_));obtain rfl:=AH0<|ifT Au Ah;refine AIc<|AIt ?_;obtain rfl:=AH0 Ac;exact ⟨_,AId,K0.x,rfl⟩
    ·have Av:=ifF Au Ah;rw [decide_eq_false Ah];refine AIs 20 false<|AHy<|AIs 20 false<|Ad7 AIk rfl H2 rfl Ar λBi Bj Bl A6 A7=>AIs 20 false<|AI1 AIv rfl (AIj A6 K0.x) (AIs 20 false<|AJ8 AIi rfl A7 (AIs 20 false<|APu rfl rfl (AIn rfl (AH5<|⟨_,rfl,λAi=>?_,λAi=>?_⟩))))
     ·refine AH1<|AH7 ?_;obtain rfl:=AH0<|AJb Av Ai;refine AIc<|AIt ?_;obtain rfl:=AH0 Ac;exact ⟨_,AId,K0.x,rfl⟩
     ·refine AIa<|q_t ?_;exact ⟨(():Unit),⟨AH0<|AJc Av Ai,K0⟩,trivial⟩
 rintro ⟨⟩ Bm Bn ⟨A8,Aw⟩;subst A8;refine AH3<|AH1<|AHy<|AJh AIk rfl H2 (AHy<|AH5<|AH6<|APb 2198486384660 Ac (λx=>[(29,(.int .i64 x))]) (λx=>Aw.L) Aw ⟨rfl,trivial⟩ ?_);rintro Bo Bp Bq Br Ad Aj Ax;unfold AUd at Aj;refine AH1<|AI3 rfl rfl (AH5<|AH3<|⟨_,rfl,λAk=>?_,λAk=>?_⟩)
 ·refine AIa<|q_t<|AH3<|AH6<|AH1 ?_;obtain ⟨Bt,A9,Ba⟩:=AH2<|AJb Aj Ak;refine ATc AIk AIv H2 Ad.x A9 λ_ Bu Bb=>AJd<|AHy<|AJ8 AIi rfl Bb (AHy ?_);obtain ⟨Bv,Bc,Ay⟩:=AH2 Ba;refine ATc AIk AIv H2 Ad.x Bc λ_ Bw Be=>AJ8 AIi rfl Be (AK0 rfl rfl (AH5<|⟨_,rfl,λAm=>?_,λAm=>?_⟩))
  ·refine AH1<|AH7<|AIc<|AKa<|AIt<|AIt<|AKa<|AIt ?_;obtain rfl:=AH0<|Ax _ (AH0<|AJb Ay Am).symm;exact ⟨_,AId,Ad.x,rfl⟩
  ·refine AIa<|q_b<|q_t<|AIf<|AI0 rfl rfl (AHy<|AH5 ?_);exact ⟨_,(AH0<|AJc Ay Am).symm,Ad,rfl,trivial⟩
 ·refine AIq<|AIr<|AIr<|AJt<|q_t<|AH1<|AH7<|AIc ?_;obtain rfl:=AH0<|Ax _ (AH0<|AJc Aj Ak).symm;exact ⟨_,AId,Ad.x,rfl⟩
def AQh (fuel:Nat) (a3:LiI):Option Bool:=
 (AOd fuel a3).bind λx5=>if x5=true then (gI a3 0).bind λAc=>if (a3.length:Int)=(Ac.length:Int) then some (decide ((a3.length:Int)<=8)) else some false else some false
theorem Aab {Ae:Value} {r:Bool} (H2:ANp (cI .i64) h Ae a3) (hp:AQh fuel a3=some r):AI7 Tryz.prog 89 #[Ae] h (λx h'=>Ext h h'/\x= .bool r):=by
 unfold AQh at hp;refine cwf (l:=[_]) Tryz.func89 rfl rfl (AH1<|AJd<|AHy ?_);have K0:=Kst.k0 h;obtain ⟨x5,Ak,Ag⟩:=AH2 hp;refine ALx K0 (AUe (H2.ext K0.x) Ak) λh9 E8 Ab=>AHy ?_;cases Ah:x5
 ·refine AN1 5 false<|AP2 5 false<|AIn rfl (AHy<|ANe 14 false<|AIn rfl (AH7<|AIc ?_));obtain rfl:=AH0<|AQa Ag Ah;exact ⟨_,AId,Ab.x,rfl⟩
 ·refine AIs 5 true<|AHy<|AIs 5 true<|AJh AIk rfl H2 (AIs 5 true<|AHy<|AIs 5 true ?_);obtain ⟨Am,Ao,Ai⟩:=AH2<|ifT Ag Ah;refine Ad7 AIk rfl H2 rfl Ao λAv Aw Ax Ap Aq=>AIs 5 true<|AI1 AIv rfl (AIj Ap Ab.x) (AIs 5 true<|AJ8 AIi rfl Aq (AIs 5 true<|AKd rfl rfl (AIm rfl (AHy ?_))));by_cases Ac:(a3.length:Int)=(Am.length:Int)
  ·rw [decide_eq_true Ac];refine AIs 14 true<|AHy<|AIs 14 true<|AJh AIk rfl H2 (AIs 14 true<|Aho rfl rfl (AIm rfl (AH7<|AIc ?_)));obtain rfl:=AH0<|ifT Ai Ac;exact ⟨_,AId,Ab.x,rfl⟩
  ·rw [decide_eq_false Ac];refine ANe 14 false<|AIn rfl (AH7<|AIc ?_);obtain rfl:=AH0<|ifF Ai Ac;exact ⟨_,AId,Ab.x,rfl⟩
def AK5 (fuel:Nat) (a1:Int):Option Int:=
 if a1 < 2 then some 1 else if 2147483647 < a1 then some 1 else some 0
theorem AO9 {r:Int} (hp:AK5 fuel a1=some r):AI7 Tryz.prog 44 #[(.int .i64 a1)] h (λx h'=>Ext h h'/\x= .int .i64 r):=by
 unfold AK5 at hp;refine cwf (l:=[_]) Tryz.func44 rfl rfl (AH1<|AH7<|AH3<|AH1<|AHy<|AI3 rfl rfl (AHy ?_));have K0:=Kst.k0 h;by_cases Aa:a1 < 2
 ·rw [decide_eq_true Aa];refine AP2 5 true<|AIm rfl (AH5<|AI2 rfl (AH1<|AH7<|AIc<|AIt ?_));obtain rfl:=AH0<|ifT hp Aa;exact ⟨_,AId,K0.x,rfl⟩
 ·have Ae:=ifF hp Aa;rw [decide_eq_false Aa];refine AIs 5 false<|AHy<|AIs 5 false<|APu rfl rfl (AIn rfl (AH5<|⟨_,rfl,λAd=>?_,λAd=>?_⟩))
  ·refine AH1<|AH7<|AIc<|AIt ?_;obtain rfl:=AH0<|AJb Ae Ad;exact ⟨_,AId,K0.x,rfl⟩
  ·refine AIa<|q_t<|AH1<|AH7<|AIc ?_;obtain rfl:=AH0<|AJc Ae Ad;exact ⟨_,AId,K0.x,rfl⟩
def ARr (fuel:Nat) (a5 Ad:Int) (Ae:LiA) (Ab:Int) (Ac:LiI):Option ((Int × LiI) ⊕ LiI):=
 if Ab < (Ae.length:Int) then (gI Ae Ab).bind λAg=>(gI Ac Ad).bind λAf=>if a5≠0 then if a5≠0 then (gI Af Ab).bind λAh=>some (.inl (w64<|Ab + 1,sI Ac Ad<|sI Af Ab<|Int.tmod (w64<|Int.tmod Ag a5 + a5) a5)) else none else none else some<|.inr Ac
def ARs (fuel:Nat) (a3:LiI) (a5 Aa:Int) (Ac:LiI):Option ((Int × LiI) ⊕ LiI):=
 if Aa < (a3.length:Int) then (gI a3 Aa).bind λAb=>if 0<=(Ab.length:Int)/\(Ab.length:Int)<=100000000 then (gI Ac Aa).bind λAg=>(iter (λs=>ARr fuel a5 Aa Ab s.1 s.2) fuel (0,sI Ac Aa<|List.replicate (Int.toNat (Ab.length:Int)) (0:Int))).bind (λ(Af:LiI)=>some<|.inl (w64<|Aa + 1,Af)) else none else some<|.inr Ac
def ALd (fuel:Nat) (a3:LiI) (a5:Int):Option LiI:=
 if 0<=(a3.length:Int)/\(a3.length:Int)<=100000000 then (iter (λs=>ARs fuel a3 a5 s.1 s.2) fuel (0,List.replicate (Int.toNat (a3.length:Int)) ([]:List Int))).bind (λ(Ac:LiI)=>some Ac) else none
theorem APf {r:LiI} (H2:ANp (cI .i64) h Ao a3) (hp:ALd fuel a3 a5=some r):AI7 Tryz.prog 45 #[Ao,(.int .i64 a5)] h (λx h'=>Ext h h'/\ ∃ (x0:Value) (F0:List Nat) (A3:List LnA) (A4:List Value),x=x0/\ALl (cI .i64) 41 2 h' F0 A3 A4 x0 r/\Sp h' h.size [F0]):=by
 unfold ALd at hp;refine cwf (l:=[_,_]) Tryz.func45 rfl rfl (AH1<|AJd<|AHy<|AJh AIk rfl H2 ?_);obtain ⟨A5,A6⟩:=ifN hp;refine Aay (cI .i64) 2 AIk AU9 rfl trivial tt2 rfl rfl AHz A5 λA7 A8 A9 Au Ce Ba E8 S9=>AH7<|AH3<|AH1<|AHy<|AJh AIk rfl H2 (AHy<|AH5<|AH6 ?_);have Av:=(Kst.k0 h).no2 E8 S9 Ba;refine AOq 281474976678848 (λx:(Int) × (LiI) × LnA × LnN × LvA=>(x.1,x.2.1)) ((0,(List.replicate (Int.toNat (a3.length:Int)) ([]:List Int)),A7,A8,A9):(Int) × (LiI) × LnA × LnN × LvA) A6 (λx=>[(15,(.int .i64 x.1))]) (λx=>Av.L.set 0<|aO2 (cI .i64) 41 2 x.2.2.1 x.2.2.2.1 x.2.2.2.2 Au x.2.1) Av ⟨rfl,trivial⟩ ?_;rintro ⟨Aa,Be,Cf,Aw,Bf⟩ Cg Ch Ci Ab Ag Bg;unfold ARs at Ag;refine AH1<|AI3 rfl rfl (AH5<|AH3<|⟨_,rfl,λAh=>?_,λAh=>?_⟩)
 ·refine AIa<|q_t<|AH3<|AH6<|AH1<|AHy ?_;obtain ⟨Bh,Bi,Bj⟩:=AH2<|AJb Ag Ah;refine ATc AIk AIv H2 Ab.x Bi λ_ Cj Ai=>AIw<|AJd<|AHy<|AHy<|AHy<|AJ8 AIi rfl Ai ?_;obtain ⟨Bl,Bm⟩:=ifN Bj;refine AYw (c:=(cI .i64)) (a:=0) AIi ARy rfl rfl (λ_=>rfl) rfl trivial tt2 rfl rfl AHz Bl λAx Bn Ck Bo Bp Bq Br=>?_;have Ac:=Ab.no Bp (ANs Bq Br) Bo;obtain ⟨Cm,Ay,Bt⟩:=AH2 Bm;refine AJr AIk rfl (Ac.o2 p1) rfl Ay λBu Cn Bv Co Cp=>Aax AIv (Ac.o2 p1) Ay Bv rfl rfl (Ac.o p0) (Ac.dj p0 p1 AHz) λCq Bw Bx By=>AQs<|AHy<|AJ8 AIi rfl Ai (AHy<|AH5<|AH6 ?_);have Aj:=(Ac.m2 p0 p1 AHz Bx Bw λz hz=> .inl<|By z hz).sel [1] AHz;dsimp only [APr,AS0] at Aj;refine AOq 140737219920640 (λx:(Int) × (LiI) × LnA × LnN × LvA=>(x.1,x.2.1)) ((0,(sI Be Aa<|List.replicate (Int.toNat (Bh.length:Int)) (0:Int)),(Bu :: (Aw.set (Int.toNat Aa) [Ax]).flatten),(Aw.set (Int.toNat Aa) [Ax]),(Bf.set (Int.toNat Aa) Bn)):(Int) × (LiI) × LnA × LnN × LvA) Bt (λx=>[(28,(.int .i64 x.1))]) (λx=>Aj.L.set 0<|aO2 (cI .i64) 41 2 x.2.2.1 x.2.2.2.1 x.2.2.2.2 Au x.2.1) Aj ⟨rfl,trivial⟩ ?_;rintro ⟨Cr,Ct,Cu,Cv,Cw⟩ Cx Cy Cz Ad Ak Bz;unfold ARr at Ak;refine AH1<|AI3 rfl rfl (AH5<|AH3<|⟨_,rfl,λAm=>?_,λAm=>?_⟩)
  ·refine AIa<|q_t<|AH3<|AH6<|AH1<|AHy ?_;obtain ⟨C0,B2,B3⟩:=AH2<|AJb Ak Am;refine Aii AIi AIg Ai Ad.x B2 λ_=>(AIw<|AH7<|AMw<|AHy<|AHy ?_);obtain ⟨C1,Az,B4⟩:=AH2 B3;refine AKe AIk AIv (Ad.o2 p0) Az λ_ C3 B5=>AHy<|AHy<|AHy ?_;obtain ⟨B6,B7⟩:=ifN B4;refine ALg rfl rfl B6 (AHy<|AI0 rfl rfl (AHy ?_));obtain ⟨B8,B9⟩:=ifN B7;refine ALg rfl rfl B8 ?_;obtain ⟨C4,Ca,Cb⟩:=AH2 B9;refine AT0 (m:=Aa) Ad p0 AIi AIg B5 Az Ca (λ_=>rfl) λ_ C5 Cd=>AIu<|q_b<|q_t<|AIf<|AI0 rfl rfl (AHy<|AH5 ?_);exact ⟨(_,_,_,_,_),(AH0 Cb).symm,Cd,rfl,trivial⟩
  ·refine AIq<|AIr<|AIr<|AJt<|q_b<|q_t<|AIf<|AI0 rfl rfl (AHy<|AH5 ?_);exact ⟨(_,_,_,_,_),(AH0<|Bz _ (AH0<|AJc Ak Am).symm).symm,Ad,rfl,trivial⟩
 ·refine AIq<|AIr<|AIr<|AJt<|q_t<|AH1<|AHy<|AH7<|AIc ?_;obtain rfl:=AH0<|Bg _ (AH0<|AJc Ag Ah).symm;exact ⟨_,AId,Ab.x,_,_,_,_,rfl,(Ab.o2 p0),Ab.s.sel [0] AHz⟩
def AXh (fuel:Nat) (a3:LiI) (Ab Aa:Int) (Ac:LiI):Option ((Int × LiI) ⊕ LiI):=
 if Aa < (a3.length:Int) then (gI a3 Aa).bind λAf=>(gI Ac Ab).bind λAe=>(gI Af Ab).bind λAg=>(gI Ae Aa).bind λAh=>some (.inl (w64<|Aa + 1,sI Ac Ab<|sI Ae Aa Ag)) else some<|.inr Ac
def AXi (fuel:Nat) (a3:LiI) (x5:LiA) (Aa:Int) (Ac:LiI):Option ((Int × LiI) ⊕ LiI):=
 if Aa < ((List.replicate (Int.toNat (x5.length:Int)) ([]:List Int)).length:Int) then if 0<=(a3.length:Int)/\(a3.length:Int)<=100000000 then (gI Ac Aa).bind λAf=>(iter (λs=>AXh fuel a3 Aa s.1 s.2) fuel (0,sI Ac Aa<|List.replicate (Int.toNat (a3.length:Int)) (0:Int))).bind (λ(Ae:LiI)=>some<|.inl (w64<|Aa + 1,Ae)) else none else some<|.inr Ac
def AV4 (fuel:Nat) (a3:LiI):Option LiI:=
 (gI a3 0).bind λx5=>if 0<=(x5.length:Int)/\(x5.length:Int)<=100000000 then (iter (λs=>AXi fuel a3 x5 s.1 s.2) fuel (0,List.replicate (Int.toNat (x5.length:Int)) ([]:List Int))).bind (λ(Ac:LiI)=>some Ac) else none
theorem Adb {r:LiI} (H2:ANp (cI .i64) h Ao a3) (hp:AV4 fuel a3=some r):AI7 Tryz.prog 149 #[Ao] h (λx h'=>Ext h h'/\ ∃ (x0:Value) (F0:List Nat) (Az:List LnA) (A3:List Value),x=x0/\ALl (cI .i64) 41 2 h' F0 Az A3 x0 r/\Sp h' h.size [F0]):=by
 unfold AV4 at hp;refine cwf (l:=[_]) Tryz.func149 rfl rfl (AH1<|AJd<|AHy ?_);have K0:=Kst.k0 h;obtain ⟨x5,A5,A6⟩:=AH2 hp;refine ATc AIk AIv H2 K0.x A5 λ_ r8 H9=>AJ8 AIi rfl H9 ?_;obtain ⟨A8,A9⟩:=ifN A6;refine Aay (cI .i64) 2 AIk AU9 rfl trivial tt2 rfl rfl AHz A8 λBa Bb Bc Au Ce Be Bf Bg=>AH7<|AH3<|AH1<|AHy ?_;have Ag:=K0.no2 Bf Bg Be;refine AJh AIk rfl (Ag.o2 p0).rd (AHy<|AH5<|AH6<|AOq 4398046494832 (λx:(Int) × (LiI) × LnA × LnN × LvA=>(x.1,x.2.1)) ((0,(List.replicate (Int.toNat (x5.length:Int)) ([]:List Int)),Ba,Bb,Bc):(Int) × (LiI) × LnA × LnN × LvA) A9 (λx=>[(14,(.int .i64 x.1))]) (λx=>Ag.L.set 0<|aO2 (cI .i64) 41 2 x.2.2.1 x.2.2.2.1 x.2.2.2.2 Au x.2.1) Ag ⟨rfl,trivial⟩ ?_);rintro ⟨Aa,Bh,Cf,Av,Bi⟩ Cg Ch Ci Ae Ah Bj;unfold AXi at Ah;refine AH1<|AI3 rfl rfl (AH5<|AH3<|⟨_,rfl,λAi=>?_,λAi=>?_⟩)
 ·refine AIa<|q_t<|AH3<|AH6<|AH1<|AHy<|AJd<|AHy<|AHy<|AHy<|AJh AIk rfl H2 ?_;obtain ⟨Bl,Bm⟩:=ifN<|AJb Ah Ai;refine AYw (c:=(cI .i64)) (a:=0) AIi ARy rfl rfl (λ_=>rfl) rfl trivial tt2 rfl rfl AHz Bl λAw Bn Cj Bo Bp Bq Br=>?_;have Ab:=Ae.no Bp (ANs Bq Br) Bo;obtain ⟨Ck,Ax,Bt⟩:=AH2 Bm;refine AJr AIk rfl (Ab.o2 p1) rfl Ax λBu Cm Bv Cn Co=>Aax AIv (Ab.o2 p1) Ax Bv rfl rfl (Ab.o p0) (Ab.dj p0 p1 AHz) λCp Bw Bx By=>AQs<|AHy<|AJh AIk rfl H2 (AHy<|AH5<|AH6 ?_);have Aj:=(Ab.m2 p0 p1 AHz Bx Bw λz hz=> .inl<|By z hz).sel [1] AHz;dsimp only [APr,AS0] at Aj;refine AOq 2198989701216 (λx:(Int) × (LiI) × LnA × LnN × LvA=>(x.1,x.2.1)) ((0,(sI Bh Aa<|List.replicate (Int.toNat (a3.length:Int)) (0:Int)),(Bu :: (Av.set (Int.toNat Aa) [Aw]).flatten),(Av.set (Int.toNat Aa) [Aw]),(Bi.set (Int.toNat Aa) Bn)):(Int) × (LiI) × LnA × LnN × LvA) Bt (λx=>[(25,(.int .i64 x.1))]) (λx=>Aj.L.set 0<|aO2 (cI .i64) 41 2 x.2.2.1 x.2.2.2.1 x.2.2.2.2 Au x.2.1) Aj ⟨rfl,trivial⟩ ?_;rintro ⟨Cq,Cr,Ct,Cu,Cv⟩ Cw Cx Cy Ac Ak Bz;unfold AXh at Ak;refine AH1<|AI3 rfl rfl (AH5<|AH3<|⟨_,rfl,λAm=>?_,λAm=>?_⟩)
  ·refine AIa<|q_t<|AH3<|AH6<|AH1<|AHy ?_;obtain ⟨Cz,B2,B3⟩:=AH2<|AJb Ak Am;refine ATc AIk AIv H2 Ac.x B2 λ_ C0 B4=>AIw<|AH7<|AMw<|AHy<|AHy ?_;obtain ⟨C1,Ay,B5⟩:=AH2 B3;refine AKe AIk AIv (Ac.o2 p0) Ay λ_ C3 B6=>AHy<|AHy<|AHy ?_;obtain ⟨C4,B7,B8⟩:=AH2 B5;refine Aii AIi AIg B4 Ac.x B7 λ_=>?_;obtain ⟨C5,B9,Ca⟩:=AH2 B8;refine AT0 (m:=Aa) Ac p0 AIi AIg B6 Ay B9 (λ_=>rfl) λ_ C6 Cb=>AIu<|q_b<|q_t<|AIf<|AI0 rfl rfl (AHy<|AH5 ?_);exact ⟨(_,_,_,_,_),(AH0 Ca).symm,Cb,rfl,trivial⟩
  ·refine AIq<|AIr<|AIr<|AJt<|q_b<|q_t<|AIf<|AI0 rfl rfl (AHy<|AH5 ?_);exact ⟨(_,_,_,_,_),(AH0<|Bz _ (AH0<|AJc Ak Am).symm).symm,Ac,rfl,trivial⟩
 ·refine AIq<|AIr<|AIr<|AJt<|q_t<|AH1<|AHy<|AH7<|AIc ?_;obtain rfl:=AH0<|Bj _ (AH0<|AJc Ah Ai).symm;exact ⟨_,AId,Ae.x,_,_,_,_,rfl,(Ae.o2 p0),Ae.s.sel [0] AHz⟩
def AYl (fuel:Nat) (a9 Ad Ag:Int) (Ae:LiA) (Aa:Int) (Ab:LiI):Option ((Int × LiI) ⊕ LiI):=
 if Aa < (Ae.length:Int) then (gI Ae Aa).bind λAh=>(gI Ab Ad).bind λAf=>(gI Af Aa).bind λAi=>if a9≠0 then some (.inl (w64<|Aa + 1,sI Ab Ad<|sI Af Aa<|Int.tmod (w64<|Ai + w64 (Ag * Ah)) a9)) else none else some<|.inr Ab
def AYm (fuel:Nat) (a7:LiI) (a9 Af:Int) (Ab:LiA) (Aa:Int) (Ac:LiI):Option ((Int × LiI) ⊕ LiI):=
 if Aa < (Ab.length:Int) then (gI Ab Aa).bind λAg=>(gI a7 Aa).bind λAh=>(iter (λs=>AYl fuel a9 Af Ag Ah s.1 s.2) fuel (0,Ac)).bind (λ(Ai:LiI)=>some<|.inl (w64<|Aa + 1,Ai)) else some<|.inr Ac
def AYn (fuel:Nat) (a3 a7:LiI) (a9 Aa:Int) (Ab:LiI):Option ((Int × LiI) ⊕ LiI):=
 if Aa < (a3.length:Int) then (gI a3 Aa).bind λAg=>(gI a7 0).bind λAc=>if 0<=(Ac.length:Int)/\(Ac.length:Int)<=100000000 then (gI Ab Aa).bind λAi=>(iter (λs=>AYm fuel a7 a9 Aa Ag s.1 s.2) fuel (0,sI Ab Aa<|List.replicate (Int.toNat (Ac.length:Int)) (0:Int))).bind (λ(Ah:LiI)=>some<|.inl (w64<|Aa + 1,Ah)) else none else some<|.inr Ab
def AU3 (fuel:Nat) (a3 a7:LiI) (a9:Int):Option LiI:=
 if 0<=(a3.length:Int)/\(a3.length:Int)<=100000000 then (iter (λs=>AYn fuel a3 a7 a9 s.1 s.2) fuel (0,List.replicate (Int.toNat (a3.length:Int)) ([]:List Int))).bind (λ(Ad:LiI)=>some Ad) else none
theorem AYo {Au:Value} {Av:Value} {a7:LiI} {a9:Int} {r:LiI} (H2:ANp (cI .i64) h Au a3) (H6:ANp (cI .i64) h Av a7) (hp:AU3 fuel a3 a7 a9=some r):AI7 Tryz.prog 148 #[Au,Av,(.int .i64 a9)] h (λx h'=>Ext h h'/\ ∃ (x0:Value) (F0:List Nat) (Bb:List LnA) (Bc:List Value),x=x0/\ALl (cI .i64) 41 2 h' F0 Bb Bc x0 r/\Sp h' h.size [F0]):=by
 unfold AU3 at hp;refine cwf (l:=[_,_,_]) Tryz.func148 rfl rfl (AH1<|AJd<|AHy<|AJh AIk rfl H2 ?_);obtain ⟨Be,Bf⟩:=ifN hp;refine Aay (cI .i64) 2 AIk AU9 rfl trivial tt2 rfl rfl AHz Be λBg Bh Bi Ai Cy Bj Bl Bm=>AH7<|AH3<|AH1<|AHy<|AJh AIk rfl H2 (AHy<|AH5<|AH6 ?_);have A4:=(Kst.k0 h).no2 Bl Bm Bj;refine AOq 2361183241434822098688 (λx:(Int) × (LiI) × LnA × LnN × LvA=>(x.1,x.2.1)) ((0,(List.replicate (Int.toNat (a3.length:Int)) ([]:List Int)),Bg,Bh,Bi):(Int) × (LiI) × LnA × LnN × LvA) Bf (λx=>[(19,(.int .i64 x.1))]) (λx=>A4.L.set 0<|aO2 (cI .i64) 41 2 x.2.2.1 x.2.2.2.1 x.2.2.2.2 Ai x.2.1) A4 ⟨rfl,trivial⟩ ?_;rintro ⟨Aa,Bn,Cz,A5,Bo⟩ C0 C1 C3 Ab Aj Bp;unfold AYn at Aj;refine AH1<|AI3 rfl rfl (AH5<|AH3<|⟨_,rfl,λAk=>?_,λAk=>?_⟩)
 ·refine AIa<|q_t<|AH3<|AH6<|AH1<|AHy ?_;obtain ⟨C4,Bq,Br⟩:=AH2<|AJb Aj Ak;refine ATc AIk AIv H2 Ab.x Bq λ_ C5 A6=>AIw<|AJd<|AHy<|AHy<|AHy ?_;obtain ⟨Bt,Bu,Bv⟩:=AH2 Br;refine ATc AIk AIv H6 Ab.x Bu λ_ C6 Bw=>AJ8 AIi rfl Bw ?_;obtain ⟨Bx,By⟩:=ifN Bv;refine AYw (c:=(cI .i64)) (a:=0) AIi ARy rfl rfl (λ_=>rfl) rfl trivial tt2 rfl rfl AHz Bx λA7 Bz C7 B2 B3 B4 B5=>?_;have Ad:=Ab.no B3 (ANs B4 B5) B2;obtain ⟨C8,A8,B6⟩:=AH2 By;refine AJr AIk rfl (Ad.o2 p1) rfl A8 λB7 C9 B8 Da Db=>Aax AIv (Ad.o2 p1) A8 B8 rfl rfl (Ad.o p0) (Ad.dj p0 p1 AHz) λDc B9 Ca Cb=>AQs<|AHy<|AJ8 AIi rfl A6 (AHy<|AH5<|AH6 ?_);have Am:=(Ad.m2 p0 p1 AHz Ca B9 λz hz=> .inl<|Cb z hz).sel [1] AHz;dsimp only [APr,AS0] at Am;refine AOq 1180591620700231449600 (λx:(Int) × (LiI) × LnA × LnN × LvA=>(x.1,x.2.1)) ((0,(sI Bn Aa<|List.replicate (Int.toNat (Bt.length:Int)) (0:Int)),(B7 :: (A5.set (Int.toNat Aa) [A7]).flatten),(A5.set (Int.toNat Aa) [A7]),(Bo.set (Int.toNat Aa) Bz)):(Int) × (LiI) × LnA × LnN × LvA) B6 (λx=>[(34,(.int .i64 x.1))]) (λx=>Am.L.set 0<|aO2 (cI .i64) 41 2 x.2.2.1 x.2.2.2.1 x.2.2.2.2 Ai x.2.1) Am ⟨rfl,trivial⟩ ?_;rintro ⟨Dd,Cd,Ce,Cf,Cg⟩ De Df Dg Ae Ao Ch;unfold AYm at Ao;refine AH1<|AI3 rfl rfl (AH5<|AH3<|⟨_,rfl,λAp=>?_,λAp=>?_⟩)
  ·refine AIa<|q_t<|AH3<|AH6<|AH1<|AHy ?_;obtain ⟨Dh,Ci,Cj⟩:=AH2<|AJb Ao Ap;refine Aii AIi AIg A6 Ae.x Ci λ_=>(AIw<|AJd<|AHy<|AHy ?_);obtain ⟨Di,Ck,Cm⟩:=AH2 Cj;refine ATc AIk AIv H6 Ae.x Ck λ_ Dj A9=>AJ8 AIi rfl A9 (AHy<|AH5<|AH6<|AOq 590295792766519619584 (λx:(Int) × (LiI) × LnA × LnN × LvA=>(x.1,x.2.1)) ((0,Cd,Ce,Cf,Cg):(Int) × (LiI) × LnA × LnN × LvA) Cm (λx=>[(44,(.int .i64 x.1))]) (λx=>Ae.L.set 0<|aO2 (cI .i64) 41 2 x.2.2.1 x.2.2.2.1 x.2.2.2.2 Ai x.2.1) Ae ⟨rfl,trivial⟩ ?_);rintro ⟨Dk,Dl,Do,Dp,Dq⟩ Dr Ds Dt Ac Aq Cn;unfold AYl at Aq;refine AH1<|AI3 rfl rfl (AH5<|AH3<|⟨_,rfl,λAr=>?_,λAr=>?_⟩)
   ·refine AIa<|q_t<|AH3<|AH6<|AH1<|AHy ?_;obtain ⟨Du,Co,Cp⟩:=AH2<|AJb Aq Ar;refine Aii AIi AIg A9 Ac.x Co λ_=>(AIw<|AH7<|AMw<|AHy<|AHy ?_);obtain ⟨Dv,Af,Cq⟩:=AH2 Cp;refine AKe AIk AIv (Ac.o2 p0) Af λ_ Dw Cr=>AHy<|AHy<|AHy<|AKe AIk AIv (Ac.o2 p0) Af λ_ Dx Ct=>AHy ?_;obtain ⟨Dy,Ba,Cu⟩:=AH2 Cq;refine AP4 (m:=Aa) AIi AIg (Ac.o2 p0) Ct Af Ba λ_=>(AHy<|AHy<|APo rfl rfl (AI0 rfl rfl (AHy ?_)));obtain ⟨Cv,Cw⟩:=ifN Cu;refine ALg rfl rfl Cv (AT0 (m:=Aa) Ac p0 AIi AIg Cr Af Ba (λ_=>rfl) λ_ Dz Cx=>AIu<|q_b<|q_t<|AIf<|AI0 rfl rfl (AHy<|AH5 ?_));exact ⟨(_,_,_,_,_),(AH0 Cw).symm,Cx,rfl,trivial⟩
   ·refine AIq<|AIr<|AIr<|AJt<|q_b<|q_t<|AIf<|AI0 rfl rfl (AHy<|AH5 ?_);exact ⟨(_,_,_,_,_),(AH0<|Cn _ (AH0<|AJc Aq Ar).symm).symm,Ac,rfl,trivial⟩
  ·refine AIq<|AIr<|AIr<|AJt<|q_b<|q_t<|AIf<|AI0 rfl rfl (AHy<|AH5 ?_);exact ⟨(_,_,_,_,_),(AH0<|Ch _ (AH0<|AJc Ao Ap).symm).symm,Ae,rfl,trivial⟩
 ·refine AIq<|AIr<|AIr<|AJt<|q_t<|AH1<|AHy<|AH7<|AIc ?_;obtain rfl:=AH0<|Bp _ (AH0<|AJc Aj Ak).symm;exact ⟨_,AId,Ab.x,_,_,_,_,rfl,(Ab.o2 p0),Ab.s.sel [0] AHz⟩
def ARk (fuel:Nat) (a3:LiI) (a5:Int):Option (LiI × Int):=
 (AOd fuel a3).bind λx6=>if (!x6)=true then some ([],3) else (AK5 fuel a5).bind λAc=>if ¬ Ac=0 then some ([],Ac) else (ALd fuel a3 a5).bind λAe=>some (Ae,0)
theorem Adr {Ag:Value} {r:(LiI × Int)} (H2:ANp (cI .i64) h Ag a3) (hp:ARk fuel a3 a5=some r):AI7 Tryz.prog 17 #[Ag,(.int .i64 a5)] h (λx h'=>Ext h h'/\ ∃ (x0:Value) (F0:List Nat) (Au:List LnA) (Av:List Value),x= .tuple #[x0,.int .i64 r.2]/\ALl (cI .i64) 41 2 h' F0 Au Av x0 r.1/\Sp h' h.size [F0]):=by
 unfold ARk at hp;refine cwf (l:=[_,_]) Tryz.func17 rfl rfl (AH1<|AIw<|AH7<|AH3<|AH1<|AHy ?_);have K0:=Kst.k0 h;obtain ⟨x6,Aw,Ap⟩:=AH2 hp;refine ALx K0 (AUe (H2.ext K0.x) Aw) λA4 E9 Aq=>AMp rfl (AH5<|⟨_,rfl,λAa=>?_,λAa=>?_⟩)
 ·refine AH1<|AIw<|AH7<|AIc<|AIt ?_;have Ab:=Kst.anil2 (cI .i64) 41 2 Aq;obtain rfl:=AH0<|ifT Ap Aa;exact ⟨_,AJu,Ab.x,_,_,_,_,rfl,(Ab.o2 p0),Ab.s.sel [0] AHz⟩
 ·refine AIa<|q_t<|AH3<|AH1<|AHy ?_;obtain ⟨A6,Ax,Ar⟩:=AH2<|AQa Ap Aa;refine ALx Aq (AO9 Ax) λA7 A8 Ac=>AJd<|AHy<|AK0 rfl rfl (AH5<|⟨_,rfl,λAd=>?_,λAd=>?_⟩)
  ·refine AH1<|AHy<|AIw<|AH7<|AIc<|AIt ?_;have Ae:=Kst.anil2 (cI .i64) 41 2 Ac;obtain rfl:=AH0<|AJb Ar Ad;exact ⟨_,AJu,Ae.x,_,_,_,_,rfl,(Ae.o2 p0),Ae.s.sel [0] AHz⟩
  ·refine AIa<|q_t<|AH1<|AHy<|AHy ?_;obtain ⟨A9,Ay,Az⟩:=AH2<|AJc Ar Ad;refine AWs Ac (APf (H2.ext Ac.x) Ay) λBa Bb Bc Be Bf Bg Af=>AIw<|AH7<|AIc ?_;obtain rfl:=AH0 Az;exact ⟨_,AJu,Af.x,_,_,_,_,rfl,(Af.o2 p0),Af.s.sel [0] AHz⟩
def AVo (fuel:Nat) (a3 a7:LiI) (a9:Int):Option (LiI × Int):=
 (((AOd fuel a3).bind λAf=>if (!Af)=true then some (.inl ([],3)) else (AOd fuel a7).bind λAg=>if (!Ag)=true then some (.inl ([],3)) else (gI a3 0).bind λAh=>if ¬ (a3.length:Int)=(Ah.length:Int) then some (.inl ([],3)) else if ¬ (a7.length:Int)=(a3.length:Int) then some (.inl ([],3)) else some<|.inr ()):Option ((LiI × Int) ⊕ Unit)).bind (λex=>match ex with | .inl Ai=>(some Ai) | .inr _=>(AK5 fuel a9).bind λAd=>if ¬ Ad=0 then some ([],Ad) else (ALd fuel a7 a9).bind λAe=>(AV4 fuel Ae).bind λAj=>(ALd fuel a3 a9).bind λAk=>(AU3 fuel Ak Ae a9).bind λAm=>(AU3 fuel Aj Am a9).bind λAo=>some (Ao,0))
theorem Ab6 {Ax:Value} {Ay:Value} {a7:LiI} {a9:Int} {r:(LiI × Int)} (H2:ANp (cI .i64) h Ax a3) (H6:ANp (cI .i64) h Ay a7) (hp:AVo fuel a3 a7 a9=some r):AI7 Tryz.prog 118 #[Ax,Ay,(.int .i64 a9)] h (λx h'=>Ext h h'/\ ∃ (x0:Value) (F0:List Nat) (Bg:List LnA) (Bh:List Value),x= .tuple #[x0,.int .i64 r.2]/\ALl (cI .i64) 41 2 h' F0 Bg Bh x0 r.1/\Sp h' h.size [F0]):=by
 unfold AVo at hp;refine cwf (l:=[_,_,_]) Tryz.func118 rfl rfl (AH1<|AIw<|AH7 ?_);have K0:=Kst.k0 h;obtain ⟨Bi,Bj,Ab⟩:=AH2 hp;refine ARb 17179868352 (λx:Unit=>[]) (λx h'=>(Sum.inr <| ())=Bi/\Kst h h' (K0.L)) ?_ ?_
 ·refine AH1<|AHy ?_;obtain ⟨Bl,Bm,A6⟩:=AH2 Bj;refine ALx K0 (AUe (H2.ext K0.x) Bm) λB9 Ca Ah=>AMp rfl (AHy ?_);cases A7:(!Bl)
  ·refine AIs 13 false<|AHy<|AIs 13 false ?_;obtain ⟨Bn,Bo,A8⟩:=AH2<|AQa A6 A7;refine ALx Ah (AUe (H6.ext Ah.x) Bo) λCb Cd Ac=>AIs 13 false<|AMp rfl (AIn rfl (AHy ?_));cases A9:(!Bn)
   ·refine AIs 18 false<|AHy<|AIs 18 false<|AJh AIk rfl H2 (AIs 18 false<|AHy<|AIs 18 false ?_);obtain ⟨Bp,Bq,Ba⟩:=AH2<|AQa A8 A9;refine Ad7 AIk rfl H2 rfl Bq λCe Cf Cg Br Bt=>AIs 18 false<|AI1 AIv rfl (AIj Br Ac.x) (AIs 18 false<|AJ8 AIi rfl Bt (AIs 18 false<|AK0 rfl rfl (AIn rfl (AHy ?_))));by_cases Ad: ¬ (a3.length:Int)=(Bp.length:Int)
    ·rw [decide_eq_true Ad];refine AN1 27 true<|AIm rfl (AH5<|AI2 rfl (AH1<|AIw<|AH7 ?_));obtain rfl:=AH0<|ifT Ba Ad;refine AIc<|AIt ?_;have Ai:=Kst.anil2 (cI .i64) 41 2 Ac;obtain rfl:=AH0 Ab;exact ⟨_,AJu,Ai.x,_,_,_,_,rfl,(Ai.o2 p0),Ai.s.sel [0] AHz⟩
    ·have Bb:=ifF Ba Ad;rw [decide_eq_false Ad];refine AIs 27 false<|AHy<|AIs 27 false<|AJh AIk rfl H6 (AIs 27 false<|AHy<|AIs 27 false<|AJh AIk rfl H2 (AIs 27 false<|AK0 rfl rfl (AIn rfl (AH5<|⟨_,rfl,λAj=>?_,λAj=>?_⟩))))
     ·refine AH1<|AIw<|AH7 ?_;obtain rfl:=AH0<|AJb Bb Aj;refine AIc<|AIt ?_;have Ak:=Kst.anil2 (cI .i64) 41 2 Ac;obtain rfl:=AH0 Ab;exact ⟨_,AJu,Ak.x,_,_,_,_,rfl,(Ak.o2 p0),Ak.s.sel [0] AHz⟩
     ·refine AIa<|q_t ?_;exact ⟨(():Unit),⟨AH0<|AJc Bb Aj,Ac⟩,trivial⟩
   ·refine AN1 18 true<|AP2 18 true<|AIm rfl (AHy<|AN1 27 true<|AIm rfl (AH5<|AI2 rfl (AH1<|AIw<|AH7 ?_)));obtain rfl:=AH0<|ifT A8 A9;refine AIc<|AIt ?_;have Am:=Kst.anil2 (cI .i64) 41 2 Ac;obtain rfl:=AH0 Ab;exact ⟨_,AJu,Am.x,_,_,_,_,rfl,(Am.o2 p0),Am.s.sel [0] AHz⟩
  ·refine ANe 13 true<|AIm rfl (AHy<|AN1 18 true<|AP2 18 true<|AIm rfl (AHy<|AN1 27 true<|AIm rfl (AH5<|AI2 rfl (AH1<|AIw<|AH7 ?_))));obtain rfl:=AH0<|ifT A6 A7;refine AIc<|AIt ?_;have Ao:=Kst.anil2 (cI .i64) 41 2 Ah;obtain rfl:=AH0 Ab;exact ⟨_,AJu,Ao.x,_,_,_,_,rfl,(Ao.o2 p0),Ao.s.sel [0] AHz⟩
 rintro ⟨⟩ Ch Ci ⟨Bu,Bv⟩;subst Bu;refine AH3<|AH1<|AHy ?_;obtain ⟨Cj,Bw,Bc⟩:=AH2 Ab;refine ALx Bv (AO9 Bw) λCk Cm Ap=>AJd<|AHy<|AK0 rfl rfl (AH5<|⟨_,rfl,λAq=>?_,λAq=>?_⟩)
 ·refine AH1<|AHy<|AIw<|AH7<|AIc<|AIt ?_;have Ar:=Kst.anil2 (cI .i64) 41 2 Ap;obtain rfl:=AH0<|AJb Bc Aq;exact ⟨_,AJu,Ar.x,_,_,_,_,rfl,(Ar.o2 p0),Ar.s.sel [0] AHz⟩
 ·refine AIa<|q_t<|AH1<|AHy<|AHy ?_;obtain ⟨Cn,Bx,By⟩:=AH2<|AJc Bc Aq;refine AWs Ap (APf (H6.ext Ap.x) Bx) λCo Cp Cq Cr Ct Cu Be=>AJd<|AHy ?_;obtain ⟨Cv,Bz,B2⟩:=AH2 By;refine AWs Be (Adb (Be.o2 p0).rd Bz) λCw Cx Cy Cz C0 C1 Bf=>AHy<|AHy ?_;obtain ⟨C3,B3,B4⟩:=AH2 B2;refine AWs Bf (APf (H2.ext Bf.x) B3) λC4 C5 C6 C7 C8 C9 Au=>AHy<|AHy ?_;obtain ⟨Da,B5,B6⟩:=AH2 B4;refine AWs Au (AYo (Au.o2 p0).rd (Au.o2 p2).rd B5) λDb Dc Dd De Df Dg Av=>AHy ?_;obtain ⟨Dh,B7,B8⟩:=AH2 B6;refine AWs Av (AYo (Av.o2 p2).rd (Av.o2 p0).rd B7) λDi Dj Dk Dl Do Dp Aw=>AIw<|AH7<|AIc ?_;obtain rfl:=AH0 B8;exact ⟨_,AJu,Aw.x,_,_,_,_,rfl,(Aw.o2 p0),Aw.s.sel [0] AHz⟩
theorem AMv {α β:Type} {L:List α} {n:Nat} {x:α} {f:α->Option β} (hx:L[n]? =some x):(gI L (n:Int)).bind f=f x:=by
 unfold gI;grind
theorem Aqc {α β:Type} {L:List α} {x:α} {f:α->Option β} (hx:L[0]? =some x):(gI L 0).bind f=f x:=AMv (n:=0) hx
theorem AKq (h:i<=1000000000):w64 ((i:Int) + 1)=((i + 1:Nat):Int):=by rw [wk AHx];omega
theorem Ak3 {n:Nat} {g':Nat->Int} (h:∀ c,c < n->g c=g' c):part n i (AKi G r g)=part n i (AKi G r g'):=by
 unfold part;refine AJ3 λk _=>?_;split
 ·refine AJ3 λc hc=>?_;by_cases hk:k=r
  ·subst hk;rw [AKk,AKk,h c hc]
  ·rw [AOt _ _ hk,AOt _ _ hk]
 ·rfl
theorem Azp {n:Nat} (h:∀ c,c < n->g c=F i c):part n (i + 1) (AKi F i g)=part n (i + 1) F:=by
 rw [Ak3 h,AX4]
theorem A2u {body:Int × List (List Int)->Option ((Int × List (List Int)) ⊕ List (List Int))} {n:Nat} (v:Nat->Int) (hf:n < fuel)
 (hs:∀ (j:Nat) (g:Nat->Int),j < n->g j=G i j->body ((j:Int),part n (i + 1)<|AKi G i g)=some (.inl (((j + 1:Nat):Int),part n (i + 1)<|AKi G i λc=>if c=j then v j else g c)))
 (he:∀ X,body ((n:Int),X)=some (.inr X)):iter body fuel (0,part n (i + 1) G)=some (part n (i + 1)<|AKi G i v):=by
 apply ok_eq
 refine AJg (λj s=>s=((j:Int),part n (i + 1)<|AKi G i λc=>if c < j then v c else G i c)) n ?_ hf λj s hj hI=>?_
 ·have:(λc=>if c < 0 then v c else G i c)=G i:=funext λc=>if_neg AHx;rw [this,AX4];rfl
 ·subst hI
  by_cases h:j < n
  ·rw [hs j _ h<|if_neg AHx];refine AH4 ⟨h,?_⟩;refine congrArg (λz=>(((j + 1:Nat):Int),part n (i + 1)<|AKi G i z))<|funext λc=>?_
   by_cases h1:c=j
   ·grind
   omega
  ·obtain rfl:j=n:=by omega
   rw [he];exact AH4<|Ak3 λc hc=>if_pos hc
theorem Azq {body:Int × List (List Int)->Option ((Int × List (List Int)) ⊕ List (List Int))} {n:Nat} (F:AIe) (hf:n < fuel)
 (hs:∀ i:Nat,i < n->body ((i:Int),part n i F)=some (.inl (((i + 1:Nat):Int),part n (i + 1) F))) (he:∀ X,body ((n:Int),X)=some (.inr X)):iter body fuel (0,List.replicate n ([]:List Int))=some (tab n n F):=by
 apply ok_eq;refine AJg (λi s=>s=((i:Int),part n i F)) n (by rw [AVw n F];rfl) hf λi s hi hI=>?_;subst hI
 by_cases h:i < n
 ·rw [hs i h];exact AH4 ⟨h,rfl⟩
 ·obtain rfl:i=n:=by omega
  rw [he];exact AH4<|AVv _ _
theorem Ah9 {m:Int} (hm:2<=m) (Ab:m<=2147483647):Int.tmod (w64<|Int.tmod x m + m) m=x % m:=by
 have h1:=Int.tmod_lt_of_pos x (show 0 < m by omega);have h2:=Int.tmod_lt_of_pos (-x) (show 0 < m by omega);rw [Int.neg_tmod] at h2;rw [wk AHx,Int.tmod_eq_emod_of_nonneg AHx,Int.add_emod_right,Int.tmod_def,Int.sub_mul_emod_self_left]
theorem Azr {n:Nat} {m:Int} (hn:n<=8) (hm:2<=m) (Aa:m<=2147483647) (hf:100 < fuel):ALd fuel (tab n n F) m=some (tab n n λi j=>F i j % m):=by
 unfold ALd;rw [AJf,if_pos AHx,Int.toNat_natCast,Azq (n:=n) (λi j=>F i j % m) AHx (λi hi=>?_) λX=>?_]
 ·rfl
 ·unfold ARs;dsimp only;rw [AJf,if_pos AHx,AMv<|AJo hi,AJ5,if_pos AHx,AMv<|AZj hi,AKf,Int.toNat_natCast,AOm n (0:Int),AXg,A2u (n:=n) (λj=>F i j % m) AHx (λj g hj hg=>?_) λX=>?_]
  ·dsimp only [Option.bind_some];rw [Aey,Azp λc _=>rfl,AKq AHx]
  ·unfold ARr;dsimp only;rw [AJ5,if_pos AHx,AMv<|AI5 hj,AMv<|ATv AHx hi,if_pos AHx,if_pos AHx,AKk,AMv<|AI5 hj,Ah9 hm Aa,AKf,AKf,AL7,AVn AHx,Aey,AKq AHx]
  ·unfold ARr;dsimp only;rw [AJ5,if_neg AHx]
 ·unfold ARs;dsimp only;rw [AJf,if_neg AHx]
def AY4 (n:Nat) (m:Int) (F:AIe):Prop:= ∀ i j,i < n->j < n->0<=F i j/\F i j < m
def Ab7 (fuel:Nat) (Ac Ad Af:Int) (Ag:LiA) (Ah Ai Aa:Int) (Ab:LiI):Option ((Int × LiI) ⊕ LiI):=
 if Aa < (Ag.length:Int) then (gI Ab Af).bind λAj=>(gI Aj Aa).bind λAk=>(gI Ab Ad).bind λAe=>(gI Ae Aa).bind λAm=>if Ac≠0 then some (.inl (w64<|Aa + 1,sI Ab Ad<|sI Ae Aa<|Int.tmod (w64<|Am + w64 (w64 (Ac - w64 (Int.tdiv Ai Ah)) * Ak)) Ac)) else none else some<|.inr Ab
def Ab8 (fuel:Nat) (Ah Aa Ab Af:Int) (Ac:LiI):Option ((Int × LiI) ⊕ (Int × LiI)):=
 (gI Ac Ab).bind λAg=>(gI Ag Aa).bind λAd=>if ¬ Ad=0 then (gI Ac Aa).bind λAi=>(gI Ai Aa).bind λAj=>if Ad≠0 then (((iter (λs=>Ab7 fuel Ah Aa Ab Ag Ad Aj s.1 s.2) fuel (0,Ac)).bind (λ(Ak:LiI)=>some Ak)):Option LiI).bind λAe=>(gI Ae Ab).bind λAm=>(gI Ae Aa).bind λAo=>some (.inl (w64<|0 - Af,sI (sI Ae Aa Am) Ab Ao)) else none else some<|.inr (Af,Ac)
def Ab9 (fuel:Nat) (Ad Ae Ac Aa:Int) (Ab:LiI):Option ((Int × Int × LiI) ⊕ (Int × LiI)):=
 if Aa < (Ab.length:Int) then (iter (λs=>Ab8 fuel Ad Ae Aa s.1 s.2) fuel (Ac,Ab)).bind (λ((Af,Ag):Int × LiI)=>some<|.inl (Af,w64<|Aa + 1,Ag)) else some<|.inr (Ac,Ab)
def Aca (fuel:Nat) (Ad:LiI) (Ae Ab Aa:Int) (Ac:LiI):Option ((Int × Int × LiI) ⊕ (Int × LiI)):=
 if Aa < (Ad.length:Int) then (iter (λs=>Ab9 fuel Ae Aa s.1 s.2.1 s.2.2) fuel (Ab,w64<|Aa + 1,Ac)).bind (λ((Af,Ag):Int × LiI)=>some<|.inl (Af,w64<|Aa + 1,Ag)) else some<|.inr (Ab,Ac)
def Acb (fuel:Nat) (a5:Int) (Ac:LiI) (Ad Ab:Int):Option ((Int × Int) ⊕ Int):=
 if Ab < (Ac.length:Int) then (gI Ac Ab).bind λAe=>if a5≠0 then (gI Ae Ab).bind λAf=>if a5≠0 then some (.inl (Int.tmod (w64<|Int.tmod Ad a5 * Af) a5,w64<|Ab + 1)) else none else none else some<|.inr Ad
def Abn (fuel:Nat) (a3:LiI) (a5:Int):Option (Int × Int):=
 (AQh fuel a3).bind λx6=>if (!x6)=true then some (0,3) else (AK5 fuel a5).bind λAc=>if ¬ Ac=0 then some (0,Ac) else (ALd fuel a3 a5).bind λAd=>((((some a5):Option Int).bind λAf=>(iter (λs=>Aca fuel Ad Af s.1 s.2.1 s.2.2) fuel (1,0,Ad)).bind (λ((Ag,Ah):Int × LiI)=>some (Ag,Ah))):Option (Int × LiI)).bind λ(Ai,Aj)=>(iter (λs=>Acb fuel a5 Aj s.1 s.2) fuel (w64<|Ai + a5,0)).bind (λ(Ak:Int)=>some (Ak,0))
theorem Aia {A8:Value} {r:(Int × Int)} (H2:ANp (cI .i64) h A8 a3) (hp:Abn fuel a3 a5=some r):AI7 Tryz.prog 117 #[A8,(.int .i64 a5)] h (λx h'=>Ext h h'/\x= .tuple #[.int .i64 r.1,.int .i64 r.2]):=by
 unfold Abn at hp;refine cwf (l:=[_,_]) Tryz.func117 rfl rfl (AH1<|AIw<|AH7<|AH3<|AH1<|AHy ?_);have K0:=Kst.k0 h;obtain ⟨x6,B2,Bc⟩:=AH2 hp;refine ALx K0 (Aab (H2.ext K0.x) B2) λEe E9 Be=>AMp rfl (AH5<|⟨_,rfl,λAj=>?_,λAj=>?_⟩)
 ·refine AH1<|AIw<|AH7<|AIc<|AIt ?_;obtain rfl:=AH0<|ifT Bc Aj;exact ⟨_,AJu,Be.x,rfl⟩
 ·refine AIa<|q_t<|AH3<|AH1<|AHy ?_;obtain ⟨Eg,B3,Bf⟩:=AH2<|AQa Bc Aj;refine ALx Be (AO9 B3) λEh Ei Ak=>AJd<|AHy<|AK0 rfl rfl (AH5<|⟨_,rfl,λAm=>?_,λAm=>?_⟩)
  ·refine AH1<|AHy<|AIw<|AH7<|AIc<|AIt ?_;obtain rfl:=AH0<|AJb Bf Am;exact ⟨_,AJu,Ak.x,rfl⟩
  ·refine AIa<|q_t<|AH1<|AHy<|AHy ?_;obtain ⟨B4,B5,B6⟩:=AH2<|AJc Bf Am;refine AWs Ak (APf (H2.ext Ak.x) B5) λB7 B8 B9 Ab Ej Ek Ao=>AJd<|AHy<|AHy ?_;obtain ⟨Ca,Cb,Cd⟩:=AH2 B6;refine AIz (K':=(λxr h'=> ∃ x:(Int) × (LiI) × LnA × LnN × LvA,(x.1,x.2.1)=Ca/\xr=(.int .i64 x.1)/\Kst h h' (Ao.L.set 0<|aO2 (cI .i64) 41 2 x.2.2.1 x.2.2.2.1 x.2.2.2.2 Ab x.2.1))) trivial rfl ?_ λEl Em Ce=>?_
   ·refine cwf (l:=[_,_]) Tryz.func90 rfl rfl (AH1<|AJd<|AHy ?_);obtain ⟨Cf,Cg,Ch⟩:=AH2 Cb;refine AIz (K':=(λxr h'=> ∃ x:(Nat) × (Int),x.2=Cf/\xr=(.func (.func 129) #[] #[(.pointer<|some ⟨x.1,0,none⟩)])/\Kst h h' (aB 2 x.1 [(.int .i64 x.2)] :: Ao.L))) trivial rfl ?_ λEn Eo Ci=>?_
    ·refine cwf (l:=[_]) Tryz.func91 rfl rfl (AH1<|AP5 Ao [(.int .i64 a5)] λCj Ep Er Ck=>AJd<|Awm rfl (AH7<|AIc<|⟨_,AId,((Cj,a5):(Nat) × (Int)),?_,rfl,?_⟩))
     ·exact AH0 Cg
     ·exact Ck
    obtain ⟨⟨Cm,Es⟩,Cn,rfl,Ap⟩:=Ci;refine ⟨trivial,?_⟩;subst Cn;refine AJd<|AH7<|AH3<|AH1<|AHy<|AJh AIk rfl (Ap.o2 p1).rd (AHy<|AH5<|AH6<|AOq 18889465931478580847040 (λx:(Int) × (Int) × (LiI) × LnA × LnN × LvA=>(x.1,x.2.1,x.2.2.1)) ((1,0,B4,B7,B8,B9):(Int) × (Int) × (LiI) × LnA × LnN × LvA) Ch (λx=>[(6,(.int .i64 x.1)),(13,(.int .i64 x.2.1))]) (λx=>Ap.L.set 1<|aO2 (cI .i64) 41 2 x.2.2.2.1 x.2.2.2.2.1 x.2.2.2.2.2 Ab x.2.2.1) Ap ⟨rfl,rfl,trivial⟩ ?_);rintro ⟨Bg,Af,Bh,Bi,Bj,Bl⟩ Et Eu Ev Aq Ar Co;unfold Aca at Ar;refine AH1<|AI3 rfl rfl (AH5<|AH3<|⟨_,rfl,λAu=>?_,λAu=>?_⟩)
    ·refine AIa<|q_t<|AH3<|AH6<|AH1<|AHy<|AJd<|AHy<|AI0 rfl rfl (AH7<|AH6<|AOq 9444732965739290165568 (λx:(Int) × (Int) × (LiI) × LnA × LnN × LvA=>(x.1,x.2.1,x.2.2.1)) ((Bg,(w64<|Af + 1),Bh,Bi,Bj,Bl):(Int) × (Int) × (LiI) × LnA × LnN × LvA) (AJb Ar Au) (λx=>[(6,(.int .i64 x.1)),(8,(.int .i64 x.2.1))]) (λx=>Aq.L.set 1<|aO2 (cI .i64) 41 2 x.2.2.2.1 x.2.2.2.2.1 x.2.2.2.2.2 Ab x.2.2.1) Aq ⟨rfl,rfl,trivial⟩ ?_);rintro ⟨Cp,Av,Cq,Cr,Ct,Cu⟩ Ew Ey Ez Ag Aw Cv;unfold Ab9 at Aw;refine AH3<|AH1<|AHy<|AHy<|AJh AIk rfl (Ag.o2 p1).rd (AI3 rfl rfl (AH5<|⟨_,rfl,λAx=>?_,λAx=>?_⟩))
     ·refine AIa<|q_t<|AH3<|AH6<|AH6<|AOq 9444732965739273650240 (λx:(Int) × (LiI) × LnA × LnN × LvA=>(x.1,x.2.1)) ((Cp,Cq,Cr,Ct,Cu):(Int) × (LiI) × LnA × LnN × LvA) (AJb Aw Ax) (λx=>[(6,(.int .i64 x.1))]) (λx=>Ag.L.set 1<|aO2 (cI .i64) 41 2 x.2.2.1 x.2.2.2.1 x.2.2.2.2 Ab x.2.1) Ag ⟨rfl,trivial⟩ ?_;rintro ⟨Fa,Fb,Bm,Bn,Bo⟩ Fc Fd Fe Aa Bp Cw;unfold Ab8 at Bp;refine AH3<|AH1<|AHy<|AHy ?_;obtain ⟨Ff,Ac,Cx⟩:=AH2 Bp;refine AKe AIk AIv (Aa.o2 p1) Ac λ_ Fg Cy=>AHy ?_;obtain ⟨Cz,Bq,Br⟩:=AH2 Cx;refine AP4 (m:=Av) AIi AIg (Aa.o2 p1) Cy Ac Bq λ_=>(AK0 rfl rfl (AH5<|⟨_,rfl,λAy=>?_,λAy=>?_⟩))
      ·refine AIa<|q_t<|AH6<|AH3<|AMw<|AHy<|AHy<|AHy ?_;obtain ⟨Fh,Az,C0⟩:=AH2<|AJb Br Ay;refine AKe AIk AIv (Aa.o2 p1) Az λ_ C1 Bt=>AHy<|AHy<|AKe AIk AIv (Aa.o2 p1) Ac λ_ C3 Bu=>AHy<|AHy<|AKe AIk AIv (Aa.o2 p1) Az λ_ Fi C4=>AHy ?_;obtain ⟨C5,C6,C7⟩:=AH2 C0;refine AP4 (m:=Af) AIi AIg (Aa.o2 p1) C4 Az C6 λ_=>(AHy<|AHy<|AKe AIk AIv (Aa.o2 p1) Ac λ_ Fj C8=>AHy<|AP4 (m:=Av) AIi AIg (Aa.o2 p1) C8 Ac Bq λ_=>?_);obtain ⟨C9,Da⟩:=ifN C7;refine AWz rfl rfl C9 ?_;obtain ⟨Db,Dc,Dd⟩:=AH2 Da;refine Aix (l:=[C1,C3,(.int .i64<|w64<|Int.tdiv C5 Cz)]) (cl:=[(.pointer<|some ⟨Cm,0,none⟩)]) (K':=(λxr h'=> ∃ x:(LiI),x=Db/\xr= .tuple #[]/\Kst h h' (Aa.L.set 1<|aO2 (cI .i64) 41 2 Bm Bn Bo Ab x))) trivial rfl rfl ?_ λFk Fl De=>?_
       ·refine cwf (l:=[_,_,_,_]) Tryz.func129 rfl rfl (AH1<|AHy<|AJ8 AIi rfl ((Aa.o2 p1).rowI Bu Ac) (AHy<|AH5<|AH6<|APb 4294965632 Dc (λx=>[(11,(.int .i64 x.1))]) (λx=>Aa.L.set 1<|aO2 (cI .i64) 41 2 Bm Bn Bo Ab x.2) Aa ⟨rfl,trivial⟩ ?_));rintro ⟨Fm,Df⟩ Fo Fp Fq Ad A3 Dg;unfold Ab7 at A3;refine AH1<|AI3 rfl rfl (AH5<|AH3<|⟨_,rfl,λA4=>?_,λA4=>?_⟩)
        ·refine AIa<|q_t<|AH3<|AH6<|AH1<|AHy ?_;obtain ⟨Ft,Dh,Di⟩:=AH2<|AJb A3 A4;obtain ⟨Fu,Dj,Dk⟩:=AH2 Di;refine AP4 (m:=Av) AIi AIg (Ad.o2 p1) Bu Dh Dj λ_=>(AIw<|AH7<|AMw<|AHy<|AHy<|AHy<|AHy ?_);obtain ⟨Fv,Bv,Dl⟩:=AH2 Dk;obtain ⟨Fw,Bw,Do⟩:=AH2 Dl;refine AP4 (m:=Af) AIi AIg (Ad.o2 p1) Bt Bv Bw λ_=>AI1 AIg rfl ((Ad.b p0).cell (i:=0) rfl) (AHy<|AMy rfl rfl (AHy<|APo rfl rfl (AI0 rfl rfl (AI1 AIg rfl ((Ad.b p0).cell (i:=0) rfl) ?_))));obtain ⟨Dp,Dq⟩:=ifN Do;refine ALg rfl rfl Dp (AT0 (m:=Af) Ad p1 AIi AIg Bt Bv Bw (λ_=>rfl) λ_ Fx Dr=>AIu<|q_b<|q_t<|AIf<|AI0 rfl rfl (AHy<|AH5 ?_));exact ⟨_,(AH0 Dq).symm,Dr,rfl,trivial⟩
        ·refine AIq<|AIr<|AIr<|AJt<|⟨_,AWk,(Df:(LiI)),?_,rfl,?_⟩
         ·exact AH0<|Dg _ (AH0<|AJc A3 A4).symm
         ·exact Ad
       obtain ⟨Fy,Ds,rfl,Ah⟩:=De;refine ⟨trivial,?_⟩;subst Ds;refine AH5<|AH3<|AMw<|AHy<|AHy<|AHy<|AHy<|AHy<|AHy ?_;obtain ⟨Fz,Bx,Dt⟩:=AH2 Dd;refine AKe AIk AIv (Ah.o2 p1) Bx λ_ F4 Du=>AHy<|AHy ?_;obtain ⟨F5,By,Dv⟩:=AH2 Dt;refine AKe AIk AIv (Ah.o2 p1) By λ_ F6 Dw=>AX2 AIk AIv (Ah.o2 p1) Dw Du By Bx rfl rfl (λ_=>rfl) (λ_=>rfl) (λ_=>rfl) (λ_ _=>rfl) λF7 F8 F9 Ga Gb Gc Dx Dy Dz=>AH5<|AIf<|AHy<|Adj rfl (AIw<|AIu<|q_b<|q_t ?_);exact ⟨(_,_,_,_,_),(AH0 Dv).symm,(Ah.uo2 p1 Dy Dx Dz),rfl,trivial⟩
      ·refine AIq<|AIr<|AIr<|AJt<|q_b<|q_t<|AIf<|AHy<|AI0 rfl rfl (AH7 ?_);exact ⟨(_,_,_,_,_,_),(AH0<|Cw _ (AH0<|AJc Br Ay).symm).symm,Aa,rfl,rfl,trivial⟩
     ·refine AIq<|AIr<|AIr<|AJt<|q_b<|q_t<|AIf<|AI0 rfl rfl (AHy<|AH5 ?_);exact ⟨(_,_,_,_,_,_),(AH0<|Cv _ (AH0<|AJc Aw Ax).symm).symm,Ag,rfl,rfl,trivial⟩
    ·refine AIq<|AIr<|AIr<|AJt<|q_t<|AH1<|AHy<|AH7<|AIc<|⟨_,AId,((Bg,Bh,Bi,Bj,Bl):(Int) × (LiI) × LnA × LnN × LvA),?_,rfl,?_⟩
     ·exact AH0<|Co _ (AH0<|AJc Ar Au).symm
     ·exact Aq.sel [1] AHz
   obtain ⟨⟨Gd,Ge,Gf,Gg,Gh⟩,D0,rfl,A5⟩:=Ce;refine ⟨trivial,?_⟩;subst D0;refine AHy<|AI0 rfl rfl (AH7<|AH3<|AH1<|AHy<|AJh AIk rfl (A5.o2 p0).rd (AHy<|AH5<|AH6<|APb 35183835219712 Cd (λx=>[(8,(.int .i64 x.1)),(29,(.int .i64 x.2))]) (λx=>A5.L) A5 ⟨rfl,rfl,trivial⟩ ?_));rintro ⟨Gi,D3⟩ Gj Gk Gl Ai A6 D4;unfold Acb at A6;refine AH1<|AI3 rfl rfl (AH5<|AH3<|⟨_,rfl,λA7=>?_,λA7=>?_⟩)
   ·refine AIa<|q_t<|AH3<|AH6<|AH1<|AHy ?_;obtain ⟨Gm,Bz,D5⟩:=AH2<|AJb A6 A7;refine AKe AIk AIv (Ai.o2 p0) Bz λ_ Gn D6=>AIw<|AH7<|AMw<|AHy<|AHy ?_;obtain ⟨D7,D8⟩:=ifN D5;refine ALg rfl rfl D7 (AHy<|AHy ?_);obtain ⟨Gp,D9,Ea⟩:=AH2 D8;refine AP4 (m:=D3) AIi AIg (Ai.o2 p0) D6 Bz D9 λ_=>(APo rfl rfl (AHy ?_));obtain ⟨Eb,Ec⟩:=ifN Ea;refine ALg rfl rfl Eb (AIw<|AIu<|q_b<|q_t<|AIf<|AI0 rfl rfl (AHy<|AH5 ?_));exact ⟨_,(AH0 Ec).symm,Ai,rfl,rfl,trivial⟩
   ·refine AIq<|AIr<|AIr<|AJt<|q_t<|AH1<|AHy<|AIw<|AH7<|AIc ?_;obtain rfl:=AH0<|D4 _ (AH0<|AJc A6 A7).symm;exact ⟨_,AJu,Ai.x,rfl⟩
theorem Azs {E:Type} {body:Int->Option (Int ⊕ E)} {n:Nat} {e:E} (hf:n < fuel) (hs:∀ i:Nat,i < n->body (i:Int)=some (.inl ((i + 1:Nat):Int))) (he:body (n:Int)=some (.inr e)):iter body fuel 0=some e:=by
 apply ok_eq;refine AJg (λi s=>s=(i:Int)) n rfl hf λi s hi hI=>?_;subst hI;by_cases h:i < n
 ·rw [hs i h];exact AH4 ⟨h,rfl⟩
 ·obtain rfl:i=n:=by omega
  rw [he];exact AH4 rfl
theorem Aqd {n:Nat} (Aa:1<=n) (hn:n<=8) (hf:100 < fuel):AOd fuel (tab n n F)=some true:=by
 unfold AOd;rw [AJf,if_neg AHx,if_neg AHx,Aqc<|AJo AHx,AJ5,if_neg AHx,if_neg AHx];simp only [Option.bind_some];rw [Azs (n:=n) (e:= .inr ()) AHx (λi hi=>?_) ?_]
 ·rfl
 ·unfold AUd;rw [AJf,if_neg AHx]
 ·unfold AUd;rw [AJf,if_pos AHx,AMv<|AJo hi,Aqc<|AJo AHx,AJ5,AJ5,if_neg λh=>h rfl,AKq AHx]
theorem AXj {n:Nat}:sI (AK7 n g) (j:Int) x=AK7 n λc=>if c=j then x else g c:=by rw [AKf,AL7]
theorem AN9 {n:Nat}:sI (tab n n F) (i:Int) (AK7 n g)=tab n n (AKi F i g):=by
 rw [AKf];exact AS8
theorem Ak4 {n:Nat} {g':Nat->Int} (h:∀ c,c < n->g c=g' c):tab n n (AKi F r g)=tab n n (AKi F r g'):=ARc λi j _ hj=>by
 rw [AJa,AJa,h j hj]
def AXk (fuel:Nat) (a2 Ac Ab:Int):Option ((Int × Int) ⊕ (Int × Int)):=
 if a2≠0 then if Int.tmod Ab a2=0 then if a2≠0 then some (.inl (w64<|Ac + 1,w64<|Int.tdiv Ab a2)) else none else some (.inr (Ac,Ab)) else none
def ARl (fuel:Nat) (a1 a2:Int):Option AJ0:=
 (iter (λs=>AXk fuel a2 s.1 s.2) fuel (0,a1)).bind (λ((Ac,Ad):Int × Int)=>some (Ac,1,Ad,0,0))
theorem AXl {r:AJ0} (hp:ARl fuel a1 a2=some r):AI7 Tryz.prog 49 #[(.int .i64 a1),(.int .i64 a2)] h (λx h'=>Ext h h'/\x= .agg #[.int .i64 r.1,.int .i64 r.2.1,.int .i64 r.2.2.1,.int .i64 r.2.2.2.1,.int .i64 r.2.2.2.2]):=by
 unfold ARl at hp;refine cwf (l:=[_,_]) Tryz.func49 rfl rfl (AH1<|ALm (Kst.k0 h) [(.int .i64 0),(.int .i64 0),(.int .i64 0),(.int .i64 0),(.int .i64 0)] AYx λb3 h4 E6 K9=>AQs<|AHy<|ALe (v:=(.agg #[(.int .i64 0),(.int .i64 1),(.int .i64 a1),(.int .i64 0),(.int .i64 0)])) (λ_=>by kernel_rfl)<|ALm K9 [(.int .i64 0),(.int .i64 0),(.int .i64 0),(.int .i64 0),(.int .i64 0)] AYx λAp Ba Bb Ah=>AKo [(.int .i64 0),(.int .i64 1),(.int .i64 a1),(.int .i64 0),(.int .i64 0)] ATa rfl rfl rfl rfl (by simp [isOne]) (Ah.b p0) λBc Aq Ar=>AH5<|AH3 ?_);refine AH6 ?_;have Ai:=Ah.sb p0 Ar Aq rfl;refine APb 4194048 hp (λx=>[]) (λx=>Ai.L.set 0<|aB 52 Ap [(.int .i64 x.1),(.int .i64 1),(.int .i64 x.2),(.int .i64 0),(.int .i64 0)]) Ai trivial ?_;rintro ⟨Ad,Ae⟩ Be Bf Bg Aa Aj Au;unfold AXk at Aj;refine AH3<|AH1<|ALt AZb AIg (Aa.b p0) 2 rfl (AHy ?_);obtain ⟨Av,Ak⟩:=ifN Aj;refine ALg rfl rfl Av (AKd rfl rfl (AH5<|⟨_,rfl,λAf=>?_,λAf=>?_⟩))
 ·refine AIa<|q_t<|AH6<|AH1<|ALt AZb AIg (Aa.b p0) 2 rfl (AHy ?_);obtain ⟨Aw,Ax⟩:=ifN<|AJb Ak Af;refine AWz rfl rfl Aw (AJp AZb rfl (AVa [(.int .i64 Ad),(.int .i64 1),(.int .i64<|w64<|Int.tdiv Ae a2),(.int .i64 0),(.int .i64 0)] AIg rfl rfl rfl (Aa.b p0) (Nat.le_of_ble_eq_true rfl) rfl λBh Ay Az=>AH5<|AIf ?_));have Ag:=Aa.sb p0 Az Ay rfl;refine ALt APq AJq (Ag.b p0) 0 rfl (AI0 rfl rfl (AJp APq rfl (AVa [(.int .i64<|w64<|Ad + 1),(.int .i64 1),(.int .i64<|w64<|Int.tdiv Ae a2),(.int .i64 0),(.int .i64 0)] AJq rfl rfl rfl (Ag.b p0) (Nat.le_of_ble_eq_true rfl) rfl λBi A3 A4=>AIu<|q_b<|q_t ?_)));exact ⟨_,(AH0 Ax).symm,(Ag.sb p0 A4 A3 rfl),trivial⟩
 ·refine AIq<|AIr<|AIr<|AJt<|q_t<|AH1<|ATy [(.int .i64 Ad),(.int .i64 1),(.int .i64 Ae),(.int .i64 0),(.int .i64 0)] ATa rfl rfl (Aa.b p0).agg (AKo [(.int .i64 Ad),(.int .i64 1),(.int .i64 Ae),(.int .i64 0),(.int .i64 0)] ATa rfl rfl rfl rfl (by simp [isOne]) (Aa.b p1) λBj A5 A6=>AH5<|AIc ?_);have Am:=Aa.sb p1 A6 A5 rfl;obtain rfl:=AH0<|Au _ (AH0<|AJc Ak Af).symm;exact ⟨_,AKs ATa rfl rfl (Am.b p1),Am.x,rfl⟩
def Aac (fuel:Nat) (Ad:Int) (Ab:LiA) (Aa:Int):Option (Int ⊕ (Bool ⊕ Unit)):=
 if Aa < (Ab.length:Int) then (gI Ab Aa).bind λAc=>if Ac < 0 then some (.inr<|.inl false) else if Ad<=Ac then some (.inr<|.inl false) else some (.inl<|w64<|Aa + 1) else some<|.inr<|.inr ()
def Aad (fuel:Nat) (Ac:LiI) (Ab:Int) (Ad:LiA) (Aa:Int):Option (Int ⊕ (Bool ⊕ Unit)):=
 if Aa < (Ad.length:Int) then (gI Ac Ab).bind λAe=>(gI Ae Aa).bind λAf=>if ¬ Aa=Ab then if ¬ Af=0 then some (.inr<|.inl false) else some (.inl<|w64<|Aa + 1) else some (.inl<|w64<|Aa + 1) else some<|.inr<|.inr ()
def Aae (fuel:Nat) (a5:Int) (Ae:List AJ0) (Ad:LiI) (Aa:Int):Option (Int ⊕ (Bool ⊕ Unit)):=
 if Aa < (Ad.length:Int) then (gI Ad Aa).bind λAh=>(((gI Ad Aa).bind λAi=>(gI Ai Aa).bind λAf=>if Af=0 then some (.inl false) else (gI Ae Aa).bind λAb=>(ARl fuel Af a5).bind λAc=>if (!(decide ((Ab.1,Ab.2.1,Ab.2.2.1,Ab.2.2.2.1,Ab.2.2.2.2)=(Ac.1,Ac.2.1,Ac.2.2.1,Ac.2.2.2.1,Ac.2.2.2.2))))=true then some (.inl false) else some<|.inr ()):Option (Bool ⊕ Unit)).bind (λex=>match ex with | .inl Aj=>(some<|.inr<|.inl Aj) | .inr _=>((if 0 < Aa then (gI Ae Aa).bind λAk=>(gI Ae<|w64<|Aa - 1).bind λAm=>if Ak.1 < Am.1 then some (.inl false) else some (.inr ()) else some<|.inr ()):Option (Bool ⊕ Unit)).bind (λex=>match ex with | .inl Ao=>(some<|.inr<|.inl Ao) | .inr _=>(iter (λs=>Aad fuel Ad Aa Ah s) fuel 0).bind (λex=>match ex with | .inl Ap=>(some<|.inr<|.inl Ap) | .inr _=>some<|.inl<|w64<|Aa + 1))) else some<|.inr<|.inr ()
def Aaf (fuel:Nat) (a8:LiI) (Ac Aa:Int):Option (Int ⊕ (Bool ⊕ Unit)):=
 if Aa < (a8.length:Int) then (gI a8 Aa).bind λAd=>(iter (λs=>Aac fuel Ac Ad s) fuel 0).bind (λex=>match ex with | .inl Ae=>(some<|.inr<|.inl Ae) | .inr _=>some<|.inl<|w64<|Aa + 1) else some<|.inr<|.inr ()
def AY5 (fuel:Nat) (a3:LiI) (a5:Int) (a8:LiI) (Ae:List AJ0) (Ac:Int):Option Bool:=
 (iter (λs=>Aaf fuel a8 Ac s) fuel 0).bind (λex=>match ex with | .inl Af=>(some Af) | .inr _=>(Abn fuel a8 a5).bind λ(Ag,Aj)=>if Ag=0 then some false else (AVo fuel a3 a8 Ac).bind λ(Ah,Ak)=>(iter (λs=>Aae fuel a5 Ae Ah s) fuel 0).bind (λex=>match ex with | .inl Ai=>(some Ai) | .inr _=>some true))
theorem Af7 {Bp:Value} {Aw:Value} {a8:LiI} {Ax:Value} {Bt:(List AJ0)} {Bu:Int} {r:Bool} (H2:ANp (cI .i64) h Bp a3) (H7:ANp (cI .i64) h Aw a8) (Ay:SlC AV9 h Ax Bt) (hp:AY5 fuel a3 a5 a8 Bt Bu=some r):AI7 Tryz.prog 76 #[Bp,(.agg #[(.int .i64 a5),Aw,Ax]),(.int .i64 Bu)] h (λx h'=>Ext h h'/\x= .bool r):=by
 unfold AY5 at hp;refine cwf (l:=[_,_,_]) Tryz.func76 rfl rfl (AH1<|AP5 (Kst.k0 h) [(.int .i64 a5),Aw,Ax] λDk Dl Do Az=>AH7<|AH3<|AH1<|ALt Acq AJ9 (Az.b p0) 1 rfl (AJh AIk rfl H7 (AHy<|AH5<|AH6<|APb 2199019062592 hp (λx=>[(22,(.int .i64 x))]) (λx=>Az.L) Az ⟨rfl,trivial⟩ ?_)));rintro Dp Dq Dr Ds Ac A3 A4;unfold Aaf at A3;refine AH1<|AI3 rfl rfl (AH5<|AH3<|⟨_,rfl,λA5=>?_,λA5=>?_⟩)
 ·refine AIa<|q_t<|AH3<|AH6<|AH1 ?_;obtain ⟨Dt,Cd,Ce⟩:=AH2<|AJb A3 A5;refine ATc AIk AIv H7 Ac.x Cd λ_ Du Bv=>AJd<|AHy<|AJ8 AIi rfl Bv (AHy<|AH5<|AH6<|APb 1099243193408 Ce (λx=>[(28,(.int .i64 x))]) (λx=>Ac.L) Ac ⟨rfl,trivial⟩ ?_);rintro Dv Dw Dx Dy Ae A6 A7;unfold Aac at A6;refine AH1<|AI3 rfl rfl (AH5<|AH3<|⟨_,rfl,λA8=>?_,λA8=>?_⟩)
  ·refine AIa<|q_t<|AH3<|AH6<|AH1 ?_;obtain ⟨Cf,Cg,Bw⟩:=AH2<|AJb A6 A8;refine Aii AIi AIg Bv Ae.x Cg λ_=>(AJd<|AHy<|AI3 rfl rfl (AHy ?_));by_cases Ak:Cf < 0
   ·rw [decide_eq_true Ak];refine ANe 34 true<|AIm rfl (AH5<|AI2 rfl (AH1<|AH7<|AIc<|AKa<|AIt<|AIt<|AKa<|AKa<|AIt<|AIt<|AKa<|AIt ?_));obtain rfl:=AH0<|A4 _ (AH0<|A7 _ (AH0<|ifT Bw Ak).symm).symm;exact ⟨_,AId,Ae.x,rfl⟩
   ·have Bx:=ifF Bw Ak;rw [decide_eq_false Ak];refine AIs 34 false<|AHy<|AIs 34 false<|AHy<|AIs 34 false<|AUr rfl rfl (AIn rfl (AH5<|⟨_,rfl,λA9=>?_,λA9=>?_⟩))
    ·refine AH1<|AH7<|AIc<|AKa<|AIt<|AIt<|AKa<|AKa<|AIt<|AIt<|AKa<|AIt ?_;obtain rfl:=AH0<|A4 _ (AH0<|A7 _ (AH0<|AJb Bx A9).symm).symm;exact ⟨_,AId,Ae.x,rfl⟩
    ·refine AIa<|q_b<|q_t<|AIf<|AI0 rfl rfl (AHy<|AH5 ?_);exact ⟨_,(AH0<|AJc Bx A9).symm,Ae,rfl,trivial⟩
  ·refine AIq<|AIr<|AIr<|AJt<|q_b<|q_t<|AIf<|AI0 rfl rfl (AHy<|AH5 ?_);exact ⟨_,(AH0<|A7 _ (AH0<|AJc A6 A8).symm).symm,Ae,rfl,trivial⟩
 ·refine AIq<|AIr<|AIr<|AJt<|q_t<|AH3<|AH1<|ALt Acq AJ9 (Ac.b p0) 1 rfl (ALt AWd AIg (Ac.b p0) 0 rfl ?_);obtain ⟨⟨Dz,D0⟩,Ch,Ba⟩:=AH2<|A4 _ (AH0<|AJc A3 A5).symm;dsimp only at Ba;refine ALx Ac (Aia (H7.ext Ac.x) Ch) λD3 D4 Af=>AHy<|AJs rfl rfl (AJs rfl rfl (AIw<|AJd<|AHy<|AKd rfl rfl (AH5<|⟨_,rfl,λBb=>?_,λBb=>?_⟩)))
  ·refine AH1<|AH7<|AIc<|AIt ?_;obtain rfl:=AH0<|AJb Ba Bb;exact ⟨_,AId,Af.x,rfl⟩
  ·refine AIa<|q_t<|AH1<|AHy<|ALt Acq AJ9 (Af.b p0) 1 rfl (AHy ?_);obtain ⟨⟨D5,D6⟩,Ci,By⟩:=AH2<|AJc Ba Bb;dsimp only at By;refine ASt rfl (Ab6 (H2.ext Af.x) (H7.ext Af.x) Ci) λD7 D8 Cj Ck=>?_;obtain ⟨D9,Ea,Eb,Ec,rfl,Cm,Cn⟩:=Ck;refine AHy<|AJs rfl rfl (AJs rfl rfl (AIw<|AH7<|AH3<|AH1<|AHy ?_));have Bc:=Af.no2 Cj Cn Cm;refine AJh AIk rfl (Bc.o2 p0).rd (AHy<|AH5<|AH6<|APb 1329227995784915870597964051067142208 By (λx=>[(61,(.int .i64 x))]) (λx=>Bc.L) Bc ⟨rfl,trivial⟩ ?_);rintro Ag Ed Be Ee Aa Bf Ah;unfold Aae at Bf;refine AH1<|AI3 rfl rfl (AH5<|AH3<|⟨_,rfl,λBg=>?_,λBg=>?_⟩)
   ·refine AIa<|q_t<|AH3<|AH6<|AH1<|AHy ?_;obtain ⟨Ef,Bz,Co⟩:=AH2<|AJb Bf Bg;refine AKe AIk AIv (Aa.o2 p0) Bz λ_ Eg Am=>AIw<|AH7 ?_;obtain ⟨Cp,Cq,Bh⟩:=AH2 Co;refine ARb 77371178668359972342988864 (λx:Unit=>[]) (λx h'=>(Sum.inr <| ())=Cp/\Kst h h' (Aa.L)) ?_ ?_
    ·refine AH3<|AKg (λh'=>UpT [] Be h') AIb ?_;have Ad:UpT [] Be Be:=UpT.start all_nil;refine AHy<|AHy ?_;obtain ⟨Eh,Ao,Cr⟩:=AH2 Cq;obtain ⟨Ct,Ap,B2⟩:=AH2 Cr;refine AJy (m:=Ag) AIi rfl (Aa.o2 p0) Am Ao rfl Ap λEi Cu=>?_;obtain ⟨Ej,Cv,Cw⟩:=(Aa.o2 p0).cells Cu Ao Ap;obtain rfl:=Cv;refine AJe AIg rfl Ad (λh' hb=>AIj (Cw 0 _ rfl) hb.ext) (AKd rfl rfl (AHy ?_));by_cases Aq:Ct=0
     ·rw [decide_eq_true Aq];refine AN1 71 true<|AN1 71 true<|ANe 71 true<|AIm rfl (AH5<|AI2 rfl (AH1<|AH7 ?_));obtain rfl:=AH0<|ifT B2 Aq;refine AIc<|AIt<|AKa<|AIt<|AIt<|AKa<|AIt ?_;obtain rfl:=AH0<|Ah _ (AH0 Bh).symm;exact ⟨_,AId,Aa.x,rfl⟩
     ·rw [decide_eq_false Aq];refine AIs 71 false<|AJp AT4 rfl (AIs 71 false<|AJe AZ1 rfl Ad (λh' hb=>((Aa.b p1).ext hb.ext).cell (i:=2) rfl) (AIs 71 false<|AHy<|AIs 71 false ?_));obtain ⟨Ek,Cx,Cy⟩:=AH2<|ifF B2 Aq;refine AQi (c:=AV9) AXv rfl Ay rfl Cx λEl Em En Cz C0=>?_;obtain rfl:=Cz;refine AIs 71 false<|AZ0 (c:=AV9) (h0:=h) ATa rfl rfl Ad (λh' hb j u hu=>AIj (C0 j u hu)<|Aa.x.trans hb.ext) (AIs 71 false<|AHy<|AIs 71 false<|AHy<|AIs 71 false<|AJy (m:=Ag) AIi rfl (Aa.o2 p0) Am Ao rfl Ap λEo C1=>AIs 71 false ?_);obtain ⟨Ep,C3,C4⟩:=(Aa.o2 p0).cells C1 Ao Ap;obtain rfl:=C3;refine AJe AIg rfl Ad (λh' hb=>AIj (C4 0 _ rfl) hb.ext) (AIs 71 false<|AJp AWd rfl (AIs 71 false<|AJe AIg rfl Ad (λh' hb=>((Aa.b p1).ext hb.ext).cell (i:=0) rfl) (AIs 71 false ?_)));obtain ⟨Er,C5,B3⟩:=AH2 Cy;refine Afo Aa Ad (AXl C5) λEs Et B4 Eu=>AIs 71 false<|A3j AIb rfl rfl (A7f _ _ _ _ _ _ _ _ _ _) (AIn rfl (AH5<|⟨_,rfl,λBi=>?_,λBi=>?_⟩))
      ·refine AH1<|AH7 ?_;obtain rfl:=AH0<|ifT B3 Bi;refine AIc<|AIt<|AKa<|AIt<|AIt<|AKa<|AIt ?_;obtain rfl:=AH0<|Ah _ (AH0 Bh).symm;exact ⟨_,AId,B4.x,rfl⟩
      ·refine AIa<|q_t ?_;exact ⟨(():Unit),⟨AH0<|AQa B3 Bi,B4⟩,trivial⟩
    rintro ⟨⟩ Ev Ew ⟨C6,Ab⟩;subst C6;obtain ⟨C7,B5,B6⟩:=AH2 Bh;refine ARb 20282332232399215087680070090816 (λx:Unit=>[]) (λx h'=>(Sum.inr <| ())=C7/\Kst h h' (Ab.L)) ?_ ?_
    ·refine AH3<|AMw<|AHy<|APu rfl rfl (AHy ?_);by_cases Ar:0 < Ag
     ·rw [decide_eq_true Ar];refine AIs 88 true<|AJp AT4 rfl (AIs 88 true<|AI1 AZ1 rfl ((Ab.b p1).cell (i:=2) rfl) (AIs 88 true<|AHy<|AIs 88 true ?_));obtain ⟨Ey,C8,C9⟩:=AH2<|ifT B5 Ar;refine AQi (c:=AV9) AXv rfl Ay rfl C8 λEz Fa Fb Da Db=>?_;obtain rfl:=Da;refine AIs 88 true<|AJp APq rfl (AIs 88 true<|AI1 AJq rfl (AIj (Db 0 _ rfl) Ab.x) (AIs 88 true<|AJp AT4 rfl (AIs 88 true<|AI1 AZ1 rfl ((Ab.b p1).cell (i:=2) rfl) (AIs 88 true<|AHy<|AIs 88 true<|AMy rfl rfl (AIs 88 true ?_)))));obtain ⟨Fc,Dc,B7⟩:=AH2 C9;refine AQi (c:=AV9) AXv rfl Ay rfl Dc λFd Fe Ff Dd De=>?_;obtain rfl:=Dd;refine AIs 88 true<|AJp APq rfl (AIs 88 true<|AI1 AJq rfl (AIj (De 0 _ rfl) Ab.x) (AIs 88 true<|AI3 rfl rfl (AIm rfl (AH5<|⟨_,rfl,λBj=>?_,λBj=>?_⟩))))
      ·refine AH1<|AH7 ?_;obtain rfl:=AH0<|AJb B7 Bj;refine AIc<|AIt<|AKa<|AIt<|AIt<|AKa<|AIt ?_;obtain rfl:=AH0<|Ah _ (AH0 B6).symm;exact ⟨_,AId,Ab.x,rfl⟩
      ·refine AIa<|q_t ?_;exact ⟨(():Unit),⟨AH0<|AJc B7 Bj,Ab⟩,trivial⟩
     ·rw [decide_eq_false Ar];refine AN1 88 false<|AN1 88 false<|AUi 88 false<|AIn rfl (AH5<|AI6 rfl (AIa<|q_t ?_));exact ⟨(():Unit),⟨AH0<|ifF B5 Ar,Ab⟩,trivial⟩
    rintro ⟨⟩ Fg Fh ⟨Df,Bl⟩;subst Df;refine AH1<|AHy<|AJ8 AIi rfl ((Bl.o2 p0).rowI Am Bz) (AHy<|AH5<|AH6<|APb 664532868254043329770207741135421504 B6 (λx=>[(106,(.int .i64 x))]) (λx=>Bl.L) Bl ⟨rfl,trivial⟩ ?_);rintro Dg Fi Fj Fk Ai Bm B8;unfold Aad at Bm;refine AH1<|AI3 rfl rfl (AH5<|AH3<|⟨_,rfl,λBn=>?_,λBn=>?_⟩)
    ·refine AIa<|q_t<|AH3<|AH6<|AH1<|AHy ?_;obtain ⟨Fl,Dh,Di⟩:=AH2<|AJb Bm Bn;obtain ⟨Fm,Dj,B9⟩:=AH2 Di;refine AP4 (m:=Ag) AIi AIg (Ai.o2 p0) Am Dh Dj λ_=>(AIw<|AJd<|AHy<|AHy<|AK0 rfl rfl (AHy ?_));by_cases Au: ¬ Dg=Ag
     ·have Ca:=ifT B9 Au;rw [decide_eq_true Au];refine AIs 114 true<|AHy<|AIs 114 true<|AK0 rfl rfl (AIm rfl (AH5<|⟨_,rfl,λBo=>?_,λBo=>?_⟩))
      ·refine AH1<|AH7<|AIc<|AKa<|AIt<|AIt<|AKa<|AKa<|AIt<|AIt<|AKa<|AIt ?_;obtain rfl:=AH0<|Ah _ (AH0<|B8 _ (AH0<|AJb Ca Bo).symm).symm;exact ⟨_,AId,Ai.x,rfl⟩
      ·refine AIa<|q_b<|q_t<|AIf<|AI0 rfl rfl (AHy<|AH5 ?_);exact ⟨_,(AH0<|AJc Ca Bo).symm,Ai,rfl,trivial⟩
     ·rw [decide_eq_false Au];refine AP2 114 false<|AIn rfl (AH5<|AI6 rfl (AIa<|q_b<|q_t<|AIf<|AI0 rfl rfl (AHy<|AH5 ?_)));exact ⟨_,(AH0<|ifF B9 Au).symm,Ai,rfl,trivial⟩
    ·refine AIq<|AIr<|AIr<|AJt<|q_b<|q_t<|AIf<|AI0 rfl rfl (AHy<|AH5 ?_);exact ⟨_,(AH0<|B8 _ (AH0<|AJc Bm Bn).symm).symm,Ai,rfl,trivial⟩
   ·refine AIq<|AIr<|AIr<|AJt<|q_t<|AH1<|AH7<|AIc ?_;obtain rfl:=AH0<|Ah _ (AH0<|AJc Bf Bg).symm;exact ⟨_,AId,Aa.x,rfl⟩
noncomputable def Aag (fuel:Nat) (a3 a8:LiI) (Aa:Int):Option (Int ⊕ (Int ⊕ Unit)):=
 if Aa < (a8.length:Int) then (gI a8 Aa).bind λAd=>if ¬ (Ad.length:Int)=(a3.length:Int) then some (.inr<|.inl 3) else some (.inl<|w64<|Aa + 1) else some<|.inr<|.inr ()
noncomputable def AWg (fuel:Nat) (a3:LiI) (a5:Int) (a8:LiI) (Ad:List AJ0):Option Int:=
 (AZq fuel a3).bind λAe=>if (!Ae)=true then some 6 else (AVi fuel a5).bind λAf=>if (!Af)=true then some 20 else ((if ¬ (a8.length:Int)=(a3.length:Int) then some (.inl 3) else if ¬ (Ad.length:Int)=(a3.length:Int) then some (.inl 3) else some<|.inr ()):Option (Int ⊕ Unit)).bind (λex=>match ex with | .inl Ag=>(some Ag) | .inr _=>(iter (λs=>Aag fuel a3 a8 s) fuel 0).bind (λex=>match ex with | .inl Ah=>(some Ah) | .inr _=>(AMf fuel a3 a5).bind λAi=>(ARi fuel a5 Ai).bind λAj=>(AY5 fuel a3 a5 a8 Ad Aj).bind λAk=>if (!Ak)=true then some 10 else some 0))
theorem Af8 {A4:Value} {Ad:Value} {a8:LiI} {Ae:Value} {A5:(List AJ0)} {r:Int} (H2:ANp (cI .i64) h A4 a3) (H7:ANp (cI .i64) h Ad a8) (A6:SlC AV9 h Ae A5) (HO:Ad2 h) (hp:AWg fuel a3 a5 a8 A5=some r):AI7 Tryz.prog 36 #[A4,(.agg #[(.int .i64 a5),Ad,Ae])] h (λx h'=>Ext h h'/\x= .int .i64 r):=by
 unfold AWg at hp;refine cwf (l:=[_,_]) Tryz.func36 rfl rfl (AH1<|AP5 (Kst.k0 h) [(.int .i64 a5),Ad,Ae] λBx By Bz A7=>AH7<|AH3<|AH1<|AHy ?_);obtain ⟨B2,Bh,A8⟩:=AH2 hp;refine ALx A7 (Af1 (H2.ext A7.x) Bh) λB3 B4 Ah=>AMp rfl (AH5<|⟨_,rfl,λAp=>?_,λAp=>?_⟩)
 ·refine AH1<|AH7<|AIc<|AIt ?_;obtain rfl:=AH0<|ifT A8 Ap;exact ⟨_,AId,Ah.x,rfl⟩
 ·refine AIa<|q_t<|AH3<|AH1<|ALt AWd AIg (Ah.b p0) 0 rfl ?_;obtain ⟨B5,Bi,A9⟩:=AH2<|AQa A8 Ap;refine ALx Ah (Aa7 (HO.ext Ah.x) Bi) λB6 B7 Ab=>AMp rfl (AH5<|⟨_,rfl,λAq=>?_,λAq=>?_⟩)
  ·refine AH1<|AH7<|AIc<|AIt ?_;obtain rfl:=AH0<|ifT A9 Aq;exact ⟨_,AId,Ab.x,rfl⟩
  ·refine AIa<|q_t<|AH1<|AHy<|AJh AIk rfl H2 (AH7 ?_);obtain ⟨Bj,Ba,Ar⟩:=AH2<|AQa A9 Aq;refine ARb 536739856 (λx:Unit=>[]) (λx h'=>(Sum.inr <| ())=Bj/\Kst h h' (Ab.L)) ?_ ?_
   ·refine AH1<|ALt Acq AJ9 (Ab.b p0) 1 rfl (AJh AIk rfl H7 (AHy<|AK0 rfl rfl (AHy ?_)));by_cases Ai: ¬ (a8.length:Int)=(a3.length:Int)
    ·rw [decide_eq_true Ai];refine AN1 22 true<|AIm rfl (AH5<|AI2 rfl (AH1<|AH7 ?_));obtain rfl:=AH0<|ifT Ba Ai;refine AIc<|AIt ?_;obtain rfl:=AH0 Ar;exact ⟨_,AId,Ab.x,rfl⟩
    ·have Bb:=ifF Ba Ai;rw [decide_eq_false Ai];refine AIs 22 false<|AJp AT4 rfl (AIs 22 false<|AI1 AZ1 rfl ((Ab.b p0).cell (i:=2) rfl) (AIs 22 false<|AJ8 AXv rfl A6 (AIs 22 false<|AHy<|AIs 22 false<|AK0 rfl rfl (AIn rfl (AH5<|⟨_,rfl,λAu=>?_,λAu=>?_⟩)))))
     ·refine AH1<|AH7 ?_;obtain rfl:=AH0<|AJb Bb Au;refine AIc<|AIt ?_;obtain rfl:=AH0 Ar;exact ⟨_,AId,Ab.x,rfl⟩
     ·refine AIa<|q_t ?_;exact ⟨(():Unit),⟨AH0<|AJc Bb Au,Ab⟩,trivial⟩
   rintro ⟨⟩ B8 B9 ⟨Bl,Av⟩;subst Bl;refine AH3<|AH1<|ALt Acq AJ9 (Av.b p0) 1 rfl (AJh AIk rfl H7 (AHy<|AH5<|AH6<|APb 2194728288400 Ar (λx=>[(32,(.int .i64 x))]) (λx=>Av.L) Av ⟨rfl,trivial⟩ ?_));rintro Ca Cb Aw Cd Aa Ax Bc;unfold Aag at Ax;refine AH1<|AI3 rfl rfl (AH5<|AH3<|⟨_,rfl,λAy=>?_,λAy=>?_⟩)
   ·refine AIa<|q_t<|AH3<|AH6<|AH1 ?_;obtain ⟨Ce,Bm,Be⟩:=AH2<|AJb Ax Ay;refine ATc AIk AIv H7 Aa.x Bm λ_ Cf Bn=>AJd<|AHy<|AJ8 AIi rfl Bn (AHy<|AK0 rfl rfl (AH5<|⟨_,rfl,λAz=>?_,λAz=>?_⟩))
    ·refine AH1<|AH7<|AIc<|AKa<|AIt<|AIt<|AKa<|AIt ?_;obtain rfl:=AH0<|Bc _ (AH0<|AJb Be Az).symm;exact ⟨_,AId,Aa.x,rfl⟩
    ·refine AIa<|q_b<|q_t<|AIf<|AI0 rfl rfl (AHy<|AH5 ?_);exact ⟨_,(AH0<|AJc Be Az).symm,Aa,rfl,trivial⟩
   ·refine AIq<|AIr<|AIr<|AJt<|q_t<|AH3<|AH3<|AKg (λh'=>UpT [] Aw h') AIb ?_;have Aj:UpT [] Aw Aw:=UpT.start all_nil;refine AHy<|AQr [(.int .i64 a5),Ad,Ae] AS9 rfl rfl Aj (λh' hb=>((Aa.b p0).ext hb.ext).agg) (AJp AWd rfl (AJe AIg rfl Aj (λh' hb=>((Aa.b p0).ext hb.ext).cell (i:=0) rfl) (AHy<|AJp AWd rfl (AJe AIg rfl Aj (λh' hb=>((Aa.b p0).ext hb.ext).cell (i:=0) rfl) ?_))));obtain ⟨Cg,Bo,Bp⟩:=AH2<|Bc _ (AH0<|AJc Ax Ay).symm;refine Afo Aa Aj (ARq (H2.ext Aa.x) (HO.ext Aa.x) Bo) λCh Ci Bq Br=>?_;obtain ⟨Cj,Bt,Bu⟩:=AH2 Bp;refine Afo Bq Br (AXd Bt) λCk Cm Ak Bv=>?_;obtain ⟨Cn,Bw,Bf⟩:=AH2 Bu;refine Afo Ak Bv (Af7 (H2.ext Ak.x) (H7.ext Ak.x) (A6.ext Ak.x) Bw) λCo Cp Bg Cq=>AMp rfl (AH5<|⟨_,rfl,λA3=>?_,λA3=>?_⟩)
    ·refine AH1<|AH7<|AIc<|AIt ?_;obtain rfl:=AH0<|ifT Bf A3;exact ⟨_,AId,Bg.x,rfl⟩
    ·refine AIa<|q_t<|AH1<|AH7<|AIc ?_;obtain rfl:=AH0<|AQa Bf A3;exact ⟨_,AId,Bg.x,rfl⟩
def AQz (fuel:Nat) (a3 a7:List AMi) (Ac:Int):Option (Int ⊕ (Bool ⊕ Unit)):=
 if Ac < (a3.length:Int) then (gI a3 Ac).bind λAa=>(gI a7 Ac).bind λAb=>if (!(decide ((Aa.1,Aa.2.1,Aa.2.2.1,Aa.2.2.2.1,Aa.2.2.2.2)=(Ab.1,Ab.2.1,Ab.2.2.1,Ab.2.2.2.1,Ab.2.2.2.2))))=true then some (.inr<|.inl false) else some (.inl<|w64<|Ac + 1) else some<|.inr<|.inr ()
def ALo (fuel:Nat) (a3 a7:List AMi):Option Bool:=
 if ¬ (a3.length:Int)=(a7.length:Int) then some false else (iter (λs=>AQz fuel a3 a7 s) fuel 0).bind (λex=>match ex with | .inl Ac=>(some Ac) | .inr _=>some true)
theorem AQ0 {Ah:Value} {a3:(List AMi)} {Aj:Value} {a7:(List AMi)} {r:Bool} (H2:SlC AVc h Ah a3) (H6:SlC AVc h Aj a7) (hp:ALo fuel a3 a7=some r):AI7 Tryz.prog 11 #[Ah,Aj] h (λx h'=>Ext h h'/\x= .bool r):=by
 unfold ALo at hp;refine cwf (l:=[_,_]) Tryz.func11 rfl rfl (AH1<|AH7<|AH3<|AH1<|AHy<|AJ8 AYf rfl H2 (AHy<|AJ8 AYf rfl H6 (AK0 rfl rfl (AH5 ?_))));have K0:=Kst.k0 h;refine ⟨_,rfl,λAd=>?_,λAd=>?_⟩
 ·refine AH1<|AH7<|AIc<|AIt ?_;obtain rfl:=AH0<|AJb hp Ad;exact ⟨_,AId,K0.x,rfl⟩
 ·refine AIa<|q_t<|AH3<|AH1<|AHy<|AJ8 AYf rfl H2 (AHy<|AH5<|AH6<|APb 67100720 (AJc hp Ad) (λx=>[(13,(.int .i64 x))]) (λx=>K0.L) K0 ⟨rfl,trivial⟩ ?_);rintro Az A3 A4 A5 Aa Ae Ao;unfold AQz at Ae;refine AH1<|AI3 rfl rfl (AH5<|AH3<|⟨_,rfl,λAf=>?_,λAf=>?_⟩)
  ·refine AIa<|q_t<|AH3<|AH6<|AH1<|AHy<|AH7<|AH3<|AMw<|AHy<|AHy ?_;obtain ⟨A6,Aq,Ar⟩:=AH2<|AJb Ae Af;refine AQi (c:=AVc) AYf rfl H2 rfl Aq λA7 A8 A9 Au Av=>?_;obtain rfl:=Au;refine AW5 (c:=AVc) Axj rfl rfl (λj u hu=>(AIj (Av j u hu) Aa.x)) (AHy<|AHy ?_);obtain ⟨Ba,Aw,Ap⟩:=AH2 Ar;refine AQi (c:=AVc) AYf rfl H6 rfl Aw λBb Bc Be Ax Ay=>?_;obtain rfl:=Ax;refine AW5 (c:=AVc) Axj rfl rfl (λj u hu=>(AIj (Ay j u hu) Aa.x)) (A3j AIb rfl rfl (A7g _ _ _ _ _ _ _ _ _ _) (AH5<|⟨_,rfl,λAg=>?_,λAg=>?_⟩))
   ·refine AH1<|AH7<|AIc<|AKa<|AIt<|AIt<|AKa<|AIt ?_;obtain rfl:=AH0<|Ao _ (AH0<|ifT Ap Ag).symm;exact ⟨_,AId,Aa.x,rfl⟩
   ·refine AIa<|q_b<|q_t<|AIf<|AI0 rfl rfl (AHy<|AH5 ?_);exact ⟨_,(AH0<|AQa Ap Ag).symm,Aa,rfl,trivial⟩
  ·refine AIq<|AIr<|AIr<|AJt<|q_t<|AH1<|AH7<|AIc ?_;obtain rfl:=AH0<|Ao _ (AH0<|AJc Ae Af).symm;exact ⟨_,AId,Aa.x,rfl⟩
def AM9 (fuel:Nat) (a1 a2 a3 a4 a5 a6:Int):Option Bool:=
 ((if a1 < 0 then some (.inl false) else if 60 < a1 then some (.inl false) else some<|.inr ()):Option (Bool ⊕ Unit)).bind (λex=>match ex with | .inl Ag=>(some Ag) | .inr _=>if a2=1 then if a6≠0 then if ¬ (Int.tmod a3 a6)=0 then if a4=0 then some (decide (a5=0)) else some false else some false else none else if a6=2 then if a2=2 then if Int.tmod a3 2=0 then if ¬ (Int.tmod a4 2)=0 then some (decide (Int.tmod a5 2=0)) else some false else some false else some false else some false)
theorem AYp {a3 a4 a6:Int} {r:Bool} (hp:AM9 fuel a1 a2 a3 a4 a5 a6=some r):AI7 Tryz.prog 69 #[(.agg #[(.int .i64 a1),(.int .i64 a2),(.int .i64 a3),(.int .i64 a4),(.int .i64 a5)]),(.int .i64 a6)] h (λx h'=>Ext h h'/\x= .bool r):=by
 unfold AM9 at hp;refine cwf (l:=[_,_]) Tryz.func69 rfl rfl (AH1<|Ahl [(.int .i64 a1),(.int .i64 a2),(.int .i64 a3),(.int .i64 a4),(.int .i64 a5)] trivial tt2 rfl rfl λb7 h8 V9 A8 A9=>AH7 ?_);have Ab:=(Kst.k0 h).nb A8 A9 V9;obtain ⟨Ba,Aw,Ah⟩:=AH2 hp;refine ARb 8176 (λx:Unit=>[]) (λx h'=>(Sum.inr <| ())=Ba/\Kst h h' (Ab.L)) ?_ ?_
 ·refine AH1<|AJp APq rfl (AI1 AJq rfl ((Ab.b p0).cell (i:=0) rfl) (AI3 rfl rfl (AHy ?_)));by_cases Ai:a1 < 0
  ·rw [decide_eq_true Ai];refine ANe 8 true<|AIm rfl (AH5<|AI2 rfl (AH1<|AH7 ?_));obtain rfl:=AH0<|ifT Aw Ai;refine AIc<|AIt ?_;obtain rfl:=AH0 Ah;exact ⟨_,AId,Ab.x,rfl⟩
  ·have Ax:=ifF Aw Ai;rw [decide_eq_false Ai];refine AIs 8 false<|AJp APq rfl (AIs 8 false<|AI1 AJq rfl ((Ab.b p0).cell (i:=0) rfl) (AIs 8 false<|APu rfl rfl (AIn rfl (AH5<|⟨_,rfl,λAu=>?_,λAu=>?_⟩))))
   ·refine AH1<|AH7 ?_;obtain rfl:=AH0<|AJb Ax Au;refine AIc<|AIt ?_;obtain rfl:=AH0 Ah;exact ⟨_,AId,Ab.x,rfl⟩
   ·refine AIa<|q_t ?_;exact ⟨(():Unit),⟨AH0<|AJc Ax Au,Ab⟩,trivial⟩
 rintro ⟨⟩ Bg Bh ⟨Bb,Aa⟩;subst Bb;refine AH3<|AH1<|AJp Ai1 rfl (AI1 AJq rfl ((Aa.b p0).cell (i:=1) rfl) (AKd rfl rfl (AH5<|⟨_,rfl,λAv=>?_,λAv=>?_⟩)))
 ·refine AH1<|AJp AZb rfl (AI1 AIg rfl ((Aa.b p0).cell (i:=2) rfl) (AHy ?_));obtain ⟨Bc,Ay⟩:=ifN<|AJb Ah Av;refine ALg rfl rfl Bc (AK0 rfl rfl (AHy ?_));by_cases Aj: ¬ (Int.tmod a3 a6)=0
  ·have Az:=ifT Ay Aj;rw [decide_eq_true Aj];refine AIs 21 true<|AJp Amx rfl (AIs 21 true<|AI1 AIg rfl ((Aa.b p0).cell (i:=3) rfl) (AIs 21 true<|AKd rfl rfl (AIm rfl (AHy ?_))));by_cases Ak:a4=0
   ·rw [decide_eq_true Ak];refine AIs 26 true<|AJp Amy rfl (AIs 26 true<|AI1 AIg rfl ((Aa.b p0).cell (i:=4) rfl) (AIs 26 true<|AKd rfl rfl (AIm rfl (AH7<|AIc<|AIt ?_))));obtain rfl:=AH0<|ifT Az Ak;exact ⟨_,AId,Aa.x,rfl⟩
   ·rw [decide_eq_false Ak];refine ANe 26 false<|AIn rfl (AH7<|AIc<|AIt ?_);obtain rfl:=AH0<|ifF Az Ak;exact ⟨_,AId,Aa.x,rfl⟩
  ·rw [decide_eq_false Aj];refine ANe 21 false<|AIn rfl (AHy<|ANe 26 false<|AIn rfl (AH7<|AIc<|AIt ?_));obtain rfl:=AH0<|ifF Ay Aj;exact ⟨_,AId,Aa.x,rfl⟩
 ·refine AIa<|q_t<|AH1<|AHy<|AKd rfl rfl (AHy ?_);have A3:=AJc Ah Av;by_cases Am:a6=2
  ·have A4:=ifT A3 Am;rw [decide_eq_true Am];refine AIs 33 true<|AJp Ai1 rfl (AIs 33 true<|AI1 AJq rfl ((Aa.b p0).cell (i:=1) rfl) (AIs 33 true<|AKd rfl rfl (AIm rfl (AHy ?_))));by_cases Ao:a2=2
   ·have A5:=ifT A4 Ao;rw [decide_eq_true Ao];refine AIs 38 true<|AJp AZb rfl (AIs 38 true<|AI1 AIg rfl ((Aa.b p0).cell (i:=2) rfl) (AIs 38 true<|ALg rfl rfl AHz (AIs 38 true<|AKd rfl rfl (AIm rfl (AHy ?_)))));by_cases Ap:(Int.tmod a3 2)=0
    ·have A6:=ifT A5 Ap;rw [decide_eq_true Ap];refine AIs 44 true<|AJp Amx rfl (AIs 44 true<|AI1 AIg rfl ((Aa.b p0).cell (i:=3) rfl) (AIs 44 true<|ALg rfl rfl AHz (AIs 44 true<|AK0 rfl rfl (AIm rfl (AHy ?_)))));by_cases Aq: ¬ (Int.tmod a4 2)=0
     ·rw [decide_eq_true Aq];refine AIs 50 true<|AJp Amy rfl (AIs 50 true<|AI1 AIg rfl ((Aa.b p0).cell (i:=4) rfl) (AIs 50 true<|ALg rfl rfl AHz (AIs 50 true<|AKd rfl rfl (AIm rfl (AH7<|AIc ?_)))));obtain rfl:=AH0<|ifT A6 Aq;exact ⟨_,AId,Aa.x,rfl⟩
     ·rw [decide_eq_false Aq];refine AUi 50 false<|AIn rfl (AH7<|AIc ?_);obtain rfl:=AH0<|ifF A6 Aq;exact ⟨_,AId,Aa.x,rfl⟩
    ·rw [decide_eq_false Ap];refine AUi 44 false<|AIn rfl (AHy<|AUi 50 false<|AIn rfl (AH7<|AIc ?_));obtain rfl:=AH0<|ifF A5 Ap;exact ⟨_,AId,Aa.x,rfl⟩
   ·rw [decide_eq_false Ao];refine AUi 38 false<|AIn rfl (AHy<|AUi 44 false<|AIn rfl (AHy<|AUi 50 false<|AIn rfl (AH7<|AIc ?_)));obtain rfl:=AH0<|ifF A4 Ao;exact ⟨_,AId,Aa.x,rfl⟩
  ·rw [decide_eq_false Am];refine ANe 33 false<|AIn rfl (AHy<|AUi 38 false<|AIn rfl (AHy<|AUi 44 false<|AIn rfl (AHy<|AUi 50 false<|AIn rfl (AH7<|AIc ?_))));obtain rfl:=AH0<|ifF A3 Am;exact ⟨_,AId,Aa.x,rfl⟩
theorem Av5 {c:Nat} {m:Int}:Aoo (tab r c F) m=tab r c λi j=>F i j % m:=by
 simp [Aoo,tab,Function.comp_def]
theorem A54 {n:Nat} {m:Int} (hn:n<=8) (hm:2<=m) (Ab:m<=2147483647) (hf:100 < fuel):AMg fuel (tab n n F) m=some (tab n n λi j=>F i j % m):=by
 rw [Ay1 AHx Ab (by rw [AJf];omega) (by rw [AJf];omega) (λz hz=>by
  obtain ⟨i,hi⟩:=List.getElem?_of_mem hz
  have h1:=(List.getElem?_eq_some_iff.1 hi).1
  rw [AJf] at h1
  rw [AJo h1] at hi
  cases hi
  rw [AJ5];omega),Av5]
theorem AO1 (hp:1<=p) {b:Nat} (h:a<=b):p ^ a<=p ^ b:=by
 obtain ⟨c,rfl⟩:∃ c,b=a + c:=⟨b - a,AHx⟩;rw [Int.pow_add];have h1:0 < p ^ a:=Int.pow_pos AHx;have h2:0 < p ^ c:=Int.pow_pos AHx;have:=Int.mul_le_mul_of_nonneg_left (show 1<=p ^ c by omega)<|Int.le_of_lt h1;omega
theorem Aej (hp:2<=p) (h:p ^ k<=2147483647):k<=30:=by
 rcases Nat.lt_or_ge 30 k with h1 | h1
 ·exfalso;have h2:=AO1 (p:=p) AHx (show 31<=k by omega);have h3:(2:Int) ^ 31<=p ^ 31:=AUc AHx hp 31;omega
 ·exact h1
theorem Ar4 (hp:2<=p) (h:p ^ k<=2147483647) (hf:100 < fuel):ARi fuel p k=some (p ^ k):=by
 have hk:=Aej hp h;apply ok_eq;unfold ARi;refine AH9 (AJg (λi s=>s=(p ^ i,(i:Int))/\i<=k) k (Q:=(· =p ^ k)) ⟨AI9,AHx⟩ AHx λi s hi hI=>?_) λe he=>AH4 he;obtain ⟨rfl,hik⟩:=hI;unfold AXc;dsimp only;refine AI4 (λh2=>AH4 ⟨AHx,?_,AHx⟩) λh2=>AH4 ?_
 ·have h3:=AO1 (p:=p) AHx (show i + 1<=k by omega);have h4:0 < p ^ (i + 1):=Int.pow_pos AHx;rw [show p ^ i * p=p ^ (i + 1) from (Int.pow_succ p i).symm,wk AHx,AKq AHx]
 grind
theorem Azt (hp:2<=p) (h:p ^ k<=2147483647) (hf:100 < fuel):ANx fuel p k=some (p ^ k):=by
 have hk:=Aej hp h;apply ok_eq;unfold ANx;refine AH9 (AJg (λi s=>s=(p ^ i,(i:Int))/\i<=k) k (Q:=(· =p ^ k)) ⟨AI9,AHx⟩ AHx λi s hi hI=>?_) λe he=>AH4 he;obtain ⟨rfl,hik⟩:=hI;unfold ASv;dsimp only;refine AI4 (λh2=>AH4 ⟨AHx,?_,AHx⟩) λh2=>AH4 ?_
 ·have h3:=AO1 (p:=p) AHx (show i + 1<=k by omega);have h4:0 < p ^ (i + 1):=Int.pow_pos AHx;rw [show p ^ i * p=p ^ (i + 1) from (Int.pow_succ p i).symm,wk AHx,AKq AHx]
 grind
def IsB (p x:Int) (b:AJ0):Prop:= ∃ (e:Nat) (u:Int),b=((e:Int),1,u,0,0)/\x=u * p ^ e/\¬ p ∣ u
theorem A55 {b c:AJ0} (hp:2<=p) (hb:IsB p x b) (hc:IsB p x c):b=c:=by
 obtain ⟨e,u,rfl,h1,h2⟩:=hb;obtain ⟨f,v,rfl,h3,h4⟩:=hc;have he:=Ag2 hp ⟨e,u,rfl,h1,h2⟩ ⟨f,v,rfl,h3,h4⟩;obtain rfl:e=f:=by omega
 have:u=v:=Int.eq_of_mul_eq_mul_right (Int.pow_ne_zero<|show p≠0 by omega)<|h1.symm.trans h3;rw [this]
theorem Aqe (hp:2<=p) (Ad:p<=9973) (hx:0 < x) (Ae:x<=2147483647) (hf:100 < fuel):Ok (ARl fuel x p) (IsB p x):=by
 unfold ARl;refine AH9 (AJg (λi s=> ∃ r:Int,s=((i:Int),r)/\0 < r/\x=r * p ^ i) 31 (Q:=λe=> ∃ (k:Nat) (u:Int),e=((k:Int),u)/\x=u * p ^ k/\¬ p ∣ u) ⟨x,rfl,AHx,AI9⟩ AHx λi s hi hI=>?_) λe he=>?_
 ·obtain ⟨r,rfl,hr,hdr⟩:=hI;have hpi:0 < p ^ i:=Int.pow_pos AHx;have hpx:1 * p ^ i<=r * p ^ i:=Int.mul_le_mul_of_nonneg_right AHx AHx;have Af:=Aej (k:=i) hp AHx;have hrd:r * 1<=r * p ^ i:=Int.mul_le_mul_of_nonneg_left AHx AHx;unfold AXk;dsimp only;refine AJ4 AHx<|AI4 (λh=>AJ4 AHx ?_) λh=>AH4 ⟨i,r,rfl,hdr,λh3=>h<|Int.tmod_eq_zero_of_dvd h3⟩;obtain ⟨q,rfl⟩:p ∣ r:=Int.dvd_of_tmod_eq_zero h;have hq:0 < q:=Int.pos_of_mul_pos_right hr AHx;have hqr:1 * q<=p * q:=Int.mul_le_mul_of_nonneg_right AHx AHx;refine AH4 ⟨AHx,q,?_,hq,by grind⟩;rw [Int.mul_tdiv_cancel_left _ AHx,AKn (x:=q) AHx AHx,AKq AHx]
 ·obtain ⟨k,u,rfl,h1,h2⟩:=he;exact AH4 ⟨k,u,rfl,h1,h2⟩
def Anv (F:AIe) (r c:Nat) (x:Int):AIe:=AKi F r λq=>if q=c then x else F r q
theorem AVp (F:AIe) (r c:Nat) (x:Int) (i j:Nat):Anv F r c x i j=if i=r/\j=c then x else F i j:=by
 unfold Anv;rw [AJa];grind
def Av6 (F:AIe) (r:Nat) (a b c:Int):AIe:=Anv (Anv (Anv (Anv F r r a) r (r + 1) b) (r + 1) r b) (r + 1) (r + 1) c
def Aiw (p:Int):List AJ0->Nat->(AIe)->(AIe)
 | [],_,F=>F
 | b :: l,r,F=>if b.2.1=2 then Aiw p l (r + 2) (Av6 F r (p ^ b.1.toNat * b.2.2.1) (p ^ b.1.toNat * b.2.2.2.1)<|p ^ b.1.toNat * b.2.2.2.2) else Aiw p l (r + 1)<|Anv F r r<|p ^ b.1.toNat * b.2.2.1
def AXr:List AJ0->Nat
 | []=>0
 | b :: l=>b.2.1.toNat + AXr l
def A56 (p:Int) (k:Nat) (b:AJ0):Prop:=(0<=b.1/\b.1<=if p=2 then (k:Int) - 3 else (k:Int) - 1)/\
 if b.2.1=1 then (0 < b.2.2.1/\b.2.2.1 < p ^ (k - b.1.toNat))/\¬ p ∣ b.2.2.1/\b.2.2.2.1=0/\b.2.2.2.2=0
 else ((0<=b.2.2.1/\b.2.2.1 < p ^ (k - b.1.toNat))/\(0<=b.2.2.2.1/\b.2.2.2.1 < p ^ (k - b.1.toNat))/\0<=b.2.2.2.2/\b.2.2.2.2 < p ^ (k - b.1.toNat))/\b.2.2.1 % 2=0/\b.2.2.2.1 % 2=1/\b.2.2.2.2 % 2=0
def Asc (L:List AJ0) (i:Nat):Prop:=0 < i-> ∀ b c,L[i]? =some b->L[i - 1]? =some c->c.1<=b.1
def RG (p:Int) (k:Nat) (L:List AJ0) (i:Nat):Prop:=(∀ b,L[i]? =some b->A56 p k b)/\Asc L i
theorem Aqf (R:Ah8 M) (hp:2<=p) (hp2:p<=9973) (h:Ak1 (det M.length<|ent M) p v):∃ k:Nat,((if p=2 then v + 3 else v + 1)=(k:Int))/\p ^ k<=2147483647/\1<=k/\(p=2->3<=k):=by
 obtain ⟨v1,v2⟩:=Ak2 R;obtain ⟨e,r,rfl,h1,h2⟩:=h;have hpe:0 < p ^ e:=Int.pow_pos AHx
 have hr:0 < r:=by
  rcases Int.lt_or_le 0 r with h | h
  ·exact h
  ·have:=Int.mul_nonpos_of_nonpos_of_nonneg h<|Int.le_of_lt hpe;omega
 have hle:1 * p ^ e<=r * p ^ e:=Int.mul_le_mul_of_nonneg_right AHx AHx
 by_cases h:p=2
 ·subst h;refine ⟨e + 3,AHx,?_,AHx,λ_=>by omega⟩;grind
 ·refine ⟨e + 1,AHx,?_,AHx,λh2=>absurd h2 h⟩;rw [Int.pow_succ];have:=Int.mul_le_mul (show p ^ e<=10000 by omega) hp2 AHx AHx;omega
def ASd (fuel:Nat) (a1 a2:Int):Option Int:=
 if a2≠0 then if a2≠0 then some (Int.tmod (w64<|Int.tmod a1 a2 + a2) a2) else none else none
theorem Aah {r:Int} (hp:ASd fuel a1 a2=some r):AI7 Tryz.prog 66 #[(.int .i64 a1),(.int .i64 a2)] h (λx h'=>Ext h h'/\x= .int .i64 r):=by
 unfold ASd at hp;refine cwf (l:=[_,_]) Tryz.func66 rfl rfl (AH1<|AJd<|AHy<|AHy ?_);obtain ⟨Ac,Ad⟩:=ifN hp;refine ALg rfl rfl Ac (AHy<|AI0 rfl rfl (AHy ?_));obtain ⟨Ae,Af⟩:=ifN Ad;refine ALg rfl rfl Ae (AH7<|AIc ?_);obtain rfl:=AH0 Af;exact ⟨_,AId,(Kst.k0 h).x,rfl⟩
def AXm (fuel:Nat) (Ac Aa Ab:Int):Option ((Int × Int) ⊕ (Int × Int)):=
 if Int.tmod Aa 2=0 then if Int.tmod Ac 8=3 then some (.inl (w64<|Int.tdiv Aa 2,w64<|0 - Ab)) else if Int.tmod Ac 8=5 then some (.inl (w64<|Int.tdiv Aa 2,w64<|0 - Ab)) else some (.inl (w64<|Int.tdiv Aa 2,Ab)) else some<|.inr (Aa,Ab)
def AXn (fuel:Nat) (Ad Aa Ae:Int):Option ((Int × Int × Int) ⊕ (Int × Int)):=
 if ¬ Ad=0 then (iter (λs=>AXm fuel Aa s.1 s.2) fuel (Ad,Ae)).bind (λ((Ab,Ac):Int × Int)=>((if Int.tmod Ab 4=3 then if Int.tmod Aa 4=3 then some (w64<|0 - Ac) else some Ac else some Ac):Option Int).bind (λ(Af:Int)=>if Ab≠0 then some (.inl (Int.tmod Aa Ab,Ab,Af)) else none)) else some<|.inr (Aa,Ae)
def AVq (fuel:Nat) (a1 a2:Int):Option Int:=
 (iter (λs=>AXn fuel s.1 s.2.1 s.2.2) fuel (a1,a2,1)).bind (λ((Ac,Ad):Int × Int)=>if ¬ Ac=1 then some 0 else some Ad)
theorem Ag4 {r:Int} (hp:AVq fuel a1 a2=some r):AI7 Tryz.prog 67 #[(.int .i64 a1),(.int .i64 a2)] h (λx h'=>Ext h h'/\x= .int .i64 r):=by
 unfold AVq at hp;refine cwf (l:=[_,_]) Tryz.func67 rfl rfl (AH1<|AJd<|AH7<|AH3<|AH6 ?_);have K0:=Kst.k0 h;refine APb 137438953443 hp (λx=>[(0,(.int .i64 x.1)),(1,(.int .i64 x.2.1)),(5,(.int .i64 x.2.2))]) (λx=>K0.L) K0 ⟨rfl,rfl,rfl,trivial⟩ ?_;rintro ⟨u9,Ay,Bc⟩ Be h6 y5 K8 Ae Az;unfold AXn at Ae;refine AH3<|AH1<|AHy<|AK0 rfl rfl (AH5<|⟨_,rfl,λAf=>?_,λAf=>?_⟩)
 ·refine AIa<|q_t<|AH6<|AH3<|AH6<|APb 8388385 (AJb Ae Af) (λx=>[(0,(.int .i64 x.1)),(5,(.int .i64 x.2))]) (λx=>K8.L) K8 ⟨rfl,rfl,trivial⟩ ?_;rintro ⟨A3,Ag⟩ Bh Bi Bj Aa Ah A4;unfold AXm at Ah;refine AH3<|AH1<|AHy<|ALg rfl rfl AHz (AKd rfl rfl (AH5<|⟨_,rfl,λAi=>?_,λAi=>?_⟩))
  ·refine AIa<|q_t<|AH6<|AH1<|AHy<|AWz rfl rfl AHz (AJd<|AHy<|ALg rfl rfl AHz (AKd rfl rfl (AHy ?_)));have Ar:=AJb Ah Ai;by_cases Ac:(Int.tmod Ay 8)=3
   ·rw [decide_eq_true Ac];refine ANe 16 true<|AIm rfl (AH5<|AI2 rfl (AIf<|AHy<|Adj rfl (AIw<|AIu<|q_b<|q_t ?_)));exact ⟨_,(AH0<|ifT Ar Ac).symm,Aa,rfl,rfl,trivial⟩
   ·have Au:=ifF Ar Ac;rw [decide_eq_false Ac];refine AIs 16 false<|AHy<|AIs 16 false<|ALg rfl rfl AHz (AIs 16 false<|AKd rfl rfl (AIn rfl (AH5<|⟨_,rfl,λAj=>?_,λAj=>?_⟩)))
    ·refine AIf<|AHy<|Adj rfl (AIw<|AIu<|q_b<|q_t ?_);exact ⟨_,(AH0<|AJb Au Aj).symm,Aa,rfl,rfl,trivial⟩
    ·refine AIa<|q_b<|q_t ?_;exact ⟨_,(AH0<|AJc Au Aj).symm,Aa,rfl,rfl,trivial⟩
  ·refine AIq<|AIr<|AIr<|AJt<|q_t ?_;obtain ⟨A5,Av,A6⟩:=AH2<|A4 _ (AH0<|AJc Ah Ai).symm;refine ARb 8581546016 (λx:(Int)=>[(5,(.int .i64 x))]) (λx h'=>( x)=A5/\Kst h h' (Aa.L)) ?_ ?_
   ·refine AH1<|AHy<|ALg rfl rfl AHz (AKd rfl rfl (AHy ?_));by_cases Ad:(Int.tmod A3 4)=3
    ·have Aw:=ifT Av Ad;rw [decide_eq_true Ad];refine AIs 26 true<|AHy<|AIs 26 true<|ALg rfl rfl AHz (AIs 26 true<|AKd rfl rfl (AIm rfl (AH5<|⟨_,rfl,λAk=>?_,λAk=>?_⟩)))
     ·refine AIf<|AHy<|Adj rfl (AH7 ?_);exact ⟨((w64<|0 - Ag):(Int)),⟨AH0<|AJb Aw Ak,Aa⟩,rfl,trivial⟩
     ·refine AIa<|q_t ?_;exact ⟨(Ag:(Int)),⟨AH0<|AJc Aw Ak,Aa⟩,rfl,trivial⟩
    ·rw [decide_eq_false Ad];refine ANe 26 false<|AIn rfl (AH5<|AI6 rfl (AIa<|q_t ?_));exact ⟨(Ag:(Int)),⟨AH0<|ifF Av Ad,Aa⟩,rfl,trivial⟩
   rintro Bl Bm Bn ⟨A7,A8⟩;subst A7;refine AIf<|AHy<|AHy ?_;obtain ⟨A9,Ba⟩:=ifN A6;refine ALg rfl rfl A9 (AHy<|AIw<|AIw<|AIu<|q_b<|q_t ?_);exact ⟨_,(AH0 Ba).symm,A8,rfl,rfl,rfl,trivial⟩
 ·refine AIq<|AIr<|AIr<|AJt<|q_t<|AH3<|AH1<|AHy<|AK0 rfl rfl (AH5 ?_);have Ax:=Az _ (AH0<|AJc Ae Af).symm;refine ⟨_,rfl,λAm=>?_,λAm=>?_⟩
  ·refine AH1<|AH7<|AIc<|AIt ?_;obtain rfl:=AH0<|AJb Ax Am;exact ⟨_,AId,K8.x,rfl⟩
  ·refine AIa<|q_t<|AH1<|AHy<|AH7<|AIc ?_;obtain rfl:=AH0<|AJc Ax Am;exact ⟨_,AId,K8.x,rfl⟩
def ASl (fuel:Nat) (a1 Ab Aa:Int):Option ((Int × Int) ⊕ ((Int × Int) ⊕ (Int × Int))):=
 if Int.tmod Ab 2=0 then if Int.tmod a1 2=0 then some (.inr<|.inl (0,0)) else (((ASd fuel a1 8).bind λAd=>if Ad=3 then some (w64<|0 - Aa) else if Ad=5 then some (w64<|0 - Aa) else some Aa):Option Int).bind (λ(Ae:Int)=>some<|.inl (w64<|Int.tdiv Ab 2,Ae)) else some<|.inr<|.inr (Ab,Aa)
def AP7 (fuel:Nat) (a1 a2:Int):Option (Int × Int):=
 ((if a1 < (-2147483647) then some (.inl (0,1)) else if 2147483647 < a1 then some (.inl (0,1)) else if a2 < (-2147483647) then some (.inl (0,1)) else if 2147483647 < a2 then some (.inl (0,1)) else some<|.inr ()):Option ((Int × Int) ⊕ Unit)).bind (λex=>match ex with | .inl Ad=>(some Ad) | .inr _=>if a2=0 then if a1=1 then some (1,0) else if a1=(-1) then some (1,0) else some (0,0) else ((if a2 < 0 then if a1 < 0 then some (w64<|0 - a2,-1) else some (w64<|0 - a2,1) else some (a2,1)):Option (Int × Int)).bind (λ((Ae,Af):Int × Int)=>(iter (λs=>ASl fuel a1 s.1 s.2) fuel (Ae,Af)).bind (λex=>match ex with | .inl Ag=>(some Ag) | .inr (Ac,Ah)=>(ASd fuel a1 Ac).bind λAi=>(AVq fuel Ai Ac).bind λAj=>some (w64<|Ah * Aj,0))))
theorem Aek {r:(Int × Int)} (hp:AP7 fuel a1 a2=some r):AI7 Tryz.prog 23 #[(.int .i64 a1),(.int .i64 a2)] h (λx h'=>Ext h h'/\x= .tuple #[.int .i64 r.1,.int .i64 r.2]):=by
 unfold AP7 at hp;refine cwf (l:=[_,_]) Tryz.func23 rfl rfl (AH1<|AIw<|AH7 ?_);have K0:=Kst.k0 h;obtain ⟨Bh,A3,Ad⟩:=AH2 hp;refine ARb 4194096 (λx:Unit=>[]) (λx h'=>(Sum.inr <| ())=Bh/\Kst h h' (K0.L)) ?_ ?_
 ·refine AH1<|AHy<|AI3 rfl rfl (AHy ?_);by_cases Af:a1 < (-2147483647)
  ·rw [decide_eq_true Af];refine AP2 10 true<|AIm rfl (AHy<|AP2 14 true<|AIm rfl (AHy<|AP2 18 true<|AIm rfl (AH5<|AI2 rfl (AH1<|AIw<|AH7 ?_))));obtain rfl:=AH0<|ifT A3 Af;refine AIc<|AIt ?_;obtain rfl:=AH0 Ad;exact ⟨_,AJu,K0.x,rfl⟩
  ·have A4:=ifF A3 Af;rw [decide_eq_false Af];refine AIs 10 false<|AHy<|AIs 10 false<|APu rfl rfl (AIn rfl (AHy ?_));by_cases Ag:2147483647 < a1
   ·rw [decide_eq_true Ag];refine AP2 14 true<|AIm rfl (AHy<|AP2 18 true<|AIm rfl (AH5<|AI2 rfl (AH1<|AIw<|AH7 ?_)));obtain rfl:=AH0<|ifT A4 Ag;refine AIc<|AIt ?_;obtain rfl:=AH0 Ad;exact ⟨_,AJu,K0.x,rfl⟩
   ·have A5:=ifF A4 Ag;rw [decide_eq_false Ag];refine AIs 14 false<|AHy<|AIs 14 false<|AI3 rfl rfl (AIn rfl (AHy ?_));by_cases Ah:a2 < (-2147483647)
    ·rw [decide_eq_true Ah];refine AP2 18 true<|AIm rfl (AH5<|AI2 rfl (AH1<|AIw<|AH7 ?_));obtain rfl:=AH0<|ifT A5 Ah;refine AIc<|AIt ?_;obtain rfl:=AH0 Ad;exact ⟨_,AJu,K0.x,rfl⟩
    ·have A6:=ifF A5 Ah;rw [decide_eq_false Ah];refine AIs 18 false<|AHy<|AIs 18 false<|APu rfl rfl (AIn rfl (AH5<|⟨_,rfl,λAm=>?_,λAm=>?_⟩))
     ·refine AH1<|AIw<|AH7 ?_;obtain rfl:=AH0<|AJb A6 Am;refine AIc<|AIt ?_;obtain rfl:=AH0 Ad;exact ⟨_,AJu,K0.x,rfl⟩
     ·refine AIa<|q_t ?_;exact ⟨(():Unit),⟨AH0<|AJc A6 Am,K0⟩,trivial⟩
 rintro ⟨⟩ B3 B4 ⟨Bi,Aa⟩;subst Bi;refine AH3<|AH1<|AHy<|AKd rfl rfl (AH5<|⟨_,rfl,λAo=>?_,λAo=>?_⟩)
 ·refine AH3<|AH1<|AHy<|AKd rfl rfl (AHy ?_);have A7:=AJb Ad Ao;by_cases Ai:a1=1
  ·rw [decide_eq_true Ai];refine AP2 26 true<|AIm rfl (AH5<|AI2 rfl (AH1<|AIw<|AH7<|AIc<|AIt<|AIt ?_));obtain rfl:=AH0<|ifT A7 Ai;exact ⟨_,AJu,Aa.x,rfl⟩
  ·have A8:=ifF A7 Ai;rw [decide_eq_false Ai];refine AIs 26 false<|AHy<|AIs 26 false<|AKd rfl rfl (AIn rfl (AH5<|⟨_,rfl,λAp=>?_,λAp=>?_⟩))
   ·refine AH1<|AIw<|AH7<|AIc<|AIt<|AIt ?_;obtain rfl:=AH0<|AJb A8 Ap;exact ⟨_,AJu,Aa.x,rfl⟩
   ·refine AIa<|q_t<|AH1<|AIw<|AH7<|AIc<|AIt ?_;obtain rfl:=AH0<|AJc A8 Ap;exact ⟨_,AJu,Aa.x,rfl⟩
 ·refine AIa<|q_t<|AH1<|AH7 ?_;obtain ⟨Bj,A9,Bl⟩:=AH2<|AJc Ad Ao;refine ARb 67645734978 (λx:(Int) × (Int)=>[(1,(.int .i64 x.1)),(6,(.int .i64 x.2))]) (λx h'=>( (x.1,x.2))=Bj/\Kst h h' (Aa.L)) ?_ ?_
  ·refine AH1<|AHy<|AI3 rfl rfl (AH5<|⟨_,rfl,λAq=>?_,λAq=>?_⟩)
   ·refine AH1<|AHy<|Adj rfl (AJd<|AHy<|AI3 rfl rfl (AH5 ?_));have Ba:=AJb A9 Aq;refine ⟨_,rfl,λAr=>?_,λAr=>?_⟩
    ·refine AIf<|AH7 ?_;exact ⟨(((w64<|0 - a2),(-1)):(Int) × (Int)),⟨AH0<|AJb Ba Ar,Aa⟩,rfl,rfl,trivial⟩
    ·refine AIa<|q_t ?_;exact ⟨(((w64<|0 - a2),1):(Int) × (Int)),⟨AH0<|AJc Ba Ar,Aa⟩,rfl,rfl,trivial⟩
   ·refine AIa<|q_t ?_;exact ⟨((a2,1):(Int) × (Int)),⟨AH0<|AJc A9 Aq,Aa⟩,rfl,rfl,trivial⟩
  rintro ⟨u64,B5⟩ B6 B7 ⟨Bm,Bb⟩;subst Bm;refine AH3<|AH6<|APb 18014329790005490 Bl (λx=>[(1,(.int .i64 x.1)),(6,(.int .i64 x.2))]) (λx=>Bb.L) Bb ⟨rfl,rfl,trivial⟩ ?_;rintro ⟨B8,Au⟩ B9 Ca Cb Aj Av Bc;unfold ASl at Av;refine AH3<|AH1<|AHy<|ALg rfl rfl AHz (AKd rfl rfl (AH5<|⟨_,rfl,λAw=>?_,λAw=>?_⟩))
  ·refine AIa<|q_t<|AH6<|AH3<|AH1<|AHy<|ALg rfl rfl AHz (AKd rfl rfl (AH5 ?_));have Be:=AJb Av Aw;refine ⟨_,rfl,λAx=>?_,λAx=>?_⟩
   ·refine AH1<|AIw<|AH7<|AIc<|AIt<|AKa<|AIt<|AKa<|AIt ?_;obtain rfl:=AH0<|Bc _ (AH0<|AJb Be Ax).symm;exact ⟨_,AJu,Aj.x,rfl⟩
   ·refine AIa<|q_t ?_;obtain ⟨Bn,Bo,Bp⟩:=AH2<|AJc Be Ax;refine ARb 4499201580859584 (λx:(Int)=>[(6,(.int .i64 x))]) (λx h'=>( x)=Bn/\Kst h h' (Aj.L)) ?_ ?_
    ·refine AH1<|AHy ?_;obtain ⟨Bq,Br,Bf⟩:=AH2 Bo;refine ALx Aj (Aah Br) λCd Ce Ay=>AJd<|AHy<|AKd rfl rfl (AHy ?_);by_cases Ak:Bq=3
     ·rw [decide_eq_true Ak];refine AP2 46 true<|AIm rfl (AH5<|AI2 rfl (AIf<|AHy<|Adj rfl (AH7 ?_)));exact ⟨((w64<|0 - Au):(Int)),⟨AH0<|ifT Bf Ak,Ay⟩,rfl,trivial⟩
     ·have Bg:=ifF Bf Ak;rw [decide_eq_false Ak];refine AIs 46 false<|AHy<|AIs 46 false<|AKd rfl rfl (AIn rfl (AH5<|⟨_,rfl,λAz=>?_,λAz=>?_⟩))
      ·refine AIf<|AHy<|Adj rfl (AH7 ?_);exact ⟨((w64<|0 - Au):(Int)),⟨AH0<|AJb Bg Az,Ay⟩,rfl,trivial⟩
      ·refine AIa<|q_t ?_;exact ⟨(Au:(Int)),⟨AH0<|AJc Bg Az,Ay⟩,rfl,trivial⟩
    rintro Cf Cg Ch ⟨Bt,Bu⟩;subst Bt;refine AIf<|AHy<|AWz rfl rfl AHz (AIw<|AIu<|q_b<|q_t ?_);exact ⟨_,(AH0 Bp).symm,Bu,rfl,rfl,trivial⟩
  ·refine AIq<|AIr<|AIr<|AJt<|q_t<|AH1<|AHy<|AHy<|AHy ?_;obtain ⟨Ci,Bv,Bw⟩:=AH2<|Bc _ (AH0<|AJc Av Aw).symm;refine ALx Aj (Aah Bv) λCj Ck Bx=>AHy ?_;obtain ⟨Cm,By,Bz⟩:=AH2 Bw;refine ALx Bx (Ag4 By) λCn Co B2=>APo rfl rfl (AIw<|AH7<|AIc ?_);obtain rfl:=AH0 Bz;exact ⟨_,AJu,B2.x,rfl⟩
noncomputable def ASw (fuel:Nat) (a1:Int) (a8:List AJ0) (Ae:List AMi) (Ad:Int):Option ((List AMi × Int) ⊕ ((List AMi × Bool) ⊕ List AMi)):=
 if Ad < (a8.length:Int) then (gI a8 Ad).bind λAa=>((if ¬ Aa.2.1=1 then some (.inl ([],false)) else if Aa.1 < 0 then some (.inl ([],false)) else if 60 < Aa.1 then some (.inl ([],false)) else if ¬ Aa.2.2.2.1=0 then some (.inl ([],false)) else if ¬ Aa.2.2.2.2=0 then some (.inl ([],false)) else if a1≠0 then if Int.tmod Aa.2.2.1 a1=0 then some (.inl ([],false)) else some (.inr ()) else none):Option ((List AMi × Bool) ⊕ Unit)).bind (λex=>match ex with | .inl Ai=>(some<|.inr<|.inl Ai) | .inr _=>((if 0 < Ad then (gI a8<|w64<|Ad - 1).bind λAj=>if Aa.1 < Aj.1 then some (.inl ([],false)) else some (.inr ()) else some<|.inr ()):Option ((List AMi × Bool) ⊕ Unit)).bind (λex=>match ex with | .inl Ak=>(some<|.inr<|.inl Ak) | .inr _=>((if Ad=0 then if Ae.length<=100000000 then some (Ae ++ [(Aa.1,0,1,false,0)]) else none else (gI a8<|w64<|Ad - 1).bind λAm=>if Am.1 < Aa.1 then if Ae.length<=100000000 then some (Ae ++ [(Aa.1,0,1,false,0)]) else none else some Ae):Option (List AMi)).bind (λ(Ac:(List AMi))=>if a1≠0 then (AP7 fuel (Int.tmod Aa.2.2.1 a1) a1).bind λ(Ao,Ap)=>(gI Ac<|w64<|(Ac.length:Int) - 1).bind λAb=>(gI (sI Ac (w64<|(Ac.length:Int) - 1) (Ab.1,w64<|Ab.2.1 + 1,Ab.2.2.1,Ab.2.2.2.1,Ab.2.2.2.2))<|w64<|(Ac.length:Int) - 1).bind λAg=>some (.inl (sI (sI Ac (w64<|(Ac.length:Int) - 1) (Ab.1,w64<|Ab.2.1 + 1,Ab.2.2.1,Ab.2.2.2.1,Ab.2.2.2.2)) (w64<|(Ac.length:Int) - 1) (Ag.1,Ag.2.1,w64<|Ag.2.2.1 * Ao,Ag.2.2.2.1,Ag.2.2.2.2),w64<|Ad + 1)) else none))) else some<|.inr<|.inr Ae
noncomputable def AKw (fuel:Nat) (a1:Int) (a4:LiI) (a8:List AJ0):Option ((List AMi) × Bool):=
 (((AVi fuel a1).bind λAc=>if (!Ac)=true then some (.inl ([],false)) else if (a8.length:Int) < 1 then some (.inl ([],false)) else if 8 < (a8.length:Int) then some (.inl ([],false)) else some<|.inr ()):Option ((List AMi × Bool) ⊕ Unit)).bind (λex=>match ex with | .inl Ad=>(some Ad) | .inr _=>(iter (λs=>ASw fuel a1 a8 s.1 s.2) fuel ([],0)).bind (λex=>match ex with | .inl Ae=>(some Ae) | .inr Af=>some (Af,true)))
theorem ASx {A6:Value} {a4:LiI} {A7:Value} {a8:(List AJ0)} {r:((List AMi) × Bool)} (H3:ANp (cI .i64) h A6 a4) (H7:SlC AV9 h A7 a8) (HO:Ad2 h) (hp:AKw fuel a1 a4 a8=some r):AI7 Tryz.prog 8 #[(.agg #[(.int .i64 a1),A6,A7])] h (λx h'=>Ext h h'/\ ∃ (x0:Value) (F0:List Nat),x= .tuple #[x0,.bool r.2]/\OwC AVc 60 h' F0 x0 r.1/\Sp h' h.size [F0]):=by
 unfold AKw at hp;refine cwf (l:=[_]) Tryz.func8 rfl rfl (AH1<|AP5 (Kst.k0 h) [(.int .i64 a1),A6,A7] λEd Ee Ef Ao=>AIw<|AH7 ?_);obtain ⟨Cn,Co,Ap⟩:=AH2 hp;refine ARb 67107852 (λx:Unit=>[]) (λx h'=>(Sum.inr <| ())=Cn/\Kst h h' (Ao.L)) ?_ ?_
 ·refine AH1<|ALt AWd AIg (Ao.b p0) 0 rfl ?_;obtain ⟨Cp,Cq,By⟩:=AH2 Co;refine ALx Ao (Aa7 (HO.ext Ao.x) Cq) λEg Eh Ah=>AMp rfl (AHy ?_);cases Bz:(!Cp)
  ·refine AIs 14 false<|AJp AT4 rfl (AIs 14 false<|AI1 AZ1 rfl ((Ah.b p0).cell (i:=2) rfl) (AIs 14 false<|AJ8 AXv rfl H7 (AIs 14 false<|AI3 rfl rfl (AIn rfl (AHy ?_)))));have B2:=AQa By Bz;by_cases Aq:(a8.length:Int) < 1
   ·rw [decide_eq_true Aq];refine AUi 20 true<|AIm rfl (AH5<|AI2 rfl (AH1<|AIw<|AH7 ?_));obtain rfl:=AH0<|ifT B2 Aq;refine AIc<|AIt ?_;have A9:=Kst.anil AVc 60 Ah;obtain rfl:=AH0 Ap;exact ⟨_,AJu,A9.x,_,_,rfl,(A9.o p0),A9.s.sel [0] AHz⟩
   ·have B3:=ifF B2 Aq;rw [decide_eq_false Aq];refine AIs 20 false<|AJp AT4 rfl (AIs 20 false<|AI1 AZ1 rfl ((Ah.b p0).cell (i:=2) rfl) (AIs 20 false<|AJ8 AXv rfl H7 (AIs 20 false<|APu rfl rfl (AIn rfl (AH5<|⟨_,rfl,λBa=>?_,λBa=>?_⟩)))))
    ·refine AH1<|AIw<|AH7 ?_;obtain rfl:=AH0<|AJb B3 Ba;refine AIc<|AIt ?_;have Bb:=Kst.anil AVc 60 Ah;obtain rfl:=AH0 Ap;exact ⟨_,AJu,Bb.x,_,_,rfl,(Bb.o p0),Bb.s.sel [0] AHz⟩
    ·refine AIa<|q_t ?_;exact ⟨(():Unit),⟨AH0<|AJc B3 Ba,Ah⟩,trivial⟩
  ·refine AUi 14 true<|AIm rfl (AHy<|AUi 20 true<|AIm rfl (AH5<|AI2 rfl (AH1<|AIw<|AH7 ?_)));obtain rfl:=AH0<|ifT By Bz;refine AIc<|AIt ?_;have Bc:=Kst.anil AVc 60 Ah;obtain rfl:=AH0 Ap;exact ⟨_,AJu,Bc.x,_,_,rfl,(Bc.o p0),Bc.s.sel [0] AHz⟩
 rintro ⟨⟩ Ei Ej ⟨Cr,B4⟩;subst Cr;refine AH1<|AH7<|AH3<|AH1<|ALt AT4 AZ1 (B4.b p0) 2 rfl (AJ8 AXv rfl H7 (AHy<|AH5<|AH6 ?_));have B5:=Kst.anil AVc 60 B4;refine AOq 2722258935367507707706996859453608821756 (λx:((List AMi)) × (Value) × LnA × (Int)=>(x.1,x.2.2.2)) (([],(.slice none 0 0),[],0):((List AMi)) × (Value) × LnA × (Int)) Ap (λx=>[(4,x.2.1),(29,(.int .i64 x.2.2.2))]) (λx=>B5.L.set 0<|aO AVc 60 x.2.2.1 x.2.1 x.1) B5 ⟨rfl,rfl,trivial⟩ ?_;rintro ⟨Be,Ct,Cu,B6⟩ Ek El Em Ai Bf Ad;unfold ASw at Bf;refine AH1<|AI3 rfl rfl (AH5<|AH3<|⟨_,rfl,λBg=>?_,λBg=>?_⟩)
 ·refine AIa<|q_t<|AH3<|AH6<|AH1<|AHy ?_;obtain ⟨Aa,Cv,Cw⟩:=AH2<|AJb Bf Bg;refine AQi (c:=AV9) AXv rfl H7 rfl Cv λEn Eo Ep Cx Cy=>?_;obtain rfl:=Cx;refine AW5 (c:=AV9) ATa rfl rfl (λj u hu=>(AIj (Cy j u hu) Ai.x)) (ALm Ai [(.int .i64 0),(.int .i64 0),(.int .i64 0),(.int .i64 0),(.int .i64 0)] AYx λEr Es Et B7=>AIw<|AKo [(.int .i64 Aa.1),(.int .i64 Aa.2.1),(.int .i64 Aa.2.2.1),(.int .i64 Aa.2.2.2.1),(.int .i64 Aa.2.2.2.2)] ATa rfl rfl rfl rfl (by simp [isOne]) (B7.b p0) λEu Cz C0=>AH5 ?_);have Ab:=B7.sb p0 C0 Cz rfl;obtain ⟨C1,B8,Ae⟩:=AH2 Cw;refine ARb 36893488130239234060 (λx:Unit=>[]) (λx h'=>(Sum.inr <| ())=C1/\Kst h h' (Ab.L)) ?_ ?_
  ·refine AH1<|ALt Ai1 AJq (Ab.b p0) 1 rfl (AK0 rfl rfl (AHy ?_));by_cases Ar: ¬ Aa.2.1=1
   ·rw [decide_eq_true Ar];refine ANe 37 true<|AIm rfl (AHy<|ANe 42 true<|AIm rfl (AHy<|ANe 47 true<|AIm rfl (AHy<|ANe 52 true<|AIm rfl (AHy<|AN1 57 true<|AW0 57 true<|AIm rfl (AH5<|AI2 rfl (AH1<|AIw<|AH7 ?_))))));obtain rfl:=AH0<|ifT B8 Ar;refine AIc<|AIt<|AKa<|AIt<|AIt<|AKa<|AIt ?_;have Bh:=Kst.anil AVc 60 Ab;obtain rfl:=AH0<|Ad _ (AH0 Ae).symm;exact ⟨_,AJu,Bh.x,_,_,rfl,(Bh.o p0),Bh.s.sel [0] AHz⟩
   ·have B9:=ifF B8 Ar;rw [decide_eq_false Ar];refine AIs 37 false<|AJp APq rfl (AIs 37 false<|AI1 AJq rfl ((Ab.b p0).cell (i:=0) rfl) (AIs 37 false<|AI3 rfl rfl (AIn rfl (AHy ?_))));by_cases Au:Aa.1 < 0
    ·rw [decide_eq_true Au];refine ANe 42 true<|AIm rfl (AHy<|ANe 47 true<|AIm rfl (AHy<|ANe 52 true<|AIm rfl (AHy<|AN1 57 true<|AW0 57 true<|AIm rfl (AH5<|AI2 rfl (AH1<|AIw<|AH7 ?_)))));obtain rfl:=AH0<|ifT B9 Au;refine AIc<|AIt<|AKa<|AIt<|AIt<|AKa<|AIt ?_;have Bi:=Kst.anil AVc 60 Ab;obtain rfl:=AH0<|Ad _ (AH0 Ae).symm;exact ⟨_,AJu,Bi.x,_,_,rfl,(Bi.o p0),Bi.s.sel [0] AHz⟩
    ·have Ca:=ifF B9 Au;rw [decide_eq_false Au];refine AIs 42 false<|AJp APq rfl (AIs 42 false<|AI1 AJq rfl ((Ab.b p0).cell (i:=0) rfl) (AIs 42 false<|APu rfl rfl (AIn rfl (AHy ?_))));by_cases Av:60 < Aa.1
     ·rw [decide_eq_true Av];refine ANe 47 true<|AIm rfl (AHy<|ANe 52 true<|AIm rfl (AHy<|AN1 57 true<|AW0 57 true<|AIm rfl (AH5<|AI2 rfl (AH1<|AIw<|AH7 ?_))));obtain rfl:=AH0<|ifT Ca Av;refine AIc<|AIt<|AKa<|AIt<|AIt<|AKa<|AIt ?_;have Bj:=Kst.anil AVc 60 Ab;obtain rfl:=AH0<|Ad _ (AH0 Ae).symm;exact ⟨_,AJu,Bj.x,_,_,rfl,(Bj.o p0),Bj.s.sel [0] AHz⟩
     ·have Cb:=ifF Ca Av;rw [decide_eq_false Av];refine AIs 47 false<|AJp Amx rfl (AIs 47 false<|AI1 AIg rfl ((Ab.b p0).cell (i:=3) rfl) (AIs 47 false<|AK0 rfl rfl (AIn rfl (AHy ?_))));by_cases Aw: ¬ Aa.2.2.2.1=0
      ·rw [decide_eq_true Aw];refine ANe 52 true<|AIm rfl (AHy<|AN1 57 true<|AW0 57 true<|AIm rfl (AH5<|AI2 rfl (AH1<|AIw<|AH7 ?_)));obtain rfl:=AH0<|ifT Cb Aw;refine AIc<|AIt<|AKa<|AIt<|AIt<|AKa<|AIt ?_;have Bl:=Kst.anil AVc 60 Ab;obtain rfl:=AH0<|Ad _ (AH0 Ae).symm;exact ⟨_,AJu,Bl.x,_,_,rfl,(Bl.o p0),Bl.s.sel [0] AHz⟩
      ·have Cd:=ifF Cb Aw;rw [decide_eq_false Aw];refine AIs 52 false<|AJp Amy rfl (AIs 52 false<|AI1 AIg rfl ((Ab.b p0).cell (i:=4) rfl) (AIs 52 false<|AK0 rfl rfl (AIn rfl (AHy ?_))));by_cases Ax: ¬ Aa.2.2.2.2=0
       ·rw [decide_eq_true Ax];refine AN1 57 true<|AW0 57 true<|AIm rfl (AH5<|AI2 rfl (AH1<|AIw<|AH7 ?_));obtain rfl:=AH0<|ifT Cd Ax;refine AIc<|AIt<|AKa<|AIt<|AIt<|AKa<|AIt ?_;have Bm:=Kst.anil AVc 60 Ab;obtain rfl:=AH0<|Ad _ (AH0 Ae).symm;exact ⟨_,AJu,Bm.x,_,_,rfl,(Bm.o p0),Bm.s.sel [0] AHz⟩
       ·rw [decide_eq_false Ax];refine AIs 57 false<|AJp AZb rfl (AIs 57 false<|AI1 AIg rfl ((Ab.b p0).cell (i:=2) rfl) (AIs 57 false<|AJp AWd rfl (AIs 57 false<|AI1 AIg rfl ((Ab.b p2).cell (i:=0) rfl) (AIs 57 false ?_))));obtain ⟨C3,Ce⟩:=ifN<|ifF Cd Ax;refine ALg rfl rfl C3 (AIs 57 false<|AKd rfl rfl (AIn rfl (AH5<|⟨_,rfl,λBn=>?_,λBn=>?_⟩)))
        ·refine AH1<|AIw<|AH7 ?_;obtain rfl:=AH0<|AJb Ce Bn;refine AIc<|AIt<|AKa<|AIt<|AIt<|AKa<|AIt ?_;have Bo:=Kst.anil AVc 60 Ab;obtain rfl:=AH0<|Ad _ (AH0 Ae).symm;exact ⟨_,AJu,Bo.x,_,_,rfl,(Bo.o p0),Bo.s.sel [0] AHz⟩
        ·refine AIa<|q_t ?_;exact ⟨(():Unit),⟨AH0<|AJc Ce Bn,Ab⟩,trivial⟩
  rintro ⟨⟩ Ev Ew ⟨C4,Af⟩;subst C4;obtain ⟨C5,Cf,Cg⟩:=AH2 Ae;refine ARb 604426016319167168249868 (λx:Unit=>[]) (λx h'=>(Sum.inr <| ())=C5/\Kst h h' (Af.L)) ?_ ?_
  ·refine AH3<|AMw<|AHy<|APu rfl rfl (AHy ?_);by_cases Ay:0 < B6
   ·rw [decide_eq_true Ay];refine AIs 67 true<|AJp APq rfl (AIs 67 true<|AI1 AJq rfl ((Af.b p0).cell (i:=0) rfl) (AIs 67 true<|AJp AT4 rfl (AIs 67 true<|AI1 AZ1 rfl ((Af.b p2).cell (i:=2) rfl) (AIs 67 true<|AHy<|AIs 67 true<|AMy rfl rfl (AIs 67 true ?_)))));obtain ⟨Ey,C6,Ch⟩:=AH2<|ifT Cf Ay;refine AQi (c:=AV9) AXv rfl H7 rfl C6 λEz Fa Fb C7 C8=>?_;obtain rfl:=C7;refine AIs 67 true<|AJp APq rfl (AIs 67 true<|AI1 AJq rfl (AIj (C8 0 _ rfl) Af.x) (AIs 67 true<|AI3 rfl rfl (AIm rfl (AH5<|⟨_,rfl,λBp=>?_,λBp=>?_⟩))))
    ·refine AH1<|AIw<|AH7 ?_;obtain rfl:=AH0<|AJb Ch Bp;refine AIc<|AIt<|AKa<|AIt<|AIt<|AKa<|AIt ?_;have Bq:=Kst.anil AVc 60 Af;obtain rfl:=AH0<|Ad _ (AH0 Cg).symm;exact ⟨_,AJu,Bq.x,_,_,rfl,(Bq.o p0),Bq.s.sel [0] AHz⟩
    ·refine AIa<|q_t ?_;exact ⟨(():Unit),⟨AH0<|AJc Ch Bp,Af⟩,trivial⟩
   ·rw [decide_eq_false Ay];refine AN1 67 false<|AN1 67 false<|AIn rfl (AH5<|AI6 rfl (AIa<|q_t ?_));exact ⟨(():Unit),⟨AH0<|ifF Cf Ay,Af⟩,trivial⟩
  rintro ⟨⟩ Fc Fd ⟨C9,Ac⟩;subst C9;obtain ⟨Da,Ci,Db⟩:=AH2 Cg;refine ARb 633824695651204893433764249616 (λx:((List AMi)) × (Value) × LnA=>[(4,x.2.1)]) (λx h'=>( x.1)=Da/\Kst h h' (Ac.L.set 1<|aO AVc 60 x.2.2 x.2.1 x.1)) ?_ ?_
  ·refine AH3<|AMw<|AHy<|AKd rfl rfl (AHy ?_);by_cases Az:B6=0
   ·rw [decide_eq_true Az];refine AN1 81 true<|AN1 81 true<|AIm rfl (AH5<|AI2 rfl (AIf<|AHy<|ALt APq AJq (Ac.b p0) 0 rfl (ALe (v:=(.agg #[(.int .i64 Aa.1),(.int .i64 0),(.int .i64 1),(.bool false),(.int .i64 0)])) (λ_=>by kernel_rfl) ?_)));obtain ⟨Dc,Dd⟩:=ifN<|ifT Ci Az;refine ASg AYf Aj3 rfl rfl trivial tt2 (λ_=>rfl) rfl (show (AVc).rep _ (Aa.1,0,1,false,0) [(.int .i64 Aa.1),(.int .i64 0),(.int .i64 1),(.bool false),(.int .i64 0)] from rfl) (Ac.o p1) AHz Dc λFe De Df Ff Dg Dh Di=>AH7 ?_;exact ⟨(((Be ++ [(Aa.1,0,1,false,0)]),Df,De):((List AMi)) × (Value) × LnA),⟨AH0 Dd,(Ac.uo p1 Dh Dg Di)⟩,rfl,trivial⟩
   ·rw [decide_eq_false Az];refine AIs 81 false<|AJp APq rfl (AIs 81 false<|AI1 AJq rfl ((Ac.b p0).cell (i:=0) rfl) (AIs 81 false<|AJp AT4 rfl (AIs 81 false<|AI1 AZ1 rfl ((Ac.b p2).cell (i:=2) rfl) (AIs 81 false<|AHy<|AIs 81 false<|AMy rfl rfl (AIs 81 false ?_)))));obtain ⟨Fg,Dj,Cj⟩:=AH2<|ifF Ci Az;refine AQi (c:=AV9) AXv rfl H7 rfl Dj λFh Fi Fj Dk Dl=>?_;obtain rfl:=Dk;refine AIs 81 false<|AJp APq rfl (AIs 81 false<|AI1 AJq rfl (AIj (Dl 0 _ rfl) Ac.x) (AIs 81 false<|APu rfl rfl (AIn rfl (AH5<|⟨_,rfl,λBr=>?_,λBr=>?_⟩))))
    ·refine AIf<|AHy<|ALt APq AJq (Ac.b p0) 0 rfl (ALe (v:=(.agg #[(.int .i64 Aa.1),(.int .i64 0),(.int .i64 1),(.bool false),(.int .i64 0)])) (λ_=>by kernel_rfl) ?_);obtain ⟨Do,Dp⟩:=ifN<|AJb Cj Br;refine ASg AYf Aj3 rfl rfl trivial tt2 (λ_=>rfl) rfl (show (AVc).rep _ (Aa.1,0,1,false,0) [(.int .i64 Aa.1),(.int .i64 0),(.int .i64 1),(.bool false),(.int .i64 0)] from rfl) (Ac.o p1) AHz Do λFk Dq Dr Fl Ds Dt Du=>AH7 ?_;exact ⟨(((Be ++ [(Aa.1,0,1,false,0)]),Dr,Dq):((List AMi)) × (Value) × LnA),⟨AH0 Dp,(Ac.uo p1 Dt Ds Du)⟩,rfl,trivial⟩
    ·refine AIa<|q_t ?_;exact ⟨((Be,Ct,Cu):((List AMi)) × (Value) × LnA),⟨AH0<|AJc Cj Br,Ac⟩,rfl,trivial⟩
  rintro ⟨Fm,Fo,Fp⟩ Fq Ft ⟨Dv,A3⟩;subst Dv;refine AH3<|AMw<|ALt AZb AIg (A3.b p0) 2 rfl (ALt AWd AIg (A3.b p2) 0 rfl ?_);obtain ⟨Dw,Dx⟩:=ifN Db;refine ALg rfl rfl Dw (ALt AWd AIg (A3.b p2) 0 rfl ?_);obtain ⟨⟨Dy,Fu⟩,Dz,Ck⟩:=AH2 Dx;dsimp only at Ck;refine ALx A3 (Aek Dz) λFv Fw Aj=>AHy<|AJs rfl rfl (AJs rfl rfl (AIw<|AJd<|AHy<|AHy<|AJ8 AYf rfl (Aj.o p1).rd (AMy rfl rfl ?_)));obtain ⟨Ak,Bt,D0⟩:=AH2 Ck;refine Afn AYf rfl (Aj.o p1) rfl Bt λFx A4=>AJd<|AHy<|AJj rfl (AJp Ai2 rfl ?_);obtain ⟨Fy,D3,D4⟩:=(Aj.o p1).cells A4 Bt;obtain rfl:=D3;refine AI1 AJq rfl (D4 1 _ rfl) (AI0 rfl rfl (AJj rfl (AJp Ai2 rfl (Am5 (c:=AVc) (a':=(Ak.1,(w64<|Ak.2.1 + 1),Ak.2.2.1,Ak.2.2.2.1,Ak.2.2.2.2)) AJq rfl rfl rfl AHz (Aj.o p1) A4 Bt (λ_ q=>by cases q;rfl) λFz D5 D6=>AH5<|AIf<|AHy<|AJj rfl (AJp Ai3 rfl ?_)))));have Bu:=Aj.uO p1 D6 D5;obtain ⟨Am,Cm,D7⟩:=AH2 D0;obtain ⟨F4,D8,D9⟩:=(Bu.o p1).cells A4 Cm;obtain rfl:=D8;refine AI1 AJq rfl (D9 2 _ rfl) (AHy<|APo rfl rfl (AJj rfl (AJp Ai3 rfl (Am5 (c:=AVc) (a':=(Am.1,Am.2.1,(w64<|Am.2.2.1 * Dy),Am.2.2.2.1,Am.2.2.2.2)) AJq rfl rfl rfl AHz (Bu.o p1) A4 Cm (λ_ q=>by cases q;rfl) λF5 Ea Eb=>AIu<|q_b<|q_t<|AIf<|AI0 rfl rfl (AHy<|AH5 ?_)))));exact ⟨(_,_,_,_),(AH0 D7).symm,(Bu.uO p1 Eb Ea).sel [1,2] AHz,rfl,rfl,trivial⟩
 ·refine AIq<|AIr<|AIr<|AJt<|q_t<|AH1<|AHy<|AIw<|AH7<|AIc ?_;obtain rfl:=AH0<|Ad _ (AH0<|AJc Bf Bg).symm;exact ⟨_,AJu,Ai.x,_,_,rfl,(Ai.o p0),Ai.s.sel [0] AHz⟩
noncomputable def APg (fuel:Nat):Option Bool:=
 (AKw fuel 3 ([([1,4]:List Int),([0,1]:List Int)]:List LiA) ([(0,1,2,0,0),(1,1,2,0,0)]:List AJ0)).bind λ(Aa,Ab)=>(AUb fuel ([([2,1]:List Int),([1,2]:List Int)]:List LiA) 3).bind λ(Ac,Ad)=>if Ab=true then if Ac=2 then if Ad=0 then (AWg fuel ([([2,1]:List Int),([1,2]:List Int)]:List LiA) 3 ([([1,4]:List Int),([0,1]:List Int)]:List LiA) ([(0,1,2,0,0),(1,1,2,0,0)]:List AJ0)).bind λAe=>if Ae=0 then (ALo fuel Aa ([(0,1,-1,false,0),(1,1,-1,false,0)]:List AMi)).bind λAf=>some Af else some false else some false else some false else some false
theorem Abo {r:Bool} (HO:Ad2 h) (hp:APg fuel=some r):AI7 Tryz.prog 12 #[] h (λx h'=>Ext h h'/\x= .bool r):=by
 unfold APg at hp;refine cwf (l:=[]) Tryz.func12 rfl rfl (AH1<|AJd<|Ahp (κ:= .i64) [2,1] AIi ARy rfl rfl trivial tt2 rfl rfl rfl rfl λb1 v2 h3 I4 E5 A6 A7=>Ahp (κ:= .i64) [1,2] AIi ARy rfl rfl trivial tt2 rfl rfl rfl rfl λA8 A9 Cv Ba Bb Bc Be=>?_);have Ab:=((Kst.k0 h).no E5 (ANs A6 A7) I4).no Bb (ANs Bc Be) Ba;have Aq:=(((Ab.a0).grab p1).grab p0);refine Ahs (c:=(cI .i64)) (el:=2) [[b1],[A8]] [v2,A9] [([2,1]:List Int),([1,2]:List Int)] AIk AU9 rfl rfl trivial tt2 rfl rfl rfl rfl (AOh (Ab.o p1).isOne<|AOh (Ab.o p0).isOne Aa2) ⟨(Ab.o p1),(Ab.o p0),trivial⟩ (by simpa using Aq.ndT) λCw Cx Cy Bf Bg Bh=>AJd<|Ahp (κ:= .i64) [1,4] AIi ARy rfl rfl trivial tt2 rfl rfl rfl rfl λBi Bj Cz Bl Bm Bn Bo=>Ahp (κ:= .i64) [0,1] AIi ARy rfl rfl trivial tt2 rfl rfl rfl rfl λBp Bq C0 Br Bt Bu Bv=>?_;have Ac:=((Aq.lit Bg Bf<|by simpa using Bh).no Bm (ANs Bn Bo) Bl).no Bt (ANs Bu Bv) Br;have Ar:=(((Ac.a0).grab p1).grab p0);refine Ahs (c:=(cI .i64)) (el:=2) [[Bi],[Bp]] [Bj,Bq] [([1,4]:List Int),([0,1]:List Int)] AIk AU9 rfl rfl trivial tt2 rfl rfl rfl rfl (AOh (Ac.o p1).isOne<|AOh (Ac.o p0).isOne Aa2) ⟨(Ac.o p1),(Ac.o p0),trivial⟩ (by simpa using Ar.ndT) λC1 Ae C3 Bw Bx By=>ALe (v:=(.agg #[(.int .i64 0),(.int .i64 1),(.int .i64 2),(.int .i64 0),(.int .i64 0)])) (λ_=>by kernel_rfl)<|ALe (v:=(.agg #[(.int .i64 1),(.int .i64 1),(.int .i64 2),(.int .i64 0),(.int .i64 0)])) (λ_=>by kernel_rfl)<|Ax0 AV9 ([(0,1,2,0,0),(1,1,2,0,0)]:List AJ0) [[(.int .i64 0),(.int .i64 1),(.int .i64 2),(.int .i64 0),(.int .i64 0)],[(.int .i64 1),(.int .i64 1),(.int .i64 2),(.int .i64 0),(.int .i64 0)]] [(0,(.agg #[(.int .i64 0),(.int .i64 1),(.int .i64 2),(.int .i64 0),(.int .i64 0)])),(1,(.agg #[(.int .i64 1),(.int .i64 1),(.int .i64 2),(.int .i64 0),(.int .i64 0)]))] AXv AYx rfl trivial tt2 rfl rfl rfl AIb rfl (Ai7 (λ_=>rfl)<|Ai7 (λ_=>rfl) Ata) λC4 Af C5 Bz B2 B3 B4=>?_;have Ak:=(Ar.lit Bx Bw<|by simpa using By).no B2 (ANs B3 B4) Bz;obtain ⟨_,_,_,B5⟩:=(Ak.o2 p1).rd.shape;obtain ⟨_,_,_,B6⟩:=(Ak.o p0).rd.shape;refine ALe (v:=(.agg #[(.int .i64 3),Ae,Af])) (λ_=>by subst B5;subst B6;kernel_rfl)<|ALm Ak [(.int .i64 0),(.slice none 0 0),(.slice none 0 0)] Af0 λC6 C7 C8 Ag=>AKo [(.int .i64 3),Ae,Af] AS9 rfl rfl rfl rfl (AOh rfl (AOh (Ag.o2 p2).isOne<|AOh (Ag.o p1).isOne Aa2)) (Ag.b p0) λC9 B7 B8=>AQs ?_;have Ad:=Ag.sb p0 B8 B7 rfl;refine ATy [(.int .i64 3),Ae,Af] AS9 rfl rfl (Ad.b p0).agg ?_;obtain ⟨⟨Da,B9⟩,Ca,Au⟩:=AH2 hp;dsimp only at Au;refine ASt rfl (ASx (Ad.o2 p2).rd (Ad.o p1).rd (HO.ext Ad.x) Ca) λDb Dc Cb Cd=>?_;obtain ⟨Dd,De,rfl,Ce,Cf⟩:=Cd;refine AHy<|AJs rfl rfl (AJs rfl rfl (AIw<|AJd<|AHy ?_));have Am:=Ad.no Cb Cf Ce;obtain ⟨⟨Cg,Ch⟩,Ci,Ao⟩:=AH2 Au;dsimp only at Ao;refine ALx Am (Adq (Am.o2 p6).rd (HO.ext Am.x) Ci) λDf Dg Aa=>AHy<|AJs rfl rfl (AJs rfl rfl (AIw<|AJd<|AHy<|AHy ?_));cases Av:B9
 ·refine AP2 28 false<|AIn rfl (AHy<|AP2 32 false<|AIn rfl (AHy<|AUi 36 false<|AIn rfl (AHy<|AN1 42 false<|AIn rfl (AH7<|AIc ?_))));obtain rfl:=AH0<|AQa Ao Av;exact ⟨_,AId,Aa.x,rfl⟩
 ·refine AIs 28 true<|AHy<|AIs 28 true<|AKd rfl rfl (AIm rfl (AHy ?_));have Aw:=ifT Ao Av;by_cases Ah:Cg=2
  ·have Ax:=ifT Aw Ah;rw [decide_eq_true Ah];refine AIs 32 true<|AHy<|AIs 32 true<|AKd rfl rfl (AIm rfl (AHy ?_));by_cases Ai:Ch=0
   ·rw [decide_eq_true Ai];refine AIs 36 true<|AHy<|AIs 36 true<|ATy [(.int .i64 3),Ae,Af] AS9 rfl rfl (Aa.b p1).agg (AIs 36 true ?_);obtain ⟨Cj,Ck,Ay⟩:=AH2<|ifT Ax Ai;refine ALx Aa (Af8 (Aa.o2 p6).rd (Aa.o2 p3).rd (Aa.o p2).rd (HO.ext Aa.x) Ck) λDh Di Az=>AIs 36 true<|AKd rfl rfl (AIm rfl (AHy ?_));by_cases Aj:Cj=0
    ·rw [decide_eq_true Aj];refine AIs 42 true<|AHy<|AIs 42 true<|ALe (v:=(.agg #[(.int .i64 0),(.int .i64 1),(.int .i64<|-1),(.bool false),(.int .i64 0)])) (λ_=>by kernel_rfl)<|AIs 42 true<|ALe (v:=(.agg #[(.int .i64 1),(.int .i64 1),(.int .i64<|-1),(.bool false),(.int .i64 0)])) (λ_=>by kernel_rfl)<|AIs 42 true<|Ax0 AVc ([(0,1,(-1),false,0),(1,1,(-1),false,0)]:List AMi) [[(.int .i64 0),(.int .i64 1),(.int .i64<|-1),(.bool false),(.int .i64 0)],[(.int .i64 1),(.int .i64 1),(.int .i64<|-1),(.bool false),(.int .i64 0)]] [(0,(.agg #[(.int .i64 0),(.int .i64 1),(.int .i64<|-1),(.bool false),(.int .i64 0)])),(1,(.agg #[(.int .i64 1),(.int .i64 1),(.int .i64<|-1),(.bool false),(.int .i64 0)]))] AYf Aj3 rfl trivial tt2 rfl rfl rfl AIb rfl (Ai7 (λ_=>rfl)<|Ai7 (λ_=>rfl) Ata) λDj Dk Dl Cm Cn Co Cp=>AIs 42 true ?_;have Ap:=Az.no Cn (ANs Co Cp) Cm;obtain ⟨Do,Cq,Cr⟩:=AH2<|ifT Ay Aj;refine ALx Ap (AQ0 (Ap.o p1).rd (Ap.o p0).rd Cq) λDp Dq Ct=>AIm rfl (AH7<|AIc ?_);obtain rfl:=AH0 Cr;exact ⟨_,AId,Ct.x,rfl⟩
    ·rw [decide_eq_false Aj];refine AN1 42 false<|AIn rfl (AH7<|AIc ?_);obtain rfl:=AH0<|ifF Ay Aj;exact ⟨_,AId,Az.x,rfl⟩
   ·rw [decide_eq_false Ai];refine AUi 36 false<|AIn rfl (AHy<|AN1 42 false<|AIn rfl (AH7<|AIc ?_));obtain rfl:=AH0<|ifF Ax Ai;exact ⟨_,AId,Aa.x,rfl⟩
  ·rw [decide_eq_false Ah];refine AP2 32 false<|AIn rfl (AHy<|AUi 36 false<|AIn rfl (AHy<|AN1 42 false<|AIn rfl (AH7<|AIc ?_)));obtain rfl:=AH0<|ifF Aw Ah;exact ⟨_,AId,Aa.x,rfl⟩
theorem Afa:FdT Tryz.prog 68 0 0 2:=⟨_,_,Tryz.underlying68,rfl,rfl,rfl⟩
theorem AUf:FdT Tryz.prog 68 1 1 2:=⟨_,_,Tryz.underlying68,rfl,rfl,rfl⟩
theorem Ag5:FdT Tryz.prog 68 2 2 3:=⟨_,_,Tryz.underlying68,rfl,rfl,rfl⟩
theorem ALb:FdT Tryz.prog 68 3 3 26:=⟨_,_,Tryz.underlying68,rfl,rfl,rfl⟩
theorem AUg:FdT Tryz.prog 68 4 4 26:=⟨_,_,Tryz.underlying68,rfl,rfl,rfl⟩
theorem Anw:FdT Tryz.prog 48 0 0 2:=⟨_,_,Tryz.underlying48,rfl,rfl,rfl⟩
theorem AXo:FdT Tryz.prog 48 1 1 2:=⟨_,_,Tryz.underlying48,rfl,rfl,rfl⟩
theorem AQ1:FdT Tryz.prog 48 2 2 26:=⟨_,_,Tryz.underlying48,rfl,rfl,rfl⟩
theorem Adc:FdT Tryz.prog 48 3 3 26:=⟨_,_,Tryz.underlying48,rfl,rfl,rfl⟩
theorem AY6:SlT Tryz.prog 129 26 1:=Aa9 Tryz.underlying129 AIb
theorem Azu:ZeT Tryz.prog 26 (.slice none 0 0) 24:=AZv AIb
def AUh (fuel:Nat) (s8 s9:Int):Option ((Int × Int) ⊕ Int):=
 if ¬ s9=0 then if s9≠0 then some (.inl (s9,Int.tmod s8 s9)) else none else some<|.inr s8
def AQq (fuel:Nat) (a1 a2:Int):Option Int:=
 (iter (λs=>AUh fuel s.1 s.2) fuel (a1,a2)).bind (λ(Ac:Int)=>some Ac)
theorem Ade {r:Int} (hp:AQq fuel a1 a2=some r):AI7 Tryz.prog 116 #[(.int .i64 a1),(.int .i64 a2)] h (λx h'=>Ext h h'/\x= .int .i64 r):=by
 unfold AQq at hp;refine cwf (l:=[_,_]) Tryz.func116 rfl rfl (AH1<|AH7<|AH3<|AH6 ?_);have K0:=Kst.k0 h;refine APb 2019 hp (λx=>[(0,(.int .i64 x.1)),(1,(.int .i64 x.2))]) (λx=>K0.L) K0 ⟨rfl,rfl,trivial⟩ ?_;rintro ⟨u9,Ak⟩ Am h6 y5 K8 Aa Ag;unfold AUh at Aa;refine AH3<|AH1<|AHy<|AK0 rfl rfl (AH5<|⟨_,rfl,λAb=>?_,λAb=>?_⟩)
 ·refine AIa<|q_t<|AH6<|AMw<|AHy<|AHy<|AHy ?_;obtain ⟨Ah,Ai⟩:=ifN<|AJb Aa Ab;refine ALg rfl rfl Ah (AIw<|AIw<|AIu<|q_b<|q_t ?_);exact ⟨_,(AH0 Ai).symm,K8,rfl,rfl,trivial⟩
 ·refine AIq<|AIr<|AIr<|AJt<|q_t<|AH1<|AHy<|AH7<|AIc ?_;obtain rfl:=AH0<|Ag _ (AH0<|AJc Aa Ab).symm;exact ⟨_,AId,K8.x,rfl⟩
def ALh (fuel:Nat) (Ab Aa Ac Ad:Int):Option ((Int × Int × Int × Int) ⊕ Int):=
 if ¬ Aa=0 then if Aa≠0 then some (.inl (Aa,w64<|Ab - w64 (w64 (Int.tdiv Ab Aa) * Aa),Ad,w64<|Ac - w64 (w64 (Int.tdiv Ab Aa) * Ad))) else none else some<|.inr Ac
def ANa (fuel:Nat) (a1 a2:Int):Option (Int × Bool):=
 (AQq fuel a1 a2).bind λx3=>if ¬ x3=1 then some (0,false) else (iter (λs=>ALh fuel s.1 s.2.1 s.2.2.1 s.2.2.2) fuel (a1,a2,1,0)).bind (λ(Ad:Int)=>(AJl fuel Ad a2).bind λAe=>some (Ae,true))
theorem AYq {r:(Int × Bool)} (hp:ANa fuel a1 a2=some r):AI7 Tryz.prog 75 #[(.int .i64 a1),(.int .i64 a2)] h (λx h'=>Ext h h'/\x= .tuple #[.int .i64 r.1,.bool r.2]):=by
 unfold ANa at hp;refine cwf (l:=[_,_]) Tryz.func75 rfl rfl (AH1<|AIw<|AH7<|AH3<|AH1<|AHy<|AHy ?_);obtain ⟨x3,Ai,Ag⟩:=AH2 hp;refine ALx (Kst.k0 h) (Ade Ai) λh7 E6 Aa=>AK0 rfl rfl (AH5<|⟨_,rfl,λAb=>?_,λAb=>?_⟩)
 ·refine AH1<|AIw<|AH7<|AIc<|AIt ?_;obtain rfl:=AH0<|AJb Ag Ab;exact ⟨_,AJu,Aa.x,rfl⟩
 ·refine AIa<|q_t<|AH1<|AHy<|AHy<|AIw<|AIw<|AIw<|AH7<|AH3<|AH6<|APb 17179740096 (AJc Ag Ab) (λx=>[(6,(.int .i64 x.1)),(7,(.int .i64 x.2.1)),(8,(.int .i64 x.2.2.1)),(9,(.int .i64 x.2.2.2))]) (λx=>Aa.L) Aa ⟨rfl,rfl,rfl,rfl,trivial⟩ ?_;rintro ⟨Aw,Ax,Ay,Az⟩ A3 A4 A5 Ah Ac Aj;unfold ALh at Ac;refine AH3<|AH1<|AHy<|AK0 rfl rfl (AH5<|⟨_,rfl,λAd=>?_,λAd=>?_⟩)
  ·refine AIa<|q_t<|AH6<|AH1<|AHy<|AHy ?_;obtain ⟨Ak,Am⟩:=ifN<|AJb Ac Ad;refine AWz rfl rfl Ak (AJd<|AHy<|AHy<|AHy<|AHy<|APo rfl rfl (AMy rfl rfl (AIw<|AH7<|AIf<|AHy<|AHy<|AHy<|AHy<|APo rfl rfl (AMy rfl rfl (AIw<|AIw<|AIu<|q_b<|q_t ?_)))));exact ⟨_,(AH0 Am).symm,Ah,rfl,rfl,rfl,rfl,trivial⟩
  ·refine AIq<|AIr<|AIr<|AJt<|q_t<|AH1<|AHy<|AHy ?_;obtain ⟨A6,Ao,Ap⟩:=AH2<|Aj _ (AH0<|AJc Ac Ad).symm;refine ALx Ah (AK4 Ao) λA7 A8 Aq=>AIw<|AH7<|AIc ?_;obtain rfl:=AH0 Ap;exact ⟨_,AJu,Aq.x,rfl⟩
theorem A7y {a m:Int} (hm:0 < m) (Ac:m<=2147483647):AJl fuel a m=some (a % m):=by
 unfold AJl;rw [if_pos AHx];have h1:=Int.emod_nonneg a (show m≠0 by omega);have h2:=Int.emod_lt_of_pos a hm;have h3:=Int.tmod_lt_of_pos a hm;have h5:=Int.tmod_lt_of_pos (-a) hm;rw [Int.neg_tmod] at h5;have h4:a.tmod m % m=a % m:=by rw [Int.tmod_def,Int.sub_emod,Int.mul_emod_right,Int.sub_zero,Int.emod_emod]
 by_cases h:Int.tmod a m < 0
 ·rw [if_pos h,wk AHx];have:(a.tmod m + m) % m=a.tmod m + m:=Int.emod_eq_of_lt AHx AHx;rw [Int.add_emod_right,h4] at this;rw [this]
 ·rw [if_neg h];have:a.tmod m % m=a.tmod m:=Int.emod_eq_of_lt AHx AHx;rw [h4] at this;rw [this]
theorem AXy {m:Int} (hm:p ^ k=m) (hp:2<=p) (hE:E<=k) (Ab:m<=2147483647):w64 (Int.tdiv m<|p ^ E)=p ^ (k - E)/\1<=p ^ (k - E)/\p ^ (k - E)<=m/\1<=p ^ E/\p ^ E<=m:=by
 have h1:0 < p ^ E:=Int.pow_pos AHx;have h2:0 < p ^ (k - E):=Int.pow_pos AHx;have h3:=AO1 (p:=p) AHx hE;have h4:=AO1 (p:=p) AHx (show k - E<=k by omega);have h5:m=p ^ E * p ^ (k - E):=by rw [<- Int.pow_add,show E + (k - E)=k by omega,hm]
 refine ⟨?_,AHx,AHx,AHx,AHx⟩;rw [h5,Int.mul_tdiv_cancel_left _ AHx,wk AHx]
def APy (fuel:Nat) (a5 Af:Int) (Ab:LiI) (Ag Ac Ad Aa:Int):Option ((Int × Int × Int) ⊕ (Int × Int)):=
 if Aa < (Ab.length:Int) then (((gI Ab Ag).bind λAj=>(gI Aj Aa).bind λAh=>((if Ah=0 then some Af else (AJk fuel Ah a5).bind λAk=>some Ak):Option Int).bind λAm=>(gI Ab Ac).bind λAo=>(gI Ao Ad).bind λAi=>((if Ai=0 then some Af else (AJk fuel Ai a5).bind λAp=>some Ap):Option Int).bind λAq=>if Am < Aq then some (Ag,Aa) else some (Ac,Ad)):Option (Int × Int)).bind (λ((Ar,Au):Int × Int)=>some<|.inl (Ar,Au,w64<|Aa + 1)) else some<|.inr (Ac,Ad)
def AL8 (fuel:Nat) (a5 Af:Int) (Ab:LiI) (Ac Ad Aa:Int):Option ((Int × Int × Int) ⊕ (Int × Int)):=
 if Aa < (Ab.length:Int) then (iter (λs=>APy fuel a5 Af Ab Aa s.1 s.2.1 s.2.2) fuel (Ac,Ad,w64<|Aa + 1)).bind (λ((Ag,Ah):Int × Int)=>some<|.inl (Ag,Ah,w64<|Aa + 1)) else some<|.inr (Ac,Ad)
def AL9 (fuel:Nat) (a5 Af:Int) (Ab:LiI) (Ac Ad Aa:Int):Option ((Int × Int × Int) ⊕ (Int × Int)):=
 if Aa < (Ab.length:Int) then (((gI Ab Aa).bind λAi=>(gI Ai Aa).bind λAg=>((if Ag=0 then some Af else (AJk fuel Ag a5).bind λAj=>some Aj):Option Int).bind λAk=>(gI Ab Ac).bind λAm=>(gI Am Ad).bind λAh=>((if Ah=0 then some Af else (AJk fuel Ah a5).bind λAo=>some Ao):Option Int).bind λAp=>if Ak < Ap then some (Aa,Aa) else some (Ac,Ad)):Option (Int × Int)).bind (λ((Aq,Ar):Int × Int)=>some<|.inl (Aq,Ar,w64<|Aa + 1)) else some<|.inr (Ac,Ad)
def AK8 (fuel:Nat) (Ab:Int) (Af:LiI) (Ae Ag Aa:Int) (Ac:LiI):Option ((Int × LiI) ⊕ LiI):=
 if Aa < (Af.length:Int) then (gI Ac Aa).bind λAd=>(gI Ad Ae).bind λAh=>(gI Ad Ag).bind λAi=>if Ab≠0 then (AJl fuel (w64<|Ah + Int.tmod (w64<|1 * Ai) Ab) Ab).bind λAj=>some (.inl (w64<|Aa + 1,sI Ac Aa<|sI Ad Ae Aj)) else none else some<|.inr Ac
def AK9 (fuel:Nat) (Ac Ad Af:Int) (Ag:LiI) (Aa:Int) (Ab:LiI):Option ((Int × LiI) ⊕ LiI):=
 if Aa < (Ag.length:Int) then (gI Ab Ad).bind λAe=>(gI Ae Aa).bind λAh=>(gI Ab Af).bind λAi=>(gI Ai Aa).bind λAj=>if Ac≠0 then (AJl fuel (w64<|Ah + Int.tmod (w64<|1 * Aj) Ac) Ac).bind λAk=>some (.inl (w64<|Aa + 1,sI Ab Ad<|sI Ae Aa Ak)) else none else some<|.inr Ab
def ALa (fuel:Nat) (Ab:Int) (Af:LiI) (Ae Ag Aa:Int) (Ac:LiI):Option ((Int × LiI) ⊕ LiI):=
 if Aa < (Af.length:Int) then (gI Ac Aa).bind λAd=>(gI Ad Ae).bind λAh=>(gI Ad Ag).bind λAi=>if Ab≠0 then (AJl fuel (w64<|Ah + Int.tmod (w64<|1 * Ai) Ab) Ab).bind λAj=>some (.inl (w64<|Aa + 1,sI Ac Aa<|sI Ad Ae Aj)) else none else some<|.inr Ac
def AL0 (fuel:Nat) (Ab Ac:Int) (Am:LiI) (Aa:Int) (Ad Ae:LiI):Option ((Int × LiI × LiI) ⊕ (LiI × LiI)):=
 if Aa < (Am.length:Int) then (gI Ad Aa).bind λAf=>(gI Af Ab).bind λAh=>(gI Af Ac).bind λAo=>(gI (sI Ad Aa<|sI Af Ac Ah) Aa).bind λAi=>(gI Ai Ab).bind λAq=>(gI Ae Aa).bind λAg=>(gI Ag Ab).bind λAj=>(gI Ag Ac).bind λAp=>(gI (sI Ae Aa<|sI Ag Ac Aj) Aa).bind λAk=>(gI Ak Ab).bind λAr=>some (.inl (w64<|Aa + 1,sI (sI Ad Aa<|sI Af Ac Ah) Aa<|sI Ai Ab Ao,sI (sI Ae Aa<|sI Ag Ac Aj) Aa<|sI Ak Ab Ap)) else some<|.inr (Ad,Ae)
def AL1 (fuel:Nat) (Aa Ag Ae Ah Af:Int) (Ai:LiI) (Aj Ab:Int) (Ac:LiI):Option ((Int × LiI) ⊕ LiI):=
 if Ab < (Ai.length:Int) then (gI Ac Ab).bind λAd=>(gI Ad Af).bind λAk=>(gI Ad Ag).bind λAm=>if Aa≠0 then (AJl fuel (w64<|Ak + Int.tmod (w64<|w64 (0 - Int.tmod (w64<|w64 (Int.tdiv Aj Ae) * Ah) (w64<|Int.tdiv Aa Ae)) * Am) Aa) Aa).bind λAo=>some (.inl (w64<|Ab + 1,sI Ac Ab<|sI Ad Af Ao)) else none else some<|.inr Ac
def AL2 (fuel:Nat) (Ab Ag Ad Ah Ae Ai:Int) (Aj:LiI) (Aa:Int) (Ac:LiI):Option ((Int × LiI) ⊕ LiI):=
 if Aa < (Aj.length:Int) then (gI Ac Ae).bind λAf=>(gI Af Aa).bind λAk=>(gI Ac Ag).bind λAm=>(gI Am Aa).bind λAo=>if Ab≠0 then (AJl fuel (w64<|Ak + Int.tmod (w64<|w64 (0 - Int.tmod (w64<|w64 (Int.tdiv Ai Ad) * Ah) (w64<|Int.tdiv Ab Ad)) * Ao) Ab) Ab).bind λAp=>some (.inl (w64<|Aa + 1,sI Ac Ae<|sI Af Aa Ap)) else none else some<|.inr Ac
def AL3 (fuel:Nat) (Aa Ag Ae Ah Af:Int) (Ai:LiI) (Aj Ab:Int) (Ac:LiI):Option ((Int × LiI) ⊕ LiI):=
 if Ab < (Ai.length:Int) then (gI Ac Ab).bind λAd=>(gI Ad Af).bind λAk=>(gI Ad Ag).bind λAm=>if Aa≠0 then (AJl fuel (w64<|Ak + Int.tmod (w64<|w64 (0 - Int.tmod (w64<|w64 (Int.tdiv Aj Ae) * Ah) (w64<|Int.tdiv Aa Ae)) * Am) Aa) Aa).bind λAo=>some (.inl (w64<|Ab + 1,sI Ac Ab<|sI Ad Af Ao)) else none else some<|.inr Ac
def ANl (fuel:Nat) (Ad Ae Aa Af Ab:Int) (Ac Ag:LiI):Option ((Int × LiI × LiI) ⊕ (LiI × LiI)):=
 if Ab < (Ac.length:Int) then (gI Ac Ae).bind λAj=>(gI Aj Ab).bind λAh=>if Aa≠0 then if Aa≠0 then if w64 (Int.tdiv Ad Aa)≠0 then (((iter (λs=>AL3 fuel Ad Ae Aa Af Ab Ac Ah s.1 s.2) fuel (0,Ac)).bind (λ(Ai:LiI)=>(iter (λs=>AL2 fuel Ad Ae Aa Af Ab Ah Ai s.1 s.2) fuel (0,Ai)).bind (λ(Ak:LiI)=>(iter (λs=>AL1 fuel Ad Ae Aa Af Ab Ag Ah s.1 s.2) fuel (0,Ag)).bind (λ(Am:LiI)=>some (Ak,Am))))):Option (LiI × LiI)).bind λ(Ao,Ap)=>some (.inl (w64<|Ab + 1,Ao,Ap)) else none else none else none else some<|.inr (Ac,Ag)
def ALi (fuel:Nat) (a3:LiI) (a5 Aj Ag Ac:Int) (Ae Ai:LiI) (Ak:List AJ0):Option ((Int × LiI × LiI × List AJ0) ⊕ (LiI × LiI × List AJ0)):=
 if Ac < (a3.length:Int) then (((iter (λs=>AL9 fuel a5 Aj Ae s.1 s.2.1 s.2.2) fuel (Ac,Ac,Ac)).bind (λ((Ax,Ay):Int × Int)=>(iter (λs=>AL8 fuel a5 Aj Ae s.1 s.2.1 s.2.2) fuel (Ax,Ay,Ac)).bind (λ((Az,A3):Int × Int)=>some (Az,A3)))):Option (Int × Int)).bind λ(Ab,Ah)=>((if ¬ Ab=Ah then if a5=2 then none else some Ac else some Ac):Option Int).bind (λ(Aa:Int)=>((if ¬ Ab=Ah then (((iter (λs=>ALa fuel Ag Ae Ab Ah s.1 s.2) fuel (0,Ae)).bind (λ(Ap:LiI)=>(iter (λs=>AK9 fuel Ag Ab Ah Ap s.1 s.2) fuel (0,Ap)).bind (λ(A4:LiI)=>(iter (λs=>AK8 fuel Ag Ai Ab Ah s.1 s.2) fuel (0,Ai)).bind (λ(A5:LiI)=>some (A4,A5))))):Option (LiI × LiI)).bind λ(A6,A7)=>some (A6,A7) else some (Ae,Ai)):Option (LiI × LiI)).bind (λ((Aq,A8):LiI × LiI)=>(((iter (λs=>AL0 fuel Ab Aa Aq s.1 s.2.1 s.2.2) fuel (0,Aq,A8)).bind (λ((Am,A9):LiI × LiI)=>(gI Am Ab).bind λBa=>(gI Am Aa).bind λBb=>some (sI (sI Am Aa Ba) Ab Bb,A9))):Option (LiI × LiI)).bind λ(Ar,Bc)=>(((gI Ar Aa).bind λBe=>(gI Be Aa).bind λAo=>((if Ao=0 then some Aj else (AJk fuel Ao a5).bind λBf=>some Bf):Option Int).bind λAu=>(ANx fuel a5 Au).bind λAd=>if Ad≠0 then if Ad≠0 then (ANa fuel (w64<|Int.tdiv Ao Ad)<|w64<|Int.tdiv Ag Ad).bind λ(Bg,Bt)=>(iter (λs=>ANl fuel Ag Aa Ad Bg s.1 s.2.1 s.2.2) fuel (w64<|Aa + 1,Ar,Bc)).bind (λ((Av,Bh):LiI × LiI)=>(gI Av Aa).bind λBi=>(gI Bi Aa).bind λBj=>if Ad≠0 then some (Au,1,w64<|Int.tdiv Bj Ad,0,0,Av,Bh) else none) else none else none):Option (Int × Int × Int × Int × Int × LiI × LiI)).bind λ(Bl,Bm,Bn,Bo,Bp,Bq,Br)=>if Ak.length<=100000000 then some (.inl (w64<|Aa + 1,Bq,Br,Ak ++ [(Bl,Bm,Bn,Bo,Bp)])) else none)) else some<|.inr (Ae,Ai,Ak)
def ANv (fuel:Nat) (a3:LiI) (Ab:Int) (Ac:LiI):Option ((Int × LiI) ⊕ LiI):=
 if Ab < (a3.length:Int) then if 0<=(a3.length:Int)/\(a3.length:Int)<=100000000 then (gI (List.replicate (Int.toNat (a3.length:Int)) (0:Int)) Ab).bind λAd=>if Ac.length<=100000000 then some (.inl (w64<|Ab + 1,Ac ++ [sI (List.replicate (Int.toNat (a3.length:Int)) (0:Int)) Ab 1])) else none else none else some<|.inr Ac
def AL4 (fuel:Nat) (a3:LiI) (a5:Int):Option (Int × LiI × (List AJ0)):=
 (AOz fuel a3 a5).bind λAc=>(ANx fuel a5 Ac).bind λAd=>(AMg fuel a3 Ad).bind λAe=>(iter (λs=>ANv fuel a3 s.1 s.2) fuel (0,[])).bind (λ(Af:LiI)=>(iter (λs=>ALi fuel a3 a5 Ac Ad s.1 s.2.1 s.2.2.1 s.2.2.2) fuel (0,Ae,Af,[])).bind (λ((Ai,Ag,Ah):LiI × LiI × List AJ0)=>some (a5,Ag,Ah)))
theorem AYr {Fu:Value} {r:(Int × LiI × (List AJ0))} (H2:ANp (cI .i64) h Fu a3) (hp:AL4 fuel a3 a5=some r):AI7 Tryz.prog 10 #[Fu,(.int .i64 a5)] h (λx h'=>Ext h h'/\ ∃ (Fw:Value) (Fx:Value) (Fy:List Nat) (I6:List LnA) (I7:List Value) (Fz:List Nat),x= .agg #[.int .i64 r.1,Fw,Fx]/\ALl (cI .i64) 41 2 h' Fy I6 I7 Fw r.2.1/\OwC AV9 52 h' Fz Fx r.2.2/\Sp h' h.size [Fy,Fz]):=by
 unfold AL4 at hp;refine cwf (l:=[_,_]) Tryz.func10 rfl rfl (AH1<|ALm (Kst.k0 h) [(.int .i64 0),(.slice none 0 0),(.slice none 0 0)] Af0 λb6 h7 E9 F4=>AQs<|AHy<|AHy ?_);obtain ⟨A4,I9,Ja⟩:=AH2 hp;refine ALx F4 (Aao (H2.ext F4.x) I9) λXm Xn Jc=>AJd<|AHy<|AHy<|AHy<|AHy ?_;obtain ⟨Bz,Je,Jf⟩:=AH2 Ja;refine ALx Jc (AWb Je) λXo Xp Jg=>ALe (v:=(.agg #[(.int .i64 a5),(.int .i64 Bz),(.int .i64 A4),(.slice none 0 0),(.slice none 0 0)])) (λ_=>by kernel_rfl)<|AP5 Jg [(.int .i64 a5),(.int .i64 Bz),(.int .i64 A4),(.slice none 0 0),(.slice none 0 0)] λJh Xq Xr Cy=>AJd<|AHy<|AHy<|AHy<|AJj rfl (ALt AUf AIg (Cy.b p0) 1 rfl ?_);obtain ⟨Ji,Jj,Jk⟩:=AH2 Jf;refine AWs Cy (Aap (H2.ext Cy.x) Jj) λJl Jm Jn Aj Xt Xu Cz=>AJj rfl (AJp ALb rfl (AVa [(.int .i64 a5),(.int .i64 Bz),(.int .i64 A4),Aj,(.slice none 0 0)] AJ9 rfl rfl (Cz.o2 p0).isOne (Cz.b p1) (Nat.le_of_ble_eq_true rfl) rfl λXv Jo Jp=>AH5<|AH3<|AH1<|AHy<|AJh AIk rfl H2 (AHy<|AH5<|AH6 ?_)));have F5:=Kst.anil2 (cI .i64) 41 2<|Cz.sb p1 Jp Jo rfl;refine AOq 18014381329613184 (λx:(Int) × (LiI) × (Value) × LnA × LnN × LvA=>(x.1,x.2.1)) ((0,[],(.slice none 0 0),[],[],[]):(Int) × (LiI) × (Value) × LnA × LnN × LvA) Jk (λx=>[(34,(.int .i64 x.1))]) (λx=>(F5.L.set 0<|aO2 (cI .i64) 41 2 x.2.2.2.1 x.2.2.2.2.1 x.2.2.2.2.2 x.2.2.1 x.2.1).set 2 (aB 68 Jh [(.int .i64 a5),(.int .i64 Bz),(.int .i64 A4),Aj,x.2.2.1])) F5 ⟨rfl,trivial⟩ ?_;rintro ⟨Xw,u64,Aq,Ab,A5,A6⟩ Xx Xy Xz F6 C0 Jq;unfold ANv at C0;refine AH1<|AI3 rfl rfl (AH5<|AH3<|⟨_,rfl,λC1=>?_,λC1=>?_⟩)
 ·refine AIa<|q_t<|AH3<|AH6<|AH1<|AHy<|AJd<|AHy<|AJh AIk rfl H2 ?_;obtain ⟨Jr,Js⟩:=ifN<|AJb C0 C1;refine AYw (c:=(cI .i64)) (a:=0) AIi ARy rfl rfl (λ_=>rfl) rfl trivial tt2 rfl rfl AHz Jr λX0 X3 X4 Jt Ju Jv Jw=>AJd<|AHy<|AHy ?_;have C3:=F6.no Ju (ANs Jv Jw) Jt;obtain ⟨X5,F7,Jx⟩:=AH2 Js;refine Afn AIi rfl (C3.o p0) rfl F7 λX6 Jy=>A7d (AMt AIg rfl rfl rfl) (C3.o p0) Jy F7 (show ((cI .i64)).rep _ 1 _ from rfl) λX8 Jz J0=>AH5<|AIf ?_;have B2:=C3.uO p0 J0 Jz;refine AHy<|AHy<|AJj rfl (ALt AUg AJ9 (B2.b p3) 4 rfl (AHy ?_));obtain ⟨J1,J2⟩:=ifN Jx;refine Ai0 AIk AU9 rfl rfl trivial tt2 (λ_=>rfl) rfl (B2.o p0) (B2.o2 p1) (B2.dj p0 p1 AHz) AHz J1 λYa Yb J3 Yc J4 J5 J6=>AJj rfl (AJp AUg rfl ?_);have C4:=B2.m2 p0 p1 AHz J5 J4 J6;refine AVa [(.int .i64 a5),(.int .i64 Bz),(.int .i64 A4),Aj,J3] AJ9 rfl rfl (C4.o2 p1).isOne (C4.b p3) (Nat.le_of_ble_eq_true rfl) rfl λYd J7 J8=>AIu<|q_b<|q_t<|AIf<|AI0 rfl rfl (AHy<|AH5 ?_);exact ⟨(_,_,_,_,_,_),(AH0 J2).symm,(C4.sb p3 J8 J7 rfl).sel [1,2,3,4] AHz,rfl,trivial⟩
 ·refine AIq<|AIr<|AIr<|AJt<|q_t<|AH1<|AHy<|ALe (v:=(.agg #[(.int .i64 a5),(.slice none 0 0),(.slice none 0 0)])) (λ_=>by kernel_rfl)<|ALm F6 [(.int .i64 0),(.slice none 0 0),(.slice none 0 0)] Af0 λJ9 Ye Yf F8=>AKo [(.int .i64 a5),(.slice none 0 0),(.slice none 0 0)] AS9 rfl rfl rfl rfl (by simp [isOne]) (F8.b p0) λYg Ka Kb=>AH5<|AH3<|AH1<|AH7<|AH6 ?_;have F9:=Kst.anil AV9 52<|F8.sb p0 Kb Ka rfl;refine AOq 10384593717069655185003398620519424 (λx:(Int) × (LiI) × LnA × LnN × LvA × (LiI) × ((List AJ0)) × (Value) × LnA=>(x.1,x.2.1,x.2.2.2.2.2.1,x.2.2.2.2.2.2.1)) ((0,Ji,Jl,Jm,Jn,u64,[],(.slice none 0 0),[]):(Int) × (LiI) × LnA × LnN × LvA × (LiI) × ((List AJ0)) × (Value) × LnA) (Jq _ (AH0<|AJc C0 C1).symm) (λx=>[(10,(.int .i64 x.1))]) (λx=>(((F9.L.set 3<|aO2 (cI .i64) 41 2 x.2.2.1 x.2.2.2.1 x.2.2.2.2.1 Aj x.2.1).set 2 (aO2 (cI .i64) 41 2 Ab A5 A6 Aq x.2.2.2.2.2.1)).set 0 (aO AV9 52 x.2.2.2.2.2.2.2.2 x.2.2.2.2.2.2.2.1 x.2.2.2.2.2.2.1)).set 1 (aB 29 J9 [(.int .i64 a5),(.slice none 0 0),x.2.2.2.2.2.2.2.1])) F9 ⟨rfl,trivial⟩ ?_;rintro ⟨Ga,Kc,B3,B4,B5,Kd,Yh,C5,Gb⟩ Yi Yj Yk Be C6 Ke;unfold ALi at C6;refine AH3<|AH1<|AHy<|AHy<|AJh AIk rfl H2 (AI3 rfl rfl (AH5<|⟨_,rfl,λC7=>?_,λC7=>?_⟩))
  ·refine AIa<|q_t<|AH6<|AH1<|AHy<|AHy ?_;obtain ⟨Kf,Kg,Kh⟩:=AH2<|AJb C6 C7;refine AIz (K':=(λxr h'=> ∃ x:(Int) × (Int),(x.1,x.2)=Kf/\xr= .tuple #[(.int .i64 x.1),(.int .i64 x.2)]/\Kst h h' (Be.L))) trivial rfl ?_ λYl Ym Ki=>?_
   ·refine cwf (l:=[_,_]) Tryz.func30 rfl rfl (AH1<|AIw<|AJd<|AHy<|AHy<|AIw<|AH7<|AH3<|AH1<|AHy<|AH7<|AH6<|APb 1125899906826688 Kg (λx=>[(6,(.int .i64 x.1)),(7,(.int .i64 x.2.1)),(8,(.int .i64 x.2.2))]) (λx=>Be.L) Be ⟨rfl,rfl,rfl,trivial⟩ ?_);rintro ⟨Gc,Kj,C8⟩ Yn Bm Yo Ad C9 Kk;unfold AL9 at C9;refine AH3<|AH1<|AHy<|AHy<|AJj rfl (ALt ALb AJ9 (Ad.b p4) 3 rfl (AJh AIk rfl (Ad.o2 p3).rd (AI3 rfl rfl (AH5<|⟨_,rfl,λDa=>?_,λDa=>?_⟩))))
    ·refine AIa<|q_t ?_;obtain ⟨Kl,Km,Kn⟩:=AH2<|AJb C9 Da;refine ARb 1125899898454208 (λx:(Int) × (Int)=>[(6,(.int .i64 x.1)),(7,(.int .i64 x.2))]) (λx h'=>( (x.1,x.2))=Kl/\Kst h h' (Ad.L)) ?_ ?_
     ·refine AH6<|AH3<|AKg (λh'=>UpT [] Bm h') AIb ?_;have B6:UpT [] Bm Bm:=UpT.start all_nil;refine AHy<|AHy<|AJj rfl (AJp ALb rfl (AJe AJ9 rfl B6 (λh' hb=>((Ad.b p4).ext hb.ext).cell (i:=3) rfl) (AHy ?_)));obtain ⟨Yp,Db,Ko⟩:=AH2 Km;refine AJr AIk rfl (Ad.o2 p3) rfl Db λYq Yr Ys Kp Kr=>AJe AIv rfl B6 (λh' hb=>AIj Kr hb.ext) (AHy ?_);obtain ⟨Yt,Gd,Kt⟩:=AH2 Ko;refine AJy (m:=C8) AIi rfl (Ad.o2 p3) Kp Db rfl Gd λYu Ku=>?_;obtain ⟨Yv,Kv,Kw⟩:=(Ad.o2 p3).cells Ku Db Gd;obtain rfl:=Kv;refine AJe AIg rfl B6 (λh' hb=>AIj (Kw 0 _ rfl) hb.ext) ?_;obtain ⟨Kx,Ge,Ky⟩:=AH2 Kt;have Gf:UpT [] Bm Bm:=UpT.start all_nil;refine AIz (K':=(λxr h'=> ∃ x:(Int),x=Kx/\xr=(.int .i64 x)/\Kst h h' (Ad.L)/\UpT [] Bm h')) B6 rfl ?_ λYw Dc Kz=>?_
      ·refine cwf (l:=[_,_]) Tryz.func74 rfl rfl (AH1<|AH7<|AH3<|AH1<|AHy<|AKd rfl rfl (AH5<|⟨_,rfl,λDd=>?_,λDd=>?_⟩))
       ·refine AH1<|AHy<|AJj rfl (AJp Ag5 rfl (AI1 AJq rfl ((Ad.b p4).cell (i:=2) rfl) (AH7<|AIc<|AIt<|⟨_,AId,(A4:(Int)),?_,rfl,?_,?_⟩)))
        ·exact AH0<|AJb Ge Dd
        ·exact Ad
        ·exact Gf
       ·refine AIa<|q_t<|AH1<|AHy<|AHy<|AJj rfl (AJp Afa rfl (AI1 AIg rfl ((Ad.b p4).cell (i:=0) rfl) ?_));obtain ⟨La,Lb,Lc⟩:=AH2<|AJc Ge Dd;refine ASt rfl (ALr Lb) λYx Yy De Ld=>?_;subst Ld;refine AH7<|AIc ?_;have Yz:=De.1;refine ⟨_,AId,(La:(Int)),?_,rfl,?_,?_⟩
        ·exact AH0 Lc
        ·exact (Ad.e De)
        ·exact (Gf.thenE De)
      obtain ⟨Y1,Le,rfl,B7,Gg⟩:=Kz;have Y2:=Gg.size;have Bn:=B6.then Gg all_nil;refine ⟨Bn,?_⟩;subst Le;refine AHy<|AHy<|AJj rfl (AJp ALb rfl (AJe AJ9 rfl Bn (λh' hb=>((Ad.b p4).ext hb.ext).cell (i:=3) rfl) (AHy ?_)));obtain ⟨Y3,Df,Lf⟩:=AH2 Ky;refine AJr AIk rfl (Ad.o2 p3) rfl Df λY4 Y5 Y6 Lg Lh=>AJe AIv rfl Bn (λh' hb=>AIj Lh hb.ext) (AHy ?_);obtain ⟨Y7,Gh,Li⟩:=AH2 Lf;refine AJy (m:=Gc) AIi rfl (Ad.o2 p3) Lg Df rfl Gh λY8 Lj=>?_;obtain ⟨Y9,Lk,Ll⟩:=(Ad.o2 p3).cells Lj Df Gh;obtain rfl:=Lk;refine AJe AIg rfl Bn (λh' hb=>AIj (Ll 0 _ rfl) hb.ext) ?_;obtain ⟨Lm,Gi,Gj⟩:=AH2 Li;have Gk:UpT [] Dc Dc:=UpT.start all_nil;refine AIz (K':=(λxr h'=> ∃ x:(Int),x=Lm/\xr=(.int .i64 x)/\Kst h h' (B7.L)/\UpT [] Dc h')) Bn rfl ?_ λZa Zd Lo=>?_
      ·refine cwf (l:=[_,_]) Tryz.func74 rfl rfl (AH1<|AH7<|AH3<|AH1<|AHy<|AKd rfl rfl (AH5<|⟨_,rfl,λDg=>?_,λDg=>?_⟩))
       ·refine AH1<|AHy<|AJj rfl (AJp Ag5 rfl (AI1 AJq rfl ((B7.b p4).cell (i:=2) rfl) (AH7<|AIc<|AIt<|⟨_,AId,(A4:(Int)),?_,rfl,?_,?_⟩)))
        ·exact AH0<|AJb Gi Dg
        ·exact B7
        ·exact Gk
       ·refine AIa<|q_t<|AH1<|AHy<|AHy<|AJj rfl (AJp Afa rfl (AI1 AIg rfl ((B7.b p4).cell (i:=0) rfl) ?_));obtain ⟨Lq,Lr,Lv⟩:=AH2<|AJc Gi Dg;refine ASt rfl (ALr Lr) λZe Zf Dh Lw=>?_;subst Lw;refine AH7<|AIc ?_;have Zg:=Dh.1;refine ⟨_,AId,(Lq:(Int)),?_,rfl,?_,?_⟩
        ·exact AH0 Lv
        ·exact (B7.e Dh)
        ·exact (Gk.thenE Dh)
      obtain ⟨Zh,Lx,rfl,Gl,Gm⟩:=Lo;have Zj:=Gm.size;refine ⟨(Bn.then Gm all_nil),?_⟩;subst Lx;refine AI3 rfl rfl (AH5<|⟨_,rfl,λDi=>?_,λDi=>?_⟩)
      ·refine AIf<|AHy<|AHy<|AIw<|AIw<|AIu<|q_b<|q_t ?_;exact ⟨((C8,C8):(Int) × (Int)),⟨AH0<|AJb Gj Di,Gl⟩,rfl,rfl,trivial⟩
      ·refine AIa<|q_b<|q_t ?_;exact ⟨((Gc,Kj):(Int) × (Int)),⟨AH0<|AJc Gj Di,Gl⟩,rfl,rfl,trivial⟩
     rintro ⟨Zk,Zl⟩ Zm Zn ⟨Ly,Lz⟩;subst Ly;refine AIf<|AHy<|AI0 rfl rfl (AH7 ?_);exact ⟨_,(AH0 Kn).symm,Lz,rfl,rfl,rfl,trivial⟩
    ·refine AIq<|AIr<|AIr<|AJt<|q_t<|AH3<|AH1<|AHy<|AH7<|AH6<|APb 316912650057055098574362117824 (Kk _ (AH0<|AJc C9 Da).symm) (λx=>[(6,(.int .i64 x.1)),(7,(.int .i64 x.2.1)),(9,(.int .i64 x.2.2))]) (λx=>Ad.L) Ad ⟨rfl,rfl,rfl,trivial⟩ ?_;rintro ⟨L9,Ma,Gn⟩ Zo Zp Zq B8 Dj Mb;unfold AL8 at Dj;refine AH3<|AH1<|AHy<|AHy<|AJj rfl (ALt ALb AJ9 (B8.b p4) 3 rfl (AJh AIk rfl (B8.o2 p3).rd (AI3 rfl rfl (AH5<|⟨_,rfl,λDk=>?_,λDk=>?_⟩))))
     ·refine AIa<|q_t<|AH3<|AH6<|AH1<|AHy<|AI0 rfl rfl (AH7<|AH6<|APb 316912650052445664355748414656 (AJb Dj Dk) (λx=>[(6,(.int .i64 x.1)),(7,(.int .i64 x.2.1)),(10,(.int .i64 x.2.2))]) (λx=>B8.L) B8 ⟨rfl,rfl,rfl,trivial⟩ ?_);rintro ⟨Gp,Mc,Md⟩ Zr Bo Zs Ai Dl Me;unfold APy at Dl;refine AH3<|AH1<|AHy<|AHy<|AJj rfl (ALt ALb AJ9 (Ai.b p4) 3 rfl (AJh AIk rfl (Ai.o2 p3).rd (AI3 rfl rfl (AH5<|⟨_,rfl,λDo=>?_,λDo=>?_⟩))))
      ·refine AIa<|q_t ?_;obtain ⟨Mf,Mg,Mh⟩:=AH2<|AJb Dl Do;refine ARb 316912647695874108939353194688 (λx:(Int) × (Int)=>[(6,(.int .i64 x.1)),(7,(.int .i64 x.2))]) (λx h'=>( (x.1,x.2))=Mf/\Kst h h' (Ai.L)) ?_ ?_
       ·refine AH6<|AH3<|AKg (λh'=>UpT [] Bo h') AIb ?_;have B9:UpT [] Bo Bo:=UpT.start all_nil;refine AHy<|AHy<|AJj rfl (AJp ALb rfl (AJe AJ9 rfl B9 (λh' hb=>((Ai.b p4).ext hb.ext).cell (i:=3) rfl) (AHy ?_)));obtain ⟨Zt,Dp,Mi⟩:=AH2 Mg;refine AJr AIk rfl (Ai.o2 p3) rfl Dp λZu Zv Zw Mj Mk=>AJe AIv rfl B9 (λh' hb=>AIj Mk hb.ext) (AHy ?_);obtain ⟨Zx,Gq,Ml⟩:=AH2 Mi;refine AJy (m:=Gn) AIi rfl (Ai.o2 p3) Mj Dp rfl Gq λZy Mm=>?_;obtain ⟨Zz,Mo,Mq⟩:=(Ai.o2 p3).cells Mm Dp Gq;obtain rfl:=Mo;refine AJe AIg rfl B9 (λh' hb=>AIj (Mq 0 _ rfl) hb.ext) ?_;obtain ⟨Mr,Gr,Ms⟩:=AH2 Ml;have Gt:UpT [] Bo Bo:=UpT.start all_nil;refine AIz (K':=(λxr h'=> ∃ x:(Int),x=Mr/\xr=(.int .i64 x)/\Kst h h' (Ai.L)/\UpT [] Bo h')) B9 rfl ?_ λZ1 Dq Mt=>?_
        ·refine cwf (l:=[_,_]) Tryz.func74 rfl rfl (AH1<|AH7<|AH3<|AH1<|AHy<|AKd rfl rfl (AH5<|⟨_,rfl,λDr=>?_,λDr=>?_⟩))
         ·refine AH1<|AHy<|AJj rfl (AJp Ag5 rfl (AI1 AJq rfl ((Ai.b p4).cell (i:=2) rfl) (AH7<|AIc<|AIt<|⟨_,AId,(A4:(Int)),?_,rfl,?_,?_⟩)))
          ·exact AH0<|AJb Gr Dr
          ·exact Ai
          ·exact Gt
         ·refine AIa<|q_t<|AH1<|AHy<|AHy<|AJj rfl (AJp Afa rfl (AI1 AIg rfl ((Ai.b p4).cell (i:=0) rfl) ?_));obtain ⟨Mu,Mv,Mw⟩:=AH2<|AJc Gr Dr;refine ASt rfl (ALr Mv) λZ4 AAa Ds Mx=>?_;subst Mx;refine AH7<|AIc ?_;have AAb:=Ds.1;refine ⟨_,AId,(Mu:(Int)),?_,rfl,?_,?_⟩
          ·exact AH0 Mw
          ·exact (Ai.e Ds)
          ·exact (Gt.thenE Ds)
        obtain ⟨AAc,My,rfl,Ca,Gu⟩:=Mt;have AAd:=Gu.size;have Bp:=B9.then Gu all_nil;refine ⟨Bp,?_⟩;subst My;refine AHy<|AHy<|AJj rfl (AJp ALb rfl (AJe AJ9 rfl Bp (λh' hb=>((Ai.b p4).ext hb.ext).cell (i:=3) rfl) (AHy ?_)));obtain ⟨AAe,Dt,Mz⟩:=AH2 Ms;refine AJr AIk rfl (Ai.o2 p3) rfl Dt λAAf AAg AAh M0 M1=>AJe AIv rfl Bp (λh' hb=>AIj M1 hb.ext) (AHy ?_);obtain ⟨AAi,Gv,M2⟩:=AH2 Mz;refine AJy (m:=Gp) AIi rfl (Ai.o2 p3) M0 Dt rfl Gv λAAj M3=>?_;obtain ⟨AAk,M4,M5⟩:=(Ai.o2 p3).cells M3 Dt Gv;obtain rfl:=M4;refine AJe AIg rfl Bp (λh' hb=>AIj (M5 0 _ rfl) hb.ext) ?_;obtain ⟨M6,Gw,Gx⟩:=AH2 M2;have Gy:UpT [] Dq Dq:=UpT.start all_nil;refine AIz (K':=(λxr h'=> ∃ x:(Int),x=M6/\xr=(.int .i64 x)/\Kst h h' (Ca.L)/\UpT [] Dq h')) Bp rfl ?_ λAAl AAm M7=>?_
        ·refine cwf (l:=[_,_]) Tryz.func74 rfl rfl (AH1<|AH7<|AH3<|AH1<|AHy<|AKd rfl rfl (AH5<|⟨_,rfl,λDu=>?_,λDu=>?_⟩))
         ·refine AH1<|AHy<|AJj rfl (AJp Ag5 rfl (AI1 AJq rfl ((Ca.b p4).cell (i:=2) rfl) (AH7<|AIc<|AIt<|⟨_,AId,(A4:(Int)),?_,rfl,?_,?_⟩)))
          ·exact AH0<|AJb Gw Du
          ·exact Ca
          ·exact Gy
         ·refine AIa<|q_t<|AH1<|AHy<|AHy<|AJj rfl (AJp Afa rfl (AI1 AIg rfl ((Ca.b p4).cell (i:=0) rfl) ?_));obtain ⟨M8,M9,Na⟩:=AH2<|AJc Gw Du;refine ASt rfl (ALr M9) λAAn AAo Dv Nb=>?_;subst Nb;refine AH7<|AIc ?_;have AAp:=Dv.1;refine ⟨_,AId,(M8:(Int)),?_,rfl,?_,?_⟩
          ·exact AH0 Na
          ·exact (Ca.e Dv)
          ·exact (Gy.thenE Dv)
        obtain ⟨AAq,Nc,rfl,Gz,G3⟩:=M7;have AAr:=G3.size;refine ⟨(Bp.then G3 all_nil),?_⟩;subst Nc;refine AI3 rfl rfl (AH5<|⟨_,rfl,λDw=>?_,λDw=>?_⟩)
        ·refine AIf<|AHy<|AHy<|AIw<|AIw<|AIu<|q_b<|q_t ?_;exact ⟨((Gn,Md):(Int) × (Int)),⟨AH0<|AJb Gx Dw,Gz⟩,rfl,rfl,trivial⟩
        ·refine AIa<|q_b<|q_t ?_;exact ⟨((Gp,Mc):(Int) × (Int)),⟨AH0<|AJc Gx Dw,Gz⟩,rfl,rfl,trivial⟩
       rintro ⟨AAs,AAt⟩ AAu AAv ⟨Nd,Nf⟩;subst Nd;refine AIf<|AHy<|AI0 rfl rfl (AH7 ?_);exact ⟨_,(AH0 Mh).symm,Nf,rfl,rfl,rfl,trivial⟩
      ·refine AIq<|AIr<|AIr<|AJt<|q_b<|q_t<|AIf<|AHy<|AI0 rfl rfl (AH7 ?_);exact ⟨_,(AH0<|Me _ (AH0<|AJc Dl Do).symm).symm,Ai,rfl,rfl,rfl,trivial⟩
     ·refine AIq<|AIr<|AIr<|AJt<|q_t<|AH1<|AHy<|AHy<|AIw<|AH7<|AIc<|⟨_,AJu,((L9,Ma):(Int) × (Int)),?_,rfl,?_⟩
      ·exact AH0<|Mb _ (AH0<|AJc Dj Dk).symm
      ·exact B8
   obtain ⟨⟨Cb,G4⟩,Ng,rfl,Dx⟩:=Ki;refine ⟨trivial,?_⟩;subst Ng;refine AHy<|AJs rfl rfl (AJs rfl rfl (AIw<|AH7 ?_));obtain ⟨Nh,G5,Ni⟩:=AH2 Kh;refine ARb 4951760083354544804758291456 (λx:(Int)=>[(10,(.int .i64 x))]) (λx h'=>( x)=Nh/\Kst h h' (Dx.L)) ?_ ?_
   ·refine AH1<|AHy<|AHy<|AK0 rfl rfl (AHy ?_);by_cases Cn: ¬ Cb=G4
    ·have G6:=ifT G5 Cn;rw [decide_eq_true Cn];refine AIs 69 true<|AHy<|AIs 69 true<|AKd rfl rfl (AIm rfl (AH5<|⟨_,rfl,λDy=>?_,λDy=>?_⟩))
     ·refine AH3 ?_;have Nj:=AJb G6 Dy;cases Nj
     ·refine AIa<|q_t ?_;exact ⟨(Ga:(Int)),⟨AH0<|AJc G6 Dy,Dx⟩,rfl,trivial⟩
    ·rw [decide_eq_false Cn];refine AP2 69 false<|AIn rfl (AH5<|AI6 rfl (AIa<|q_t ?_));exact ⟨(Ga:(Int)),⟨AH0<|ifF G5 Cn,Dx⟩,rfl,trivial⟩
   rintro Bf AAw AAx ⟨Nk,Bg⟩;subst Nk;obtain ⟨Nl,G7,Nm⟩:=AH2 Ni;refine ARb 628873539956973179648755105792 (λx:(LiI) × (LiI)=>[]) (λx h'=>( (x.1,x.2))=Nl/\Kst h h' ((Bg.L.set 3<|aO2 (cI .i64) 41 2 B3 B4 B5 Aj x.1).set 2 (aO2 (cI .i64) 41 2 Ab A5 A6 Aq x.2))) ?_ ?_
   ·refine AH1<|AHy<|AHy<|AK0 rfl rfl (AH5<|⟨_,rfl,λDz=>?_,λDz=>?_⟩)
    ·refine AIf<|AHy<|AHy<|AHy ?_;obtain ⟨Nn,Np,Nq⟩:=AH2<|AJb G7 Dz;refine AIz (K':=(λxr h'=> ∃ x:(LiI) × (LiI),(x.1,x.2)=Nn/\xr= .tuple #[]/\Kst h h' ((Bg.L.set 3<|aO2 (cI .i64) 41 2 B3 B4 B5 Aj x.1).set 2 (aO2 (cI .i64) 41 2 Ab A5 A6 Aq x.2)))) trivial rfl ?_ λAAy AAz Nr=>?_
     ·refine cwf (l:=[_,_,_,_]) Tryz.func33 rfl rfl (AH3<|AH1<|AHy<|AJj rfl (ALt ALb AJ9 (Bg.b p4) 3 rfl (AJh AIk rfl (Bg.o2 p3).rd (AHy<|AH5<|AH6<|APb 4611686018427322624 Np (λx=>[(16,(.int .i64 x.1))]) (λx=>Bg.L.set 3<|aO2 (cI .i64) 41 2 B3 B4 B5 Aj x.2) Bg ⟨rfl,trivial⟩ ?_))));rintro ⟨Co,AA0⟩ AA1 D0 AA2 Ae D3 Ns;unfold ALa at D3;refine AH1<|AI3 rfl rfl (AH5<|AH3<|⟨_,rfl,λD4=>?_,λD4=>?_⟩)
      ·refine AIa<|q_t<|AH3<|AH6<|AH1<|AHy<|AH7<|AKg (λh'=>UpT [] D0 h') AIb ?_;have Aw:UpT [] D0 D0:=UpT.start all_nil;refine AHy<|AJj rfl (AJp ALb rfl (AJe AJ9 rfl Aw (λh' hb=>((Ae.b p4).ext hb.ext).cell (i:=3) rfl) (AHy ?_)));obtain ⟨AA3,A7,Nt⟩:=AH2<|AJb D3 D4;refine AJr AIk rfl (Ae.o2 p3) rfl A7 λAA4 AA5 AA6 Nu Nv=>AJe AIv rfl Aw (λh' hb=>AIj Nv hb.ext) (AHy<|AHy<|AJj rfl (AJp ALb rfl (AJe AJ9 rfl Aw (λh' hb=>((Ae.b p4).ext hb.ext).cell (i:=3) rfl) (AHy<|AJr AIk rfl (Ae.o2 p3) rfl A7 λAA7 AA8 AA9 Nw Ny=>AJe AIv rfl Aw (λh' hb=>AIj Ny hb.ext) (AHy ?_)))));obtain ⟨ABa,Cp,Nz⟩:=AH2 Nt;refine AJy (m:=Co) AIi rfl (Ae.o2 p3) Nw A7 rfl Cp λABb N0=>?_;obtain ⟨ABc,N3,N4⟩:=(Ae.o2 p3).cells N0 A7 Cp;obtain rfl:=N3;refine AJe AIg rfl Aw (λh' hb=>AIj (N4 0 _ rfl) hb.ext) (AHy<|AHy<|AJj rfl (AJp ALb rfl (AJe AJ9 rfl Aw (λh' hb=>((Ae.b p4).ext hb.ext).cell (i:=3) rfl) (AHy<|AJr AIk rfl (Ae.o2 p3) rfl A7 λABd ABe ABf N5 N6=>AJe AIv rfl Aw (λh' hb=>AIj N6 hb.ext) (AHy ?_)))));obtain ⟨ABg,G8,N7⟩:=AH2 Nz;refine AJy (m:=Co) AIi rfl (Ae.o2 p3) N5 A7 rfl G8 λABh N8=>?_;obtain ⟨ABi,N9,Oa⟩:=(Ae.o2 p3).cells N8 A7 G8;obtain rfl:=N9;refine AJe AIg rfl Aw (λh' hb=>AIj (Oa 0 _ rfl) hb.ext) (APo rfl rfl (AHy<|AJj rfl (AJp AUf rfl (AJe AIg rfl Aw (λh' hb=>((Ae.b p4).ext hb.ext).cell (i:=1) rfl) ?_))));obtain ⟨Ob,Oc⟩:=ifN N7;refine ALg rfl rfl Ob (AI0 rfl rfl (AHy<|AJj rfl (AJp AUf rfl (AJe AIg rfl Aw (λh' hb=>((Ae.b p4).ext hb.ext).cell (i:=1) rfl) ?_))));obtain ⟨Od,Oe,Og⟩:=AH2 Oc;refine Afo Ae Aw (AK4 Oe) λABj ABk G9 ABl=>AJy (m:=Co) AIi rfl (Ae.o2 p3) Nu A7 rfl Cp λABm Oh=>AN2 (m:=Co) (AMt AIg rfl rfl rfl) (G9.o2 p3) Oh A7 Cp (show ((cI .i64)).rep _ Od _ from rfl) λABn Oi Hb=>AIu<|q_b<|q_t<|AIf<|AI0 rfl rfl (AHy<|AH5 ?_);have ABo:=Hb.size;exact ⟨_,(AH0 Og).symm,(G9.uO2 p3 Hb Oi),rfl,trivial⟩
      ·refine AIq<|AIr<|AIr<|AJt<|q_t<|AH3<|AH1<|AHy<|AJj rfl (ALt ALb AJ9 (Ae.b p4) 3 rfl (AJh AIk rfl (Ae.o2 p3).rd (AHy<|AH5<|AH6<|APb 10384593717069507683108402982027776 (Ns _ (AH0<|AJc D3 D4).symm) (λx=>[(67,(.int .i64 x.1))]) (λx=>Ae.L.set 3<|aO2 (cI .i64) 41 2 B3 B4 B5 Aj x.2) Ae ⟨rfl,trivial⟩ ?_)));rintro ⟨ABp,Oj⟩ ABq D5 ABr Af D6 Ol;unfold AK9 at D6;refine AH1<|AI3 rfl rfl (AH5<|AH3<|⟨_,rfl,λD7=>?_,λD7=>?_⟩)
       ·refine AIa<|q_t<|AH3<|AH6<|AH1<|AHy<|AH7<|AKg (λh'=>UpT [] D5 h') AIb ?_;have Ax:UpT [] D5 D5:=UpT.start all_nil;refine AHy<|AJj rfl (AJp ALb rfl (AJe AJ9 rfl Ax (λh' hb=>((Af.b p4).ext hb.ext).cell (i:=3) rfl) (AHy ?_)));obtain ⟨ABs,Bq,Om⟩:=AH2<|AJb D6 D7;refine AJr AIk rfl (Af.o2 p3) rfl Bq λABt ABu ABv On Oo=>AJe AIv rfl Ax (λh' hb=>AIj Oo hb.ext) (AHy<|AHy<|AJj rfl (AJp ALb rfl (AJe AJ9 rfl Ax (λh' hb=>((Af.b p4).ext hb.ext).cell (i:=3) rfl) (AHy<|AJr AIk rfl (Af.o2 p3) rfl Bq λABw ABx ABy Oq Ot=>AJe AIv rfl Ax (λh' hb=>AIj Ot hb.ext) (AHy ?_)))));obtain ⟨ABz,Cq,Ou⟩:=AH2 Om;refine AJy (m:=Cb) AIi rfl (Af.o2 p3) Oq Bq rfl Cq λAB0 Ov=>?_;obtain ⟨AB1,Ow,Ox⟩:=(Af.o2 p3).cells Ov Bq Cq;obtain rfl:=Ow;refine AJe AIg rfl Ax (λh' hb=>AIj (Ox 0 _ rfl) hb.ext) (AHy<|AHy<|AJj rfl (AJp ALb rfl (AJe AJ9 rfl Ax (λh' hb=>((Af.b p4).ext hb.ext).cell (i:=3) rfl) (AHy ?_))));obtain ⟨AB2,D8,Oy⟩:=AH2 Ou;refine AJr AIk rfl (Af.o2 p3) rfl D8 λAB3 AB4 AB5 Oz O0=>AJe AIv rfl Ax (λh' hb=>AIj O0 hb.ext) (AHy ?_);obtain ⟨AB6,Hc,O1⟩:=AH2 Oy;refine AJy (m:=G4) AIi rfl (Af.o2 p3) Oz D8 rfl Hc λAB7 O2=>?_;obtain ⟨AB8,O3,O4⟩:=(Af.o2 p3).cells O2 D8 Hc;obtain rfl:=O3;refine AJe AIg rfl Ax (λh' hb=>AIj (O4 0 _ rfl) hb.ext) (APo rfl rfl (AHy<|AJj rfl (AJp AUf rfl (AJe AIg rfl Ax (λh' hb=>((Af.b p4).ext hb.ext).cell (i:=1) rfl) ?_))));obtain ⟨O5,O6⟩:=ifN O1;refine ALg rfl rfl O5 (AI0 rfl rfl (AHy<|AJj rfl (AJp AUf rfl (AJe AIg rfl Ax (λh' hb=>((Af.b p4).ext hb.ext).cell (i:=1) rfl) ?_))));obtain ⟨O7,O8,O9⟩:=AH2 O6;refine Afo Af Ax (AK4 O8) λAB9 ACa Hd ACb=>AJy (m:=Cb) AIi rfl (Af.o2 p3) On Bq rfl Cq λACc Pa=>AN2 (m:=Cb) (AMt AIg rfl rfl rfl) (Hd.o2 p3) Pa Bq Cq (show ((cI .i64)).rep _ O7 _ from rfl) λACd Pb He=>AIu<|q_b<|q_t<|AIf<|AI0 rfl rfl (AHy<|AH5 ?_);have ACe:=He.size;exact ⟨_,(AH0 O9).symm,(Hd.uO2 p3 He Pb),rfl,trivial⟩
       ·refine AIq<|AIr<|AIr<|AJt<|q_t<|AH1<|AHy<|AJj rfl (ALt AUg AJ9 (Af.b p4) 4 rfl (AJh AIk rfl (Af.o2 p2).rd (AHy<|AH5<|AH6<|APb 23384026197294114384260011094492302362729850602496 (Ol _ (AH0<|AJc D6 D7).symm) (λx=>[(118,(.int .i64 x.1))]) (λx=>Af.L.set 2<|aO2 (cI .i64) 41 2 Ab A5 A6 Aq x.2) Af ⟨rfl,trivial⟩ ?_)));rintro ⟨Cr,Pc⟩ ACf D9 ACg Ak Ea Pd;unfold AK8 at Ea;refine AH1<|AI3 rfl rfl (AH5<|AH3<|⟨_,rfl,λEb=>?_,λEb=>?_⟩)
        ·refine AIa<|q_t<|AH3<|AH6<|AH1<|AHy<|AH7<|AKg (λh'=>UpT [] D9 h') AIb ?_;have Ay:UpT [] D9 D9:=UpT.start all_nil;refine AHy<|AJj rfl (AJp AUg rfl (AJe AJ9 rfl Ay (λh' hb=>((Ak.b p4).ext hb.ext).cell (i:=4) rfl) (AHy ?_)));obtain ⟨ACh,A8,Pe⟩:=AH2<|AJb Ea Eb;refine AJr AIk rfl (Ak.o2 p2) rfl A8 λACi ACj ACk Pf Pg=>AJe AIv rfl Ay (λh' hb=>AIj Pg hb.ext) (AHy<|AHy<|AJj rfl (AJp AUg rfl (AJe AJ9 rfl Ay (λh' hb=>((Ak.b p4).ext hb.ext).cell (i:=4) rfl) (AHy<|AJr AIk rfl (Ak.o2 p2) rfl A8 λACl ACm ACn Ph Pj=>AJe AIv rfl Ay (λh' hb=>AIj Pj hb.ext) (AHy ?_)))));obtain ⟨ACo,Ct,Pk⟩:=AH2 Pe;refine AJy (m:=Cr) AIi rfl (Ak.o2 p2) Ph A8 rfl Ct λACp Pl=>?_;obtain ⟨ACq,Pm,Pn⟩:=(Ak.o2 p2).cells Pl A8 Ct;obtain rfl:=Pm;refine AJe AIg rfl Ay (λh' hb=>AIj (Pn 0 _ rfl) hb.ext) (AHy<|AHy<|AJj rfl (AJp AUg rfl (AJe AJ9 rfl Ay (λh' hb=>((Ak.b p4).ext hb.ext).cell (i:=4) rfl) (AHy<|AJr AIk rfl (Ak.o2 p2) rfl A8 λACr ACs ACt Po Pp=>AJe AIv rfl Ay (λh' hb=>AIj Pp hb.ext) (AHy ?_)))));obtain ⟨ACu,Hf,Pq⟩:=AH2 Pk;refine AJy (m:=Cr) AIi rfl (Ak.o2 p2) Po A8 rfl Hf λACv Ps=>?_;obtain ⟨ACw,Pt,Pu⟩:=(Ak.o2 p2).cells Ps A8 Hf;obtain rfl:=Pt;refine AJe AIg rfl Ay (λh' hb=>AIj (Pu 0 _ rfl) hb.ext) (APo rfl rfl (AHy<|AJj rfl (AJp AUf rfl (AJe AIg rfl Ay (λh' hb=>((Ak.b p4).ext hb.ext).cell (i:=1) rfl) ?_))));obtain ⟨Pw,Px⟩:=ifN Pq;refine ALg rfl rfl Pw (AI0 rfl rfl (AHy<|AJj rfl (AJp AUf rfl (AJe AIg rfl Ay (λh' hb=>((Ak.b p4).ext hb.ext).cell (i:=1) rfl) ?_))));obtain ⟨Py,Pz,P0⟩:=AH2 Px;refine Afo Ak Ay (AK4 Pz) λACx ACy Hg ACz=>AJy (m:=Cr) AIi rfl (Ak.o2 p2) Pf A8 rfl Ct λAC0 P1=>AN2 (m:=Cr) (AMt AIg rfl rfl rfl) (Hg.o2 p2) P1 A8 Ct (show ((cI .i64)).rep _ Py _ from rfl) λAC1 P2 Hh=>AIu<|q_b<|q_t<|AIf<|AI0 rfl rfl (AHy<|AH5 ?_);have AC2:=Hh.size;exact ⟨_,(AH0 P0).symm,(Hg.uO2 p2 Hh P2),rfl,trivial⟩
        ·refine AIq<|AIr<|AIr<|AJt<|⟨_,AWk,((Oj,Pc):(LiI) × (LiI)),?_,rfl,?_⟩
         ·exact AH0<|Pd _ (AH0<|AJc Ea Eb).symm
         ·exact Ak
     obtain ⟨⟨P3,P4⟩,P5,rfl,P6⟩:=Nr;refine ⟨trivial,?_⟩;subst P5;refine AH5 ?_;exact ⟨((P3,P4):(LiI) × (LiI)),⟨AH0 Nq,P6⟩,trivial⟩
    ·refine AIa<|q_t ?_;exact ⟨((Kc,Kd):(LiI) × (LiI)),⟨AH0<|AJc G7 Dz,Bg⟩,trivial⟩
   rintro ⟨AC3,AC4⟩ AC5 AC6 ⟨P7,Cd⟩;subst P7;refine AH1<|AHy<|AHy<|AHy ?_;obtain ⟨P8,P9,Qa⟩:=AH2 Nm;refine AIz (K':=(λxr h'=> ∃ x:(LiI) × LnA × LnN × LvA × (LiI),(x.1,x.2.2.2.2)=P8/\xr= .tuple #[]/\Kst h h' ((Cd.L.set 3<|aO2 (cI .i64) 41 2 x.2.1 x.2.2.1 x.2.2.2.1 Aj x.1).set 2 (aO2 (cI .i64) 41 2 Ab A5 A6 Aq x.2.2.2.2)))) trivial rfl ?_ λAC7 Bh Qb=>?_
   ·refine cwf (l:=[_,_,_]) Tryz.func31 rfl rfl (AH3<|AH1<|AHy<|AJj rfl (ALt ALb AJ9 (Cd.b p4) 3 rfl (AJh AIk rfl (Cd.o2 p3).rd (AHy<|AH5<|AH6<|APb 4951760157141521099596492864 P9 (λx=>[(12,(.int .i64 x.1))]) (λx=>(Cd.L.set 3<|aO2 (cI .i64) 41 2 B3 B4 B5 Aj x.2.1).set 2 (aO2 (cI .i64) 41 2 Ab A5 A6 Aq x.2.2)) Cd ⟨rfl,trivial⟩ ?_))));rintro ⟨Bc,Qc,Qd⟩ AC8 AC9 ADa Ac Ec Qe;unfold AL0 at Ec;refine AH1<|AI3 rfl rfl (AH5<|AH3<|⟨_,rfl,λEd=>?_,λEd=>?_⟩)
    ·refine AIa<|q_t<|AH3<|AH6<|AH1<|AHy<|AH7<|AH3<|AMw<|AHy<|AJj rfl (ALt ALb AJ9 (Ac.b p4) 3 rfl (AHy ?_));obtain ⟨ADb,Bi,Qf⟩:=AH2<|AJb Ec Ed;refine AKe AIk AIv (Ac.o2 p3) Bi λ_ ADc Qg=>AHy<|AHy<|AJj rfl (ALt ALb AJ9 (Ac.b p4) 3 rfl (AHy<|AKe AIk AIv (Ac.o2 p3) Bi λ_ ADd Qh=>AHy<|AHy<|AJj rfl (ALt ALb AJ9 (Ac.b p4) 3 rfl (AHy<|AKe AIk AIv (Ac.o2 p3) Bi λ_ ADe Qi=>AHy ?_))));obtain ⟨ADf,Qj,Qk⟩:=AH2 Qf;refine AP4 (m:=Bc) AIi AIg (Ac.o2 p3) Qi Bi Qj λ_=>(AHy<|AJj rfl (ALt ALb AJ9 (Ac.b p4) 3 rfl (AHy<|AKe AIk AIv (Ac.o2 p3) Bi λ_ ADg Ql=>AHy ?_)));obtain ⟨ADh,Hj,Qm⟩:=AH2 Qk;refine AP4 (m:=Bc) AIi AIg (Ac.o2 p3) Ql Bi Hj λ_=>AT0 (m:=Bc) Ac p3 AIi AIg Qg Bi Hj (λ_=>rfl) λ_ ADi Qn=>?_;obtain ⟨ADj,Qo,Qp⟩:=AH2 Qm;obtain ⟨ADk,Qq,Qr⟩:=AH2 Qp;refine AT0 (m:=Bc) Qn p3 AIi AIg Qh Qo Qq (λ_=>rfl) λ_ ADl Az=>AH5<|AMw<|AHy<|AJj rfl (ALt AUg AJ9 (Az.b p4) 4 rfl (AHy ?_));obtain ⟨ADm,Bj,Qs⟩:=AH2 Qr;refine AKe AIk AIv (Az.o2 p2) Bj λ_ ADn Qt=>AHy<|AHy<|AJj rfl (ALt AUg AJ9 (Az.b p4) 4 rfl (AHy<|AKe AIk AIv (Az.o2 p2) Bj λ_ ADo Qu=>AHy<|AHy<|AJj rfl (ALt AUg AJ9 (Az.b p4) 4 rfl (AHy<|AKe AIk AIv (Az.o2 p2) Bj λ_ ADp Qv=>AHy ?_))));obtain ⟨ADq,Qw,Qx⟩:=AH2 Qs;refine AP4 (m:=Bc) AIi AIg (Az.o2 p2) Qv Bj Qw λ_=>(AHy<|AJj rfl (ALt AUg AJ9 (Az.b p4) 4 rfl (AHy<|AKe AIk AIv (Az.o2 p2) Bj λ_ ADr Qy=>AHy ?_)));obtain ⟨ADs,Hk,Qz⟩:=AH2 Qx;refine AP4 (m:=Bc) AIi AIg (Az.o2 p2) Qy Bj Hk λ_=>AT0 (m:=Bc) Az p2 AIi AIg Qt Bj Hk (λ_=>rfl) λ_ ADt Q0=>?_;obtain ⟨ADu,Q1,Q2⟩:=AH2 Qz;obtain ⟨ADv,Q3,Q4⟩:=AH2 Q2;refine AT0 (m:=Bc) Q0 p2 AIi AIg Qu Q1 Q3 (λ_=>rfl) λ_ ADw Q6=>AIu<|q_b<|q_t<|AIf<|AI0 rfl rfl (AHy<|AH5 ?_);exact ⟨_,(AH0 Q4).symm,Q6,rfl,trivial⟩
    ·refine AIq<|AIr<|AIr<|AJt<|q_t<|AMw<|AHy<|AJj rfl (ALt ALb AJ9 (Ac.b p4) 3 rfl (AHy<|AHy<|AJj rfl (ALt ALb AJ9 (Ac.b p4) 3 rfl (AHy<|AHy<|AJj rfl (ALt ALb AJ9 (Ac.b p4) 3 rfl (AHy ?_))))));obtain ⟨Q7,Hl,Q8⟩:=AH2<|Qe _ (AH0<|AJc Ec Ed).symm;refine AKe AIk AIv (Ac.o2 p3) Hl λ_ ADx Q9=>AHy<|AJj rfl (ALt ALb AJ9 (Ac.b p4) 3 rfl (AHy ?_));obtain ⟨Rc,Hm,Rd⟩:=AH2 Q8;refine AKe AIk AIv (Ac.o2 p3) Hm λ_ ADy Re=>AX2 AIk AIv (Ac.o2 p3) Re Q9 Hm Hl rfl rfl (λ_=>rfl) (λ_=>rfl) (λ_=>rfl) (λ_ _=>rfl) λADz AD0 Rf Rg Rh AD1 Ri Rj Rm=>AIu<|⟨_,AWk,(((sI (sI Qc Bf Q7) Cb Rc),Rf,Rg,Rh,Qd):(LiI) × LnA × LnN × LvA × (LiI)),?_,rfl,?_⟩
     ·exact AH0 Rd
     ·exact (Ac.uo2 p3 Rj Ri Rm)
   obtain ⟨⟨Rn,Am,Ce,Cf,Ro⟩,Rq,rfl,A3⟩:=Qb;refine ⟨trivial,?_⟩;subst Rq;refine AH5<|AH3<|AKg (λh'=>UpT (Gb ++ (Am ++ (Ab ++ []))) Bh h') AIb ?_;have Ee:UpT (Gb ++ (Am ++ (Ab ++ []))) Bh Bh:=UpT.start<|AKm (A3.o p0).notD<|AKm (A3.o2 p3).notD<|AKm (A3.o2 p2).notD all_nil;refine AJp AT4 rfl (AJe AZ1 rfl Ee (λh' hb=>((A3.b p1).upT hb (Aj2 (A3.dj p1 p0 AHz)<|Aj2 (A3.dj p1 p3 AHz)<|Aj2 (A3.dj p1 p2 AHz) Aq8)).cell (i:=2) rfl) (AHy<|AHy ?_));obtain ⟨Rr,Rs,Rt⟩:=AH2 Qa;have Ru:UpT (Am ++ (Ab ++ [])) Bh Bh:=UpT.start<|AKm (A3.o2 p3).notD<|AKm (A3.o2 p2).notD all_nil;refine AIz (K':=(λxr h'=> ∃ x:(Int) × (Int) × (Int) × (Int) × (Int) × (LiI) × (LiI),(x.1,x.2.1,x.2.2.1,x.2.2.2.1,x.2.2.2.2.1,x.2.2.2.2.2.1,x.2.2.2.2.2.2)=Rr/\xr=(.agg #[(.int .i64 x.1),(.int .i64 x.2.1),(.int .i64 x.2.2.1),(.int .i64 x.2.2.2.1),(.int .i64 x.2.2.2.2.1)])/\Kst h h' ((A3.L.set 3<|aO2 (cI .i64) 41 2 Am Ce Cf Aj x.2.2.2.2.2.1).set 2 (aO2 (cI .i64) 41 2 Ab A5 A6 Aq x.2.2.2.2.2.2))/\UpT (Am ++ (Ab ++ [])) Bh h')) Ee rfl ?_ λAD2 AD3 Rv=>?_
   ·refine cwf (l:=[_,_]) Tryz.func34 rfl rfl (AH1<|Agl [(.int .i64 0),(.int .i64 0),(.int .i64 0),(.int .i64 0),(.int .i64 0)] AYx rfl trivial tt2 λAD4 Ef Rw Eg Hn=>AQs<|AHy<|AHy<|AJj rfl (AJp ALb rfl ?_));have AD5:=Eg.1;have A9:=A3.nb Eg Hn Rw;refine AI1 AJ9 rfl ((A9.b p5).cell (i:=3) rfl) (AHy ?_);have Rx:=Hn.loAll 0 rfl;obtain ⟨AD6,Br,Ry⟩:=AH2 Rs;refine AJr AIk rfl (A9.o2 p4) rfl Br λAD7 AD8 AD9 Rz R3=>AI1 AIv rfl R3 (AHy ?_);obtain ⟨AEa,Cu,R4⟩:=AH2 Ry;refine AJy (m:=Bf) AIi rfl (A9.o2 p4) Rz Br rfl Cu λAEb R5=>?_;obtain ⟨AEc,R6,R7⟩:=(A9.o2 p4).cells R5 Br Cu;obtain rfl:=R6;refine AI1 AIg rfl (R7 0 _ rfl) ?_;obtain ⟨R8,Ho,R9⟩:=AH2 R4;have Hq:UpT [] Ef Ef:=UpT.start all_nil;refine AIz (K':=(λxr h'=> ∃ x:(Int),x=R8/\xr=(.int .i64 x)/\Kst h h' (A9.L)/\UpT [] Ef h')) trivial rfl ?_ λAEd AEe Sa=>?_
    ·refine cwf (l:=[_,_]) Tryz.func74 rfl rfl (AH1<|AH7<|AH3<|AH1<|AHy<|AKd rfl rfl (AH5<|⟨_,rfl,λEh=>?_,λEh=>?_⟩))
     ·refine AH1<|AHy<|AJj rfl (AJp Ag5 rfl (AI1 AJq rfl ((A9.b p5).cell (i:=2) rfl) (AH7<|AIc<|AIt<|⟨_,AId,(A4:(Int)),?_,rfl,?_,?_⟩)))
      ·exact AH0<|AJb Ho Eh
      ·exact A9
      ·exact Hq
     ·refine AIa<|q_t<|AH1<|AHy<|AHy<|AJj rfl (AJp Afa rfl (AI1 AIg rfl ((A9.b p5).cell (i:=0) rfl) ?_));obtain ⟨Sb,Sc,Sd⟩:=AH2<|AJc Ho Eh;refine ASt rfl (ALr Sc) λAEf AEg Ei Se=>?_;subst Se;refine AH7<|AIc ?_;have AEh:=Ei.1;refine ⟨_,AId,(Sb:(Int)),?_,rfl,?_,?_⟩
      ·exact AH0 Sd
      ·exact (A9.e Ei)
      ·exact (Hq.thenE Ei)
    obtain ⟨Ej,Sf,rfl,Hr,Hs⟩:=Sa;have AEi:=Hs.size;refine ⟨trivial,?_⟩;subst Sf;refine AJd<|AHy<|AJj rfl (AJp Afa rfl (AI1 AIg rfl ((Hr.b p5).cell (i:=0) rfl) (AHy ?_)));obtain ⟨Ek,Sg,Sh⟩:=AH2 R9;refine ASt rfl (AWb Sg) λAEj AEk El Si=>?_;subst Si;refine AH7<|AH3<|AMw<|AHy<|AJj rfl (AJp ALb rfl ?_);have AEl:=El.1;have Bt:=Hr.e El;refine AI1 AJ9 rfl ((Bt.b p5).cell (i:=3) rfl) (AHy<|AJr AIk rfl (Bt.o2 p4) rfl Br λAEm AEn AEo Sj Sk=>AI1 AIv rfl Sk (AHy<|AJy (m:=Bf) AIi rfl (Bt.o2 p4) Sj Br rfl Cu λAEp Sm=>?_));obtain ⟨AEq,Sn,So⟩:=(Bt.o2 p4).cells Sm Br Cu;obtain rfl:=Sn;refine AI1 AIg rfl (So 0 _ rfl) (AHy ?_);obtain ⟨Sq,Sr⟩:=ifN Sh;refine AWz rfl rfl Sq (AHy<|AJj rfl (AJp AUf rfl (AI1 AIg rfl ((Bt.b p5).cell (i:=1) rfl) (AHy ?_))));obtain ⟨Ss,St⟩:=ifN Sr;refine AWz rfl rfl Ss ?_;obtain ⟨⟨AEr,AEs⟩,Su,Ht⟩:=AH2 St;dsimp only at Ht;refine ASt rfl (AYq Su) λAEt AEu Em Sv=>?_;subst Sv;refine AHy<|AJs rfl rfl (AJs rfl rfl (AIw<|AH7<|AH3<|AH1<|AHy<|AI0 rfl rfl (AH7<|AH6 ?_)));have AEv:=Em.1;have Hu:=Bt.e Em;obtain ⟨Hv,Sw,Sx⟩:=AH2 Ht;obtain ⟨Sy,Sz,S5⟩:=AZz Sw;refine AMc 154742504906168934735020544 (λx:(Int) × (LiI) × (LiI)=>[(9,(.int .i64 x.1))]) (λk x h'=>iter Sy k (x.1,x.2.1,x.2.2)=some Hv/\Kst h h' ((Hu.L.set 4<|aO2 (cI .i64) 41 2 Am Ce Cf Aj x.2.1).set 3 (aO2 (cI .i64) 41 2 Ab A5 A6 Aq x.2.2))/\UpT (Am ++ (Ab ++ [])) Bh h') AIb fuel (((w64<|Bf + 1),Rn,Ro):(Int) × (LiI) × (LiI)) ?_ ⟨rfl,trivial⟩ ?_
    ·exact ⟨S5,Hu,((((Ru.thenE Eg).then Hs all_nil).thenE El).thenE Em)⟩
    rintro AEw ⟨Bl,Hw,Hx⟩ AEx Bu ⟨S7,Aa,En⟩;have AEy:=En.size;obtain ⟨Ta,AEz,rfl,Cg,Eo⟩:=AWm S7;rw [Sz] at Cg;dsimp only at Cg;unfold ANl at Cg;refine AH3<|AH1<|AHy<|AHy<|AJj rfl (AJp ALb rfl (AI1 AJ9 rfl ((Aa.b p5).cell (i:=3) rfl) (AJh AIk rfl (Aa.o2 p4).rd (AI3 rfl rfl (AH5<|⟨_,rfl,λEp=>?_,λEp=>?_⟩)))))
    ·refine AIa<|q_t<|AH3<|AH6<|AMw<|AHy<|AHy<|AJj rfl (AJp ALb rfl (AI1 AJ9 rfl ((Aa.b p5).cell (i:=3) rfl) (AHy ?_)));obtain ⟨AE0,Er,Tb⟩:=AH2<|AJb Cg Ep;refine AJr AIk rfl (Aa.o2 p4) rfl Er λAE1 AE2 AE3 Tc Td=>AI1 AIv rfl Td (AHy ?_);obtain ⟨AE4,Hy,Te⟩:=AH2 Tb;refine AJy (m:=Bf) AIi rfl (Aa.o2 p4) Tc Er rfl Hy λAE5 Tf=>?_;obtain ⟨AE6,Tg,Th⟩:=(Aa.o2 p4).cells Tf Er Hy;obtain rfl:=Tg;refine AI1 AIg rfl (Th 0 _ rfl) (AHy ?_);obtain ⟨Ti,Tj⟩:=ifN Te;refine AWz rfl rfl Ti (AHy<|APo rfl rfl (AHy<|AJj rfl (AJp AUf rfl (AI1 AIg rfl ((Aa.b p5).cell (i:=1) rfl) (AHy ?_)))));obtain ⟨Tk,Tl⟩:=ifN Tj;refine AWz rfl rfl Tk ?_;obtain ⟨Tm,Tn⟩:=ifN Tl;refine ALg rfl rfl Tm (Adj rfl (AHy<|AHy ?_));obtain ⟨To,Tp,Tq⟩:=AH2 Tn;have Tr:UpT (Am ++ (Ab ++ [])) Bu Bu:=UpT.start<|AKm (Aa.o2 p4).notD<|AKm (Aa.o2 p3).notD all_nil;refine AIz (K':=(λxr h'=> ∃ x:(LiI) × (LiI),(x.1,x.2)=To/\xr= .tuple #[]/\Kst h h' ((Aa.L.set 4<|aO2 (cI .i64) 41 2 Am Ce Cf Aj x.1).set 3 (aO2 (cI .i64) 41 2 Ab A5 A6 Aq x.2))/\UpT (Am ++ (Ab ++ [])) Bu h')) trivial rfl ?_ λAE7 AE8 Ts=>?_
     ·refine cwf (l:=[_,_,_,_]) Tryz.func33 rfl rfl (AH3<|AH1<|AHy<|AJj rfl (AJp ALb rfl (AI1 AJ9 rfl ((Aa.b p5).cell (i:=3) rfl) (AJh AIk rfl (Aa.o2 p4).rd (AHy<|AH5<|AH6 ?_)))));obtain ⟨Hz,Tt,Tu⟩:=AH2 Tp;obtain ⟨Tv,Tw,Tx⟩:=AZz Tt;refine AMc 4611686018427322624 (λx:(Int) × (LiI)=>[(16,(.int .i64 x.1))]) (λk x h'=>iter Tv k (x.1,x.2)=some Hz/\Kst h h' (Aa.L.set 4<|aO2 (cI .i64) 41 2 Am Ce Cf Aj x.2)/\UpT (Am ++ (Ab ++ [])) Bu h') AIb fuel ((0,Hw):(Int) × (LiI)) ?_ ⟨rfl,trivial⟩ ?_
      ·exact ⟨Tx,Aa,Tr⟩
      rintro AE9 ⟨Bv,Ia⟩ AFa Es ⟨Ty,Ag,Et⟩;have AFb:=Et.size;obtain ⟨Tz,AFc,rfl,Ch,Eu⟩:=AWm Ty;rw [Tw] at Ch;dsimp only at Ch;unfold AL3 at Ch;refine AH1<|AI3 rfl rfl (AH5<|AH3<|⟨_,rfl,λEv=>?_,λEv=>?_⟩)
      ·refine AIa<|q_t<|AH3<|AH6<|AH1<|AHy<|AH7<|AKg (λh'=>UpT [] Es h') AIb ?_;have Ar:UpT [] Es Es:=UpT.start all_nil;refine AHy<|AJj rfl (AJp ALb rfl (AJe AJ9 rfl Ar (λh' hb=>((Ag.b p5).ext hb.ext).cell (i:=3) rfl) (AHy ?_)));obtain ⟨T0,Ba,T3⟩:=AH2<|AJb Ch Ev;refine AJr AIk rfl (Ag.o2 p4) rfl Ba λAFd AFe AFf T4 T5=>AJe AIv rfl Ar (λh' hb=>AIj T5 hb.ext) (AHy<|AHy<|AJj rfl (AJp ALb rfl (AJe AJ9 rfl Ar (λh' hb=>((Ag.b p5).ext hb.ext).cell (i:=3) rfl) (AHy<|AJr AIk rfl (Ag.o2 p4) rfl Ba λAFg AFh AFi T6 T7=>AJe AIv rfl Ar (λh' hb=>AIj T7 hb.ext) (AHy ?_)))));obtain ⟨AFj,Cv,T8⟩:=AH2 T3;refine AJy (m:=Bv) AIi rfl (Ag.o2 p4) T6 Ba rfl Cv λAFk T9=>?_;obtain ⟨AFl,Ua,Ub⟩:=(Ag.o2 p4).cells T9 Ba Cv;obtain rfl:=Ua;refine AJe AIg rfl Ar (λh' hb=>AIj (Ub 0 _ rfl) hb.ext) (AHy<|AHy<|AJj rfl (AJp ALb rfl (AJe AJ9 rfl Ar (λh' hb=>((Ag.b p5).ext hb.ext).cell (i:=3) rfl) (AHy<|AJr AIk rfl (Ag.o2 p4) rfl Ba λAFm AFn AFo Uc Ud=>AJe AIv rfl Ar (λh' hb=>AIj Ud hb.ext) (AHy ?_)))));obtain ⟨AFp,Ib,Ue⟩:=AH2 T8;refine AJy (m:=Bv) AIi rfl (Ag.o2 p4) Uc Ba rfl Ib λAFq Uf=>?_;obtain ⟨AFr,Ug,Uh⟩:=(Ag.o2 p4).cells Uf Ba Ib;obtain rfl:=Ug;refine AJe AIg rfl Ar (λh' hb=>AIj (Uh 0 _ rfl) hb.ext) (APo rfl rfl (AHy<|AJj rfl (AJp AUf rfl (AJe AIg rfl Ar (λh' hb=>((Ag.b p5).ext hb.ext).cell (i:=1) rfl) ?_))));obtain ⟨Ui,Uj⟩:=ifN Ue;refine ALg rfl rfl Ui (AI0 rfl rfl (AHy<|AJj rfl (AJp AUf rfl (AJe AIg rfl Ar (λh' hb=>((Ag.b p5).ext hb.ext).cell (i:=1) rfl) ?_))));obtain ⟨Ic,Uk,Ul⟩:=AH2 Uj;refine ALp Ar (λ_ E=>Ar.thenE E) rfl (AK4 Uk) λAFs AFt Ew Um=>?_;subst Um;refine AJy (m:=Bv) AIi rfl (Ag.o2 p4) T4 Ba rfl Cv λAFu Un=>?_;have AFv:=Ew.1;have Id:=Ag.e Ew;refine AN2 (m:=Bv) (AMt AIg rfl rfl rfl) (Id.o2 p4) Un Ba Cv (show ((cI .i64)).rep _ Ic _ from rfl) λAFw Uo Ey=>AIu<|q_b<|q_t<|AIf<|AI0 rfl rfl (AHy<|AH5 ?_);have AFx:=Ey.size;obtain rfl:=AH0 Ul;exact ⟨Tz,(((w64<|Bv + 1),(sI Ia Bv<|sI T0 Bl Ic)):(Int) × (LiI)),Nat.lt_succ_self _,⟨Eu,(Id.uO2 p4 Ey Uo),((Et.thenE Ew).then Ey<|ARx rfl)⟩,rfl,trivial⟩
      ·obtain rfl:=AH0<|AJc Ch Ev;change _=Hz at Eu;subst Eu;refine AIq<|AIr<|AIr<|AJt<|q_t<|AH3<|AH1<|AHy<|AJj rfl (AJp ALb rfl (AI1 AJ9 rfl ((Ag.b p5).cell (i:=3) rfl) (AJh AIk rfl (Ag.o2 p4).rd (AHy<|AH5<|AH6 ?_))));obtain ⟨Ie,Up,Uq⟩:=AH2 Tu;obtain ⟨Ur,Us,Ut⟩:=AZz Up;refine AMc 10384593717069507683108402982027776 (λx:(Int) × (LiI)=>[(67,(.int .i64 x.1))]) (λk x h'=>iter Ur k (x.1,x.2)=some Ie/\Kst h h' (Ag.L.set 4<|aO2 (cI .i64) 41 2 Am Ce Cf Aj x.2)/\UpT (Am ++ (Ab ++ [])) Bu h') AIb fuel ((0,Ia):(Int) × (LiI)) ?_ ⟨rfl,trivial⟩ ?_
       ·exact ⟨Ut,Ag,Et⟩
       rintro AFy ⟨If,Ih⟩ AFz Ez ⟨Uu,Ah,Fa⟩;have AF0:=Fa.size;obtain ⟨Uv,AF1,rfl,Ci,Fb⟩:=AWm Uu;rw [Us] at Ci;dsimp only at Ci;unfold AL2 at Ci;refine AH1<|AI3 rfl rfl (AH5<|AH3<|⟨_,rfl,λFc=>?_,λFc=>?_⟩)
       ·refine AIa<|q_t<|AH3<|AH6<|AH1<|AHy<|AH7<|AKg (λh'=>UpT [] Ez h') AIb ?_;have Au:UpT [] Ez Ez:=UpT.start all_nil;refine AHy<|AJj rfl (AJp ALb rfl (AJe AJ9 rfl Au (λh' hb=>((Ah.b p5).ext hb.ext).cell (i:=3) rfl) (AHy ?_)));obtain ⟨Uw,Bw,Ux⟩:=AH2<|AJb Ci Fc;refine AJr AIk rfl (Ah.o2 p4) rfl Bw λAF2 AF3 AF4 Uy Uz=>AJe AIv rfl Au (λh' hb=>AIj Uz hb.ext) (AHy<|AHy<|AJj rfl (AJp ALb rfl (AJe AJ9 rfl Au (λh' hb=>((Ah.b p5).ext hb.ext).cell (i:=3) rfl) (AHy<|AJr AIk rfl (Ah.o2 p4) rfl Bw λAF5 AF6 AF7 U0 U3=>AJe AIv rfl Au (λh' hb=>AIj U3 hb.ext) (AHy ?_)))));obtain ⟨AF8,Cw,U8⟩:=AH2 Ux;refine AJy (m:=Bl) AIi rfl (Ah.o2 p4) U0 Bw rfl Cw λAF9 Va=>?_;obtain ⟨AGa,Vb,Vc⟩:=(Ah.o2 p4).cells Va Bw Cw;obtain rfl:=Vb;refine AJe AIg rfl Au (λh' hb=>AIj (Vc 0 _ rfl) hb.ext) (AHy<|AHy<|AJj rfl (AJp ALb rfl (AJe AJ9 rfl Au (λh' hb=>((Ah.b p5).ext hb.ext).cell (i:=3) rfl) (AHy ?_))));obtain ⟨AGb,Fd,Vd⟩:=AH2 U8;refine AJr AIk rfl (Ah.o2 p4) rfl Fd λAGc AGd AGe Ve Vf=>AJe AIv rfl Au (λh' hb=>AIj Vf hb.ext) (AHy ?_);obtain ⟨AGf,Ii,Vg⟩:=AH2 Vd;refine AJy (m:=Bf) AIi rfl (Ah.o2 p4) Ve Fd rfl Ii λAGg Vh=>?_;obtain ⟨AGh,Vi,Vj⟩:=(Ah.o2 p4).cells Vh Fd Ii;obtain rfl:=Vi;refine AJe AIg rfl Au (λh' hb=>AIj (Vj 0 _ rfl) hb.ext) (APo rfl rfl (AHy<|AJj rfl (AJp AUf rfl (AJe AIg rfl Au (λh' hb=>((Ah.b p5).ext hb.ext).cell (i:=1) rfl) ?_))));obtain ⟨Vk,Vl⟩:=ifN Vg;refine ALg rfl rfl Vk (AI0 rfl rfl (AHy<|AJj rfl (AJp AUf rfl (AJe AIg rfl Au (λh' hb=>((Ah.b p5).ext hb.ext).cell (i:=1) rfl) ?_))));obtain ⟨Ij,Vm,Vn⟩:=AH2 Vl;refine ALp Au (λ_ E=>Au.thenE E) rfl (AK4 Vm) λAGi AGj Fe Vo=>?_;subst Vo;refine AJy (m:=Bl) AIi rfl (Ah.o2 p4) Uy Bw rfl Cw λAGk Vp=>?_;have AGl:=Fe.1;have Ik:=Ah.e Fe;refine AN2 (m:=Bl) (AMt AIg rfl rfl rfl) (Ik.o2 p4) Vp Bw Cw (show ((cI .i64)).rep _ Ij _ from rfl) λAGm Vs Ff=>AIu<|q_b<|q_t<|AIf<|AI0 rfl rfl (AHy<|AH5 ?_);have AGn:=Ff.size;obtain rfl:=AH0 Vn;exact ⟨Uv,(((w64<|If + 1),(sI Ih Bl<|sI Uw If Ij)):(Int) × (LiI)),Nat.lt_succ_self _,⟨Fb,(Ik.uO2 p4 Ff Vs),((Fa.thenE Fe).then Ff<|ARx rfl)⟩,rfl,trivial⟩
       ·obtain rfl:=AH0<|AJc Ci Fc;change _=Ie at Fb;subst Fb;refine AIq<|AIr<|AIr<|AJt<|q_t<|AH1<|AHy<|AJj rfl (AJp AUg rfl (AI1 AJ9 rfl ((Ah.b p5).cell (i:=4) rfl) (AJh AIk rfl (Ah.o2 p3).rd (AHy<|AH5<|AH6 ?_))));obtain ⟨Il,Vt,Vu⟩:=AH2 Uq;obtain ⟨Vv,Vw,Vx⟩:=AZz Vt;refine AMc 23384026197294114384260011094492302362729850602496 (λx:(Int) × (LiI)=>[(118,(.int .i64 x.1))]) (λk x h'=>iter Vv k (x.1,x.2)=some Il/\Kst h h' (Ah.L.set 3<|aO2 (cI .i64) 41 2 Ab A5 A6 Aq x.2)/\UpT (Am ++ (Ab ++ [])) Bu h') AIb fuel ((0,Hx):(Int) × (LiI)) ?_ ⟨rfl,trivial⟩ ?_
        ·exact ⟨Vx,Ah,Fa⟩
        rintro AGo ⟨Bx,Im⟩ AGp Fg ⟨Vy,Ao,Fh⟩;have AGq:=Fh.size;obtain ⟨Vz,AGr,rfl,Cj,Fi⟩:=AWm Vy;rw [Vw] at Cj;dsimp only at Cj;unfold AL1 at Cj;refine AH1<|AI3 rfl rfl (AH5<|AH3<|⟨_,rfl,λFj=>?_,λFj=>?_⟩)
        ·refine AIa<|q_t<|AH3<|AH6<|AH1<|AHy<|AH7<|AKg (λh'=>UpT [] Fg h') AIb ?_;have Av:UpT [] Fg Fg:=UpT.start all_nil;refine AHy<|AJj rfl (AJp AUg rfl (AJe AJ9 rfl Av (λh' hb=>((Ao.b p5).ext hb.ext).cell (i:=4) rfl) (AHy ?_)));obtain ⟨V1,Bb,V4⟩:=AH2<|AJb Cj Fj;refine AJr AIk rfl (Ao.o2 p3) rfl Bb λAGs AGt AGu V6 V8=>AJe AIv rfl Av (λh' hb=>AIj V8 hb.ext) (AHy<|AHy<|AJj rfl (AJp AUg rfl (AJe AJ9 rfl Av (λh' hb=>((Ao.b p5).ext hb.ext).cell (i:=4) rfl) (AHy<|AJr AIk rfl (Ao.o2 p3) rfl Bb λAGv AGw AGx Wa Wb=>AJe AIv rfl Av (λh' hb=>AIj Wb hb.ext) (AHy ?_)))));obtain ⟨AGy,Cx,Wc⟩:=AH2 V4;refine AJy (m:=Bx) AIi rfl (Ao.o2 p3) Wa Bb rfl Cx λAGz Wd=>?_;obtain ⟨AG0,We,Wf⟩:=(Ao.o2 p3).cells Wd Bb Cx;obtain rfl:=We;refine AJe AIg rfl Av (λh' hb=>AIj (Wf 0 _ rfl) hb.ext) (AHy<|AHy<|AJj rfl (AJp AUg rfl (AJe AJ9 rfl Av (λh' hb=>((Ao.b p5).ext hb.ext).cell (i:=4) rfl) (AHy<|AJr AIk rfl (Ao.o2 p3) rfl Bb λAG1 AG2 AG3 Wg Wh=>AJe AIv rfl Av (λh' hb=>AIj Wh hb.ext) (AHy ?_)))));obtain ⟨AG4,Io,Wi⟩:=AH2 Wc;refine AJy (m:=Bx) AIi rfl (Ao.o2 p3) Wg Bb rfl Io λAG5 Wj=>?_;obtain ⟨AG6,Wk,Wl⟩:=(Ao.o2 p3).cells Wj Bb Io;obtain rfl:=Wk;refine AJe AIg rfl Av (λh' hb=>AIj (Wl 0 _ rfl) hb.ext) (APo rfl rfl (AHy<|AJj rfl (AJp AUf rfl (AJe AIg rfl Av (λh' hb=>((Ao.b p5).ext hb.ext).cell (i:=1) rfl) ?_))));obtain ⟨Wm,Wn⟩:=ifN Wi;refine ALg rfl rfl Wm (AI0 rfl rfl (AHy<|AJj rfl (AJp AUf rfl (AJe AIg rfl Av (λh' hb=>((Ao.b p5).ext hb.ext).cell (i:=1) rfl) ?_))));obtain ⟨Ip,Wo,Wp⟩:=AH2 Wn;refine ALp Av (λ_ E=>Av.thenE E) rfl (AK4 Wo) λAG7 AG8 Fk Wq=>?_;subst Wq;refine AJy (m:=Bx) AIi rfl (Ao.o2 p3) V6 Bb rfl Cx λAG9 Wr=>?_;have AHa:=Fk.1;have Iq:=Ao.e Fk;refine AN2 (m:=Bx) (AMt AIg rfl rfl rfl) (Iq.o2 p3) Wr Bb Cx (show ((cI .i64)).rep _ Ip _ from rfl) λAHb Ws Fl=>AIu<|q_b<|q_t<|AIf<|AI0 rfl rfl (AHy<|AH5 ?_);have AHc:=Fl.size;obtain rfl:=AH0 Wp;exact ⟨Vz,(((w64<|Bx + 1),(sI Im Bx<|sI V1 Bl Ip)):(Int) × (LiI)),Nat.lt_succ_self _,⟨Fi,(Iq.uO2 p3 Fl Ws),((Fh.thenE Fk).then Fl<|Aov<|ARx rfl)⟩,rfl,trivial⟩
        ·obtain rfl:=AH0<|AJc Cj Fj;change _=Il at Fi;subst Fi;refine AIq<|AIr<|AIr<|AJt<|⟨_,AWk,((Ih,Im):(LiI) × (LiI)),?_,rfl,?_,?_⟩
         ·exact AH0 Vu
         ·exact Ao
         ·exact Fh
     obtain ⟨⟨Wt,Wu⟩,Wv,rfl,Ww,Ir⟩:=Ts;have AHd:=Ir.size;refine ⟨trivial,?_⟩;subst Wv;refine AIu<|q_b<|q_t<|AIf<|AHy<|AI0 rfl rfl (AH7 ?_);obtain rfl:=AH0 Tq;exact ⟨Ta,(((w64<|Bl + 1),Wt,Wu):(Int) × (LiI) × (LiI)),Nat.lt_succ_self _,⟨Eo,Ww,(En.then Ir<|AKm (ARx rfl)<|AKm (Aov<|ARx rfl) all_nil)⟩,rfl,trivial⟩
    ·obtain rfl:=AH0<|AJc Cg Ep;change _=Hv at Eo;subst Eo;refine AIq<|AIr<|AIr<|AJt<|q_t<|AH1<|AHy<|AHy<|AJj rfl (AJp ALb rfl (AI1 AJ9 rfl ((Aa.b p5).cell (i:=3) rfl) (AHy ?_)));obtain ⟨AHe,Fm,Wx⟩:=AH2 Sx;refine AJr AIk rfl (Aa.o2 p4) rfl Fm λAHf AHg AHh Wy Wz=>AI1 AIv rfl Wz (AHy ?_);obtain ⟨Fo,Is,W0⟩:=AH2 Wx;refine AJy (m:=Bf) AIi rfl (Aa.o2 p4) Wy Fm rfl Is λAHi W1=>?_;obtain ⟨AHj,W3,W4⟩:=(Aa.o2 p4).cells W1 Fm Is;obtain rfl:=W3;refine AI1 AIg rfl (W4 0 _ rfl) (AHy ?_);obtain ⟨W5,W6⟩:=ifN W0;refine AWz rfl rfl W5 (ALe (v:=(.agg #[(.int .i64 Ej),(.int .i64 1),(.int .i64<|w64<|Int.tdiv Fo Ek),(.int .i64 0),(.int .i64 0)])) (λ_=>by kernel_rfl)<|AKo [(.int .i64 Ej),(.int .i64 1),(.int .i64<|w64<|Int.tdiv Fo Ek),(.int .i64 0),(.int .i64 0)] ATa rfl rfl rfl rfl (by simp [isOne]) (Aa.b p0) λAHk It Fp=>AH5<|AIc ?_);have AHl:=Fp.1;have Iu:=Aa.sb p0 Fp It rfl;refine ⟨_,AKs ATa rfl rfl (Iu.b p0),((Ej,1,(w64<|Int.tdiv Fo Ek),0,0,Hw,Hx):(Int) × (Int) × (Int) × (Int) × (Int) × (LiI) × (LiI)),?_,rfl,?_,?_⟩
     ·exact AH0 W6
     ·exact Iu.sel [1,2,3,4,5,6] AHz
     ·exact (En.then (It.stA Fp (AOp (Aa.b p0) rfl) rfl)<|Axh Rx AHx)
   obtain ⟨⟨Iv,Iw,Ix,Iy,Iz,AHm,AHn⟩,W7,rfl,I0,I1⟩:=Rv;have AHo:=I1.size;have Fq:=Ee.then I1<|AKm (Aov<|ARx rfl)<|AKm (Aov<|Aov<|ARx rfl) all_nil;refine ⟨Fq,?_⟩;subst W7;obtain ⟨W8,Xa⟩:=ifN Rt;refine ASg AXv AYx rfl rfl Fq (λ_ U=>Fq.then U<|ARx rfl) (λ_=>rfl) rfl (show (AV9).rep _ (Iv,Iw,Ix,Iy,Iz) [(.int .i64 Iv),(.int .i64 Iw),(.int .i64 Ix),(.int .i64 Iy),(.int .i64 Iz)] from rfl) (I0.o p0) AHz W8 λAHp AHq Xb AHr Xc I2 Xd=>AJp AT4 rfl ?_;have AHs:=I2.size;have Ft:=I0.uo p0 I2 Xc Xd;refine AVa [(.int .i64 a5),(.slice none 0 0),Xb] AZ1 rfl rfl (Ft.o p0).isOne (Ft.b p1) (Nat.le_of_ble_eq_true rfl) rfl λAHt Xe I3=>AH5<|AIf<|AHy<|AI0 rfl rfl (AIw<|AIu<|q_b<|q_t ?_);have AHu:=I3.1;exact ⟨(_,_,_,_,_,_,_,_,_),(AH0 Xa).symm,(Ft.sb p1 I3 Xe rfl),rfl,trivial⟩
  ·refine AIq<|AIr<|AIr<|AJt<|q_t<|AH1<|AHy<|AJj rfl (ALt AUg AJ9 (Be.b p4) 4 rfl (AJp Acq rfl (AVa [(.int .i64 a5),Aq,C5] AJ9 rfl rfl (Be.o2 p2).isOne (Be.b p1) (Nat.le_of_ble_eq_true rfl) rfl λAHv Xf Xg=>AQs ?_)));have Ck:=Be.sb p1 Xg Xf rfl;refine ATy [(.int .i64 a5),Aq,C5] AS9 rfl rfl (Ck.b p1).agg (AKo [(.int .i64 a5),Aq,C5] AS9 rfl rfl rfl rfl (AOh rfl (AOh (Ck.o2 p2).isOne<|AOh (Ck.o p0).isOne Aa2)) (Ck.b p5) λAHw Xh Xi=>AH5<|AIc ?_);have Cm:=Ck.sb p5 Xi Xh rfl;obtain rfl:=AH0<|Ke _ (AH0<|AJc C6 C7).symm;exact ⟨_,AKs AS9 rfl rfl (Cm.b p5),Cm.x,_,_,_,_,_,_,rfl,(Cm.o2 p2),(Cm.o p0),Cm.s.sel [2,0] AHz⟩
structure Eli (n K:Nat) (p:Int) (H T G:AIe):Prop where
 c:Car n K p H T G
 d:Eqm (p ^ K) (det n T * det n T) 1
theorem Acd {n:Nat} {m:Int} {A' B B':AIe} (hA:∀ k,k < n->Eqm m (A i k) (A' i k)) (hB:∀ k,k < n->Eqm m (B k j) (B' k j)):Eqm m (AJv n A B i j) (AJv n A' B' i j):=Eqm.psum λk hk=>(hA k hk).mul (hB k hk)
theorem Eli.step {n:Nat} {E T':AIe} (S:Eli n K p H T G) (hE:det n E * det n E=1) (hT:∀ i j,i < n->j < n->Eqm (p ^ K) (T' i j) (AJv n T E i j)) (hG:∀ i j,i < n->j < n->Eqm (p ^ K) (G' i j) (AJv n (trF E) (AJv n G E) i j)):Eli n K p H T' G':=by
 refine ⟨λi j hi hj=>?_,?_⟩
 ·have h1:Eqm (p ^ K) (AJv n (trF T') (AJv n H T') i j) (AJv n (trF<|AJv n T E) (AJv n H<|AJv n T E) i j):=Acd (λk hk=>hT k i hk hi) λk hk=>Acd (λl hl=>Eqm.refl _ _) λl hl=>hT l j hl hj;refine h1.trans<|Eqm.trans (Eqm.of_eq ?_)<|(Acd (λk hk=>Eqm.refl _ _) λk hk=>Acd (λl hl=>S.c k l hk hl) λl hl=>Eqm.refl _ _).trans (hG i j hi hj).symm;rw [AO0 (λk hk=>Ac9 i k) λk hk=>rfl,AMs];refine AO0 (λ_ _=>rfl) λk hk=>?_;rw [AMs];refine AO0 (λ_ _=>rfl) λl hl=>?_;rw [AMs]
 ·have h1:Eqm (p ^ K) (det n T') (det n T * det n E):=by rw [<- ARo];exact Agx hT
  refine (h1.mul h1).trans (Eqm.trans (Eqm.of_eq ?_) S.d);grind
theorem Azv {n:Nat} (hG:∀ i j,i < n->j < n->Eqm (p ^ K) (G i j) (H i j)):Eli n K p H dl G:=by
 refine ⟨λi j hi hj=>?_,by rw [Ac5];exact Eqm.refl _ _⟩
 ·refine Eqm.trans (Eqm.of_eq ?_) (hG i j hi hj).symm;exact (Ajj (n:=n) (A:=H) i j hi hj).symm
def Ar5 (j k:Nat) (c:Int):AIe:=AKi dl k λx=>dl k x + c * dl j x
theorem Azw (j k:Nat) (c:Int) (a b:Nat):Ar5 j k c a b=dl a b + (if a=k then c * dl j b else 0):=by
 unfold Ar5;rw [AJa];grind
theorem Azx {n:Nat} {c:Int} (hj:j < n) (hk:k < n) (hne:k≠j):det n (Ar5 j k c) * det n (Ar5 j k c)=1:=by
 unfold Ar5;rw [AVf hk hj hne,Ac5];rfl
theorem Ag6 {n:Nat} {c:Int} {b:Nat} (hk:k < n) (hb:b < n):AJv n T (Ar5 j k c) a b=T a b + (if b=j then c * T a k else 0):=by
 unfold AJv
 rw [AIl (g:=λl=>T a l * dl l b + (if l=k then T a k * (c * dl j b) else 0)) λl _=>by
  rw [Azw];grind,ATk,Arp hb,ASc hk λl _ hne=>if_neg hne,if_pos rfl]
 unfold dl;grind
theorem A2v {n:Nat} {c:Int} {M:AIe} {b:Nat} (hk:k < n) (ha:a < n):AJv n (trF<|Ar5 j k c) M a b=M a b + (if a=j then c * M k b else 0):=by
 have:=Ag6 (T:=trF M) (j:=j) (c:=c) (a:=b) hk ha;rw [<- show trF (trF M)=M from rfl,<- Ac9];exact this
theorem Eli.add {n:Nat} {T':AIe} {c:Int} (S:Eli n K p H T G) (hj:j < n) (hk:k < n) (hne:k≠j) (hT:∀ a b,a < n->b < n->Eqm (p ^ K) (T' a b) (T a b + if b=j then c * T a k else 0)) (hG:∀ a b,a < n->b < n->Eqm (p ^ K) (G' a b) (G a b + (if b=j then c * G a k else 0) + if a=j then c * (G k b + if b=j then c * G k k else 0) else 0)):Eli n K p H T' G':=
 S.step (Azx hj hk hne) (λa b ha hb=>by rw [Ag6 hk hb];exact hT a b ha hb) λa b ha hb=>by
  rw [A2v hk ha,Ag6 hk hb,Ag6 hk hb]
  grind
def sw2 (i j a:Nat):Nat:=if a=j then i else if a=i then j else a
theorem Af9 {n:Nat} (hi:i < n) (hj:j < n) (ha:a < n):sw2 i j a < n:=by
 unfold sw2;grind
theorem Anx (i j a:Nat):sw2 i j (sw2 i j a)=a:=by
 unfold sw2;grind
theorem Anz (i j a b:Nat):AOg dl i j a b=dl (sw2 i j a) b:=by
 rw [AVu];unfold sw2;grind
theorem A2w {n:Nat} (hi:i < n) (hj:j < n):det n (AOg dl i j) * det n (AOg dl i j)=1:=by
 by_cases h:i=j
 ·subst h
  rw [AJm (G:=dl) λa b _ _=>by
   rw [Anz];unfold sw2;grind,Ac5];rfl
 ·rw [AZ8 hi hj h,Ac5];rfl
theorem An0 {n:Nat} {b:Nat} (hi:i < n) (hj:j < n) (hb:b < n):AJv n T (AOg dl i j) a b=T a (sw2 i j b):=by
 unfold AJv;rw [ASc (Af9 hi hj hb) λk _ hne=>?_]
 ·rw [Anz,Anx];unfold dl;grind
 ·rw [Anz];unfold dl;rw [if_neg λh=>hne<|by rw [<- h,Anx]];simp
theorem A58 {n:Nat} {M:AIe} {b:Nat} (hi:i < n) (hj:j < n) (ha:a < n):AJv n (trF<|AOg dl i j) M a b=M (sw2 i j a) b:=by
 have:=An0 (T:=trF M) (a:=b) hi hj ha;rw [<- show trF (trF M)=M from rfl,<- Ac9];exact this
theorem Eli.swap {n:Nat} {T':AIe} (S:Eli n K p H T G) (hi:i < n) (hj:j < n) (hT:∀ a b,a < n->b < n->T' a b=T a (sw2 i j b)) (hG:∀ a b,a < n->b < n->G' a b=G (sw2 i j a) (sw2 i j b)):Eli n K p H T' G':=
 S.step (A2w hi hj) (λa b ha hb=>by rw [An0 hi hj hb,hT a b ha hb];exact Eqm.refl _ _) λa b ha hb=>by
  rw [A58 hi hj ha,An0 hi hj hb,hG a b ha hb];exact Eqm.refl _ _
theorem Eli.sym {n:Nat} (S:Eli n K p H T G) (hs:∀ i j,i < n->j < n->H i j=H j i) (hG:AY4 n (p ^ K) G) (hi:i < n) (hj:j < n):G i j=G j i:=by
 refine Avc ?_ (hG i j hi hj)<|hG j i hj hi;refine (S.c i j hi hj).symm.trans (Eqm.trans (Eqm.of_eq ?_)<|S.c j i hj hi);show psum (λa=>T a i * psum (λb=>H a b * T b j) n) n=psum (λa=>T a j * psum (λb=>H a b * T b i) n) n;rw [AIl (g:=λa=>psum (λb=>T a i * (H a b * T b j)) n) λa _=>(ALz _ _ _).symm,AZm,AIl (f:=λa=>T a j * psum (λb=>H a b * T b i) n) (g:=λa=>psum (λb=>T a j * (H a b * T b i)) n) λa _=>(ALz _ _ _).symm];refine AIl λa ha=>AIl λb hb=>?_;grind
theorem Eli.det {n K:Nat} {p:Int} {H T G:AIe} (S:Eli n K p H T G):Eqm (p ^ K) (QF.det n G) (QF.det n H):=by
 have h1:Eqm (p ^ K) (QF.det n G) (QF.det n<|AJv n (trF T)<|AJv n H T):=Agx λi j hi hj=>(S.c i j hi hj).symm;refine h1.trans ?_;rw [ARo,ARo,ARh];refine Eqm.trans (Eqm.of_eq<|show QF.det n T * (QF.det n H * QF.det n T)=QF.det n H * (QF.det n T * QF.det n T) by grind) ?_;have:=(Eqm.refl (p ^ K)<|QF.det n H).mul S.d;grind
theorem Eli.some {n:Nat} (S:Eli n K p H T G) (hd: ¬ p ^ K ∣ QF.det n H) (hk:k < n) (hz:∀ j,j < k->G k j=0):∃ j,k<=j/\j < n/\G k j≠0:=by
 refine Classical.byContradiction λhn=>hd ?_
 have h0:QF.det n G=0:=AXa hk λj hj=>Classical.byContradiction λh=>hn ⟨j,by
  grind,hj,h⟩
 have:=S.det;rw [h0] at this;exact AXf.1 this.symm
def AWt (q:Int) (j l:Nat) (c:Int) (T:AIe):AIe:=λa b=>if b=j then (T a j + c * T a l) % q else T a b
def Azy (q:Int) (j l:Nat) (c:Int) (G:AIe):AIe:=λa b=>if a=j then (G j b + c * G l b) % q else G a b
def Afh (q:Int) (j l:Nat) (c:Int) (G:AIe):AIe:=Azy q j l c<|AWt q j l c G
def swC (i j:Nat) (T:AIe):AIe:=λa b=>T a<|sw2 i j b
def swG (i j:Nat) (G:AIe):AIe:=λa b=>G (sw2 i j a)<|sw2 i j b
theorem Aai (q:Int) (j l:Nat) (c:Int) (G:AIe) (a b:Nat):Afh q j l c G a b=if a=j then (if b=j then ((G j j + c * G j l) % q + c * ((G l j + c * G l l) % q)) % q else (G j b + c * G l b) % q) else if b=j then (G a j + c * G a l) % q else G a b:=by
 unfold Afh Azy AWt;grind
theorem Aud (hq:d ∣ q) (hx:d ∣ x):d ∣ x % q:=by
 rw [Int.emod_def];exact Int.dvd_sub hx<|Int.dvd_trans hq ⟨_,rfl⟩
theorem AXp (hq:0 < q) (x:Int):0<=x % q/\x % q < q:=⟨Int.emod_nonneg _ AHx,Int.emod_lt_of_pos _ hq⟩
theorem Ace {n:Nat} {c:Int} (hq:0 < q) (h:AY4 n q T):AY4 n q (AWt q j l c T):=λa b ha hb=>by
 unfold AWt;split
 ·exact AXp hq _
 ·exact h a b ha hb
theorem Av7 {n:Nat} {c:Int} (hq:0 < q) (h:AY4 n q G):AY4 n q (Afh q j l c G):=λa b ha hb=>by
 unfold Afh Azy;split
 ·exact AXp hq _
 ·exact Ace hq h a b ha hb
structure JS (n K:Nat) (p:Int) (H T G:AIe) (k E:Nat):Prop where
 rt:AY4 n (p ^ K) T
 rg:AY4 n (p ^ K) G
 e:Eli n K p H T G
 z:∀ i j,i < k->j < n->j≠i->G i j=0
 fl:∀ i j,k<=i->i < n->k<=j->j < n->p ^ E ∣ G i j
theorem JS.add {n K k E j l:Nat} {p c:Int} {H T G:AIe} (S:JS n K p H T G k E) (hq:0 < p ^ K) (hE:E<=K) (hj:k<=j) (hjn:j < n) (hl:k<=l) (hln:l < n) (hne:l≠j):JS n K p H (AWt (p ^ K) j l c T) (Afh (p ^ K) j l c G) k E:=by
 refine ⟨Ace hq S.rt,Av7 hq S.rg,?_,λa b ha hb hba=>?_,λa b ha han hb hbn=>?_⟩
 ·exact S.e.add (c:=c) hjn hln hne (λa b ha hb=>by
   unfold AWt;by_cases h:b=j
   ·subst h;rw [if_pos rfl,if_pos rfl];exact Eqm.mod _ _
   ·rw [if_neg h,if_neg h,Int.add_zero];exact Eqm.refl _ _) λa b ha hb=>by
   rw [Aai]
   by_cases h:a=j
   ·subst h;rw [if_pos rfl,if_pos rfl];by_cases h2:b=a
    ·subst h2;rw [if_pos rfl,if_pos rfl,if_pos rfl]
     exact (Eqm.mod _ _).trans ((Eqm.mod _ _).add ((Eqm.refl _ _).mul (Eqm.mod _ _)))
    ·rw [if_neg h2,if_neg h2,if_neg h2,Int.add_zero,Int.add_zero];exact Eqm.mod _ _
   ·rw [if_neg h,if_neg h,Int.add_zero];by_cases h2:b=j
    ·subst h2;rw [if_pos rfl,if_pos rfl];exact Eqm.mod _ _
    ·rw [if_neg h2,if_neg h2,Int.add_zero];exact Eqm.refl _ _
 ·rw [Aai,if_neg AHx];by_cases h:b=j
  ·subst h;rw [if_pos rfl,S.z a b ha hb hba,S.z a l ha hln AHx];simp
  ·rw [if_neg h];exact S.z a b ha hb hba
 ·have hd:p ^ E ∣ p ^ K:=AKv hE;have key:∀ x y,k<=x->x < n->k<=y->y < n-> ∀ u v,k<=u->u < n->k<=v->v < n->p ^ E ∣ (G x y + c * G u v) % p ^ K:=λx y h1 h2 h3 h4 u v h5 h6 h7 h8=>Aud hd<|Int.dvd_add (S.fl x y h1 h2 h3 h4)<|Int.dvd_trans (S.fl u v h5 h6 h7 h8) ⟨c,Int.mul_comm _ _⟩;rw [Aai];by_cases h:a=j
  ·rw [if_pos h];by_cases h2:b=j
   ·rw [if_pos h2];exact Aud hd<|Int.dvd_add (key j j hj hjn hj hjn j l hj hjn hl hln)<|Int.dvd_trans (key l j hl hln hj hjn l l hl hln hl hln) ⟨c,Int.mul_comm _ _⟩
   grind
  ·rw [if_neg h];by_cases h2:b=j
   ·grind
   ·rw [if_neg h2];exact S.fl a b ha han hb hbn
theorem Azz (hi:k<=i) (hj:k<=j) (ha:k<=a):k<=sw2 i j a:=by
 unfold sw2;grind
theorem An1 (hi:a≠i) (hj:a≠j):sw2 i j a=a:=by unfold sw2;grind
theorem JS.swap {n K k E i j:Nat} {p:Int} {H T G:AIe} (S:JS n K p H T G k E) (hi:k<=i) (hin:i < n) (hj:k<=j) (hjn:j < n):JS n K p H (swC i j T) (swG i j G) k E:=by
 refine ⟨(λa b ha hb=>S.rt a _ ha<|Af9 hin hjn hb),(λa b ha hb=>S.rg _ _ (Af9 hin hjn ha)<|Af9 hin hjn hb),S.e.swap hin hjn (λ_ _ _ _=>rfl) λ_ _ _ _=>rfl,λa b ha hb hba=>?_,(λa b ha han hb hbn=>S.fl _ _ (Azz hi hj ha) (Af9 hin hjn han) (Azz hi hj hb)<|Af9 hin hjn hbn)⟩
 ·unfold swG;rw [An1 (a:=a) AHx AHx];exact S.z a _ ha (Af9 hin hjn hb) λh=>hba (by rw [<- Anx i j b,h,An1 AHx AHx])
theorem JS.pivot {n:Nat} {u:Int} (S:JS n K p H T G k E) (hs:∀ i j,i < n->j < n->H i j=H j i) (hp:PrI p) (hp2: ¬ p ∣ 2) (hEK:E < K) (hi:k<=i) (hin:i < n) (hj:k<=j) (hjn:j < n) (hne:j≠i) (hu:G i j=u * p ^ E) (hpu: ¬ p ∣ u) (h1:p ^ (E + 1) ∣ G i i) (h2:p ^ (E + 1) ∣ G j j):∃ v,Afh (p ^ K) i j 1 G i i=v * p ^ E/\¬ p ∣ v:=by
 have hq:0 < p ^ K:=Int.pow_pos (by have:=hp.1;omega);obtain ⟨v,hv⟩:=(S.add (c:=1) hq AHx hi hin hj hjn hne).fl i i hi hin hi hin;refine ⟨v,by grind,λhd=>?_⟩
 have e1:Eqm (p ^ K) (Afh (p ^ K) i j 1 G i i) (G i i + 1 * G i j + 1 * (G j i + 1 * G j j)):=by
  rw [Aai,if_pos rfl,if_pos rfl];exact (Eqm.mod _ _).trans ((Eqm.mod _ _).add ((Eqm.refl _ _).mul (Eqm.mod _ _)))
 rw [S.e.sym hs S.rg hjn hin] at e1;have e2:=AVm<|e1.down<|AKv (p:=p) (show E + 1<=K by omega);obtain ⟨w,rfl⟩:=hd;have h3:p ^ (E + 1) ∣ Afh (p ^ K) i j 1 G i i:=⟨w,by grind⟩
 have h4:p ^ (E + 1) ∣ 2 * G i j:=by
  have:2 * G i j=Afh (p ^ K) i j 1 G i i - (Afh (p ^ K) i j 1 G i i - (G i i + 1 * G i j + 1 * (G i j + 1 * G j j))) - G i i - G j j:=by omega
  rw [this];exact Int.dvd_sub (Int.dvd_sub (Int.dvd_sub h3 e2) h1) h2
 rw [hu,Int.pow_succ] at h4;obtain ⟨x,hx⟩:=h4;have hpE:p ^ E≠0:=Aa8 hp E;have:p ∣ 2 * u:=⟨x,Int.eq_of_mul_eq_mul_left hpE<|by grind⟩;exact (hp.2 _ _ this).elim hp2 hpu
theorem Ar6 {A:Int} (hq:0 < p ^ K) (hp:0 < p) (hx:0<=x) (hxd:p ^ E ∣ x) (hd:d=A * p ^ E) (hv:Eqm (p ^ K) (v * A) 1):(x + ((p ^ K - (x / p ^ E * v) % p ^ K) % p ^ K) * d) % p ^ K=0:=by
 have h1:Eqm (p ^ K) ((p ^ K - (x / p ^ E * v) % p ^ K) % p ^ K) (0 - x / p ^ E * v):=(Eqm.mod _ _).trans (Eqm.sub (by unfold Eqm;simp)<|Eqm.mod _ _);obtain ⟨y,rfl⟩:=hxd;rw [Int.mul_ediv_cancel_left _ (by have:=Int.pow_pos (n:=p) (m:=E) hp;omega)] at h1 ⊢;refine Eqm.zero<|((Eqm.refl _ _).add (h1.mul<|Eqm.refl _ d)).trans ?_;rw [hd];refine Eqm.trans (Eqm.of_eq<|show p ^ E * y + (0 - y * v) * (A * p ^ E)=p ^ E * y - p ^ E * y * (v * A) by grind) ?_;refine ((Eqm.refl _ _).sub ((Eqm.refl _<|p ^ E * y).mul hv)).trans (Eqm.of_eq ?_);omega
theorem JS.next {n:Nat} (S:JS n K p H T G k E) (hs:∀ i j,i < n->j < n->H i j=H j i) (hk:k < n) (hz:∀ j,k < j->j < n->G k j=0):JS n K p H T G (k + 1) E:=by
 refine ⟨S.rt,S.rg,S.e,λi j hi hj hne=>?_,(λi j hi hin hj hjn=>S.fl i j AHx hin AHx hjn)⟩
 ·rcases Nat.lt_or_ge i k with h | h
  ·exact S.z i j h hj hne
  ·obtain rfl:i=k:=by omega
   rcases Nat.lt_or_ge i j with h2 | h2
   ·exact hz j h2 hj
   ·rw [S.e.sym hs S.rg AHx hj];exact S.z j i AHx hk AHx
structure JL (n:Nat) (p:Int) (G:AIe) (L:List AJ0) (k E:Nat):Prop where
 len:L.length=k
 bl:∀ i b,L[i]? =some b->G i i≠0/\IsB p (G i i) b/\b.1<=E
 asc:∀ i,Asc L i
theorem JL.keep {n:Nat} {L:List AJ0} (B:JL n p G L k E) (h:∀ i,i < k->G' i i=G i i):JL n p G' L k E:=⟨B.len,λi b hb=>by
 rw [h i (by rw [<- B.len];grind)];exact B.bl i b hb,B.asc⟩
theorem JL.push {n F:Nat} {L:List AJ0} {b:AJ0} (B:JL n p G L k E) (h0:G k k≠0) (hb:IsB p (G k k) b) (hF:b.1=F) (hE:E<=F):JL n p G (L ++ [b]) (k + 1) F:=by
 refine ⟨by simp [B.len],λi c hc=>?_,λi hi x y hx hy=>?_⟩
 ·rcases Nat.lt_or_ge i L.length with h | h
  ·rw [List.getElem?_append_left h] at hc;have:=B.bl i c hc;grind
  ·rw [List.getElem?_append_right h] at hc
   have h2:i - L.length=0:=by
    grind
   rw [h2] at hc;obtain rfl:b=c:=by simpa using hc
   obtain rfl:i=k:=by have:=B.len;omega
   grind
 ·rcases Nat.lt_or_ge i L.length with h | h
  ·rw [List.getElem?_append_left h] at hx;rw [List.getElem?_append_left AHx] at hy;exact B.asc i hi x y hx hy
  ·rw [List.getElem?_append_right h] at hx
   have h2:i - L.length=0:=by
    grind
   rw [h2] at hx;obtain rfl:b=x:=by simpa using hx
   rw [List.getElem?_append_left AHx] at hy;have:=(B.bl _ _ hy).2.2;omega
def ATw (fuel:Nat) (Ab Aa Ac Ad:Int):Option ((Int × Int × Int × Int) ⊕ (Int × Int)):=
 if ¬ Aa=0 then if Aa≠0 then some (.inl (Aa,w64<|Ab - w64 (w64 (Int.tdiv Ab Aa) * Aa),Ad,w64<|Ac - w64 (w64 (Int.tdiv Ab Aa) * Ad))) else none else some<|.inr (Ab,Ac)
def APz (fuel:Nat) (a1 a2:Int):Option (Int × Bool):=
 (iter (λs=>ATw fuel s.1 s.2.1 s.2.2.1 s.2.2.2) fuel (a2,a1,0,1)).bind (λ((Ac,Ad):Int × Int)=>if a2≠0 then if a2≠0 then some (Int.tmod (w64<|Int.tmod Ad a2 + a2) a2,decide (Ac=1)) else none else none)
theorem Acf {r:(Int × Bool)} (hp:APz fuel a1 a2=some r):AI7 Tryz.prog 92 #[(.int .i64 a1),(.int .i64 a2)] h (λx h'=>Ext h h'/\x= .tuple #[.int .i64 r.1,.bool r.2]):=by
 unfold APz at hp;refine cwf (l:=[_,_]) Tryz.func92 rfl rfl (AH1<|AIw<|AJd<|AHy<|AHy<|AIw<|AJd<|AIw<|AH7<|AH3<|AH6 ?_);have K0:=Kst.k0 h;refine APb 1073735616 hp (λx=>[(6,(.int .i64 x.1)),(7,(.int .i64 x.2.1)),(8,(.int .i64 x.2.2.1)),(9,(.int .i64 x.2.2.2))]) (λx=>K0.L) K0 ⟨rfl,rfl,rfl,rfl,trivial⟩ ?_;rintro ⟨u9,Aq,Ar,Au⟩ Av h6 y5 K8 Aa Ag;unfold ATw at Aa;refine AH3<|AH1<|AHy<|AK0 rfl rfl (AH5<|⟨_,rfl,λAb=>?_,λAb=>?_⟩)
 ·refine AIa<|q_t<|AH6<|AH1<|AHy<|AHy ?_;obtain ⟨Ah,Ai⟩:=ifN<|AJb Aa Ab;refine AWz rfl rfl Ah (AJd<|AHy<|AHy<|AHy<|AHy<|APo rfl rfl (AMy rfl rfl (AIw<|AH7<|AIf<|AHy<|AHy<|AHy<|AHy<|APo rfl rfl (AMy rfl rfl (AIw<|AIw<|AIu<|q_b<|q_t ?_)))));exact ⟨_,(AH0 Ai).symm,K8,rfl,rfl,rfl,rfl,trivial⟩
 ·refine AIq<|AIr<|AIr<|AJt<|q_t<|AH1<|AHy<|AHy ?_;obtain ⟨Aj,Ak⟩:=ifN<|Ag _ (AH0<|AJc Aa Ab).symm;refine ALg rfl rfl Aj (AHy<|AI0 rfl rfl (AHy ?_));obtain ⟨Am,Ao⟩:=ifN Ak;refine ALg rfl rfl Am (AHy<|AKd rfl rfl (AIw<|AH7<|AIc ?_));obtain rfl:=AH0 Ao;exact ⟨_,AJu,K8.x,rfl⟩
def AVr (fuel:Nat) (Aa:LiI) (Ab Ac:Int):Option ((Int × Int) ⊕ Int):=
 if Ac < (Aa.length:Int) then none else some<|.inr Ab
def AP0 (fuel:Nat) (Ab:LiI) (Ac Aa:Int):Option ((Int × Int) ⊕ Int):=
 if Aa < (Ab.length:Int) then (iter (λs=>AVr fuel Ab s.1 s.2) fuel (Ac,w64<|Aa + 1)).bind (λ(Ad:Int)=>some<|.inl (Ad,w64<|Aa + 1)) else some<|.inr Ac
def ANb (fuel:Nat) (a5 Ad:Int) (Af:LiA) (Ag Aa:Int) (Ab:LiI):Option ((Int × LiI) ⊕ LiI):=
 if Aa < (Af.length:Int) then (gI Ab Ad).bind λAe=>(gI Ae Aa).bind λAh=>if a5≠0 then some (.inl (w64<|Aa + 1,sI Ab Ad<|sI Ae Aa<|Int.tmod (w64<|Ah * Ag) a5)) else none else some<|.inr Ab
def AUu (fuel:Nat) (Aa Ab:Int):Option (Int ⊕ Unit):=
 if Ab < Aa then none else some<|.inr ()
def AUv (fuel:Nat) (a3 Ae:LiI) (Ab:Int) (Ac:LiI):Option ((Int × LiI) ⊕ LiI):=
 if Ab < (Ae.length:Int) then (gI Ac Ab).bind λAd=>if 0<=(a3.length:Int)/\(a3.length:Int)<=(Ad.length:Int) then if (List.drop (Int.toNat (a3.length:Int)) Ad).length<=100000000 then some (.inl (w64<|Ab + 1,sI Ac Ab<|List.drop (Int.toNat (a3.length:Int)) Ad)) else none else none else some<|.inr Ac
def AP1 (fuel:Nat) (a5 Aa:Int) (Ab:LiI):Option ((Int × LiI) ⊕ ((LiI × Int) ⊕ LiI)):=
 if 0<=Aa then (gI Ab Aa).bind λAd=>(gI Ad Aa).bind λAe=>(APz fuel Ae a5).bind λ(Af,Ag)=>if (!Ag)=true then some (.inr<|.inl ([],8)) else (((iter (λs=>ANb fuel a5 Aa Ad Af s.1 s.2) fuel (0,Ab)).bind (λ(Ah:LiI)=>some Ah)):Option LiI).bind λAi=>(iter (λs=>AUu fuel Aa s) fuel 0).bind (λ(_:Unit)=>some<|.inl (w64<|Aa - 1,Ai)) else some<|.inr<|.inr Ab
def AVs (fuel:Nat) (a3 Af:LiI) (Aa:Int) (Ac:LiI):Option ((Int × LiI) ⊕ LiI):=
 if Aa < (Af.length:Int) then (gI Ac Aa).bind λAd=>if 0 < Ad.length/\Ad.length<=100000/\0 < (a3.length:Int)/\(a3.length:Int)<=100000 then (gI (sI Ac Aa<|Ad ++ List.replicate (Int.toNat (a3.length:Int)) 0) Aa).bind λAe=>(gI Ae<|w64<|(a3.length:Int) + Aa).bind λAg=>some (.inl (w64<|Aa + 1,sI (sI Ac Aa<|Ad ++ List.replicate (Int.toNat (a3.length:Int)) 0) Aa<|sI Ae (w64<|(a3.length:Int) + Aa) 1)) else none else some<|.inr Ac
def ASm (fuel:Nat) (a3:LiI) (a5:Int):Option (LiI × Int):=
 (AQh fuel a3).bind λx6=>if (!x6)=true then some ([],3) else (AK5 fuel a5).bind λAc=>if ¬ Ac=0 then some ([],Ac) else (ALd fuel a3 a5).bind λAd=>(iter (λs=>AVs fuel a3 Ad s.1 s.2) fuel (0,Ad)).bind (λ(Ae:LiI)=>((((some a5):Option Int).bind λAk=>(iter (λs=>AP0 fuel Ae s.1 s.2) fuel (1,0)).bind (λ(Ah:Int)=>some Ah)):Option Int).bind λAm=>((some a5):Option Int).bind λAo=>(iter (λs=>AP1 fuel a5 s.1 s.2) fuel (w64<|(a3.length:Int) - 1,Ae)).bind (λex=>match ex with | .inl Ai=>(some Ai) | .inr Af=>(iter (λs=>AUv fuel a3 Af s.1 s.2) fuel (0,Af)).bind (λ(Aj:LiI)=>some (Aj,0))))
theorem Ael {Bq:Value} {r:(LiI × Int)} (H2:ANp (cI .i64) h Bq a3) (hp:ASm fuel a3 a5=some r):AI7 Tryz.prog 50 #[Bq,(.int .i64 a5)] h (λx h'=>Ext h h'/\ ∃ (x0:Value) (F0:List Nat) (Cb:List LnA) (Cd:List Value),x= .tuple #[x0,.int .i64 r.2]/\ALl (cI .i64) 41 2 h' F0 Cb Cd x0 r.1/\Sp h' h.size [F0]):=by
 unfold ASm at hp;refine cwf (l:=[_,_]) Tryz.func50 rfl rfl (AH1<|AIw<|AH7<|AH3<|AH1<|AHy ?_);have K0:=Kst.k0 h;obtain ⟨x6,Ce,Bw⟩:=AH2 hp;refine ALx K0 (Aab (H2.ext K0.x) Ce) λEv E9 Bx=>AMp rfl (AH5<|⟨_,rfl,λAp=>?_,λAp=>?_⟩)
 ·refine AH1<|AIw<|AH7<|AIc<|AIt ?_;have Aq:=Kst.anil2 (cI .i64) 41 2 Bx;obtain rfl:=AH0<|ifT Bw Ap;exact ⟨_,AJu,Aq.x,_,_,_,_,rfl,(Aq.o2 p0),Aq.s.sel [0] AHz⟩
 ·refine AIa<|q_t<|AH3<|AH1<|AHy ?_;obtain ⟨Ey,Cf,By⟩:=AH2<|AQa Bw Ap;refine ALx Bx (AO9 Cf) λEz Fa Ar=>AJd<|AHy<|AK0 rfl rfl (AH5<|⟨_,rfl,λAu=>?_,λAu=>?_⟩)
  ·refine AH1<|AHy<|AIw<|AH7<|AIc<|AIt ?_;have Av:=Kst.anil2 (cI .i64) 41 2 Ar;obtain rfl:=AH0<|AJb By Au;exact ⟨_,AJu,Av.x,_,_,_,_,rfl,(Av.o2 p0),Av.s.sel [0] AHz⟩
  ·refine AIa<|q_t<|AH1<|AHy<|AJh AIk rfl H2 (AJd<|AHy<|AHy ?_);obtain ⟨Cg,Ch,Ci⟩:=AH2<|AJc By Au;refine AWs Ar (APf (H2.ext Ar.x) Ch) λCj Ck Cm Af Fb Fc Aw=>AH7<|AH3<|AH1<|AHy<|AJh AIk rfl (Aw.o2 p0).rd (AHy<|AH5<|AH6<|AOq 4503597479887360 (λx:(Int) × (LiI) × LnA × LnN × LvA=>(x.1,x.2.1)) ((0,Cg,Cj,Ck,Cm):(Int) × (LiI) × LnA × LnN × LvA) Ci (λx=>[(31,(.int .i64 x.1))]) (λx=>Aw.L.set 0<|aO2 (cI .i64) 41 2 x.2.2.1 x.2.2.2.1 x.2.2.2.2 Af x.2.1) Aw ⟨rfl,trivial⟩ ?_);rintro ⟨Cn,Fd,Ai,Aj,Ak⟩ Fe Ff Fg Ac Ax Co;unfold AVs at Ax;refine AH1<|AI3 rfl rfl (AH5<|AH3<|⟨_,rfl,λAy=>?_,λAy=>?_⟩)
   ·refine AIa<|q_t<|AH3<|AH6<|AH1<|AHy<|AJd<|AHy<|AHy<|AHy<|AHy ?_;obtain ⟨Fh,Bz,Cp⟩:=AH2<|AJb Ax Ay;refine AKe AIk AIv (Ac.o2 p0) Bz λ_ Fi Cq=>AHy ?_;obtain ⟨Cr,Ct⟩:=ifN Cp;refine A1p AIi AYv ARy AIk AIv (Ac.o2 p0) Cq Bz trivial tt2 rfl rfl (λ_=>rfl) (λ_=>rfl) rfl AHz Cr λFj Fk Fl Fm Fo Fp Cu Cv Cw=>AH5<|AIf<|AHy<|AHy ?_;have B2:=Ac.uo2 p0 Cv Cu Cw;obtain ⟨Fq,B3,Cx⟩:=AH2 Ct;refine AKe AIk AIv (B2.o2 p0) B3 λ_ Ft Cy=>AHy<|AHy<|AI0 rfl rfl ?_;obtain ⟨Fu,Cz,C0⟩:=AH2 Cx;refine AT0 (m:=Cn) B2 p0 AIi AIg Cy B3 Cz (λ_=>rfl) λ_ Fv C1=>AIu<|q_b<|q_t<|AIf<|AI0 rfl rfl (AHy<|AH5 ?_);exact ⟨(_,_,_,_,_),(AH0 C0).symm,C1,rfl,trivial⟩
   ·refine AIq<|AIr<|AIr<|AJt<|q_t<|AH1<|AHy<|AHy ?_;obtain ⟨C3,C4,C5⟩:=AH2<|Co _ (AH0<|AJc Ax Ay).symm;refine AIz (K':=(λxr h'=> ∃ x:(Int),x=C3/\xr=(.int .i64 x)/\Kst h h' (Ac.L))) trivial rfl ?_ λFw Fx C6=>?_
    ·refine cwf (l:=[_,_]) Tryz.func90 rfl rfl (AH1<|AJd<|AHy ?_);obtain ⟨C7,C8,C9⟩:=AH2 C4;refine AIz (K':=(λxr h'=> ∃ x:(Nat) × (Int),x.2=C7/\xr=(.func (.func 129) #[] #[(.pointer<|some ⟨x.1,0,none⟩)])/\Kst h h' (aB 2 x.1 [(.int .i64 x.2)] :: Ac.L))) trivial rfl ?_ λFy Fz Da=>?_
     ·refine cwf (l:=[_]) Tryz.func91 rfl rfl (AH1<|AP5 Ac [(.int .i64 a5)] λDb F4 F5 Dc=>AJd<|Awm rfl (AH7<|AIc<|⟨_,AId,((Db,a5):(Nat) × (Int)),?_,rfl,?_⟩))
      ·exact AH0 C8
      ·exact Dc
     obtain ⟨⟨F6,F7⟩,Dd,rfl,Az⟩:=Da;refine ⟨trivial,?_⟩;subst Dd;refine AJd<|AH7<|AH3<|AH1<|AHy<|AJh AIk rfl (Az.o2 p1).rd (AHy<|AH5<|AH6<|APb 18889465931478580847040 C9 (λx=>[(6,(.int .i64 x.1)),(13,(.int .i64 x.2))]) (λx=>Az.L) Az ⟨rfl,rfl,trivial⟩ ?_);rintro ⟨De,F8⟩ F9 Ga Gb A3 A4 Df;unfold AP0 at A4;refine AH1<|AI3 rfl rfl (AH5<|AH3<|⟨_,rfl,λA5=>?_,λA5=>?_⟩)
     ·refine AIa<|q_t<|AH3<|AH6<|AH1<|AHy<|AJd<|AHy<|AI0 rfl rfl (AH7<|AH6<|APb 9444732965739290165568 (AJb A4 A5) (λx=>[(6,(.int .i64 x.1)),(8,(.int .i64 x.2))]) (λx=>A3.L) A3 ⟨rfl,rfl,trivial⟩ ?_);rintro ⟨Gc,Gd⟩ Ge Gf Gg B4 A6 Dg;unfold AVr at A6;refine AH3<|AH1<|AHy<|AHy<|AJh AIk rfl (B4.o2 p1).rd (AI3 rfl rfl (AH5<|⟨_,rfl,λA7=>?_,λA7=>?_⟩))
      ·refine AIa<|q_t<|AH3 ?_;have Dh:=AJb A6 A7;cases Dh
      ·refine AIq<|AIr<|AIr<|AJt<|q_b<|q_t<|AIf<|AI0 rfl rfl (AHy<|AH5 ?_);exact ⟨_,(AH0<|Dg _ (AH0<|AJc A6 A7).symm).symm,B4,rfl,rfl,trivial⟩
     ·refine AIq<|AIr<|AIr<|AJt<|q_t<|AH1<|AHy<|AH7<|AIc<|⟨_,AId,(De:(Int)),?_,rfl,?_⟩
      ·exact AH0<|Df _ (AH0<|AJc A4 A5).symm
      ·exact A3.sel [1] AHz
    obtain ⟨Gh,Di,rfl,B5⟩:=C6;refine ⟨trivial,?_⟩;subst Di;refine AQs<|AHy ?_;obtain ⟨Dj,Dk,Dl⟩:=AH2 C5;refine AIz (K':=(λxr h'=> ∃ x:(Nat) × (Int),x.2=Dj/\xr=(.func (.func 129) #[] #[(.pointer<|some ⟨x.1,0,none⟩)])/\Kst h h' (aB 2 x.1 [(.int .i64 x.2)] :: B5.L))) trivial rfl ?_ λGi Gj Do=>?_
    ·refine cwf (l:=[_]) Tryz.func91 rfl rfl (AH1<|AP5 B5 [(.int .i64 a5)] λDp Gk Gl Dq=>AJd<|Awm rfl (AH7<|AIc<|⟨_,AId,((Dp,a5):(Nat) × (Int)),?_,rfl,?_⟩))
     ·exact AH0 Dk
     ·exact Dq
    obtain ⟨⟨Gm,Gn⟩,Dr,rfl,B6⟩:=Do;refine ⟨trivial,?_⟩;subst Dr;refine AH7<|AH3<|AH1<|AHy<|AMy rfl rfl (AH7<|AH6<|APb 81129638414606105235036701751344 Dl (λx=>[(11,(.int .i64 x.1))]) (λx=>B6.L.set 1<|aO2 (cI .i64) 41 2 Ai Aj Ak Af x.2) B6 ⟨rfl,trivial⟩ ?_);rintro ⟨A8,Ds⟩ Gp Gq Gr Ag A9 B7;unfold AP1 at A9;refine AH3<|AH1<|AHy<|AUr rfl rfl (AH5<|⟨_,rfl,λBa=>?_,λBa=>?_⟩)
    ·refine AIa<|q_t<|AH3<|AH6<|AH1<|AHy<|AHy ?_;obtain ⟨Gt,Am,Dt⟩:=AH2<|AJb A9 Ba;refine AKe AIk AIv (Ag.o2 p1) Am λ_ Gu Du=>AHy ?_;obtain ⟨Gv,Dv,Dw⟩:=AH2 Dt;refine AP4 (m:=A8) AIi AIg (Ag.o2 p1) Du Am Dv λ_=>(AHy ?_);obtain ⟨⟨Gw,Gx⟩,Dx,Bb⟩:=AH2 Dw;dsimp only at Bb;refine ALx Ag (Acf Dx) λGy Gz Ad=>AHy<|AJs rfl rfl (AJs rfl rfl (AIw<|AH7<|AH3<|AH1<|AHy<|AMp rfl (AH5<|⟨_,rfl,λBc=>?_,λBc=>?_⟩)))
     ·refine AH1<|AIw<|AH7<|AIc<|AIt<|AKa<|AIt<|AIt<|AKa<|AIt ?_;have Be:=Kst.anil2 (cI .i64) 41 2 Ad;obtain rfl:=AH0<|B7 _ (AH0<|ifT Bb Bc).symm;exact ⟨_,AJu,Be.x,_,_,_,_,rfl,(Be.o2 p0),Be.s.sel [0] AHz⟩
     ·refine AIa<|q_t<|AH1<|AHy<|AHy<|AKe AIk AIv (Ad.o2 p1) Am λ_ G3 Bf=>AHy<|AHy ?_;obtain ⟨Dy,Dz,D0⟩:=AH2<|AQa Bb Bc;refine AIz (K':=(λxr h'=> ∃ x:(LiI),x=Dy/\xr= .tuple #[]/\Kst h h' (Ad.L.set 1<|aO2 (cI .i64) 41 2 Ai Aj Ak Af x))) trivial rfl ?_ λG4 G5 D3=>?_
      ·refine cwf (l:=[_,_,_]) Tryz.func93 rfl rfl (AH1<|AHy<|AJ8 AIi rfl ((Ad.o2 p1).rowI Bf Am) (AHy<|AH5<|AH6<|APb 16776384 Dz (λx=>[(10,(.int .i64 x.1))]) (λx=>Ad.L.set 1<|aO2 (cI .i64) 41 2 Ai Aj Ak Af x.2) Ad ⟨rfl,trivial⟩ ?_));rintro ⟨G6,D4⟩ G7 G8 G9 Bg Bh D5;unfold ANb at Bh;refine AH1<|AI3 rfl rfl (AH5<|AH3<|⟨_,rfl,λBi=>?_,λBi=>?_⟩)
       ·refine AIa<|q_t<|AH3<|AH6<|AH1<|AHy ?_;obtain ⟨Hb,B8,D6⟩:=AH2<|AJb Bh Bi;obtain ⟨Hc,B9,D7⟩:=AH2 D6;refine AP4 (m:=A8) AIi AIg (Bg.o2 p1) Bf B8 B9 λ_=>(AIw<|AH7<|AIf<|AHy<|AHy<|AHy<|AHy<|APo rfl rfl (AHy ?_));obtain ⟨D8,D9⟩:=ifN D7;refine ALg rfl rfl D8 (AT0 (m:=A8) Bg p1 AIi AIg Bf B8 B9 (λ_=>rfl) λ_ Hd Ea=>AIu<|q_b<|q_t<|AIf<|AI0 rfl rfl (AHy<|AH5 ?_));exact ⟨_,(AH0 D9).symm,Ea,rfl,trivial⟩
       ·refine AIq<|AIr<|AIr<|AJt<|⟨_,AWk,(D4:(LiI)),?_,rfl,?_⟩
        ·exact AH0<|D5 _ (AH0<|AJc Bh Bi).symm
        ·exact Bg
      obtain ⟨He,Eb,rfl,Ca⟩:=D3;refine ⟨trivial,?_⟩;subst Eb;refine AQs<|AHy<|AHy<|AH5<|AH6<|APb 81129599728980454027655414562816 D0 (λx=>[(85,(.int .i64 x))]) (λx=>Ca.L) Ca ⟨rfl,trivial⟩ ?_;rintro Hf Hg Hh Hj Ec Bj Ed;unfold AUu at Bj;refine AH1<|AI3 rfl rfl (AH5<|AH3<|⟨_,rfl,λBl=>?_,λBl=>?_⟩)
      ·refine AIa<|q_t<|AH3 ?_;have Ee:=AJb Bj Bl;cases Ee
      ·refine AIq<|AIr<|AIr<|AJt<|q_b<|q_t<|AIf<|AHy<|AMy rfl rfl (AH7 ?_);exact ⟨_,(AH0<|Ed _ (AH0<|AJc Bj Bl).symm).symm,Ec,rfl,trivial⟩
    ·refine AIq<|AIr<|AIr<|AJt<|q_t<|AH3<|AH1<|AHy<|AJh AIk rfl (Ag.o2 p1).rd (AHy<|AH5<|AH6 ?_);have Bm:=Ag.sel [1] AHz;dsimp only [APr,AS0] at Bm;refine AOq 5316587464586005064888445085100834816 (λx:(Int) × (LiI) × LnA × LnN × LvA=>(x.1,x.2.1)) ((0,Ds,Ai,Aj,Ak):(Int) × (LiI) × LnA × LnN × LvA) (B7 _ (AH0<|AJc A9 Ba).symm) (λx=>[(108,(.int .i64 x.1))]) (λx=>Bm.L.set 0<|aO2 (cI .i64) 41 2 x.2.2.1 x.2.2.2.1 x.2.2.2.2 Af x.2.1) Bm ⟨rfl,trivial⟩ ?_;rintro ⟨Hk,Hl,Hm,Hn,Ho⟩ Hq Hr Hs Aa Bn Ef;unfold AUv at Bn;refine AH1<|AI3 rfl rfl (AH5<|AH3<|⟨_,rfl,λBo=>?_,λBo=>?_⟩)
     ·refine AIa<|q_t<|AH3<|AH6<|AH1<|AHy<|AH7<|AIf<|AHy<|AHy<|AHy<|AHy ?_;obtain ⟨Ht,Ae,Eg⟩:=AH2<|AJb Bn Bo;refine AKe AIk AIv (Aa.o2 p0) Ae λ_ Hu Bp=>AHy ?_;obtain ⟨Eh,Ei⟩:=ifN Eg;refine Avb AIi rfl ((Aa.o2 p0).rowI Bp Ae) ((Aa.o2 p0).rowCap Bp Ae) rfl Eh λHv Ej Hw=>?_;obtain ⟨Ek,El⟩:=ifN Ei;refine Axq AIi ARy rfl rfl trivial tt2 rfl rfl (Ej<|(Aa.o2 p0).rowI Bp Ae) AHz Ek λHx Hy Hz Em En Eo=>?_;have Ah:=Aa.no En Eo Em;refine AJr AIk rfl (Ah.o2 p1) rfl Ae λIa Ib Ep Ic Id=>Aax AIv (Ah.o2 p1) Ae Ep rfl rfl (Ah.o p0) (Ah.dj p0 p1 AHz) λIe Er Es Et=>AIu<|q_b<|q_t<|AIf<|AI0 rfl rfl (AHy<|AH5 ?_);exact ⟨(_,_,_,_,_),(AH0 El).symm,(Ah.m2 p0 p1 AHz Es Er λz hz=> .inl<|Et z hz).sel [1] AHz,rfl,trivial⟩
     ·refine AIq<|AIr<|AIr<|AJt<|q_t<|AH1<|AHy<|AIw<|AH7<|AIc ?_;obtain rfl:=AH0<|Ef _ (AH0<|AJc Bn Bo).symm;exact ⟨_,AJu,Aa.x,_,_,_,_,rfl,(Aa.o2 p0),Aa.s.sel [0] AHz⟩
theorem An2 {m:Int} (hx:0<=x) (hxm:x < m) (hm:2<=m) (Aa:m<=2147483647) (hf:2147483648 < fuel):Ok (APz fuel x m) λr=>(r.2=true->Afj m x r.1)/\(r.2=false->¬ ∃ y,Afj m x y):=by
 unfold APz;refine AH9 (Aaa (λs:Int × Int × Int × Int=>EI m x s.1 s.2.1 s.2.2.1 s.2.2.2) (λs=>s.2.1.toNat) (Q:=λe:Int × Int=> ∃ v,EI m x e.1 0 e.2 v) (λs hE=>?_) (EI.start hx hxm)<|by grind) λe he=>?_
 ·obtain ⟨a,b,u,v⟩:=s;dsimp only at hE ⊢;have Ad:0<=b:=hE.1;have Ab:0<=a:=hE.2.1;have ham:a<=m:=hE.2.2.1;unfold ATw;refine AI4 (λh=>AJ4 h ?_) λh=>?_
  ·have hbd:=hE.bounds AHx;rw [Int.tdiv_eq_ediv_of_nonneg Ab,AKn (x:=a / b) AHx AHx,AKn (x:=a / b * b) AHx AHx,AKn (x:=a - a / b * b) AHx AHx,AKn (x:=a / b * v) AHx AHx,AKn (x:=u - a / b * v) AHx AHx];have hs:=hE.step AHx;refine AH4 ⟨hs,?_⟩;have h2:=Int.emod_lt_of_pos a (b:=b) AHx;rw [Int.emod_def,Int.mul_comm] at h2;grind
  ·obtain rfl:b=0:=by omega
   exact AH4 ⟨v,hE⟩
 ·obtain ⟨v,hE⟩:=he;obtain ⟨a,u⟩:=e;dsimp only at hE ⊢;have hd:=EI.done hm hE;refine AJ4 AHx<|AJ4 AHx<|AH4 ⟨λh=>?_,λh=>?_⟩
  ·dsimp only at h ⊢;rw [Ah9 hm Aa];grind
  grind
theorem Az0 {n:Nat} (Aa:1<=n) (hn:n<=8) (hf:100 < fuel):AQh fuel (tab n n T)=some true:=by
 unfold AQh;rw [Aqd Aa hn hf];simp only [Option.bind_some,reduceIte];rw [Aqc<|AJo AHx,AJ5,AJf,if_pos rfl,decide_eq_true AHx]
theorem AZk {E:Type} {body:S->Option (S ⊕ E)} {s s':S} (h:body s=some (.inl s')):iter body (fuel + 1) s=iter body fuel s':=by simp [iter,h]
theorem AYs {E:Type} {body:S->Option (S ⊕ E)} {s:S} {e:E} (h:body s=some (.inr e)):iter body (fuel + 1) s=some e:=by simp [iter,h]
theorem A59 {f:Nat} {m:Int} (hm:2<=m) (Aa:m<=2147483647) (hg:∃ y,Afj m (x % m) y) (hf:2147483648 < f):∃ v,ASm f [[x]] m=some ([[v]],0)/\Afj m (x % m) v:=by
 obtain ⟨f,rfl⟩:∃ g,f=g + 3:=⟨f - 3,AHx⟩;have Ab:=Int.emod_nonneg x (show m≠0 by omega);have Ac:=Int.emod_lt_of_pos x (show 0 < m by omega);have h0:AQh (f + 3) [[x]]=some true:=Az0 (n:=1) (T:=λ_ _=>x) AHx AHx AHx;have h1:AK5 (f + 3) m=some 0:=by unfold AK5;grind
 have h2:ALd (f + 3) [[x]] m=some [[x % m]]:=Azr (n:=1) (F:=λ_ _=>x) AHx hm Aa AHx;generalize x % m=r at Ab Ac hg h2 ⊢;obtain ⟨⟨v,b⟩,h3,h4,h5⟩:=An2 Ab Ac hm Aa hf
 obtain rfl:b=true:=by
  grind
 have hv:=h4 rfl;dsimp only at hv;have Ae:=hv.1;have Aj:=hv.2.1;have e3:Int.tmod (w64<|1 * v) m=v:=by rw [Int.one_mul,AKn (x:=v) AHx AHx,Int.tmod_eq_emod_of_nonneg Ae,Int.emod_eq_of_lt Ae Aj]
 refine ⟨v,?_,hv⟩
 have a1:iter (λs:Int × List (List Int)=>AVs (f + 3) [[x]] [[r]] s.1 s.2) (f + 3) (0,[[r]])=some [[r,1]]:=by
  rw [AZk (s':=(1,[[r,1]])) rfl,AYs rfl]
 have a2:iter (λs:Int × Int=>AP0 (f + 3) [[r,1]] s.1 s.2) (f + 3) (1,0)=some 1:=by
  have b5:iter (λs:Int × Int=>AVr (f + 3) [[r,1]] s.1 s.2) (f + 3) (1,1)=some 1:=AYs rfl
  rw [AZk (s':=(1,1)) ?_,AYs rfl]
  show AP0 (f + 3) [[r,1]] 1 0=_
  unfold AP0
  rw [if_pos (by grind),show w64 (0 + 1)=1 from rfl,b5]
  rfl
 have a3:iter (λs:Int × List (List Int)=>AP1 (f + 3) m s.1 s.2) (f + 3) (0,[[r,1]])=some (Sum.inr [[Int.tmod (w64<|r * v) m,v]]):=by
  have Aq:m≠0:=by omega
  have Ar:iter (λs:Int × List (List Int)=>ANb (f + 3) m 0 [r,1] v s.1 s.2) (f + 3) (0,[[r,1]])=some [[Int.tmod (w64<|r * v) m,v]]:=by
   rw [AZk (s':=(1,[[Int.tmod (w64<|r * v) m,1]])) ?_,AZk (s':=(2,[[Int.tmod (w64<|r * v) m,v]])) ?_,AYs rfl]
   ·show ANb (f + 3) m 0 [r,1] v 1 [[Int.tmod (w64<|r * v) m,1]]=_
    unfold ANb
    rw [if_pos<|by grind]
    show (if m≠0 then some (Sum.inl ((2:Int),[[Int.tmod (w64<|r * v) m,Int.tmod (w64<|1 * v) m]])) else none)=_
    grind
   ·show ANb (f + 3) m 0 [r,1] v 0 [[r,1]]=_
    unfold ANb
    rw [if_pos<|by grind]
    show (if m≠0 then some (Sum.inl ((1:Int),[[Int.tmod (w64<|r * v) m,1]])) else none)=_
    rw [if_pos Aq]
  have Au:iter (λs:Int=>AUu (f + 3) 0 s) (f + 3) 0=some ():=AYs rfl
  rw [AZk (s':=(-1,[[Int.tmod (w64<|r * v) m,v]])) ?_,AYs rfl]
  show AP1 (f + 3) m 0 [[r,1]]=_
  unfold AP1
  rw [if_pos AHz,show gI [[r,1]] (0:Int)=some [r,1] from rfl]
  simp only [Option.bind_some]
  rw [show gI [r,1] (0:Int)=some r from rfl]
  simp only [Option.bind_some]
  rw [h3]
  simp only [Option.bind_some]
  rw [if_neg AHz,Ar]
  simp only [Option.bind_some]
  rw [Au]
  rfl
 have a4:iter (λs:Int × List (List Int)=>AUv (f + 3) [[x]] [[Int.tmod (w64<|r * v) m,v]] s.1 s.2) (f + 3) (0,[[Int.tmod (w64<|r * v) m,v]])=some [[v]]:=by
  rw [AZk (s':=(1,[[v]])) rfl,AYs rfl]
 unfold ASm;rw [h0];simp only [Option.bind_some];rw [if_neg AHz,h1];simp only [Option.bind_some];rw [if_neg AHz,h2];simp only [Option.bind_some];rw [a1];simp only [Option.bind_some];rw [a2];simp only [Option.bind_some];rw [show w64 (([[x]].length:Nat) - 1:Int)=0 from rfl,a3];grind
end Go.Proofs.YtegoafpaljeobaaGreatDoor
