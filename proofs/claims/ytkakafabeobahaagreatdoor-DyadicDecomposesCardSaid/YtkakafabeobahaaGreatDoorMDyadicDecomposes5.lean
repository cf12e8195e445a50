/-
  Texts of a proof, joined. Conditions stand in each statement.
-/
import Derived.Lib.SmallJoins
import Derived.Test.YtkakafabeobahaaGreatDoorMDyadicDecomposes4
set_option linter.unusedVariables false
set_option linter.unusedSimpArgs false
open Go
variable {r:Bool} {a3:Go.Proofs.YtkakafabeobahaaGreatDoor.LiI} {h:Go.QF.AGz} {A T G F H G':Go.QF.AS9} {B a1 Ac a2 most v d p a5 x y a4 a6 q:Int} {body:Int × List (List Int)->Option ((Int × List (List Int)) ⊕ List (List Int))} {M:List (List Int)} {i j s k fuel N q0 a K l:Nat} {g f:Nat->Int} {S E α:Type} {Ao Ae Ah:Value}
namespace Go.Proofs.YtkakafabeobahaaGreatDoor
open Go Go.QF
set_option maxRecDepth 100000
theorem A87 {body:S->Option (S ⊕ E)} {Q:E->Prop} (I:Nat->S->Prop) (hs:∀ k s,I k s->Ok (body s) λr=>match r with | .inl s'=> ∃ k',k' < k/\I k' s' | .inr e=>Q e):∀ {fuel k:Nat} {s0:S},I k s0->k < fuel->Ok (iter body fuel s0) Q:=by
 intro fuel;induction fuel with
 | zero=>omega
 | succ f ih=>
   intro k s0 h0 hf;obtain ⟨r,hr,hq⟩:=hs k s0 h0;cases r with
   | inl s'=>
     obtain ⟨k',h1,h2⟩:=hq;obtain ⟨e,he,hQ⟩:=ih h2 AGl;exact ⟨e,by simp [iter,hr,he],hQ⟩
   | inr e=>exact ⟨e,by simp [iter,hr],hq⟩
theorem A0h {n:Nat} (hj:j < i) (hi:i < n) (hs:s < n) (X:Nat->Int):psum (λk=>X k * Aqo A i j k s) n=X s + if s=i then Am1 A i j * X j else 0:=by
 have h1:∀ k,X k * Aqo A i j k s=X k * dl k s + (if k=j then (if s=i then Am1 A i j * X j else 0) else 0):=λk=>by
  unfold Aqo
  rw [AUb]
  split
  ·next h=>
   subst h
   split
   ·next h2=>subst h2;unfold dl;grind
   ·simp
  ·simp
 rw [AUi λk _=>h1 k,Agz,Axs X hs,Aji (a:=j) AGl λk _ hk=>if_neg hk,if_pos rfl]
theorem A0i {n r:Nat} (hj:j < i) (hi:i < n) (hr:r < n) (hs:s < n):AV3 n (AV3 n (trF<|Aqo A i j) A) (Aqo A i j) r s=Arn A i j (Am1 A i j) r s:=by
 have h2:∀ k,AV3 n (trF<|Aqo A i j) A r k=A r k + if r=i then Am1 A i j * A j k else 0:=λk=>by
  show psum (λl=>Aqo A i j l r * A l k) n=_
  rw [AUi (g:=λl=>A l k * Aqo A i j l r) λl _=>Int.mul_comm _ _]
  exact A0h hj hi hr λl=>A l k
 show psum (λk=>AV3 n (trF<|Aqo A i j) A r k * Aqo A i j k s) n=_;rw [A0h hj hi hs λk=>AV3 n (trF<|Aqo A i j) A r k];rw [h2,h2,Atl];grind
theorem Aya (j k s:Nat):AXx dl (j + 1) j k s=dl (tau j k) s:=by
 rw [Adx];unfold tau;grind
theorem A3q (j k:Nat):tau j (tau j k)=k:=by unfold tau;grind
theorem BE0 {n:Nat} (hj:j + 1 < n) (hk:k < n):tau j k < n:=by unfold tau;grind
theorem A3r {n:Nat} (hj:j + 1 < n) (hs:s < n) (X:Nat->Int):psum (λk=>X k * AXx dl (j + 1) j k s) n=X (tau j s):=by
 rw [Aji (a:=tau j s) (BE0 hj hs) λk hk hne=>?_]
 ·rw [Aya,A3q];unfold dl;grind
 ·rw [Aya];unfold dl;rw [if_neg λh=>hne<|by rw [<- h,A3q]];simp
theorem A3s {n r:Nat} (hj:j + 1 < n) (hr:r < n) (hs:s < n):AV3 n (AV3 n (trF<|AXx dl (j + 1) j) A) (AXx dl (j + 1) j) r s=swA A j r s:=by
 show psum (λk=>AV3 n (trF<|AXx dl (j + 1) j) A r k * AXx dl (j + 1) j k s) n=_;rw [A3r hj hs λk=>AV3 n (trF<|AXx dl (j + 1) j) A r k];show psum (λl=>AXx dl (j + 1) j l r * A l (tau j s)) n=_;rw [AUi (g:=λl=>A l (tau j s) * AXx dl (j + 1) j l r) λl _=>Int.mul_comm _ _];exact A3r hj hr λl=>A l<|tau j s
theorem Ah8 {n:Nat} {A' B B':AS9} (hA:∀ k,k < n->A i k=A' i k) (hB:∀ k,k < n->B k j=B' k j):AV3 n A B i j=AV3 n A' B' i j:=AUi λk hk=>by grind
theorem Atn {n:Nat} {U:AS9} (i j:Nat):trF (AV3 n T U) i j=AV3 n (trF U) (trF T) i j:=AUi λk _=>Int.mul_comm _ _
def A14 (n:Nat) (A0 T A:AS9):Prop:= ∀ i j,i < n->j < n->A i j=AV3 n (trF T) (AV3 n A0 T) i j
theorem Awy {n:Nat} {A0 U B:AS9} (H:A14 n A0 T A) (K:∀ i j,i < n->j < n->AV3 n (AV3 n (trF U) A) U i j=B i j):A14 n A0 (AV3 n T U) B:=λi j hi hj=>by
 rw [<- K i j hi hj,Ah7]
 have h1:AV3 n (trF U) (AV3 n A U) i j=AV3 n (trF U) (AV3 n (trF T)<|AV3 n A0<|AV3 n T U) i j:=by
  refine Ah8 (λ_ _=>rfl) λk hk=>?_;rw [Ah8 (A':=AV3 n (trF T)<|AV3 n A0 T) (λl hl=>H k l hk hl) λ_ _=>rfl,Ah7];refine Ah8 (λ_ _=>rfl) λl hl=>?_;rw [Ah7]
 rw [h1,<- Ah7];exact Ah8 (λk _=>(Atn i k).symm) λ_ _=>rfl
theorem A3t {n:Nat}:A14 n A dl A:=λi j hi hj=>by
 show _=psum (λk=>dl k i * AV3 n A dl k j) n
 rw [AUi (g:=λk=>AV3 n A dl k j * dl k i) λk _=>Int.mul_comm _ _,Axs (λk=>AV3 n A dl k j) hi]
 exact (A1q hj).symm
def dmN (n:Nat):Int:=if n<=6 then 2 ^ 59 else 9 ^ 8
def bdN (n:Nat):Int:=if n<=6 then 2 ^ 194 else 2 ^ 97
theorem Asl (n:Nat):9 ^ 8<=dmN n/\dmN n<=2 ^ 59:=by unfold dmN;split <;> decide
theorem BE1 (n:Nat):(bdN n).natAbs<=mN n:=by unfold bdN mN;split <;> decide
theorem BDh {m n:Nat} {D:Int} (hn:n<=m + 1) (hk:k<=m) (hD:0<=D):(1 + (k:Int) * ((2 ^ (n - 1) * (2 * D)) * (2 ^ (n - 1) * (2 * D)))) * D<=(1 + (m:Int) * ((2 ^ m * (2 * D)) * (2 ^ m * (2 * D)))) * D:=by
 have p0:0<=2 ^ (n - 1) * (2 * D):=Int.mul_nonneg (Int.le_of_lt<|Ao8 _) AGl;have h0:(2:Int) ^ (n - 1) * (2 * D)<=2 ^ m * (2 * D):=Int.mul_le_mul_of_nonneg_right (Apv AGl) AGl;have h1:=Int.mul_le_mul h0 h0 p0 AGl;have h2:=Int.mul_le_mul (show (k:Int)<=m by omega) h1 (Int.mul_nonneg p0 p0) AGl;exact Int.mul_le_mul_of_nonneg_right AGl hD
theorem BE2 {n:Nat} (hn:n<=8) (hk:k < n):(1 + (k:Int) * ((2 ^ (n - 1) * (2 * dmN n)) * (2 ^ (n - 1) * (2 * dmN n)))) * dmN n<=bdN n:=by
 unfold dmN bdN;rcases Nat.lt_or_ge 6 n with h | h
 ·rw [if_neg AGl,if_neg AGl];exact Int.le_trans (BDh (m:=7) AGl AGl AGn) AGn
 ·rw [if_pos h,if_pos h];exact Int.le_trans (BDh (m:=5) AGl AGl AGn) AGn
theorem BE3 (n:Nat):3 * dmN n<=bdN n:=by unfold dmN bdN;split <;> decide
theorem BCe {n t:Nat} (hn:n<=8) (h:Ax4 n (dmN n) A i t):∀ k,k < n->A k k<=bdN n:=λk hk=>by
 by_cases e:k=i
 ·subst e
  have hd:=(Asl n).1
  have h1:=Aww (p:=(2 ^ (n - 1) * (2 * dmN n)) * (2 ^ (n - 1) * (2 * dmN n))) (q:=1) h.sym h.pos h.hi h.dm (sq_nonneg _) AGn (λl hl=>by
   have h2:=h.lamb l hl
   have h3:(2:Int) ^ t * (2 * dmN n)<=2 ^ (n - 1) * (2 * dmN n):=Int.mul_le_mul_of_nonneg_right (Apv (by have:=h.ht;omega)) AGl
   have h4:=h.pos (l + 1) AGl
   have h5:=Int.mul_le_mul_of_nonneg_right h3<|Int.le_of_lt h4
   have h6:=Ao7 (x:=Mn l A k l) (y:=2 ^ (n - 1) * (2 * dmN n) * det (l + 1) A) AGl AGl
   grind) k 0 AGl
  rw [Aiz,show det 0 A=1 from rfl,Int.one_mul,Int.mul_one] at h1
  exact Int.le_trans h1<|BE2 hn hk
 ·exact Int.le_trans (h.rows k hk e)<|BE3 n
theorem A0j {n:Nat} (hs:Af8 n A) (hp:Ahx n A) (hB:∀ k,k < n->A k k<=B) (hi:i < n) (hj:j < n): -B<=A i j/\A i j<=B:=by
 have h1:=Asf (k:=0) hs hp (Nat.zero_le _) hi hj;simp only [Aiz] at h1;have p1:=Asg (k:=0) hs hp (Nat.zero_le _) hi;have p2:=Asg (k:=0) hs hp (Nat.zero_le _) hj;simp only [Aiz] at p1 p2;have h2:=Int.mul_le_mul (hB i hi) (hB j hj) p2<|Int.le_trans p1<|hB i hi;exact Az8 (Int.le_trans p1<|hB i hi)<|Int.le_trans h1 h2
theorem A3u {n:Nat} (hs:Af8 n A) (hp:Ahx n A) (hB:∀ k,k < n->A k k<=B) (hi:i < n) (hj:j < n):(A i j).natAbs<=B.natAbs:=by
 have:=A0j hs hp hB hi hj;omega
def Au7:Nat:=(2 ^ 158) ^ 10
theorem A0k:16 * (Au7 * Au7) < AWk:=by decide
def Awz:Nat:=(2 ^ 220) ^ 5
theorem BGw {n:Nat} {A0:AS9} (hn:n<=8) (hE:∀ i j,(A0 i j).natAbs<=2 ^ 60) (hs:Af8 n A0) (hp:Ahx n A0) (H:A14 n A0 T A) (hB:∀ k,k < n->A k k<=bdN n) (hk:k < n) (hs2:s < n):(T k s).natAbs<=Awz:=by
 have h1:=BB7 hs hp (λr=>T r s) hk
 have h2:bil n 0 A0 (λr=>T r s) (λr=>T r s)=A s s:=by
  rw [H s s hs2 hs2];show _=psum (λi=>T i s * psum (λj=>A0 i j * T j s) n) n;unfold bil;refine AUi λi _=>?_;rw [<- AZb];exact AUi λj _=>by rw [Aiz];grind
 rw [h2] at h1
 have h3:(Au1 n A0 k k).natAbs<=dBd (2 ^ 60) 9:=by
  refine Nat.le_trans (Arh (m:=2 ^ 60) λi j=>?_)<|Ahw AGn AGl;rw [AUb]
  split
  ·unfold dl;split <;> decide
  ·exact hE i j
 have h4:Au1 n A0 k k * A s s<=(dBd (2 ^ 60) 9:Nat) * bdN n:=by
  have p0:0<=A s s:=by
   have:A s s=bil n 0 A0 (λr=>T r s) (λr=>T r s):=h2.symm;rw [this];exact Alc hs hp _ n 0 AGl
  have b1:Au1 n A0 k k<=(dBd (2 ^ 60) 9:Nat):=by omega
  have b2:=Int.mul_le_mul_of_nonneg_right b1 p0;have b3:=Int.mul_le_mul_of_nonneg_left (hB s hs2) (show (0:Int)<=(dBd (2 ^ 60) 9:Nat) by omega);omega
 have h5:((dBd (2 ^ 60) 9:Nat):Int) * bdN n<=(Awz:Int) * (Awz:Int):=by unfold bdN;split <;> decide
 have h6:=Az8 (x:=T k s) (y:=(Awz:Int)) AGl<|Int.le_trans (Int.le_trans h1 h4) h5;omega
structure Avr (n:Nat) (A:AS9):Prop where
 sym:Af8 n A
 pos:Ahx n A
 sz:Ald A n
 lv:Am2 A n
 dt:det n A<=10000
structure RSt (n:Nat) (A0 A T:AS9) (i t:Nat):Prop where
 inv:Ax4 n (dmN n) A i t
 car:A14 n A0 T A
 dt:det n A=det n A0
def BHe (n:Nat) (A0:AS9) (k:Nat) (s:List (List Int) × List (List Int)):Prop:=
 ∃ A T i t,RSt n A0 A T i t/\s=(tab n n A,tab n n T)/\k=(A0d n A).toNat * 128 + (128 - (16 * i + t))
theorem A3v {n:Nat} (hp:Ahx n A):0<=A0d n A:=by
 have:∀ m,m<=n + 1->0<=psum (λk=>det k A) m:=λm=>by
  induction m with
  | zero=>intro _;exact Int.le_refl _
  | succ m ih=>intro h;have h1:=ih AGl;have h2:=hp m AGl;simp only [psum];omega
 exact this _<|Nat.le_refl _
theorem BCf {n:Nat} (hd:∀ k,k<=n->det k A<=dmN n):A0d n A<=(n + 1:Nat) * dmN n:=by
 have:∀ m,m<=n + 1->psum (λk=>det k A) m<=(m:Nat) * dmN n:=λm=>by
  induction m with
  | zero=>intro _;simp [psum]
  | succ m ih=>intro h;have h1:=ih AGl;have h2:=hd m AGl;simp only [psum];grind
 exact this _<|Nat.le_refl _
theorem A5f {n:Nat} (hn:n<=8) (hj:j < i) (hi:i < n) (hp:Ahx n A) (hb:∀ i j,i < n->j < n->(A i j).natAbs<=mN n):(Am1 A i j).natAbs<=3 * gN n:=by
 have b1:(Mn j A i j).natAbs<=gN n:=Au4 hn hi AGl AGl hb;have b2:(det (j + 1) A).natAbs<=gN n:=Ao9 hn AGl hb;have hd:=hp (j + 1) AGl;unfold Am1;rw [Int.natAbs_neg];have:=Int.natAbs_ediv_le_natAbs (2 * Mn j A i j + det (j + 1) A)<|2 * det (j + 1) A;omega
theorem A5g {n:Nat} {A0:AS9} (Ac:1<=n) (hn:n<=8) (hs:Af8 n A0) (hp:Ahx n A0) (hE:∀ i j,(A0 i j).natAbs<=2 ^ 60) (hD:∀ k,k<=n->det k A0<=dmN n) (hr:∀ k,k < n->A0 k k<=3 * dmN n) (hdt:det n A0<=10000) (hf:AWk < fuel):
 Ok (AZk fuel<|tab n n A0) λr=> ∃ A T,r=(tab n n A,tab n n T,0)/\Avr n A/\A14 n A0 T A/\det n A=det n A0/\ ∀ k,k < n->A k k<=3 * dmN n:=by
 have Ad:100 < fuel:=Nat.lt_of_le_of_lt AGn hf;have Ar:100000000 < fuel:=Nat.lt_of_le_of_lt AGn hf;have Aj:∀ i j,i < n->j < n->(A0 i j).natAbs<=mN n:=λi j _ _=>Nat.le_trans (hE i j)<|Nat.le_trans AGn<|Awo n;unfold AZk;refine AGw (Aqn Ac hn Aj Ad) λv hv=>?_;have Ao:=hv.2 ⟨hs,hp⟩;subst Ao;refine ATj (λh=>absurd rfl h) λ_=>AGw (AUa<|A3n hn Aj Ad) λb hb=>?_;subst hb;refine ATj (λh=>by simp [hdt] at h) λ_=>?_;refine AGw (AUa<|Axv (A:=tab n n A0) (by rw [ATt];omega) (λz hz=>by rw [Aq3 z hz];omega) (by rw [ATt];omega)) λx hx=>?_;subst hx;rw [ATt];refine AGw (AUa<|A3o Ac AGl Ad) λx hx=>?_;subst hx;dsimp only;refine AGw (A87 (BHe n A0) (Q:=λr=> ∃ A T,r=(tab n n A,tab n n T,0)/\Avr n A/\A14 n A0 T A/\det n A=det n A0/\ ∀ k,k < n->A k k<=3 * dmN n) (λk s hI=>?_) (k:=(A0d n A0).toNat * 128 + 128) ⟨A0,dl,0,0,⟨Au2 Ac hs hp hD hr,A3t,rfl⟩,rfl,rfl⟩ ?_) λr hr=>AGp hr
 ·obtain ⟨A,T,i,t,R,rfl,rfl⟩:=hI;have L:=R.inv;have hbd:=BCe hn L;have hb:∀ i j,i < n->j < n->(A i j).natAbs<=mN n:=λi j hi hj=>Nat.le_trans (A3u L.sym L.pos hbd hi hj)<|BE1 n;have hT:∀ k s,k < n->s < n->(T k s).natAbs<=Awz:=λk s hk Ab=>BGw hn hE hs hp R.car hbd hk Ab;have hTD:Awz<=Au7:=by decide
  have hg:=A8h n;have hgm:=BGn n;have Ap:=Awo n;have hMD:mN n<=Au7:=Nat.le_trans (Nat.le_trans (Nat.le_mul_of_pos_left _<|show 0 < 24 * gN n by omega)<|Nat.le_of_eq<|Nat.mul_assoc 24 (gN n)<|mN n) hgm;have hGD:3 * gN n<=Au7:=Nat.le_trans (Nat.le_trans (show 3 * gN n<=24 * gN n by omega)<|Nat.le_mul_of_pos_right _<|Nat.lt_of_lt_of_le AGn Ap)<|Nat.le_trans (Nat.le_of_eq<|Nat.mul_assoc 24 (gN n)<|mN n) hgm;unfold Adr;refine AGw (BEz Ac hn L.pos hb hf) λr hr=>?_
  have prod:∀ {U:AS9},(∀ i j,i < n->j < n->(U i j).natAbs<=3 * gN n)->(AWu fuel (tab n n A) (tab n n U)=some (tab n n<|AV3 n (AV3 n (trF U) A) U)/\AVi fuel (tab n n T) (tab n n U)=some (tab n n<|AV3 n T U)):=λ{U} hU=>by
   have Ak:∀ i j,i < n->j < n->(U i j).natAbs<=Au7:=λi j hi hj=>Nat.le_trans (hU i j hi hj) hGD
   refine ⟨BCc Ac AGl A0k (λi j hi hj=>Nat.le_trans (hb i j hi hj) hMD) Ak (λi j hi hj=>?_) Ad,?_⟩
   ·have h3:(AV3 n (trF U) A i j).natAbs=(psum (λl=>U l i * A l j) n).natAbs:=rfl
    have h4:∀ l,l < n->(U l i).natAbs<=3 * gN n/\(A l j).natAbs<=mN n:=λl hl=>⟨hU l i hl hi,hb l j hl hj⟩
    have h5:(psum (λl=>U l i * A l j) n).natAbs<=n * (3 * gN n * mN n):=by
     refine QF.psum_abs λl hl=>?_
     rw [Int.natAbs_mul]
     exact Nat.mul_le_mul (h4 l hl).1 (h4 l hl).2
    have h6:n * (3 * gN n * mN n)<=8 * (3 * gN n * mN n):=Nat.mul_le_mul_right _ hn
    have h7:8 * (3 * gN n * mN n)<=Au7:=Nat.le_trans (Nat.le_of_eq<|by rw [Nat.mul_assoc 3,<- Nat.mul_assoc 8]) hgm
    omega
   ·unfold AVi
    rw [A84 Ac AGl A0k (λi j hi hj=>Nat.le_trans (hT i j hi hj) hTD) Ak Ad]
    rfl
  rcases hr with ⟨rfl,hsz,hlv⟩ | ⟨i',j,hji,hi',hbad,hsz,hzi,hlv,rfl⟩ | ⟨j,hj,hbad,hsz,hlv,rfl⟩
  ·dsimp only;refine ATj (λ_=>?_) λh=>absurd rfl h;have hrest:=Apu hn L λl hl=>hsz i l hl L.hi;refine AGw (AUa<|BGs Ac AGl (λi j hi hj=>Nat.lt_of_le_of_lt (A3u L.sym L.pos hrest hi hj) (by have:=Asl n;omega)) Ad) λx hx=>AGp ?_;subst hx;exact ⟨A,T,rfl,⟨L.sym,L.pos,hsz,hlv,by rw [R.dt];exact hdt⟩,R.car,R.dt,hrest⟩
  ·dsimp only;refine ATj (λh=>absurd h AGn) λ_=>?_
   have hU:∀ r s,r < n->s < n->(Aqo A i' j r s).natAbs<=3 * gN n:=λr s hr Ab=>by
    have hdl:∀ a b,(dl a b).natAbs<=3 * gN n:=λa b=>by unfold dl;split <;> omega
    unfold Aqo
    rw [AUb]
    split
    ·split
     ·exact A5f hn hji hi' L.pos hb
     ·exact hdl _ _
    ·exact hdl _ _
   obtain ⟨e1,e2⟩:=prod hU;refine AGw (AUa e1) λx hx=>AGw (AUa e2) λy hy=>AGp ?_;subst hx;subst hy;obtain ⟨L2,hm⟩:=A5d hn L hi' hji hbad hsz hzi hlv;have hsum:A0d n (Arn A i' j<|Am1 A i' j)=A0d n A:=AUi λk _=>Ajp hji;refine ⟨_,?_,Arn A i' j<|Am1 A i' j,AV3 n T<|Aqo A i' j,i',i' - j,⟨L2,Awy R.car λr s hr Ab=>A0i hji hi' hr Ab,by rw [Ajp hji];exact R.dt⟩,?_,rfl⟩
   ·omega
   ·rw [Ai0 λr s hr Ab=>A0i hji hi' hr Ab]
  ·dsimp only;refine ATj (λh=>absurd h AGn) λ_=>?_
   have hU:∀ r s,r < n->s < n->(AXx dl (j + 1) j r s).natAbs<=3 * gN n:=λr s hr Ab=>by
    rw [Aya];unfold dl;split <;> omega
   obtain ⟨e1,e2⟩:=prod hU;refine AGw (AUa e1) λx hx=>AGw (AUa e2) λy hy=>AGp ?_;subst hx;subst hy;obtain ⟨L2,hm⟩:=A5e hn L hj hbad (λr l h1 h2=>hsz r l h1 AGl) λr hr=>hlv r AGl;refine ⟨_,?_,swA A j,AV3 n T<|AXx dl (j + 1) j,0,0,⟨L2,Awy R.car λr s hr Ab=>A3s hj hr Ab,by rw [A3g AGl];exact R.dt⟩,?_,rfl⟩
   ·have h1:=A3v L.pos;have h2:=A3v L2.pos;have:=L.hi;have:=L.ht;omega
   ·rw [Ai0 λr s hr Ab=>A3s hj hr Ab]
 ·have h1:=BCf hD;have h2:((n + 1:Nat):Int) * dmN n<=9 * dmN n:=Int.mul_le_mul_of_nonneg_right AGl (by have:=Asl n;omega);have h3:9 * dmN n<=9 * 2 ^ 59:=Int.mul_le_mul_of_nonneg_left (Asl n).2 AGn;have h4:9 * 2 ^ 59 * 128 + 128 < AWk:=by decide
  omega
def part (n i:Nat) (G:AS9):List (List Int):=AU9 n λr=>if r < i then AU9 n (G r) else []
theorem Ad5 {n r:Nat} (hr:r < i) (hn:r < n):(part n i G)[r]? =some (AU9 n<|G r):=by
 unfold part;rw [ATm hn,if_pos hr]
theorem Ah3 {n:Nat} (hn:i < n):(part n i G)[i]? =some []:=by
 unfold part;rw [ATm hn,if_neg<|Nat.lt_irrefl i]
theorem Af9 {n r:Nat} (hr:r < i):(part n i G).set r (AU9 n g)=part n i (AUw G r g):=by
 unfold part;rw [AXd];refine AUq λk _=>?_;by_cases h:k=r
 ·subst h;rw [if_pos rfl,if_pos hr,AUt]
 ·rw [if_neg h,AXc _ _ h]
theorem Aga {n:Nat}:(part n i G).set i (AU9 n g)=part n (i + 1) (AUw G i g):=by
 unfold part;rw [AXd];refine AUq λk _=>?_;by_cases h:k=i
 ·subst h;rw [if_pos rfl,if_pos AGl,AUt]
 ·rw [if_neg h,AXc _ _ h];grind
theorem Aih (n:Nat) (G:AS9):part n n G=tab n n G:=by
 unfold part;rw [Ajv];exact AUq λk hk=>if_pos hk
theorem Aii (n:Nat) (G:AS9):List.replicate n ([]:List Int)=part n 0 G:=by
 rw [AXs];exact AUq λk _=>(if_neg AGl).symm
theorem Aqq {L:List Int} {q:Nat} (hq:q < 4611686018427387904):Ok (if (L.length:Int)<=((q:Nat):Int) then (some ((0:Int),((q:Nat):Int))) else ((gI L<|w64<|(w64<|((q:Nat):Int) + 1) - 1).bind λx=>(some ((w64 x),(w64<|((q:Nat):Int) + 1))))) λe=> ∃ p:Nat,e.2=(p:Int)/\p<=q + 1:=by
 refine ATj (λh=>AGp ⟨q,rfl,AGl⟩) λh=>?_;have hl:q < L.length:=by omega
 refine ATy (n:=q) (List.getElem?_eq_getElem hl) (by rw [AVq (x:=(q:Int) + 1) AGl AGl,wk AGl];omega)<|AGp ⟨q + 1,?_,AGl⟩;rw [AVq (x:=(q:Int) + 1) AGl AGl];omega
theorem Aod (x:Int) (m:Nat) (hm:0 < m):0<=Int.tmod (w64<|IntKind.wrap .u8 x) (m:Int)/\Int.tmod (w64<|IntKind.wrap .u8 x) (m:Int) < m:=by
 have h1:IntKind.wrap .u8 x=x % 256:=by rw [IntKind.wrap_u8]
 rw [h1];have a1:=Int.emod_nonneg x (show (256:Int)≠0 by decide);have a2:=Int.emod_lt_of_pos x (show (0:Int) < 256 by decide);rw [wk AGl,Int.tmod_eq_emod_of_nonneg a1];exact ⟨Int.emod_nonneg _ AGl,Int.emod_lt_of_pos _ AGl⟩
def dgF (f:Nat->Int) (r c:Nat):Int:=if c=r then f r else 0
theorem BGx {L:List Int} (hN:w64 (1 + (Int.tmod (w64 a1) Ac))=(N:Int)) (Af:N<=8) (Ag:q0<=1000) (hf:100 < fuel):
 Ok (iter (λs=>AX4 fuel a1 L Ac s.1 s.2.1 s.2.2) fuel (0,(q0:Int),(List.replicate (Int.toNat<|w64<|1 + (Int.tmod (w64 a1) Ac)) ([]:List Int)))) λe=> ∃ (q:Nat) (f:Nat->Int),e=((q:Int),tab N N<|dgF f)/\q<=q0 + N/\ ∀ r,r < N->1<=f r/\f r<=6:=by
 refine AT8 (λi s=> ∃ (q:Nat) (f:Nat->Int),s=(((i:Nat):Int),(q:Int),part N i<|dgF f)/\i<=N/\q<=q0 + i/\ ∀ r,r < i->1<=f r/\f r<=6) N ⟨q0,λ_=>0,by rw [hN,Int.toNat_natCast,Aii N<|dgF λ_=>0];rfl,AGl,AGl,λr hr=>by omega⟩ AGl λi s hi hI=>?_;obtain ⟨q,f,rfl,hiN,hq,Ad⟩:=hI;unfold AX4;dsimp only;rw [List.length_replicate,hN,Int.toNat_natCast];refine ATj (λh=>AVc AGl ?_) λh=>AGp ?_
 ·have hi':i < N:=by omega
  refine ATy (Ah3 hi') rfl ?_;rw [AUx,AXs N (0:Int),Aga];refine ATy (Ad5 AGl hi') rfl ?_;rw [AUt];refine AGw (Q:=λe:Int × Int=>0<=e.1/\e.1 < 6/\ ∃ p:Nat,e.2=(p:Int)/\p<=q + 1) (AGw (Aqq (L:=L) (q:=q) AGl) λe he=>?_) λe he=>ATy (ATm hi') rfl (AGp ⟨AGl,?_⟩)
  ·exact AGp ⟨(Aod _ 6 AGn).1,(Aod _ 6 AGn).2,he⟩
  ·obtain ⟨h1,h2,p,h3,h4⟩:=he;refine ⟨p,λr=>if r=i then 1 + e.1 else f r,?_,AGl,AGl,λr hr=>?_⟩
   ·rw [AVq (x:=(i:Int) + 1) AGl AGl,AVq (x:=1 + e.1) AGl AGl,h3,AUx,AUx,AXd,Af9 AGl];refine congrArg (λz=>(((i + 1:Nat):Int),(p:Int),z))<|AUq λr hr=>?_;split
    ·refine AUq λc hc=>?_;rw [AUb];unfold dgF;dsimp only;split
     ·omega
     ·next h=>rw [AUb,if_neg h]
    ·rfl
   grind
 ·obtain rfl:i=N:=by omega
  exact ⟨q,f,by rw [Aih],AGl,Ad⟩
theorem BE4 {L:List Int} (hN:w64 (1 + (Int.tmod (w64 a1) Ac))=(N:Int)) (Af:N<=8) (Ag:q0<=1000) (hf:100 < fuel):
 Ok (iter (λs=>AXm fuel a1 L Ac s.1 s.2.1 s.2.2) fuel (0,(q0:Int),(List.replicate (Int.toNat<|w64<|1 + (Int.tmod (w64 a1) Ac)) ([]:List Int)))) λe=> ∃ (q:Nat) (f:Nat->Int),e=((q:Int),tab N N<|dgF f)/\q<=q0 + N/\ ∀ r,r < N->1<=f r/\f r<=9:=by
 refine AT8 (λi s=> ∃ (q:Nat) (f:Nat->Int),s=(((i:Nat):Int),(q:Int),part N i<|dgF f)/\i<=N/\q<=q0 + i/\ ∀ r,r < i->1<=f r/\f r<=9) N ⟨q0,λ_=>0,by rw [hN,Int.toNat_natCast,Aii N<|dgF λ_=>0];rfl,AGl,AGl,λr hr=>by omega⟩ AGl λi s hi hI=>?_;obtain ⟨q,f,rfl,hiN,hq,Ad⟩:=hI;unfold AXm;dsimp only;rw [List.length_replicate,hN,Int.toNat_natCast];refine ATj (λh=>AVc AGl ?_) λh=>AGp ?_
 ·have hi':i < N:=by omega
  refine ATy (Ah3 hi') rfl ?_;rw [AUx,AXs N (0:Int),Aga];refine ATy (Ad5 AGl hi') rfl ?_;rw [AUt];refine AGw (Q:=λe:Int × Int=>0<=e.1/\e.1 < 9/\ ∃ p:Nat,e.2=(p:Int)/\p<=q + 1) (AGw (Aqq (L:=L) (q:=q) AGl) λe he=>?_) λe he=>ATy (ATm hi') rfl (AGp ⟨AGl,?_⟩)
  ·exact AGp ⟨(Aod _ 9 AGn).1,(Aod _ 9 AGn).2,he⟩
  ·obtain ⟨h1,h2,p,h3,h4⟩:=he;refine ⟨p,λr=>if r=i then 1 + e.1 else f r,?_,AGl,AGl,λr hr=>?_⟩
   ·rw [AVq (x:=(i:Int) + 1) AGl AGl,AVq (x:=1 + e.1) AGl AGl,h3,AUx,AUx,AXd,Af9 AGl];refine congrArg (λz=>(((i + 1:Nat):Int),(p:Int),z))<|AUq λr hr=>?_;split
    ·refine AUq λc hc=>?_;rw [AUb];unfold dgF;dsimp only;split
     ·omega
     ·next h=>rw [AUb,if_neg h]
    ·rfl
   grind
 ·obtain rfl:i=N:=by omega
  exact ⟨q,f,by rw [Aih],AGl,Ad⟩
theorem BE5 {L:List Int} (hN:w64 (1 + (Int.tmod (w64 a1) Ac))=(N:Int)) (Af:N<=8) (Ag:q0<=1000) (hf:100 < fuel):
 Ok (iter (λs=>AXn fuel a1 L Ac s.1 s.2.1 s.2.2) fuel (0,(q0:Int),(List.replicate (Int.toNat<|w64<|1 + (Int.tmod (w64 a1) Ac)) ([]:List Int)))) λe=> ∃ (q:Nat) (f:Nat->Int),e=((q:Int),tab N N<|dgF f)/\q<=q0 + N/\ ∀ r,r < N->1<=f r/\f r<=1:=by
 refine AT8 (λi s=> ∃ (q:Nat) (f:Nat->Int),s=(((i:Nat):Int),(q:Int),part N i<|dgF f)/\i<=N/\q<=q0 + i/\ ∀ r,r < i->1<=f r/\f r<=1) N ⟨q0,λ_=>0,by rw [hN,Int.toNat_natCast,Aii N<|dgF λ_=>0];rfl,AGl,AGl,λr hr=>by omega⟩ AGl λi s hi hI=>?_;obtain ⟨q,f,rfl,hiN,hq,Ad⟩:=hI;unfold AXn;dsimp only;rw [List.length_replicate,hN,Int.toNat_natCast];refine ATj (λh=>AVc AGl ?_) λh=>AGp ?_
 ·have hi':i < N:=by omega
  refine ATy (Ah3 hi') rfl ?_;rw [AUx,AXs N (0:Int),Aga];refine ATy (Ad5 AGl hi') rfl ?_;rw [AUt];refine AGw (Q:=λe:Int × Int=>0<=e.1/\e.1 < 1/\ ∃ p:Nat,e.2=(p:Int)/\p<=q + 1) (AGw (Aqq (L:=L) (q:=q) AGl) λe he=>?_) λe he=>ATy (ATm hi') rfl (AGp ⟨AGl,?_⟩)
  ·exact AGp ⟨(Aod _ 1 AGn).1,(Aod _ 1 AGn).2,he⟩
  ·obtain ⟨h1,h2,p,h3,h4⟩:=he;refine ⟨p,λr=>if r=i then 1 + e.1 else f r,?_,AGl,AGl,λr hr=>?_⟩
   ·rw [AVq (x:=(i:Int) + 1) AGl AGl,AVq (x:=1 + e.1) AGl AGl,h3,AUx,AUx,AXd,Af9 AGl];refine congrArg (λz=>(((i + 1:Nat):Int),(p:Int),z))<|AUq λr hr=>?_;split
    ·refine AUq λc hc=>?_;rw [AUb];unfold dgF;dsimp only;split
     ·omega
     ·next h=>rw [AUb,if_neg h]
    ·rfl
   grind
 ·obtain rfl:i=N:=by omega
  exact ⟨q,f,by rw [Aih],AGl,Ad⟩
theorem BE6 {L:List Int} (hN:w64 (1 + (Int.tmod (w64 a1) Ac))=(N:Int)) (Af:N<=8) (Ag:q0<=1000) (hf:100 < fuel):
 Ok (iter (λs=>AXo fuel a1 L Ac s.1 s.2.1 s.2.2) fuel (0,(q0:Int),(List.replicate (Int.toNat<|w64<|1 + (Int.tmod (w64 a1) Ac)) ([]:List Int)))) λe=> ∃ (q:Nat) (f:Nat->Int),e=((q:Int),tab N N<|dgF f)/\q<=q0 + N/\ ∀ r,r < N->1<=f r/\f r<=2:=by
 refine AT8 (λi s=> ∃ (q:Nat) (f:Nat->Int),s=(((i:Nat):Int),(q:Int),part N i<|dgF f)/\i<=N/\q<=q0 + i/\ ∀ r,r < i->1<=f r/\f r<=2) N ⟨q0,λ_=>0,by rw [hN,Int.toNat_natCast,Aii N<|dgF λ_=>0];rfl,AGl,AGl,λr hr=>by omega⟩ AGl λi s hi hI=>?_;obtain ⟨q,f,rfl,hiN,hq,Ad⟩:=hI;unfold AXo;dsimp only;rw [List.length_replicate,hN,Int.toNat_natCast];refine ATj (λh=>AVc AGl ?_) λh=>AGp ?_
 ·have hi':i < N:=by omega
  refine ATy (Ah3 hi') rfl ?_;rw [AUx,AXs N (0:Int),Aga];refine ATy (Ad5 AGl hi') rfl ?_;rw [AUt];refine AGw (Q:=λe:Int × Int=>0<=e.1/\e.1 < 2/\ ∃ p:Nat,e.2=(p:Int)/\p<=q + 1) (AGw (Aqq (L:=L) (q:=q) AGl) λe he=>?_) λe he=>ATy (ATm hi') rfl (AGp ⟨AGl,?_⟩)
  ·exact AGp ⟨(Aod _ 2 AGn).1,(Aod _ 2 AGn).2,he⟩
  ·obtain ⟨h1,h2,p,h3,h4⟩:=he;refine ⟨p,λr=>if r=i then 1 + e.1 else f r,?_,AGl,AGl,λr hr=>?_⟩
   ·rw [AVq (x:=(i:Int) + 1) AGl AGl,AVq (x:=1 + e.1) AGl AGl,h3,AUx,AUx,AXd,Af9 AGl];refine congrArg (λz=>(((i + 1:Nat):Int),(p:Int),z))<|AUq λr hr=>?_;split
    ·refine AUq λc hc=>?_;rw [AUb];unfold dgF;dsimp only;split
     ·omega
     ·next h=>rw [AUb,if_neg h]
    ·rfl
   grind
 ·obtain rfl:i=N:=by omega
  exact ⟨q,f,by rw [Aih],AGl,Ad⟩
theorem BE7 {L:List Int} {F0:AS9} (Ag:N<=8) (Ah:q0<=1000) (Ad:∀ i j,i < N->j < N->(F0 i j).natAbs<=9) (hf:100 < fuel):
 Ok (iter (λs=>AX5 fuel L (tab N N F0) s.1 s.2.1 s.2.2) fuel (0,(q0:Int),tab N N F0)) λe=> ∃ (q:Nat) (F:AS9),e=((q:Int),tab N N F)/\q<=q0 + 8 * N/\ ∀ i j,i < N->j < N->(F i j).natAbs<=9:=by
 refine AT8 (λi s=> ∃ (q:Nat) (F:AS9),s=(((i:Nat):Int),(q:Int),tab N N F)/\i<=N/\q<=q0 + 8 * i/\ ∀ i j,i < N->j < N->(F i j).natAbs<=9) N ⟨q0,F0,rfl,AGl,AGl,Ad⟩ AGl λi s hi hI=>?_;obtain ⟨q,F,rfl,hiN,hq,hF⟩:=hI;unfold AX5;dsimp only;rw [ATt];refine ATj (λh=>?_) λh=>AGp ⟨q,F,rfl,AGl,hF⟩;have hi':i < N:=by omega
 refine AGw (AT8 (λj s=> ∃ (p:Nat) (F:AS9),s=(((j:Nat):Int),(p:Int),tab N N F)/\j<=i/\p<=q + j/\ ∀ i j,i < N->j < N->(F i j).natAbs<=9) i (Q:=λe=> ∃ (p:Nat) (F:AS9),e=((p:Int),tab N N F)/\p<=q + i/\ ∀ i j,i < N->j < N->(F i j).natAbs<=9) ⟨q,F,rfl,AGl,AGl,hF⟩ AGl λj s hj hJ=>?_) λe he=>?_
 ·obtain ⟨p,F,rfl,hji,hp,hF⟩:=hJ;unfold Aai;dsimp only;refine ATj (λh=>?_) λh=>AGp ⟨p,F,rfl,AGl,hF⟩;have hj':j < i:=by omega
  refine ATy (ATv hi') rfl (AGw (Aqq (L:=L) (q:=p) AGl) λe he=>ATy (ATm AGl) rfl ?_);obtain ⟨p2,h3,h4⟩:=he;rw [AUx,AUx,AXd,show (AU9 N λc=>if c=j then Int.tmod e.1 3 else F i c)=(List.range N).map λc=>if c=j then Int.tmod e.1 3 else F i c from rfl,Aeu];refine ATy (ATv AGl) rfl (ATy (ATv hi') rfl (ATy (ATm AGl) rfl (ATy (ATm hi') rfl (AGp ⟨AGl,p2,?_⟩))));generalize Af:(AUw F i λc=>if c=j then Int.tmod e.1 3 else F i c)=F1
  have hv:(Int.tmod e.1 3).natAbs<=9:=by
   grind
  have hF1b:∀ i j,i < N->j < N->(F1 i j).natAbs<=9:=λa b ha hb=>by
   subst Af
   rw [AUb]
   split
   ·split
    ·exact hv
    grind
   grind
  refine ⟨AUw F1 j λc=>if c=i then F1 i j else F1 j c,?_,AGl,AGl,λa b ha hb=>?_⟩
  ·rw [wk AGl,h3,AUx,AUx,AXd,show (AU9 N λc=>if c=i then F1 i j else F1 j c)=(List.range N).map λc=>if c=i then F1 i j else F1 j c from rfl,Aeu];rfl
  ·rw [AUb];split
   ·split
    ·grind
    grind
   grind
 ·obtain ⟨p,F,rfl,hp,hF⟩:=he;exact AGp ⟨AGl,p,F,by rw [wk AGl];rfl,AGl,AGl,hF⟩
theorem A3w {b:Bool} (Ag:1<=N) (Ah:N<=8) (hf:100 < fuel):Ok (AY8 fuel (N:Int) b) λe=> ∃ F,e=tab N N F/\ ∀ i j,i < N->j < N->(F i j).natAbs<=2:=by
 unfold AY8;refine AVc AGl ?_;rw [Int.toNat_natCast];refine AGw (AT8 (λi s=> ∃ G:AS9,s=(((i:Nat):Int),part N i G)/\i<=N/\ ∀ r c,(G r c).natAbs<=2) N (Q:=λe=> ∃ F,e=tab N N F/\ ∀ i j,i < N->j < N->(F i j).natAbs<=2) ⟨λ_ _=>0,by rw [Aii N λ_ _=>0];rfl,AGl,λ_ _=>Nat.zero_le _⟩ AGl λi s hi hI=>?_) λe he=>AGp he;obtain ⟨G,rfl,hiN,hG⟩:=hI;unfold Ae0;dsimp only;rw [List.length_replicate,Int.toNat_natCast];refine ATj (λh=>AVc AGl ?_) λh=>AGp ?_
 ·have hi':i < N:=by omega
  refine ATy (Ah3 hi') rfl ?_;rw [AUx,AXs N (0:Int),Aga];refine ATy (Ad5 AGl hi') rfl ?_;rw [AUt];refine ATy (ATm hi') rfl ?_;rw [AUx,AUx,AXd,Af9 AGl]
  have Ab:∀ r c,(AUw (AUw G i λx=>0) i (λc=>if c=i then 2 else 0) r c).natAbs<=2:=λr c=>by
   rw [AUb]
   split
   ·split <;> decide
   ·rw [AUb]
    grind
  generalize (AUw (AUw G i λx=>0) i λc=>if c=i then 2 else 0)=G1 at Ab;have wi:w64 ((i:Int) + 1)=((i + 1:Nat):Int):=by rw [wk AGl];omega
  refine AGw (Q:=λk=>k=(i:Int) - 1∨k=(i:Int) - 2) ?_ λk hk=>?_
  ·have w1:w64 ((i:Int) - 1)=(i:Int) - 1:=wk AGl;have w2:w64 ((i:Int) - 2)=(i:Int) - 2:=wk AGl;rw [w1,w2];exact ATj (λ_=>ATj (λ_=>ATj (λ_=>AGp<|.inr rfl) λ_=>AGp<|.inl rfl) λ_=>AGp<|.inl rfl) λ_=>AGp<|.inl rfl
  ·refine ATj (λh=>?_) λh=>AGp ⟨AGl,G1,by rw [wi],AGl,Ab⟩;obtain ⟨k,rfl⟩:∃ q:Nat,k=q:=⟨k.toNat,AGl⟩;have hki:k < i:=by omega
   refine ATy (Ad5 AGl hi') rfl (ATy (Ad5 AGl AGl) rfl (ATy (ATm AGl) rfl ?_));rw [AUx,AUx,AXd,Af9 AGl]
   have Af:∀ r c,(AUw G1 i (λc=>if c=k then -1 else G1 i c) r c).natAbs<=2:=λr c=>by
    rw [AUb]
    grind
   generalize (AUw G1 i λc=>if c=k then -1 else G1 i c)=G2 at Af;refine ATy (Ad5 AGl AGl) rfl (ATy (ATm hi') rfl (AGp ⟨AGl,AUw G2 k λc=>if c=i then -1 else G2 k c,?_,AGl,λr c=>?_⟩))
   ·rw [wi,AUx,AUx,AXd,Af9 AGl]
   ·rw [AUb];grind
 ·obtain rfl:i=N:=by omega
  exact ⟨G,Aih _ _,λa b _ _=>hG a b⟩
theorem A0l {n B:Nat} (hB:B < 9223372036854775808) (h:∀ i j,i < n->j < n->(F i j).natAbs<=B):∀ z∈tab n n F,∀ x∈z,-9223372036854775808<=x/\x<=9223372036854775807:=λz hz x hx=>by
 obtain ⟨i,hi⟩:=List.getElem?_of_mem hz
 have hin:i < n:=by have:=(List.getElem?_eq_some_iff.1 hi).1;rwa [ATt] at this
 rw [ATv hin] at hi
 cases hi
 obtain ⟨j,hj⟩:=List.getElem?_of_mem hx
 have hjn:j < n:=by have:=(List.getElem?_eq_some_iff.1 hj).1;rwa [AT1] at this
 rw [ATm hjn] at hj
 grind
theorem BCg {n:Nat} (hn:1<=n) (Aa:n<=16):okM (tab n n F)=true:=by
 have hc:Agp (tab n n F)=n:=A6g hn;unfold okM;rw [decide_eq_true_iff,ATt,hc];exact ⟨hn,Aa,λz hz=>by rw [Aq3 z hz];omega⟩
theorem A15 {n:Nat} (hn:1<=n) (Aa:n<=16) (h:∀ i j,i < n->j < n->(F i j).natAbs<=9223372036854775807) (hf:17 < fuel):AWw fuel (tab n n F)=some (tab n n F):=by
 rw [BDc (A0l AGn h) hf,if_pos<|BCg hn Aa]
theorem BE8 {n:Nat} (Ab:1<=n) (hn:n<=8) (hb:∀ i j,i < n->j < n->(F i j).natAbs<=1000000) (hf:100 < fuel):Ok (Abg fuel<|tab n n F) λr=>r=true↔Af8 n F/\Ahx n F/\det n F<=10000:=by
 have Ac:∀ i j,i < n->j < n->(F i j).natAbs<=mN n:=λi j hi hj=>Nat.le_trans (hb i j hi hj)<|Nat.le_trans AGn<|Awo n;unfold Abg;refine AGw (AUa<|A15 Ab AGl (λi j hi hj=>Nat.le_trans (hb i j hi hj) AGn) AGl) λx hx=>?_;subst hx;refine AGw (Aqn Ab hn Ac hf) λv hv=>ATj (λh=>?_) λh=>AGp<|Iff.intro (λh2=>nomatch h2) λh2=>absurd (hv.2 ⟨h2.1,h2.2.1⟩) h;have h1:=hv.1 h;refine AGw (AUa<|Arj hn (Nat.le_refl _) Ac AGl) λd hd=>AGw (Q:=(· =10000)) ⟨10000,if_pos AGl,rfl⟩ λt ht=>AGw (AUa (a:=Amt d t) rfl) λc hc=>AGp ?_;subst hd;subst ht;subst hc;rw [decide_eq_true_iff,Ax6];grind
theorem BE9 {n:Nat} (hn:n<=8) (h:∀ r,r < n->1<=f r/\f r<=2):Af8 n (dgF f)/\Ahx n (dgF f)/\det n (dgF f)<=10000:=by
 have hd:∀ k,k<=n->det k (dgF f)=AZ2 f k:=λk hk=>by
  rw [Amw (F:=dgF f) (λc i hc hci hi=>by unfold dgF;omega)]
  exact Asx λi _=>by unfold dgF;rw [if_pos rfl]
 have hb:∀ k,k<=n->0 < AZ2 f k/\AZ2 f k<=2 ^ k:=λk=>by
  induction k with
  | zero=>intro _;simp [AZ2]
  | succ k ih=>
    intro hk
    have h1:=ih AGl
    have h2:=h k AGl
    simp only [AZ2]
    refine ⟨Int.mul_pos h1.1 AGl,?_⟩
    rw [Int.pow_succ]
    exact Int.mul_le_mul h1.2 h2.2 AGl<|Int.le_of_lt<|Ao8 k
 refine ⟨λi j hi hj=>?_,λk hk=>by grind,?_⟩
 ·unfold dgF;grind
 ·rw [hd n<|Nat.le_refl n];have:=(hb n<|Nat.le_refl n).2;have h2:=Apv hn;omega
structure BGy (n:Nat) (A:AS9):Prop where
 n1:1<=n
 n8:n<=8
 sym:Af8 n A
 pos:Ahx n A
 bd:∀ i j,i < n->j < n->(A i j).natAbs<=9
 dt:det n A<=10000
theorem A3x {n m:Nat} (h:∀ r,r < n->1<=f r/\f r<=(m:Int)):∀ i j,i < n->j < n->(dgF f i j).natAbs<=m:=λi j hi hj=>by
 unfold dgF
 grind
theorem BFa {L L2:List Int} (h1:0<=a1/\a1 < 256) (hm:1<=most/\most<=8) (hf:100 < fuel):Ok (AXe fuel a1 a2 L L2 most) λr=> ∃ n A,r=tab n n A/\BGy n A/\(n:Int)=1 + Int.tmod a1 most:=by
 have t1:=Int.emod_nonneg a1 (show most≠0 by omega);have t2:=Int.emod_lt_of_pos a1 (show 0 < most by omega);have t3:Int.tmod a1 most=a1 % most:=Int.tmod_eq_emod_of_nonneg h1.1
 have hN:w64 (1 + Int.tmod (w64 a1) most)=((1 + a1 % most).toNat:Int):=by
  rw [AVq (x:=a1) AGl AGl,t3,wk AGl];omega
 generalize hNN:(1 + a1 % most).toNat=N at hN;have Ad:1<=N:=by omega
 have Ab:N<=8:=by omega
 unfold AXe;refine AVc AGl<|AGw (Q:=λe=> ∃ (q:Nat) (F:AS9),e=(tab N N F,(q:Int))/\q<=200/\ ∀ i j,i < N->j < N->(F i j).natAbs<=9) (AGw (Q:=λ_=>True) ?_ λk _=>ATj (λ_=>?_) λ_=>ATj (λ_=>?_) λ_=>ATj (λ_=>?_) λ_=>ATj (λ_=>?_) λ_=>?_) λe he=>?_
 ·exact ATj (λ_=>AGp trivial) λ_=>ATj (λ_=>AGp trivial) λ_=>ATj (λ_=>AGp trivial) λ_=>AGp trivial
 ·refine AGw (Q:=λe=> ∃ (q:Nat) (F:AS9),e=(tab N N F,(q:Int))/\q<=200/\ ∀ i j,i < N->j < N->(F i j).natAbs<=9) (AGw (Q:=λe=> ∃ (q:Nat) (f:Nat->Int),e=(tab N N<|dgF f,(q:Int))/\q<=8/\ ∀ r,r < N->1<=f r/\f r<=6) (AVc (by rw [hN];omega)<|AGw (BGx (q0:=0) (L:=L) hN Ab AGl hf) λe he=>AGp ?_) λe he=>?_) λe he=>AGp he
  ·obtain ⟨q,f,rfl,h2,h3⟩:=he;grind
  ·obtain ⟨q,f,rfl,h2,h3⟩:=he;refine AGw (BE7 (L:=L) (q0:=q) Ab AGl (λi j hi hj=>Nat.le_trans (A3x (m:=6) h3 i j hi hj) AGn) hf) λe he=>AGp ?_;obtain ⟨q,F,rfl,h4,h5⟩:=he;grind
 ·rw [hN];refine AGw (A3w Ad Ab hf) λF hF=>?_;obtain ⟨F,rfl,hF⟩:=hF;refine ATy (n:=0) (ATv AGl) rfl (ATy (n:=0) (ATm AGl) rfl (AGw (Q:=λe:Int × Int=>0<=e.1/\e.1 < 3/\ ∃ p:Nat,e.2=(p:Int)/\p<=0 + 1) (AGw (Aqq (L:=L) (q:=0) AGl) λe he=>AGp ⟨(Aod _ 3 AGn).1,(Aod _ 3 AGn).2,he⟩) λe he=>AGp ?_));obtain ⟨c1,c2,p,c3,c4⟩:=he;have c5:=hF 0 0 AGl AGl;refine ⟨p,AUw F 0 λc=>if c=0 then F 0 0 + e.1 else F 0 c,?_,AGl,λi j hi hj=>?_⟩
  ·rw [c3,wk AGl];refine congrArg (λz=>(z,(p:Int))) ?_;show (tab N N F).set 0 ((AU9 N<|F 0).set 0 (F 0 0 + e.1))=_;rw [AXd];exact Aeu
  ·rw [AUb];split
   ·grind
   grind
 ·rw [hN];refine AGw (A3w Ad Ab hf) λF hF=>?_;obtain ⟨F,rfl,hF⟩:=hF;have w1:w64 ((N:Int) - 1)=((N - 1:Nat):Int):=by rw [wk AGl];omega
  rw [w1];refine ATy (ATv AGl) rfl (ATy (ATm AGl) rfl (AGw (Q:=λe:Int × Int=>0<=e.1/\e.1 < 2/\ ∃ p:Nat,e.2=(p:Int)/\p<=0 + 1) (AGw (Aqq (L:=L) (q:=0) AGl) λe he=>AGp ⟨(Aod _ 2 AGn).1,(Aod _ 2 AGn).2,he⟩) λe he=>AGp ?_));obtain ⟨c1,c2,p,c3,c4⟩:=he;have c5:=hF (N - 1) (N - 1) AGl AGl;refine ⟨p,AUw F (N - 1) λc=>if c=N - 1 then F (N - 1) (N - 1) + e.1 else F (N - 1) c,?_,AGl,λi j hi hj=>?_⟩
  ·rw [c3,wk AGl,AUx,AUx];refine congrArg (λz=>(z,(p:Int))) ?_;rw [AXd];exact Aeu
  ·rw [AUb];split
   ·split
    ·omega
    grind
   grind
 ·refine AGw (Q:=λe=> ∃ (q:Nat) (F:AS9),e=(tab N N F,(q:Int))/\q<=200/\ ∀ i j,i < N->j < N->(F i j).natAbs<=9) (AVc (by rw [hN];omega)<|AGw (BE4 (q0:=0) (L:=L) hN Ab AGl hf) λe he=>AGp ?_) λe he=>AGp he;obtain ⟨q,f,rfl,h2,h3⟩:=he;exact ⟨q,dgF f,rfl,AGl,λi j hi hj=>A3x (m:=9) h3 i j hi hj⟩
 ·refine AGw (Q:=λe=> ∃ (q:Nat) (F:AS9),e=(tab N N F,(q:Int))/\q<=200/\ ∀ i j,i < N->j < N->(F i j).natAbs<=9) (AVc (by rw [hN];omega)<|AGw (BE5 (q0:=0) (L:=L) hN Ab AGl hf) λe he=>AGp ?_) λe he=>AGp he;obtain ⟨q,f,rfl,h2,h3⟩:=he;exact ⟨q,dgF f,rfl,AGl,λi j hi hj=>Nat.le_trans (A3x (m:=1) h3 i j hi hj) AGn⟩
 ·obtain ⟨q,F,rfl,h2,h3⟩:=he;dsimp only;refine AGw (BE8 Ad Ab (λi j hi hj=>Nat.le_trans (h3 i j hi hj) AGn) hf) λb hb=>ATj (λhn=>?_) λhn=>AGp ?_
  ·refine AGw (Q:=λe=> ∃ f:Nat->Int,e.1=tab N N (dgF f)/\ ∀ r,r < N->1<=f r/\f r<=2) (AVc (by rw [hN];omega)<|AGw (BE6 (q0:=q) (L:=L) hN Ab AGl hf) λe he=>AGp ?_) λe he=>AGp ?_
   ·grind
   ·obtain ⟨f,h4,h5⟩:=he;obtain ⟨d1,d2,d3⟩:=BE9 Ab h5;exact ⟨N,dgF f,h4,⟨Ad,Ab,d1,d2,λi j hi hj=>Nat.le_trans (A3x (m:=2) h5 i j hi hj) AGn,d3⟩,by rw [t3];omega⟩
  ·have hg:Af8 N F/\Ahx N F/\det N F<=10000:=hb.1 (by simpa using hn);exact ⟨N,F,rfl,⟨Ad,Ab,hg.1,hg.2.1,h3,hg.2.2⟩,by rw [t3];omega⟩
theorem BFb {L L2:List Int} (h1:0<=a1/\a1 < 256) (hm:1<=most/\most<=8) (hf:AWk < fuel):Ok (AXf fuel a1 a2 L L2 most) λr=> ∃ n A,r=tab n n A/\1<=n/\(n:Int)<=most/\Avr n A/\ ∀ k,k < n->A k k<=3 * dmN n:=by
 have hf2:100 < fuel:=Nat.lt_of_le_of_lt AGn hf;unfold AXf;refine AGw (BFa h1 hm hf2) λg hg=>?_;obtain ⟨n,A,rfl,G,hn⟩:=hg;have t2:=Int.emod_lt_of_pos a1 (show 0 < most by omega);have t3:Int.tmod a1 most=a1 % most:=Int.tmod_eq_emod_of_nonneg h1.1
 let A0:AS9:=λi j=>if i < n/\j < n then A i j else 0
 have hA0:∀ i j,i < n->j < n->A0 i j=A i j:=λi j hi hj=>if_pos ⟨hi,hj⟩;have e:tab n n A=tab n n A0:=Ai0 λi j hi hj=>(hA0 i j hi hj).symm;refine AGw (AUa<|A15 G.n1 AGl (λi j hi hj=>Nat.le_trans (G.bd i j hi hj) AGn) AGl) λx hx=>?_;subst hx;rw [e];have hp:Ahx n A0:=λk hk=>by rw [AU6 λi j hi hj=>hA0 i j AGl AGl];exact G.pos k hk
 have hs:Af8 n A0:=λi j hi hj=>by rw [hA0 i j hi hj,hA0 j i hj hi];exact G.sym i j hi hj
 have hE:∀ i j,(A0 i j).natAbs<=9:=λi j=>by
  show (if i < n/\j < n then A i j else 0).natAbs<=9
  split
  ·next h=>exact G.bd i j h.1 h.2
  ·decide
 have hh:=A8v hs hp (B:=9) AGn (λi hi=>by grind)
 refine AGw (A5g G.n1 G.n8 hs hp (λi j=>Nat.le_trans (hE i j) AGn) (λk hk=>?_) (λk hk=>?_) ?_ hf) λr hr=>AGp ?_
 ·have h2:=hh k hk
  have h3:(9:Int) ^ k<=9 ^ 8:=by
   have:=Nat.pow_le_pow_right (show 0 < 9 by omega) (show k<=8 by omega);grind
  exact Int.le_trans h2<|Int.le_trans h3 (Asl n).1
 ·have:=hE k k;have:=Asl n;omega
 ·rw [AU6 hA0];exact G.dt
 ·obtain ⟨A',T,rfl,R,-,-,hd⟩:=hr;exact ⟨n,A',rfl,G.n1,AGl,R,hd⟩
theorem A89 (h1:LvF A k) (h2:SzF A (k + 1) k) (hp:0 < det (k + 1) A):det (k + 1) A * det (k + 1) A<=2 * (det k A * det (k + 2) A):=by
 unfold LvF at h1;unfold SzF at h2;have h3:(2 * Mn k A (k + 1) k) * (2 * Mn k A (k + 1) k)<=det (k + 1) A * det (k + 1) A:=Ao7 AGl h2.2;grind
theorem Afw {x y:Int} (h0:0<=x) (h:x<=y):∀ k:Nat,x ^ k<=y ^ k
 | 0=>by simp
 | k + 1=>by
   rw [Int.pow_succ,Int.pow_succ]
   exact Int.mul_le_mul (Afw h0 h k) h h0<|Int.le_trans (Int.pow_nonneg h0)<|Afw h0 h k
def tri:Nat->Nat
 | 0=>0
 | k + 1=>tri k + (k + 1)
theorem A16 {n:Nat} (hp:Ahx n A) (hs:Ald A n) (hl:Am2 A n):∀ k,k + 1<=n->det k A ^ (k + 1)<=det (k + 1) A ^ k * 2 ^ tri k:=by
 intro k;induction k with
 | zero=>intro _;simp [det,tri]
 | succ k ih=>
   intro hk;have ih:=ih AGl;have p0:=hp k AGl;have p1:=hp (k + 1) AGl;have p2:=hp (k + 2) AGl;have h1:=A89 (hl k AGl) (hs (k + 1) k AGl AGl) p1;generalize det k A=a at *
   generalize det (k + 1) A=b at *
   generalize det (k + 2) A=c at *
   have h2:(b * b) ^ (k + 1)<=(2 * (a * c)) ^ (k + 1):=Afw (Int.le_of_lt<|Int.mul_pos p1 p1) h1 _;rw [Int.mul_pow,Int.mul_pow,Int.mul_pow] at h2;have h3:a ^ (k + 1) * c ^ (k + 1)<=b ^ k * 2 ^ tri k * c ^ (k + 1):=Int.mul_le_mul_of_nonneg_right ih<|Int.le_of_lt<|Int.pow_pos p2;have h4:2 ^ (k + 1) * (a ^ (k + 1) * c ^ (k + 1))<=2 ^ (k + 1) * (b ^ k * 2 ^ tri k * c ^ (k + 1)):=Int.mul_le_mul_of_nonneg_left h3<|Int.le_of_lt<|Ao8 _;have h5:=Int.le_trans h2 h4;have e1:b ^ (k + 1) * b ^ (k + 1)=b ^ k * b ^ (k + 1 + 1):=by grind
   have e2:(2:Int) ^ (k + 1) * (b ^ k * 2 ^ tri k * c ^ (k + 1))=b ^ k * (c ^ (k + 1) * 2 ^ tri (k + 1)):=by
    have:(2:Int) ^ tri (k + 1)=2 ^ tri k * 2 ^ (k + 1):=by rw [<- Int.pow_add];rfl
    rw [this];grind
   rw [e1,e2] at h5;exact Int.le_of_mul_le_mul_left h5<|Int.pow_pos p1
def dU:Nat->Int
 | 8=>10000
 | 7=>35777
 | 6=>64000
 | 5=>57243
 | 4=>25600
 | _=>10000
theorem BGz (k:Nat):dU k<=64000:=by unfold dU;split <;> omega
theorem BDi (k:Nat):10000<=dU k:=by unfold dU;split <;> omega
theorem BCh:∀ k,k < 8->dU (k + 1) ^ k * 2 ^ tri k < (dU k + 1) ^ (k + 1):=by decide
theorem A5h {n:Nat} (hn:n<=8) (hp:Ahx n A) (hs:Ald A n) (hl:Am2 A n) (hd:det n A<=10000):∀ m k,k + m=n->det k A<=dU k:=by
 intro m
 induction m with
 | zero=>
    intro k hk;obtain rfl:k=n:=by omega
    exact Int.le_trans hd (BDi _)
 | succ m ih=>
   intro k hk
   have h1:=ih (k + 1) AGl
   have h2:=A16 hp hs hl k AGl
   have p0:=hp k AGl
   have p1:=hp (k + 1) AGl
   rcases Int.lt_or_le (dU k) (det k A) with h | h
   ·exfalso
    have h3:(dU k + 1) ^ (k + 1)<=det k A ^ (k + 1):=Afw (by have:=BDi k;omega) AGl _
    have h4:det (k + 1) A ^ k * 2 ^ tri k<=dU (k + 1) ^ k * 2 ^ tri k:=Int.mul_le_mul_of_nonneg_right (Afw (Int.le_of_lt p1) h1 k)<|Int.le_of_lt<|Ao8 _
    have h5:=BCh k AGl
    omega
   ·exact h
theorem Aro {n:Nat} (hn:n<=8) (R:Avr n A) (hk:k<=n):0 < det k A/\det k A<=64000:=
 ⟨R.pos k hk,Int.le_trans (A5h hn R.pos R.sz R.lv R.dt (n - k) k AGl)<|BGz k⟩
theorem Arp {n:Nat} (hn:n<=8) (R:Avr n A) (hi:i < n) (hj:j < n): -192000<=A i j/\A i j<=192000:=
 A0j R.sym R.pos (λk hk=>A0a (Dm:=64000) hn R.sym R.pos hk (λk hk=>(Aro hn R hk).2) λl hl=>R.sz k l hl hk) hi hj
structure RB (n:Nat) (A:AS9) (k:Nat):Prop where
 pos:∀ j,k < j->j<=n->0 < det j A
 lt:∀ j,k < j->j < n->det j A < 65536
 sz:∀ l i,k<=l->l < i->i < n->SzF A i l
 lv:∀ l,k<=l->l + 1 < n->LvF A l
 dt:det n A<=10000
theorem BFc {m:Nat} (h0:0 < det k A) (hF:∀ i j,i < m + 1->j < m + 1->F i j=Mn k A (k + i) (k + j)) (hi:i < m) (hj:j < m):Ali F (det k A) i j=Mn (k + 1) A (k + 1 + i) (k + 1 + j):=by
 unfold Ali;rw [hF 0 0 AGl AGl,hF (i + 1) (j + 1) AGl AGl,hF (i + 1) 0 AGl AGl,hF 0 (j + 1) AGl AGl,Nat.add_zero,Apr AGl,Int.mul_tdiv_cancel_left _ AGl];grind
theorem A0m {n:Nat}:∀ (m k:Nat) (F:AS9),k + m=n->1<=m->0 < det k A->(∀ i j,i < m->j < m->F i j=Mn k A (k + i) (k + j))->(Akb m F (det k A)=true↔RB n A k):=by
 intro m
 induction m with
 | zero=>omega
 | succ m ih=>
   intro k F hk _ h0 hF
   have Ad:F 0 0=det (k + 1) A:=by rw [hF 0 0 AGl AGl];exact Aep k A
   cases m with
   | zero=>
     obtain rfl:k + 1=n:=hk
     show decide (0 < F 0 0/\F 0 0<=10000)=true↔_
     rw [decide_eq_true_iff,Ad]
     exact ⟨λh=>⟨λj h1 h2=>by grind,λj h1 h2=>by omega,λl i h1 h2 h3=>by omega,λl h1 h2=>by omega,h.2⟩,λh=>⟨h.pos (k + 1) AGl<|Nat.le_refl _,h.dt⟩⟩
   | succ m=>
     have hN:∀ i j,i < m + 1->j < m + 1->Ali F (det k A) i j=Mn (k + 1) A (k + 1 + i) (k + 1 + j):=λi j hi hj=>BFc h0 hF hi hj
     have hS:Aka (m + 1 + 1) F↔(0 < det (k + 1) A/\det (k + 1) A < 65536)/\ ∀ i,k < i->i < n->SzF A i k:=by
      unfold Aka
      rw [Ad]
      refine and_congr_right λ_=>⟨λh i h1 h2=>?_,λh i h1 h2=>?_⟩
      ·have h3:=h (i - k) AGl AGl
       rw [hF (i - k) 0 AGl AGl,show k + (i - k)=i by omega] at h3
       unfold SzF
       grind
      ·have h3:=h (k + i) AGl AGl
       unfold SzF at h3
       grind
     have hL:Ap3 F (det k A)↔LvF A k:=by
      unfold Ap3 LvF
      rw [Ad,hN 0 0 AGl AGl,Nat.add_zero,Aep (k + 1) A,hF 1 0 AGl AGl,Nat.add_zero]
      grind
     show (decide (Aka (m + 1 + 1) F) && (decide (Ap3 F<|det k A) && Akb (m + 1) (Ali F<|det k A) (F 0 0)))=true↔_
     rw [Bool.and_eq_true,Bool.and_eq_true,decide_eq_true_iff,decide_eq_true_iff,hS,hL,Ad]
     constructor
     ·rintro ⟨⟨⟨h1,h2⟩,h3⟩,h4,h5⟩
      have R:=(ih (k + 1) _ AGl AGl h1 hN).1 h5
      refine ⟨λj a b=>?_,λj a b=>?_,λl i a b c=>?_,λl a b=>?_,R.dt⟩
      ·by_cases e:j=k + 1
       ·grind
       ·exact R.pos j AGl b
      ·by_cases e:j=k + 1
       ·grind
       ·exact R.lt j AGl b
      ·by_cases e:l=k
       ·grind
       ·exact R.sz l i AGl b c
      ·by_cases e:l=k
       ·grind
       ·exact R.lv l AGl b
     ·intro R
      have h1:=R.pos (k + 1) AGl AGl
      exact ⟨⟨⟨h1,R.lt (k + 1) AGl AGl⟩,λi a b=>R.sz k i (Nat.le_refl k) a b⟩,R.lv k (Nat.le_refl k) AGl,(ih (k + 1) _ AGl AGl h1 hN).2 ⟨λj a b=>R.pos j AGl b,λj a b=>R.lt j AGl b,λl i a b c=>R.sz l i AGl b c,λl a b=>R.lv l AGl b,R.dt⟩⟩
def Arq (M:List (List Int)):Prop:=(1<=M.length/\M.length<=8)/\(∀ z∈M,z.length=M.length)/\Avr M.length (ent M)
theorem Akq (M:List (List Int)):isRed M=true↔Arq M:=by
 unfold isRed;rw [Bool.and_eq_true];constructor
 ·rintro ⟨h1,h2⟩;have S:=Auw h1;have R:=(A0m (A:=ent M) (n:=M.length) M.length 0 (ent M) AGl S.1.1 (by simp [det]) λi j _ _=>by rw [Aiz,Nat.zero_add,Nat.zero_add]).1 (by simpa [det] using h2);refine ⟨S.1,S.2.1,λi j hi hj=>(S.2.2 i j hi hj).1,λk hk=>?_,λr l h3 h4=>R.sz l r (Nat.zero_le _) h3 h4,λl hl=>R.lv l (Nat.zero_le _) hl,R.dt⟩;rcases Nat.eq_zero_or_pos k with h | h
  ·subst h;simp [det]
  ·exact R.pos k h hk
 ·rintro ⟨h1,h2,R⟩;refine ⟨(Aaj ⟨h1,h2,λi j hi hj=>⟨R.sym i j hi hj,?_,?_⟩⟩).symm,?_⟩
  ·have:=Arp h1.2 R hi hj;omega
  ·have:=Arp h1.2 R hi hj;omega
  ·have h3:=(A0m (A:=ent M) (n:=M.length) M.length 0 (ent M) AGl h1.1 (by simp [det]) λi j _ _=>by rw [Aiz,Nat.zero_add,Nat.zero_add]).2 ⟨λj _ hj=>R.pos j hj,λj _ hj=>by have:=Aro h1.2 R (k:=j) AGl;omega,λl i _ a b=>R.sz i l a b,λl _ hl=>R.lv l hl,R.dt⟩;simpa [det] using h3
theorem A17 {r c:Nat} (hr:1<=r) (Ad:r<=16) (hc:1<=c) (Ae:c<=16) (hf:100 < fuel):AU8 fuel (tab r c F)=some ((r:Int),(c:Int),true):=by
 apply ok_eq;unfold AU8;rw [ATt];refine AGw (Q:=λex=>match ex with | .inl _=>False | .inr _=>True) (ATj (λh=>by omega) λh=>ATj (λh2=>by omega) λh2=>AGp trivial) λex hex=>?_
 cases ex with
 | inl e=>exact hex.elim
 | inr u=>
   dsimp only
   refine AGw (AT8 (λi (s:Int)=>s=i) r (Q:=λex=>match ex with | .inl _=>False | .inr _=>True) rfl AGl λi s hi hI=>?_) λex hex=>?_
   ·subst hI
    unfold AYs
    rw [ATt]
    refine ATj (λh=>ATy (ATv AGl) rfl ?_) λh=>AGp trivial
    rw [AT1]
    refine ATj (λh2=>by omega) λh2=>ATj (λh3=>by omega) λh3=>ATy (n:=0) (ATv AGl) rfl (ATj (λh4=>?_) λh4=>AGp ⟨AGl,wk AGl⟩)
    rw [AT1] at h4;omega
   ·cases ex with
    | inl e=>exact hex.elim
    | inr u=>exact ATy (n:=0) (ATv AGl) rfl (AGp<|by rw [AT1])
theorem A5i {n:Nat} (Ah:1<=n) (hn:n<=8) (hb:∀ i j,i < n->j < n->(F i j).natAbs<=mN n) (hf:100 < fuel):Ok (AZa fuel<|tab n n F) λr=>r=true↔Ald F n/\Am2 F n:=by
 unfold AZa;refine AGw (AUa<|Asi Ah hn hb hf) λx hx=>?_;subst hx;dsimp only;refine AGw (AT8 (λi s=>s=((i:Nat):Int)/\i<=n/\Ald F i/\Am2 F i) n (Q:=λex=>match ex with | .inl e=>e=false/\¬ (Ald F n/\Am2 F n) | .inr _=>Ald F n/\Am2 F n) ⟨rfl,Nat.zero_le _,λr l h1 h2=>by omega,λr h=>by omega⟩ AGl λi s hi hI=>?_) λex hex=>?_
 ·obtain ⟨rfl,hin,hsz,hlv⟩:=hI;unfold Acv;rw [ATt];refine ATj (λh=>?_) λh=>AGp ?_
  ·have hi':i < n:=by omega
   refine AGw (AT8 (λk s=>s=((k:Nat):Int)/\k<=i/\ ∀ l,l < k->SzF F i l) i (Q:=λex=>match ex with | .inl e=>e=false/\¬ (Ald F n/\Am2 F n) | .inr _=> ∀ l,l < i->SzF F i l) ⟨rfl,Nat.zero_le _,λl h1=>by omega⟩ AGl λk s hk hK=>?_) λex hex=>?_
   ·obtain ⟨rfl,hki,hz⟩:=hK;unfold Acu;refine ATj (λh2=>?_) λh2=>AGp ?_
    ·have hki':k < i:=by omega
     refine AGw (AUa<|A3j hn hi' AGl hb hf) λb Ab=>?_;subst Ab;refine ATj (λh3=>AGp ⟨rfl,λh4=>?_⟩) λh3=>AGp ⟨AGl,by rw [wk AGl];omega,AGl,λl hl=>?_⟩
     ·have:=h4.1 i k hki' hi';rw [<- Atm] at this;grind
     ·have hgood:SzF F i k:=by rw [<- Atm];simpa using h3
      grind
    grind
   ·cases ex with
    | inl r=>exact AGp hex
    | inr e=>
      have hsz':Ald F (i + 1):=λr l h1 h2=>by
       rcases Nat.lt_or_ge r i with h3 | h3
       ·exact hsz r l h1 h3
       grind
      dsimp only
      have nx:w64 ((i:Int) + 1)=((i + 1:Nat):Int):=by rw [wk AGl];omega
      refine ATj (λh4=>?_) λh4=>AGp ⟨AGl,nx,AGl,hsz',λr hr=>by omega⟩
      obtain ⟨j,rfl⟩:∃ j,i=j + 1:=⟨i - 1,AGl⟩
      refine AGw (A0f hn hi' hb hf) λb Ab=>?_
      refine ATj (λh5=>AGp ⟨rfl,λh6=>?_⟩) λh5=>AGp ⟨AGl,nx,AGl,hsz',λr hr=>?_⟩
      ·rw [Ab.2<|h6.2 j hi'] at h5;cases h5
      ·have hgood:LvF F j:=Ab.1 (by simpa using h5)
       rcases Nat.lt_or_ge r j with h6 | h6
       ·exact hlv r AGl
       grind
  grind
 ·cases ex with
  | inl r=>exact AGp (Iff.intro (λh=>by grind) λh=>absurd h hex.2)
  | inr u=>exact AGp ⟨λ_=>hex,λ_=>rfl⟩
def A0n (M:List (List Int)):Prop:= ∀ z∈M,∀ x∈z,-9223372036854775808<=x/\x<=9223372036854775807
theorem Au8 (hM:A0n M) (hf:100 < fuel):AU7 fuel M=some (isRed M):=by
 have key:Ok (AU7 fuel M) λr=>r=true↔Arq M:=by
  unfold AU7
  refine AGw (AUa<|Asy hM AGl) λx hx=>?_
  subst hx
  by_cases hk:okM M=true
  ·rw [if_pos hk]
   dsimp only
   have Af:=hk
   unfold okM at Af
   rw [decide_eq_true_iff] at Af
   obtain ⟨a1,a2,a3⟩:=Af
   have hne:∃ z,M[0]? =some z:=⟨M[0],List.getElem?_eq_getElem AGl⟩
   obtain ⟨z,hz⟩:=hne
   have hc:Agp M=z.length:=Akp hz
   have Aj:=a3 z<|List.mem_of_getElem? hz
   have hT:M=tab M.length (Agp M) (ent M):=Ar0 λz hz=>(a3 z hz).2.2
   refine ATj (λ_=>?_) λh=>absurd rfl h
   by_cases hsq:Agp M=M.length/\M.length<=8
   ·have Ai:M=tab M.length M.length (ent M):=by grind
    have hb:∀ i j,i < M.length->j < M.length->(ent M i j).natAbs<=mN M.length:=λi j hi hj=>by
     have hl:M[i].length=M.length:=by grind
     rw [A6f hi AGl]
     have h1:=hM _ (List.getElem_mem hi) _<|List.getElem_mem (show j < M[i].length by omega)
     have h2:(9223372036854775808:Nat)<=mN M.length:=Nat.le_trans AGn<|Awo _
     omega
    have hR:Arq M↔Avr M.length (ent M):=⟨λh=>h.2.2,λh=>⟨⟨a1,hsq.2⟩,λz hz=>by grind,h⟩⟩
    rw [hR]
    generalize hF:ent M=F at *
    generalize hL:M.length=n at *
    rw [Ai]
    refine AGw (Aqn a1 hsq.2 hb hf) λv hv=>ATj (λh=>?_) λh=>AGp ⟨λh2=>(nomatch h2),λh2=>absurd (hv.2 ⟨h2.sym,h2.pos⟩) h⟩
    have h1:=hv.1 h
    refine AGw (AUa<|A3n hsq.2 hb hf) λb Ad=>?_
    subst Ad
    refine ATj (λh2=>?_) λh2=>AGp ⟨λh3=>(nomatch h3),λh3=>absurd (decide_eq_true h3.dt) h2⟩
    refine AGw (A5i a1 hsq.2 hb hf) λb Ad=>AGp ⟨λh3=>?_,λh3=>Ad.2 ⟨h3.sz,h3.lv⟩⟩
    exact ⟨h1.1,h1.2,(Ad.1 h3).1,(Ad.1 h3).2,of_decide_eq_true h2⟩
   ·have hnr: ¬ Arq M:=λh=>hsq ⟨by rw [hc];exact h.2.1 z<|List.mem_of_getElem? hz,h.1.2⟩
    refine AGw (Q:=λv=>v=3) ?_ λv hv=>ATj (λh=>by omega) λ_=>AGp ⟨λh=>(nomatch h),λh=>absurd h hnr⟩
    unfold AVt
    refine AGw (Q:=λe=>e.2=false∨(8:Int) < e.1) ?_ λe he=>?_
    ·unfold AWx
     rw [hT]
     refine AGw (AUa<|A17 a1 a2 AGl AGl hf) λx hx=>?_
     subst hx
     dsimp only
     refine ATj (λh=>absurd h AGn) λ_=>ATj (λh=>AGp<|.inl rfl) λh=>AGp<|.inr ?_
     omega
    ·obtain ⟨e1,e2⟩:=e
     dsimp only at he ⊢
     refine ATj (λh=>AGp rfl) λh=>ATj (λ_=>AGp rfl) λh2=>?_
     grind
  ·rw [if_neg hk]
   refine ATj (λh=>(nomatch h)) λ_=>AGp ⟨λh=>(nomatch h),λh=>absurd ?_ hk⟩
   obtain ⟨h1,h2,_⟩:=h
   unfold okM
   rw [decide_eq_true_iff]
   have hc:Agp M=M.length:=by rw [Akp<|List.getElem?_eq_getElem<|show 0 < M.length by omega];grind
   grind
 obtain ⟨r,h1,h2⟩:=key;rw [h1];congr 1;rw [<- Akq] at h2;grind
end Go.Proofs.YtkakafabeobahaaGreatDoor
namespace Go.Proofs.YtkakafabeobahaaGreatDoor
open Go Go.QF
open Go.ChangeShapes Go.WideShapes Go.ChangeAt Go.RowKit
set_option maxRecDepth 100000
theorem A5j:Tryz.prog.cellsOf 24=4:=by kernel_rfl
theorem wf_i64 {z:Int} (h:(Lit.int .i64 z).wf=true): -9223372036854775808<=z/\z<=9223372036854775807:=by
 simp [Lit.wf,IntKind.min,IntKind.max,IntKind.bits,IntKind.signed] at h;omega
theorem BFd {H:Type} {enc:TypeId × Value->H} {W:World} {v:Value} {x:DataW H × List MemPlace} (hf:DataW.trod enc Tryz.prog W 0 (λ_=>true) true fuel 25 [v]=some x):∃ M,AV4 (cI .i64) W.heap v M/\A0n M:=by
 rcases Deep.open_int_rows Tryz.underlying25 Tryz.underlying61 Tryz.underlying2 A4g Av2 hf with ⟨hcs,_⟩ | ⟨a',len',cap',A,L,C,Z,hcs,_,hl,_,_,hrow⟩
 ·simp at hcs;subst hcs;exact ⟨[],A7j _ _,λz hz=>by cases hz⟩
 ·simp at hcs;subst hcs
  have hM:Mat W.heap (.slice (some a') len' cap') ((List.range len').map λr=>(Z r).take (L r)):=by
   refine ⟨(List.range len').map λr=> .slice (A r) (L r)<|C r,?_,AT7,λi r z hr hz=>?_⟩
   ·refine Aot AT7 (λh=>by cases h) λa'' ha i x hx=>?_;injection ha with ha;subst ha;have hi:i < len':=by have:=(List.getElem?_eq_some_iff.1 hx).1;simpa using this
    simp [hi] at hx;subst hx;exact (hrow i AGl).1
   ·have hi:i < len':=by have:=(List.getElem?_eq_some_iff.1 hr).1;simpa using this
    simp [hi] at hr hz;subst hr;subst hz;obtain ⟨_,hLC,_,hZ,_,hnone,hcell⟩:=hrow i AGl;refine Aot (by simp;omega) (λh=>by have:=hnone h;omega) λa'' ha c x hx=>?_;have hc:c < L i:=by have:=(List.getElem?_eq_some_iff.1 hx).1;simp at this;omega
    have:=(hcell a'' ha).2 c AGl;rw [this];rw [List.getElem?_map,List.getElem?_take,if_pos hc,List.getElem?_eq_getElem AGl] at hx;simp only [Option.map_some,Option.some.injEq] at hx;rw [<- hx,List.getD_eq_getElem?_getD,List.getElem?_eq_getElem AGl];rfl
  refine ⟨_,BB2 hM ⟨_,_,_,rfl,hl⟩,λz hz x hx=>?_⟩;obtain ⟨r,hr,rfl⟩:=List.mem_map.1 hz;have hr':r < len':=List.mem_range.1 hr;exact wf_i64<|(hrow r AGl).2.2.2.2.1 x (List.mem_of_mem_take hx)
theorem A9a {H:Type} {enc:TypeId × Value->H} {W:World} {v:Value} {d:DataW H} {p:List MemPlace} (hv:∃ a len cap,v= .slice a len cap) (h:DataW.Trod enc Tryz.prog W 0 (λ_=>true) true 25 v d p):∃ M,AV4 (cI .i64) W.heap v M/\A0n M:=by
 obtain ⟨fuel,hf⟩:=h;obtain ⟨a,len,cap,rfl⟩:=hv;exact BFd hf
theorem A9b {H:Type} {enc:TypeId × Value->H} {W:World} {r:Reach} {b0:Nat} {v:Value} {d:DataW H} {p:List MemPlace} (hv:Value.okWide Tryz.prog W r b0 24 v) (h:DataW.Trod enc Tryz.prog W 0 (λ_=>true) true 24 v d p):
 ∃ (g k:Int) (lv bv:Value) (Z Y:List Int),v= .agg #[.int .u8 g,.int .u8 k,lv,bv]/\SlC (cI .i8) W.heap lv Z/\SlC (cI .i8) W.heap bv Y/\(0<=g/\g < 256)/\(0<=k/\k < 256)/\(∀ z∈Z,-128<=z/\z<=127)/\ ∀ z∈Y,-128<=z/\z<=127:=by
 obtain ⟨cs,rfl,hsz⟩:=okWide_struct Tryz.underlying24 hv;rw [A5j] at hsz;obtain ⟨l⟩:=cs
 match l,hsz with
 | [c0,c1,c2,c3],_=>
   obtain ⟨fuel,hf⟩:=h;obtain ⟨y0,y1,y2,y3,n,_,_,h0,h1,h2,h3⟩:=Joins.trod_struct4 Tryz.underlying24 hf;simp [Value.cells,A6s,A6t] at h0 h1 h2 h3;obtain ⟨x0,e0,_,w0⟩:=DataW.trod_int Tryz.underlying5 h0;obtain ⟨x1,e1,_,w1⟩:=DataW.trod_int Tryz.underlying5 h1;simp at e0 e1;subst e0;subst e1;have b0:=wf_u8 w0;have b1:=wf_u8 w1;obtain ⟨Z,HZ,hZ⟩:=A6u h2;obtain ⟨Y,HY,hY⟩:=A6u h3;exact ⟨x0,x1,c2,c3,Z,Y,rfl,A1x HZ,A1x HY,AGl,AGl,hZ,hY⟩
end Go.Proofs.YtkakafabeobahaaGreatDoor
namespace Go.Proofs.YtkakafabeobahaaGreatDoor
open Go Go.QF
set_option maxRecDepth 100000
theorem A3y {n:Nat} (hn:n<=8) (R:Avr n A) (hk:k<=n) (hi:i < n) (hj:j < n):(Mn k A i j).natAbs<=12288000000:=by
 have h1:=Asf R.sym R.pos hk hi hj
 have b:∀ i,i < n->Mn k A i i<=12288000000:=λi hi=>by
  have h2:=A8u R.sym R.pos hi k hk
  have h3:=Aro hn R hk
  have h4:=Arp hn R hi hi
  have h5:det k A * A i i<=det k A * 192000:=Int.mul_le_mul_of_nonneg_left h4.2 AGl
  omega
 have p:=λi (hi:i < n)=>Asg R.sym R.pos hk hi;have h2:=Int.mul_le_mul (b i hi) (b j hj) (p j hj) AGl;have:=Az8 (x:=Mn k A i j) (y:=12288000000) AGl<|Int.le_trans h1 h2;omega
theorem BFe {n:Nat} (Aq:1<=n) (hn:n<=8) (R:Avr n A) (hf:100 < fuel):Aat fuel (tab n n A)=some (det n A):=by
 apply ok_eq;unfold Aat;rw [ATt];refine AVc AGl ?_;rw [Int.toNat_natCast];refine AGw (AT8 (λi s=>s=(((i:Nat):Int),part n i A)/\i<=n) n (Q:=(· =tab n n A)) ⟨by rw [Aii n A];rfl,Nat.zero_le _⟩ AGl λi s hi hI=>?_) λe he=>?_
 ·obtain ⟨rfl,hin⟩:=hI;unfold Ae9;dsimp only;rw [ATt];refine ATj (λh=>ATy (ATv AGl) rfl (AVc AGl<|ATy (Ah3 AGl) rfl ?_)) λh=>AGp ?_
  ·have hi':i < n:=by omega
   rw [Int.toNat_natCast,AUx,AXs n (0:Int),Aga];refine ATy (Ad5 AGl hi') rfl (AVc (by rw [AT1,AT1];omega)<|AGp ⟨hi',?_,AGl⟩);rw [wk AGl,AUx,Af9 AGl,Ahd,Aif];grind
  ·obtain rfl:i=n:=by omega
   exact Aih _ _
 subst he;refine AGw (Q:=(· =1)) ⟨1,if_pos AGl,rfl⟩ λone h1=>?_;subst h1;refine AGw (AT8 (λk s=> ∃ G,s=(false,((k:Int),tab n n G,det k A))/\k<=n/\ ∀ r c,k<=r->r < n->k<=c->c < n->G r c=Mn k A r c) n (Q:=λex=>match ex with | .inl e=>False | .inr (neg,last)=>neg=false/\last=det n A) ⟨A,rfl,Nat.zero_le _,λr c _ _ _ _=>(Aiz A r c).symm⟩ AGl λk s hk hI=>?_) λex hex=>?_
 ·obtain ⟨G,rfl,hkn,hG⟩:=hI;unfold Ae8;dsimp only;rw [ATt];refine ATj (λh=>?_) λh=>AGp ⟨rfl,?_⟩
  ·have hk':k < n:=by omega
   have hGk:G k k=det (k + 1) A:=by rw [hG k k AGl hk' AGl hk',Aep]
   have hpos:0 < det (k + 1) A:=R.pos (k + 1) AGl;have hlast:=Aro hn R (k:=k) AGl;refine AGw (Q:=(· =(k:Int))) (AGw (AT8 (λ_ s=>s=(k:Int)) 0 (Q:=(· =(k:Int))) rfl AGl λi s hi hI=>?_) λe he=>AGp he) λe he=>?_
   ·subst hI;unfold Ae5;rw [ATt];refine AGw (Q:=λex=>match ex with | .inl _=>False | .inr _=>True) (ATj (λh2=>ATy (ATv hk') rfl (ATy (ATm hk') rfl (AGw (AUa (a:=AZd<|G k k) rfl) λsg hsg=>ATj (λh3=>?_) λh3=>AGp trivial))) λh2=>absurd h h2) λex hex=>?_
    ·exfalso;rw [hsg] at h3;have:=(Akl _).1 h3;omega
    ·cases ex with
     | inl u=>exact hex.elim
     | inr u=>exact AGp rfl
   ·subst he;refine ATj (λh2=>by omega) λ_=>AGw (Q:=(· =(false,tab n n G))) (ATj (λh2=>absurd rfl h2) λ_=>AGp rfl) λr hr=>?_;subst hr;dsimp only;refine ATy (ATv hk') rfl (ATy (ATm hk') rfl ?_);rw [wk AGl]
    have hq:∀ r c,k < r->r < n->k < c->c < n->bQ k G (det k A) r c=Mn (k + 1) A r c:=λr c h1 h2 h3 h4=>by
     unfold bQ
     rw [hGk,hG r c AGl h2 AGl h4,hG r k AGl h2 AGl hk',hG k c AGl hk' AGl h4,<- Aep k A,Apr AGl,Int.mul_ediv_cancel_left _ AGl]
    have habs:∀ r c,k<=r->r < n->k<=c->c < n->(G r c).natAbs<=12288000000:=λr c h1 h2 h3 h4=>by rw [hG r c h1 h2 h3 h4];exact A3y hn R AGl h2 h4
    refine AGw (AT8 (λi s=>s=(((k + 1 + i:Nat):Int),tab n n<|bF k G (det k A) (k + 1 + i)<|k + 1)/\k + 1 + i<=n) (n - (k + 1)) (Q:=(· =tab n n (bF k G (det k A) n<|k + 1))) ⟨by rw [Nat.add_zero,Auq];simp,AGl⟩ AGl λi s hi hI=>?_) λa3 Ag=>?_
    ·obtain ⟨rfl,hin⟩:=hI;unfold Ae7;dsimp only;rw [ATt];obtain ⟨q,hqe⟩:∃ q,k + 1 + i=q:=⟨_,rfl⟩;rw [hqe] at hin ⊢;refine ATj (λh3=>?_) λh3=>AGp ?_
     ·have hqn:q < n:=by omega
      rw [wk AGl];refine AGw (AT8 (λj s=>s=(((k + 1 + j:Nat):Int),tab n n<|bF k G (det k A) q<|k + 1 + j)/\k + 1 + j<=n) (n - (k + 1)) (Q:=(· =tab n n (bF k G (det k A) q n))) ⟨AT7,AGl⟩ AGl λj s hj hJ=>?_) λa4 Ah=>AGp ?_
      ·obtain ⟨rfl,hjn⟩:=hJ;unfold Ae6;dsimp only;rw [ATt];obtain ⟨c,hc⟩:∃ c,k + 1 + j=c:=⟨_,rfl⟩;rw [hc] at hjn ⊢;refine ATj (λh4=>?_) λh4=>AGp ?_
       ·have hcn:c < n:=by omega
        have a1:=habs k k AGl hk' AGl hk';have a2:=habs q c AGl hqn AGl hcn;have a3:=habs q k AGl hqn AGl hk';have a4:=habs k c AGl hk' AGl hcn;have m1:=Nat.mul_le_mul a1 a2;have m2:=Nat.mul_le_mul a3 a4;have hB:12288000000 * 12288000000 < AWk:=by decide
        refine ATy (ATv hqn) rfl (ATy (ATm hcn) rfl ?_);rw [A8b];refine AGw (AUa (a:=G k k * G q c)<|if_pos AGl) λx1 Ak=>ATy (ATm hk') rfl (ATy (ATv hk') rfl (ATy (ATm hcn) rfl ?_));subst Ak;rw [A8a,Aur];refine AGw (AUa (a:=G q k * G k c)<|if_pos AGl) λx2 Am=>?_;subst Am;refine AGw (AUa (a:=G k k * G q c - G q k * G k c)<|if_pos ⟨by rw [Int.natAbs_mul];omega,by rw [Int.natAbs_mul];omega⟩) λx3 Ao=>?_;subst Ao
        have hnum:G k k * G q c - G q k * G k c=det k A * Mn (k + 1) A q c:=by
         rw [hGk,hG q c AGl hqn AGl hcn,hG q k AGl hqn AGl hk',hG k c AGl hk' AGl hcn,<- Aep k A,Apr AGl]
        have m3:(det k A * Mn (k + 1) A q c).natAbs<=64000 * 12288000000:=by
         rw [Int.natAbs_mul]
         exact Nat.mul_le_mul AGl<|A3y hn R AGl hqn hcn
        refine AGw (Q:=λx=>x.1=bQ k G (det k A) q c) ⟨_,if_pos ⟨by rw [hnum];omega,AGl,AGl⟩,rfl⟩ λx4 Ap=>AGp ⟨AGl,?_,AGl⟩;rw [Ap,wk AGl,Aqm,A1t k G (det k A) AGl AGl];grind
       grind
      ·subst Ah;refine ⟨AGl,?_,AGl⟩;rw [wk AGl];congr 1
       ·omega
       ·refine Aha λr c hr hc=>?_;rw [A1s k n G (det k A) q hc,<- Nat.add_assoc,hqe]
     grind
    ·subst Ag;refine AGp ⟨hk',bF k G (det k A) n<|k + 1,?_,AGl,λr c h1 h2 h3 h4=>?_⟩
     ·rw [hGk];rfl
     ·have:bF k G (det k A) n (k + 1) r c=bQ k G (det k A) r c:=by unfold bF;omega
      grind
  grind
 ·match ex,hex with
  | .inl e,hex=>exact hex.elim
  | .inr (neg,last),hex=>
    obtain ⟨rfl,rfl⟩:=hex
    dsimp only
    exact ATj (λh=>nomatch h) λ_=>AGp rfl
theorem A0o {n:Nat} (hn:1<=n) (Ab:n<=16) (hf:100 < fuel):Aas fuel (tab n n F)=some ((n:Int),(n:Int),true)/\AZl fuel (tab n n F)=some ((n:Int),(n:Int),true):=by
 constructor <;>
 ·apply ok_eq;first | unfold Aas | unfold AZl
  rw [ATt];refine AGw (Q:=λex=>match ex with | .inl _=>False | .inr _=>True) (ATj (λh=>by omega) λh=>ATj (λh2=>by omega) λh2=>AGp trivial) λex hex=>?_
  cases ex with
  | inl e=>exact hex.elim
  | inr u=>
    dsimp only
    refine ATy (n:=0) (ATv AGl) rfl ?_
    rw [AT1]
    refine AGw (Q:=λex=>match ex with | .inl _=>False | .inr _=>True) (ATj (λh=>by omega) λh=>ATj (λh2=>by omega) λh2=>AGp trivial) λex hex=>?_
    cases ex with
    | inl e=>exact hex.elim
    | inr u=>
      dsimp only
      refine AGw (AT8 (λi (s:Int)=>s=i) n (Q:=λex=>match ex with | .inl _=>False | .inr _=>True) rfl AGl λi s hi hI=>?_) λex hex=>?_
      ·subst hI
       first | unfold Ae4 | unfold Ads
       rw [ATt]
       refine ATj (λh=>ATy (ATv AGl) rfl ?_) λh=>AGp trivial
       rw [AT1,AT1]
       exact ATj (λh2=>absurd rfl h2) λ_=>AGp ⟨AGl,wk AGl⟩
      ·cases ex with
       | inl e=>exact hex.elim
       | inr u=>exact AGp rfl
theorem BCi {n:Nat} (hn:1<=n) (Aa:n<=16) (hb:∀ i j,i < n->j < n->(F i j).natAbs<=9223372036854775807) (hf:100 < fuel):Ad3 fuel (tab n n F)=some (tab n n F,true):=by
 apply ok_eq;unfold Ad3;refine AGw (AUa (A0o hn Aa hf).1) λx hx=>?_;subst hx;dsimp only;refine ATj (λh=>nomatch h) λ_=>AGw (Q:=(· =tab n n F)) (AVc AGl ?_) λe he=>AGp (by rw [he]);rw [Int.toNat_natCast];refine AGw (AT8 (λi s=>s=(((i:Nat):Int),part n i F)/\i<=n) n (Q:=(· =tab n n F)) ⟨by rw [Aii n F];rfl,Nat.zero_le _⟩ AGl λi s hi hI=>?_) λe he=>AGp he;obtain ⟨rfl,hin⟩:=hI;unfold Ag1;dsimp only;rw [List.length_replicate,Int.toNat_natCast];refine ATj (λh=>AVc AGl<|ATy (Ah3 AGl) rfl ?_) λh=>AGp ?_
 ·have hi':i < n:=by omega
  rw [AUx,AXs n (0:Int),Aga];refine ATy (Ad5 AGl hi') rfl ?_;rw [AUt];refine AGw (AT8 (λj s=>s=(((j:Nat):Int),part n (i + 1)<|AUw F i λc=>if c < j then F i c else 0)/\j<=n) n (Q:=(· =part n (i + 1) F)) ⟨?_,Nat.zero_le _⟩ AGl λj s hj hJ=>?_) λe he=>AGp ⟨hi',?_,AGl⟩
  ·grind
  ·obtain ⟨rfl,hjn⟩:=hJ;unfold Ag0;dsimp only;rw [AT1];refine ATj (λh=>?_) λh=>AGp ?_
   ·have hj':j < n:=by omega
    refine ATy (Ad5 AGl hi') rfl ?_;rw [AUt];have:=hb i j hi' hj';refine AGw (Q:=(· =F i j)) (ATy (ATv hi') rfl (ATy (ATm hj') rfl (AGw (Q:=(· =F i j)) ⟨_,if_pos AGl,rfl⟩ λx hx=>AGp hx))) λx hx=>?_;subst hx;refine ATy (ATm hj') rfl (AGp ⟨AGl,?_,AGl⟩);rw [wk AGl,AUx,AUx,AXd,Af9 AGl,Ahd];grind
   ·obtain rfl:j=n:=by omega
    unfold part;refine AUq λr hr=>?_;split
    ·refine AUq λc hc=>?_;rw [AUb];grind
    ·rfl
  ·rw [he,wk AGl];rfl
 ·obtain rfl:i=n:=by omega
  exact Aih _ _
def Ayb (d p e:Int):Prop:= ∃ (k:Nat) (r:Int),e=k/\d=r * p ^ k/\¬ p ∣ r
theorem A3z {a b:Int} (hp:2<=p) (ha:Ayb d p a) (hb:Ayb d p b):a=b:=by
 have key:∀ (k l:Nat) (r s:Int),k < l->r * p ^ k=s * p ^ l->p ∣ r:=λk l r s hkl h=>by
  obtain ⟨m,rfl⟩:∃ m,l=k + 1 + m:=⟨l - k - 1,AGl⟩
  rw [Int.pow_add,Int.pow_add,Int.pow_one] at h
  have h1:p ^ k * r=p ^ k * (p * (s * p ^ m)):=by grind
  exact ⟨_,Int.eq_of_mul_eq_mul_left (Int.pow_ne_zero AGl) h1⟩
 obtain ⟨k,r,rfl,h1,h2⟩:=ha;obtain ⟨l,s,rfl,h3,h4⟩:=hb;grind
theorem Apx {r:Int} (hp:2<=p) (hr:0 < r) (hd:d<=10000) (h:d=r * p ^ k):k<=13:=by
 rcases Nat.lt_or_ge 13 k with h1 | h1
 ·exfalso;have h2:(2:Int) ^ 14<=2 ^ k:=Apv h1;have h3:(2:Int) ^ k<=p ^ k:=Afw AGl hp k;have h4:1 * p ^ k<=r * p ^ k:=Int.mul_le_mul_of_nonneg_right AGl AGl;omega
 ·exact h1
theorem BFf (Ac:1<=d) (hd:d<=10000) (hp:2<=p) (Ad:p<=9973) (hf:100 < fuel):Ok (AYv fuel d p) (Ayb d p):=by
 unfold AYv;refine AGw (AT8 (λi s=> ∃ r:Int,s=(r,(i:Int))/\0 < r/\d=r * p ^ i) 14 (Q:=Ayb d p) ⟨d,rfl,AGl,AT7⟩ AGl λi s hi hI=>?_) λe he=>AGp he;obtain ⟨r,rfl,hr,hdr⟩:=hI;have Ae:=Apx hp hr hd hdr
 have hrd:r<=d:=by
  have h1:r * 1<=r * p ^ i:=Int.mul_le_mul_of_nonneg_left (Int.pow_pos AGl) AGl
  omega
 unfold Abv;dsimp only;refine AGw (Q:=λex=>match ex with | .inl _=>p ∣ r | .inr _=> ¬ p ∣ r) (ATj (λh=>AVc AGl<|ATj (λh2=>AGp ?_) λh2=>AGp ?_) λh=>by omega) λex hex=>?_
 ·exact Int.dvd_of_tmod_eq_zero h2
 ·exact λh3=>h2<|Int.tmod_eq_zero_of_dvd h3
 ·cases ex with
  | inl u=>
    obtain ⟨q,rfl⟩:p ∣ r:=hex
    have hq:0 < q:=Int.pos_of_mul_pos_right hr AGl
    have hqr:1 * q<=p * q:=Int.mul_le_mul_of_nonneg_right AGl AGl
    refine AVc AGl<|AGp ⟨AGl,q,?_,hq,by grind⟩
    rw [Int.mul_tdiv_cancel_left _ AGl,AVq (x:=q) AGl AGl,wk AGl]
    rfl
  | inr u=>exact AGp ⟨i,r,rfl,hdr,hex⟩
def pwL (p:Int) (m:Nat):List Int:=AU9 m λi=>p ^ (2 ^ i)
theorem A9c {a b:Int} (ha:a.natAbs < 18446744073709551616) (hb:b.natAbs < 18446744073709551616) (h0:b≠0):Ao2 fuel a b=some (a / b,a % b,true):=if_pos ⟨ha,hb,h0⟩
theorem BFg (Am:1<=d) (hd:d<=10000) (hp:Pr p) (Ag:p<=9973) (hf:100 < fuel):Ok (Ad4 fuel d p) λr=>Ayb d p r.1:=by
 have Ae:2<=p:=hp.1;have pw:∀ k:Nat,0 < p ^ k:=λk=>Int.pow_pos AGl;unfold Ad4;refine AGw (AUa (a:=Aes p) rfl) λb hb=>?_;rw [<- Aq2 AGl hp] at hb;subst hb;refine ATj (λh=>nomatch h) λ_=>AGw (AUa (a:=AZd d) rfl) λs hs=>?_;subst hs;refine ATj (λh=>absurd ((Akl d).1 h) AGl) λ_=>AGw (AUa (a:=d) rfl) λx hx=>AGw (Q:=(· =p)) ⟨p,if_pos AGl,rfl⟩ λy hy=>?_;subst hx;subst hy;refine AGw (AT8 (λj s=> ∃ r:Int,s=(pwL y<|j + 1,r,((2 ^ j - 1:Nat):Int))/\0 < r/\x=r * y ^ (2 ^ j - 1)) 5 (Q:=λe=> ∃ (j:Nat) (r:Int),e=(pwL y<|j + 1,r,((2 ^ j - 1:Nat):Int))/\0 < r/\x=r * y ^ (2 ^ j - 1)/\¬ y ^ (2 ^ j) ∣ r/\j<=4) ⟨x,?_,AGl,AT7⟩ AGl λj s hj hI=>?_) λe he=>?_
 ·refine congrArg (λl=>(l,x,(0:Int))) ?_;show [y]=[y ^ 1];rw [Int.pow_one]
 ·obtain ⟨r,rfl,hr,hxr⟩:=hI;have Ao:=Apx Ae hr hd hxr
  have Af:j<=3:=by
   rcases Nat.lt_or_ge 3 j with h | h
   ·exfalso
    have:=Nat.pow_le_pow_right (show 0 < 2 by omega) h
    omega
   ·exact h
  have hrx:r<=x:=by
   have h1:r * 1<=r * y ^ (2 ^ j - 1):=Int.mul_le_mul_of_nonneg_left (pw _) AGl
   omega
  have hjp:1<=2 ^ j:=Nat.one_le_two_pow
  have Ap:2 ^ j<=8:=by
   have:=Nat.pow_le_pow_right (show 0 < 2 by omega) Af
   omega
  have hyb:y ^ (2 ^ j)<=10000 * 9973:=by
   have e1:y ^ (2 ^ j)=y ^ (2 ^ j - 1) * y:=by rw [<- Int.pow_succ];congr 1;omega
   have h2:1 * y ^ (2 ^ j - 1)<=r * y ^ (2 ^ j - 1):=Int.mul_le_mul_of_nonneg_right AGl<|Int.le_of_lt<|pw _
   rw [e1]
   exact Int.mul_le_mul AGl Ag AGl AGl
  have Ad:=pw<|2 ^ j;unfold Ag3;dsimp only;have hl:(pwL y<|j + 1).length=j + 1:=AT1 _ _;rw [hl,AVq (x:=((j + 1:Nat):Int) - 1) AGl AGl];refine ATy (n:=j) (ATm AGl) AGl<|AVc AGl ?_;rw [show (((j + 1:Nat):Int) - 1).toNat=j by omega,show (1:Int) * 2 ^ j=((2 ^ j:Nat):Int) by simp,AVq (x:=((2 ^ j:Nat):Int)) AGl AGl];refine AGw (Q:=λe:Bool × Int × Int=>if y ^ (2 ^ j) ∣ r then e=(true,r / y ^ (2 ^ j),((2 ^ (j + 1) - 1:Nat):Int)) else e=(false,r,((2 ^ j - 1:Nat):Int))) (AGw (AUa<|A9c (fuel:=fuel) (a:=r) (b:=y ^ (2 ^ j)) AGl AGl AGl) λq hq=>AGw (AUa (a:=AZd q.2.1) rfl) λs hs=>?_) λe he=>?_
  ·subst hq;subst hs;dsimp only;refine ATj (λh=>AGp ?_) λh=>AGp ?_
   ·have hnd: ¬ y ^ (2 ^ j) ∣ r:=λh2=>h<|(Akl _).2 (Int.emod_eq_zero_of_dvd h2);rw [if_neg hnd]
   ·have hdv:y ^ (2 ^ j) ∣ r:=Int.dvd_of_emod_eq_zero<|(Akl _).1 (Classical.not_not.1 h);rw [if_pos hdv,wk AGl,Nat.pow_succ];grind
  ·by_cases hdv:y ^ (2 ^ j) ∣ r
   ·rw [if_pos hdv] at he;subst he;dsimp only;refine ATj (λ_=>?_) λh=>absurd rfl h;obtain ⟨q,rfl⟩:=hdv;have Ah:0 < q:=Int.pos_of_mul_pos_right hr Ad;have hqm:y ^ (2 ^ j) * 1<=y ^ (2 ^ j) * q:=Int.mul_le_mul_of_nonneg_left AGl AGl;have hB:10000 * 10000 < AWk:=by decide
    have m1:(y ^ (2 ^ j)).natAbs * (y ^ (2 ^ j)).natAbs<=10000 * 10000:=Nat.mul_le_mul AGl AGl;refine AGw (AUa (a:=y ^ (2 ^ j) * y ^ (2 ^ j))<|if_pos AGl) λz hz=>AVc AGl<|AGp ⟨AGl,q,?_,Ah,?_⟩
    ·subst hz;rw [Int.mul_ediv_cancel_left _ AGl];refine congrArg (λl=>(l,q,((2 ^ (j + 1) - 1:Nat):Int))) ?_;have e1:y ^ (2 ^ j) * y ^ (2 ^ j)=y ^ (2 ^ (j + 1)):=by rw [<- Int.pow_add,Nat.pow_succ];congr 1;omega
     rw [e1];exact Aie (j + 1) λi=>y ^ (2 ^ i)
    ·rw [hxr];have e1:y ^ (2 ^ (j + 1) - 1)=y ^ (2 ^ j) * y ^ (2 ^ j - 1):=by rw [<- Int.pow_add,Nat.pow_succ];congr 1;omega
     rw [e1];grind
   ·rw [if_neg hdv] at he;subst he;exact ATj (λh=>nomatch h) λ_=>AGp ⟨j,r,rfl,hr,hxr,hdv,AGl⟩
 ·obtain ⟨j,r,rfl,hr,hxr,hnd,Af⟩:=he;dsimp only
  have hY:∀ q,q < j->y ^ (2 ^ q)<=10000:=λq hq=>by
   have h0:=Nat.pow_le_pow_right (show 0 < 2 by omega) (show q + 1<=j by omega)
   have h1:=Nat.one_le_two_pow (n:=q)
   rw [Nat.pow_succ] at h0
   have e1:y ^ (2 ^ j - 1)=y ^ (2 ^ q) * y ^ (2 ^ j - 1 - 2 ^ q):=by rw [<- Int.pow_add];congr 1;omega
   have h2:y ^ (2 ^ q) * 1<=y ^ (2 ^ q) * y ^ (2 ^ j - 1 - 2 ^ q):=Int.mul_le_mul_of_nonneg_left (pw _)<|Int.le_of_lt<|pw _
   have h3:1 * y ^ (2 ^ j - 1)<=r * y ^ (2 ^ j - 1):=Int.mul_le_mul_of_nonneg_right AGl<|Int.le_of_lt<|pw _
   omega
  have hl:(pwL y<|j + 1).length=j + 1:=AT1 _ _;rw [hl,AVq (x:=((j + 1:Nat):Int) - 2) AGl AGl];refine AGw (AT8 (λi s=> ∃ (r:Int) (k:Nat),s=((j:Int) - 1 - i,r,(k:Int))/\i<=j/\0 < r/\x=r * y ^ k/\¬ y ^ (2 ^ (j - i)) ∣ r) j (Q:=λe=> ∃ (r:Int) (k:Nat),e=(r,(k:Int))/\x=r * y ^ k/\¬ y ∣ r) ⟨r,2 ^ j - 1,by grind,AGl,hr,hxr,AGl⟩ AGl λi s hi hI=>?_) λe he=>?_
  ·obtain ⟨r,k,rfl,hij,hr,hxr,hnd⟩:=hI;have Au:=Apx Ae hr hd hxr
   have hrx:r<=x:=by
    have h1:r * 1<=r * y ^ k:=Int.mul_le_mul_of_nonneg_left (pw _) AGl
    omega
   unfold Ag2;dsimp only;refine ATj (λh=>?_) λh=>AGp ⟨r,k,rfl,hxr,?_⟩
   ·obtain ⟨q,hq⟩:∃ q:Nat,(j:Int) - 1 - i=q:=⟨j - 1 - i,AGl⟩;rw [hq];have hqj:q < j + 1:=by omega
    have Aj:q<=3:=by omega
    have Av:1<=2 ^ q:=Nat.one_le_two_pow;have Aw:2 ^ q<=8:=by have:=Nat.pow_le_pow_right (show 0 < 2 by omega) Aj;omega
    have hyb:=hY q AGl;have Ad:=pw<|2 ^ q;have hsmall:y ^ (2 ^ q) ∣ r->y ^ (2 ^ q)<=r:=λh=>Int.le_of_dvd hr h;refine ATy (n:=q) (ATm hqj) rfl (AVc AGl ?_);rw [Int.toNat_natCast,show (1:Int) * 2 ^ q=((2 ^ q:Nat):Int) by simp,AVq (x:=((2 ^ q:Nat):Int)) AGl AGl];refine AGw (Q:=λe:Bool × Int × Int=>if y ^ (2 ^ q) ∣ r then e=(true,r / y ^ (2 ^ q),((k + 2 ^ q:Nat):Int)) else e=(false,r,(k:Int))) (AGw (AUa<|A9c (fuel:=fuel) (a:=r) (b:=y ^ (2 ^ q)) AGl AGl AGl) λt ht=>AGw (AUa (a:=AZd t.2.1) rfl) λs hs=>?_) λe he=>?_
    ·subst ht;subst hs;dsimp only;refine ATj (λh=>AGp ?_) λh=>AGp ?_
     ·have hnd: ¬ y ^ (2 ^ q) ∣ r:=λh2=>h<|(Akl _).2 (Int.emod_eq_zero_of_dvd h2);rw [if_neg hnd]
     ·have hdv:y ^ (2 ^ q) ∣ r:=Int.dvd_of_emod_eq_zero<|(Akl _).1 (Classical.not_not.1 h);rw [if_pos hdv,wk AGl];grind
    ·rw [AVq (x:=(q:Int) - 1) AGl AGl];by_cases hdv:y ^ (2 ^ q) ∣ r
     ·rw [if_pos hdv] at he;subst he;obtain ⟨w,rfl⟩:=hdv;have Ak:0 < w:=Int.pos_of_mul_pos_right hr Ad;refine AGp ⟨AGl,w,k + 2 ^ q,?_,AGl,Ak,?_,?_⟩
      ·rw [Int.mul_ediv_cancel_left _ AGl];grind
      ·grind
      ·rw [show j - (i + 1)=q by omega];rintro ⟨u,rfl⟩;refine hnd ⟨u,?_⟩;rw [show j - i=q + 1 by omega,Nat.pow_succ,Nat.mul_two,Int.pow_add];grind
     ·rw [if_neg hdv] at he;subst he;refine AGp ⟨AGl,r,k,?_,AGl,hr,hxr,by grind⟩;grind
   ·have:j - i=0:=by omega
    rw [this,Nat.pow_zero,Int.pow_one] at hnd;exact hnd
  ·obtain ⟨r,k,rfl,h1,h2⟩:=he;exact AGp ⟨k,r,rfl,h1,h2⟩
theorem Apb (R:Arq M):M=tab M.length M.length (ent M):=Ar0 R.2.1
theorem A9d {n:Nat} (hn:n<=8) (R:Avr n A):A0n (tab n n A):=A0l (B:=192000) AGn λi j hi hj=>by have:=Arp hn R hi hj;omega
theorem Au9 (R:Arq M):1<=det M.length (ent M)/\det M.length (ent M)<=10000:=⟨by have:=R.2.2.pos _<|Nat.le_refl _;omega,R.2.2.dt⟩
theorem A30 (R:Arq M) (hi:i < M.length) (hj:j < M.length):(ent M i j).natAbs<=192000:=by have:=Arp R.1.2 R.2.2 hi hj;omega
theorem A5k (R:Arq M) (hf:100 < fuel):Abj fuel M=some (det M.length<|ent M):=by
 apply ok_eq;obtain ⟨v1,v2⟩:=Au9 R;have hT:=Apb R;have h1:=R.1;unfold Abj;generalize hF:ent M=F at *;generalize hL:M.length=n at *;have hb:∀ i j,i < n->j < n->(F i j).natAbs<=192000:=λi j hi hj=>by subst hF;subst hL;exact A30 R hi hj
 rw [hT];refine AGw (AUa<|A15 h1.1 AGl (λi j hi hj=>Nat.le_trans (hb i j hi hj) AGn) AGl) λx hx=>?_;subst hx;refine AGw (AUa<|Arj h1.2 (Nat.le_refl _) (λi j hi hj=>Nat.le_trans (hb i j hi hj)<|Nat.le_trans AGn<|Awo _) AGl) λy hy=>?_;subst hy;refine AGw (AUa (a:=(det n F,true))<|if_pos AGl) λz hz=>AGp ?_;rw [hz]
theorem BFh (Ab:1<=d) (hd:d<=10000) (hp:2<=p) (h:Ayb d p v):0<=v/\v<=13:=by
 obtain ⟨k,r,rfl,h1,h2⟩:=h
 have hr:0 < r:=by
  have hpk:0 < p ^ k:=Int.pow_pos AGl
  rcases Int.lt_or_le 0 r with h | h
  ·exact h
  ·have:=Int.mul_nonpos_of_nonpos_of_nonneg h<|Int.le_of_lt hpk;omega
 have:=Apx hp hr hd h1;omega
theorem Asm (R:Arq M) (hp:Pr p) (hp2:p<=9973) (hf:100 < fuel):∃ v,Ayb (det M.length<|ent M) p v/\(0<=v/\v<=13)/\Aak fuel M p=some (if p=2 then v + 3 else v + 1)/\AX6 fuel M p=some (if p=2 then v + 3 else v + 1):=by
 obtain ⟨v1,v2⟩:=Au9 R;obtain ⟨⟨v,r0,e0⟩,hv1,hv⟩:=BFg v1 v2 hp hp2 hf;dsimp only at hv;have hvb:=BFh v1 v2 hp.1 hv
 refine ⟨v,hv,hvb,?_,?_⟩
 ·apply ok_eq;have hT:=Apb R;have h1:=R.1;have RF:=R.2.2;unfold Aak;generalize hF:ent M=F at *
  generalize hL:M.length=n at *
  have hb:∀ i j,i < n->j < n->(F i j).natAbs<=192000:=λi j hi hj=>by subst hF;subst hL;exact A30 R hi hj
  rw [hT];refine AGw (AUa<|BCi h1.1 AGl (λi j hi hj=>Nat.le_trans (hb i j hi hj) AGn) hf) λx hx=>?_;subst hx;dsimp only
  refine AGw (Q:=(· =(det n F,true))) ?_ λy hy=>?_
  ·unfold Akj;refine AGw (AUa (A0o h1.1 AGl hf).2) λx hx=>?_;subst hx;dsimp only;exact ATj (λh=>nomatch h) λ_=>ATj (λh=>absurd rfl h) λ_=>AGw (AUa<|BFe h1.1 h1.2 RF hf) λz hz=>AGp (by rw [hz])
  ·subst hy;dsimp only;refine AGw (AUa hv1) λz hz=>?_;subst hz;dsimp only
   refine ATj (λh=>AGp ?_) λh=>AGp ?_
   ·rw [if_pos h,wk AGl]
   ·rw [if_neg h,wk AGl]
 ·apply ok_eq;unfold AX6;refine AGw (AUa<|A5k R hf) λd hd=>?_;subst hd;refine AGw (BFf v1 v2 hp.1 hp2 hf) λw hw=>?_;obtain rfl:=A3z hp.1 hv hw
  refine ATj (λh=>AGp ?_) λh=>AGp ?_
  ·rw [if_pos h,wk AGl]
  ·rw [if_neg h,wk AGl]
end Go.Proofs.YtkakafabeobahaaGreatDoor
namespace Go.Proofs.YtkakafabeobahaaGreatDoor
open Go Go.QF
set_option maxRecDepth 100000
set_option maxHeartbeats 4000000
def Afx (fuel:Nat) (a3:LiI) (Ab:Int):Option (Int ⊕ (Bool ⊕ Unit)):=
 if Ab < (a3.length:Int) then (gI a3 Ab).bind λAc=>(gI a3 0).bind λAd=>if ¬ (Ac.length:Int)=(Ad.length:Int) then some (.inr<|.inl false) else some (.inl<|w64<|Ab + 1) else some<|.inr<|.inr ()
def AY0 (fuel:Nat) (a3:LiI):Option Bool:=
 ((if (a3.length:Int) < 1 then some (.inl false) else if 16 < (a3.length:Int) then some (.inl false) else (gI a3 0).bind λAb=>if (Ab.length:Int) < 1 then some (.inl false) else if 16 < (Ab.length:Int) then some (.inl false) else some<|.inr ()):Option (Bool ⊕ Unit)).bind (λex=>match ex with | .inl Ac=>(some Ac) | .inr _=>(iter (λs=>Afx fuel a3 s) fuel 0).bind (λex=>match ex with | .inl Ad=>(some Ad) | .inr _=>some true))
theorem Afy (H2:AV4 (cI .i64) h Ao a3) (hp:AY0 fuel a3=some r):ATz Tryz.prog 98 #[Ao] h (λx h'=>Ext h h'/\x= .bool r):=by
 unfold AY0 at hp;refine cwf (l:=[_]) Tryz.func98 rfl rfl (AGq<|AGx ?_);have K0:=Kst.k0 h;obtain ⟨Az,Ap,Ac⟩:=AGr hp;refine Aer 134217700 (λx:Unit=>[]) (λx h'=>(Sum.inr <| ())=Az/\Kst h h' (K0.L)) ?_ ?_
 ·refine AGq<|AGm<|AT3 ATb rfl H2 (ATp rfl rfl (AGm ?_));by_cases Af:(a3.length:Int) < 1
  ·rw [decide_eq_true Af];refine AWi 8 true<|ATf rfl (AGm<|AY2 13 true<|ATf rfl (AGm<|AY2 20 true<|ATf rfl (AGu<|ATx rfl (AGq<|AGx ?_))));obtain rfl:=AGo<|ifT Ap Af;refine AG1<|ATd ?_;obtain rfl:=AGo Ac;exact ⟨_,AS5,K0.x,rfl⟩
  ·have Aq:=ifF Ap Af;rw [decide_eq_false Af];refine ATc 8 false<|AGm<|ATc 8 false<|AT3 ATb rfl H2 (ATc 8 false<|AXr rfl rfl (AS6 rfl (AGm ?_)));by_cases Ag:16 < (a3.length:Int)
   ·rw [decide_eq_true Ag];refine AY2 13 true<|ATf rfl (AGm<|AY2 20 true<|ATf rfl (AGu<|ATx rfl (AGq<|AGx ?_)));obtain rfl:=AGo<|ifT Aq Ag;refine AG1<|ATd ?_;obtain rfl:=AGo Ac;exact ⟨_,AS5,K0.x,rfl⟩
   ·rw [decide_eq_false Ag];refine ATc 13 false<|AGm<|ATc 13 false ?_;obtain ⟨A3,Ar,Au⟩:=AGr<|ifF Aq Ag;refine Alx ATb rfl H2 rfl Ar λBf Bg Bh A4 A5=>ATc 13 false<|AT6 ATq rfl (ATw A4 K0.x) (ATc 13 false<|AUl ATa rfl A5 (ATc 13 false<|ATp rfl rfl (AS6 rfl (AGm ?_))));by_cases Ah:(A3.length:Int) < 1
    ·rw [decide_eq_true Ah];refine AY2 20 true<|ATf rfl (AGu<|ATx rfl (AGq<|AGx ?_));obtain rfl:=AGo<|ifT Au Ah;refine AG1<|ATd ?_;obtain rfl:=AGo Ac;exact ⟨_,AS5,K0.x,rfl⟩
    ·have Av:=ifF Au Ah;rw [decide_eq_false Ah];refine ATc 20 false<|AGm<|ATc 20 false<|Alx ATb rfl H2 rfl Ar λBi Bj Bl A6 A7=>ATc 20 false<|AT6 ATq rfl (ATw A6 K0.x) (ATc 20 false<|AUl ATa rfl A7 (ATc 20 false<|AXr rfl rfl (AS6 rfl (AGu<|⟨_,rfl,λAi=>?_,λAi=>?_⟩))))
     ·refine AGq<|AGx ?_;obtain rfl:=AGo<|AT4 Av Ai;refine AG1<|ATd ?_;obtain rfl:=AGo Ac;exact ⟨_,AS5,K0.x,rfl⟩
     ·refine AG0<|q_t ?_;exact ⟨(():Unit),⟨AGo<|AT5 Av Ai,K0⟩,trivial⟩
 rintro ⟨⟩ Bm Bn ⟨A8,Aw⟩;subst A8;refine AGs<|AGq<|AGm<|AT3 ATb rfl H2 (AGm<|AGu<|AGt<|AYr 2198486384660 Ac (λx=>[(29,(.int .i64 x))]) (λx=>Aw.L) Aw ⟨rfl,trivial⟩ ?_);rintro Bo Bp Bq Br Ad Aj Ax;unfold Afx at Aj;refine AGq<|ATp rfl rfl (AGu<|AGs<|⟨_,rfl,λAk=>?_,λAk=>?_⟩)
 ·refine AG0<|q_t<|AGs<|AGt<|AGq ?_;obtain ⟨Bt,A9,Ba⟩:=AGr<|AT4 Aj Ak;refine AZ1 ATb ATq H2 Ad.x A9 λ_ Bu Bb=>AT2<|AGm<|AUl ATa rfl Bb (AGm ?_);obtain ⟨Bv,Bc,Ay⟩:=AGr Ba;refine AZ1 ATb ATq H2 Ad.x Bc λ_ Bw Be=>AUl ATa rfl Be (AVz rfl rfl (AGu<|⟨_,rfl,λAm=>?_,λAm=>?_⟩))
  ·refine AGq<|AGx<|AG1<|AUg<|ATd<|ATd<|AUg<|ATd ?_;obtain rfl:=AGo<|Ax _ (AGo<|AT4 Ay Am).symm;exact ⟨_,AS5,Ad.x,rfl⟩
  ·refine AG0<|q_b<|q_t<|AS8<|ATn rfl rfl (AGm<|AGu ?_);exact ⟨_,(AGo<|AT5 Ay Am).symm,Ad,rfl,trivial⟩
 ·refine ATh<|ATi<|ATi<|AUf<|q_t<|AGq<|AGx<|AG1 ?_;obtain rfl:=AGo<|Ax _ (AGo<|AT5 Aj Ak).symm;exact ⟨_,AS5,Ad.x,rfl⟩
def AY1 (fuel:Nat) (a3:LiI):Option Bool:=
 (AY0 fuel a3).bind λx5=>if x5=true then (gI a3 0).bind λAc=>if (a3.length:Int)=(Ac.length:Int) then some (decide ((a3.length:Int)<=8)) else some false else some false
theorem Ale (H2:AV4 (cI .i64) h Ae a3) (hp:AY1 fuel a3=some r):ATz Tryz.prog 137 #[Ae] h (λx h'=>Ext h h'/\x= .bool r):=by
 unfold AY1 at hp;refine cwf (l:=[_]) Tryz.func137 rfl rfl (AGq<|AT2<|AGm ?_);have K0:=Kst.k0 h;obtain ⟨x5,Ak,Ag⟩:=AGr hp;refine AVs K0 (Afy (H2.ext K0.x) Ak) λh9 E8 Ab=>AGm ?_;cases Ah:x5
 ·refine AY2 5 false<|Adc 5 false<|AS6 rfl (AGm<|AWi 14 false<|AS6 rfl (AGx<|AG1 ?_));obtain rfl:=AGo<|AY5 Ag Ah;exact ⟨_,AS5,Ab.x,rfl⟩
 ·refine ATc 5 true<|AGm<|ATc 5 true<|AT3 ATb rfl H2 (ATc 5 true<|AGm<|ATc 5 true ?_);obtain ⟨Am,Ao,Ai⟩:=AGr<|ifT Ag Ah;refine Alx ATb rfl H2 rfl Ao λAv Aw Ax Ap Aq=>ATc 5 true<|AT6 ATq rfl (ATw Ap Ab.x) (ATc 5 true<|AUl ATa rfl Aq (ATc 5 true<|AU0 rfl rfl (ATf rfl (AGm ?_))));by_cases Ac:(a3.length:Int)=(Am.length:Int)
  ·rw [decide_eq_true Ac];refine ATc 14 true<|AGm<|ATc 14 true<|AT3 ATb rfl H2 (ATc 14 true<|Aqi rfl rfl (ATf rfl (AGx<|AG1 ?_)));obtain rfl:=AGo<|ifT Ai Ac;exact ⟨_,AS5,Ab.x,rfl⟩
  ·rw [decide_eq_false Ac];refine AWi 14 false<|AS6 rfl (AGx<|AG1 ?_);obtain rfl:=AGo<|ifF Ai Ac;exact ⟨_,AS5,Ab.x,rfl⟩
def AUu (fuel:Nat) (a1:Int):Option Int:=
 if a1 < 2 then some 1 else if 2147483647 < a1 then some 1 else some 0
theorem AZ6 {r:Int} (hp:AUu fuel a1=some r):ATz Tryz.prog 99 #[(.int .i64 a1)] h (λx h'=>Ext h h'/\x= .int .i64 r):=by
 unfold AUu at hp;refine cwf (l:=[_]) Tryz.func99 rfl rfl (AGq<|AGx<|AGs<|AGq<|AGm<|ATp rfl rfl (AGm ?_));have K0:=Kst.k0 h;by_cases Aa:a1 < 2
 ·rw [decide_eq_true Aa];refine Adc 5 true<|ATf rfl (AGu<|ATx rfl (AGq<|AGx<|AG1<|ATd ?_));obtain rfl:=AGo<|ifT hp Aa;exact ⟨_,AS5,K0.x,rfl⟩
 ·have Ae:=ifF hp Aa;rw [decide_eq_false Aa];refine ATc 5 false<|AGm<|ATc 5 false<|AXr rfl rfl (AS6 rfl (AGu<|⟨_,rfl,λAd=>?_,λAd=>?_⟩))
  ·refine AGq<|AGx<|AG1<|ATd ?_;obtain rfl:=AGo<|AT4 Ae Ad;exact ⟨_,AS5,K0.x,rfl⟩
  ·refine AG0<|q_t<|AGq<|AGx<|AG1 ?_;obtain rfl:=AGo<|AT5 Ae Ad;exact ⟨_,AS5,K0.x,rfl⟩
def Ac5 (fuel:Nat) (a5 Ad:Int) (Ae:LiA) (Ab:Int) (Ac:LiI):Option ((Int × LiI) ⊕ LiI):=
 if Ab < (Ae.length:Int) then (gI Ae Ab).bind λAg=>(gI Ac Ad).bind λAf=>if a5≠0 then if a5≠0 then (gI Af Ab).bind λAh=>some (.inl (w64<|Ab + 1,sI Ac Ad<|sI Af Ab<|Int.tmod (w64<|Int.tmod Ag a5 + a5) a5)) else none else none else some<|.inr Ac
def Ac6 (fuel:Nat) (a3:LiI) (a5 Aa:Int) (Ac:LiI):Option ((Int × LiI) ⊕ LiI):=
 if Aa < (a3.length:Int) then (gI a3 Aa).bind λAb=>if 0<=(Ab.length:Int)/\(Ab.length:Int)<=100000000 then (gI Ac Aa).bind λAg=>(iter (λs=>Ac5 fuel a5 Aa Ab s.1 s.2) fuel (0,sI Ac Aa<|List.replicate (Int.toNat (Ab.length:Int)) (0:Int))).bind (λ(Af:LiI)=>some<|.inl (w64<|Aa + 1,Af)) else none else some<|.inr Ac
def AV0 (fuel:Nat) (a3:LiI) (a5:Int):Option LiI:=
 if 0<=(a3.length:Int)/\(a3.length:Int)<=100000000 then (iter (λs=>Ac6 fuel a3 a5 s.1 s.2) fuel (0,List.replicate (Int.toNat (a3.length:Int)) ([]:List Int))).bind (λ(Ac:LiI)=>some Ac) else none
theorem Aad {r:LiI} (H2:AV4 (cI .i64) h Ao a3) (hp:AV0 fuel a3 a5=some r):ATz Tryz.prog 100 #[Ao,(.int .i64 a5)] h (λx h'=>Ext h h'/\ ∃ (x0:Value) (F0:List Nat) (A3:List LnA) (A4:List Value),x=x0/\AV8 (cI .i64) 61 2 h' F0 A3 A4 x0 r/\Sp h' h.size [F0]):=by
 unfold AV0 at hp;refine cwf (l:=[_,_]) Tryz.func100 rfl rfl (AGq<|AT2<|AGm<|AT3 ATb rfl H2 ?_);obtain ⟨A5,A6⟩:=ifN hp;refine Ak0 (cI .i64) 2 ATb Aet rfl trivial tt2 rfl rfl AGn A5 λA7 A8 A9 Au Ce Ba E8 S9=>AGx<|AGs<|AGq<|AGm<|AT3 ATb rfl H2 (AGm<|AGu<|AGt ?_);have Av:=(Kst.k0 h).no2 E8 S9 Ba;refine AXv 281474976678848 (λx:(Int) × (LiI) × LnA × LnN × LvA=>(x.1,x.2.1)) ((0,(List.replicate (Int.toNat (a3.length:Int)) ([]:List Int)),A7,A8,A9):(Int) × (LiI) × LnA × LnN × LvA) A6 (λx=>[(15,(.int .i64 x.1))]) (λx=>Av.L.set 0<|aO2 (cI .i64) 61 2 x.2.2.1 x.2.2.2.1 x.2.2.2.2 Au x.2.1) Av ⟨rfl,trivial⟩ ?_;rintro ⟨Aa,Be,Cf,Aw,Bf⟩ Cg Ch Ci Ab Ag Bg;unfold Ac6 at Ag;refine AGq<|ATp rfl rfl (AGu<|AGs<|⟨_,rfl,λAh=>?_,λAh=>?_⟩)
 ·refine AG0<|q_t<|AGs<|AGt<|AGq<|AGm ?_;obtain ⟨Bh,Bi,Bj⟩:=AGr<|AT4 Ag Ah;refine AZ1 ATb ATq H2 Ab.x Bi λ_ Cj Ai=>ATs<|AT2<|AGm<|AGm<|AGm<|AUl ATa rfl Ai ?_;obtain ⟨Bl,Bm⟩:=ifN Bj;refine Ajb (c:=(cI .i64)) (a:=0) ATa Abm rfl rfl (λ_=>rfl) rfl trivial tt2 rfl rfl AGn Bl λAx Bn Ck Bo Bp Bq Br=>?_;have Ac:=Ab.no Bp (AYh Bq Br) Bo;obtain ⟨Cm,Ay,Bt⟩:=AGr Bm;refine AVv ATb rfl (Ac.o2 p1) rfl Ay λBu Cn Bv Co Cp=>Akz ATq (Ac.o2 p1) Ay Bv rfl rfl (Ac.o p0) (Ac.dj p0 p1 AGn) λCq Bw Bx By=>Aal<|AGm<|AUl ATa rfl Ai (AGm<|AGu<|AGt ?_);have Aj:=(Ac.m2 p0 p1 AGn Bx Bw λz hz=> .inl<|By z hz).sel [1] AGn;dsimp only [AZ3,Adk] at Aj;refine AXv 140737219920640 (λx:(Int) × (LiI) × LnA × LnN × LvA=>(x.1,x.2.1)) ((0,(sI Be Aa<|List.replicate (Int.toNat (Bh.length:Int)) (0:Int)),(Bu :: (Aw.set (Int.toNat Aa) [Ax]).flatten),(Aw.set (Int.toNat Aa) [Ax]),(Bf.set (Int.toNat Aa) Bn)):(Int) × (LiI) × LnA × LnN × LvA) Bt (λx=>[(28,(.int .i64 x.1))]) (λx=>Aj.L.set 0<|aO2 (cI .i64) 61 2 x.2.2.1 x.2.2.2.1 x.2.2.2.2 Au x.2.1) Aj ⟨rfl,trivial⟩ ?_;rintro ⟨Cr,Ct,Cu,Cv,Cw⟩ Cx Cy Cz Ad Ak Bz;unfold Ac5 at Ak;refine AGq<|ATp rfl rfl (AGu<|AGs<|⟨_,rfl,λAm=>?_,λAm=>?_⟩)
  ·refine AG0<|q_t<|AGs<|AGt<|AGq<|AGm ?_;obtain ⟨C0,B1,B3⟩:=AGr<|AT4 Ak Am;refine Aoc ATa ATg Ai Ad.x B1 λ_=>(ATs<|AGx<|AXi<|AGm<|AGm ?_);obtain ⟨C1,Az,B4⟩:=AGr B3;refine AUo ATb ATq (Ad.o2 p0) Az λ_ C2 B5=>AGm<|AGm<|AGm ?_;obtain ⟨B6,B7⟩:=ifN B4;refine Acl rfl rfl B6 (AGm<|ATn rfl rfl (AGm ?_));obtain ⟨B8,B9⟩:=ifN B7;refine Acl rfl rfl B8 ?_;obtain ⟨C3,Ca,Cb⟩:=AGr B9;refine AZ0 (m:=Aa) Ad p0 ATa ATg B5 Az Ca (λ_=>rfl) λ_ C4 Cd=>ATu<|q_b<|q_t<|AS8<|ATn rfl rfl (AGm<|AGu ?_);exact ⟨(_,_,_,_,_),(AGo Cb).symm,Cd,rfl,trivial⟩
  ·refine ATh<|ATi<|ATi<|AUf<|q_b<|q_t<|AS8<|ATn rfl rfl (AGm<|AGu ?_);exact ⟨(_,_,_,_,_),(AGo<|Bz _ (AGo<|AT5 Ak Am).symm).symm,Ad,rfl,trivial⟩
 ·refine ATh<|ATi<|ATi<|AUf<|q_t<|AGq<|AGm<|AGx<|AG1 ?_;obtain rfl:=AGo<|Bg _ (AGo<|AT5 Ag Ah).symm;exact ⟨_,AS5,Ab.x,_,_,_,_,rfl,(Ab.o2 p0),Ab.s.sel [0] AGn⟩
def Abw (fuel:Nat) (a3:LiI) (Ab Aa:Int) (Ac:LiI):Option ((Int × LiI) ⊕ LiI):=
 if Aa < (a3.length:Int) then (gI a3 Aa).bind λAf=>(gI Ac Ab).bind λAe=>(gI Af Ab).bind λAg=>(gI Ae Aa).bind λAh=>some (.inl (w64<|Aa + 1,sI Ac Ab<|sI Ae Aa Ag)) else some<|.inr Ac
def Abx (fuel:Nat) (a3:LiI) (x5:LiA) (Aa:Int) (Ac:LiI):Option ((Int × LiI) ⊕ LiI):=
 if Aa < ((List.replicate (Int.toNat (x5.length:Int)) ([]:List Int)).length:Int) then if 0<=(a3.length:Int)/\(a3.length:Int)<=100000000 then (gI Ac Aa).bind λAf=>(iter (λs=>Abw fuel a3 Aa s.1 s.2) fuel (0,sI Ac Aa<|List.replicate (Int.toNat (a3.length:Int)) (0:Int))).bind (λ(Ae:LiI)=>some<|.inl (w64<|Aa + 1,Ae)) else none else some<|.inr Ac
def Abl (fuel:Nat) (a3:LiI):Option LiI:=
 (gI a3 0).bind λx5=>if 0<=(x5.length:Int)/\(x5.length:Int)<=100000000 then (iter (λs=>Abx fuel a3 x5 s.1 s.2) fuel (0,List.replicate (Int.toNat (x5.length:Int)) ([]:List Int))).bind (λ(Ac:LiI)=>some Ac) else none
theorem An3 {r:LiI} (H2:AV4 (cI .i64) h Ao a3) (hp:Abl fuel a3=some r):ATz Tryz.prog 140 #[Ao] h (λx h'=>Ext h h'/\ ∃ (x0:Value) (F0:List Nat) (Az:List LnA) (A3:List Value),x=x0/\AV8 (cI .i64) 61 2 h' F0 Az A3 x0 r/\Sp h' h.size [F0]):=by
 unfold Abl at hp;refine cwf (l:=[_]) Tryz.func140 rfl rfl (AGq<|AT2<|AGm ?_);have K0:=Kst.k0 h;obtain ⟨x5,A5,A6⟩:=AGr hp;refine AZ1 ATb ATq H2 K0.x A5 λ_ r8 H9=>AUl ATa rfl H9 ?_;obtain ⟨A8,A9⟩:=ifN A6;refine Ak0 (cI .i64) 2 ATb Aet rfl trivial tt2 rfl rfl AGn A8 λBa Bb Bc Au Ce Be Bf Bg=>AGx<|AGs<|AGq<|AGm ?_;have Ag:=K0.no2 Bf Bg Be;refine AT3 ATb rfl (Ag.o2 p0).rd (AGm<|AGu<|AGt<|AXv 4398046494832 (λx:(Int) × (LiI) × LnA × LnN × LvA=>(x.1,x.2.1)) ((0,(List.replicate (Int.toNat (x5.length:Int)) ([]:List Int)),Ba,Bb,Bc):(Int) × (LiI) × LnA × LnN × LvA) A9 (λx=>[(14,(.int .i64 x.1))]) (λx=>Ag.L.set 0<|aO2 (cI .i64) 61 2 x.2.2.1 x.2.2.2.1 x.2.2.2.2 Au x.2.1) Ag ⟨rfl,trivial⟩ ?_);rintro ⟨Aa,Bh,Cf,Av,Bi⟩ Cg Ch Ci Ae Ah Bj;unfold Abx at Ah;refine AGq<|ATp rfl rfl (AGu<|AGs<|⟨_,rfl,λAi=>?_,λAi=>?_⟩)
 ·refine AG0<|q_t<|AGs<|AGt<|AGq<|AGm<|AT2<|AGm<|AGm<|AGm<|AT3 ATb rfl H2 ?_;obtain ⟨Bl,Bm⟩:=ifN<|AT4 Ah Ai;refine Ajb (c:=(cI .i64)) (a:=0) ATa Abm rfl rfl (λ_=>rfl) rfl trivial tt2 rfl rfl AGn Bl λAw Bn Cj Bo Bp Bq Br=>?_;have Ab:=Ae.no Bp (AYh Bq Br) Bo;obtain ⟨Ck,Ax,Bt⟩:=AGr Bm;refine AVv ATb rfl (Ab.o2 p1) rfl Ax λBu Cm Bv Cn Co=>Akz ATq (Ab.o2 p1) Ax Bv rfl rfl (Ab.o p0) (Ab.dj p0 p1 AGn) λCp Bw Bx By=>Aal<|AGm<|AT3 ATb rfl H2 (AGm<|AGu<|AGt ?_);have Aj:=(Ab.m2 p0 p1 AGn Bx Bw λz hz=> .inl<|By z hz).sel [1] AGn;dsimp only [AZ3,Adk] at Aj;refine AXv 2198989701216 (λx:(Int) × (LiI) × LnA × LnN × LvA=>(x.1,x.2.1)) ((0,(sI Bh Aa<|List.replicate (Int.toNat (a3.length:Int)) (0:Int)),(Bu :: (Av.set (Int.toNat Aa) [Aw]).flatten),(Av.set (Int.toNat Aa) [Aw]),(Bi.set (Int.toNat Aa) Bn)):(Int) × (LiI) × LnA × LnN × LvA) Bt (λx=>[(25,(.int .i64 x.1))]) (λx=>Aj.L.set 0<|aO2 (cI .i64) 61 2 x.2.2.1 x.2.2.2.1 x.2.2.2.2 Au x.2.1) Aj ⟨rfl,trivial⟩ ?_;rintro ⟨Cq,Cr,Ct,Cu,Cv⟩ Cw Cx Cy Ac Ak Bz;unfold Abw at Ak;refine AGq<|ATp rfl rfl (AGu<|AGs<|⟨_,rfl,λAm=>?_,λAm=>?_⟩)
  ·refine AG0<|q_t<|AGs<|AGt<|AGq<|AGm ?_;obtain ⟨Cz,B1,B3⟩:=AGr<|AT4 Ak Am;refine AZ1 ATb ATq H2 Ac.x B1 λ_ C0 B4=>ATs<|AGx<|AXi<|AGm<|AGm ?_;obtain ⟨C1,Ay,B5⟩:=AGr B3;refine AUo ATb ATq (Ac.o2 p0) Ay λ_ C2 B6=>AGm<|AGm<|AGm ?_;obtain ⟨C3,B7,B8⟩:=AGr B5;refine Aoc ATa ATg B4 Ac.x B7 λ_=>?_;obtain ⟨C4,B9,Ca⟩:=AGr B8;refine AZ0 (m:=Aa) Ac p0 ATa ATg B6 Ay B9 (λ_=>rfl) λ_ C5 Cb=>ATu<|q_b<|q_t<|AS8<|ATn rfl rfl (AGm<|AGu ?_);exact ⟨(_,_,_,_,_),(AGo Ca).symm,Cb,rfl,trivial⟩
  ·refine ATh<|ATi<|ATi<|AUf<|q_b<|q_t<|AS8<|ATn rfl rfl (AGm<|AGu ?_);exact ⟨(_,_,_,_,_),(AGo<|Bz _ (AGo<|AT5 Ak Am).symm).symm,Ac,rfl,trivial⟩
 ·refine ATh<|ATi<|ATi<|AUf<|q_t<|AGq<|AGm<|AGx<|AG1 ?_;obtain rfl:=AGo<|Bj _ (AGo<|AT5 Ah Ai).symm;exact ⟨_,AS5,Ae.x,_,_,_,_,rfl,(Ae.o2 p0),Ae.s.sel [0] AGn⟩
def Ad6 (fuel:Nat) (a9 Ad Ag:Int) (Ae:LiA) (Aa:Int) (Ab:LiI):Option ((Int × LiI) ⊕ LiI):=
 if Aa < (Ae.length:Int) then (gI Ae Aa).bind λAh=>(gI Ab Ad).bind λAf=>(gI Af Aa).bind λAi=>if a9≠0 then some (.inl (w64<|Aa + 1,sI Ab Ad<|sI Af Aa<|Int.tmod (w64<|Ai + w64 (Ag * Ah)) a9)) else none else some<|.inr Ab
def Ad7 (fuel:Nat) (a7:LiI) (a9 Af:Int) (Ab:LiA) (Aa:Int) (Ac:LiI):Option ((Int × LiI) ⊕ LiI):=
 if Aa < (Ab.length:Int) then (gI Ab Aa).bind λAg=>(gI a7 Aa).bind λAh=>(iter (λs=>Ad6 fuel a9 Af Ag Ah s.1 s.2) fuel (0,Ac)).bind (λ(Ai:LiI)=>some<|.inl (w64<|Aa + 1,Ai)) else some<|.inr Ac
def Ad8 (fuel:Nat) (a3 a7:LiI) (a9 Aa:Int) (Ab:LiI):Option ((Int × LiI) ⊕ LiI):=
 if Aa < (a3.length:Int) then (gI a3 Aa).bind λAg=>(gI a7 0).bind λAc=>if 0<=(Ac.length:Int)/\(Ac.length:Int)<=100000000 then (gI Ab Aa).bind λAi=>(iter (λs=>Ad7 fuel a7 a9 Aa Ag s.1 s.2) fuel (0,sI Ab Aa<|List.replicate (Int.toNat (Ac.length:Int)) (0:Int))).bind (λ(Ah:LiI)=>some<|.inl (w64<|Aa + 1,Ah)) else none else some<|.inr Ab
def Aa4 (fuel:Nat) (a3 a7:LiI) (a9:Int):Option LiI:=
 if 0<=(a3.length:Int)/\(a3.length:Int)<=100000000 then (iter (λs=>Ad8 fuel a3 a7 a9 s.1 s.2) fuel (0,List.replicate (Int.toNat (a3.length:Int)) ([]:List Int))).bind (λ(Ad:LiI)=>some Ad) else none
theorem Ajz {Au:Value} {Av:Value} {a7:LiI} {a9:Int} {r:LiI} (H2:AV4 (cI .i64) h Au a3) (H6:AV4 (cI .i64) h Av a7) (hp:Aa4 fuel a3 a7 a9=some r):ATz Tryz.prog 139 #[Au,Av,(.int .i64 a9)] h (λx h'=>Ext h h'/\ ∃ (x0:Value) (F0:List Nat) (Bb:List LnA) (Bc:List Value),x=x0/\AV8 (cI .i64) 61 2 h' F0 Bb Bc x0 r/\Sp h' h.size [F0]):=by
 unfold Aa4 at hp;refine cwf (l:=[_,_,_]) Tryz.func139 rfl rfl (AGq<|AT2<|AGm<|AT3 ATb rfl H2 ?_);obtain ⟨Be,Bf⟩:=ifN hp;refine Ak0 (cI .i64) 2 ATb Aet rfl trivial tt2 rfl rfl AGn Be λBg Bh Bi Ai Cy Bj Bl Bm=>AGx<|AGs<|AGq<|AGm<|AT3 ATb rfl H2 (AGm<|AGu<|AGt ?_);have A4:=(Kst.k0 h).no2 Bl Bm Bj;refine AXv 2361183241434822098688 (λx:(Int) × (LiI) × LnA × LnN × LvA=>(x.1,x.2.1)) ((0,(List.replicate (Int.toNat (a3.length:Int)) ([]:List Int)),Bg,Bh,Bi):(Int) × (LiI) × LnA × LnN × LvA) Bf (λx=>[(19,(.int .i64 x.1))]) (λx=>A4.L.set 0<|aO2 (cI .i64) 61 2 x.2.2.1 x.2.2.2.1 x.2.2.2.2 Ai x.2.1) A4 ⟨rfl,trivial⟩ ?_;rintro ⟨Aa,Bn,Cz,A5,Bo⟩ C0 C1 C2 Ab Aj Bp;unfold Ad8 at Aj;refine AGq<|ATp rfl rfl (AGu<|AGs<|⟨_,rfl,λAk=>?_,λAk=>?_⟩)
 ·refine AG0<|q_t<|AGs<|AGt<|AGq<|AGm ?_;obtain ⟨C3,Bq,Br⟩:=AGr<|AT4 Aj Ak;refine AZ1 ATb ATq H2 Ab.x Bq λ_ C4 A6=>ATs<|AT2<|AGm<|AGm<|AGm ?_;obtain ⟨Bt,Bu,Bv⟩:=AGr Br;refine AZ1 ATb ATq H6 Ab.x Bu λ_ C5 Bw=>AUl ATa rfl Bw ?_;obtain ⟨Bx,By⟩:=ifN Bv;refine Ajb (c:=(cI .i64)) (a:=0) ATa Abm rfl rfl (λ_=>rfl) rfl trivial tt2 rfl rfl AGn Bx λA7 Bz C6 B1 B3 B4 B5=>?_;have Ad:=Ab.no B3 (AYh B4 B5) B1;obtain ⟨C7,A8,B6⟩:=AGr By;refine AVv ATb rfl (Ad.o2 p1) rfl A8 λB7 C8 B8 C9 Da=>Akz ATq (Ad.o2 p1) A8 B8 rfl rfl (Ad.o p0) (Ad.dj p0 p1 AGn) λDb B9 Ca Cb=>Aal<|AGm<|AUl ATa rfl A6 (AGm<|AGu<|AGt ?_);have Am:=(Ad.m2 p0 p1 AGn Ca B9 λz hz=> .inl<|Cb z hz).sel [1] AGn;dsimp only [AZ3,Adk] at Am;refine AXv 1180591620700231449600 (λx:(Int) × (LiI) × LnA × LnN × LvA=>(x.1,x.2.1)) ((0,(sI Bn Aa<|List.replicate (Int.toNat (Bt.length:Int)) (0:Int)),(B7 :: (A5.set (Int.toNat Aa) [A7]).flatten),(A5.set (Int.toNat Aa) [A7]),(Bo.set (Int.toNat Aa) Bz)):(Int) × (LiI) × LnA × LnN × LvA) B6 (λx=>[(34,(.int .i64 x.1))]) (λx=>Am.L.set 0<|aO2 (cI .i64) 61 2 x.2.2.1 x.2.2.2.1 x.2.2.2.2 Ai x.2.1) Am ⟨rfl,trivial⟩ ?_;rintro ⟨Dc,Cd,Ce,Cf,Cg⟩ Dd De Df Ae Ao Ch;unfold Ad7 at Ao;refine AGq<|ATp rfl rfl (AGu<|AGs<|⟨_,rfl,λAp=>?_,λAp=>?_⟩)
  ·refine AG0<|q_t<|AGs<|AGt<|AGq<|AGm ?_;obtain ⟨Dg,Ci,Cj⟩:=AGr<|AT4 Ao Ap;refine Aoc ATa ATg A6 Ae.x Ci λ_=>(ATs<|AT2<|AGm<|AGm ?_);obtain ⟨Dh,Ck,Cm⟩:=AGr Cj;refine AZ1 ATb ATq H6 Ae.x Ck λ_ Di A9=>AUl ATa rfl A9 (AGm<|AGu<|AGt<|AXv 590295792766519619584 (λx:(Int) × (LiI) × LnA × LnN × LvA=>(x.1,x.2.1)) ((0,Cd,Ce,Cf,Cg):(Int) × (LiI) × LnA × LnN × LvA) Cm (λx=>[(44,(.int .i64 x.1))]) (λx=>Ae.L.set 0<|aO2 (cI .i64) 61 2 x.2.2.1 x.2.2.2.1 x.2.2.2.2 Ai x.2.1) Ae ⟨rfl,trivial⟩ ?_);rintro ⟨Dj,Dk,Dl,Do,Dp⟩ Dq Dr Ds Ac Aq Cn;unfold Ad6 at Aq;refine AGq<|ATp rfl rfl (AGu<|AGs<|⟨_,rfl,λAr=>?_,λAr=>?_⟩)
   ·refine AG0<|q_t<|AGs<|AGt<|AGq<|AGm ?_;obtain ⟨Dt,Co,Cp⟩:=AGr<|AT4 Aq Ar;refine Aoc ATa ATg A9 Ac.x Co λ_=>(ATs<|AGx<|AXi<|AGm<|AGm ?_);obtain ⟨Du,Af,Cq⟩:=AGr Cp;refine AUo ATb ATq (Ac.o2 p0) Af λ_ Dv Cr=>AGm<|AGm<|AGm<|AUo ATb ATq (Ac.o2 p0) Af λ_ Dw Ct=>AGm ?_;obtain ⟨Dx,Ba,Cu⟩:=AGr Cq;refine AW6 (m:=Aa) ATa ATg (Ac.o2 p0) Ct Af Ba λ_=>(AGm<|AGm<|Aaq rfl rfl (ATn rfl rfl (AGm ?_)));obtain ⟨Cv,Cw⟩:=ifN Cu;refine Acl rfl rfl Cv (AZ0 (m:=Aa) Ac p0 ATa ATg Cr Af Ba (λ_=>rfl) λ_ Dy Cx=>ATu<|q_b<|q_t<|AS8<|ATn rfl rfl (AGm<|AGu ?_));exact ⟨(_,_,_,_,_),(AGo Cw).symm,Cx,rfl,trivial⟩
   ·refine ATh<|ATi<|ATi<|AUf<|q_b<|q_t<|AS8<|ATn rfl rfl (AGm<|AGu ?_);exact ⟨(_,_,_,_,_),(AGo<|Cn _ (AGo<|AT5 Aq Ar).symm).symm,Ac,rfl,trivial⟩
  ·refine ATh<|ATi<|ATi<|AUf<|q_b<|q_t<|AS8<|ATn rfl rfl (AGm<|AGu ?_);exact ⟨(_,_,_,_,_),(AGo<|Ch _ (AGo<|AT5 Ao Ap).symm).symm,Ae,rfl,trivial⟩
 ·refine ATh<|ATi<|ATi<|AUf<|q_t<|AGq<|AGm<|AGx<|AG1 ?_;obtain rfl:=AGo<|Bp _ (AGo<|AT5 Aj Ak).symm;exact ⟨_,AS5,Ab.x,_,_,_,_,rfl,(Ab.o2 p0),Ab.s.sel [0] AGn⟩
def Acw (fuel:Nat) (a3:LiI) (a5:Int):Option (LiI × Int):=
 (AY0 fuel a3).bind λx6=>if (!x6)=true then some ([],3) else (AUu fuel a5).bind λAc=>if ¬ Ac=0 then some ([],Ac) else (AV0 fuel a3 a5).bind λAe=>some (Ae,0)
theorem Aog {Ag:Value} {r:(LiI × Int)} (H2:AV4 (cI .i64) h Ag a3) (hp:Acw fuel a3 a5=some r):ATz Tryz.prog 53 #[Ag,(.int .i64 a5)] h (λx h'=>Ext h h'/\ ∃ (x0:Value) (F0:List Nat) (Au:List LnA) (Av:List Value),x= .tuple #[x0,.int .i64 r.2]/\AV8 (cI .i64) 61 2 h' F0 Au Av x0 r.1/\Sp h' h.size [F0]):=by
 unfold Acw at hp;refine cwf (l:=[_,_]) Tryz.func53 rfl rfl (AGq<|ATs<|AGx<|AGs<|AGq<|AGm ?_);have K0:=Kst.k0 h;obtain ⟨x6,Aw,Ap⟩:=AGr hp;refine AVs K0 (Afy (H2.ext K0.x) Aw) λA4 E9 Aq=>AV5 rfl (AGu<|⟨_,rfl,λAa=>?_,λAa=>?_⟩)
 ·refine AGq<|ATs<|AGx<|AG1<|ATd ?_;have Ab:=Kst.anil2 (cI .i64) 61 2 Aq;obtain rfl:=AGo<|ifT Ap Aa;exact ⟨_,AUp,Ab.x,_,_,_,_,rfl,(Ab.o2 p0),Ab.s.sel [0] AGn⟩
 ·refine AG0<|q_t<|AGs<|AGq<|AGm ?_;obtain ⟨A6,Ax,Ar⟩:=AGr<|AY5 Ap Aa;refine AVs Aq (AZ6 Ax) λA7 A8 Ac=>AT2<|AGm<|AVz rfl rfl (AGu<|⟨_,rfl,λAd=>?_,λAd=>?_⟩)
  ·refine AGq<|AGm<|ATs<|AGx<|AG1<|ATd ?_;have Ae:=Kst.anil2 (cI .i64) 61 2 Ac;obtain rfl:=AGo<|AT4 Ar Ad;exact ⟨_,AUp,Ae.x,_,_,_,_,rfl,(Ae.o2 p0),Ae.s.sel [0] AGn⟩
  ·refine AG0<|q_t<|AGq<|AGm<|AGm ?_;obtain ⟨A9,Ay,Az⟩:=AGr<|AT5 Ar Ad;refine Agx Ac (Aad (H2.ext Ac.x) Ay) λBa Bb Bc Be Bf Bg Af=>ATs<|AGx<|AG1 ?_;obtain rfl:=AGo Az;exact ⟨_,AUp,Af.x,_,_,_,_,rfl,(Af.o2 p0),Af.s.sel [0] AGn⟩
def Aav (fuel:Nat) (a3 a7:LiI) (a9:Int):Option (LiI × Int):=
 (((AY0 fuel a3).bind λAf=>if (!Af)=true then some (.inl ([],3)) else (AY0 fuel a7).bind λAg=>if (!Ag)=true then some (.inl ([],3)) else (gI a3 0).bind λAh=>if ¬ (a3.length:Int)=(Ah.length:Int) then some (.inl ([],3)) else if ¬ (a7.length:Int)=(a3.length:Int) then some (.inl ([],3)) else some<|.inr ()):Option ((LiI × Int) ⊕ Unit)).bind (λex=>match ex with | .inl Ai=>(some Ai) | .inr _=>(AUu fuel a9).bind λAd=>if ¬ Ad=0 then some ([],Ad) else (AV0 fuel a7 a9).bind λAe=>(Abl fuel Ae).bind λAj=>(AV0 fuel a3 a9).bind λAk=>(Aa4 fuel Ak Ae a9).bind λAm=>(Aa4 fuel Aj Am a9).bind λAo=>some (Ao,0))
theorem Am3 {Ax:Value} {Ay:Value} {a7:LiI} {a9:Int} {r:(LiI × Int)} (H2:AV4 (cI .i64) h Ax a3) (H6:AV4 (cI .i64) h Ay a7) (hp:Aav fuel a3 a7 a9=some r):ATz Tryz.prog 86 #[Ax,Ay,(.int .i64 a9)] h (λx h'=>Ext h h'/\ ∃ (x0:Value) (F0:List Nat) (Bg:List LnA) (Bh:List Value),x= .tuple #[x0,.int .i64 r.2]/\AV8 (cI .i64) 61 2 h' F0 Bg Bh x0 r.1/\Sp h' h.size [F0]):=by
 unfold Aav at hp;refine cwf (l:=[_,_,_]) Tryz.func86 rfl rfl (AGq<|ATs<|AGx ?_);have K0:=Kst.k0 h;obtain ⟨Bi,Bj,Ab⟩:=AGr hp;refine Aer 17179868352 (λx:Unit=>[]) (λx h'=>(Sum.inr <| ())=Bi/\Kst h h' (K0.L)) ?_ ?_
 ·refine AGq<|AGm ?_;obtain ⟨Bl,Bm,A6⟩:=AGr Bj;refine AVs K0 (Afy (H2.ext K0.x) Bm) λB9 Ca Ah=>AV5 rfl (AGm ?_);cases A7:(!Bl)
  ·refine ATc 13 false<|AGm<|ATc 13 false ?_;obtain ⟨Bn,Bo,A8⟩:=AGr<|AY5 A6 A7;refine AVs Ah (Afy (H6.ext Ah.x) Bo) λCb Cd Ac=>ATc 13 false<|AV5 rfl (AS6 rfl (AGm ?_));cases A9:(!Bn)
   ·refine ATc 18 false<|AGm<|ATc 18 false<|AT3 ATb rfl H2 (ATc 18 false<|AGm<|ATc 18 false ?_);obtain ⟨Bp,Bq,Ba⟩:=AGr<|AY5 A8 A9;refine Alx ATb rfl H2 rfl Bq λCe Cf Cg Br Bt=>ATc 18 false<|AT6 ATq rfl (ATw Br Ac.x) (ATc 18 false<|AUl ATa rfl Bt (ATc 18 false<|AVz rfl rfl (AS6 rfl (AGm ?_))));by_cases Ad: ¬ (a3.length:Int)=(Bp.length:Int)
    ·rw [decide_eq_true Ad];refine AY2 27 true<|ATf rfl (AGu<|ATx rfl (AGq<|ATs<|AGx ?_));obtain rfl:=AGo<|ifT Ba Ad;refine AG1<|ATd ?_;have Ai:=Kst.anil2 (cI .i64) 61 2 Ac;obtain rfl:=AGo Ab;exact ⟨_,AUp,Ai.x,_,_,_,_,rfl,(Ai.o2 p0),Ai.s.sel [0] AGn⟩
    ·have Bb:=ifF Ba Ad;rw [decide_eq_false Ad];refine ATc 27 false<|AGm<|ATc 27 false<|AT3 ATb rfl H6 (ATc 27 false<|AGm<|ATc 27 false<|AT3 ATb rfl H2 (ATc 27 false<|AVz rfl rfl (AS6 rfl (AGu<|⟨_,rfl,λAj=>?_,λAj=>?_⟩))))
     ·refine AGq<|ATs<|AGx ?_;obtain rfl:=AGo<|AT4 Bb Aj;refine AG1<|ATd ?_;have Ak:=Kst.anil2 (cI .i64) 61 2 Ac;obtain rfl:=AGo Ab;exact ⟨_,AUp,Ak.x,_,_,_,_,rfl,(Ak.o2 p0),Ak.s.sel [0] AGn⟩
     ·refine AG0<|q_t ?_;exact ⟨(():Unit),⟨AGo<|AT5 Bb Aj,Ac⟩,trivial⟩
   ·refine AY2 18 true<|Adc 18 true<|ATf rfl (AGm<|AY2 27 true<|ATf rfl (AGu<|ATx rfl (AGq<|ATs<|AGx ?_)));obtain rfl:=AGo<|ifT A8 A9;refine AG1<|ATd ?_;have Am:=Kst.anil2 (cI .i64) 61 2 Ac;obtain rfl:=AGo Ab;exact ⟨_,AUp,Am.x,_,_,_,_,rfl,(Am.o2 p0),Am.s.sel [0] AGn⟩
  ·refine AWi 13 true<|ATf rfl (AGm<|AY2 18 true<|Adc 18 true<|ATf rfl (AGm<|AY2 27 true<|ATf rfl (AGu<|ATx rfl (AGq<|ATs<|AGx ?_))));obtain rfl:=AGo<|ifT A6 A7;refine AG1<|ATd ?_;have Ao:=Kst.anil2 (cI .i64) 61 2 Ah;obtain rfl:=AGo Ab;exact ⟨_,AUp,Ao.x,_,_,_,_,rfl,(Ao.o2 p0),Ao.s.sel [0] AGn⟩
 rintro ⟨⟩ Ch Ci ⟨Bu,Bv⟩;subst Bu;refine AGs<|AGq<|AGm ?_;obtain ⟨Cj,Bw,Bc⟩:=AGr Ab;refine AVs Bv (AZ6 Bw) λCk Cm Ap=>AT2<|AGm<|AVz rfl rfl (AGu<|⟨_,rfl,λAq=>?_,λAq=>?_⟩)
 ·refine AGq<|AGm<|ATs<|AGx<|AG1<|ATd ?_;have Ar:=Kst.anil2 (cI .i64) 61 2 Ap;obtain rfl:=AGo<|AT4 Bc Aq;exact ⟨_,AUp,Ar.x,_,_,_,_,rfl,(Ar.o2 p0),Ar.s.sel [0] AGn⟩
 ·refine AG0<|q_t<|AGq<|AGm<|AGm ?_;obtain ⟨Cn,Bx,By⟩:=AGr<|AT5 Bc Aq;refine Agx Ap (Aad (H6.ext Ap.x) Bx) λCo Cp Cq Cr Ct Cu Be=>AT2<|AGm ?_;obtain ⟨Cv,Bz,B1⟩:=AGr By;refine Agx Be (An3 (Be.o2 p0).rd Bz) λCw Cx Cy Cz C0 C1 Bf=>AGm<|AGm ?_;obtain ⟨C2,B3,B4⟩:=AGr B1;refine Agx Bf (Aad (H2.ext Bf.x) B3) λC3 C4 C5 C6 C7 C8 Au=>AGm<|AGm ?_;obtain ⟨C9,B5,B6⟩:=AGr B4;refine Agx Au (Ajz (Au.o2 p0).rd (Au.o2 p2).rd B5) λDa Db Dc Dd De Df Av=>AGm ?_;obtain ⟨Dg,B7,B8⟩:=AGr B6;refine Agx Av (Ajz (Av.o2 p2).rd (Av.o2 p0).rd B7) λDh Di Dj Dk Dl Do Aw=>ATs<|AGx<|AG1 ?_;obtain rfl:=AGo B8;exact ⟨_,AUp,Aw.x,_,_,_,_,rfl,(Aw.o2 p0),Aw.s.sel [0] AGn⟩
end Go.Proofs.YtkakafabeobahaaGreatDoor
namespace Go.Proofs.YtkakafabeobahaaGreatDoor
open Go Go.QF
set_option maxRecDepth 100000
theorem AU4 {β:Type} {L:List α} {n:Nat} {x:α} {f:α->Option β} (hx:L[n]? =some x):(gI L (n:Int)).bind f=f x:=by
 unfold gI;grind
theorem Al3 {β:Type} {L:List α} {x:α} {f:α->Option β} (hx:L[0]? =some x):(gI L 0).bind f=f x:=AU4 (n:=0) hx
theorem AUh (h:i<=1000000000):w64 ((i:Int) + 1)=((i + 1:Nat):Int):=by rw [wk AGl];omega
theorem Ava {n r:Nat} {g':Nat->Int} (h:∀ c,c < n->g c=g' c):part n i (AUw G r g)=part n i (AUw G r g'):=by
 unfold part;refine AUq λk _=>?_;split
 ·refine AUq λc hc=>?_;by_cases hk:k=r
  ·subst hk;rw [AUt,AUt,h c hc]
  ·rw [AXc _ _ hk,AXc _ _ hk]
 ·rfl
theorem Apc {n:Nat} (h:∀ c,c < n->g c=F i c):part n (i + 1) (AUw F i g)=part n (i + 1) F:=by
 rw [Ava h,Aif]
theorem Ayc {n:Nat} (v:Nat->Int) (hf:n < fuel)
 (hs:∀ (j:Nat) (g:Nat->Int),j < n->g j=G i j->body ((j:Int),part n (i + 1)<|AUw G i g)=some (.inl (((j + 1:Nat):Int),part n (i + 1)<|AUw G i λc=>if c=j then v j else g c)))
 (he:∀ X,body ((n:Int),X)=some (.inr X)):iter body fuel (0,part n (i + 1) G)=some (part n (i + 1)<|AUw G i v):=by
 apply ok_eq
 refine AT8 (λj s=>s=((j:Int),part n (i + 1)<|AUw G i λc=>if c < j then v c else G i c)) n ?_ hf λj s hj hI=>?_
 ·have:(λc=>if c < 0 then v c else G i c)=G i:=funext λc=>if_neg AGl;rw [this,Aif];rfl
 ·subst hI
  by_cases h:j < n
  ·rw [hs j _ h<|if_neg AGl];refine AGp ⟨h,?_⟩;refine congrArg (λz=>(((j + 1:Nat):Int),part n (i + 1)<|AUw G i z))<|funext λc=>?_
   by_cases h1:c=j
   ·grind
   omega
  ·obtain rfl:j=n:=by omega
   rw [he];exact AGp<|Ava λc hc=>if_pos hc
theorem Apd {n:Nat} (F:AS9) (hf:n < fuel)
 (hs:∀ i:Nat,i < n->body ((i:Int),part n i F)=some (.inl (((i + 1:Nat):Int),part n (i + 1) F))) (he:∀ X,body ((n:Int),X)=some (.inr X)):iter body fuel (0,List.replicate n ([]:List Int))=some (tab n n F):=by
 apply ok_eq;refine AT8 (λi s=>s=((i:Int),part n i F)) n (by rw [Aii n F];rfl) hf λi s hi hI=>?_;subst hI
 by_cases h:i < n
 ·rw [hs i h];exact AGp ⟨h,rfl⟩
 ·obtain rfl:i=n:=by omega
  rw [he];exact AGp<|Aih _ _
theorem Aw0 {m:Int} (hm:2<=m) (Ab:m<=2147483647):Int.tmod (w64<|Int.tmod x m + m) m=x % m:=by
 have h1:=Int.tmod_lt_of_pos x (show 0 < m by omega);have h2:=Int.tmod_lt_of_pos (-x) (show 0 < m by omega);rw [Int.neg_tmod] at h2;rw [wk AGl,Int.tmod_eq_emod_of_nonneg AGl,Int.add_emod_right,Int.tmod_def,Int.sub_mul_emod_self_left]
theorem Avb {n:Nat} {m:Int} (hn:n<=8) (hm:2<=m) (Aa:m<=2147483647) (hf:100 < fuel):AV0 fuel (tab n n F) m=some (tab n n λi j=>F i j % m):=by
 unfold AV0;rw [ATt,if_pos AGl,Int.toNat_natCast,Apd (n:=n) (λi j=>F i j % m) AGl (λi hi=>?_) λX=>?_]
 ·rfl
 ·unfold Ac6;dsimp only;rw [ATt,if_pos AGl,AU4<|ATv hi,AT1,if_pos AGl,AU4<|Ah3 hi,AUx,Int.toNat_natCast,AXs n (0:Int),Aga,Ayc (n:=n) (λj=>F i j % m) AGl (λj g hj hg=>?_) λX=>?_]
  ·dsimp only [Option.bind_some];rw [Ahd,Apc λc _=>rfl,AUh AGl]
  ·unfold Ac5;dsimp only;rw [AT1,if_pos AGl,AU4<|ATm hj,AU4<|Ad5 AGl hi,if_pos AGl,if_pos AGl,AUt,AU4<|ATm hj,Aw0 hm Aa,AUx,AUx,AXd,Af9 AGl,Ahd,AUh AGl]
  ·unfold Ac5;dsimp only;rw [AT1,if_neg AGl]
 ·unfold Ac6;dsimp only;rw [ATt,if_neg AGl]
theorem A9e {n:Nat} (Aa:1<=n) (hn:n<=8) (hf:100 < fuel):Abl fuel (tab n n F)=some (tab n n λi j=>F j i):=by
 unfold Abl;rw [Al3<|ATv AGl,AT1,if_pos AGl,Int.toNat_natCast,Apd (n:=n) (λi j=>F j i) AGl (λi hi=>?_) λX=>?_]
 ·rfl
 ·unfold Abx;dsimp only;rw [AT1,Int.toNat_natCast,List.length_replicate,if_pos AGl,ATt,if_pos AGl,AU4<|Ah3 hi,AUx,Int.toNat_natCast,AXs n (0:Int),Aga,Ayc (n:=n) (λj=>F j i) AGl (λj g hj hg=>?_) λX=>?_]
  ·dsimp only [Option.bind_some];rw [Ahd,Apc λc _=>rfl,AUh AGl]
  ·unfold Abw;dsimp only;rw [ATt,if_pos AGl,AU4<|ATv hj,AU4<|Ad5 AGl hi,AU4<|ATm hi,AUt,AU4<|ATm hj,AUx,AUx,AXd,Af9 AGl,Ahd,AUh AGl]
  ·unfold Abw;dsimp only;rw [ATt,if_neg AGl]
 ·unfold Abx;dsimp only;rw [AT1,Int.toNat_natCast,List.length_replicate,if_neg AGl]
def Asn (n:Nat) (m:Int) (F:AS9):Prop:= ∀ i j,i < n->j < n->0<=F i j/\F i j < m
theorem A18 {m:Int} (hm:2<=m) (Aa:m<=2147483647) (hx:0<=x/\x < m) (hy:0<=y/\y < m) (hf:f k=x * y):Int.tmod (w64<|psum f k % m + (w64<|x * y)) m=psum f (k + 1) % m:=by
 have h0:=Int.mul_nonneg hx.1 hy.1;have h1:x * y<=2147483646 * 2147483646:=Int.mul_le_mul AGl AGl hy.1 AGl;have h2:=Int.emod_nonneg (psum f k) (show m≠0 by omega);have h3:=Int.emod_lt_of_pos (psum f k) (show 0 < m by omega);rw [AVq (x:=x * y) AGl AGl,wk AGl,Int.tmod_eq_emod_of_nonneg AGl,<- hf,A4i]
theorem A31 {n:Nat} {m:Int} (Ab:1<=n) (hn:n<=8) (hm:2<=m) (Aa:m<=2147483647) (hF:Asn n m F) (hG:Asn n m G) (hf:100 < fuel):Aa4 fuel (tab n n F) (tab n n G) m=some (tab n n λi j=>psum (λk=>F i k * G k j) n % m):=by
 unfold Aa4;rw [ATt,if_pos AGl,Int.toNat_natCast,Apd (n:=n) (λi j=>psum (λk=>F i k * G k j) n % m) AGl (λi hi=>?_) λX=>?_]
 ·rfl
 ·unfold Ad8;dsimp only;rw [ATt,if_pos AGl,AU4<|ATv hi,Al3<|ATv AGl,AT1,if_pos AGl,AU4<|Ah3 hi,AUx,Int.toNat_natCast,AXs n (0:Int),Aga]
  have key:∀ X,iter (λs=>Ad7 fuel (tab n n G) m i (AU9 n<|F i) s.1 s.2) fuel (0,part n (i + 1)<|AUw X i λ_=>0)=some (part n (i + 1)<|AUw X i λj=>psum (λk=>F i k * G k j) n % m):=λX=>by
   apply ok_eq
   refine AT8 (λk s=>s=((k:Int),part n (i + 1)<|AUw X i λj=>psum (λk=>F i k * G k j) k % m)) n ?_ AGl λk s hk hI=>?_
   ·refine congrArg (λz=>((0:Int),part n (i + 1)<|AUw X i z))<|funext λc=>?_
    show 0=0 % m
    rw [Int.zero_emod]
   ·subst hI
    unfold Ad7
    dsimp only
    rw [AT1]
    by_cases h:k < n
    ·rw [if_pos AGl,AU4<|ATm h,AU4<|ATv h,Ayc (n:=n) (λj=>psum (λk=>F i k * G k j) (k + 1) % m) AGl (λj g hj hg=>?_) λX=>?_]
     ·dsimp only [Option.bind_some]
      rw [Ahd,AUh AGl]
      exact AGp ⟨h,rfl⟩
     ·unfold Ad6
      dsimp only
      rw [AT1,if_pos AGl,AU4<|ATm hj,AU4<|Ad5 AGl hi,AUt,AU4<|ATm hj,if_pos AGl,hg,AUt,A18 (f:=λk=>F i k * G k j) hm Aa (hF i k hi h) (hG k j h hj) rfl,AUx,AUx,AXd,Af9 AGl,Ahd,AUh AGl]
     ·unfold Ad6
      dsimp only
      rw [AT1,if_neg AGl]
    ·obtain rfl:k=n:=by omega
     rw [if_neg AGl]
     exact AGp rfl
  rw [key];dsimp only [Option.bind_some];rw [Apc λc _=>rfl,AUh AGl]
 ·unfold Ad8;dsimp only;rw [ATt,if_neg AGl]
end Go.Proofs.YtkakafabeobahaaGreatDoor
namespace Go.Proofs.YtkakafabeobahaaGreatDoor
open Go Go.QF
set_option maxRecDepth 100000
set_option maxHeartbeats 4000000
def Ahf (fuel:Nat) (Ac Ad Af:Int) (Ag:LiA) (Ah Ai Aa:Int) (Ab:LiI):Option ((Int × LiI) ⊕ LiI):=
 if Aa < (Ag.length:Int) then (gI Ab Af).bind λAj=>(gI Aj Aa).bind λAk=>(gI Ab Ad).bind λAe=>(gI Ae Aa).bind λAm=>if Ac≠0 then some (.inl (w64<|Aa + 1,sI Ab Ad<|sI Ae Aa<|Int.tmod (w64<|Am + w64 (w64 (Ac - w64 (Int.tdiv Ai Ah)) * Ak)) Ac)) else none else some<|.inr Ab
def Ahg (fuel:Nat) (Ah Aa Ab Af:Int) (Ac:LiI):Option ((Int × LiI) ⊕ (Int × LiI)):=
 (gI Ac Ab).bind λAg=>(gI Ag Aa).bind λAd=>if ¬ Ad=0 then (gI Ac Aa).bind λAi=>(gI Ai Aa).bind λAj=>if Ad≠0 then (((iter (λs=>Ahf fuel Ah Aa Ab Ag Ad Aj s.1 s.2) fuel (0,Ac)).bind (λ(Ak:LiI)=>some Ak)):Option LiI).bind λAe=>(gI Ae Ab).bind λAm=>(gI Ae Aa).bind λAo=>some (.inl (w64<|0 - Af,sI (sI Ae Aa Am) Ab Ao)) else none else some<|.inr (Af,Ac)
def Ajj (fuel:Nat) (Ad Ae Ac Aa:Int) (Ab:LiI):Option ((Int × Int × LiI) ⊕ (Int × LiI)):=
 if Aa < (Ab.length:Int) then (iter (λs=>Ahg fuel Ad Ae Aa s.1 s.2) fuel (Ac,Ab)).bind (λ((Af,Ag):Int × LiI)=>some<|.inl (Af,w64<|Aa + 1,Ag)) else some<|.inr (Ac,Ab)
def Ajk (fuel:Nat) (Ad:LiI) (Ae Ab Aa:Int) (Ac:LiI):Option ((Int × Int × LiI) ⊕ (Int × LiI)):=
 if Aa < (Ad.length:Int) then (iter (λs=>Ajj fuel Ae Aa s.1 s.2.1 s.2.2) fuel (Ab,w64<|Aa + 1,Ac)).bind (λ((Af,Ag):Int × LiI)=>some<|.inl (Af,w64<|Aa + 1,Ag)) else some<|.inr (Ab,Ac)
def Ajl (fuel:Nat) (a5:Int) (Ac:LiI) (Ad Ab:Int):Option ((Int × Int) ⊕ Int):=
 if Ab < (Ac.length:Int) then (gI Ac Ab).bind λAe=>if a5≠0 then (gI Ae Ab).bind λAf=>if a5≠0 then some (.inl (Int.tmod (w64<|Int.tmod Ad a5 * Af) a5,w64<|Ab + 1)) else none else none else some<|.inr Ad
def Ahy (fuel:Nat) (a3:LiI) (a5:Int):Option (Int × Int):=
 (AY1 fuel a3).bind λx6=>if (!x6)=true then some (0,3) else (AUu fuel a5).bind λAc=>if ¬ Ac=0 then some (0,Ac) else (AV0 fuel a3 a5).bind λAd=>((((some a5):Option Int).bind λAf=>(iter (λs=>Ajk fuel Ad Af s.1 s.2.1 s.2.2) fuel (1,0,Ad)).bind (λ((Ag,Ah):Int × LiI)=>some (Ag,Ah))):Option (Int × LiI)).bind λ(Ai,Aj)=>(iter (λs=>Ajl fuel a5 Aj s.1 s.2) fuel (w64<|Ai + a5,0)).bind (λ(Ak:Int)=>some (Ak,0))
theorem Aso {A8:Value} {r:(Int × Int)} (H2:AV4 (cI .i64) h A8 a3) (hp:Ahy fuel a3 a5=some r):ATz Tryz.prog 84 #[A8,(.int .i64 a5)] h (λx h'=>Ext h h'/\x= .tuple #[.int .i64 r.1,.int .i64 r.2]):=by
 unfold Ahy at hp;refine cwf (l:=[_,_]) Tryz.func84 rfl rfl (AGq<|ATs<|AGx<|AGs<|AGq<|AGm ?_);have K0:=Kst.k0 h;obtain ⟨x6,B1,Bc⟩:=AGr hp;refine AVs K0 (Ale (H2.ext K0.x) B1) λEb E9 Be=>AV5 rfl (AGu<|⟨_,rfl,λAj=>?_,λAj=>?_⟩)
 ·refine AGq<|ATs<|AGx<|AG1<|ATd ?_;obtain rfl:=AGo<|ifT Bc Aj;exact ⟨_,AUp,Be.x,rfl⟩
 ·refine AG0<|q_t<|AGs<|AGq<|AGm ?_;obtain ⟨Ed,B3,Bf⟩:=AGr<|AY5 Bc Aj;refine AVs Be (AZ6 B3) λEe Ef Ak=>AT2<|AGm<|AVz rfl rfl (AGu<|⟨_,rfl,λAm=>?_,λAm=>?_⟩)
  ·refine AGq<|AGm<|ATs<|AGx<|AG1<|ATd ?_;obtain rfl:=AGo<|AT4 Bf Am;exact ⟨_,AUp,Ak.x,rfl⟩
  ·refine AG0<|q_t<|AGq<|AGm<|AGm ?_;obtain ⟨B4,B5,B6⟩:=AGr<|AT5 Bf Am;refine Agx Ak (Aad (H2.ext Ak.x) B5) λB7 B8 B9 Ab Eg Eh Ao=>AT2<|AGm<|AGm ?_;obtain ⟨Ca,Cb,Cd⟩:=AGr B6;refine ATo (K':=(λxr h'=> ∃ x:(Int) × (LiI) × LnA × LnN × LvA,(x.1,x.2.1)=Ca/\xr=(.int .i64 x.1)/\Kst h h' (Ao.L.set 0<|aO2 (cI .i64) 61 2 x.2.2.1 x.2.2.2.1 x.2.2.2.2 Ab x.2.1))) trivial rfl ?_ λEi Ej Ce=>?_
   ·refine cwf (l:=[_,_]) Tryz.func138 rfl rfl (AGq<|AT2<|AGm ?_);obtain ⟨Cf,Cg,Ch⟩:=AGr Cb;refine ATo (K':=(λxr h'=> ∃ x:(Nat) × (Int),x.2=Cf/\xr=(.func (.func 197) #[] #[(.pointer<|some ⟨x.1,0,none⟩)])/\Kst h h' (aB 2 x.1 [(.int .i64 x.2)] :: Ao.L))) trivial rfl ?_ λEk El Ci=>?_
    ·refine cwf (l:=[_]) Tryz.func161 rfl rfl (AGq<|AY3 Ao [(.int .i64 a5)] λCj Em En Ck=>AT2<|A6a rfl (AGx<|AG1<|⟨_,AS5,((Cj,a5):(Nat) × (Int)),?_,rfl,?_⟩))
     ·exact AGo Cg
     ·exact Ck
    obtain ⟨⟨Cm,Eo⟩,Cn,rfl,Ap⟩:=Ci;refine ⟨trivial,?_⟩;subst Cn;refine AT2<|AGx<|AGs<|AGq<|AGm<|AT3 ATb rfl (Ap.o2 p1).rd (AGm<|AGu<|AGt<|AXv 18889465931478580847040 (λx:(Int) × (Int) × (LiI) × LnA × LnN × LvA=>(x.1,x.2.1,x.2.2.1)) ((1,0,B4,B7,B8,B9):(Int) × (Int) × (LiI) × LnA × LnN × LvA) Ch (λx=>[(6,(.int .i64 x.1)),(13,(.int .i64 x.2.1))]) (λx=>Ap.L.set 1<|aO2 (cI .i64) 61 2 x.2.2.2.1 x.2.2.2.2.1 x.2.2.2.2.2 Ab x.2.2.1) Ap ⟨rfl,rfl,trivial⟩ ?_);rintro ⟨Bg,Af,Bh,Bi,Bj,Bl⟩ Ep Er Es Aq Ar Co;unfold Ajk at Ar;refine AGq<|ATp rfl rfl (AGu<|AGs<|⟨_,rfl,λAu=>?_,λAu=>?_⟩)
    ·refine AG0<|q_t<|AGs<|AGt<|AGq<|AGm<|AT2<|AGm<|ATn rfl rfl (AGx<|AGt<|AXv 9444732965739290165568 (λx:(Int) × (Int) × (LiI) × LnA × LnN × LvA=>(x.1,x.2.1,x.2.2.1)) ((Bg,(w64<|Af + 1),Bh,Bi,Bj,Bl):(Int) × (Int) × (LiI) × LnA × LnN × LvA) (AT4 Ar Au) (λx=>[(6,(.int .i64 x.1)),(8,(.int .i64 x.2.1))]) (λx=>Aq.L.set 1<|aO2 (cI .i64) 61 2 x.2.2.2.1 x.2.2.2.2.1 x.2.2.2.2.2 Ab x.2.2.1) Aq ⟨rfl,rfl,trivial⟩ ?_);rintro ⟨Cp,Av,Cq,Cr,Ct,Cu⟩ Et Eu Ev Ag Aw Cv;unfold Ajj at Aw;refine AGs<|AGq<|AGm<|AGm<|AT3 ATb rfl (Ag.o2 p1).rd (ATp rfl rfl (AGu<|⟨_,rfl,λAx=>?_,λAx=>?_⟩))
     ·refine AG0<|q_t<|AGs<|AGt<|AGt<|AXv 9444732965739273650240 (λx:(Int) × (LiI) × LnA × LnN × LvA=>(x.1,x.2.1)) ((Cp,Cq,Cr,Ct,Cu):(Int) × (LiI) × LnA × LnN × LvA) (AT4 Aw Ax) (λx=>[(6,(.int .i64 x.1))]) (λx=>Ag.L.set 1<|aO2 (cI .i64) 61 2 x.2.2.1 x.2.2.2.1 x.2.2.2.2 Ab x.2.1) Ag ⟨rfl,trivial⟩ ?_;rintro ⟨Ew,Ey,Bm,Bn,Bo⟩ Ez Fa Fb Aa Bp Cw;unfold Ahg at Bp;refine AGs<|AGq<|AGm<|AGm ?_;obtain ⟨Fc,Ac,Cx⟩:=AGr Bp;refine AUo ATb ATq (Aa.o2 p1) Ac λ_ Fd Cy=>AGm ?_;obtain ⟨Cz,Bq,Br⟩:=AGr Cx;refine AW6 (m:=Av) ATa ATg (Aa.o2 p1) Cy Ac Bq λ_=>(AVz rfl rfl (AGu<|⟨_,rfl,λAy=>?_,λAy=>?_⟩))
      ·refine AG0<|q_t<|AGt<|AGs<|AXi<|AGm<|AGm<|AGm ?_;obtain ⟨Fe,Az,C0⟩:=AGr<|AT4 Br Ay;refine AUo ATb ATq (Aa.o2 p1) Az λ_ C1 Bt=>AGm<|AGm<|AUo ATb ATq (Aa.o2 p1) Ac λ_ C2 Bu=>AGm<|AGm<|AUo ATb ATq (Aa.o2 p1) Az λ_ Ff C3=>AGm ?_;obtain ⟨C4,C5,C6⟩:=AGr C0;refine AW6 (m:=Af) ATa ATg (Aa.o2 p1) C3 Az C5 λ_=>(AGm<|AGm<|AUo ATb ATq (Aa.o2 p1) Ac λ_ Fg C7=>AGm<|AW6 (m:=Av) ATa ATg (Aa.o2 p1) C7 Ac Bq λ_=>?_);obtain ⟨C8,C9⟩:=ifN C6;refine Ats rfl rfl C8 ?_;obtain ⟨Da,Db,Dc⟩:=AGr C9;refine As9 (l:=[C1,C2,(.int .i64<|w64<|Int.tdiv C4 Cz)]) (cl:=[(.pointer<|some ⟨Cm,0,none⟩)]) (K':=(λxr h'=> ∃ x:(LiI),x=Da/\xr= .tuple #[]/\Kst h h' (Aa.L.set 1<|aO2 (cI .i64) 61 2 Bm Bn Bo Ab x))) trivial rfl rfl ?_ λFh Fi Dd=>?_
       ·refine cwf (l:=[_,_,_,_]) Tryz.func197 rfl rfl (AGq<|AGm<|AUl ATa rfl ((Aa.o2 p1).rowI Bu Ac) (AGm<|AGu<|AGt<|AYr 4294965632 Db (λx=>[(11,(.int .i64 x.1))]) (λx=>Aa.L.set 1<|aO2 (cI .i64) 61 2 Bm Bn Bo Ab x.2) Aa ⟨rfl,trivial⟩ ?_));rintro ⟨Fj,De⟩ Fk Fl Fm Ad A3 Df;unfold Ahf at A3;refine AGq<|ATp rfl rfl (AGu<|AGs<|⟨_,rfl,λA4=>?_,λA4=>?_⟩)
        ·refine AG0<|q_t<|AGs<|AGt<|AGq<|AGm ?_;obtain ⟨Fo,Dg,Dh⟩:=AGr<|AT4 A3 A4;obtain ⟨Fp,Di,Dj⟩:=AGr Dh;refine AW6 (m:=Av) ATa ATg (Ad.o2 p1) Bu Dg Di λ_=>(ATs<|AGx<|AXi<|AGm<|AGm<|AGm<|AGm ?_);obtain ⟨Fq,Bv,Dk⟩:=AGr Dj;obtain ⟨Fr,Bw,Dl⟩:=AGr Dk;refine AW6 (m:=Af) ATa ATg (Ad.o2 p1) Bt Bv Bw λ_=>AT6 ATg rfl ((Ad.b p0).cell (i:=0) rfl) (AGm<|AVh rfl rfl (AGm<|Aaq rfl rfl (ATn rfl rfl (AT6 ATg rfl ((Ad.b p0).cell (i:=0) rfl) ?_))));obtain ⟨Do,Dp⟩:=ifN Dl;refine Acl rfl rfl Do (AZ0 (m:=Af) Ad p1 ATa ATg Bt Bv Bw (λ_=>rfl) λ_ Ft Dq=>ATu<|q_b<|q_t<|AS8<|ATn rfl rfl (AGm<|AGu ?_));exact ⟨_,(AGo Dp).symm,Dq,rfl,trivial⟩
        ·refine ATh<|ATi<|ATi<|AUf<|⟨_,Aa0,(De:(LiI)),?_,rfl,?_⟩
         ·exact AGo<|Df _ (AGo<|AT5 A3 A4).symm
         ·exact Ad
       obtain ⟨Fu,Dr,rfl,Ah⟩:=Dd;refine ⟨trivial,?_⟩;subst Dr;refine AGu<|AGs<|AXi<|AGm<|AGm<|AGm<|AGm<|AGm<|AGm ?_;obtain ⟨Fv,Bx,Ds⟩:=AGr Dc;refine AUo ATb ATq (Ah.o2 p1) Bx λ_ Fw Dt=>AGm<|AGm ?_;obtain ⟨Fx,By,Du⟩:=AGr Ds;refine AUo ATb ATq (Ah.o2 p1) By λ_ Fy Dv=>Ah6 ATb ATq (Ah.o2 p1) Dv Dt By Bx rfl rfl (λ_=>rfl) (λ_=>rfl) (λ_=>rfl) (λ_ _=>rfl) λFz F4 F5 F6 F7 F8 Dw Dx Dy=>AGu<|AS8<|AGm<|Atu rfl (ATs<|ATu<|q_b<|q_t ?_);exact ⟨(_,_,_,_,_),(AGo Du).symm,(Ah.uo2 p1 Dx Dw Dy),rfl,trivial⟩
      ·refine ATh<|ATi<|ATi<|AUf<|q_b<|q_t<|AS8<|AGm<|ATn rfl rfl (AGx ?_);exact ⟨(_,_,_,_,_,_),(AGo<|Cw _ (AGo<|AT5 Br Ay).symm).symm,Aa,rfl,rfl,trivial⟩
     ·refine ATh<|ATi<|ATi<|AUf<|q_b<|q_t<|AS8<|ATn rfl rfl (AGm<|AGu ?_);exact ⟨(_,_,_,_,_,_),(AGo<|Cv _ (AGo<|AT5 Aw Ax).symm).symm,Ag,rfl,rfl,trivial⟩
    ·refine ATh<|ATi<|ATi<|AUf<|q_t<|AGq<|AGm<|AGx<|AG1<|⟨_,AS5,((Bg,Bh,Bi,Bj,Bl):(Int) × (LiI) × LnA × LnN × LvA),?_,rfl,?_⟩
     ·exact AGo<|Co _ (AGo<|AT5 Ar Au).symm
     ·exact Aq.sel [1] AGn
   obtain ⟨⟨F9,Ga,Gb,Gc,Gd⟩,Dz,rfl,A5⟩:=Ce;refine ⟨trivial,?_⟩;subst Dz;refine AGm<|ATn rfl rfl (AGx<|AGs<|AGq<|AGm<|AT3 ATb rfl (A5.o2 p0).rd (AGm<|AGu<|AGt<|AYr 35183835219712 Cd (λx=>[(8,(.int .i64 x.1)),(29,(.int .i64 x.2))]) (λx=>A5.L) A5 ⟨rfl,rfl,trivial⟩ ?_));rintro ⟨Ge,D0⟩ Gf Gg Gh Ai A6 D1;unfold Ajl at A6;refine AGq<|ATp rfl rfl (AGu<|AGs<|⟨_,rfl,λA7=>?_,λA7=>?_⟩)
   ·refine AG0<|q_t<|AGs<|AGt<|AGq<|AGm ?_;obtain ⟨Gi,Bz,D2⟩:=AGr<|AT4 A6 A7;refine AUo ATb ATq (Ai.o2 p0) Bz λ_ Gj D3=>ATs<|AGx<|AXi<|AGm<|AGm ?_;obtain ⟨D4,D5⟩:=ifN D2;refine Acl rfl rfl D4 (AGm<|AGm ?_);obtain ⟨Gk,D6,D7⟩:=AGr D5;refine AW6 (m:=D0) ATa ATg (Ai.o2 p0) D3 Bz D6 λ_=>(Aaq rfl rfl (AGm ?_));obtain ⟨D8,D9⟩:=ifN D7;refine Acl rfl rfl D8 (ATs<|ATu<|q_b<|q_t<|AS8<|ATn rfl rfl (AGm<|AGu ?_));exact ⟨_,(AGo D9).symm,Ai,rfl,rfl,trivial⟩
   ·refine ATh<|ATi<|ATi<|AUf<|q_t<|AGq<|AGm<|ATs<|AGx<|AG1 ?_;obtain rfl:=AGo<|D1 _ (AGo<|AT5 A6 A7).symm;exact ⟨_,AUp,Ai.x,rfl⟩
end Go.Proofs.YtkakafabeobahaaGreatDoor
namespace Go.Proofs.YtkakafabeobahaaGreatDoor
open Go Go.QF
set_option maxRecDepth 100000
theorem A9f {body:Int->Option (Int ⊕ E)} {n:Nat} {e:E} (hf:n < fuel) (hs:∀ i:Nat,i < n->body (i:Int)=some (.inl ((i + 1:Nat):Int))) (he:body (n:Int)=some (.inr e)):iter body fuel 0=some e:=by
 apply ok_eq;refine AT8 (λi s=>s=(i:Int)) n rfl hf λi s hi hI=>?_;subst hI;by_cases h:i < n
 ·rw [hs i h];exact AGp ⟨h,rfl⟩
 ·obtain rfl:i=n:=by omega
  rw [he];exact AGp rfl
theorem Ape {n:Nat} (Aa:1<=n) (hn:n<=8) (hf:100 < fuel):AY0 fuel (tab n n F)=some true:=by
 unfold AY0;rw [ATt,if_neg AGl,if_neg AGl,Al3<|ATv AGl,AT1,if_neg AGl,if_neg AGl];simp only [Option.bind_some];rw [A9f (n:=n) (e:= .inr ()) AGl (λi hi=>?_) ?_]
 ·rfl
 ·unfold Afx;rw [ATt,if_neg AGl]
 ·unfold Afx;rw [ATt,if_pos AGl,AU4<|ATv hi,Al3<|ATv AGl,AT1,AT1,if_neg λh=>h rfl,AUh AGl]
theorem Apy {n:Nat}:sI (AU9 n g) (j:Int) x=AU9 n λc=>if c=j then x else g c:=by rw [AUx,AXd]
theorem Aam {n:Nat}:sI (tab n n F) (i:Int) (AU9 n g)=tab n n (AUw F i g):=by
 rw [AUx];exact Aeu
theorem Avc {n r:Nat} {g':Nat->Int} (h:∀ c,c < n->g c=g' c):tab n n (AUw F r g)=tab n n (AUw F r g'):=Aha λi j _ hj=>by
 rw [AUb,AUb,h j hj]
structure Avs (n:Nat) (m:Int) (A F:AS9) (s:Int) (c:Nat):Prop where
 sg:s=1∨s= -1
 bd:Bd n n m F
 z:Zc n F c
 d:Eqm m (det n F) (s * det n A)
theorem BCj {m a b:Int} (hm:2<=m) (Ab:m<=2147483647) (ha:0<=a/\a < m) (hb:0 < b/\b < m) (hx:0<=x/\x < m) (hy:0<=y/\y < m):Int.tmod (w64<|x + (w64<|(w64<|m - (w64<|Int.tdiv a b)) * y)) m=(x + (m - a / b) * y) % m:=by
 have hq:=BDt ha.1 ha.2 hb.1;have h1:Int.tdiv a b=a / b:=Int.tdiv_eq_ediv_of_nonneg ha.1;have h0:0<=(m - a / b) * y:=Int.mul_nonneg AGl hy.1;have h2:(m - a / b) * y<=2147483647 * 2147483647:=Int.mul_le_mul AGl AGl hy.1 AGl;rw [h1,AVq (x:=a / b) AGl AGl,AVq (x:=m - a / b) AGl AGl,AVq (x:=(m - a / b) * y) AGl AGl,wk AGl,Int.tmod_eq_emod_of_nonneg AGl]
theorem BCk {n c:Nat} {m:Int} (hn:n<=8) (hm:2<=m) (Aa:m<=2147483647) (hc:c < n) (hi:i < n) (hne:c≠i) (hB:Bd n n m F) (h0:F i c≠0) (hf:100 < fuel):
 iter (λs=>Ahf fuel m c i (AU9 n<|F i) (F i c) (F c c) s.1 s.2) fuel (0,tab n n F)=some (tab n n<|AUw F c λx=>(F c x + (m - F c c / F i c) * F i x) % m):=by
 apply ok_eq;refine AT8 (λj s=>s=((j:Int),tab n n<|AUw F c λx=>if x < j then (F c x + (m - F c c / F i c) * F i x) % m else F c x)) n ?_ AGl λj s hj hI=>?_
 ·have:(λx=>if x < 0 then (F c x + (m - F c c / F i c) * F i x) % m else F c x)=F c:=funext λx=>if_neg AGl;rw [this,Aif];rfl
 ·subst hI;unfold Ahf;dsimp only;rw [AT1];by_cases h:j < n
  ·have b1:=hB c c hc hc;have b2:=hB i c hi hc;rw [if_pos AGl,AU4<|ATv hi,AXc _ _<|Ne.symm hne,AU4<|ATm h,AU4<|ATv hc,AUt,AU4<|ATm h,if_pos AGl,if_neg AGl,BCj hm Aa (hB c c hc hc) ⟨AGl,b2.2⟩ (hB c j hc h)<|hB i j hi h,Apy,Aam,Ahd,AUh AGl];refine AGp ⟨h,congrArg (λz=>(((j + 1:Nat):Int),tab n n<|AUw F c z))<|funext λx=>?_⟩;grind
  ·obtain rfl:j=n:=by omega
   rw [if_neg AGl];exact AGp<|Avc λx hx=>if_pos hx
theorem A5l {n c:Nat} {m s:Int} (hm:2<=m) (hc:c < n) (hi:i < n) (hci:c < i) (H:Avs n m A F s c) (q:Int):Avs n m A (Amq F c i q m) (-s) c:=by
 have h1:=(Eqm.refl m 0).sub H.d;rw [Int.zero_sub,Int.zero_sub] at h1;refine ⟨by rcases H.sg with h | h <;> rw [h] <;> simp,BAl AGl H.bd hc hi,BAm H.z hci hi,(A47 hc hi AGl).trans ?_⟩;grind
theorem A19 {n c:Nat} {m s:Int} (hn:n<=8) (hm:2<=m) (Ab:m<=2147483647) (hc:c < n) (hi:i < n) (hci:c < i) (H:Avs n m A F s c) (hZ:Zi F c i) (hf:2147483648 < fuel):
 Ok (iter (λs=>Ahg fuel m c i s.1 s.2) fuel (s,tab n n F)) λe=> ∃ s' F',e=(s',tab n n F')/\Avs n m A F' s' c/\Zi F' c i/\F' i c=0:=by
 refine AT8 (λk st=> ∃ s' F',st=(s',tab n n F')/\Avs n m A F' s' c/\Zi F' c i/\F' i c + k<=m) m.toNat ⟨s,F,rfl,H,hZ,by have:=H.bd i c hi hc;omega⟩ AGl λk st hk hI=>?_;obtain ⟨s',F',rfl,H',hZ',hk'⟩:=hI;have hB:=H'.bd;have b2:=hB i c hi hc;unfold Ahg;dsimp only;rw [AU4<|ATv hi,AU4<|ATm hc];refine ATj (λh=>?_) λh=>AGp ⟨s',F',rfl,H',hZ',Decidable.not_not.1 h⟩;rw [AU4<|ATv hc,AU4<|ATm hc,if_pos h,BCk hn hm Ab hc hi AGl hB h AGl];simp only [Option.bind_some]
 have e1:∀ g,sI (sI (tab n n<|AUw F' c g) (c:Int)<|AU9 n<|F' i) (i:Int) (AU9 n g)=tab n n (AXx (AUw F' c g) c i):=λg=>by
  rw [Aam,Aam]
  unfold AXx
  rw [AUt,AXc _ _<|show i≠c by omega]
 have b1:=hB c c hc hc;rw [AU4<|ATv hi,AXc _ _ (show i≠c by omega),AU4<|ATv hc,AUt,e1,AVq (by rcases H'.sg with h | h <;> omega) (by rcases H'.sg with h | h <;> omega),Int.zero_sub];refine AGp ⟨AGl,-s',_,rfl,A5l hm hc hi hci H' _,BAn hZ',?_⟩;show Amq F' c i (F' c c / F' i c) m i c + ((k + 1:Nat):Int)<=m;rw [A2l];dsimp only;rw [BAo b1.1 b1.2 AGl b2.2];have:=Int.emod_lt_of_pos (F' c c) (show 0 < F' i c by omega);omega
theorem BFi {n:Nat} {m:Int} (Af:1<=n) (hn:n<=8) (hm:2<=m) (Ad:m<=2147483647) (hf:2147483648 < fuel):Ahy fuel (tab n n T) m=some (det n T % m,0):=by
 unfold Ahy
 have h0:AY1 fuel (tab n n T)=some true:=by
  unfold AY1
  rw [Ape Af hn AGl]
  simp only [Option.bind_some,reduceIte]
  rw [Al3<|ATv AGl,AT1,ATt,if_pos rfl,decide_eq_true AGl]
 have h1:AUu fuel m=some 0:=by unfold AUu;grind
 rw [h0];simp only [Option.bind_some];rw [if_neg AGn,h1];simp only [Option.bind_some];rw [if_neg AGn,Avb hn hm Ad AGl];simp only [Option.bind_some];apply ok_eq;generalize hA:(λi j=>T i j % m)=A;have hAd:Eqm m (det n A) (det n T):=by subst hA;exact Apt λi j _ _=>Eqm.mod _ _
 have hAb:Bd n n m A:=by subst hA;exact λi j _ _=>⟨Int.emod_nonneg _ AGl,Int.emod_lt_of_pos _ AGl⟩
 refine AGw (Q:=λe:Int × List (List Int)=> ∃ F,e.2=tab n n F/\Avs n m A F e.1 n) (AGw (AT8 (λc st=> ∃ s F,st=(s,(c:Int),tab n n F)/\c<=n/\Avs n m A F s c) n (Q:=λe:Int × List (List Int)=> ∃ F,e.2=tab n n F/\Avs n m A F e.1 n) ⟨1,A,rfl,Nat.zero_le _,.inl rfl,hAb,λc' i h=>absurd h<|Nat.not_lt_zero _,by rw [Int.one_mul];exact Eqm.refl _ _⟩ AGl λc st hc hI=>?_) λe he=>AGp he) λe he=>?_
 ·obtain ⟨s,F,rfl,hcn,H⟩:=hI;unfold Ajk;dsimp only;rw [ATt];refine ATj (λh=>?_) λh=>AGp ⟨F,rfl,(show c=n by omega) ▸ H⟩;have hc':c < n:=by omega
  rw [AUh AGl];refine AGw (AT8 (λk st=> ∃ s F,st=(s,((c + 1 + k:Nat):Int),tab n n F)/\c + 1 + k<=n/\Avs n m A F s c/\Zi F c (c + 1 + k)) (n - (c + 1)) (Q:=λe:Int × List (List Int)=> ∃ F,e.2=tab n n F/\Avs n m A F e.1 (c + 1)) ⟨s,F,rfl,AGl,H,λk h1 h2=>by omega⟩ AGl λk st hk hI=>?_) λe he=>?_
  ·obtain ⟨s',F',rfl,hkn,H',hZ'⟩:=hI;unfold Ajj;dsimp only;rw [ATt];refine ATj (λh2=>AGw (A19 hn hm Ad hc' AGl AGl H' hZ' hf) λe he=>?_) λh2=>AGp ⟨F',rfl,H'.sg,H'.bd,A2n H'.z<|(show c + 1 + k=n by omega) ▸ hZ',H'.d⟩;obtain ⟨s2,F2,rfl,H2,Aj,h3⟩:=he;exact AGp ⟨AGl,s2,F2,by rw [AUh AGl];rfl,AGl,H2,A2m Aj h3⟩
  ·obtain ⟨e1,e2⟩:=e;obtain ⟨F',h2,H'⟩:=he;dsimp only at h2 H';subst h2;exact AGp ⟨AGl,e1,F',rfl,AGl,H'⟩
 ·obtain ⟨s,M⟩:=e;obtain ⟨F,h2,H⟩:=he;dsimp only at h2 H;subst h2;dsimp only;rw [AVq (by rcases H.sg with h | h <;> omega) (by rcases H.sg with h | h <;> omega)];refine AGw (AT8 (λk st=>st=(Anh F m s k,(k:Int))/\k<=n) n (Q:=(· =Anh F m s n)) ⟨rfl,Nat.zero_le _⟩ AGl λk st hk hI=>?_) λe he=>AGp ?_
  ·obtain ⟨rfl,hkn⟩:=hI;unfold Ajl;dsimp only;rw [ATt];by_cases h:k < n
   ·have hd:=BAp (F:=F) (m:=m) (s:=s) hm H.sg k;have hb:=H.bd k k h h;have h3:=Int.emod_nonneg (Anh F m s k) (show m≠0 by omega);have h4:=Int.emod_lt_of_pos (Anh F m s k) (show 0 < m by omega);have h5:=Int.mul_nonneg h3 hb.1;have h6:Anh F m s k % m * F k k<=2147483647 * 2147483647:=Int.mul_le_mul AGl AGl hb.1 AGl;rw [if_pos AGl,AU4<|ATv h,if_pos AGl,AU4<|ATm h,if_pos AGl,Int.tmod_eq_emod_of_nonneg hd.1,AVq (x:=Anh F m s k % m * F k k) AGl AGl,Int.tmod_eq_emod_of_nonneg h5,AUh AGl];exact AGp ⟨h,rfl,AGl⟩
   ·obtain rfl:k=n:=by omega
    rw [if_neg AGl];exact AGp rfl
  ·subst he
   have h3:Eqm m (Anh F m s n) (det n T):=by
    refine (A8q _).trans ?_
    rw [<- Amw H.z]
    refine ((Eqm.refl m s).mul H.d).trans (Eqm.trans (Eqm.of_eq ?_) hAd)
    rcases H.sg with h | h <;> rw [h] <;> grind
   have h4:0<=Anh F m s n/\Anh F m s n < m:=by
    obtain ⟨k,rfl⟩:∃ k,n=k + 1:=⟨n - 1,AGl⟩
    unfold Anh
    exact ⟨Int.emod_nonneg _ AGl,Int.emod_lt_of_pos _ AGl⟩
   unfold Eqm at h3;rw [<- h3,Int.emod_eq_of_lt h4.1 h4.2]
end Go.Proofs.YtkakafabeobahaaGreatDoor
namespace Go.Proofs.YtkakafabeobahaaGreatDoor
open Go Go.QF
set_option maxRecDepth 100000
set_option maxHeartbeats 4000000
def AZq (fuel:Nat) (a1 a2 a3 a4 a5 a6 a7:Int):Option Bool:=
 ((if a6=2 then some (w64<|a7 - 3) else some<|w64<|a7 - 1):Option Int).bind (λ(Ai:Int)=>((if a1 < 0 then some (.inl false) else if Ai < a1 then some (.inl false) else some<|.inr ()):Option (Bool ⊕ Unit)).bind (λex=>match ex with | .inl Aj=>(some Aj) | .inr _=>(AW8 fuel a6<|w64<|a7 - a1).bind λAe=>if a2=1 then if 0 < a3 then if a3 < Ae then if a6≠0 then if ¬ (Int.tmod a3 a6)=0 then if a4=0 then some (decide (a5=0)) else some false else some false else none else some false else some false else if 0<=a3 then if a3 < Ae then if 0<=a4 then if a4 < Ae then if 0<=a5 then if a5 < Ae then if Int.tmod a3 2=0 then if Int.tmod a4 2=1 then some (decide (Int.tmod a5 2=0)) else some false else some false else some false else some false else some false else some false else some false else some false))
theorem Alm {a3 a7:Int} (hp:AZq fuel a1 a2 a3 a4 a5 a6 a7=some r):ATz Tryz.prog 87 #[(.agg #[(.int .i64 a1),(.int .i64 a2),(.int .i64 a3),(.int .i64 a4),(.int .i64 a5)]),(.int .i64 a6),(.int .i64 a7)] h (λx h'=>Ext h h'/\x= .bool r):=by
 unfold AZq at hp;refine cwf (l:=[_,_,_]) Tryz.func87 rfl rfl (AGq<|AY3 (Kst.k0 h) [(.int .i64 a1),(.int .i64 a2),(.int .i64 a3),(.int .i64 a4),(.int .i64 a5)] λb8 h9 B4 A4=>AT2<|AGm<|AVh rfl rfl (AGx ?_));obtain ⟨Bt,A9,Bu⟩:=AGr hp;refine Aer 30848 (λx:(Int)=>[(7,(.int .i64 x))]) (λx h'=>( x)=Bt/\Kst h h' (A4.L)) ?_ ?_
 ·refine AGq<|AGm<|AU0 rfl rfl (AGu<|⟨_,rfl,λA5=>?_,λA5=>?_⟩)
  ·refine AS8<|AGm<|AVh rfl rfl (AGx ?_);exact ⟨((w64<|a7 - 3):(Int)),⟨AGo<|AT4 A9 A5,A4⟩,rfl,trivial⟩
  ·refine AG0<|q_t ?_;exact ⟨((w64<|a7 - 1):(Int)),⟨AGo<|AT5 A9 A5,A4⟩,rfl,trivial⟩
 rintro B5 B6 B7 ⟨Bv,Ad⟩;subst Bv;obtain ⟨Bw,Ba,A6⟩:=AGr Bu;refine Aer 16744512 (λx:Unit=>[]) (λx h'=>(Sum.inr <| ())=Bw/\Kst h h' (Ad.L)) ?_ ?_
 ·refine AGq<|AUs AZ4 AT9 (Ad.b p0) 0 rfl (ATp rfl rfl (AGm ?_));by_cases Ah:a1 < 0
  ·rw [decide_eq_true Ah];refine AWe 18 true<|ATf rfl (AGu<|ATx rfl (AGq<|AGx ?_));obtain rfl:=AGo<|ifT Ba Ah;refine AG1<|ATd ?_;obtain rfl:=AGo A6;exact ⟨_,AS5,Ad.x,rfl⟩
  ·have Bb:=ifF Ba Ah;rw [decide_eq_false Ah];refine ATc 18 false<|AVd AZ4 rfl (ATc 18 false<|AT6 AT9 rfl ((Ad.b p0).cell (i:=0) rfl) (ATc 18 false<|AGm<|ATc 18 false<|AXr rfl rfl (AS6 rfl (AGu<|⟨_,rfl,λA7=>?_,λA7=>?_⟩))))
   ·refine AGq<|AGx ?_;obtain rfl:=AGo<|AT4 Bb A7;refine AG1<|ATd ?_;obtain rfl:=AGo A6;exact ⟨_,AS5,Ad.x,rfl⟩
   ·refine AG0<|q_t ?_;exact ⟨(():Unit),⟨AGo<|AT5 Bb A7,Ad⟩,trivial⟩
 rintro ⟨⟩ B8 B9 ⟨Bx,Bc⟩;subst Bx;refine AGq<|AGm<|AGm<|AUs AZ4 AT9 (Bc.b p0) 0 rfl (AVh rfl rfl ?_);obtain ⟨Ai,By,Be⟩:=AGr A6;refine AVs Bc (Aeg By) λCa Cb Aa=>AGx<|AGs<|AGq<|AUs Ac0 AT9 (Aa.b p0) 1 rfl (AU0 rfl rfl (AGu<|⟨_,rfl,λA8=>?_,λA8=>?_⟩))
 ·refine AGq<|AUs Ac1 ATg (Aa.b p0) 2 rfl (AXr rfl rfl (AGm ?_));have Bf:=AT4 Be A8;by_cases Aj:0 < a3
  ·have Bg:=ifT Bf Aj;rw [decide_eq_true Aj];refine ATc 36 true<|AVd Ac1 rfl (ATc 36 true<|AT6 ATg rfl ((Aa.b p0).cell (i:=2) rfl) (ATc 36 true<|AGm<|ATc 36 true<|ATp rfl rfl (ATf rfl (AGm ?_))));by_cases Ak:a3 < Ai
   ·rw [decide_eq_true Ak];refine ATc 42 true<|AVd Ac1 rfl (ATc 42 true<|AT6 ATg rfl ((Aa.b p0).cell (i:=2) rfl) (ATc 42 true<|AGm<|ATc 42 true ?_));obtain ⟨Bz,Bh⟩:=ifN<|ifT Bg Ak;refine Acl rfl rfl Bz (ATc 42 true<|AVz rfl rfl (ATf rfl (AGm ?_)));by_cases Am: ¬ (Int.tmod a3 a6)=0
    ·have Bi:=ifT Bh Am;rw [decide_eq_true Am];refine ATc 49 true<|AVd Ac2 rfl (ATc 49 true<|AT6 ATg rfl ((Aa.b p0).cell (i:=3) rfl) (ATc 49 true<|AU0 rfl rfl (ATf rfl (AGm ?_))));by_cases Ao:a4=0
     ·rw [decide_eq_true Ao];refine ATc 54 true<|AVd Ahc rfl (ATc 54 true<|AT6 ATg rfl ((Aa.b p0).cell (i:=4) rfl) (ATc 54 true<|AU0 rfl rfl (ATf rfl (AGx<|AG1<|ATd ?_))));obtain rfl:=AGo<|ifT Bi Ao;exact ⟨_,AS5,Aa.x,rfl⟩
     ·rw [decide_eq_false Ao];refine AWi 54 false<|AS6 rfl (AGx<|AG1<|ATd ?_);obtain rfl:=AGo<|ifF Bi Ao;exact ⟨_,AS5,Aa.x,rfl⟩
    ·rw [decide_eq_false Am];refine AWi 49 false<|AS6 rfl (AGm<|AWi 54 false<|AS6 rfl (AGx<|AG1<|ATd ?_));obtain rfl:=AGo<|ifF Bh Am;exact ⟨_,AS5,Aa.x,rfl⟩
   ·rw [decide_eq_false Ak];refine AY2 42 false<|AS6 rfl (AGm<|AWi 49 false<|AS6 rfl (AGm<|AWi 54 false<|AS6 rfl (AGx<|AG1<|ATd ?_)));obtain rfl:=AGo<|ifF Bg Ak;exact ⟨_,AS5,Aa.x,rfl⟩
  ·rw [decide_eq_false Aj];refine AWe 36 false<|AS6 rfl (AGm<|AY2 42 false<|AS6 rfl (AGm<|AWi 49 false<|AS6 rfl (AGm<|AWi 54 false<|AS6 rfl (AGx<|AG1<|ATd ?_))));obtain rfl:=AGo<|ifF Bf Aj;exact ⟨_,AS5,Aa.x,rfl⟩
 ·refine AG0<|q_t<|AGq<|AUs Ac1 ATg (Aa.b p0) 2 rfl (Afp rfl rfl (AGm ?_));have Bj:=AT5 Be A8;by_cases Ap:0<=a3
  ·have Bl:=ifT Bj Ap;rw [decide_eq_true Ap];refine ATc 62 true<|AVd Ac1 rfl (ATc 62 true<|AT6 ATg rfl ((Aa.b p0).cell (i:=2) rfl) (ATc 62 true<|AGm<|ATc 62 true<|ATp rfl rfl (ATf rfl (AGm ?_))));by_cases Aq:a3 < Ai
   ·have Bm:=ifT Bl Aq;rw [decide_eq_true Aq];refine ATc 68 true<|AVd Ac2 rfl (ATc 68 true<|AT6 ATg rfl ((Aa.b p0).cell (i:=3) rfl) (ATc 68 true<|Afp rfl rfl (ATf rfl (AGm ?_))));by_cases Ar:0<=a4
    ·have Bn:=ifT Bm Ar;rw [decide_eq_true Ar];refine ATc 73 true<|AVd Ac2 rfl (ATc 73 true<|AT6 ATg rfl ((Aa.b p0).cell (i:=3) rfl) (ATc 73 true<|AGm<|ATc 73 true<|ATp rfl rfl (ATf rfl (AGm ?_))));by_cases Au:a4 < Ai
     ·have Bo:=ifT Bn Au;rw [decide_eq_true Au];refine ATc 79 true<|AVd Ahc rfl (ATc 79 true<|AT6 ATg rfl ((Aa.b p0).cell (i:=4) rfl) (ATc 79 true<|Afp rfl rfl (ATf rfl (AGm ?_))));by_cases Av:0<=a5
      ·have Bp:=ifT Bo Av;rw [decide_eq_true Av];refine ATc 84 true<|AVd Ahc rfl (ATc 84 true<|AT6 ATg rfl ((Aa.b p0).cell (i:=4) rfl) (ATc 84 true<|AGm<|ATc 84 true<|ATp rfl rfl (ATf rfl (AGm ?_))));by_cases Aw:a5 < Ai
       ·have Bq:=ifT Bp Aw;rw [decide_eq_true Aw];refine ATc 90 true<|AVd Ac1 rfl (ATc 90 true<|AT6 ATg rfl ((Aa.b p0).cell (i:=2) rfl) (ATc 90 true<|Acl rfl rfl AGn (ATc 90 true<|AU0 rfl rfl (ATf rfl (AGm ?_)))));by_cases Ax:(Int.tmod a3 2)=0
        ·have Br:=ifT Bq Ax;rw [decide_eq_true Ax];refine ATc 96 true<|AVd Ac2 rfl (ATc 96 true<|AT6 ATg rfl ((Aa.b p0).cell (i:=3) rfl) (ATc 96 true<|Acl rfl rfl AGn (ATc 96 true<|AU0 rfl rfl (ATf rfl (AGm ?_)))));by_cases Ay:(Int.tmod a4 2)=1
         ·rw [decide_eq_true Ay];refine ATc 102 true<|AVd Ahc rfl (ATc 102 true<|AT6 ATg rfl ((Aa.b p0).cell (i:=4) rfl) (ATc 102 true<|Acl rfl rfl AGn (ATc 102 true<|AU0 rfl rfl (ATf rfl (AGx<|AG1 ?_)))));obtain rfl:=AGo<|ifT Br Ay;exact ⟨_,AS5,Aa.x,rfl⟩
         ·rw [decide_eq_false Ay];refine AWe 102 false<|AS6 rfl (AGx<|AG1 ?_);obtain rfl:=AGo<|ifF Br Ay;exact ⟨_,AS5,Aa.x,rfl⟩
        ·rw [decide_eq_false Ax];refine AWe 96 false<|AS6 rfl (AGm<|AWe 102 false<|AS6 rfl (AGx<|AG1 ?_));obtain rfl:=AGo<|ifF Bq Ax;exact ⟨_,AS5,Aa.x,rfl⟩
       ·rw [decide_eq_false Aw];refine AWe 90 false<|AS6 rfl (AGm<|AWe 96 false<|AS6 rfl (AGm<|AWe 102 false<|AS6 rfl (AGx<|AG1 ?_)));obtain rfl:=AGo<|ifF Bp Aw;exact ⟨_,AS5,Aa.x,rfl⟩
      ·rw [decide_eq_false Av];refine AWe 84 false<|AS6 rfl (AGm<|AWe 90 false<|AS6 rfl (AGm<|AWe 96 false<|AS6 rfl (AGm<|AWe 102 false<|AS6 rfl (AGx<|AG1 ?_))));obtain rfl:=AGo<|ifF Bo Av;exact ⟨_,AS5,Aa.x,rfl⟩
     ·rw [decide_eq_false Au];refine AWi 79 false<|AS6 rfl (AGm<|AWe 84 false<|AS6 rfl (AGm<|AWe 90 false<|AS6 rfl (AGm<|AWe 96 false<|AS6 rfl (AGm<|AWe 102 false<|AS6 rfl (AGx<|AG1 ?_)))));obtain rfl:=AGo<|ifF Bn Au;exact ⟨_,AS5,Aa.x,rfl⟩
    ·rw [decide_eq_false Ar];refine AWe 73 false<|AS6 rfl (AGm<|AWi 79 false<|AS6 rfl (AGm<|AWe 84 false<|AS6 rfl (AGm<|AWe 90 false<|AS6 rfl (AGm<|AWe 96 false<|AS6 rfl (AGm<|AWe 102 false<|AS6 rfl (AGx<|AG1 ?_))))));obtain rfl:=AGo<|ifF Bm Ar;exact ⟨_,AS5,Aa.x,rfl⟩
   ·rw [decide_eq_false Aq];refine AWi 68 false<|AS6 rfl (AGm<|AWe 73 false<|AS6 rfl (AGm<|AWi 79 false<|AS6 rfl (AGm<|AWe 84 false<|AS6 rfl (AGm<|AWe 90 false<|AS6 rfl (AGm<|AWe 96 false<|AS6 rfl (AGm<|AWe 102 false<|AS6 rfl (AGx<|AG1 ?_)))))));obtain rfl:=AGo<|ifF Bl Aq;exact ⟨_,AS5,Aa.x,rfl⟩
  ·rw [decide_eq_false Ap];refine AWe 62 false<|AS6 rfl (AGm<|AWi 68 false<|AS6 rfl (AGm<|AWe 73 false<|AS6 rfl (AGm<|AWi 79 false<|AS6 rfl (AGm<|AWe 84 false<|AS6 rfl (AGm<|AWe 90 false<|AS6 rfl (AGm<|AWe 96 false<|AS6 rfl (AGm<|AWe 102 false<|AS6 rfl (AGx<|AG1 ?_))))))));obtain rfl:=AGo<|ifF Bj Ap;exact ⟨_,AS5,Aa.x,rfl⟩
def Adv (fuel:Nat) (a3:List AWq) (a6 a7 Aa Ah:Int) (Ae:LiI):Option ((Int × Int × LiI) ⊕ LiI):=
 if Ah < (a3.length:Int) then (gI a3 Ah).bind λAc=>(AW8 fuel a6 Ac.1).bind λAd=>(gI Ae Aa).bind λAf=>if a7≠0 then (gI Af Aa).bind λAp=>((if Ac.2.1=2 then (gI (sI Ae Aa<|sI Af Aa<|Int.tmod (w64<|Ad * Ac.2.2.1) a7) Aa).bind λAg=>if a7≠0 then (gI Ag<|w64<|Aa + 1).bind λAq=>(gI (sI (sI Ae Aa<|sI Af Aa<|Int.tmod (w64<|Ad * Ac.2.2.1) a7) Aa<|sI Ag (w64<|Aa + 1)<|Int.tmod (w64<|Ad * Ac.2.2.2.1) a7)<|w64<|Aa + 1).bind λAi=>if a7≠0 then (gI Ai Aa).bind λAr=>(gI (sI (sI (sI Ae Aa<|sI Af Aa<|Int.tmod (w64<|Ad * Ac.2.2.1) a7) Aa<|sI Ag (w64<|Aa + 1)<|Int.tmod (w64<|Ad * Ac.2.2.2.1) a7) (w64<|Aa + 1)<|sI Ai Aa<|Int.tmod (w64<|Ad * Ac.2.2.2.1) a7)<|w64<|Aa + 1).bind λAk=>if a7≠0 then (gI Ak<|w64<|Aa + 1).bind λAu=>some (sI (sI (sI (sI Ae Aa<|sI Af Aa<|Int.tmod (w64<|Ad * Ac.2.2.1) a7) Aa<|sI Ag (w64<|Aa + 1)<|Int.tmod (w64<|Ad * Ac.2.2.2.1) a7) (w64<|Aa + 1)<|sI Ai Aa<|Int.tmod (w64<|Ad * Ac.2.2.2.1) a7) (w64<|Aa + 1)<|sI Ak (w64<|Aa + 1)<|Int.tmod (w64<|Ad * Ac.2.2.2.2) a7) else none else none else none else some<|sI Ae Aa<|sI Af Aa<|Int.tmod (w64<|Ad * Ac.2.2.1) a7):Option LiI).bind (λ(Ao:LiI)=>some<|.inl (w64<|Aa + Ac.2.1,w64<|Ah + 1,Ao)) else none else some<|.inr Ae
def AZ7 (fuel:Nat) (a5 Ab:Int) (Ac:LiI):Option ((Int × LiI) ⊕ LiI):=
 if Ab < ((List.replicate (Int.toNat a5) ([]:List Int)).length:Int) then if 0<=a5/\a5<=100000000 then (gI Ac Ab).bind λAd=>some (.inl (w64<|Ab + 1,sI Ac Ab<|List.replicate (Int.toNat a5) (0:Int))) else none else some<|.inr Ac
def AZr (fuel:Nat) (a3:List AWq) (a5 a6 a7:Int):Option LiI:=
 if 0<=a5/\a5<=100000000 then (iter (λs=>AZ7 fuel a5 s.1 s.2) fuel (0,List.replicate (Int.toNat a5) ([]:List Int))).bind (λ(Ae:LiI)=>(iter (λs=>Adv fuel a3 a6 a7 s.1 s.2.1 s.2.2) fuel (0,0,Ae)).bind (λ(Af:LiI)=>some Af)) else none
theorem Aln {Ax:Value} {a3:(List AWq)} {a7:Int} {r:LiI} (H2:SlC Ah5 h Ax a3) (hp:AZr fuel a3 a5 a6 a7=some r):ATz Tryz.prog 91 #[Ax,(.int .i64 a5),(.int .i64 a6),(.int .i64 a7)] h (λx h'=>Ext h h'/\ ∃ (x0:Value) (F0:List Nat) (Bm:List LnA) (Bn:List Value),x=x0/\AV8 (cI .i64) 61 2 h' F0 Bm Bn x0 r/\Sp h' h.size [F0]):=by
 unfold AZr at hp;refine cwf (l:=[_,_,_,_]) Tryz.func91 rfl rfl (AGq<|AT2<|AGm ?_);obtain ⟨Bo,Bp⟩:=ifN hp;refine Ak0 (cI .i64) 2 ATb Aet rfl trivial tt2 rfl rfl AGn Bo λBq Br Bt Ai Do Bu Bv Bw=>AGx<|AGs<|AGq<|AGm ?_;have Aj:=(Kst.k0 h).no2 Bv Bw Bu;refine AT3 ATb rfl (Aj.o2 p0).rd (AGm<|AGu<|AGt<|AXv 267912192 (λx:(Int) × (LiI) × LnA × LnN × LvA=>(x.1,x.2.1)) ((0,(List.replicate (Int.toNat a5) ([]:List Int)),Bq,Br,Bt):(Int) × (LiI) × LnA × LnN × LvA) Bp (λx=>[(19,(.int .i64 x.1))]) (λx=>Aj.L.set 0<|aO2 (cI .i64) 61 2 x.2.2.1 x.2.2.2.1 x.2.2.2.2 Ai x.2.1) Aj ⟨rfl,trivial⟩ ?_);rintro ⟨Dp,Bx,By,Bz,B1⟩ Dq Dr Ds Ak Am B3;unfold AZ7 at Am;refine AGq<|ATp rfl rfl (AGu<|AGs<|⟨_,rfl,λAo=>?_,λAo=>?_⟩)
 ·refine AG0<|q_t<|AGs<|AGt<|AGq<|AGm<|AGx<|AS8<|AGm<|AGm<|AGm ?_;obtain ⟨B4,B5⟩:=ifN<|AT4 Am Ao;refine Ajb (c:=(cI .i64)) (a:=0) ATa Abm rfl rfl (λ_=>rfl) rfl trivial tt2 rfl rfl AGn B4 λDt Du Dv B6 B7 B8 B9=>?_;have Ae:=Ak.no B7 (AYh B8 B9) B6;obtain ⟨Dw,A6,Ca⟩:=AGr B5;refine AVv ATb rfl (Ae.o2 p1) rfl A6 λDx Dy Cb Dz D0=>Akz ATq (Ae.o2 p1) A6 Cb rfl rfl (Ae.o p0) (Ae.dj p0 p1 AGn) λD1 Cd Ce Cf=>ATu<|q_b<|q_t<|AS8<|ATn rfl rfl (AGm<|AGu ?_);exact ⟨(_,_,_,_,_),(AGo Ca).symm,(Ae.m2 p0 p1 AGn Ce Cd λz hz=> .inl<|Cf z hz).sel [1] AGn,rfl,trivial⟩
 ·refine ATh<|ATi<|ATi<|AUf<|q_t<|AGq<|AGx<|AGs<|AGq<|AGm<|AUl Ahr rfl H2 (AGm<|AGu<|AGt<|AXv 316912650057057350373102086144 (λx:(Int) × (Int) × (LiI) × LnA × LnN × LvA=>(x.1,x.2.1,x.2.2.1)) ((0,0,Bx,By,Bz,B1):(Int) × (Int) × (LiI) × LnA × LnN × LvA) (B3 _ (AGo<|AT5 Am Ao).symm) (λx=>[(11,(.int .i64 x.1)),(30,(.int .i64 x.2.1))]) (λx=>Ak.L.set 0<|aO2 (cI .i64) 61 2 x.2.2.2.1 x.2.2.2.2.1 x.2.2.2.2.2 Ai x.2.2.1) Ak ⟨rfl,rfl,trivial⟩ ?_);rintro ⟨Aa,D2,A7,A8,A9,Ba⟩ D3 D4 D5 Af Ap Cg;unfold Adv at Ap;refine AGq<|ATp rfl rfl (AGu<|AGs<|⟨_,rfl,λAq=>?_,λAq=>?_⟩)
  ·refine AG0<|q_t<|AGs<|AGt<|AGq ?_;obtain ⟨Ab,Ch,Ci⟩:=AGr<|AT4 Ap Aq;refine Adg (c:=Ah5) Ahr rfl H2 rfl Ch λD6 D7 D8 Cj Ck=>?_;obtain rfl:=Cj;refine Agu (c:=Ah5) Aag rfl rfl (λj u hu=>(ATw (Ck j u hu) Af.x)) (AV6 Af [(.int .i64 0),(.int .i64 0),(.int .i64 0),(.int .i64 0),(.int .i64 0)] Ak2 λD9 Ea Eb Bb=>AVa [(.int .i64 Ab.1),(.int .i64 Ab.2.1),(.int .i64 Ab.2.2.1),(.int .i64 Ab.2.2.2.1),(.int .i64 Ab.2.2.2.2)] Aag rfl rfl rfl rfl (by simp [isOne]) (Bb.b p0) λEc Cm Cn=>Aal ?_);have Bc:=Bb.sb p0 Cn Cm rfl;refine AGm<|AUs AZ4 AT9 (Bc.b p0) 0 rfl ?_;obtain ⟨Ag,Co,Cp⟩:=AGr Ci;refine AVs Bc (Aeg Co) λEd Ee Ar=>AGx<|AGs<|AXi<|AGm<|AGm ?_;obtain ⟨Be,Bf,Cq⟩:=AGr Cp;refine AUo ATb ATq (Ar.o2 p1) Bf λ_ Ef Cr=>AGm<|AGm<|AUs Ac1 ATg (Ar.b p0) 2 rfl (Aaq rfl rfl (AGm ?_));obtain ⟨Ct,Cu⟩:=ifN Cq;refine Acl rfl rfl Ct ?_;obtain ⟨Eg,Cv,Cw⟩:=AGr Cu;refine AZ0 (m:=Aa) Ar p1 ATa ATg Cr Bf Cv (λ_=>rfl) λ_ Eh Ad=>AGu ?_;obtain ⟨Cx,Bg,Cy⟩:=AGr Cw;refine Aer 9903520314281916299286151168 (λx:(LiI) × LnA × LnN × LvA=>[]) (λx h'=>( x.1)=Cx/\Kst h h' (Ad.L.set 1<|aO2 (cI .i64) 61 2 x.2.1 x.2.2.1 x.2.2.2 Ai x.1)) ?_ ?_
   ·refine AGq<|AUs Ac0 AT9 (Ad.b p0) 1 rfl (AU0 rfl rfl (AGu<|⟨_,rfl,λAu=>?_,λAu=>?_⟩))
    ·refine AGs<|AXi<|AGm<|AGm ?_;obtain ⟨Cz,Bh,C0⟩:=AGr<|AT4 Bg Au;refine AUo ATb ATq (Ad.o2 p1) Bh λ_ Ei C1=>AGm<|ATn rfl rfl (AGm<|AUs Ac2 ATg (Ad.b p0) 3 rfl (Aaq rfl rfl (AGm ?_)));obtain ⟨C2,C3⟩:=ifN C0;refine Acl rfl rfl C2 ?_;obtain ⟨Ej,C4,C5⟩:=AGr C3;refine AZ0 (m:=Aa) Ad p1 ATa ATg C1 Bh C4 (λ_=>rfl) λ_ Ek Av=>AGu<|AGs<|AXi<|AGm<|AGm<|ATn rfl rfl ?_;obtain ⟨C6,Bi,C7⟩:=AGr C5;refine AUo ATb ATq (Av.o2 p1) Bi λ_ El C8=>AGm<|AGm<|AUs Ac2 ATg (Av.b p0) 3 rfl (Aaq rfl rfl (AGm ?_));obtain ⟨C9,Da⟩:=ifN C7;refine Acl rfl rfl C9 ?_;obtain ⟨Em,Db,Dc⟩:=AGr Da;refine AZ0 (m:=(w64<|Aa + 1)) Av p1 ATa ATg C8 Bi Db (λ_=>rfl) λ_ En Aw=>AGu<|AXi<|AGm<|AGm<|ATn rfl rfl ?_;obtain ⟨Dd,Bj,De⟩:=AGr Dc;refine AUo ATb ATq (Aw.o2 p1) Bj λ_ Eo Df=>AGm<|ATn rfl rfl (AGm<|AUs Ahc ATg (Aw.b p0) 4 rfl (Aaq rfl rfl (AGm ?_)));obtain ⟨Dg,Dh⟩:=ifN De;refine Acl rfl rfl Dg ?_;obtain ⟨Ep,Di,Dj⟩:=AGr Dh;refine AZ0 (m:=(w64<|Aa + 1)) Aw p1 ATa ATg Df Bj Di (λ_=>rfl) λ_ Er Dk=>AGu ?_;exact ⟨(((sI (sI (sI (sI A7 Aa<|sI Be Aa<|Int.tmod (w64<|Ag * Ab.2.2.1) a7) Aa<|sI Cz (w64<|Aa + 1)<|Int.tmod (w64<|Ag * Ab.2.2.2.1) a7) (w64<|Aa + 1)<|sI C6 Aa<|Int.tmod (w64<|Ag * Ab.2.2.2.1) a7) (w64<|Aa + 1)<|sI Dd (w64<|Aa + 1)<|Int.tmod (w64<|Ag * Ab.2.2.2.2) a7),A8,A9,Ba):(LiI) × LnA × LnN × LvA),⟨AGo Dj,Dk⟩,trivial⟩
    ·refine AG0<|q_t ?_;exact ⟨(((sI A7 Aa<|sI Be Aa<|Int.tmod (w64<|Ag * Ab.2.2.1) a7),A8,A9,Ba):(LiI) × LnA × LnN × LvA),⟨AGo<|AT5 Bg Au,Ad⟩,trivial⟩
   rintro ⟨Es,Et,Eu,Ev⟩ Ew Ey ⟨Dl,Bl⟩;subst Dl;refine AS8<|AGm<|AUs Ac0 AT9 (Bl.b p0) 1 rfl (ATn rfl rfl (ATs<|ATu<|q_b<|q_t<|AS8<|ATn rfl rfl (AGm<|AGu ?_)));exact ⟨(_,_,_,_,_,_),(AGo Cy).symm,Bl.sel [1] AGn,rfl,rfl,trivial⟩
  ·refine ATh<|ATi<|ATi<|AUf<|q_t<|AGq<|AGm<|AGx<|AG1 ?_;obtain rfl:=AGo<|Cg _ (AGo<|AT5 Ap Aq).symm;exact ⟨_,AS5,Af.x,_,_,_,_,rfl,(Af.o2 p0),Af.s.sel [0] AGn⟩
def AZ8 (fuel:Nat) (Ad:Int) (Ab:LiA) (Aa:Int):Option (Int ⊕ (Bool ⊕ Unit)):=
 if Aa < (Ab.length:Int) then (gI Ab Aa).bind λAc=>if Ac < 0 then some (.inr<|.inl false) else if Ad<=Ac then some (.inr<|.inl false) else some (.inl<|w64<|Aa + 1) else some<|.inr<|.inr ()
def AYf (fuel:Nat) (a8:LiI) (Ac Aa:Int):Option (Int ⊕ (Bool ⊕ Unit)):=
 if Aa < (a8.length:Int) then (gI a8 Aa).bind λAd=>(iter (λs=>AZ8 fuel Ac Ad s) fuel 0).bind (λex=>match ex with | .inl Ae=>(some<|.inr<|.inl Ae) | .inr _=>some<|.inl<|w64<|Aa + 1) else some<|.inr<|.inr ()
def AZ9 (fuel:Nat) (a5:Int) (Ac:List AWq) (Ae Aa:Int):Option (Int ⊕ (Bool ⊕ Unit)):=
 if Aa < (Ac.length:Int) then (gI Ac Aa).bind λAb=>(AZq fuel Ab.1 Ab.2.1 Ab.2.2.1 Ab.2.2.2.1 Ab.2.2.2.2 a5 Ae).bind λAf=>if (!Af)=true then some (.inr<|.inl false) else if 0 < Aa then (gI Ac<|w64<|Aa - 1).bind λAg=>if Ab.1 < Ag.1 then some (.inr<|.inl false) else some (.inl<|w64<|Aa + 1) else some (.inl<|w64<|Aa + 1) else some<|.inr<|.inr ()
def AZs (fuel:Nat) (a3:LiI) (a5:Int) (a8:LiI) (Ae:List AWq):Option Bool:=
 (AX6 fuel a3 a5).bind λAf=>(AW8 fuel a5 Af).bind λAd=>(iter (λs=>AZ9 fuel a5 Ae Af s) fuel 0).bind (λex=>match ex with | .inl Ag=>(some Ag) | .inr _=>(iter (λs=>AYf fuel a8 Ad s) fuel 0).bind (λex=>match ex with | .inl Ah=>(some Ah) | .inr _=>(AZy fuel a8 a5).bind λ(Ai,Ao)=>(AXt fuel a3 a8 Ad).bind λ(Aj,Ap)=>if ¬ Ai=0 then (AZr fuel Ae (a3.length:Int) a5 Ad).bind λAk=>(Aau fuel Aj Ak).bind λAm=>some Am else some false))
theorem Alo {Be:Value} {Ap:Value} {a8:LiI} {Aq:Value} {Bh:(List AWq)} (H2:AV4 (cI .i64) h Be a3) (H7:AV4 (cI .i64) h Ap a8) (Ah:SlC Ah5 h Aq Bh) (hp:AZs fuel a3 a5 a8 Bh=some r):ATz Tryz.prog 45 #[Be,(.agg #[(.int .i64 a5),Ap,Aq])] h (λx h'=>Ext h h'/\x= .bool r):=by
 unfold AZs at hp;refine cwf (l:=[_,_]) Tryz.func45 rfl rfl (AGq<|AY3 (Kst.k0 h) [(.int .i64 a5),Ap,Aq] λCv Cw Cx Au=>AT2<|AGm<|AUs Alz ATg (Au.b p0) 0 rfl ?_);obtain ⟨Cy,Bu,Bv⟩:=AGr hp;refine AVs Au (Alj (H2.ext Au.x) Bu) λCz C0 Bi=>AT2<|AUs Alz ATg (Bi.b p0) 0 rfl (AGm ?_);obtain ⟨C1,Bw,Bx⟩:=AGr Bv;refine AVs Bi (Aeg Bw) λC2 C3 Av=>AGx<|AGs<|AGq<|AUs Afn Ak1 (Av.b p0) 2 rfl (AUl Ahr rfl Ah (AGm<|AGu<|AGt<|AYr 72057593769492880 Bx (λx=>[(28,(.int .i64 x))]) (λx=>Av.L) Av ⟨rfl,trivial⟩ ?_));rintro By C4 C5 C6 Ad Aw Ax;unfold AZ9 at Aw;refine AGq<|ATp rfl rfl (AGu<|AGs<|⟨_,rfl,λAy=>?_,λAy=>?_⟩)
 ·refine AG0<|q_t<|AGs<|AGt<|AGq<|AGm ?_;obtain ⟨Aa,Bz,B1⟩:=AGr<|AT4 Aw Ay;refine Adg (c:=Ah5) Ahr rfl Ah rfl Bz λC7 C8 C9 B3 B4=>?_;obtain rfl:=B3;refine Agu (c:=Ah5) Aag rfl rfl (λj u hu=>(ATw (B4 j u hu) Ad.x)) (AV6 Ad [(.int .i64 0),(.int .i64 0),(.int .i64 0),(.int .i64 0),(.int .i64 0)] Ak2 λDa Db Dc Bj=>ATs<|AVa [(.int .i64 Aa.1),(.int .i64 Aa.2.1),(.int .i64 Aa.2.2.1),(.int .i64 Aa.2.2.2.1),(.int .i64 Aa.2.2.2.2)] Aag rfl rfl rfl rfl (by simp [isOne]) (Bj.b p0) λDd B5 B6=>AGu<|AGs<|AXi ?_);have Az:=Bj.sb p0 B6 B5 rfl;refine Abd [(.int .i64 Aa.1),(.int .i64 Aa.2.1),(.int .i64 Aa.2.2.1),(.int .i64 Aa.2.2.2.1),(.int .i64 Aa.2.2.2.2)] Aag rfl rfl (Az.b p0).agg (AUs Alz ATg (Az.b p1) 0 rfl (AGm ?_));obtain ⟨B7,B8,Bl⟩:=AGr B1;refine AVs Az (Alm B8) λDe Df Ab=>AV5 rfl (AGm ?_);cases Bm:(!B7)
  ·refine ATc 39 false<|AGm<|ATc 39 false<|AXr rfl rfl (ATc 39 false<|AGm ?_);have Bn:=AY5 Bl Bm;by_cases Ai:0 < By
   ·rw [decide_eq_true Ai];refine ATc 42 true<|AVd AZ4 rfl (ATc 42 true<|AT6 AT9 rfl ((Ab.b p0).cell (i:=0) rfl) (ATc 42 true<|AVd Afn rfl (ATc 42 true<|AT6 Ak1 rfl ((Ab.b p1).cell (i:=2) rfl) (ATc 42 true<|AGm<|ATc 42 true<|AVh rfl rfl (ATc 42 true ?_)))));obtain ⟨Dg,B9,Bo⟩:=AGr<|ifT Bn Ai;refine Adg (c:=Ah5) Ahr rfl Ah rfl B9 λDh Di Dj Ca Cb=>?_;obtain rfl:=Ca;refine ATc 42 true<|AVd AZ4 rfl (ATc 42 true<|AT6 AT9 rfl (ATw (Cb 0 _ rfl) Ab.x) (ATc 42 true<|ATp rfl rfl (ATc 39 false<|ATf rfl (AS6 rfl (AGu<|⟨_,rfl,λA3=>?_,λA3=>?_⟩)))))
    ·refine AGq<|AGx<|AG1<|AUg<|ATd<|ATd<|AUg<|ATd ?_;obtain rfl:=AGo<|Ax _ (AGo<|AT4 Bo A3).symm;exact ⟨_,AS5,Ab.x,rfl⟩
    ·refine AG0<|q_b<|q_t<|AS8<|ATn rfl rfl (AGm<|AGu ?_);exact ⟨_,(AGo<|AT5 Bo A3).symm,Ab.sel [1] AGn,rfl,trivial⟩
   ·rw [decide_eq_false Ai];refine AY2 42 false<|AY2 42 false<|ATc 39 false<|AS6 rfl (AS6 rfl (AGu<|AT0 rfl (AG0<|q_b<|q_t<|AS8<|ATn rfl rfl (AGm<|AGu ?_))));exact ⟨_,(AGo<|ifF Bn Ai).symm,Ab.sel [1] AGn,rfl,trivial⟩
  ·refine AWi 39 true<|AVo 42 AG2 rfl (AVo 42 AG2 rfl (AVo 42 AG2 rfl (AVo 42 AG2 rfl (AVo 42 AG2 rfl (AVo 42 AG2 rfl (AVo 42 AG2 rfl (AVo 42 AG2 rfl (AVo 42 AG2 rfl (AVo 42 AG2 rfl (Alq 39 true<|ATf rfl (AGu<|ATx rfl (AGq<|AGx<|AG1<|AUg<|ATd<|ATd<|AUg<|ATd ?_))))))))))));obtain rfl:=AGo<|Ax _ (AGo<|ifT Bl Bm).symm;exact ⟨_,AS5,Ab.x,rfl⟩
 ·refine ATh<|ATi<|ATi<|AUf<|q_t<|AGs<|AGq<|AUs Ahb AU5 (Ad.b p0) 1 rfl (AT3 ATb rfl H7 (AGm<|AGu<|AGt<|AYr 302230878442904990258192 (Ax _ (AGo<|AT5 Aw Ay).symm) (λx=>[(59,(.int .i64 x))]) (λx=>Ad.L) Ad ⟨rfl,trivial⟩ ?_));rintro Dk Dl Do Dp Ac A4 A5;unfold AYf at A4;refine AGq<|ATp rfl rfl (AGu<|AGs<|⟨_,rfl,λA6=>?_,λA6=>?_⟩)
  ·refine AG0<|q_t<|AGs<|AGt<|AGq ?_;obtain ⟨Dq,Cd,Ce⟩:=AGr<|AT4 A4 A6;refine AZ1 ATb ATq H7 Ac.x Cd λ_ Dr Bp=>AT2<|AGm<|AUl ATa rfl Bp (AGm<|AGu<|AGt<|AYr 151078833963681227739152 Ce (λx=>[(65,(.int .i64 x))]) (λx=>Ac.L) Ac ⟨rfl,trivial⟩ ?_);rintro Ds Dt Du Dv Ae A7 A8;unfold AZ8 at A7;refine AGq<|ATp rfl rfl (AGu<|AGs<|⟨_,rfl,λA9=>?_,λA9=>?_⟩)
   ·refine AG0<|q_t<|AGs<|AGt<|AGq ?_;obtain ⟨Cf,Cg,Bq⟩:=AGr<|AT4 A7 A9;refine Aoc ATa ATg Bp Ae.x Cg λ_=>(AT2<|AGm<|ATp rfl rfl (AGm ?_));by_cases Aj:Cf < 0
    ·rw [decide_eq_true Aj];refine AWi 71 true<|ATf rfl (AGu<|ATx rfl (AGq<|AGx<|AG1<|AUg<|ATd<|ATd<|AUg<|AUg<|ATd<|ATd<|AUg<|ATd ?_));obtain rfl:=AGo<|A5 _ (AGo<|A8 _ (AGo<|ifT Bq Aj).symm).symm;exact ⟨_,AS5,Ae.x,rfl⟩
    ·have Br:=ifF Bq Aj;rw [decide_eq_false Aj];refine ATc 71 false<|AGm<|ATc 71 false<|AGm<|ATc 71 false<|Afp rfl rfl (AS6 rfl (AGu<|⟨_,rfl,λBa=>?_,λBa=>?_⟩))
     ·refine AGq<|AGx<|AG1<|AUg<|ATd<|ATd<|AUg<|AUg<|ATd<|ATd<|AUg<|ATd ?_;obtain rfl:=AGo<|A5 _ (AGo<|A8 _ (AGo<|AT4 Br Ba).symm).symm;exact ⟨_,AS5,Ae.x,rfl⟩
     ·refine AG0<|q_b<|q_t<|AS8<|ATn rfl rfl (AGm<|AGu ?_);exact ⟨_,(AGo<|AT5 Br Ba).symm,Ae,rfl,trivial⟩
   ·refine ATh<|ATi<|ATi<|AUf<|q_b<|q_t<|AS8<|ATn rfl rfl (AGm<|AGu ?_);exact ⟨_,(AGo<|A8 _ (AGo<|AT5 A7 A9).symm).symm,Ae,rfl,trivial⟩
  ·refine ATh<|ATi<|ATi<|AUf<|q_t<|AGq<|AUs Ahb AU5 (Ac.b p0) 1 rfl (AUs Alz ATg (Ac.b p0) 0 rfl ?_);obtain ⟨⟨Ch,Dw⟩,Ci,Bt⟩:=AGr<|A5 _ (AGo<|AT5 A4 A6).symm;dsimp only at Bt;refine AVs Ac (An2 (H7.ext Ac.x) Ci) λDx Dy Ak=>AGm<|AUk rfl rfl (AUk rfl rfl (ATs<|AT2<|AGm<|AUs Ahb AU5 (Ak.b p0) 1 rfl (AGm ?_)));obtain ⟨⟨Dz,D0⟩,Cj,Bb⟩:=AGr Bt;dsimp only at Bb;refine Agw rfl (Ajy (H2.ext Ak.x) (H7.ext Ak.x) Cj) λD1 D2 Ck Cm=>?_;obtain ⟨D3,D4,D5,D6,rfl,Cn,Co⟩:=Cm;refine AGm<|AUk rfl rfl (AUk rfl rfl (ATs<|AT2<|AGm<|AVz rfl rfl (AGm ?_)));have Af:=Ak.no2 Ck Co Cn;by_cases Am: ¬ Ch=0
   ·rw [decide_eq_true Am];refine ATc 96 true<|AGm<|ATc 96 true<|AVd Afn rfl (ATc 96 true<|AT6 Ak1 rfl ((Af.b p1).cell (i:=2) rfl) (ATc 96 true<|AGm<|ATc 96 true<|AT3 ATb rfl H2 (ATc 96 true<|AVd Alz rfl (ATc 96 true<|AT6 ATg rfl ((Af.b p1).cell (i:=0) rfl) (ATc 96 true<|AGm<|ATc 96 true ?_)))));obtain ⟨D7,Cp,Cq⟩:=AGr<|ifT Bb Am;refine Agx Af (Aln (Ah.ext Af.x) Cp) λD8 D9 Ea Eb Ec Ed Bc=>ATc 96 true ?_;obtain ⟨Ee,Cr,Ct⟩:=AGr Cq;refine AVs Bc (Am0 (Bc.o2 p1).rd (Bc.o2 p0).rd Cr) λEf Eg Cu=>ATf rfl (AGx<|AG1 ?_);obtain rfl:=AGo Ct;exact ⟨_,AS5,Cu.x,rfl⟩
   ·rw [decide_eq_false Am];refine AY2 96 false<|AY2 96 false<|AS6 rfl (AGx<|AG1 ?_);obtain rfl:=AGo<|ifF Bb Am;exact ⟨_,AS5,Af.x,rfl⟩
def Ago (fuel:Nat) (a3 a7:List Af4) (Ac:Int):Option (Int ⊕ (Bool ⊕ Unit)):=
 if Ac < (a3.length:Int) then (gI a3 Ac).bind λAa=>(gI a7 Ac).bind λAb=>if (!(decide ((Aa.1,Aa.2.1,Aa.2.2.1,Aa.2.2.2.1,Aa.2.2.2.2)=(Ab.1,Ab.2.1,Ab.2.2.1,Ab.2.2.2.1,Ab.2.2.2.2))))=true then some (.inr<|.inl false) else some (.inl<|w64<|Ac + 1) else some<|.inr<|.inr ()
def Aej (fuel:Nat) (a3 a7:List Af4):Option Bool:=
 if ¬ (a3.length:Int)=(a7.length:Int) then some false else (iter (λs=>Ago fuel a3 a7 s) fuel 0).bind (λex=>match ex with | .inl Ac=>(some Ac) | .inr _=>some true)
theorem Akm {a3:(List Af4)} {Aj:Value} {a7:(List Af4)} (H2:SlC Ait h Ah a3) (H6:SlC Ait h Aj a7) (hp:Aej fuel a3 a7=some r):ATz Tryz.prog 23 #[Ah,Aj] h (λx h'=>Ext h h'/\x= .bool r):=by
 unfold Aej at hp;refine cwf (l:=[_,_]) Tryz.func23 rfl rfl (AGq<|AGx<|AGs<|AGq<|AGm<|AUl Aoa rfl H2 (AGm<|AUl Aoa rfl H6 (AVz rfl rfl (AGu ?_))));have K0:=Kst.k0 h;refine ⟨_,rfl,λAd=>?_,λAd=>?_⟩
 ·refine AGq<|AGx<|AG1<|ATd ?_;obtain rfl:=AGo<|AT4 hp Ad;exact ⟨_,AS5,K0.x,rfl⟩
 ·refine AG0<|q_t<|AGs<|AGq<|AGm<|AUl Aoa rfl H2 (AGm<|AGu<|AGt<|AYr 67100720 (AT5 hp Ad) (λx=>[(13,(.int .i64 x))]) (λx=>K0.L) K0 ⟨rfl,trivial⟩ ?_);rintro Az A3 A4 A5 Aa Ae Ao;unfold Ago at Ae;refine AGq<|ATp rfl rfl (AGu<|AGs<|⟨_,rfl,λAf=>?_,λAf=>?_⟩)
  ·refine AG0<|q_t<|AGs<|AGt<|AGq<|AGm<|AGx<|AGs<|AXi<|AGm<|AGm ?_;obtain ⟨A6,Aq,Ar⟩:=AGr<|AT4 Ae Af;refine Adg (c:=Ait) Aoa rfl H2 rfl Aq λA7 A8 A9 Au Av=>?_;obtain rfl:=Au;refine Agu (c:=Ait) Axf rfl rfl (λj u hu=>(ATw (Av j u hu) Aa.x)) (AGm<|AGm ?_);obtain ⟨Ba,Aw,Ap⟩:=AGr Ar;refine Adg (c:=Ait) Aoa rfl H6 rfl Aw λBb Bc Be Ax Ay=>?_;obtain rfl:=Ax;refine Agu (c:=Ait) Axf rfl rfl (λj u hu=>(ATw (Ay j u hu) Aa.x)) (BF8 AG2 rfl rfl (BGi _ _ _ _ _ _ _ _ _ _) (AGu<|⟨_,rfl,λAg=>?_,λAg=>?_⟩))
   ·refine AGq<|AGx<|AG1<|AUg<|ATd<|ATd<|AUg<|ATd ?_;obtain rfl:=AGo<|Ao _ (AGo<|ifT Ap Ag).symm;exact ⟨_,AS5,Aa.x,rfl⟩
   ·refine AG0<|q_b<|q_t<|AS8<|ATn rfl rfl (AGm<|AGu ?_);exact ⟨_,(AGo<|AY5 Ap Ag).symm,Aa,rfl,trivial⟩
  ·refine ATh<|ATi<|ATi<|AUf<|q_t<|AGq<|AGx<|AG1 ?_;obtain rfl:=AGo<|Ao _ (AGo<|AT5 Ae Af).symm;exact ⟨_,AS5,Aa.x,rfl⟩
def Adw (fuel:Nat) (a8:List AWq) (Ad Aa:Int):Option ((Int × Int) ⊕ (Bool ⊕ Int)):=
 if Aa < (a8.length:Int) then (gI a8 Aa).bind λAb=>((if ¬ Ab.2.1=1 then if ¬ Ab.2.1=2 then some (.inl false) else some (.inr ()) else some<|.inr ()):Option (Bool ⊕ Unit)).bind (λex=>match ex with | .inl Ae=>(some<|.inr<|.inl Ae) | .inr _=>some<|.inl (w64<|Ad - Ab.2.1,w64<|Aa + 1)) else some<|.inr<|.inr Ad
def Aaa (fuel:Nat) (a4:LiI) (Ac Aa:Int):Option (Int ⊕ (Bool ⊕ Unit)):=
 if Aa < (a4.length:Int) then (gI a4 Aa).bind λAd=>if ¬ (Ad.length:Int)=Ac then some (.inr<|.inl false) else some (.inl<|w64<|Aa + 1) else some<|.inr<|.inr ()
def AZt (fuel:Nat) (a1:Int) (a4:LiI) (a8:List AWq) (Aa:Int):Option Bool:=
 ((if ¬ (a4.length:Int)=Aa then some (.inl false) else if Aa < (a8.length:Int) then some (.inl false) else some<|.inr ()):Option (Bool ⊕ Unit)).bind (λex=>match ex with | .inl Ad=>(some Ad) | .inr _=>(iter (λs=>Aaa fuel a4 Aa s) fuel 0).bind (λex=>match ex with | .inl Ae=>(some Ae) | .inr _=>(iter (λs=>Adw fuel a8 s.1 s.2) fuel (Aa,0)).bind (λex=>match ex with | .inl Af=>(some Af) | .inr Ag=>some<|decide (Ag=0))))
theorem Alp {a4:LiI} {Aj:Value} {a8:(List AWq)} {Ak:Int} (H3:AV4 (cI .i64) h Ah a4) (H7:SlC Ah5 h Aj a8) (hp:AZt fuel a1 a4 a8 Ak=some r):ATz Tryz.prog 44 #[(.agg #[(.int .i64 a1),Ah,Aj]),(.int .i64 Ak)] h (λx h'=>Ext h h'/\x= .bool r):=by
 unfold AZt at hp;refine cwf (l:=[_,_]) Tryz.func44 rfl rfl (AGq<|AY3 (Kst.k0 h) [(.int .i64 a1),Ah,Aj] λBv Bw Bx Aa=>AGx ?_);obtain ⟨Bh,A6,Ap⟩:=AGr hp;refine Aer 2096656 (λx:Unit=>[]) (λx h'=>(Sum.inr <| ())=Bh/\Kst h h' (Aa.L)) ?_ ?_
 ·refine AGq<|AUs Ahb AU5 (Aa.b p0) 1 rfl (AT3 ATb rfl H3 (AGm<|AVz rfl rfl (AGm ?_)));by_cases Ae: ¬ (a4.length:Int)=Ak
  ·rw [decide_eq_true Ae];refine AY2 14 true<|ATf rfl (AGu<|ATx rfl (AGq<|AGx ?_));obtain rfl:=AGo<|ifT A6 Ae;refine AG1<|ATd ?_;obtain rfl:=AGo Ap;exact ⟨_,AS5,Aa.x,rfl⟩
  ·have A7:=ifF A6 Ae;rw [decide_eq_false Ae];refine ATc 14 false<|AVd Afn rfl (ATc 14 false<|AT6 Ak1 rfl ((Aa.b p0).cell (i:=2) rfl) (ATc 14 false<|AUl Ahr rfl H7 (ATc 14 false<|AGm<|ATc 14 false<|AXr rfl rfl (AS6 rfl (AGu<|⟨_,rfl,λAq=>?_,λAq=>?_⟩)))))
   ·refine AGq<|AGx ?_;obtain rfl:=AGo<|AT4 A7 Aq;refine AG1<|ATd ?_;obtain rfl:=AGo Ap;exact ⟨_,AS5,Aa.x,rfl⟩
   ·refine AG0<|q_t ?_;exact ⟨(():Unit),⟨AGo<|AT5 A7 Aq,Aa⟩,trivial⟩
 rintro ⟨⟩ By Bz ⟨Bi,Ar⟩;subst Bi;refine AGs<|AGq<|AUs Ahb AU5 (Ar.b p0) 1 rfl (AT3 ATb rfl H3 (AGm<|AGu<|AGt<|AYr 8573157456 Ap (λx=>[(24,(.int .i64 x))]) (λx=>Ar.L) Ar ⟨rfl,trivial⟩ ?_));rintro B1 B3 B4 B5 Ad Au A8;unfold Aaa at Au;refine AGq<|ATp rfl rfl (AGu<|AGs<|⟨_,rfl,λAv=>?_,λAv=>?_⟩)
 ·refine AG0<|q_t<|AGs<|AGt<|AGq ?_;obtain ⟨B6,Bj,A9⟩:=AGr<|AT4 Au Av;refine AZ1 ATb ATq H3 Ad.x Bj λ_ B7 Bl=>AT2<|AGm<|AUl ATa rfl Bl (AGm<|AVz rfl rfl (AGu<|⟨_,rfl,λAw=>?_,λAw=>?_⟩))
  ·refine AGq<|AGx<|AG1<|AUg<|ATd<|ATd<|AUg<|ATd ?_;obtain rfl:=AGo<|A8 _ (AGo<|AT4 A9 Aw).symm;exact ⟨_,AS5,Ad.x,rfl⟩
  ·refine AG0<|q_b<|q_t<|AS8<|ATn rfl rfl (AGm<|AGu ?_);exact ⟨_,(AGo<|AT5 A9 Aw).symm,Ad,rfl,trivial⟩
 ·refine ATh<|ATi<|ATi<|AUf<|q_t<|AGs<|AGq<|AUs Afn Ak1 (Ad.b p0) 2 rfl (AUl Ahr rfl H7 (AGm<|AGu<|AGt ?_));have Ax:=Ad.sel [] AGn;dsimp only [AZ3,Adk] at Ax;refine AYr 9007130535264530 (A8 _ (AGo<|AT5 Au Av).symm) (λx=>[(1,(.int .i64 x.1)),(36,(.int .i64 x.2))]) (λx=>Ax.L) Ax ⟨rfl,rfl,trivial⟩ ?_;rintro ⟨B8,B9⟩ Ca Cb Cd Ay Az Ba;unfold Adw at Az;refine AGq<|ATp rfl rfl (AGu<|AGs<|⟨_,rfl,λA3=>?_,λA3=>?_⟩)
  ·refine AG0<|q_t<|AGs<|AGt<|AGq ?_;obtain ⟨Ab,Bm,Bn⟩:=AGr<|AT4 Az A3;refine Adg (c:=Ah5) Ahr rfl H7 rfl Bm λCe Cf Cg Bo Bp=>?_;obtain rfl:=Bo;refine Agu (c:=Ah5) Aag rfl rfl (λj u hu=>(ATw (Bp j u hu) Ay.x)) (AV6 Ay [(.int .i64 0),(.int .i64 0),(.int .i64 0),(.int .i64 0),(.int .i64 0)] Ak2 λCh Ci Cj Bb=>AVa [(.int .i64 Ab.1),(.int .i64 Ab.2.1),(.int .i64 Ab.2.2.1),(.int .i64 Ab.2.2.2.1),(.int .i64 Ab.2.2.2.2)] Aag rfl rfl rfl rfl (by simp [isOne]) (Bb.b p0) λCk Bq Br=>AGu ?_);have Ac:=Bb.sb p0 Br Bq rfl;obtain ⟨Bt,Bc,Be⟩:=AGr Bn;refine Aer 280375465082896 (λx:Unit=>[]) (λx h'=>(Sum.inr <| ())=Bt/\Kst h h' (Ac.L)) ?_ ?_
   ·refine AGq<|AUs Ac0 AT9 (Ac.b p0) 1 rfl (AVz rfl rfl (AGm ?_));by_cases Af: ¬ Ab.2.1=1
    ·have Bf:=ifT Bc Af;rw [decide_eq_true Af];refine ATc 43 true<|AVd Ac0 rfl (ATc 43 true<|AT6 AT9 rfl ((Ac.b p0).cell (i:=1) rfl) (ATc 43 true<|AVz rfl rfl (ATf rfl (AGu<|⟨_,rfl,λA4=>?_,λA4=>?_⟩))))
     ·refine AGq<|AGx ?_;obtain rfl:=AGo<|AT4 Bf A4;refine AG1<|ATd<|AUg<|ATd<|ATd<|AUg<|ATd ?_;obtain rfl:=AGo<|Ba _ (AGo Be).symm;exact ⟨_,AS5,Ac.x,rfl⟩
     ·refine AG0<|q_t ?_;exact ⟨(():Unit),⟨AGo<|AT5 Bf A4,Ac⟩,trivial⟩
    ·rw [decide_eq_false Af];refine AWi 43 false<|AS6 rfl (AGu<|AT0 rfl (AG0<|q_t ?_));exact ⟨(():Unit),⟨AGo<|ifF Bc Af,Ac⟩,trivial⟩
   rintro ⟨⟩ Cm Cn ⟨Bu,Bg⟩;subst Bu;refine AS8<|AGm<|AUs Ac0 AT9 (Bg.b p0) 1 rfl (AVh rfl rfl (ATs<|ATu<|q_b<|q_t<|AS8<|ATn rfl rfl (AGm<|AGu ?_)));exact ⟨_,(AGo Be).symm,Bg.sel [] AGn,rfl,rfl,trivial⟩
  ·refine ATh<|ATi<|ATi<|AUf<|q_t<|AGq<|AGm<|AU0 rfl rfl (AGx<|AG1 ?_);obtain rfl:=AGo<|Ba _ (AGo<|AT5 Az A3).symm;exact ⟨_,AS5,Ay.x,rfl⟩
def AV1 (fuel:Nat) (a3:LiI) (a5:Int) (a8:LiI) (Ad:List AWq):Option Int:=
 (AU7 fuel a3).bind λAe=>if (!Ae)=true then some 6 else if ¬ a5=2 then some 20 else (AZt fuel a5 a8 Ad (a3.length:Int)).bind λAf=>if (!Af)=true then some 3 else (AZs fuel a3 a5 a8 Ad).bind λAg=>if (!Ag)=true then some 10 else some 0
theorem Ag6 {Ak:Value} {Ad:Value} {a8:LiI} {Ap:(List AWq)} {r:Int} (H2:AV4 (cI .i64) h Ak a3) (H7:AV4 (cI .i64) h Ad a8) (Ar:SlC Ah5 h Ae Ap) (hp:AV1 fuel a3 a5 a8 Ap=some r):ATz Tryz.prog 13 #[Ak,(.agg #[(.int .i64 a5),Ad,Ae])] h (λx h'=>Ext h h'/\x= .int .i64 r):=by
 unfold AV1 at hp;refine cwf (l:=[_,_]) Tryz.func13 rfl rfl (AGq<|AY3 (Kst.k0 h) [(.int .i64 a5),Ad,Ae] λA6 A7 A8 Au=>AGx<|AGs<|AGq<|AGm ?_);obtain ⟨A9,A3,Av⟩:=AGr hp;refine AVs Au (Abc (H2.ext Au.x) A3) λBa Bb Aa=>AV5 rfl (AGu<|⟨_,rfl,λAg=>?_,λAg=>?_⟩)
 ·refine AGq<|AGx<|AG1<|ATd ?_;obtain rfl:=AGo<|ifT Av Ag;exact ⟨_,AS5,Aa.x,rfl⟩
 ·refine AG0<|q_t<|AGs<|AGq<|AUs Alz ATg (Aa.b p0) 0 rfl (AVz rfl rfl (AGu ?_));have Aw:=AY5 Av Ag;refine ⟨_,rfl,λAh=>?_,λAh=>?_⟩
  ·refine AGq<|AGx<|AG1<|ATd ?_;obtain rfl:=AGo<|AT4 Aw Ah;exact ⟨_,AS5,Aa.x,rfl⟩
  ·refine AG0<|q_t<|AGs<|AGq<|Abd [(.int .i64 a5),Ad,Ae] Aev rfl rfl (Aa.b p0).agg (AGm<|AT3 ATb rfl H2 ?_);obtain ⟨Bc,A4,Ax⟩:=AGr<|AT5 Aw Ah;refine AVs Aa (Alp (H7.ext Aa.x) (Ar.ext Aa.x) A4) λBe Bf Ab=>AV5 rfl (AGu<|⟨_,rfl,λAi=>?_,λAi=>?_⟩)
   ·refine AGq<|AGx<|AG1<|ATd ?_;obtain rfl:=AGo<|ifT Ax Ai;exact ⟨_,AS5,Ab.x,rfl⟩
   ·refine AG0<|q_t<|AGs<|AGq<|AGm<|Abd [(.int .i64 a5),Ad,Ae] Aev rfl rfl (Ab.b p0).agg ?_;obtain ⟨Bg,A5,Ay⟩:=AGr<|AY5 Ax Ai;refine AVs Ab (Alo (H2.ext Ab.x) (H7.ext Ab.x) (Ar.ext Ab.x) A5) λBh Bi Az=>AV5 rfl (AGu<|⟨_,rfl,λAj=>?_,λAj=>?_⟩)
    ·refine AGq<|AGx<|AG1<|ATd ?_;obtain rfl:=AGo<|ifT Ay Aj;exact ⟨_,AS5,Az.x,rfl⟩
    ·refine AG0<|q_t<|AGq<|AGx<|AG1 ?_;obtain rfl:=AGo<|AY5 Ay Aj;exact ⟨_,AS5,Az.x,rfl⟩
end Go.Proofs.YtkakafabeobahaaGreatDoor
namespace Go.Proofs.YtkakafabeobahaaGreatDoor
open Go Go.QF
set_option maxRecDepth 100000
theorem Ajm {body:Int->Option (Int ⊕ (E ⊕ Unit))} {n:Nat} (good:Nat->Prop) (bad:E) (hf:n < fuel) (hs:∀ i:Nat,i < n->Ok (body (i:Int)) λr=>(r= .inl ((i + 1:Nat):Int)/\good i)∨(r= .inr (.inl bad)/\¬ good i)) (he:body (n:Int)=some (.inr<|.inr ())):
 Ok (iter body fuel 0) λex=>(ex= .inr ()/\ ∀ i,i < n->good i)∨(ex= .inl bad/\¬ ∀ i,i < n->good i):=by
 refine AT8 (λi s=>s=(i:Int)/\ ∀ j,j < i->good j) n ⟨rfl,λj hj=>absurd hj<|Nat.not_lt_zero j⟩ hf λi s hi hI=>?_;obtain ⟨rfl,hI⟩:=hI
 by_cases h:i < n
 ·refine BBk (hs i h) λr hr=>?_;grind
 ·obtain rfl:i=n:=by omega
  rw [he];exact AGp<|.inl ⟨rfl,hI⟩
theorem Ayd {body:List α × Int->Option ((List α × Int) ⊕ List α)} {n:Nat} (f:Nat->α) (hf:n < fuel) (hs:∀ i:Nat,i < n->body (AU9 i f,(i:Int))=some (.inl (AU9 i f ++ [f i],((i + 1:Nat):Int)))) (he:∀ X,body (X,(n:Int))=some (.inr X)):iter body fuel ([],0)=some (AU9 n f):=by
 apply ok_eq;refine AT8 (λi s=>s=(AU9 i f,(i:Int))) n rfl hf λi s hi hI=>?_;subst hI
 by_cases h:i < n
 ·rw [hs i h,Aie];exact AGp ⟨h,rfl⟩
 ·obtain rfl:i=n:=by omega
  rw [he];exact AGp rfl
theorem A9g {body:Int × List Int->Option ((Int × List Int) ⊕ List Int)} {n:Nat} {g0:Nat->Int} (v:Nat->Int) (hf:n < fuel)
 (hs:∀ (j:Nat) (g:Nat->Int),j < n->g j=g0 j->body ((j:Int),AU9 n g)=some (.inl (((j + 1:Nat):Int),AU9 n λc=>if c=j then v j else g c)))
 (he:∀ X,body ((n:Int),X)=some (.inr X)):iter body fuel (0,AU9 n g0)=some (AU9 n v):=by
 apply ok_eq
 refine AT8 (λj s=>s=((j:Int),AU9 n λc=>if c < j then v c else g0 c)) n ?_ hf λj s hj hI=>?_
 ·grind
 ·subst hI
  by_cases h:j < n
  ·rw [hs j _ h<|if_neg AGl];refine AGp ⟨h,?_⟩;refine congrArg (λz=>(((j + 1:Nat):Int),AU9 n z))<|funext λc=>?_
   by_cases h1:c=j
   ·grind
   omega
  ·obtain rfl:j=n:=by omega
   rw [he];exact AGp<|AUq λc hc=>if_pos hc
def Avd (n:Nat) (q:Int) (A T:AS9):AS9:=λi j=>psum (λk=>T k i % q * (psum (λl=>A k l % q * (T l j % q)) n % q)) n % q
theorem Am4 (n:Nat) (hq:2<=q) (F:AS9):Asn n q λi j=>F i j % q:=λi j _ _=>⟨Int.emod_nonneg _ AGl,Int.emod_lt_of_pos _ AGl⟩
theorem BCl {n:Nat} (Aa:1<=n) (hn:n<=8) (hq:2<=q) (Ab:q<=2147483647) (hf:100 < fuel):Aav fuel (tab n n A) (tab n n T) q=some (tab n n<|Avd n q A T,0):=by
 unfold Aav;have h1:AUu fuel q=some 0:=by unfold AUu;grind
 rw [Ape Aa hn hf,Ape Aa hn hf];simp only [Option.bind_some];rw [if_neg AGn,Al3<|ATv AGl,AT1,ATt,ATt,if_neg AGn,if_neg λh=>h rfl,if_neg λh=>h rfl];simp only [Option.bind_some];rw [h1];simp only [Option.bind_some];rw [if_neg AGn,Avb hn hq Ab hf];simp only [Option.bind_some];rw [A9e Aa hn hf];simp only [Option.bind_some];rw [Avb hn hq Ab hf];simp only [Option.bind_some];rw [A31 Aa hn hq Ab (Am4 n hq A) (Am4 n hq T) hf];simp only [Option.bind_some];rw [A31 Aa hn hq Ab (λi j hi hj=>Am4 n hq T j i hj hi) (Am4 n hq _) hf];rfl
theorem A5m {r c:Nat} {m:Int}:Ajt (tab r c F) m=tab r c λi j=>F i j % m:=by
 simp [Ajt,tab,Function.comp_def]
theorem A9h {n:Nat} {m:Int} (hn:n<=8) (hm:2<=m) (Ab:m<=2147483647) (hf:100 < fuel):AWa fuel (tab n n F) m=some (tab n n λi j=>F i j % m):=by
 rw [Az2 AGl Ab (by rw [ATt];omega) (by rw [ATt];omega) (λz hz=>by
  obtain ⟨i,hi⟩:=List.getElem?_of_mem hz
  have h1:=(List.getElem?_eq_some_iff.1 hi).1
  rw [ATt] at h1
  rw [ATv h1] at hi
  cases hi
  rw [AT1];omega),A5m]
theorem A32 {n:Nat} {m:Int} (Ae:1<=n) (hn:n<=8) (hm:2<=m) (Ab:m<=2147483647) (hf:100 < fuel):AXl fuel (tab n n F) (tab n n G) m=some (tab n n λi j=>psum (λk=>F i k % m * (G k j % m)) n % m):=by
 unfold AXl;rw [A9h hn hm Ab hf];simp only [Option.bind_some];rw [A9h hn hm Ab hf];simp only [Option.bind_some];rw [Ayd (n:=n) (λi=>AU9 n λj=>psum (λk=>F i k % m * (G k j % m)) n % m) AGl (λi hi=>?_) λX=>?_]
 ·rfl
 ·unfold AZo;dsimp only;rw [ATt,if_pos AGl,Al3<|ATv AGl,AT1,if_pos AGl,Int.toNat_natCast,AXs n (0:Int),A9g (n:=n) (λj=>psum (λk=>F i k % m * (G k j % m)) n % m) AGl (λj g hj hg=>?_) λX=>?_]
  ·simp only [Option.bind_some];rw [AT1,if_pos AGl,AUh AGl]
  ·unfold AZn;dsimp only;rw [AT1,Int.toNat_natCast,List.length_replicate,if_pos AGl]
   have key:iter (λs=>AZm fuel m (tab n n λi j=>F i j % m) (tab n n λi j=>G i j % m) i j s.1 s.2) fuel (0,AU9 n g)=some (AU9 n λc=>if c=j then psum (λk=>F i k % m * (G k j % m)) n % m else g c):=by
    apply ok_eq
    refine AT8 (λk s=>s=((k:Int),AU9 n λc=>if c=j then psum (λk=>F i k % m * (G k j % m)) k % m else g c)) n ?_ AGl λk s hk hI=>?_
    ·refine congrArg (λz=>((0:Int),AU9 n z))<|funext λc=>?_
     split
     ·next h=>subst h;rw [hg];show 0=0 % m;rw [Int.zero_emod]
     ·rfl
    ·subst hI
     unfold AZm
     dsimp only
     rw [ATt]
     by_cases h:k < n
     ·have b1:=Am4 n hm F i k hi h
      have b2:=Am4 n hm G k j h hj
      dsimp only at b1 b2
      have b0:=Int.mul_nonneg b1.1 b2.1
      have b3:F i k % m * (G k j % m)<=2147483646 * 2147483646:=Int.mul_le_mul AGl AGl b2.1 AGl
      have b4:=Int.emod_nonneg (F i k % m * (G k j % m)) (show m≠0 by omega)
      have b5:=Int.emod_lt_of_pos (F i k % m * (G k j % m)) (show 0 < m by omega)
      have b6:=Int.emod_nonneg (psum (λk=>F i k % m * (G k j % m)) k) (show m≠0 by omega)
      have b7:=Int.emod_lt_of_pos (psum (λk=>F i k % m * (G k j % m)) k) (show 0 < m by omega)
      rw [if_pos AGl,AU4<|ATm hj,AU4<|ATv hi,AU4<|ATm h,AU4<|ATv h,AU4<|ATm hj,if_pos AGl,if_pos AGl,if_pos rfl,AVq (x:=F i k % m * (G k j % m)) AGl AGl,Int.tmod_eq_emod_of_nonneg b0,AVq (x:=psum (λk=>F i k % m * (G k j % m)) k % m + F i k % m * (G k j % m) % m) AGl AGl,Int.tmod_eq_emod_of_nonneg AGl,A04 (f:=λk=>F i k % m * (G k j % m)),AUx,AXd,AUh AGl]
      refine AGp ⟨h,congrArg (λz=>(((k + 1:Nat):Int),AU9 n z))<|funext λc=>?_⟩
      omega
     ·obtain rfl:k=n:=by omega
      rw [if_neg AGl];exact AGp rfl
   rw [key];simp only [Option.bind_some];rw [AUh AGl]
  ·unfold AZn;dsimp only;rw [AT1,Int.toNat_natCast,List.length_replicate,if_neg AGl]
 ·unfold AZo;dsimp only;rw [ATt,if_neg AGl]
theorem A9i {n:Nat} (Aa:1<=n) (hn:n<=8) (hf:100 < fuel):AYe fuel (tab n n F)=some (tab n n λi j=>F j i):=by
 unfold AYe;rw [Al3<|ATv AGl,Ayd (n:=n) (λi=>AU9 n λj=>F j i) AGl (λi hi=>?_) λX=>?_]
 ·rfl
 ·unfold AYz;dsimp only;rw [AT1,if_pos AGl,Ayd (n:=n) (λj=>F j i) AGl (λj hj=>?_) λX=>?_]
  ·simp only [Option.bind_some];rw [AT1,if_pos AGl,AUh AGl]
  ·unfold AYy;dsimp only;rw [ATt,if_pos AGl,AU4<|ATv hj,AU4<|ATm hi,AT1,if_pos AGl,AUh AGl]
  ·unfold AYy;dsimp only;rw [ATt,if_neg AGl]
 ·unfold AYz;dsimp only;rw [AT1,if_neg AGl]
theorem Ave {n:Nat} (Ab:1<=n) (hn:n<=8):At2 (tab n n F):=by
 have hc:Agp (tab n n F)=n:=by rw [Akp<|ATv (show 0 < n by omega),AT1]
 refine ⟨⟨by rw [ATt];omega,by rw [ATt];omega,AGl,AGl,λz hz=>?_⟩,by rw [ATt,hc],by rw [ATt];omega⟩;obtain ⟨i,hi⟩:=List.getElem?_of_mem hz;have h1:=(List.getElem?_eq_some_iff.1 hi).1;rw [ATt] at h1;rw [ATv h1] at hi;cases hi;rw [AT1,hc]
theorem BCm {n:Nat} (Aa:1<=n) (hn:n<=8) (hq:2<=q) (Ab:q<=2147483647) (hf:100 < fuel):AXt fuel (tab n n A) (tab n n T) q=some (tab n n<|Avd n q A T,0):=by
 unfold AXt
 have hv:∀ F,AWf fuel (tab n n F)=some true:=λF=>by
  rw [A3f AGl]
  exact congrArg some<|decide_eq_true (Ave Aa hn).1
 have h1:As3 q=true:=by unfold As3;grind
 rw [hv,hv];simp only [Option.bind_some];rw [if_neg AGn,Al3<|ATv AGl,AT1,ATt,ATt,if_neg AGn,if_neg λh=>h rfl,if_neg λh=>h rfl];simp only [Option.bind_some];rw [Awu,h1];simp only [Option.bind_some];rw [if_neg AGn,A9i Aa hn hf];simp only [Option.bind_some];rw [A32 Aa hn hq Ab hf];simp only [Option.bind_some];rw [A32 Aa hn hq Ab hf];simp only [Option.bind_some,Int.emod_emod];rfl
theorem BFj {n:Nat} (Ab:1<=n) (hn:n<=8) (hp:2<=p) (Ad:p<=2147483647) (hf:100 < fuel):AZy fuel (tab n n T) p=some (det n T % p,0):=by
 have hs:=Ave (F:=T) Ab hn;rw [A8s AGl ⟨by rw [ATt];omega,λz hz=>by have h2:=hs.1.2.2.2.2 z hz;have:=hs.1.2.2.2.1;omega⟩];have h1:Aip (tab n n T)=true:=decide_eq_true hs;have h2:As3 p=true:=by unfold As3;grind
 unfold BEo BEp;rw [h1,h2,ATt];refine congrArg (λz=>some (z,(0:Int))) ?_;exact Apt λi j hi hj=>by rw [BAi hi hj];rfl
theorem BCn {n:Nat} (hn:n<=8) (hf:100 < fuel):Ok (Aau fuel (tab n n F)<|tab n n G) λb=>b=true↔ ∀ i,i < n-> ∀ j,j < n->F i j=G i j:=by
 unfold Aau;rw [ATt,ATt,if_neg λh=>h rfl];refine AGw (Ajm (n:=n) (λi=> ∀ j,j < n->F i j=G i j) false AGl (λi hi=>?_) ?_) λex hex=>?_
 ·unfold Aa3;rw [ATt,if_pos AGl,AU4<|ATv hi,AU4<|ATv hi,AT1,AT1,if_neg λh=>h rfl];refine AGw (Ajm (n:=n) (λj=>F i j=G i j) false AGl (λj hj=>?_) ?_) λex hex=>?_
  ·unfold Aa2;rw [AT1,if_pos AGl,AU4<|ATv hi,AU4<|ATm hj,AU4<|ATv hi,AU4<|ATm hj];exact ATj (λh=>AGp<|.inr ⟨rfl,h⟩) λh=>AGp<|.inl ⟨by rw [AUh AGl],Decidable.not_not.1 h⟩
  ·unfold Aa2;rw [AT1,if_neg AGl]
  ·rcases hex with ⟨rfl,h⟩ | ⟨rfl,h⟩
   ·exact AGp<|.inl ⟨by rw [AUh AGl],h⟩
   ·exact AGp<|.inr ⟨rfl,h⟩
 ·unfold Aa3;rw [ATt,if_neg AGl]
 ·rcases hex with ⟨rfl,h⟩ | ⟨rfl,h⟩
  ·exact AGp ⟨λ_=>h,λ_=>rfl⟩
  ·exact AGp ⟨λe=>(nomatch e),λe=>absurd e h⟩
def Rng (n:Nat) (q:Int) (T:AS9):Prop:= ∀ i,i < n-> ∀ j,j < n->0<=T i j/\T i j < q
theorem BFk {n:Nat} (hn:n<=8) (hf:100 < fuel):Ok (iter (λs=>AYf fuel (tab n n T) q s) fuel 0) λex=>(ex= .inr ()/\Rng n q T)∨(ex= .inl false/\¬ Rng n q T):=by
 refine Ajm (n:=n) (λi=> ∀ j,j < n->0<=T i j/\T i j < q) false AGl (λi hi=>?_) ?_
 ·unfold AYf;rw [ATt,if_pos AGl,AU4<|ATv hi];refine AGw (Ajm (n:=n) (λj=>0<=T i j/\T i j < q) false AGl (λj hj=>?_) ?_) λex hex=>?_
  ·unfold AZ8;rw [AT1,if_pos AGl,AU4<|ATm hj];exact ATj (λh=>AGp<|.inr ⟨rfl,AGl⟩) λh=>ATj (λh2=>AGp<|.inr ⟨rfl,AGl⟩) λh2=>AGp<|.inl ⟨by rw [AUh AGl],AGl⟩
  ·unfold AZ8;rw [AT1,if_neg AGl]
  ·rcases hex with ⟨rfl,h⟩ | ⟨rfl,h⟩
   ·exact AGp<|.inl ⟨by rw [AUh AGl],h⟩
   ·exact AGp<|.inr ⟨rfl,h⟩
 ·unfold AYf;rw [ATt,if_neg AGl]
theorem AWz (hp:1<=p) {b:Nat} (h:a<=b):p ^ a<=p ^ b:=by
 obtain ⟨c,rfl⟩:∃ c,b=a + c:=⟨b - a,AGl⟩;rw [Int.pow_add];have h1:0 < p ^ a:=Int.pow_pos AGl;have h2:0 < p ^ c:=Int.pow_pos AGl;have:=Int.mul_le_mul_of_nonneg_left (show 1<=p ^ c by omega)<|Int.le_of_lt h1;omega
theorem Arr (hp:2<=p) (h:p ^ k<=2147483647):k<=30:=by
 rcases Nat.lt_or_ge 30 k with h1 | h1
 ·exfalso;have h2:=AWz (p:=p) AGl (show 31<=k by omega);have h3:(2:Int) ^ 31<=p ^ 31:=Afw AGl hp 31;omega
 ·exact h1
theorem A2a (hp:2<=p) (h:p ^ k<=2147483647) (hf:100 < fuel):AW8 fuel p k=some (p ^ k):=by
 have hk:=Arr hp h;apply ok_eq;unfold AW8;refine AGw (AT8 (λi s=>s=(p ^ i,(i:Int))/\i<=k) k (Q:=(· =p ^ k)) ⟨AT7,AGl⟩ AGl λi s hi hI=>?_) λe he=>AGp he;obtain ⟨rfl,hik⟩:=hI;unfold Aef;dsimp only;refine ATj (λh2=>AGp ⟨AGl,?_,AGl⟩) λh2=>AGp ?_
 ·have h3:=AWz (p:=p) AGl (show i + 1<=k by omega);have h4:0 < p ^ (i + 1):=Int.pow_pos AGl;rw [show p ^ i * p=p ^ (i + 1) from (Int.pow_succ p i).symm,wk AGl,AUh AGl]
 grind
def Avt (F:AS9) (r c:Nat) (x:Int):AS9:=AUw F r λq=>if q=c then x else F r q
theorem Am5 (F:AS9) (r c:Nat) (x:Int) (i j:Nat):Avt F r c x i j=if i=r/\j=c then x else F i j:=by
 unfold Avt;rw [AUb];grind
theorem Al4 {n r c:Nat}:sI (tab n n F) (r:Int) (sI (AU9 n<|F r) (c:Int) x)=tab n n (Avt F r c x):=Aqm
def A9j (F:AS9) (r:Nat) (a b c:Int):AS9:=Avt (Avt (Avt (Avt F r r a) r (r + 1) b) (r + 1) r b) (r + 1) (r + 1) c
def Am6 (p:Int):List AWq->Nat->(AS9)->(AS9)
 | [],_,F=>F
 | b :: l,r,F=>if b.2.1=2 then Am6 p l (r + 2) (A9j F r (p ^ b.1.toNat * b.2.2.1) (p ^ b.1.toNat * b.2.2.2.1)<|p ^ b.1.toNat * b.2.2.2.2) else Am6 p l (r + 1)<|Avt F r r<|p ^ b.1.toNat * b.2.2.1
def Ack:List AWq->Nat
 | []=>0
 | b :: l=>b.2.1.toNat + Ack l
def BOk (p:Int) (k:Nat) (b:AWq):Prop:= ∃ e:Nat,b.1=e/\e<=k/\(0<=b.2.2.1/\b.2.2.1 < p ^ (k - e))/\(b.2.1=1∨b.2.1=2/\(0<=b.2.2.2.1/\b.2.2.2.1 < p ^ (k - e))/\0<=b.2.2.2.2/\b.2.2.2.2 < p ^ (k - e))
theorem Ato {a:Int} {e:Nat} (hp:2<=p) (hek:e<=k) (hq:p ^ k<=2147483647) (h:0<=a/\a < p ^ (k - e)):Int.tmod (w64<|p ^ e * a) (p ^ k)=p ^ e * a/\0<=p ^ e * a/\p ^ e * a < p ^ k:=by
 have h1:0 < p ^ e:=Int.pow_pos AGl;have h2:p ^ e * a < p ^ e * p ^ (k - e):=Int.mul_lt_mul_of_pos_left h.2 h1;rw [<- Int.pow_add,show e + (k - e)=k by omega] at h2;have h3:=Int.mul_nonneg (Int.le_of_lt h1) h.1;rw [wk AGl,Int.tmod_eq_emod_of_nonneg h3,Int.emod_eq_of_lt h3 h2];omega
theorem BFl {n:Nat} {L:List AWq} (hn:n<=8) (hp:2<=p) (hq:p ^ k<=2147483647) (hL:∀ b∈L,BOk p k b) (hs:Ack L=n) (hll:L.length<=n) (hf:100 < fuel):AZr fuel L n p (p ^ k)=some (tab n n<|Am6 p L 0 λ_ _=>0):=by
 have Af:0 < p ^ k:=Int.pow_pos AGl;unfold AZr;rw [if_pos AGl,Int.toNat_natCast,Apd (n:=n) (λ_ _=>0) AGl (λi hi=>?_) λX=>?_]
 ·simp only [Option.bind_some];apply ok_eq;refine AGw (AT8 (λi s=> ∃ (r:Nat) (F:AS9),s=((r:Int),(i:Int),tab n n F)/\r + Ack (L.drop i)=n/\Am6 p (L.drop i) r F=Am6 p L 0 λ_ _=>0) L.length (Q:=(· =tab n n (Am6 p L 0 λ_ _=>0))) ⟨0,λ_ _=>0,rfl,by simpa using hs,rfl⟩ AGl λi s hi hI=>?_) λe he=>AGp he;obtain ⟨r,F,rfl,hr,hb⟩:=hI;unfold Adv;dsimp only;by_cases h:i < L.length
  ·obtain ⟨b,hbi⟩:∃ b,L[i]? =some b:=⟨L[i],List.getElem?_eq_getElem h⟩
   have hdr:L.drop i=b :: L.drop (i + 1):=by
    rw [List.drop_eq_getElem_cons h]
    grind
   rw [hdr] at hr hb;obtain ⟨e,he,hek,hA,hsz⟩:=hL b<|List.mem_of_getElem? hbi;have hpe:p ^ e<=2147483647:=Int.le_trans (AWz AGl hek) hq;have heN:b.1.toNat=e:=by omega
   have e1:=Ato hp hek hq hA;unfold Ack at hr;rw [Am6] at hb;rw [heN] at hb;rw [if_pos AGl,AU4 hbi,he,A2a hp hpe hf];simp only [Option.bind_some];have Aa:r < n:=by omega
   rw [AU4<|ATv Aa,if_pos AGl,AU4<|ATm Aa,e1.1,Al4];rcases hsz with hz | ⟨hz,hB,hC⟩
   ·rw [if_neg AGl];simp only [Option.bind_some];rw [if_neg AGl] at hb;refine AGp ⟨h,r + 1,_,?_,AGl,hb⟩;rw [hz,AUh AGl,AUh AGl]
   ·have Ab:r + 1 < n:=by omega
    have e2:=Ato hp hek hq hB;have e3:=Ato hp hek hq hC;rw [if_pos hz,AU4<|ATv Aa,if_pos AGl,AUh AGl,AU4<|ATm Ab,e2.1,Al4,AU4<|ATv Ab,if_pos AGl,AU4<|ATm Aa,Al4,AU4<|ATv Ab,if_pos AGl,AU4<|ATm Ab,e3.1,Al4];simp only [Option.bind_some];rw [if_pos hz] at hb;refine AGp ⟨h,r + 2,_,?_,AGl,hb⟩;rw [hz,AVq (x:=(r:Int) + 2) AGl AGl,AUh AGl];rfl
  ·obtain rfl:i=L.length:=by omega
   rw [if_neg AGl];rw [List.drop_length] at hb;exact AGp (by rw [<- hb];rfl)
 ·unfold AZ7;dsimp only;rw [Int.toNat_natCast,List.length_replicate,if_pos AGl,if_pos AGl,AU4<|Ah3 hi,AUx,AXs n (0:Int),Aga,Apc λc _=>rfl,AUh AGl]
 ·unfold AZ7;grind
def Aqs (p:Int) (k:Nat) (b:AWq):Prop:=(0<=b.1/\b.1<=if p=2 then (k:Int) - 3 else (k:Int) - 1)/\
 if b.2.1=1 then (0 < b.2.2.1/\b.2.2.1 < p ^ (k - b.1.toNat))/\¬ p ∣ b.2.2.1/\b.2.2.2.1=0/\b.2.2.2.2=0
 else ((0<=b.2.2.1/\b.2.2.1 < p ^ (k - b.1.toNat))/\(0<=b.2.2.2.1/\b.2.2.2.1 < p ^ (k - b.1.toNat))/\0<=b.2.2.2.2/\b.2.2.2.2 < p ^ (k - b.1.toNat))/\b.2.2.1 % 2=0/\b.2.2.2.1 % 2=1/\b.2.2.2.2 % 2=0
theorem tm2 (h:0<=x):Int.tmod x 2=x % 2:=Int.tmod_eq_emod_of_nonneg h
theorem A9k {b:AWq} (hp:2<=p) (hq:p ^ k<=2147483647) (hk:1<=k) (Aj:p=2->3<=k) (hf:100 < fuel):Ok (AZq fuel b.1 b.2.1 b.2.2.1 b.2.2.2.1 b.2.2.2.2 p k) λr=>r=true↔Aqs p k b:=by
 have Ak:=Arr hp hq;obtain ⟨e,s,x,y,z⟩:=b;unfold AZq Aqs;dsimp only;refine AGw (Q:=(· =if p=2 then (k:Int) - 3 else (k:Int) - 1)) (ATj (λh=>AGp ?_) λh=>AGp ?_) λtop ht=>?_
 ·rw [if_pos h,wk AGl]
 ·rw [if_neg h,wk AGl]
 subst ht;have htop:(if p=2 then (k:Int) - 3 else (k:Int) - 1)<=k - 1:=by split <;> omega
 refine AGw (Q:=λex=>(ex= .inr ()/\0<=e/\e<=if p=2 then (k:Int) - 3 else (k:Int) - 1)∨(ex= .inl false/\¬ (0<=e/\e<=if p=2 then (k:Int) - 3 else (k:Int) - 1))) (ATj (λh=>AGp<|.inr ⟨rfl,AGl⟩) λh=>ATj (λh2=>AGp<|.inr ⟨rfl,AGl⟩) λh2=>AGp<|.inl ⟨rfl,AGl,AGl⟩) λex hex=>?_;rcases hex with ⟨rfl,h1,h2⟩ | ⟨rfl,h⟩
 ·obtain ⟨e,rfl⟩:∃ e':Nat,e=e':=⟨e.toNat,AGl⟩;have hek:e<=k:=by omega
  have hpk:p ^ (k - e)<=2147483647:=Int.le_trans (AWz AGl AGl) hq;dsimp only;rw [wk AGl,show (k:Int) - (e:Int)=((k - e:Nat):Int) by omega,Int.toNat_natCast];refine AGw (AUa<|A2a hp hpk hf) λm hm=>?_;subst hm;refine ATj (λh3=>?_) λh3=>?_
  ·rw [if_pos h3];refine ATj (λh4=>ATj (λh5=>AVc AGl<|ATj (λh6=>ATj (λh7=>AGp ?_) λh7=>AGp ?_) λh6=>AGp ?_) λh5=>AGp ?_) λh4=>AGp ?_
   ·rw [decide_eq_true_eq];exact ⟨λh8=>⟨⟨h1,h2⟩,⟨h4,h5⟩,λh9=>h6<|Int.tmod_eq_zero_of_dvd h9,h7,h8⟩,λh8=>h8.2.2.2.2⟩
   ·grind
   ·exact ⟨λh=>(nomatch h),λh=>absurd (Int.dvd_of_tmod_eq_zero<|Decidable.not_not.1 h6) h.2.2.1⟩
   ·grind
   grind
  ·rw [if_neg h3];refine ATj (λh4=>ATj (λh5=>ATj (λh6=>ATj (λh7=>ATj (λh8=>ATj (λh9=>?_) λh9=>AGp ?_) λh8=>AGp ?_) λh7=>AGp ?_) λh6=>AGp ?_) λh5=>AGp ?_) λh4=>AGp ?_
   ·rw [tm2 h4,tm2 h6,tm2 h8];refine ATj (λha=>ATj (λhb=>AGp ?_) λhb=>AGp ?_) λha=>AGp ?_
    ·grind
    ·grind
    grind
   ·grind
   ·grind
   ·grind
   ·grind
   ·grind
   grind
 ·exact AGp ⟨λh=>(nomatch h),λh2=>absurd h2.1 h⟩
theorem Asp {b:AWq} (hk:1<=k) (hs:b.2.1=1∨b.2.1=2) (h:Aqs p k b):BOk p k b:=by
 obtain ⟨e,s,x,y,z⟩:=b;obtain ⟨⟨h1,h2⟩,h3⟩:=h;dsimp only at h1 h2 h3 hs;obtain ⟨e,rfl⟩:∃ e':Nat,e=e':=⟨e.toNat,AGl⟩;rw [Int.toNat_natCast] at h3;refine ⟨e,rfl,?_,?_⟩
 ·omega
 grind
def Asc (L:List AWq) (i:Nat):Prop:=0 < i-> ∀ b c,L[i]? =some b->L[i - 1]? =some c->c.1<=b.1
def RG (p:Int) (k:Nat) (L:List AWq) (i:Nat):Prop:=(∀ b,L[i]? =some b->Aqs p k b)/\Asc L i
def RC (n k:Nat) (p:Int) (A T:AS9) (L:List AWq):Prop:=(∀ i,i < L.length->RG p k L i)/\Rng n (p ^ k) T/\det n T % p≠0/\ ∀ i,i < n-> ∀ j,j < n->Avd n (p ^ k) A T i j=Am6 p L 0 (λ_ _=>0) i j
theorem A5n {n:Nat} {L:List AWq} (Ab:1<=n) (hn:n<=8) (hdig:AX6 fuel (tab n n A) p=some (k:Int)) (hp:2<=p) (hq:p ^ k<=2147483647) (hk:1<=k) (Ac:p=2->3<=k) (hsz:∀ b∈L,b.2.1=1∨b.2.1=2) (hs:Ack L=n) (hl:L.length<=n) (Ad:p<=2147483647) (hf:100 < fuel):
 Ok (AZs fuel (tab n n A) p (tab n n T) L) λb=>b=true↔RC n k p A T L:=by
 have Ae:2<=p ^ k:=by
  have:=AWz (p:=p) AGl hk
  grind
 unfold AZs RC;refine AGw (AUa hdig) λx hx=>?_;subst hx;refine AGw (AUa<|A2a hp hq hf) λq hqq=>?_;subst hqq;refine AGw (Ajm (n:=L.length) (RG p k L) false AGl (λi hi=>?_) ?_) λex hex=>?_
 ·obtain ⟨b,hb⟩:∃ b,L[i]? =some b:=⟨L[i],List.getElem?_eq_getElem hi⟩;unfold AZ9;rw [if_pos AGl,AU4 hb];refine AGw (A9k (b:=b) hp hq hk Ac hf) λr hr=>ATj (λh=>AGp<|.inr ⟨rfl,λhg=>?_⟩) λh=>?_
  ·have:=hr.2<|hg.1 b hb;grind
  ·have hpb:Aqs p k b:=hr.1 (by grind);have hP:∀ c,L[i]? =some c->Aqs p k c:=λc hc=>by grind
   refine ATj (λh0=>?_) λh0=>AGp<|.inl ⟨by rw [AUh AGl],hP,λh1=>by omega⟩;have Ag:i - 1 < L.length:=by omega
   obtain ⟨c,hc⟩:∃ c,L[i - 1]? =some c:=⟨L[i - 1],List.getElem?_eq_getElem Ag⟩;refine ATy hc (by rw [wk AGl];omega)<|ATj (λh2=>AGp<|.inr ⟨rfl,λhg=>?_⟩) λh2=>AGp<|.inl ⟨by rw [AUh AGl],hP,λh3 b' c' hb' hc'=>?_⟩
   ·have:=hg.2 AGl b c hb hc;omega
   grind
 ·unfold AZ9;grind
 rcases hex with ⟨rfl,hG⟩ | ⟨rfl,hG⟩
 ·refine AGw (BFk hn hf) λex hex=>?_;rcases hex with ⟨rfl,hR⟩ | ⟨rfl,hR⟩
  ·refine AGw (AUa<|BFj Ab hn hp Ad hf) λd hd=>?_;subst hd;refine AGw (AUa<|BCm Ab hn Ae hq hf) λg hg=>?_;subst hg;dsimp only;refine ATj (λh=>?_) λh=>AGp ⟨λh2=>(nomatch h2),λh2=>absurd h2.2.2.1 h⟩;rw [ATt];refine AGw (AUa<|BFl hn hp hq (λb hb=>?_) hs hl hf) λg hg=>?_
   ·obtain ⟨i,hi⟩:=List.getElem?_of_mem hb;exact Asp hk (hsz b hb)<|(hG i (List.getElem?_eq_some_iff.1 hi).1).1 b hi
   ·subst hg;exact AGw (BCn hn hf) λr hr=>AGp ⟨λh2=>⟨hG,hR,h,hr.1 h2⟩,λh2=>hr.2 h2.2.2.2⟩
  ·exact AGp ⟨λh=>(nomatch h),λh=>absurd h.2.1 hR⟩
 ·exact AGp ⟨λh=>(nomatch h),λh=>absurd h.1 hG⟩
theorem A5o {n:Nat} (hq:2<=q) (i j:Nat):0<=Avd n q A T i j/\Avd n q A T i j < q:=⟨Int.emod_nonneg _ AGl,Int.emod_lt_of_pos _ AGl⟩
end Go.Proofs.YtkakafabeobahaaGreatDoor
namespace Go.Proofs.YtkakafabeobahaaGreatDoor
open Go Go.QF
structure Eli (n K:Nat) (p:Int) (H T G:AS9):Prop where
 c:Car n K p H T G
 d:Eqm (p ^ K) (det n T * det n T) 1
theorem Ars {n:Nat} {m:Int} {A' B B':AS9} (hA:∀ k,k < n->Eqm m (A i k) (A' i k)) (hB:∀ k,k < n->Eqm m (B k j) (B' k j)):Eqm m (AV3 n A B i j) (AV3 n A' B' i j):=Eqm.psum λk hk=>(hA k hk).mul (hB k hk)
theorem Eli.step {n:Nat} {E T':AS9} (S:Eli n K p H T G) (hE:det n E * det n E=1) (hT:∀ i j,i < n->j < n->Eqm (p ^ K) (T' i j) (AV3 n T E i j)) (hG:∀ i j,i < n->j < n->Eqm (p ^ K) (G' i j) (AV3 n (trF E) (AV3 n G E) i j)):Eli n K p H T' G':=by
 refine ⟨λi j hi hj=>?_,?_⟩
 ·have h1:Eqm (p ^ K) (AV3 n (trF T') (AV3 n H T') i j) (AV3 n (trF<|AV3 n T E) (AV3 n H<|AV3 n T E) i j):=Ars (λk hk=>hT k i hk hi) λk hk=>Ars (λl hl=>Eqm.refl _ _) λl hl=>hT l j hl hj;refine h1.trans<|Eqm.trans (Eqm.of_eq ?_)<|(Ars (λk hk=>Eqm.refl _ _) λk hk=>Ars (λl hl=>S.c k l hk hl) λl hl=>Eqm.refl _ _).trans (hG i j hi hj).symm;rw [Ah8 (λk hk=>Atn i k) λk hk=>rfl,Ah7];refine Ah8 (λ_ _=>rfl) λk hk=>?_;rw [Ah7];refine Ah8 (λ_ _=>rfl) λl hl=>?_;rw [Ah7]
 ·have h1:Eqm (p ^ K) (det n T') (det n T * det n E):=by rw [<- Anx];exact Apt hT
  refine (h1.mul h1).trans (Eqm.trans (Eqm.of_eq ?_) S.d);grind
theorem BFm {n:Nat} (hG:∀ i j,i < n->j < n->Eqm (p ^ K) (G i j) (H i j)):Eli n K p H dl G:=by
 refine ⟨λi j hi hj=>?_,by rw [Ar8];exact Eqm.refl _ _⟩
 ·refine Eqm.trans (Eqm.of_eq ?_) (hG i j hi hj).symm;exact (A3t (n:=n) (A:=H) i j hi hj).symm
def A2b (j k:Nat) (c:Int):AS9:=AUw dl k λx=>dl k x + c * dl j x
theorem A9l (j k:Nat) (c:Int) (a b:Nat):A2b j k c a b=dl a b + (if a=k then c * dl j b else 0):=by
 unfold A2b;rw [AUb];grind
theorem A9m {n:Nat} {c:Int} (hj:j < n) (hk:k < n) (hne:k≠j):det n (A2b j k c) * det n (A2b j k c)=1:=by
 unfold A2b;rw [Afg hk hj hne,Ar8];rfl
theorem Art {n:Nat} {c:Int} {b:Nat} (hk:k < n) (hb:b < n):AV3 n T (A2b j k c) a b=T a b + (if b=j then c * T a k else 0):=by
 unfold AV3
 rw [AUi (g:=λl=>T a l * dl l b + (if l=k then T a k * (c * dl j b) else 0)) λl _=>by
  rw [A9l];grind,Agz,A1q hb,Aji hk λl _ hne=>if_neg hne,if_pos rfl]
 unfold dl;grind
theorem BCo {n:Nat} {c:Int} {M:AS9} {b:Nat} (hk:k < n) (ha:a < n):AV3 n (trF<|A2b j k c) M a b=M a b + (if a=j then c * M k b else 0):=by
 have:=Art (T:=trF M) (j:=j) (c:=c) (a:=b) hk ha;rw [<- show trF (trF M)=M from rfl,<- Atn];exact this
theorem Eli.add {n:Nat} {T':AS9} {c:Int} (S:Eli n K p H T G) (hj:j < n) (hk:k < n) (hne:k≠j) (hT:∀ a b,a < n->b < n->Eqm (p ^ K) (T' a b) (T a b + if b=j then c * T a k else 0)) (hG:∀ a b,a < n->b < n->Eqm (p ^ K) (G' a b) (G a b + (if b=j then c * G a k else 0) + if a=j then c * (G k b + if b=j then c * G k k else 0) else 0)):Eli n K p H T' G':=
 S.step (A9m hj hk hne) (λa b ha hb=>by rw [Art hk hb];exact hT a b ha hb) λa b ha hb=>by
  rw [BCo hk ha,Art hk hb,Art hk hb]
  grind
def sw2 (i j a:Nat):Nat:=if a=j then i else if a=i then j else a
theorem Aqt {n:Nat} (hi:i < n) (hj:j < n) (ha:a < n):sw2 i j a < n:=by
 unfold sw2;grind
theorem A33 (i j a:Nat):sw2 i j (sw2 i j a)=a:=by
 unfold sw2;grind
theorem Aye (i j a b:Nat):AXx dl i j a b=dl (sw2 i j a) b:=by
 rw [Adx];unfold sw2;grind
theorem BCp {n:Nat} (hi:i < n) (hj:j < n):det n (AXx dl i j) * det n (AXx dl i j)=1:=by
 by_cases h:i=j
 ·subst h
  rw [AU6 (G:=dl) λa b _ _=>by
   rw [Aye];unfold sw2;grind,Ar8];rfl
 ·rw [Ajw hi hj h,Ar8];rfl
theorem Ayf {n:Nat} {b:Nat} (hi:i < n) (hj:j < n) (hb:b < n):AV3 n T (AXx dl i j) a b=T a (sw2 i j b):=by
 unfold AV3;rw [Aji (Aqt hi hj hb) λk _ hne=>?_]
 ·rw [Aye,A33];unfold dl;grind
 ·rw [Aye];unfold dl;rw [if_neg λh=>hne<|by rw [<- h,A33]];simp
theorem BFn {n:Nat} {M:AS9} {b:Nat} (hi:i < n) (hj:j < n) (ha:a < n):AV3 n (trF<|AXx dl i j) M a b=M (sw2 i j a) b:=by
 have:=Ayf (T:=trF M) (a:=b) hi hj ha;rw [<- show trF (trF M)=M from rfl,<- Atn];exact this
theorem Eli.swap {n:Nat} {T':AS9} (S:Eli n K p H T G) (hi:i < n) (hj:j < n) (hT:∀ a b,a < n->b < n->T' a b=T a (sw2 i j b)) (hG:∀ a b,a < n->b < n->G' a b=G (sw2 i j a) (sw2 i j b)):Eli n K p H T' G':=
 S.step (BCp hi hj) (λa b ha hb=>by rw [Ayf hi hj hb,hT a b ha hb];exact Eqm.refl _ _) λa b ha hb=>by
  rw [BFn hi hj ha,Ayf hi hj hb,hG a b ha hb];exact Eqm.refl _ _
theorem Eli.sym {n:Nat} (S:Eli n K p H T G) (hs:∀ i j,i < n->j < n->H i j=H j i) (hG:Asn n (p ^ K) G) (hi:i < n) (hj:j < n):G i j=G j i:=by
 refine Awe ?_ (hG i j hi hj)<|hG j i hj hi;refine (S.c i j hi hj).symm.trans (Eqm.trans (Eqm.of_eq ?_)<|S.c j i hj hi);show psum (λa=>T a i * psum (λb=>H a b * T b j) n) n=psum (λa=>T a j * psum (λb=>H a b * T b i) n) n;rw [AUi (g:=λa=>psum (λb=>T a i * (H a b * T b j)) n) λa _=>(AZb _ _ _).symm,Ar7,AUi (f:=λa=>T a j * psum (λb=>H a b * T b i) n) (g:=λa=>psum (λb=>T a j * (H a b * T b i)) n) λa _=>(AZb _ _ _).symm];refine AUi λa ha=>AUi λb hb=>?_;grind
theorem Eli.det {n K:Nat} {p:Int} {H T G:AS9} (S:Eli n K p H T G):Eqm (p ^ K) (QF.det n G) (QF.det n H):=by
 have h1:Eqm (p ^ K) (QF.det n G) (QF.det n<|AV3 n (trF T)<|AV3 n H T):=Apt λi j hi hj=>(S.c i j hi hj).symm;refine h1.trans ?_;rw [Anx,Anx,Aj9];refine Eqm.trans (Eqm.of_eq<|show QF.det n T * (QF.det n H * QF.det n T)=QF.det n H * (QF.det n T * QF.det n T) by grind) ?_;have:=(Eqm.refl (p ^ K)<|QF.det n H).mul S.d;grind
theorem Eli.some {n:Nat} (S:Eli n K p H T G) (hd: ¬ p ^ K ∣ QF.det n H) (hk:k < n) (hz:∀ j,j < k->G k j=0):∃ j,k<=j/\j < n/\G k j≠0:=by
 refine Classical.byContradiction λhn=>hd ?_
 have h0:QF.det n G=0:=Anw hk λj hj=>Classical.byContradiction λh=>hn ⟨j,by
  grind,hj,h⟩
 have:=S.det;rw [h0] at this;exact Ax9.1 this.symm
theorem Eli.unit {n:Nat} (S:Eli n K p H T G) (hp:2<=p) (hK:1<=K):QF.det n T % p≠0:=λh=>by
 have h1:Eqm p (QF.det n T * QF.det n T) 1:=S.d.down ⟨p ^ (K - 1),by rw [<- Int.pow_succ'];congr 1;omega⟩
 have h2:p ∣ (1:Int):=Ax8 h1.symm (Int.dvd_refl p)<|Int.dvd_trans (Int.dvd_of_emod_eq_zero h) ⟨_,rfl⟩
 have:=Int.le_of_dvd AGn h2
 omega
theorem Eli.cong {n:Nat} (S:Eli n K p H T G) (hG:Asn n (p ^ K) G) (hq:2<=p ^ K) (hi:i < n) (hj:j < n):Avd n (p ^ K) H T i j=G i j:=by
 refine Awe ?_ (A5o hq i j)<|hG i j hi hj;refine Eqm.trans ?_<|S.c i j hi hj;unfold Avd;refine (Eqm.mod _ _).trans (Eqm.psum λk hk=>(Eqm.mod _ _).mul ((Eqm.mod _ _).trans (Eqm.psum λl hl=>(Eqm.mod _ _).mul (Eqm.mod _ _))))
def Aqu (q:Int) (j l:Nat) (c:Int) (T:AS9):AS9:=λa b=>if b=j then (T a j + c * T a l) % q else T a b
def A9n (q:Int) (j l:Nat) (c:Int) (G:AS9):AS9:=λa b=>if a=j then (G j b + c * G l b) % q else G a b
def Avf (q:Int) (j l:Nat) (c:Int) (G:AS9):AS9:=A9n q j l c<|Aqu q j l c G
def swC (i j:Nat) (T:AS9):AS9:=λa b=>T a<|sw2 i j b
def swG (i j:Nat) (G:AS9):AS9:=λa b=>G (sw2 i j a)<|sw2 i j b
theorem Ag7 (q:Int) (j l:Nat) (c:Int) (G:AS9) (a b:Nat):Avf q j l c G a b=if a=j then (if b=j then ((G j j + c * G j l) % q + c * ((G l j + c * G l l) % q)) % q else (G j b + c * G l b) % q) else if b=j then (G a j + c * G a l) % q else G a b:=by
 unfold Avf A9n Aqu;grind
theorem A34 (hq:d ∣ q) (hx:d ∣ x):d ∣ x % q:=by
 rw [Int.emod_def];exact Int.dvd_sub hx<|Int.dvd_trans hq ⟨_,rfl⟩
theorem Atp (hq:0 < q) (x:Int):0<=x % q/\x % q < q:=⟨Int.emod_nonneg _ AGl,Int.emod_lt_of_pos _ hq⟩
theorem Aw1 {n:Nat} {c:Int} (hq:0 < q) (h:Asn n q T):Asn n q (Aqu q j l c T):=λa b ha hb=>by
 unfold Aqu;split
 ·exact Atp hq _
 ·exact h a b ha hb
theorem A5p {n:Nat} {c:Int} (hq:0 < q) (h:Asn n q G):Asn n q (Avf q j l c G):=λa b ha hb=>by
 unfold Avf A9n;split
 ·exact Atp hq _
 ·exact Aw1 hq h a b ha hb
theorem A2c (hi:k<=i) (hj:k<=j) (ha:k<=a):k<=sw2 i j a:=by
 unfold sw2;grind
theorem Ayg (hi:a≠i) (hj:a≠j):sw2 i j a=a:=by unfold sw2;grind
def As8 (L:List AWq):Prop:= ∀ b∈L,b.2.1=1∨b.2.1=2
theorem Am7 (c:AWq) (L:List AWq):Ack (c :: L)=c.2.1.toNat + Ack L:=rfl
theorem Asq (p:Int) (c:AWq) (L:List AWq) (r:Nat) (F:AS9):Am6 p (c :: L) r F=if c.2.1=2 then Am6 p L (r + 2) (A9j F r (p ^ c.1.toNat * c.2.2.1) (p ^ c.1.toNat * c.2.2.2.1)<|p ^ c.1.toNat * c.2.2.2.2) else Am6 p L (r + 1) (Avt F r r<|p ^ c.1.toNat * c.2.2.1):=rfl
theorem Aru {p:Int} {b:AWq}:∀ {L:List AWq} {r:Nat} {F:AS9},As8 L->Am6 p (L ++ [b]) r F=Am6 p [b] (r + Ack L) (Am6 p L r F)
 | [],r,F,_=>rfl
 | c :: L,r,F,h=>by
   have h1:As8 L:=λx hx=>h x<|List.mem_cons_of_mem _ hx
   rw [List.cons_append,Asq p c<|L ++ [b],Asq p c L,Am7]
   rcases h c AT7 with hc | hc
   ·rw [if_neg AGl,if_neg AGl,Aru h1,show r + 1 + Ack L=r + (c.2.1.toNat + Ack L) by omega]
   ·rw [if_pos hc,if_pos hc,Aru h1,show r + 2 + Ack L=r + (c.2.1.toNat + Ack L) by omega]
theorem A0p (F:AS9) (r:Nat) (a b c:Int) (i j:Nat):A9j F r a b c i j=if i=r/\j=r then a else if i=r/\j=r + 1 then b else if i=r + 1/\j=r then b else if i=r + 1/\j=r + 1 then c else F i j:=by
 unfold A9j;rw [Am5,Am5,Am5,Am5];grind
theorem Avg {p:Int} {i j:Nat}:∀ {L:List AWq} {r:Nat} {F:AS9},As8 L->(r + Ack L<=i∨r + Ack L<=j)->Am6 p L r F i j=F i j
 | [],r,F,_,_=>rfl
 | c :: L,r,F,h,ho=>by
   have h1:As8 L:=λx hx=>h x<|List.mem_cons_of_mem _ hx
   rw [Am7] at ho
   rw [Asq]
   rcases h c AT7 with hc | hc
   ·rw [if_neg AGl,Avg h1 AGl,Am5,if_neg AGl]
   ·rw [if_pos hc,Avg h1 AGl,A0p,if_neg AGl,if_neg AGl,if_neg AGl,if_neg AGl]
theorem A9o {L:List AWq} {b:AWq}:Ack (L ++ [b])=Ack L + b.2.1.toNat:=by
 induction L with
 | nil=>simp [Ack]
 | cons c L ih=>rw [List.cons_append,Am7,Am7,ih];omega
abbrev bm (L:List AWq):AS9:=Am6 2 L 0 λ_ _=>0
structure DS (n K:Nat) (H T G:AS9) (L:List AWq) (k E:Nat):Prop where
 rt:Asn n (2 ^ K) T
 rg:Asn n (2 ^ K) G
 e:Eli n K 2 H T G
 z:∀ i j,i < k->k<=j->j < n->G i j=0
 w:∀ i j,i < k->j < k->G i j=bm L i j
 fl:∀ i j,k<=i->i < n->k<=j->j < n->(2:Int) ^ E ∣ G i j
section
variable {n K k E:Nat} {H T G:AS9} {L:List AWq}
theorem DS.add {j l:Nat} {c:Int} (S:DS n K H T G L k E) (hE:E<=K) (hj:k<=j) (hjn:j < n) (hl:k<=l) (hln:l < n) (hne:l≠j):DS n K H (Aqu (2 ^ K) j l c T) (Avf (2 ^ K) j l c G) L k E:=by
 have hq:(0:Int) < 2 ^ K:=Int.pow_pos AGn;refine ⟨Aw1 hq S.rt,A5p hq S.rg,?_,λa b ha hb hbn=>?_,λa b ha hb=>?_,λa b ha han hb hbn=>?_⟩
 ·exact S.e.add (c:=c) hjn hln hne (λa b ha hb=>by
   unfold Aqu;by_cases h:b=j
   ·subst h;rw [if_pos rfl,if_pos rfl];exact Eqm.mod _ _
   ·rw [if_neg h,if_neg h,Int.add_zero];exact Eqm.refl _ _) λa b ha hb=>by
   rw [Ag7]
   by_cases h:a=j
   ·subst h;rw [if_pos rfl,if_pos rfl];by_cases h2:b=a
    ·subst h2;rw [if_pos rfl,if_pos rfl,if_pos rfl]
     exact (Eqm.mod _ _).trans ((Eqm.mod _ _).add ((Eqm.refl _ _).mul (Eqm.mod _ _)))
    ·rw [if_neg h2,if_neg h2,if_neg h2,Int.add_zero,Int.add_zero];exact Eqm.mod _ _
   ·rw [if_neg h,if_neg h,Int.add_zero];by_cases h2:b=j
    ·subst h2;rw [if_pos rfl,if_pos rfl];exact Eqm.mod _ _
    ·rw [if_neg h2,if_neg h2,Int.add_zero];exact Eqm.refl _ _
 ·rw [Ag7,if_neg AGl];by_cases h:b=j
  ·subst h;rw [if_pos rfl,S.z a b ha hb hbn,S.z a l ha hl hln];simp
  ·rw [if_neg h];exact S.z a b ha hb hbn
 ·rw [Ag7,if_neg AGl,if_neg AGl];exact S.w a b ha hb
 ·have hd:(2:Int) ^ E ∣ 2 ^ K:=AZg hE;have key:∀ x y,k<=x->x < n->k<=y->y < n-> ∀ u v,k<=u->u < n->k<=v->v < n->(2:Int) ^ E ∣ (G x y + c * G u v) % 2 ^ K:=λx y h1 h2 h3 h4 u v h5 h6 h7 h8=>A34 hd<|Int.dvd_add (S.fl x y h1 h2 h3 h4)<|Int.dvd_trans (S.fl u v h5 h6 h7 h8) ⟨c,Int.mul_comm _ _⟩;rw [Ag7];by_cases h:a=j
  ·rw [if_pos h];by_cases h2:b=j
   ·rw [if_pos h2];exact A34 hd<|Int.dvd_add (key j j hj hjn hj hjn j l hj hjn hl hln)<|Int.dvd_trans (key l j hl hln hj hjn l l hl hln hl hln) ⟨c,Int.mul_comm _ _⟩
   grind
  ·rw [if_neg h];by_cases h2:b=j
   ·grind
   ·rw [if_neg h2];exact S.fl a b ha han hb hbn
theorem DS.swap {i j:Nat} (S:DS n K H T G L k E) (hi:k<=i) (hin:i < n) (hj:k<=j) (hjn:j < n):DS n K H (swC i j T) (swG i j G) L k E:=by
 refine ⟨(λa b ha hb=>S.rt a _ ha<|Aqt hin hjn hb),(λa b ha hb=>S.rg _ _ (Aqt hin hjn ha)<|Aqt hin hjn hb),S.e.swap hin hjn (λ_ _ _ _=>rfl) λ_ _ _ _=>rfl,λa b ha hb hbn=>?_,λa b ha hb=>?_,(λa b ha han hb hbn=>S.fl _ _ (A2c hi hj ha) (Aqt hin hjn han) (A2c hi hj hb)<|Aqt hin hjn hbn)⟩
 ·unfold swG;rw [Ayg (a:=a) AGl AGl];exact S.z a _ ha (A2c hi hj hb)<|Aqt hin hjn hbn
 ·unfold swG;rw [Ayg (a:=a) AGl AGl,Ayg (a:=b) AGl AGl];exact S.w a b ha hb
theorem DS.low (S:DS n K H T G L k E) (hs:∀ i j,i < n->j < n->H i j=H j i) {E':Nat} (h:∀ a e,k<=a->a + e < n->(2:Int) ^ E' ∣ G a (a + e)):DS n K H T G L k E':=⟨S.rt,S.rg,S.e,S.z,S.w,λi j hi hin hj hjn=>by
 rcases Nat.lt_or_ge j i with hl | hl
 ·rw [S.e.sym hs S.rg hin hjn]
  have:=h j (i - j) hj AGl
  grind
 ·have:=h i (j - i) hi AGl
  grind⟩
theorem DS.some (S:DS n K H T G L k E) (hs:∀ i j,i < n->j < n->H i j=H j i) (hd: ¬ (2:Int) ^ K ∣ det n H) (hk:k < n):∃ e,k + e < n/\G k (k + e)≠0:=by
 obtain ⟨j,h1,h2,h3⟩:=S.e.some hd hk λj hj=>by rw [S.e.sym hs S.rg hk AGl];exact S.z j k hj (Nat.le_refl k) hk
 exact ⟨j - k,AGl,by grind⟩
theorem DS.bound (S:DS n K H T G L k E) (hs:∀ i j,i < n->j < n->H i j=H j i) {v:Nat} (hd: ¬ (2:Int) ^ v ∣ det n H) (hv:v<=K) (hk:k < n):E < v:=by
 rcases Nat.lt_or_ge E v with h | h
 ·exact h
 ·exfalso;have hp:(2:Int) ^ v≠0:=Int.pow_ne_zero AGn
  have hrow:∀ q,q < n->(2:Int) ^ v ∣ G k q:=λq hq=>by
   rcases Nat.lt_or_ge q k with hl | hl
   ·rw [S.e.sym hs S.rg hk hq,S.z q k hl (Nat.le_refl k) hk];simp_all
   ·exact Int.dvd_trans (AZg h)<|S.fl k q (Nat.le_refl k) hk hl hq
  have h1:det n G=2 ^ v * det n (AUw G k λq=>G k q / 2 ^ v):=by
   rw [<- Awf _ _ hk];refine AU6 λi j hi hj=>?_;rw [AUb]
   by_cases h:i=k
   ·subst h;rw [if_pos rfl,Int.mul_ediv_cancel'<|hrow j hj]
   ·rw [if_neg h]
  have h2:Eqm (2 ^ v) (det n G) (det n H):=S.e.det.down<|AZg hv;exact hd<|Ax8 h2.symm (Int.dvd_refl _) ⟨_,h1⟩
theorem BFq {a:Int} (hL:As8 L) (hk:Ack L=k) (i j:Nat):bm (L ++ [((E:Int),1,a,0,0)]) i j=if i=k/\j=k then 2 ^ E * a else bm L i j:=by
 unfold bm;rw [Aru hL,Nat.zero_add,hk];show Avt _ k k ((2:Int) ^ E * a) i j=_;rw [Am5]
theorem BFr {a b c:Int} (hL:As8 L) (hk:Ack L=k) (i j:Nat):bm (L ++ [((E:Int),2,a,b,c)]) i j=if i=k/\j=k then 2 ^ E * a else if i=k/\j=k + 1 then 2 ^ E * b else if i=k + 1/\j=k then 2 ^ E * b else if i=k + 1/\j=k + 1 then 2 ^ E * c else bm L i j:=by
 unfold bm;rw [Aru hL,Nat.zero_add,hk];show A9j _ k ((2:Int) ^ E * a) (2 ^ E * b) (2 ^ E * c) i j=_;rw [A0p]
theorem Ayh (hL:As8 L) (hk:Ack L=k) (h:k<=i∨k<=j):bm L i j=0:=Avg hL AGl
theorem DS.next1 {a:Int} (S:DS n K H T G L k E) (hs:∀ i j,i < n->j < n->H i j=H j i) (hL:As8 L) (hkL:Ack L=k) (hk:k < n) (hz:∀ j,k < j->j < n->G k j=0) (ha:G k k=2 ^ E * a):DS n K H T G (L ++ [((E:Int),1,a,0,0)]) (k + 1) E:=by
 refine ⟨S.rt,S.rg,S.e,λi j hi hj hjn=>?_,λi j hi hj=>?_,(λi j hi hin hj hjn=>S.fl i j AGl hin AGl hjn)⟩
 ·by_cases h:i=k
  ·grind
  ·exact S.z i j AGl AGl hjn
 ·rw [BFq hL hkL];by_cases h:i=k
  ·by_cases h2:j=k
   ·grind
   ·rw [if_neg AGl,Ayh hL hkL<|.inl AGl,S.e.sym hs S.rg AGl AGl,h];exact S.z j k AGl (Nat.le_refl k) hk
  ·rw [if_neg AGl];by_cases h2:j=k
   ·rw [Ayh hL hkL<|.inr AGl,h2];exact S.z i k AGl (Nat.le_refl k) hk
   ·exact S.w i j AGl AGl
theorem DS.next2 {a b c:Int} (S:DS n K H T G L k E) (hs:∀ i j,i < n->j < n->H i j=H j i) (hL:As8 L) (hkL:Ack L=k) (hk:k + 1 < n) (hz:∀ j,k + 1 < j->j < n->G k j=0/\G (k + 1) j=0) (ha:G k k=2 ^ E * a) (hb:G k (k + 1)=2 ^ E * b) (hc:G (k + 1) (k + 1)=2 ^ E * c):DS n K H T G (L ++ [((E:Int),2,a,b,c)]) (k + 2) E:=by
 refine ⟨S.rt,S.rg,S.e,λi j hi hj hjn=>?_,λi j hi hj=>?_,(λi j hi hin hj hjn=>S.fl i j AGl hin AGl hjn)⟩
 ·by_cases h:i=k
  ·grind
  ·by_cases h2:i=k + 1
   ·grind
   ·exact S.z i j AGl AGl hjn
 ·rw [BFr hL hkL];have Ab:G (k + 1) k=2 ^ E * b:=by rw [S.e.sym hs S.rg hk AGl,hb]
  by_cases h:k<=i
  ·rcases Nat.lt_or_ge j k with h2 | h2
   ·rw [if_neg AGl,if_neg AGl,if_neg AGl,if_neg AGl,Ayh hL hkL<|.inl h,S.e.sym hs S.rg AGl AGl];exact S.z j i h2 h AGl
   grind
  ·rw [if_neg AGl,if_neg AGl,if_neg AGl,if_neg AGl];rcases Nat.lt_or_ge j k with h2 | h2
   ·exact S.w i j AGl h2
   ·rw [Ayh hL hkL<|.inr h2];exact S.z i j AGl h2 AGl
end
structure DL (K:Nat) (L:List AWq) (k E:Nat):Prop where
 sum:Ack L=k
 sz:As8 L
 rg:∀ i,i < L.length->RG 2 K L i
 le:∀ b∈L,b.1<=E
theorem DL.nil:DL K [] 0 0:=⟨rfl,λb h=>(nomatch h),λi h=>absurd h<|Nat.not_lt_zero i,λb h=>(nomatch h)⟩
theorem DL.push {E F m:Nat} {L:List AWq} {b:AWq} (B:DL K L k E) (hE:E<=F) (hb:b.1=F) (hP:Aqs 2 K b) (hm:b.2.1=m) (Ab:m=1∨m=2):DL K (L ++ [b]) (k + m) F:=by
 refine ⟨by rw [A9o,B.sum];omega,λx hx=>?_,λi hi=>⟨λx hx=>?_,λh0 x y hx hy=>?_⟩,λx hx=>?_⟩
 ·rcases List.mem_append.1 hx with h | h
  ·exact B.sz x h
  grind
 ·rcases Nat.lt_or_ge i L.length with h | h
  ·rw [List.getElem?_append_left h] at hx;exact (B.rg i h).1 x hx
  grind
 ·rw [List.length_append,List.length_singleton] at hi;rcases Nat.lt_or_ge i L.length with h | h
  ·rw [List.getElem?_append_left h] at hx;rw [List.getElem?_append_left AGl] at hy;exact (B.rg i h).2 h0 x y hx hy
  ·rw [List.getElem?_append_right h] at hx;rw [show i - L.length=0 by omega] at hx;obtain rfl:b=x:=by simpa using hx
   rw [List.getElem?_append_left AGl] at hy;have:=B.le y<|List.mem_of_getElem? hy;omega
 ·rcases List.mem_append.1 hx with h | h
  ·have:=B.le x h;omega
  grind
theorem BG1 {n E:Nat} {L:List AWq} (S:DS n K H T G L n E) (B:DL K L n E) (hK:1<=K):RC n K 2 H T L:=by
 have hq:(2:Int)<=2 ^ K:=by
  have h1:(2:Int) ^ 1<=2 ^ K:=AWz AGn hK;omega
 refine ⟨B.rg,λi hi j hj=>S.rt i j hi hj,S.e.unit AGn hK,λi hi j hj=>?_⟩;rw [S.e.cong S.rg hq hi hj];exact S.w i j hi hj
end Go.Proofs.YtkakafabeobahaaGreatDoor
namespace Go.Proofs.YtkakafabeobahaaGreatDoor
open Go Go.QF
theorem Aby:FdT Tryz.prog 94 0 0 3:=⟨_,_,Tryz.underlying94,rfl,rfl,rfl⟩
theorem AVr:FdT Tryz.prog 94 1 1 25:=⟨_,_,Tryz.underlying94,rfl,rfl,rfl⟩
theorem Ajq:FdT Tryz.prog 94 2 2 25:=⟨_,_,Tryz.underlying94,rfl,rfl,rfl⟩
theorem Abz:SlT Tryz.prog 181 25 1:=Al6 Tryz.underlying181 AG2
theorem Aw2:ZeT Tryz.prog 25 (.slice none 0 0) 24:=Aku AG2
end Go.Proofs.YtkakafabeobahaaGreatDoor
namespace Go.Proofs.YtkakafabeobahaaGreatDoor
open Go Go.QF
set_option maxRecDepth 100000
set_option maxHeartbeats 4000000
def Afb (fuel:Nat) (Ab Aa Ac Ad:Int):Option ((Int × Int × Int × Int) ⊕ (Int × Int)):=
 if ¬ Aa=0 then if Aa≠0 then some (.inl (Aa,w64<|Ab - w64 (w64 (Int.tdiv Ab Aa) * Aa),Ad,w64<|Ac - w64 (w64 (Int.tdiv Ab Aa) * Ad))) else none else some<|.inr (Ab,Ac)
def Aaw (fuel:Nat) (a1 a2:Int):Option (Int × Bool):=
 (iter (λs=>Afb fuel s.1 s.2.1 s.2.2.1 s.2.2.2) fuel (a2,a1,0,1)).bind (λ((Ac,Ad):Int × Int)=>if a2≠0 then if a2≠0 then some (Int.tmod (w64<|Int.tmod Ad a2 + a2) a2,decide (Ac=1)) else none else none)
theorem Am8 {r:(Int × Bool)} (hp:Aaw fuel a1 a2=some r):ATz Tryz.prog 162 #[(.int .i64 a1),(.int .i64 a2)] h (λx h'=>Ext h h'/\x= .tuple #[.int .i64 r.1,.bool r.2]):=by
 unfold Aaw at hp;refine cwf (l:=[_,_]) Tryz.func162 rfl rfl (AGq<|ATs<|AT2<|AGm<|AGm<|ATs<|AT2<|ATs<|AGx<|AGs<|AGt ?_);have K0:=Kst.k0 h;refine AYr 1073735616 hp (λx=>[(6,(.int .i64 x.1)),(7,(.int .i64 x.2.1)),(8,(.int .i64 x.2.2.1)),(9,(.int .i64 x.2.2.2))]) (λx=>K0.L) K0 ⟨rfl,rfl,rfl,rfl,trivial⟩ ?_;rintro ⟨u9,Aq,Ar,Au⟩ Av h6 y5 K8 Aa Ag;unfold Afb at Aa;refine AGs<|AGq<|AGm<|AVz rfl rfl (AGu<|⟨_,rfl,λAb=>?_,λAb=>?_⟩)
 ·refine AG0<|q_t<|AGt<|AGq<|AGm<|AGm ?_;obtain ⟨Ah,Ai⟩:=ifN<|AT4 Aa Ab;refine Ats rfl rfl Ah (AT2<|AGm<|AGm<|AGm<|AGm<|Aaq rfl rfl (AVh rfl rfl (ATs<|AGx<|AS8<|AGm<|AGm<|AGm<|AGm<|Aaq rfl rfl (AVh rfl rfl (ATs<|ATs<|ATu<|q_b<|q_t ?_)))));exact ⟨_,(AGo Ai).symm,K8,rfl,rfl,rfl,rfl,trivial⟩
 ·refine ATh<|ATi<|ATi<|AUf<|q_t<|AGq<|AGm<|AGm ?_;obtain ⟨Aj,Ak⟩:=ifN<|Ag _ (AGo<|AT5 Aa Ab).symm;refine Acl rfl rfl Aj (AGm<|ATn rfl rfl (AGm ?_));obtain ⟨Am,Ao⟩:=ifN Ak;refine Acl rfl rfl Am (AGm<|AU0 rfl rfl (ATs<|AGx<|AG1 ?_));obtain rfl:=AGo Ao;exact ⟨_,AUp,K8.x,rfl⟩
def Ag8 (fuel:Nat) (Aa:LiI) (Ab Ac:Int):Option ((Int × Int) ⊕ Int):=
 if Ac < (Aa.length:Int) then none else some<|.inr Ab
def Aax (fuel:Nat) (Ab:LiI) (Ac Aa:Int):Option ((Int × Int) ⊕ Int):=
 if Aa < (Ab.length:Int) then (iter (λs=>Ag8 fuel Ab s.1 s.2) fuel (Ac,w64<|Aa + 1)).bind (λ(Ad:Int)=>some<|.inl (Ad,w64<|Aa + 1)) else some<|.inr Ac
def AXu (fuel:Nat) (a5 Ad:Int) (Af:LiA) (Ag Aa:Int) (Ab:LiI):Option ((Int × LiI) ⊕ LiI):=
 if Aa < (Af.length:Int) then (gI Ab Ad).bind λAe=>(gI Ae Aa).bind λAh=>if a5≠0 then some (.inl (w64<|Aa + 1,sI Ab Ad<|sI Ae Aa<|Int.tmod (w64<|Ah * Ag) a5)) else none else some<|.inr Ab
def Agi (fuel:Nat) (Aa Ab:Int):Option (Int ⊕ Unit):=
 if Ab < Aa then none else some<|.inr ()
def Agj (fuel:Nat) (a3 Ae:LiI) (Ab:Int) (Ac:LiI):Option ((Int × LiI) ⊕ LiI):=
 if Ab < (Ae.length:Int) then (gI Ac Ab).bind λAd=>if 0<=(a3.length:Int)/\(a3.length:Int)<=(Ad.length:Int) then if (List.drop (Int.toNat (a3.length:Int)) Ad).length<=100000000 then some (.inl (w64<|Ab + 1,sI Ac Ab<|List.drop (Int.toNat (a3.length:Int)) Ad)) else none else none else some<|.inr Ac
def Aay (fuel:Nat) (a5 Aa:Int) (Ab:LiI):Option ((Int × LiI) ⊕ ((LiI × Int) ⊕ LiI)):=
 if 0<=Aa then (gI Ab Aa).bind λAd=>(gI Ad Aa).bind λAe=>(Aaw fuel Ae a5).bind λ(Af,Ag)=>if (!Ag)=true then some (.inr<|.inl ([],8)) else (((iter (λs=>AXu fuel a5 Aa Ad Af s.1 s.2) fuel (0,Ab)).bind (λ(Ah:LiI)=>some Ah)):Option LiI).bind λAi=>(iter (λs=>Agi fuel Aa s) fuel 0).bind (λ(_:Unit)=>some<|.inl (w64<|Aa - 1,Ai)) else some<|.inr<|.inr Ab
def Ag9 (fuel:Nat) (a3 Af:LiI) (Aa:Int) (Ac:LiI):Option ((Int × LiI) ⊕ LiI):=
 if Aa < (Af.length:Int) then (gI Ac Aa).bind λAd=>if 0 < Ad.length/\Ad.length<=100000/\0 < (a3.length:Int)/\(a3.length:Int)<=100000 then (gI (sI Ac Aa<|Ad ++ List.replicate (Int.toNat (a3.length:Int)) 0) Aa).bind λAe=>(gI Ae<|w64<|(a3.length:Int) + Aa).bind λAg=>some (.inl (w64<|Aa + 1,sI (sI Ac Aa<|Ad ++ List.replicate (Int.toNat (a3.length:Int)) 0) Aa<|sI Ae (w64<|(a3.length:Int) + Aa) 1)) else none else some<|.inr Ac
def Aa5 (fuel:Nat) (a3:LiI) (a5:Int):Option (LiI × Int):=
 (AY1 fuel a3).bind λx6=>if (!x6)=true then some ([],3) else (AUu fuel a5).bind λAc=>if ¬ Ac=0 then some ([],Ac) else (AV0 fuel a3 a5).bind λAd=>(iter (λs=>Ag9 fuel a3 Ad s.1 s.2) fuel (0,Ad)).bind (λ(Ae:LiI)=>((((some a5):Option Int).bind λAk=>(iter (λs=>Aax fuel Ae s.1 s.2) fuel (1,0)).bind (λ(Ah:Int)=>some Ah)):Option Int).bind λAm=>((some a5):Option Int).bind λAo=>(iter (λs=>Aay fuel a5 s.1 s.2) fuel (w64<|(a3.length:Int) - 1,Ae)).bind (λex=>match ex with | .inl Ai=>(some Ai) | .inr Af=>(iter (λs=>Agj fuel a3 Af s.1 s.2) fuel (0,Af)).bind (λ(Aj:LiI)=>some (Aj,0))))
theorem Aj0 {Bq:Value} {r:(LiI × Int)} (H2:AV4 (cI .i64) h Bq a3) (hp:Aa5 fuel a3 a5=some r):ATz Tryz.prog 104 #[Bq,(.int .i64 a5)] h (λx h'=>Ext h h'/\ ∃ (x0:Value) (F0:List Nat) (Cb:List LnA) (Cd:List Value),x= .tuple #[x0,.int .i64 r.2]/\AV8 (cI .i64) 61 2 h' F0 Cb Cd x0 r.1/\Sp h' h.size [F0]):=by
 unfold Aa5 at hp;refine cwf (l:=[_,_]) Tryz.func104 rfl rfl (AGq<|ATs<|AGx<|AGs<|AGq<|AGm ?_);have K0:=Kst.k0 h;obtain ⟨x6,Ce,Bw⟩:=AGr hp;refine AVs K0 (Ale (H2.ext K0.x) Ce) λEs E9 Bx=>AV5 rfl (AGu<|⟨_,rfl,λAp=>?_,λAp=>?_⟩)
 ·refine AGq<|ATs<|AGx<|AG1<|ATd ?_;have Aq:=Kst.anil2 (cI .i64) 61 2 Bx;obtain rfl:=AGo<|ifT Bw Ap;exact ⟨_,AUp,Aq.x,_,_,_,_,rfl,(Aq.o2 p0),Aq.s.sel [0] AGn⟩
 ·refine AG0<|q_t<|AGs<|AGq<|AGm ?_;obtain ⟨Eu,Cf,By⟩:=AGr<|AY5 Bw Ap;refine AVs Bx (AZ6 Cf) λEv Ew Ar=>AT2<|AGm<|AVz rfl rfl (AGu<|⟨_,rfl,λAu=>?_,λAu=>?_⟩)
  ·refine AGq<|AGm<|ATs<|AGx<|AG1<|ATd ?_;have Av:=Kst.anil2 (cI .i64) 61 2 Ar;obtain rfl:=AGo<|AT4 By Au;exact ⟨_,AUp,Av.x,_,_,_,_,rfl,(Av.o2 p0),Av.s.sel [0] AGn⟩
  ·refine AG0<|q_t<|AGq<|AGm<|AT3 ATb rfl H2 (AT2<|AGm<|AGm ?_);obtain ⟨Cg,Ch,Ci⟩:=AGr<|AT5 By Au;refine Agx Ar (Aad (H2.ext Ar.x) Ch) λCj Ck Cm Af Ey Ez Aw=>AGx<|AGs<|AGq<|AGm<|AT3 ATb rfl (Aw.o2 p0).rd (AGm<|AGu<|AGt<|AXv 4503597479887360 (λx:(Int) × (LiI) × LnA × LnN × LvA=>(x.1,x.2.1)) ((0,Cg,Cj,Ck,Cm):(Int) × (LiI) × LnA × LnN × LvA) Ci (λx=>[(31,(.int .i64 x.1))]) (λx=>Aw.L.set 0<|aO2 (cI .i64) 61 2 x.2.2.1 x.2.2.2.1 x.2.2.2.2 Af x.2.1) Aw ⟨rfl,trivial⟩ ?_);rintro ⟨Cn,Fa,Ai,Aj,Ak⟩ Fb Fc Fd Ac Ax Co;unfold Ag9 at Ax;refine AGq<|ATp rfl rfl (AGu<|AGs<|⟨_,rfl,λAy=>?_,λAy=>?_⟩)
   ·refine AG0<|q_t<|AGs<|AGt<|AGq<|AGm<|AT2<|AGm<|AGm<|AGm<|AGm ?_;obtain ⟨Fe,Bz,Cp⟩:=AGr<|AT4 Ax Ay;refine AUo ATb ATq (Ac.o2 p0) Bz λ_ Ff Cq=>AGm ?_;obtain ⟨Cr,Ct⟩:=ifN Cp;refine BBd ATa Ang Abm ATb ATq (Ac.o2 p0) Cq Bz trivial tt2 rfl rfl (λ_=>rfl) (λ_=>rfl) rfl AGn Cr λFg Fh Fi Fj Fk Fl Cu Cv Cw=>AGu<|AS8<|AGm<|AGm ?_;have B1:=Ac.uo2 p0 Cv Cu Cw;obtain ⟨Fm,B3,Cx⟩:=AGr Ct;refine AUo ATb ATq (B1.o2 p0) B3 λ_ Fo Cy=>AGm<|AGm<|ATn rfl rfl ?_;obtain ⟨Fp,Cz,C0⟩:=AGr Cx;refine AZ0 (m:=Cn) B1 p0 ATa ATg Cy B3 Cz (λ_=>rfl) λ_ Fq C1=>ATu<|q_b<|q_t<|AS8<|ATn rfl rfl (AGm<|AGu ?_);exact ⟨(_,_,_,_,_),(AGo C0).symm,C1,rfl,trivial⟩
   ·refine ATh<|ATi<|ATi<|AUf<|q_t<|AGq<|AGm<|AGm ?_;obtain ⟨C2,C3,C4⟩:=AGr<|Co _ (AGo<|AT5 Ax Ay).symm;refine ATo (K':=(λxr h'=> ∃ x:(Int),x=C2/\xr=(.int .i64 x)/\Kst h h' (Ac.L))) trivial rfl ?_ λFr Ft C5=>?_
    ·refine cwf (l:=[_,_]) Tryz.func138 rfl rfl (AGq<|AT2<|AGm ?_);obtain ⟨C6,C7,C8⟩:=AGr C3;refine ATo (K':=(λxr h'=> ∃ x:(Nat) × (Int),x.2=C6/\xr=(.func (.func 197) #[] #[(.pointer<|some ⟨x.1,0,none⟩)])/\Kst h h' (aB 2 x.1 [(.int .i64 x.2)] :: Ac.L))) trivial rfl ?_ λFu Fv C9=>?_
     ·refine cwf (l:=[_]) Tryz.func161 rfl rfl (AGq<|AY3 Ac [(.int .i64 a5)] λDa Fw Fx Db=>AT2<|A6a rfl (AGx<|AG1<|⟨_,AS5,((Da,a5):(Nat) × (Int)),?_,rfl,?_⟩))
      ·exact AGo C7
      ·exact Db
     obtain ⟨⟨Fy,Fz⟩,Dc,rfl,Az⟩:=C9;refine ⟨trivial,?_⟩;subst Dc;refine AT2<|AGx<|AGs<|AGq<|AGm<|AT3 ATb rfl (Az.o2 p1).rd (AGm<|AGu<|AGt<|AYr 18889465931478580847040 C8 (λx=>[(6,(.int .i64 x.1)),(13,(.int .i64 x.2))]) (λx=>Az.L) Az ⟨rfl,rfl,trivial⟩ ?_);rintro ⟨Dd,F4⟩ F5 F6 F7 A3 A4 De;unfold Aax at A4;refine AGq<|ATp rfl rfl (AGu<|AGs<|⟨_,rfl,λA5=>?_,λA5=>?_⟩)
     ·refine AG0<|q_t<|AGs<|AGt<|AGq<|AGm<|AT2<|AGm<|ATn rfl rfl (AGx<|AGt<|AYr 9444732965739290165568 (AT4 A4 A5) (λx=>[(6,(.int .i64 x.1)),(8,(.int .i64 x.2))]) (λx=>A3.L) A3 ⟨rfl,rfl,trivial⟩ ?_);rintro ⟨F8,F9⟩ Ga Gb Gc B4 A6 Df;unfold Ag8 at A6;refine AGs<|AGq<|AGm<|AGm<|AT3 ATb rfl (B4.o2 p1).rd (ATp rfl rfl (AGu<|⟨_,rfl,λA7=>?_,λA7=>?_⟩))
      ·refine AG0<|q_t<|AGs ?_;have Dg:=AT4 A6 A7;cases Dg
      ·refine ATh<|ATi<|ATi<|AUf<|q_b<|q_t<|AS8<|ATn rfl rfl (AGm<|AGu ?_);exact ⟨_,(AGo<|Df _ (AGo<|AT5 A6 A7).symm).symm,B4,rfl,rfl,trivial⟩
     ·refine ATh<|ATi<|ATi<|AUf<|q_t<|AGq<|AGm<|AGx<|AG1<|⟨_,AS5,(Dd:(Int)),?_,rfl,?_⟩
      ·exact AGo<|De _ (AGo<|AT5 A4 A5).symm
      ·exact A3.sel [1] AGn
    obtain ⟨Gd,Dh,rfl,B5⟩:=C5;refine ⟨trivial,?_⟩;subst Dh;refine Aal<|AGm ?_;obtain ⟨Di,Dj,Dk⟩:=AGr C4;refine ATo (K':=(λxr h'=> ∃ x:(Nat) × (Int),x.2=Di/\xr=(.func (.func 197) #[] #[(.pointer<|some ⟨x.1,0,none⟩)])/\Kst h h' (aB 2 x.1 [(.int .i64 x.2)] :: B5.L))) trivial rfl ?_ λGe Gf Dl=>?_
    ·refine cwf (l:=[_]) Tryz.func161 rfl rfl (AGq<|AY3 B5 [(.int .i64 a5)] λDo Gg Gh Dp=>AT2<|A6a rfl (AGx<|AG1<|⟨_,AS5,((Do,a5):(Nat) × (Int)),?_,rfl,?_⟩))
     ·exact AGo Dj
     ·exact Dp
    obtain ⟨⟨Gi,Gj⟩,Dq,rfl,B6⟩:=Dl;refine ⟨trivial,?_⟩;subst Dq;refine AGx<|AGs<|AGq<|AGm<|AVh rfl rfl (AGx<|AGt<|AYr 81129638414606105235036701751344 Dk (λx=>[(11,(.int .i64 x.1))]) (λx=>B6.L.set 1<|aO2 (cI .i64) 61 2 Ai Aj Ak Af x.2) B6 ⟨rfl,trivial⟩ ?_);rintro ⟨A8,Dr⟩ Gk Gl Gm Ag A9 B7;unfold Aay at A9;refine AGs<|AGq<|AGm<|Afp rfl rfl (AGu<|⟨_,rfl,λBa=>?_,λBa=>?_⟩)
    ·refine AG0<|q_t<|AGs<|AGt<|AGq<|AGm<|AGm ?_;obtain ⟨Gn,Am,Ds⟩:=AGr<|AT4 A9 Ba;refine AUo ATb ATq (Ag.o2 p1) Am λ_ Gp Dt=>AGm ?_;obtain ⟨Gq,Du,Dv⟩:=AGr Ds;refine AW6 (m:=A8) ATa ATg (Ag.o2 p1) Dt Am Du λ_=>(AGm ?_);obtain ⟨⟨Gr,Gt⟩,Dw,Bb⟩:=AGr Dv;dsimp only at Bb;refine AVs Ag (Am8 Dw) λGu Gv Ad=>AGm<|AUk rfl rfl (AUk rfl rfl (ATs<|AGx<|AGs<|AGq<|AGm<|AV5 rfl (AGu<|⟨_,rfl,λBc=>?_,λBc=>?_⟩)))
     ·refine AGq<|ATs<|AGx<|AG1<|ATd<|AUg<|ATd<|ATd<|AUg<|ATd ?_;have Be:=Kst.anil2 (cI .i64) 61 2 Ad;obtain rfl:=AGo<|B7 _ (AGo<|ifT Bb Bc).symm;exact ⟨_,AUp,Be.x,_,_,_,_,rfl,(Be.o2 p0),Be.s.sel [0] AGn⟩
     ·refine AG0<|q_t<|AGq<|AGm<|AGm<|AUo ATb ATq (Ad.o2 p1) Am λ_ Gw Bf=>AGm<|AGm ?_;obtain ⟨Dx,Dy,Dz⟩:=AGr<|AY5 Bb Bc;refine ATo (K':=(λxr h'=> ∃ x:(LiI),x=Dx/\xr= .tuple #[]/\Kst h h' (Ad.L.set 1<|aO2 (cI .i64) 61 2 Ai Aj Ak Af x))) trivial rfl ?_ λGx Gy D0=>?_
      ·refine cwf (l:=[_,_,_]) Tryz.func163 rfl rfl (AGq<|AGm<|AUl ATa rfl ((Ad.o2 p1).rowI Bf Am) (AGm<|AGu<|AGt<|AYr 16776384 Dy (λx=>[(10,(.int .i64 x.1))]) (λx=>Ad.L.set 1<|aO2 (cI .i64) 61 2 Ai Aj Ak Af x.2) Ad ⟨rfl,trivial⟩ ?_));rintro ⟨Gz,D1⟩ G3 G4 G5 Bg Bh D2;unfold AXu at Bh;refine AGq<|ATp rfl rfl (AGu<|AGs<|⟨_,rfl,λBi=>?_,λBi=>?_⟩)
       ·refine AG0<|q_t<|AGs<|AGt<|AGq<|AGm ?_;obtain ⟨G6,B8,D3⟩:=AGr<|AT4 Bh Bi;obtain ⟨G7,B9,D4⟩:=AGr D3;refine AW6 (m:=A8) ATa ATg (Bg.o2 p1) Bf B8 B9 λ_=>(ATs<|AGx<|AS8<|AGm<|AGm<|AGm<|AGm<|Aaq rfl rfl (AGm ?_));obtain ⟨D5,D6⟩:=ifN D4;refine Acl rfl rfl D5 (AZ0 (m:=A8) Bg p1 ATa ATg Bf B8 B9 (λ_=>rfl) λ_ G8 D7=>ATu<|q_b<|q_t<|AS8<|ATn rfl rfl (AGm<|AGu ?_));exact ⟨_,(AGo D6).symm,D7,rfl,trivial⟩
       ·refine ATh<|ATi<|ATi<|AUf<|⟨_,Aa0,(D1:(LiI)),?_,rfl,?_⟩
        ·exact AGo<|D2 _ (AGo<|AT5 Bh Bi).symm
        ·exact Bg
      obtain ⟨G9,D8,rfl,Ca⟩:=D0;refine ⟨trivial,?_⟩;subst D8;refine Aal<|AGm<|AGm<|AGu<|AGt<|AYr 81129599728980454027655414562816 Dz (λx=>[(85,(.int .i64 x))]) (λx=>Ca.L) Ca ⟨rfl,trivial⟩ ?_;rintro Hb Hc Hd He D9 Bj Ea;unfold Agi at Bj;refine AGq<|ATp rfl rfl (AGu<|AGs<|⟨_,rfl,λBl=>?_,λBl=>?_⟩)
      ·refine AG0<|q_t<|AGs ?_;have Eb:=AT4 Bj Bl;cases Eb
      ·refine ATh<|ATi<|ATi<|AUf<|q_b<|q_t<|AS8<|AGm<|AVh rfl rfl (AGx ?_);exact ⟨_,(AGo<|Ea _ (AGo<|AT5 Bj Bl).symm).symm,D9,rfl,trivial⟩
    ·refine ATh<|ATi<|ATi<|AUf<|q_t<|AGs<|AGq<|AGm<|AT3 ATb rfl (Ag.o2 p1).rd (AGm<|AGu<|AGt ?_);have Bm:=Ag.sel [1] AGn;dsimp only [AZ3,Adk] at Bm;refine AXv 5316587464586005064888445085100834816 (λx:(Int) × (LiI) × LnA × LnN × LvA=>(x.1,x.2.1)) ((0,Dr,Ai,Aj,Ak):(Int) × (LiI) × LnA × LnN × LvA) (B7 _ (AGo<|AT5 A9 Ba).symm) (λx=>[(108,(.int .i64 x.1))]) (λx=>Bm.L.set 0<|aO2 (cI .i64) 61 2 x.2.2.1 x.2.2.2.1 x.2.2.2.2 Af x.2.1) Bm ⟨rfl,trivial⟩ ?_;rintro ⟨Hf,Hg,Hh,Hj,Hk⟩ Hl Hm Hn Aa Bn Ec;unfold Agj at Bn;refine AGq<|ATp rfl rfl (AGu<|AGs<|⟨_,rfl,λBo=>?_,λBo=>?_⟩)
     ·refine AG0<|q_t<|AGs<|AGt<|AGq<|AGm<|AGx<|AS8<|AGm<|AGm<|AGm<|AGm ?_;obtain ⟨Ho,Ae,Ed⟩:=AGr<|AT4 Bn Bo;refine AUo ATb ATq (Aa.o2 p0) Ae λ_ Hq Bp=>AGm ?_;obtain ⟨Ee,Ef⟩:=ifN Ed;refine A40 ATa rfl ((Aa.o2 p0).rowI Bp Ae) ((Aa.o2 p0).rowCap Bp Ae) rfl Ee λHr Eg Hs=>?_;obtain ⟨Eh,Ei⟩:=ifN Ef;refine A7l ATa Abm rfl rfl trivial tt2 rfl rfl (Eg<|(Aa.o2 p0).rowI Bp Ae) AGn Eh λHt Hu Hv Ej Ek El=>?_;have Ah:=Aa.no Ek El Ej;refine AVv ATb rfl (Ah.o2 p1) rfl Ae λHw Hx Em Hy Hz=>Akz ATq (Ah.o2 p1) Ae Em rfl rfl (Ah.o p0) (Ah.dj p0 p1 AGn) λH5 En Eo Ep=>ATu<|q_b<|q_t<|AS8<|ATn rfl rfl (AGm<|AGu ?_);exact ⟨(_,_,_,_,_),(AGo Ei).symm,(Ah.m2 p0 p1 AGn Eo En λz hz=> .inl<|Ep z hz).sel [1] AGn,rfl,trivial⟩
     ·refine ATh<|ATi<|ATi<|AUf<|q_t<|AGq<|AGm<|ATs<|AGx<|AG1 ?_;obtain rfl:=AGo<|Ec _ (AGo<|AT5 Bn Bo).symm;exact ⟨_,AUp,Aa.x,_,_,_,_,rfl,(Aa.o2 p0),Aa.s.sel [0] AGn⟩
end Go.Proofs.YtkakafabeobahaaGreatDoor
namespace Go.Proofs.YtkakafabeobahaaGreatDoor
open Go Go.QF
set_option maxRecDepth 100000
theorem Ayi {m:Int} (hx:0<=x) (hxm:x < m) (hm:2<=m) (Aa:m<=2147483647) (hf:2147483648 < fuel):Ok (Aaw fuel x m) λr=>(r.2=true->Atz m x r.1)/\(r.2=false->¬ ∃ y,Atz m x y):=by
 unfold Aaw;refine AGw (Au6 (λs:Int × Int × Int × Int=>EI m x s.1 s.2.1 s.2.2.1 s.2.2.2) (λs=>s.2.1.toNat) (Q:=λe:Int × Int=> ∃ v,EI m x e.1 0 e.2 v) (λs hE=>?_) (EI.start hx hxm)<|by grind) λe he=>?_
 ·obtain ⟨a,b,u,v⟩:=s;dsimp only at hE ⊢;have Ad:0<=b:=hE.1;have Ab:0<=a:=hE.2.1;have ham:a<=m:=hE.2.2.1;unfold Afb;refine ATj (λh=>AVc h ?_) λh=>?_
  ·have hbd:=hE.bounds AGl;rw [Int.tdiv_eq_ediv_of_nonneg Ab,AVq (x:=a / b) AGl AGl,AVq (x:=a / b * b) AGl AGl,AVq (x:=a - a / b * b) AGl AGl,AVq (x:=a / b * v) AGl AGl,AVq (x:=u - a / b * v) AGl AGl];have hs:=hE.step AGl;refine AGp ⟨hs,?_⟩;have h2:=Int.emod_lt_of_pos a (b:=b) AGl;rw [Int.emod_def,Int.mul_comm] at h2;grind
  ·obtain rfl:b=0:=by omega
   exact AGp ⟨v,hE⟩
 ·obtain ⟨v,hE⟩:=he;obtain ⟨a,u⟩:=e;dsimp only at hE ⊢;have hd:=EI.done hm hE;refine AVc AGl<|AVc AGl<|AGp ⟨λh=>?_,λh=>?_⟩
  ·dsimp only at h ⊢;rw [Aw0 hm Aa];grind
  grind
theorem A9p {n:Nat} (Aa:1<=n) (hn:n<=8) (hf:100 < fuel):AY1 fuel (tab n n T)=some true:=by
 unfold AY1;rw [Ape Aa hn hf];simp only [Option.bind_some,reduceIte];rw [Al3<|ATv AGl,AT1,ATt,if_pos rfl,decide_eq_true AGl]
theorem Al5 {body:S->Option (S ⊕ E)} {s s':S} (h:body s=some (.inl s')):iter body (fuel + 1) s=iter body fuel s':=by simp [iter,h]
theorem Aj1 {body:S->Option (S ⊕ E)} {s:S} {e:E} (h:body s=some (.inr e)):iter body (fuel + 1) s=some e:=by simp [iter,h]
theorem A9q {f:Nat} {m:Int} (hm:2<=m) (Aa:m<=2147483647) (hg:∃ y,Atz m (x % m) y) (hf:2147483648 < f):∃ v,Aa5 f [[x]] m=some ([[v]],0)/\Atz m (x % m) v:=by
 obtain ⟨f,rfl⟩:∃ g,f=g + 3:=⟨f - 3,AGl⟩;have Ab:=Int.emod_nonneg x (show m≠0 by omega);have Ac:=Int.emod_lt_of_pos x (show 0 < m by omega);have h0:AY1 (f + 3) [[x]]=some true:=A9p (n:=1) (T:=λ_ _=>x) AGl AGl AGl;have h1:AUu (f + 3) m=some 0:=by unfold AUu;grind
 have h2:AV0 (f + 3) [[x]] m=some [[x % m]]:=Avb (n:=1) (F:=λ_ _=>x) AGl hm Aa AGl;generalize x % m=r at Ab Ac hg h2 ⊢;obtain ⟨⟨v,b⟩,h3,h4,h5⟩:=Ayi Ab Ac hm Aa hf
 obtain rfl:b=true:=by
  grind
 have hv:=h4 rfl;dsimp only at hv;have Ae:=hv.1;have Aj:=hv.2.1;have e3:Int.tmod (w64<|1 * v) m=v:=by rw [Int.one_mul,AVq (x:=v) AGl AGl,Int.tmod_eq_emod_of_nonneg Ae,Int.emod_eq_of_lt Ae Aj]
 refine ⟨v,?_,hv⟩
 have a1:iter (λs:Int × List (List Int)=>Ag9 (f + 3) [[x]] [[r]] s.1 s.2) (f + 3) (0,[[r]])=some [[r,1]]:=by
  rw [Al5 (s':=(1,[[r,1]])) rfl,Aj1 rfl]
 have a2:iter (λs:Int × Int=>Aax (f + 3) [[r,1]] s.1 s.2) (f + 3) (1,0)=some 1:=by
  have b5:iter (λs:Int × Int=>Ag8 (f + 3) [[r,1]] s.1 s.2) (f + 3) (1,1)=some 1:=Aj1 rfl
  rw [Al5 (s':=(1,1)) ?_,Aj1 rfl]
  show Aax (f + 3) [[r,1]] 1 0=_
  unfold Aax
  rw [if_pos (by grind),show w64 (0 + 1)=1 from rfl,b5]
  rfl
 have a3:iter (λs:Int × List (List Int)=>Aay (f + 3) m s.1 s.2) (f + 3) (0,[[r,1]])=some (Sum.inr [[Int.tmod (w64<|r * v) m,v]]):=by
  have Aq:m≠0:=by omega
  have Ar:iter (λs:Int × List (List Int)=>AXu (f + 3) m 0 [r,1] v s.1 s.2) (f + 3) (0,[[r,1]])=some [[Int.tmod (w64<|r * v) m,v]]:=by
   rw [Al5 (s':=(1,[[Int.tmod (w64<|r * v) m,1]])) ?_,Al5 (s':=(2,[[Int.tmod (w64<|r * v) m,v]])) ?_,Aj1 rfl]
   ·show AXu (f + 3) m 0 [r,1] v 1 [[Int.tmod (w64<|r * v) m,1]]=_
    unfold AXu
    rw [if_pos<|by grind]
    show (if m≠0 then some (Sum.inl ((2:Int),[[Int.tmod (w64<|r * v) m,Int.tmod (w64<|1 * v) m]])) else none)=_
    grind
   ·show AXu (f + 3) m 0 [r,1] v 0 [[r,1]]=_
    unfold AXu
    rw [if_pos<|by grind]
    show (if m≠0 then some (Sum.inl ((1:Int),[[Int.tmod (w64<|r * v) m,1]])) else none)=_
    rw [if_pos Aq]
  have Au:iter (λs:Int=>Agi (f + 3) 0 s) (f + 3) 0=some ():=Aj1 rfl
  rw [Al5 (s':=(-1,[[Int.tmod (w64<|r * v) m,v]])) ?_,Aj1 rfl]
  show Aay (f + 3) m 0 [[r,1]]=_
  unfold Aay
  rw [if_pos AGn,show gI [[r,1]] (0:Int)=some [r,1] from rfl]
  simp only [Option.bind_some]
  rw [show gI [r,1] (0:Int)=some r from rfl]
  simp only [Option.bind_some]
  rw [h3]
  simp only [Option.bind_some]
  rw [if_neg AGn,Ar]
  simp only [Option.bind_some]
  rw [Au]
  rfl
 have a4:iter (λs:Int × List (List Int)=>Agj (f + 3) [[x]] [[Int.tmod (w64<|r * v) m,v]] s.1 s.2) (f + 3) (0,[[Int.tmod (w64<|r * v) m,v]])=some [[v]]:=by
  rw [Al5 (s':=(1,[[v]])) rfl,Aj1 rfl]
 unfold Aa5;rw [h0];simp only [Option.bind_some];rw [if_neg AGn,h1];simp only [Option.bind_some];rw [if_neg AGn,h2];simp only [Option.bind_some];rw [a1];simp only [Option.bind_some];rw [a2];simp only [Option.bind_some];rw [show w64 (([[x]].length:Nat) - 1:Int)=0 from rfl,a3];grind
end Go.Proofs.YtkakafabeobahaaGreatDoor
namespace Go.Proofs.YtkakafabeobahaaGreatDoor
open Go Go.QF
set_option maxRecDepth 100000
theorem A35 {n:Nat} (hf:n < fuel)
 (hs:∀ (r:Nat) (M:AS9),r < n->(∀ b,M r b=G r b)->body ((r:Int),tab n n M)=some (.inl (((r + 1:Nat):Int),tab n n<|AUw M r<|G' r))) (he:∀ X,body ((n:Int),X)=some (.inr X)):iter body fuel (0,tab n n G)=some (tab n n G'):=by
 apply ok_eq;refine AT8 (λr st=> ∃ M,st=((r:Int),tab n n M)/\r<=n/\ ∀ a b,M a b=if a < r then G' a b else G a b) n ⟨G,rfl,Nat.zero_le _,λa b=>by omega⟩ hf λr st hr hI=>?_;obtain ⟨M,rfl,hrn,hM⟩:=hI
 rcases Nat.lt_or_ge r n with h | h
 ·rw [hs r M h λb=>by grind];refine AGp ⟨h,_,rfl,h,λa b=>?_⟩;rw [AUb];grind
 ·obtain rfl:r=n:=by omega
  rw [he];exact AGp (Aha λa b ha hb=>by grind)
theorem BCq {n:Nat} (hf:n < fuel)
 (hs:∀ (s:Nat) (M:AS9),s < n->(∀ a b,a≠j->M a b=G a b)->M j s=G j s->body ((s:Int),tab n n M)=some (.inl (((s + 1:Nat):Int),tab n n<|AUw M j λb=>if b=s then g s else M j b))) (he:∀ X,body ((n:Int),X)=some (.inr X)):iter body fuel (0,tab n n G)=some (tab n n<|AUw G j g):=by
 apply ok_eq;refine AT8 (λs st=> ∃ M,st=((s:Int),tab n n M)/\s<=n/\ ∀ a b,M a b=if a=j/\b < s then g b else G a b) n ⟨G,rfl,Nat.zero_le _,λa b=>by omega⟩ hf λs st hr hI=>?_;obtain ⟨M,rfl,hrn,hM⟩:=hI
 rcases Nat.lt_or_ge s n with h | h
 ·rw [hs s M h (λa b ha=>by grind)<|by grind];refine AGp ⟨h,_,rfl,h,λa b=>?_⟩;rw [AUb]
  by_cases h1:a=j
  ·subst h1;rw [if_pos rfl]
   by_cases h2:b=s
   ·grind
   ·rw [if_neg h2,hM];omega
  grind
 ·obtain rfl:s=n:=by omega
  rw [he];refine AGp<|Aha λa b ha hb=>?_;rw [hM,AUb];omega
theorem BCr {n:Nat} {c:Int}:tab n n (AUw G j λb=>(G j b + c * G l b) % q)=tab n n (A9n q j l c G):=Aha λa b _ _=>by
 unfold A9n;rw [AUb]
theorem A9r {n r:Nat} {c:Int} {M:AS9} (h:∀ b,M r b=G r b):tab n n (AUw M r λb=>if b=j then (M r j + c * M r l) % q else M r b)=tab n n (AUw M r<|Aqu q j l c G r):=Avc λb _=>by
 unfold Aqu;rw [h,h,h]
theorem A9s {n r:Nat} {M:AS9} (hi:i < n) (hk:k < n) (hr:r < n) (hn:n<=8):
 ((gI (tab n n M) (r:Int)).bind λx=>(gI x (i:Int)).bind λy=>(gI x (k:Int)).bind λz=>(gI (sI (tab n n M) (r:Int)<|sI x (k:Int) y) (r:Int)).bind λu=>(gI u (i:Int)).bind λw=>some<|Sum.inl (β:=List<|List Int) (w64<|(r:Int) + 1,sI (sI (tab n n M) (r:Int)<|sI x (k:Int) y) (r:Int)<|sI u (i:Int) z))=some (.inl (((r + 1:Nat):Int),tab n n<|AUw M r λb=>M r<|sw2 k i b)):=by
 rw [AU4<|ATv hr,AU4<|ATm hi,AU4<|ATm hk,Apy,Aam,AU4<|ATv hr,AUt,AU4<|ATm hi,Apy,Aam,AUh AGl];congr 3;refine Aha λa b ha hb=>?_;rw [AUb,AUb,AUb];by_cases h:a=r
 ·rw [if_pos h,if_pos h];unfold sw2;grind
 omega
theorem A9t {body:Int × List (List Int) × List (List Int)->Option ((Int × List (List Int) × List (List Int)) ⊕ (List (List Int) × List (List Int)))} {g t g' t':List (List Int)} (hf:3 < fuel) (h0:body (0,g,t)=some (.inl (1,g',t))) (h1:body (1,g',t)=some (.inl (2,g',t'))) (h2:body (2,g',t')=some (.inr (g',t'))):iter body fuel (0,g,t)=some (g',t'):=by
 obtain ⟨f,rfl⟩:∃ f,fuel=f + 3:=⟨fuel - 3,AGl⟩;rw [Al5 h0,Al5 h1,Aj1 h2]
section
variable {fuel n i j k:Nat} {q c:Int} {G T:AS9}
end
end Go.Proofs.YtkakafabeobahaaGreatDoor
namespace Go.Proofs.YtkakafabeobahaaGreatDoor
open Go Go.QF
set_option maxRecDepth 100000
structure PV (n k:Nat) (p:Int) (G:AS9) (r c E:Nat):Prop where
 hr:k<=r
 hrc:r<=c
 hc:c < n
 u:∃ u,G r c=u * p ^ E/\¬ p ∣ u
 dg:r≠c-> ∀ a,k<=a->a < n->p ^ (E + 1) ∣ G a a
def Dn (n k d i a e:Nat):Prop:=k<=a/\a + e < n/\(e < d∨e=d/\a < i)
section
variable {fuel n k f:Nat} {p q:Int} {G:AS9}
end
end Go.Proofs.YtkakafabeobahaaGreatDoor
namespace Go.Proofs.YtkakafabeobahaaGreatDoor
open Go Go.QF
theorem A9u (hk:k<=30) (a:Int):Aaz .and .i64 a (2 ^ k - 1)=a % 2 ^ k:=by
 show w64 (((BitVec.ofInt 64 a &&& BitVec.ofInt 64 (2 ^ k - 1)).toNat:Nat):Int)=_;have h1:(2:Int) ^ k<=2 ^ 30:=AWz AGn hk;have h2:0 < (2:Int) ^ k:=Int.pow_pos AGn;have h3:(2:Int) ^ 30=1073741824:=by decide
 have h4:((2:Int) ^ k)=((2 ^ k:Nat):Int):=by grind
 have h5:0 < 2 ^ k:=Nat.pow_pos AGn
 have e1:(((2:Int) ^ k - 1) % ((2 ^ 64:Nat):Int)).toNat=2 ^ k - 1:=by
  omega
 have e2:=Atp (q:=(2:Int) ^ k) h2 a;rw [BitVec.toNat_and,BitVec.toNat_ofInt,BitVec.toNat_ofInt,e1,Nat.and_two_pow_sub_one_eq_mod,Int.natCast_emod,Int.toNat_of_nonneg<|Int.emod_nonneg _ AGn,<- h4,Int.emod_emod_of_dvd _ (show (2:Int) ^ k ∣ ((2 ^ 64:Nat):Int) from ⟨2 ^ (64 - k),by rw [<- Int.pow_add,show k + (64 - k)=64 by omega];decide⟩),wk AGl]
theorem A5q {P A C c:Int} (hc:Eqm q c ((B * y - C * x) * v)) (hd:Eqm q d ((B * x - A * y) * v)) (hv:Eqm q (v * (A * C - B * B)) 1):((P * x + c * (P * A)) % q + d * (P * B)) % q=0/\((P * y + c * (P * B)) % q + d * (P * C)) % q=0:=by
 have one:∀ z:Int,Eqm q (P * z - P * z * (v * (A * C - B * B))) 0:=λz=>by
  have:=(Eqm.refl q<|P * z).sub ((Eqm.refl q<|P * z).mul hv);grind
 constructor
 ·refine Eqm.zero<|((Eqm.mod _ _).add (Eqm.refl _ _)).trans ((((Eqm.refl _ _).add (hc.mul<|Eqm.refl _ _)).add (hd.mul<|Eqm.refl _ _)).trans (Eqm.trans (Eqm.of_eq ?_)<|one x));grind
 ·refine Eqm.zero<|((Eqm.mod _ _).add (Eqm.refl _ _)).trans ((((Eqm.refl _ _).add (hc.mul<|Eqm.refl _ _)).add (hd.mul<|Eqm.refl _ _)).trans (Eqm.trans (Eqm.of_eq ?_)<|one y));grind
def mvF (c i a:Nat):Nat:=if a=c then i else if c < a/\a<=i then a - 1 else a
theorem A2d (i a:Nat):mvF i i a=a:=by
 unfold mvF;grind
theorem Avh {c:Nat} (hc:c + 1<=i) (a:Nat):mvF (c + 1) i (sw2 c (c + 1) a)=mvF c i a:=by
 unfold sw2;by_cases h1:a=c + 1
 ·rw [if_pos h1];unfold mvF;grind
 ·rw [if_neg h1];by_cases h2:a=c
  ·rw [if_pos h2];unfold mvF;grind
  ·rw [if_neg h2];unfold mvF;grind
def mvG (c i:Nat) (G:AS9):AS9:=λa b=>G (mvF c i a)<|mvF c i b
def mvC (c i:Nat) (T:AS9):AS9:=λa b=>T a<|mvF c i b
theorem A9v (i:Nat) (G:AS9):mvG i i G=G:=by funext a b;unfold mvG;rw [A2d,A2d]
theorem A9w (i:Nat) (T:AS9):mvC i i T=T:=by funext a b;unfold mvC;rw [A2d]
theorem A0q {c:Nat} (hc:c + 1<=i) (G:AS9):swG c (c + 1) (mvG (c + 1) i G)=mvG c i G:=by funext a b;unfold swG mvG;rw [Avh hc,Avh hc]
theorem A0r {c:Nat} (hc:c + 1<=i) (T:AS9):swC c (c + 1) (mvC (c + 1) i T)=mvC c i T:=by funext a b;unfold swC mvC;rw [Avh hc]
theorem A2e (c i:Nat):mvF c i c=i:=by unfold mvF;rw [if_pos rfl]
theorem A9x {c:Nat} (h:c < a) (h2:a<=i):mvF c i a=a - 1:=by unfold mvF;grind
theorem BCs {f:Nat} (hf:f<=i) (hij:i < j) (G:AS9):mvG f (i + 1) (mvG f j G) f f=G i i/\mvG f (i + 1) (mvG f j G) f (f + 1)=G i j/\mvG f (i + 1) (mvG f j G) (f + 1) (f + 1)=G j j:=by
 unfold mvG;rw [A2e,A9x (show f < f + 1 by omega) AGl,show f + 1 - 1=f by omega,A2e,A9x (show f < i + 1 by omega) AGl];grind
def QSt (n k K:Nat) (G:AS9) (d i r c l:Nat):Prop:=
 (l=K/\r=k/\c=k/\ ∀ a e,Dn n k d i a e->G a (a + e)=0)∨(l < K/\PV n k 2 G r c l/\ ∀ a e,Dn n k d i a e->(2:Int) ^ l ∣ G a (a + e))
section
variable {n k K d i r c l:Nat} {G:AS9}
theorem QSt.init:QSt n k K G 0 k k k K:= .inl ⟨rfl,rfl,rfl,λa e h=>by unfold Dn at h;omega⟩
theorem QSt.new {e:Nat} {u:Int} (H:QSt n k K G d i r c l) (hi:k<=i) (hin:i + d < n) (hx:G i (i + d)=u * 2 ^ e) (hu: ¬ (2:Int) ∣ u) (hl:e < l):QSt n k K G d (i + 1) i (i + d) e:=by
 have key:∀ a e',Dn n k d (i + 1) a e'->Dn n k d i a e'∨(a=i/\e'=d):=λa e h=>by unfold Dn at *;omega
 have hK:e < K:=by
  rcases H with ⟨h1,_⟩ | ⟨h1,_⟩ <;> omega
 have all:∀ a e',Dn n k d i a e'->(2:Int) ^ (e + 1) ∣ G a (a + e'):=λa e' h=>by
  rcases H with ⟨h1,_,_,h4⟩ | ⟨_,_,h3⟩
  ·simp_all
  ·exact Int.dvd_trans (AZg AGl)<|h3 a e' h
 refine .inr ⟨hK,⟨hi,AGl,hin,⟨u,hx,hu⟩,λhne a h1 h2=>?_⟩,λa e' h=>?_⟩
 ·exact all a 0 (by unfold Dn;omega)
 ·rcases key a e' h with h | ⟨rfl,rfl⟩
  ·exact Int.dvd_trans (AZg AGl) (all a e' h)
  simp_all
theorem QSt.old (H:QSt n k K G d i r c l) (hx:(2:Int) ^ l ∣ G i (i + d)) (h0:l=K->G i (i + d)=0):QSt n k K G d (i + 1) r c l:=by
 have key:∀ a e',Dn n k d (i + 1) a e'->Dn n k d i a e'∨(a=i/\e'=d):=λa e h=>by unfold Dn at *;omega
 rcases H with ⟨h1,h2,h3,h4⟩ | ⟨h1,h2,h3⟩
 ·refine .inl ⟨h1,h2,h3,λa e h=>?_⟩;grind
 ·refine .inr ⟨h1,h2,λa e' h=>?_⟩;grind
theorem QSt.row (H:QSt n k K G d i r c l) (hi: ¬ i + d < n):QSt n k K G (d + 1) k r c l:=by
 have key:∀ a e,Dn n k (d + 1) k a e->Dn n k d i a e:=λa e h=>by unfold Dn at *;omega
 rcases H with ⟨h1,h2,h3,h4⟩ | ⟨h1,h2,h3⟩
 ·exact .inl ⟨h1,h2,h3,λa e h=>h4 a e<|key a e h⟩
 ·exact .inr ⟨h1,h2,λa e h=>h3 a e<|key a e h⟩
theorem QSt.done (H:QSt n k K G (n - k) i r c l) (hk:k < n) (hne:∃ e,k + e < n/\G k (k + e)≠0):l < K/\PV n k 2 G r c l/\ ∀ a e,k<=a->a + e < n->(2:Int) ^ l ∣ G a (a + e):=by
 rcases H with ⟨_,_,_,h4⟩ | ⟨h1,h2,h3⟩
 ·obtain ⟨e,he,hx⟩:=hne;exact absurd (h4 k e (by unfold Dn;omega)) hx
 ·exact ⟨h1,h2,λa e h4 h5=>h3 a e (by unfold Dn;omega)⟩
end
end Go.Proofs.YtkakafabeobahaaGreatDoor
namespace Go.Proofs.YtkakafabeobahaaGreatDoor
open Go Go.QF
set_option maxRecDepth 100000
theorem BFs {T:List (List Int)} {n:Nat} (h1:T.length=n) (h2:∀ z∈T,z.length=n):T=tab n n (ent T):=by
 have:=Ar0 h2;rwa [h1] at this
theorem A9y {T:List (List Int)} {n:Nat} (h:∀ i,i < T.length-> ∀ z,T[i]? =some z->z.length=n):∀ z∈T,z.length=n:=λz hz=>by
 obtain ⟨i,hi⟩:=List.getElem?_of_mem hz
 grind
theorem A0s (R:Arq M) (hp:2<=p) (hp2:p<=9973) (h:Ayb (det M.length<|ent M) p v):∃ k:Nat,((if p=2 then v + 3 else v + 1)=(k:Int))/\p ^ k<=2147483647/\1<=k/\(p=2->3<=k):=by
 obtain ⟨v1,v2⟩:=Au9 R;obtain ⟨e,r,rfl,h1,h2⟩:=h;have hpe:0 < p ^ e:=Int.pow_pos AGl
 have hr:0 < r:=by
  rcases Int.lt_or_le 0 r with h | h
  ·exact h
  ·have:=Int.mul_nonpos_of_nonpos_of_nonneg h<|Int.le_of_lt hpe;omega
 have hle:1 * p ^ e<=r * p ^ e:=Int.mul_le_mul_of_nonneg_right AGl AGl
 by_cases h:p=2
 ·subst h;refine ⟨e + 3,AGl,?_,AGl,λ_=>by omega⟩;grind
 ·refine ⟨e + 1,AGl,?_,AGl,λh2=>absurd h2 h⟩;rw [Int.pow_succ];have:=Int.mul_le_mul (show p ^ e<=10000 by omega) hp2 AGl AGl;omega
end Go.Proofs.YtkakafabeobahaaGreatDoor
namespace Go.Proofs.YtkakafabeobahaaGreatDoor
open Go Go.QF
set_option maxRecDepth 100000
set_option maxHeartbeats 4000000
def AZz (fuel:Nat) (a1 a2 a3 a4 a5:Int):Option Bool:=
 if a2=1 then if Aaz .and .i64 a3 1=1 then if a4=0 then some (decide (a5=0)) else some false else some false else if a2=2 then if Aaz .and .i64 a3 1=0 then if Aaz .and .i64 a4 1=1 then some (decide (Aaz .and .i64 a5 1=0)) else some false else some false else some false
theorem Ai1 {a3:Int} (hp:AZz fuel a1 a2 a3 a4 a5=some r):ATz Tryz.prog 64 #[(.agg #[(.int .i64 a1),(.int .i64 a2),(.int .i64 a3),(.int .i64 a4),(.int .i64 a5)])] h (λx h'=>Ext h h'/\x= .bool r):=by
 unfold AZz at hp;refine cwf (l:=[_]) Tryz.func64 rfl rfl (AGq<|AY3 (Kst.k0 h) [(.int .i64 a1),(.int .i64 a2),(.int .i64 a3),(.int .i64 a4),(.int .i64 a5)] λb6 h7 E9 Aa=>AGx<|AGs<|AGq<|AUs Ac0 AT9 (Aa.b p0) 1 rfl (AGu<|AGt<|AGq<|AU0 rfl rfl (AGx ?_)));refine ⟨_,rfl,λAk=>?_,λAk=>?_⟩
 ·refine AGq<|AUs Ac1 ATg (Aa.b p0) 2 rfl (Acp rfl rfl AGn (AU0 rfl rfl (AGm ?_)));have Ao:=AT4 hp Ak;by_cases Ad:(Aaz .and .i64 a3 1)=1
  ·have Ap:=ifT Ao Ad;rw [decide_eq_true Ad];refine ATc 11 true<|AVd Ac2 rfl (ATc 11 true<|AT6 ATg rfl ((Aa.b p0).cell (i:=3) rfl) (ATc 11 true<|AU0 rfl rfl (ATf rfl (AGm ?_))));by_cases Ae:a4=0
   ·rw [decide_eq_true Ae];refine ATc 16 true<|AVd Ahc rfl (ATc 16 true<|AT6 ATg rfl ((Aa.b p0).cell (i:=4) rfl) (ATc 16 true<|AU0 rfl rfl (ATf rfl (AGx<|AG1<|AUg<|ATd ?_))));obtain rfl:=AGo<|ifT Ap Ae;exact ⟨_,AS5,Aa.x,rfl⟩
   ·rw [decide_eq_false Ae];refine AWi 16 false<|AS6 rfl (AGx<|AG1<|AUg<|ATd ?_);obtain rfl:=AGo<|ifF Ap Ae;exact ⟨_,AS5,Aa.x,rfl⟩
  ·rw [decide_eq_false Ad];refine AWi 11 false<|AS6 rfl (AGm<|AWi 16 false<|AS6 rfl (AGx<|AG1<|AUg<|ATd ?_));obtain rfl:=AGo<|ifF Ao Ad;exact ⟨_,AS5,Aa.x,rfl⟩
 ·refine AGq<|AU0 rfl rfl (AGx ?_);have Aq:=AT5 hp Ak;refine ⟨_,rfl,λAm=>?_,λAm=>?_⟩
  ·refine AGq<|AUs Ac1 ATg (Aa.b p0) 2 rfl (Acp rfl rfl AGn (AU0 rfl rfl (AGm ?_)));have Ar:=AT4 Aq Am;by_cases Af:(Aaz .and .i64 a3 1)=0
   ·have Au:=ifT Ar Af;rw [decide_eq_true Af];refine ATc 27 true<|AVd Ac2 rfl (ATc 27 true<|AT6 ATg rfl ((Aa.b p0).cell (i:=3) rfl) (ATc 27 true<|Acp rfl rfl AGn (ATc 27 true<|AU0 rfl rfl (ATf rfl (AGm ?_)))));by_cases Ag:(Aaz .and .i64 a4 1)=1
    ·rw [decide_eq_true Ag];refine ATc 33 true<|AVd Ahc rfl (ATc 33 true<|AT6 ATg rfl ((Aa.b p0).cell (i:=4) rfl) (ATc 33 true<|Acp rfl rfl AGn (ATc 33 true<|AU0 rfl rfl (ATf rfl (AGx<|AG1<|AUg<|ATd ?_)))));obtain rfl:=AGo<|ifT Au Ag;exact ⟨_,AS5,Aa.x,rfl⟩
    ·rw [decide_eq_false Ag];refine AWe 33 false<|AS6 rfl (AGx<|AG1<|AUg<|ATd ?_);obtain rfl:=AGo<|ifF Au Ag;exact ⟨_,AS5,Aa.x,rfl⟩
   ·rw [decide_eq_false Af];refine AWe 27 false<|AS6 rfl (AGm<|AWe 33 false<|AS6 rfl (AGx<|AG1<|AUg<|ATd ?_));obtain rfl:=AGo<|ifF Ar Af;exact ⟨_,AS5,Aa.x,rfl⟩
  ·refine AG0<|q_b<|q_t<|AGq<|AGx<|AG1 ?_;obtain rfl:=AGo<|AT5 Aq Am;exact ⟨_,AS5,Aa.x,rfl⟩
def Ahz (fuel:Nat) (a8:List AWq) (Ae:List Af4) (Am Ad:Int):Option ((List Af4 × Int × Int) ⊕ ((List Af4 × Bool) ⊕ List Af4)):=
 if Ad < (a8.length:Int) then (gI a8 Ad).bind λAa=>((if Aa.1 < 0 then some (.inl ([],false)) else if 60 < Aa.1 then some (.inl ([],false)) else (AZz fuel Aa.1 Aa.2.1 Aa.2.2.1 Aa.2.2.2.1 Aa.2.2.2.2).bind λAq=>if (!Aq)=true then some (.inl ([],false)) else if 0 < Ad then (gI a8<|w64<|Ad - 1).bind λAr=>if Aa.1 < Ar.1 then some (.inl ([],false)) else some (.inr ()) else some<|.inr ()):Option ((List Af4 × Bool) ⊕ Unit)).bind (λex=>match ex with | .inl Au=>(some<|.inr<|.inl Au) | .inr _=>if 8 < w64 (Am + Aa.2.1) then some (.inr<|.inl ([],false)) else ((if Ad=0 then if Ae.length<=100000000 then some (Ae ++ [(Aa.1,0,1,false,0)]) else none else (gI a8<|w64<|Ad - 1).bind λAv=>if Av.1 < Aa.1 then if Ae.length<=100000000 then some (Ae ++ [(Aa.1,0,1,false,0)]) else none else some Ae):Option (List Af4)).bind (λ(Ab:(List Af4))=>(gI Ab<|w64<|(Ab.length:Int) - 1).bind λAx=>((((if Aa.2.1=1 then (gI Ab<|w64<|(Ab.length:Int) - 1).bind λAc=>(gI (sI Ab (w64<|(Ab.length:Int) - 1) (Ac.1,Ac.2.1,Ac.2.2.1,true,Ac.2.2.2.2))<|w64<|(Ab.length:Int) - 1).bind λAf=>some (Aa.2.2.1,sI (sI Ab (w64<|(Ab.length:Int) - 1) (Ac.1,Ac.2.1,Ac.2.2.1,true,Ac.2.2.2.2)) (w64<|(Ab.length:Int) - 1) (Af.1,Af.2.1,Af.2.2.1,Af.2.2.2.1,Aaz .and .i64 (w64<|Af.2.2.2.2 + Aaz .and .i64 Aa.2.2.1 7) 7)) else some (w64<|w64 (Aa.2.2.1 * Aa.2.2.2.2) - w64 (Aa.2.2.2.1 * Aa.2.2.2.1),Ab)):Option (Int × List Af4)).bind (λ((Ao,Ag):Int × List Af4)=>((if Aaz .and .i64 Ao 7=3 then (gI Ag<|w64<|(Ab.length:Int) - 1).bind λAh=>some (sI Ag (w64<|(Ab.length:Int) - 1) (Ah.1,Ah.2.1,w64<|0 - Ah.2.2.1,Ah.2.2.2.1,Ah.2.2.2.2)) else if Aaz .and .i64 Ao 7=5 then (gI Ag<|w64<|(Ab.length:Int) - 1).bind λAi=>some (sI Ag (w64<|(Ab.length:Int) - 1) (Ai.1,Ai.2.1,w64<|0 - Ai.2.2.1,Ai.2.2.2.1,Ai.2.2.2.2)) else some Ag):Option (List Af4)).bind (λ(Ap:(List Af4))=>(gI Ap<|w64<|(Ab.length:Int) - 1).bind λAj=>some<|sI Ap (w64<|(Ab.length:Int) - 1) (Aj.1,w64<|Aj.2.1 + Aa.2.1,Aj.2.2.1,Aj.2.2.2.1,Aj.2.2.2.2)))):Option (List Af4)).bind λAw=>some<|.inl (Aw,w64<|Am + Aa.2.1,w64<|Ad + 1))) else some<|.inr<|.inr Ae
def Ac7 (fuel:Nat) (a1:Int) (a4:LiI) (a8:List AWq):Option ((List Af4) × Bool):=
 ((if ¬ a1=2 then some (.inl ([],false)) else if (a8.length:Int) < 1 then some (.inl ([],false)) else some<|.inr ()):Option ((List Af4 × Bool) ⊕ Unit)).bind (λex=>match ex with | .inl Ac=>(some Ac) | .inr _=>(iter (λs=>Ahz fuel a8 s.1 s.2.1 s.2.2) fuel ([],0,0)).bind (λex=>match ex with | .inl Ad=>(some Ad) | .inr Ae=>some (Ae,true)))
theorem Ah0 {A9:Value} {a4:LiI} {Ba:Value} {a8:(List AWq)} {r:((List Af4) × Bool)} (H3:AV4 (cI .i64) h A9 a4) (H7:SlC Ah5 h Ba a8) (hp:Ac7 fuel a1 a4 a8=some r):ATz Tryz.prog 27 #[(.agg #[(.int .i64 a1),A9,Ba])] h (λx h'=>Ext h h'/\ ∃ (x0:Value) (F0:List Nat),x= .tuple #[x0,.bool r.2]/\OwC Ait 49 h' F0 x0 r.1/\Sp h' h.size [F0]):=by
 unfold Ac7 at hp;refine cwf (l:=[_]) Tryz.func27 rfl rfl (AGq<|AY3 (Kst.k0 h) [(.int .i64 a1),A9,Ba] λFc Fd Fe Ap=>ATs<|AGx ?_);obtain ⟨Cr,B4,Bb⟩:=AGr hp;refine Aer 130828 (λx:Unit=>[]) (λx h'=>(Sum.inr <| ())=Cr/\Kst h h' (Ap.L)) ?_ ?_
 ·refine AGq<|AUs Alz ATg (Ap.b p0) 0 rfl (AVz rfl rfl (AGm ?_));by_cases Ay: ¬ a1=2
  ·rw [decide_eq_true Ay];refine AWe 11 true<|ATf rfl (AGu<|ATx rfl (AGq<|ATs<|AGx ?_));obtain rfl:=AGo<|ifT B4 Ay;refine AG1<|ATd ?_;have Bc:=Kst.anil Ait 49 Ap;obtain rfl:=AGo Bb;exact ⟨_,AUp,Bc.x,_,_,rfl,(Bc.o p0),Bc.s.sel [0] AGn⟩
  ·have B5:=ifF B4 Ay;rw [decide_eq_false Ay];refine ATc 11 false<|AVd Afn rfl (ATc 11 false<|AT6 Ak1 rfl ((Ap.b p0).cell (i:=2) rfl) (ATc 11 false<|AUl Ahr rfl H7 (ATc 11 false<|ATp rfl rfl (AS6 rfl (AGu<|⟨_,rfl,λBe=>?_,λBe=>?_⟩)))))
   ·refine AGq<|ATs<|AGx ?_;obtain rfl:=AGo<|AT4 B5 Be;refine AG1<|ATd ?_;have Bf:=Kst.anil Ait 49 Ap;obtain rfl:=AGo Bb;exact ⟨_,AUp,Bf.x,_,_,rfl,(Bf.o p0),Bf.s.sel [0] AGn⟩
   ·refine AG0<|q_t ?_;exact ⟨(():Unit),⟨AGo<|AT5 B5 Be,Ap⟩,trivial⟩
 rintro ⟨⟩ Ff Fg ⟨Ct,B6⟩;subst Ct;refine AGq<|AT2<|AGx<|AGs<|AGq<|AUs Afn Ak1 (B6.b p0) 2 rfl (AUl Ahr rfl H7 (AGm<|AGu<|AGt ?_));have B7:=Kst.anil Ait 49 B6;refine AXv 309485009821345068723732732 (λx:((List Af4)) × (Value) × LnA × (Int) × (Int)=>(x.1,x.2.2.2.1,x.2.2.2.2)) (([],(.slice none 0 0),[],0,0):((List Af4)) × (Value) × LnA × (Int) × (Int)) Bb (λx=>[(4,x.2.1),(5,(.int .i64 x.2.2.2.1)),(20,(.int .i64 x.2.2.2.2))]) (λx=>B7.L.set 0<|aO Ait 49 x.2.2.1 x.2.1 x.1) B7 ⟨rfl,rfl,rfl,trivial⟩ ?_;rintro ⟨Bg,Cu,Cv,Fh,B8⟩ Fi Fj Fk Av Bh Aq;unfold Ahz at Bh;refine AGq<|ATp rfl rfl (AGu<|AGs<|⟨_,rfl,λBi=>?_,λBi=>?_⟩)
 ·refine AG0<|q_t<|AGs<|AGt<|AGq<|AGm ?_;obtain ⟨Aa,Cw,Cx⟩:=AGr<|AT4 Bh Bi;refine Adg (c:=Ah5) Ahr rfl H7 rfl Cw λFl Fm Fo Cy Cz=>?_;obtain rfl:=Cy;refine Agu (c:=Ah5) Aag rfl rfl (λj u hu=>(ATw (Cz j u hu) Av.x)) (AV6 Av [(.int .i64 0),(.int .i64 0),(.int .i64 0),(.int .i64 0),(.int .i64 0)] Ak2 λFp Fq Fr B9=>ATs<|AVa [(.int .i64 Aa.1),(.int .i64 Aa.2.1),(.int .i64 Aa.2.2.1),(.int .i64 Aa.2.2.2.1),(.int .i64 Aa.2.2.2.2)] Aag rfl rfl rfl rfl (by simp [isOne]) (B9.b p0) λFt C0 C1=>AGu ?_);have Ak:=B9.sb p0 C1 C0 rfl;obtain ⟨C2,Ca,Ar⟩:=AGr Cx;refine Aer 18014398475927564 (λx:Unit=>[]) (λx h'=>(Sum.inr <| ())=C2/\Kst h h' (Ak.L)) ?_ ?_
  ·refine AGs<|AXi<|AUs AZ4 AT9 (Ak.b p0) 0 rfl (ATp rfl rfl (AGm ?_));by_cases Az:Aa.1 < 0
   ·rw [decide_eq_true Az];refine AWi 28 true<|ATf rfl (AGm<|AWi 33 true<|ATf rfl (AGm<|AWi 38 true<|AVo 41 AG2 rfl (AVo 41 AG2 rfl (AVo 41 AG2 rfl (AVo 41 AG2 rfl (AVo 41 AG2 rfl (AVo 41 AG2 rfl (AVo 41 AG2 rfl (AVo 41 AG2 rfl (AVo 41 AG2 rfl (AVo 41 AG2 rfl (Alq 38 true<|ATf rfl (AGu<|ATx rfl (AGq<|ATs<|AGx ?_))))))))))))));obtain rfl:=AGo<|ifT Ca Az;refine AG1<|ATd<|AUg<|ATd<|ATd<|AUg<|ATd ?_;have Bj:=Kst.anil Ait 49 Ak;obtain rfl:=AGo<|Aq _ (AGo Ar).symm;exact ⟨_,AUp,Bj.x,_,_,rfl,(Bj.o p0),Bj.s.sel [0] AGn⟩
   ·have Cb:=ifF Ca Az;rw [decide_eq_false Az];refine ATc 28 false<|AVd AZ4 rfl (ATc 28 false<|AT6 AT9 rfl ((Ak.b p0).cell (i:=0) rfl) (ATc 28 false<|AXr rfl rfl (AS6 rfl (AGm ?_))));by_cases A3:60 < Aa.1
    ·rw [decide_eq_true A3];refine AWi 33 true<|ATf rfl (AGm<|AWi 38 true<|AVo 41 AG2 rfl (AVo 41 AG2 rfl (AVo 41 AG2 rfl (AVo 41 AG2 rfl (AVo 41 AG2 rfl (AVo 41 AG2 rfl (AVo 41 AG2 rfl (AVo 41 AG2 rfl (AVo 41 AG2 rfl (AVo 41 AG2 rfl (Alq 38 true<|ATf rfl (AGu<|ATx rfl (AGq<|ATs<|AGx ?_)))))))))))));obtain rfl:=AGo<|ifT Cb A3;refine AG1<|ATd<|AUg<|ATd<|ATd<|AUg<|ATd ?_;have Bl:=Kst.anil Ait 49 Ak;obtain rfl:=AGo<|Aq _ (AGo Ar).symm;exact ⟨_,AUp,Bl.x,_,_,rfl,(Bl.o p0),Bl.s.sel [0] AGn⟩
    ·rw [decide_eq_false A3];refine ATc 33 false<|Abd [(.int .i64 Aa.1),(.int .i64 Aa.2.1),(.int .i64 Aa.2.2.1),(.int .i64 Aa.2.2.2.1),(.int .i64 Aa.2.2.2.2)] Aag rfl rfl (Ak.b p0).agg (ATc 33 false ?_);obtain ⟨C3,C4,Cd⟩:=AGr<|ifF Cb A3;refine AVs Ak (Ai1 C4) λFu Fv Am=>ATc 33 false<|AV5 rfl (AS6 rfl (AGm ?_));cases Ce:(!C3)
     ·refine ATc 38 false<|AGm<|ATc 38 false<|AXr rfl rfl (ATc 38 false<|AGm ?_);have Cf:=AY5 Cd Ce;by_cases A4:0 < B8
      ·rw [decide_eq_true A4];refine ATc 41 true<|AVd AZ4 rfl (ATc 41 true<|AT6 AT9 rfl ((Am.b p0).cell (i:=0) rfl) (ATc 41 true<|AVd Afn rfl (ATc 41 true<|AT6 Ak1 rfl ((Am.b p2).cell (i:=2) rfl) (ATc 41 true<|AGm<|ATc 41 true<|AVh rfl rfl (ATc 41 true ?_)))));obtain ⟨Fw,C5,Cg⟩:=AGr<|ifT Cf A4;refine Adg (c:=Ah5) Ahr rfl H7 rfl C5 λFx Fy Fz C6 C7=>?_;obtain rfl:=C6;refine ATc 41 true<|AVd AZ4 rfl (ATc 41 true<|AT6 AT9 rfl (ATw (C7 0 _ rfl) Am.x) (ATc 41 true<|ATp rfl rfl (ATc 38 false<|ATf rfl (AS6 rfl (AGu<|⟨_,rfl,λBm=>?_,λBm=>?_⟩)))))
       ·refine AGq<|ATs<|AGx ?_;obtain rfl:=AGo<|AT4 Cg Bm;refine AG1<|ATd<|AUg<|ATd<|ATd<|AUg<|ATd ?_;have Bn:=Kst.anil Ait 49 Am;obtain rfl:=AGo<|Aq _ (AGo Ar).symm;exact ⟨_,AUp,Bn.x,_,_,rfl,(Bn.o p0),Bn.s.sel [0] AGn⟩
       ·refine AG0<|q_t ?_;exact ⟨(():Unit),⟨AGo<|AT5 Cg Bm,Am⟩,trivial⟩
      ·rw [decide_eq_false A4];refine AY2 41 false<|AY2 41 false<|ATc 38 false<|AS6 rfl (AS6 rfl (AGu<|AT0 rfl (AG0<|q_t ?_)));exact ⟨(():Unit),⟨AGo<|ifF Cf A4,Am⟩,trivial⟩
     ·refine AWi 38 true<|AVo 41 AG2 rfl (AVo 41 AG2 rfl (AVo 41 AG2 rfl (AVo 41 AG2 rfl (AVo 41 AG2 rfl (AVo 41 AG2 rfl (AVo 41 AG2 rfl (AVo 41 AG2 rfl (AVo 41 AG2 rfl (AVo 41 AG2 rfl (Alq 38 true<|ATf rfl (AGu<|ATx rfl (AGq<|ATs<|AGx ?_))))))))))));obtain rfl:=AGo<|ifT Cd Ce;refine AG1<|ATd<|AUg<|ATd<|ATd<|AUg<|ATd ?_;have Bo:=Kst.anil Ait 49 Am;obtain rfl:=AGo<|Aq _ (AGo Ar).symm;exact ⟨_,AUp,Bo.x,_,_,rfl,(Bo.o p0),Bo.s.sel [0] AGn⟩
  rintro ⟨⟩ F4 F5 ⟨C8,Ab⟩;subst C8;refine AGq<|AGm<|AUs Ac0 AT9 (Ab.b p0) 1 rfl (ATn rfl rfl (AGx<|AGs<|AGq<|AGm<|AXr rfl rfl (AGu<|⟨_,rfl,λBp=>?_,λBp=>?_⟩)))
  ·refine AGq<|ATs<|AGx<|AG1<|ATd<|AUg<|ATd<|ATd<|AUg<|ATd ?_;have Bq:=Kst.anil Ait 49 Ab;obtain rfl:=AGo<|Aq _ (AGo<|AT4 Ar Bp).symm;exact ⟨_,AUp,Bq.x,_,_,rfl,(Bq.o p0),Bq.s.sel [0] AGn⟩
  ·refine AG0<|q_t ?_;obtain ⟨C9,Ch,Da⟩:=AGr<|AT5 Ar Bp;refine Aer 1208924666693124567859216 (λx:((List Af4)) × (Value) × LnA=>[(4,x.2.1)]) (λx h'=>( x.1)=C9/\Kst h h' (Ab.L.set 1<|aO Ait 49 x.2.2 x.2.1 x.1)) ?_ ?_
   ·refine AGs<|AXi<|AGm<|AU0 rfl rfl (AGm ?_);by_cases A5:B8=0
    ·rw [decide_eq_true A5];refine AY2 62 true<|AY2 62 true<|ATf rfl (AGu<|ATx rfl (AS8<|AGm<|AUs AZ4 AT9 (Ab.b p0) 0 rfl (AXa (v:=(.agg #[(.int .i64 Aa.1),(.int .i64 0),(.int .i64 1),(.bool false),(.int .i64 0)])) (λ_=>by kernel_rfl) ?_)));obtain ⟨Db,Dc⟩:=ifN<|ifT Ch A5;refine Afm Aoa Axg rfl rfl trivial tt2 (λ_=>rfl) rfl (show (Ait).rep _ (Aa.1,0,1,false,0) [(.int .i64 Aa.1),(.int .i64 0),(.int .i64 1),(.bool false),(.int .i64 0)] from rfl) (Ab.o p1) AGn Db λF6 Dd De F7 Df Dg Dh=>AGx ?_;exact ⟨(((Bg ++ [(Aa.1,0,1,false,0)]),De,Dd):((List Af4)) × (Value) × LnA),⟨AGo Dc,(Ab.uo p1 Dg Df Dh)⟩,rfl,trivial⟩
    ·rw [decide_eq_false A5];refine ATc 62 false<|AVd AZ4 rfl (ATc 62 false<|AT6 AT9 rfl ((Ab.b p0).cell (i:=0) rfl) (ATc 62 false<|AVd Afn rfl (ATc 62 false<|AT6 Ak1 rfl ((Ab.b p2).cell (i:=2) rfl) (ATc 62 false<|AGm<|ATc 62 false<|AVh rfl rfl (ATc 62 false ?_)))));obtain ⟨F8,Di,Ci⟩:=AGr<|ifF Ch A5;refine Adg (c:=Ah5) Ahr rfl H7 rfl Di λF9 Ga Gb Dj Dk=>?_;obtain rfl:=Dj;refine ATc 62 false<|AVd AZ4 rfl (ATc 62 false<|AT6 AT9 rfl (ATw (Dk 0 _ rfl) Ab.x) (ATc 62 false<|AXr rfl rfl (AS6 rfl (AGu<|⟨_,rfl,λBr=>?_,λBr=>?_⟩))))
     ·refine AS8<|AGm<|AUs AZ4 AT9 (Ab.b p0) 0 rfl (AXa (v:=(.agg #[(.int .i64 Aa.1),(.int .i64 0),(.int .i64 1),(.bool false),(.int .i64 0)])) (λ_=>by kernel_rfl) ?_);obtain ⟨Dl,Do⟩:=ifN<|AT4 Ci Br;refine Afm Aoa Axg rfl rfl trivial tt2 (λ_=>rfl) rfl (show (Ait).rep _ (Aa.1,0,1,false,0) [(.int .i64 Aa.1),(.int .i64 0),(.int .i64 1),(.bool false),(.int .i64 0)] from rfl) (Ab.o p1) AGn Dl λGc Dp Dq Gd Dr Ds Dt=>AGx ?_;exact ⟨(((Bg ++ [(Aa.1,0,1,false,0)]),Dq,Dp):((List Af4)) × (Value) × LnA),⟨AGo Do,(Ab.uo p1 Ds Dr Dt)⟩,rfl,trivial⟩
     ·refine AG0<|q_t ?_;exact ⟨((Bg,Cu,Cv):((List Af4)) × (Value) × LnA),⟨AGo<|AT5 Ci Br,Ab⟩,rfl,trivial⟩
   rintro ⟨Ao,Bt,Bu⟩ Ge Gf ⟨Du,Aw⟩;subst Du;refine AXi<|AGm<|AGm<|AUl Aoa rfl (Aw.o p1).rd (AVh rfl rfl ?_);obtain ⟨Gg,Dv,Dw⟩:=AGr Da;refine Aq8 Aoa rfl (Aw.o p1) rfl Dv λGh Ah=>Abd [(.int .i64 Aa.1),(.int .i64 Aa.2.1),(.int .i64 Aa.2.2.1),(.int .i64 Aa.2.2.2.1),(.int .i64 Aa.2.2.2.2)] Aag rfl rfl (Aw.b p0).agg ?_;obtain ⟨Dx,Dy,Dz⟩:=AGr Dw;refine ATo (K':=(λxr h'=> ∃ x:((List Af4)),x=Dx/\xr= .tuple #[]/\Kst h h' (Aw.L.set 1<|aO Ait 49 Bu Bt x))) trivial rfl ?_ λGi Gj D0=>?_
   ·refine cwf (l:=[_,_]) Tryz.func65 rfl rfl (AGq<|AY3 Aw [(.int .i64 Aa.1),(.int .i64 Aa.2.1),(.int .i64 Aa.2.2.1),(.int .i64 Aa.2.2.2.1),(.int .i64 Aa.2.2.2.2)] λGk Gl Gm Ac=>Aal<|AUs Ac1 ATg (Ac.b p0) 2 rfl (AGx ?_));obtain ⟨D1,Cj,D2⟩:=AGr Dy;refine Aer 137438953232 (λx:(Int) × ((List Af4))=>[(4,(.int .i64 x.1))]) (λx h'=>( (x.1,x.2))=D1/\Kst h h' (Ac.L.set 2<|aO Ait 49 Bu Bt x.2)) ?_ ?_
    ·refine AGq<|AUs Ac0 AT9 (Ac.b p0) 1 rfl (AU0 rfl rfl (AGu<|⟨_,rfl,λBv=>?_,λBv=>?_⟩))
     ·refine AGq<|AGm<|AU2 rfl (AVd A2v rfl ?_);obtain ⟨Ai,D3,D4⟩:=AGr<|AT4 Cj Bv;refine Aui (c:=Ait) (a':=(Ai.1,Ai.2.1,Ai.2.2.1,true,Ai.2.2.2.2)) AXb rfl rfl rfl AGn (Ac.o p2) Ah D3 (λ_ q=>by cases q;rfl) λGn D5 D6=>AGu<|AXi<|AGm<|AGm<|AU2 rfl (AVd A2w rfl ?_);have A6:=Ac.uO p2 D6 D5;obtain ⟨Ad,Ck,D7⟩:=AGr D4;obtain ⟨Gp,D8,D9⟩:=(A6.o p2).cells Ah Ck;obtain rfl:=D8;refine AT6 AT9 rfl (D9 4 _ rfl) (AUs Ac1 ATg (A6.b p0) 2 rfl (Acp rfl rfl AGn (ATn rfl rfl (Acp rfl rfl AGn (AU2 rfl (AVd A2w rfl (Aui (c:=Ait) (a':=(Ad.1,Ad.2.1,Ad.2.2.1,Ad.2.2.2.1,(Aaz .and .i64 (w64<|Ad.2.2.2.2 + (Aaz .and .i64 Aa.2.2.1 7)) 7))) AT9 rfl rfl rfl AGn (A6.o p2) Ah Ck (λ_ q=>by cases q;rfl) λGq Ea Eb=>AGu ?_)))))));exact ⟨((Aa.2.2.1,(sI (sI Ao (w64<|(Ao.length:Int) - 1) (Ai.1,Ai.2.1,Ai.2.2.1,true,Ai.2.2.2.2)) (w64<|(Ao.length:Int) - 1) (Ad.1,Ad.2.1,Ad.2.2.1,Ad.2.2.2.1,(Aaz .and .i64 (w64<|Ad.2.2.2.2 + (Aaz .and .i64 Aa.2.2.1 7)) 7)))):(Int) × ((List Af4))),⟨AGo D7,(A6.uO p2 Eb Ea)⟩,rfl,trivial⟩
     ·refine AS8<|AUs Ac1 ATg (Ac.b p0) 2 rfl (AUs Ahc ATg (Ac.b p0) 4 rfl (Aaq rfl rfl (AUs Ac2 ATg (Ac.b p0) 3 rfl (AUs Ac2 ATg (Ac.b p0) 3 rfl (Aaq rfl rfl (AVh rfl rfl (AGx ?_)))))));exact ⟨(((w64<|(w64<|Aa.2.2.1 * Aa.2.2.2.2) - (w64<|Aa.2.2.2.1 * Aa.2.2.2.1)),Ao):(Int) × ((List Af4))),⟨AGo<|AT5 Cj Bv,Ac⟩,rfl,trivial⟩
    rintro ⟨Ec,Bw⟩ Gr Gt ⟨Ed,Aj⟩;subst Ed;obtain ⟨Ee,Cm,Ef⟩:=AGr D2;refine Aer 9007061815787552 (λx:((List Af4))=>[]) (λx h'=>( x)=Ee/\Kst h h' (Aj.L.set 2<|aO Ait 49 Bu Bt x)) ?_ ?_
    ·refine AGq<|AGm<|Acp rfl rfl AGn (AT2<|AGm<|AU0 rfl rfl (AGm ?_));by_cases A7:(Aaz .and .i64 Ec 7)=3
     ·rw [decide_eq_true A7];refine Adc 41 true<|ATf rfl (AGu<|ATx rfl (AS8<|AGm<|AGm<|AU2 rfl (AVd Atc rfl ?_)));obtain ⟨Ae,Cn,Eg⟩:=AGr<|ifT Cm A7;obtain ⟨Gu,Eh,Ei⟩:=(Aj.o p2).cells Ah Cn;obtain rfl:=Eh;refine AT6 AT9 rfl (Ei 2 _ rfl) (Atu rfl (AU2 rfl (AVd Atc rfl (Aui (c:=Ait) (a':=(Ae.1,Ae.2.1,(w64<|0 - Ae.2.2.1),Ae.2.2.2.1,Ae.2.2.2.2)) AT9 rfl rfl rfl AGn (Aj.o p2) Ah Cn (λ_ q=>by cases q;rfl) λGv Ej Ek=>AGu ?_))));exact ⟨((sI Bw (w64<|(Ao.length:Int) - 1) (Ae.1,Ae.2.1,(w64<|0 - Ae.2.2.1),Ae.2.2.2.1,Ae.2.2.2.2)):((List Af4))),⟨AGo Eg,(Aj.uO p2 Ek Ej)⟩,trivial⟩
     ·have Co:=ifF Cm A7;rw [decide_eq_false A7];refine ATc 41 false<|AGm<|ATc 41 false<|AU0 rfl rfl (AS6 rfl (AGu<|⟨_,rfl,λBx=>?_,λBx=>?_⟩))
      ·refine AS8<|AGm<|AGm<|AU2 rfl (AVd Atc rfl ?_);obtain ⟨Af,Cp,El⟩:=AGr<|AT4 Co Bx;obtain ⟨Gw,Em,En⟩:=(Aj.o p2).cells Ah Cp;obtain rfl:=Em;refine AT6 AT9 rfl (En 2 _ rfl) (Atu rfl (AU2 rfl (AVd Atc rfl (Aui (c:=Ait) (a':=(Af.1,Af.2.1,(w64<|0 - Af.2.2.1),Af.2.2.2.1,Af.2.2.2.2)) AT9 rfl rfl rfl AGn (Aj.o p2) Ah Cp (λ_ q=>by cases q;rfl) λGx Eo Ep=>AGu ?_))));exact ⟨((sI Bw (w64<|(Ao.length:Int) - 1) (Af.1,Af.2.1,(w64<|0 - Af.2.2.1),Af.2.2.2.1,Af.2.2.2.2)):((List Af4))),⟨AGo El,(Aj.uO p2 Ep Eo)⟩,trivial⟩
      ·refine AG0<|q_t ?_;exact ⟨(Bw:((List Af4))),⟨AGo<|AT5 Co Bx,Aj⟩,trivial⟩
    rintro Er Gy Gz ⟨Es,A8⟩;subst Es;refine AXi<|AGm<|AU2 rfl (AVd A2u rfl ?_);obtain ⟨Ag,Cq,Et⟩:=AGr Ef;obtain ⟨G3,Eu,Ev⟩:=(A8.o p2).cells Ah Cq;obtain rfl:=Eu;refine AT6 AT9 rfl (Ev 1 _ rfl) (AUs Ac0 AT9 (A8.b p0) 1 rfl (ATn rfl rfl (AU2 rfl (AVd A2u rfl (Aui (c:=Ait) (a':=(Ag.1,(w64<|Ag.2.1 + Aa.2.1),Ag.2.2.1,Ag.2.2.2.1,Ag.2.2.2.2)) AT9 rfl rfl rfl AGn (A8.o p2) Ah Cq (λ_ q=>by cases q;rfl) λG4 Ew Ey=>ATu<|⟨_,Aa0,((sI Er (w64<|(Ao.length:Int) - 1) (Ag.1,(w64<|Ag.2.1 + Aa.2.1),Ag.2.2.1,Ag.2.2.2.1,Ag.2.2.2.2)):((List Af4))),?_,rfl,?_⟩)))))
    ·exact AGo Et
    ·exact (A8.uO p2 Ey Ew).sel [1,2,3] AGn
   obtain ⟨G5,Ez,rfl,Fa⟩:=D0;refine ⟨trivial,?_⟩;subst Ez;refine ATu<|q_b<|q_t<|AS8<|ATn rfl rfl (AGm<|AGu ?_);exact ⟨(_,_,_,_,_),(AGo Dz).symm,Fa.sel [1,2] AGn,rfl,rfl,rfl,trivial⟩
 ·refine ATh<|ATi<|ATi<|AUf<|q_t<|AGq<|AGm<|ATs<|AGx<|AG1 ?_;obtain rfl:=AGo<|Aq _ (AGo<|AT5 Bh Bi).symm;exact ⟨_,AUp,Av.x,_,_,rfl,(Av.o p0),Av.s.sel [0] AGn⟩
def Am9 (fuel:Nat) (Ab:List Af4) (Aa:Int):Option (Int ⊕ (Bool ⊕ Unit)):=
 if Aa < (Ab.length:Int) then (gI Ab Aa).bind λAc=>if Ac.1=0 then if Ac.2.2.2.1=true then some (.inr<|.inl false) else some (.inl<|w64<|Aa + 1) else some (.inl<|w64<|Aa + 1) else some<|.inr<|.inr ()
def Ami (fuel:Nat) (a1:Int) (a4:LiI) (a8:List AWq):Option Bool:=
 (Ac7 fuel a1 a4 a8).bind λ(Ad,Ae)=>if (!Ae)=true then some false else (iter (λs=>Am9 fuel Ad s) fuel 0).bind (λex=>match ex with | .inl Af=>(some Af) | .inr _=>some true)
theorem Ass {Ad:Value} {a4:LiI} {a8:(List AWq)} (H3:AV4 (cI .i64) h Ad a4) (H7:SlC Ah5 h Ae a8) (hp:Ami fuel a1 a4 a8=some r):ATz Tryz.prog 46 #[(.agg #[(.int .i64 a1),Ad,Ae])] h (λx h'=>Ext h h'/\x= .bool r):=by
 unfold Ami at hp;refine cwf (l:=[_]) Tryz.func46 rfl rfl (AGq<|AY3 (Kst.k0 h) [(.int .i64 a1),Ad,Ae] λBg Bh Bi Af=>AT2<|Abd [(.int .i64 a1),Ad,Ae] Aev rfl rfl (Af.b p0).agg ?_);obtain ⟨⟨Bj,Bl⟩,A5,Ai⟩:=AGr hp;dsimp only at Ai;refine Agw rfl (Ah0 (H3.ext Af.x) (H7.ext Af.x) A5) λBm Bn A6 A7=>?_;obtain ⟨Bo,Bp,rfl,A8,A9⟩:=A7;refine AGm<|AUk rfl rfl (AUk rfl rfl (ATs<|AGx<|AGs<|AGq<|AGm<|AV5 rfl (AGu ?_)));have Aj:=Af.no A6 A9 A8;refine ⟨_,rfl,λAk=>?_,λAk=>?_⟩
 ·refine AGq<|AGx<|AG1<|ATd ?_;obtain rfl:=AGo<|ifT Ai Ak;exact ⟨_,AS5,Aj.x,rfl⟩
 ·refine AG0<|q_t<|AGs<|AGq<|AGm<|AUl Aoa rfl (Aj.o p0).rd (AGm<|AGu<|AGt ?_);have Am:=Aj.sel [0] AGn;dsimp only [AZ3,Adk] at Am;refine AYr 268369988 (AY5 Ai Ak) (λx=>[(16,(.int .i64 x))]) (λx=>Am.L) Am ⟨rfl,trivial⟩ ?_;rintro Bq Br Bt Bu Ag Ao Av;unfold Am9 at Ao;refine AGq<|ATp rfl rfl (AGu<|AGs<|⟨_,rfl,λAp=>?_,λAp=>?_⟩)
  ·refine AG0<|q_t<|AGs<|AGt<|AGq ?_;obtain ⟨Aa,Aw,Ax⟩:=AGr<|AT4 Ao Ap;refine Aq8 Aoa rfl (Ag.o p0) rfl Aw λBv Ba=>?_;obtain ⟨Bw,Bb,Bc⟩:=(Ag.o p0).cells Ba Aw;obtain rfl:=Bb;refine Agu (c:=Ait) Axf rfl rfl (λj u hu=>(Bc j u hu)) (AV6 Ag [(.int .i64 0),(.int .i64 0),(.int .i64 0),(.bool false),(.int .i64 0)] Axg λBx By Bz Ay=>AVa [(.int .i64 Aa.1),(.int .i64 Aa.2.1),(.int .i64 Aa.2.2.1),(.bool Aa.2.2.2.1),(.int .i64 Aa.2.2.2.2)] Axf rfl rfl rfl rfl (by simp [isOne]) (Ay.b p0) λB1 Be Bf=>Aal ?_);have Ab:=Ay.sb p0 Bf Be rfl;refine AUs BAy AT9 (Ab.b p0) 0 rfl (AU0 rfl rfl (AGm ?_));by_cases Ah:Aa.1=0
   ·have Az:=ifT Ax Ah;rw [decide_eq_true Ah];refine ATc 23 true<|AVd A2v rfl (ATc 23 true<|AT6 AXb rfl ((Ab.b p0).cell (i:=3) rfl) (ATf rfl (AGu<|⟨_,rfl,λAq=>?_,λAq=>?_⟩)))
    ·refine AGq<|AGx<|AG1<|AUg<|ATd<|ATd<|AUg<|ATd ?_;obtain rfl:=AGo<|Av _ (AGo<|ifT Az Aq).symm;exact ⟨_,AS5,Ab.x,rfl⟩
    ·refine AG0<|q_b<|q_t<|AS8<|ATn rfl rfl (AGm<|AGu ?_);exact ⟨_,(AGo<|AY5 Az Aq).symm,Ab.sel [1] AGn,rfl,trivial⟩
   ·rw [decide_eq_false Ah];refine Adc 23 false<|AS6 rfl (AGu<|AT0 rfl (AG0<|q_b<|q_t<|AS8<|ATn rfl rfl (AGm<|AGu ?_)));exact ⟨_,(AGo<|ifF Ax Ah).symm,Ab.sel [1] AGn,rfl,trivial⟩
  ·refine ATh<|ATi<|ATi<|AUf<|q_t<|AGq<|AGx<|AG1 ?_;obtain rfl:=AGo<|Av _ (AGo<|AT5 Ao Ap).symm;exact ⟨_,AS5,Ag.x,rfl⟩
def Aeq (fuel:Nat) (a1 a3 a4 a5 a6 Ac:Int):Option (Int ⊕ (Bool ⊕ Unit)):=
 if Ac < 3 then (gI ([a3,a4,a5]:List Int) Ac).bind λAd=>if Ad < 0 then some (.inr<|.inl false) else if 0<=w64 (a6 - a1)/\w64 (a6 - a1)<=64 then if w64 (1 * 2 ^ Int.toNat (w64<|a6 - a1))<=Ad then some (.inr<|.inl false) else some (.inl<|w64<|Ac + 1) else none else some<|.inr<|.inr ()
def Afc (fuel:Nat) (a1 a2 a3 a4 a5 a6:Int):Option Bool:=
 (iter (λs=>Aeq fuel a1 a3 a4 a5 a6 s) fuel 0).bind (λex=>match ex with | .inl Af=>(some Af) | .inr _=>some true)
theorem Ap4 {a3:Int} (hp:Afc fuel a1 a2 a3 a4 a5 a6=some r):ATz Tryz.prog 85 #[(.agg #[(.int .i64 a1),(.int .i64 a2),(.int .i64 a3),(.int .i64 a4),(.int .i64 a5)]),(.int .i64 a6)] h (λx h'=>Ext h h'/\x= .bool r):=by
 unfold Afc at hp;refine cwf (l:=[_,_]) Tryz.func85 rfl rfl (AGq<|AY3 (Kst.k0 h) [(.int .i64 a1),(.int .i64 a2),(.int .i64 a3),(.int .i64 a4),(.int .i64 a5)] λb7 h8 Ay Aa=>AGx<|AGs<|AGq<|AUs Ac1 ATg (Aa.b p0) 2 rfl (AUs Ac2 ATg (Aa.b p0) 3 rfl (AUs Ahc ATg (Aa.b p0) 4 rfl (AXa (v:=(.agg #[(.int .i64 a3),(.int .i64 a4),(.int .i64 a5)])) (λ_=>by kernel_rfl)<|AGm<|AGu<|AGt<|AYr 536854608 hp (λx=>[(14,(.int .i64 x))]) (λx=>Aa.L) Aa ⟨rfl,trivial⟩ ?_))));rintro Az A3 A4 A5 Ab Ai Aj;unfold Aeq at Ai;refine AGq<|ATp rfl rfl (AGu<|AGs<|⟨_,rfl,λAk=>?_,λAk=>?_⟩)
 ·refine AG0<|q_t<|AGs<|AGt<|AGq ?_;obtain ⟨Ar,Au,Ap⟩:=AGr<|AT4 Ai Ak;refine A59 (cs:= #[]) (v:=undef) (BGj Au)<|AT2<|AGm<|ATp rfl rfl (AGm ?_);by_cases Af:Ar < 0
  ·rw [decide_eq_true Af];refine AY2 19 true<|Adc 19 true<|ATf rfl (AGu<|ATx rfl (AGq<|AGx<|AG1<|AUg<|ATd<|ATd<|AUg<|ATd ?_));obtain rfl:=AGo<|Aj _ (AGo<|ifT Ap Af).symm;exact ⟨_,AS5,Ab.x,rfl⟩
  ·rw [decide_eq_false Af];refine ATc 19 false<|AGm<|ATc 19 false<|AGm<|ATc 19 false<|AVd AZ4 rfl (ATc 19 false<|AT6 AT9 rfl ((Ab.b p0).cell (i:=0) rfl) (ATc 19 false<|AVh rfl rfl (ATc 19 false ?_)));obtain ⟨Av,Aq⟩:=ifN<|ifF Ap Af;refine Aah rfl rfl Av (ATc 19 false<|Afp rfl rfl (AS6 rfl (AGu<|⟨_,rfl,λAm=>?_,λAm=>?_⟩)))
   ·refine AGq<|AGx<|AG1<|AUg<|ATd<|ATd<|AUg<|ATd ?_;obtain rfl:=AGo<|Aj _ (AGo<|AT4 Aq Am).symm;exact ⟨_,AS5,Ab.x,rfl⟩
   ·refine AG0<|q_b<|q_t<|AS8<|ATn rfl rfl (AGm<|AGu ?_);exact ⟨_,(AGo<|AT5 Aq Am).symm,Ab,rfl,trivial⟩
 ·refine ATh<|ATi<|ATi<|AUf<|q_t<|AGq<|AGx<|AG1 ?_;obtain rfl:=AGo<|Aj _ (AGo<|AT5 Ai Ak).symm;exact ⟨_,AS5,Ab.x,rfl⟩
def Afz (fuel:Nat) (Aa:Int) (Ac:LiA) (Ab:Int):Option (Int ⊕ (Bool ⊕ Unit)):=
 if Ab < (Ac.length:Int) then (gI Ac Ab).bind λAd=>if Ad < 0 then some (.inr<|.inl false) else if 0<=Aa/\Aa<=64 then if w64 (1 * 2 ^ Int.toNat Aa)<=Ad then some (.inr<|.inl false) else some (.inl<|w64<|Ab + 1) else none else some<|.inr<|.inr ()
def Af0 (fuel:Nat) (Ac Ad:LiI) (Ab:Int) (Ae:LiA) (Aa:Int):Option (Int ⊕ (Bool ⊕ Unit)):=
 if Aa < (Ae.length:Int) then (gI Ad Ab).bind λAf=>(gI Af Aa).bind λAg=>(gI Ac Ab).bind λAh=>(gI Ah Aa).bind λAi=>if ¬ Ag=Ai then some (.inr<|.inl false) else some (.inl<|w64<|Aa + 1) else some<|.inr<|.inr ()
def Acx (fuel:Nat) (Ac Ab:LiI) (Aa:Int):Option (Int ⊕ (Bool ⊕ Unit)):=
 if Aa < (Ab.length:Int) then (gI Ab Aa).bind λAd=>(iter (λs=>Af0 fuel Ac Ab Aa Ad s) fuel 0).bind (λex=>match ex with | .inl Ae=>(some<|.inr<|.inl Ae) | .inr _=>some<|.inl<|w64<|Aa + 1) else some<|.inr<|.inr ()
def Af1 (fuel:Nat) (Ah:List AWq) (Ai Ab Ak Af:Int) (Ac:LiI):Option ((Int × Int × Int × LiI) ⊕ (Bool ⊕ LiI)):=
 if Af < (Ah.length:Int) then (gI Ah Af).bind λAa=>((if Aa.1 < Ak then some (.inl false) else if w64 (Ai - 3) < Aa.1 then some (.inl false) else (Afc fuel Aa.1 Aa.2.1 Aa.2.2.1 Aa.2.2.2.1 Aa.2.2.2.2 Ai).bind λAm=>if (!Am)=true then some (.inl false) else (AZz fuel Aa.1 Aa.2.1 Aa.2.2.1 Aa.2.2.2.1 Aa.2.2.2.2).bind λAo=>if (!Ao)=true then some (.inl false) else some<|.inr ()):Option (Bool ⊕ Unit)).bind (λex=>match ex with | .inl Ap=>(some<|.inr<|.inl Ap) | .inr _=>(gI Ac Ab).bind λAd=>if 0<=Aa.1/\Aa.1<=64 then (gI Ad Ab).bind λAr=>((if Aa.2.1=2 then (gI (sI Ac Ab<|sI Ad Ab<|w64<|Aa.2.2.1 * 2 ^ Int.toNat Aa.1) Ab).bind λAe=>if 0<=Aa.1/\Aa.1<=64 then (gI Ae<|w64<|Ab + 1).bind λAu=>(gI (sI (sI Ac Ab<|sI Ad Ab<|w64<|Aa.2.2.1 * 2 ^ Int.toNat Aa.1) Ab<|sI Ae (w64<|Ab + 1)<|w64<|Aa.2.2.2.1 * 2 ^ Int.toNat Aa.1)<|w64<|Ab + 1).bind λAg=>if 0<=Aa.1/\Aa.1<=64 then (gI Ag Ab).bind λAv=>(gI (sI (sI (sI Ac Ab<|sI Ad Ab<|w64<|Aa.2.2.1 * 2 ^ Int.toNat Aa.1) Ab<|sI Ae (w64<|Ab + 1)<|w64<|Aa.2.2.2.1 * 2 ^ Int.toNat Aa.1) (w64<|Ab + 1)<|sI Ag Ab<|w64<|Aa.2.2.2.1 * 2 ^ Int.toNat Aa.1)<|w64<|Ab + 1).bind λAj=>if 0<=Aa.1/\Aa.1<=64 then (gI Aj<|w64<|Ab + 1).bind λAw=>some (sI (sI (sI (sI Ac Ab<|sI Ad Ab<|w64<|Aa.2.2.1 * 2 ^ Int.toNat Aa.1) Ab<|sI Ae (w64<|Ab + 1)<|w64<|Aa.2.2.2.1 * 2 ^ Int.toNat Aa.1) (w64<|Ab + 1)<|sI Ag Ab<|w64<|Aa.2.2.2.1 * 2 ^ Int.toNat Aa.1) (w64<|Ab + 1)<|sI Aj (w64<|Ab + 1)<|w64<|Aa.2.2.2.2 * 2 ^ Int.toNat Aa.1) else none else none else none else some<|sI Ac Ab<|sI Ad Ab<|w64<|Aa.2.2.1 * 2 ^ Int.toNat Aa.1):Option LiI).bind (λ(Aq:LiI)=>some<|.inl (w64<|Ab + Aa.2.1,Aa.1,w64<|Af + 1,Aq)) else none) else some<|.inr<|.inr Ac
def Af2 (fuel:Nat) (a3:LiI) (Ab:Int) (Ac:LiI):Option ((Int × LiI) ⊕ LiI):=
 if Ab < ((List.replicate (Int.toNat (a3.length:Int)) ([]:List Int)).length:Int) then if 0<=(a3.length:Int)/\(a3.length:Int)<=100000000 then (gI Ac Ab).bind λAd=>some (.inl (w64<|Ab + 1,sI Ac Ab<|List.replicate (Int.toNat (a3.length:Int)) (0:Int))) else none else some<|.inr Ac
def Acy (fuel:Nat) (a8:LiI) (Ac Aa:Int):Option (Int ⊕ (Bool ⊕ Unit)):=
 if Aa < (a8.length:Int) then (gI a8 Aa).bind λAd=>(iter (λs=>Afz fuel Ac Ad s) fuel 0).bind (λex=>match ex with | .inl Ae=>(some<|.inr<|.inl Ae) | .inr _=>some<|.inl<|w64<|Aa + 1) else some<|.inr<|.inr ()
def Agb (fuel:Nat) (a3:LiI) (a5:Int) (a8:LiI) (Ad:List AWq) (Ab:Int):Option Bool:=
 (iter (λs=>Acy fuel a8 Ab s) fuel 0).bind (λex=>match ex with | .inl Ae=>(some Ae) | .inr _=>(Ahy fuel a8 2).bind λ(Af,Ao)=>if Af=0 then some false else if 0<=(a3.length:Int)/\(a3.length:Int)<=100000000 then (iter (λs=>Af2 fuel a3 s.1 s.2) fuel (0,List.replicate (Int.toNat (a3.length:Int)) ([]:List Int))).bind (λ(Ag:LiI)=>(iter (λs=>Af1 fuel Ad Ab s.1 s.2.1 s.2.2.1 s.2.2.2) fuel (0,0,0,Ag)).bind (λex=>match ex with | .inl Ah=>(some Ah) | .inr Ai=>if 0<=Ab/\Ab<=64 then (Aav fuel a3 a8<|w64<|1 * 2 ^ Int.toNat Ab).bind λ(Aj,Ap)=>(iter (λs=>Acx fuel Ai Aj s) fuel 0).bind (λex=>match ex with | .inl Ak=>(some Ak) | .inr _=>some true) else none)) else none)
theorem Aqv {B1:Value} {A3:Value} {a8:LiI} {A4:Value} {B4:(List AWq)} {A5:Int} (H2:AV4 (cI .i64) h B1 a3) (H7:AV4 (cI .i64) h A3 a8) (B5:SlC Ah5 h A4 B4) (hp:Agb fuel a3 a5 a8 B4 A5=some r):ATz Tryz.prog 43 #[B1,(.agg #[(.int .i64 a5),A3,A4]),(.int .i64 A5)] h (λx h'=>Ext h h'/\x= .bool r):=by
 unfold Agb at hp;refine cwf (l:=[_,_,_]) Tryz.func43 rfl rfl (AGq<|AY3 (Kst.k0 h) [(.int .i64 a5),A3,A4] λF4 F5 F6 A7=>AGx<|AGs<|AGq<|AUs Ahb AU5 (A7.b p0) 1 rfl (AT3 ATb rfl H7 (AGm<|AGu<|AGt<|AYr 281474708276544 hp (λx=>[(28,(.int .i64 x))]) (λx=>A7.L) A7 ⟨rfl,trivial⟩ ?_)));rintro F7 F8 F9 Ga Ae A8 A9;unfold Acy at A8;refine AGq<|ATp rfl rfl (AGu<|AGs<|⟨_,rfl,λBa=>?_,λBa=>?_⟩)
 ·refine AG0<|q_t<|AGs<|AGt<|AGq ?_;obtain ⟨Gb,C4,C5⟩:=AGr<|AT4 A8 Ba;refine AZ1 ATb ATq H7 Ae.x C4 λ_ Gc B6=>AT2<|AGm<|AUl ATa rfl B6 (AGm<|AGu<|AGt<|AYr 140720308487232 C5 (λx=>[(34,(.int .i64 x))]) (λx=>Ae.L) Ae ⟨rfl,trivial⟩ ?_);rintro Gd Ge Gf Gg Ah Bb Bc;unfold Afz at Bb;refine AGq<|ATp rfl rfl (AGu<|AGs<|⟨_,rfl,λBe=>?_,λBe=>?_⟩)
  ·refine AG0<|q_t<|AGs<|AGt<|AGq ?_;obtain ⟨C6,C7,B7⟩:=AGr<|AT4 Bb Be;refine Aoc ATa ATg B6 Ah.x C7 λ_=>(AT2<|AGm<|ATp rfl rfl (AGm ?_));by_cases Ap:C6 < 0
   ·rw [decide_eq_true Ap];refine AWe 40 true<|ATf rfl (AGu<|ATx rfl (AGq<|AGx<|AG1<|AUg<|ATd<|ATd<|AUg<|AUg<|ATd<|ATd<|AUg<|ATd ?_));obtain rfl:=AGo<|A9 _ (AGo<|Bc _ (AGo<|ifT B7 Ap).symm).symm;exact ⟨_,AS5,Ah.x,rfl⟩
   ·rw [decide_eq_false Ap];refine ATc 40 false<|AGm<|ATc 40 false<|AGm<|ATc 40 false ?_;obtain ⟨C8,B8⟩:=ifN<|ifF B7 Ap;refine Aah rfl rfl C8 (ATc 40 false<|Afp rfl rfl (AS6 rfl (AGu<|⟨_,rfl,λBf=>?_,λBf=>?_⟩)))
    ·refine AGq<|AGx<|AG1<|AUg<|ATd<|ATd<|AUg<|AUg<|ATd<|ATd<|AUg<|ATd ?_;obtain rfl:=AGo<|A9 _ (AGo<|Bc _ (AGo<|AT4 B8 Bf).symm).symm;exact ⟨_,AS5,Ah.x,rfl⟩
    ·refine AG0<|q_b<|q_t<|AS8<|ATn rfl rfl (AGm<|AGu ?_);exact ⟨_,(AGo<|AT5 B8 Bf).symm,Ah,rfl,trivial⟩
  ·refine ATh<|ATi<|ATi<|AUf<|q_b<|q_t<|AS8<|ATn rfl rfl (AGm<|AGu ?_);exact ⟨_,(AGo<|Bc _ (AGo<|AT5 Bb Be).symm).symm,Ah,rfl,trivial⟩
 ·refine ATh<|ATi<|ATi<|AUf<|q_t<|AGs<|AGq<|AUs Ahb AU5 (Ae.b p0) 1 rfl ?_;obtain ⟨⟨Gh,Gi⟩,C9,Bg⟩:=AGr<|A9 _ (AGo<|AT5 A8 Ba).symm;dsimp only at Bg;refine AVs Ae (Aso (H7.ext Ae.x) C9) λGj Gk B9=>AGm<|AUk rfl rfl (AUk rfl rfl (ATs<|AT2<|AGm<|AU0 rfl rfl (AGu<|⟨_,rfl,λBh=>?_,λBh=>?_⟩)))
  ·refine AGq<|AGx<|AG1<|ATd ?_;obtain rfl:=AGo<|AT4 Bg Bh;exact ⟨_,AS5,B9.x,rfl⟩
  ·refine AG0<|q_t<|AGq<|AGm<|AT3 ATb rfl H2 ?_;obtain ⟨Da,Db⟩:=ifN<|AT5 Bg Bh;refine Ak0 (cI .i64) 2 ATb Aet rfl trivial tt2 rfl rfl AGn Da λDc Dd De Bi Gl Df Dg Dh=>AGx<|AGs<|AGq<|AGm ?_;have Bj:=B9.no2 Dg Dh Df;refine AT3 ATb rfl (Bj.o2 p0).rd (AGm<|AGu<|AGt<|AXv 2358877398425608929280 (λx:(Int) × (LiI) × LnA × LnN × LvA=>(x.1,x.2.1)) ((0,(List.replicate (Int.toNat (a3.length:Int)) ([]:List Int)),Dc,Dd,De):(Int) × (LiI) × LnA × LnN × LvA) Db (λx=>[(61,(.int .i64 x.1))]) (λx=>Bj.L.set 0<|aO2 (cI .i64) 61 2 x.2.2.1 x.2.2.2.1 x.2.2.2.2 Bi x.2.1) Bj ⟨rfl,trivial⟩ ?_);rintro ⟨Gm,Di,Dj,Dk,Dl⟩ Gn Gp Gq Aq Bl Do;unfold Af2 at Bl;refine AGq<|ATp rfl rfl (AGu<|AGs<|⟨_,rfl,λBm=>?_,λBm=>?_⟩)
   ·refine AG0<|q_t<|AGs<|AGt<|AGq<|AGm<|AGx<|AS8<|AGm<|AGm<|AGm<|AT3 ATb rfl H2 ?_;obtain ⟨Dp,Dq⟩:=ifN<|AT4 Bl Bm;refine Ajb (c:=(cI .i64)) (a:=0) ATa Abm rfl rfl (λ_=>rfl) rfl trivial tt2 rfl rfl AGn Dp λGr Gt Gu Dr Ds Dt Du=>?_;have Ai:=Aq.no Ds (AYh Dt Du) Dr;obtain ⟨Gv,Ca,Dv⟩:=AGr Dq;refine AVv ATb rfl (Ai.o2 p1) rfl Ca λGw Gx Dw Gy Gz=>Akz ATq (Ai.o2 p1) Ca Dw rfl rfl (Ai.o p0) (Ai.dj p0 p1 AGn) λG3 Dx Dy Dz=>ATu<|q_b<|q_t<|AS8<|ATn rfl rfl (AGm<|AGu ?_);exact ⟨(_,_,_,_,_),(AGo Dv).symm,(Ai.m2 p0 p1 AGn Dy Dx λz hz=> .inl<|Dz z hz).sel [1,2] AGn,rfl,trivial⟩
   ·refine ATh<|ATi<|ATi<|AUf<|q_t<|AGq<|ATs<|AGx<|AGs<|AGq<|AUs Afn Ak1 (Aq.b p1) 2 rfl (AUl Ahr rfl B5 (AGm<|AGu<|AGt<|AXv 365375409332725729550921189289604823435402641472 (λx:(Int) × (Int) × (Int) × (LiI) × LnA × LnN × LvA=>(x.1,x.2.1,x.2.2.1,x.2.2.2.1)) ((0,0,0,Di,Dj,Dk,Dl):(Int) × (Int) × (Int) × (LiI) × LnA × LnN × LvA) (Do _ (AGo<|AT5 Bl Bm).symm) (λx=>[(15,(.int .i64 x.1)),(16,(.int .i64 x.2.1)),(74,(.int .i64 x.2.2.1))]) (λx=>Aq.L.set 0<|aO2 (cI .i64) 61 2 x.2.2.2.2.1 x.2.2.2.2.2.1 x.2.2.2.2.2.2 Bi x.2.2.2.1) Aq ⟨rfl,rfl,rfl,trivial⟩ ?_));rintro ⟨Ab,D0,G4,Cb,Cd,Ce,Cf⟩ G5 G6 G7 Af Bn Aj;unfold Af1 at Bn;refine AGq<|ATp rfl rfl (AGu<|AGs<|⟨_,rfl,λBo=>?_,λBo=>?_⟩)
    ·refine AG0<|q_t<|AGs<|AGt<|AGq ?_;obtain ⟨Aa,D1,D2⟩:=AGr<|AT4 Bn Bo;refine Adg (c:=Ah5) Ahr rfl B5 rfl D1 λG8 G9 Hb D3 D4=>?_;obtain rfl:=D3;refine Agu (c:=Ah5) Aag rfl rfl (λj u hu=>(ATw (D4 j u hu) Af.x)) (AV6 Af [(.int .i64 0),(.int .i64 0),(.int .i64 0),(.int .i64 0),(.int .i64 0)] Ak2 λHc Hd He Cg=>AVa [(.int .i64 Aa.1),(.int .i64 Aa.2.1),(.int .i64 Aa.2.2.1),(.int .i64 Aa.2.2.2.1),(.int .i64 Aa.2.2.2.2)] Aag rfl rfl rfl rfl (by simp [isOne]) (Cg.b p0) λHf D5 D6=>AGu ?_);have Ac:=Cg.sb p0 D6 D5 rfl;obtain ⟨D7,Ch,Ak⟩:=AGr D2;refine Aer 1267650297996774497839409528896 (λx:Unit=>[]) (λx h'=>(Sum.inr <| ())=D7/\Kst h h' (Ac.L)) ?_ ?_
     ·refine AGq<|AUs AZ4 AT9 (Ac.b p0) 0 rfl (AGm<|ATp rfl rfl (AGm ?_));by_cases Ar:Aa.1 < D0
      ·rw [decide_eq_true Ar];refine AY2 82 true<|ATf rfl (AGm<|AWe 89 true<|ATf rfl (AGm<|AWi 95 true<|ATf rfl (AGu<|ATx rfl (AGq<|AGx ?_))));obtain rfl:=AGo<|ifT Ch Ar;refine AG1<|ATd<|AUg<|ATd<|ATd<|AUg<|ATd ?_;obtain rfl:=AGo<|Aj _ (AGo Ak).symm;exact ⟨_,AS5,Ac.x,rfl⟩
      ·have Ci:=ifF Ch Ar;rw [decide_eq_false Ar];refine ATc 82 false<|AVd AZ4 rfl (ATc 82 false<|AT6 AT9 rfl ((Ac.b p0).cell (i:=0) rfl) (ATc 82 false<|AGm<|ATc 82 false<|AVh rfl rfl (ATc 82 false<|AXr rfl rfl (AS6 rfl (AGm ?_)))));by_cases Au:(w64<|A5 - 3) < Aa.1
       ·rw [decide_eq_true Au];refine AWe 89 true<|ATf rfl (AGm<|AWi 95 true<|ATf rfl (AGu<|ATx rfl (AGq<|AGx ?_)));obtain rfl:=AGo<|ifT Ci Au;refine AG1<|ATd<|AUg<|ATd<|ATd<|AUg<|ATd ?_;obtain rfl:=AGo<|Aj _ (AGo Ak).symm;exact ⟨_,AS5,Ac.x,rfl⟩
       ·rw [decide_eq_false Au];refine ATc 89 false<|Abd [(.int .i64 Aa.1),(.int .i64 Aa.2.1),(.int .i64 Aa.2.2.1),(.int .i64 Aa.2.2.2.1),(.int .i64 Aa.2.2.2.2)] Aag rfl rfl (Ac.b p0).agg (ATc 89 false<|AGm<|ATc 89 false ?_);obtain ⟨D8,D9,Cj⟩:=AGr<|ifF Ci Au;refine AVs Ac (Ap4 D9) λHg Hh Bp=>ATc 89 false<|AV5 rfl (AS6 rfl (AGm ?_));cases Ck:(!D8)
        ·refine ATc 95 false<|Abd [(.int .i64 Aa.1),(.int .i64 Aa.2.1),(.int .i64 Aa.2.2.1),(.int .i64 Aa.2.2.2.1),(.int .i64 Aa.2.2.2.2)] Aag rfl rfl (Bp.b p0).agg (ATc 95 false ?_);obtain ⟨Hj,Ea,Cm⟩:=AGr<|AY5 Cj Ck;refine AVs Bp (Ai1 Ea) λHk Hl Cn=>ATc 95 false<|AV5 rfl (AS6 rfl (AGu<|⟨_,rfl,λBq=>?_,λBq=>?_⟩))
         ·refine AGq<|AGx ?_;obtain rfl:=AGo<|ifT Cm Bq;refine AG1<|ATd<|AUg<|ATd<|ATd<|AUg<|ATd ?_;obtain rfl:=AGo<|Aj _ (AGo Ak).symm;exact ⟨_,AS5,Cn.x,rfl⟩
         ·refine AG0<|q_t ?_;exact ⟨(():Unit),⟨AGo<|AY5 Cm Bq,Cn⟩,trivial⟩
        ·refine AWi 95 true<|ATf rfl (AGu<|ATx rfl (AGq<|AGx ?_));obtain rfl:=AGo<|ifT Cj Ck;refine AG1<|ATd<|AUg<|ATd<|ATd<|AUg<|ATd ?_;obtain rfl:=AGo<|Aj _ (AGo Ak).symm;exact ⟨_,AS5,Bp.x,rfl⟩
     rintro ⟨⟩ Hm Hn ⟨Eb,Av⟩;subst Eb;refine AGs<|AXi<|AGm<|AGm ?_;obtain ⟨Co,Cp,Ec⟩:=AGr Ak;refine AUo ATb ATq (Av.o2 p1) Cp λ_ Ho Ed=>AGm<|AUs Ac1 ATg (Av.b p0) 2 rfl (AUs AZ4 AT9 (Av.b p0) 0 rfl ?_);obtain ⟨Ee,Ef⟩:=ifN Ec;refine Aah rfl rfl Ee ?_;obtain ⟨Hq,Eg,Eh⟩:=AGr Ef;refine AZ0 (m:=Ab) Av p1 ATa ATg Ed Cp Eg (λ_=>rfl) λ_ Hr Ad=>AGu ?_;obtain ⟨Ei,Cq,Ej⟩:=AGr Eh;refine Aer 2854495385409323613687304525084725024600883200 (λx:(LiI) × LnA × LnN × LvA=>[]) (λx h'=>( x.1)=Ei/\Kst h h' (Ad.L.set 1<|aO2 (cI .i64) 61 2 x.2.1 x.2.2.1 x.2.2.2 Bi x.1)) ?_ ?_
     ·refine AGq<|AUs Ac0 AT9 (Ad.b p0) 1 rfl (AU0 rfl rfl (AGu<|⟨_,rfl,λBr=>?_,λBr=>?_⟩))
      ·refine AGs<|AXi<|AGm<|AGm ?_;obtain ⟨Ek,Cr,El⟩:=AGr<|AT4 Cq Br;refine AUo ATb ATq (Ad.o2 p1) Cr λ_ Hs Em=>AGm<|ATn rfl rfl (AUs Ac2 ATg (Ad.b p0) 3 rfl (AUs AZ4 AT9 (Ad.b p0) 0 rfl ?_));obtain ⟨En,Eo⟩:=ifN El;refine Aah rfl rfl En ?_;obtain ⟨Ht,Ep,Er⟩:=AGr Eo;refine AZ0 (m:=Ab) Ad p1 ATa ATg Em Cr Ep (λ_=>rfl) λ_ Hu Aw=>AGu<|AGs<|AXi<|AGm<|AGm<|ATn rfl rfl ?_;obtain ⟨Es,Ct,Et⟩:=AGr Er;refine AUo ATb ATq (Aw.o2 p1) Ct λ_ Hv Eu=>AGm<|AUs Ac2 ATg (Aw.b p0) 3 rfl (AUs AZ4 AT9 (Aw.b p0) 0 rfl ?_);obtain ⟨Ev,Ew⟩:=ifN Et;refine Aah rfl rfl Ev ?_;obtain ⟨Hw,Ey,Ez⟩:=AGr Ew;refine AZ0 (m:=(w64<|Ab + 1)) Aw p1 ATa ATg Eu Ct Ey (λ_=>rfl) λ_ Hx Ax=>AGu<|AXi<|AGm<|AGm<|ATn rfl rfl ?_;obtain ⟨Fa,Cu,Fb⟩:=AGr Ez;refine AUo ATb ATq (Ax.o2 p1) Cu λ_ Hy Fc=>AGm<|ATn rfl rfl (AUs Ahc ATg (Ax.b p0) 4 rfl (AUs AZ4 AT9 (Ax.b p0) 0 rfl ?_));obtain ⟨Fd,Fe⟩:=ifN Fb;refine Aah rfl rfl Fd ?_;obtain ⟨Hz,Ff,Fg⟩:=AGr Fe;refine AZ0 (m:=(w64<|Ab + 1)) Ax p1 ATa ATg Fc Cu Ff (λ_=>rfl) λ_ H5 Fh=>AGu ?_;exact ⟨(((sI (sI (sI (sI Cb Ab<|sI Co Ab<|w64<|Aa.2.2.1 * 2 ^ Int.toNat Aa.1) Ab<|sI Ek (w64<|Ab + 1)<|w64<|Aa.2.2.2.1 * 2 ^ Int.toNat Aa.1) (w64<|Ab + 1)<|sI Es Ab<|w64<|Aa.2.2.2.1 * 2 ^ Int.toNat Aa.1) (w64<|Ab + 1)<|sI Fa (w64<|Ab + 1)<|w64<|Aa.2.2.2.2 * 2 ^ Int.toNat Aa.1),Cd,Ce,Cf):(LiI) × LnA × LnN × LvA),⟨AGo Fg,Fh⟩,trivial⟩
      ·refine AG0<|q_t ?_;exact ⟨(((sI Cb Ab<|sI Co Ab<|w64<|Aa.2.2.1 * 2 ^ Int.toNat Aa.1),Cd,Ce,Cf):(LiI) × LnA × LnN × LvA),⟨AGo<|AT5 Cq Br,Ad⟩,trivial⟩
     rintro ⟨Ia,Ib,Ic,Id⟩ Ie If ⟨Fi,Bt⟩;subst Fi;refine AGq<|AGm<|AUs Ac0 AT9 (Bt.b p0) 1 rfl (ATn rfl rfl (AGx<|AS8<|AUs AZ4 AT9 (Bt.b p0) 0 rfl (ATs<|ATu<|q_b<|q_t<|AS8<|ATn rfl rfl (AGm<|AGu ?_))));exact ⟨(_,_,_,_,_,_,_),(AGo Ej).symm,Bt.sel [1,2] AGn,rfl,rfl,rfl,trivial⟩
    ·refine ATh<|ATi<|ATi<|AUf<|q_t<|AGs<|AXi<|AGm<|AUs Ahb AU5 (Af.b p1) 1 rfl (AGm ?_);obtain ⟨Fj,Fk⟩:=ifN<|Aj _ (AGo<|AT5 Bn Bo).symm;refine Aah rfl rfl Fj ?_;obtain ⟨⟨Ih,Ii⟩,Fl,Cv⟩:=AGr Fk;dsimp only at Cv;refine Agw rfl (Am3 (H2.ext Af.x) (H7.ext Af.x) Fl) λIj Ik Fm Fo=>?_;obtain ⟨Il,Im,Io,Ip,rfl,Fp,Fq⟩:=Fo;refine AGm<|AUk rfl rfl (AUk rfl rfl (ATs<|AGx<|AGs<|AGq<|AGm ?_));have Cw:=Af.no2 Fm Fq Fp;refine AT3 ATb rfl (Cw.o2 p0).rd (AGm<|AGu<|AGt ?_);have Bu:=Cw.sel [0,1] AGn;dsimp only [AZ3,Adk] at Bu;refine AYr 6277100987097842450413495302921032065365449380626603966528 Cv (λx=>[(169,(.int .i64 x))]) (λx=>Bu.L) Bu ⟨rfl,trivial⟩ ?_;rintro Cx Iq Ir Is Am Bv Cy;unfold Acx at Bv;refine AGq<|ATp rfl rfl (AGu<|AGs<|⟨_,rfl,λBw=>?_,λBw=>?_⟩)
     ·refine AG0<|q_t<|AGs<|AGt<|AGq<|AGm ?_;obtain ⟨It,Cz,Fr⟩:=AGr<|AT4 Bv Bw;refine AUo ATb ATq (Am.o2 p0) Cz λ_ Iu C0=>ATs<|AT2<|AGm<|AUl ATa rfl ((Am.o2 p0).rowI C0 Cz) (AGm<|AGu<|AGt<|AYr 3138455086722036263864247314914636313727201551036905947200 Fr (λx=>[(176,(.int .i64 x))]) (λx=>Am.L) Am ⟨rfl,trivial⟩ ?_);rintro Iv Iw Ix Iy Ag Bx C1;unfold Af0 at Bx;refine AGq<|ATp rfl rfl (AGu<|AGs<|⟨_,rfl,λBy=>?_,λBy=>?_⟩)
      ·refine AG0<|q_t<|AGs<|AGt<|AGq<|AGm ?_;obtain ⟨Iz,Ft,Fu⟩:=AGr<|AT4 Bx By;obtain ⟨I0,Fv,Fw⟩:=AGr Fu;refine AW6 (m:=Cx) ATa ATg (Ag.o2 p0) C0 Ft Fv λ_=>(ATs<|AT2<|AGm<|AGm<|AGm ?_);obtain ⟨I1,C2,Fx⟩:=AGr Fw;refine AUo ATb ATq (Ag.o2 p1) C2 λ_ I2 Fy=>AGm ?_;obtain ⟨I3,Fz,C3⟩:=AGr Fx;refine AW6 (m:=Cx) ATa ATg (Ag.o2 p1) Fy C2 Fz λ_=>(AVz rfl rfl (AGu<|⟨_,rfl,λBz=>?_,λBz=>?_⟩))
       ·refine AGq<|AGx<|AG1<|AUg<|ATd<|ATd<|AUg<|AUg<|ATd<|ATd<|AUg<|ATd ?_;obtain rfl:=AGo<|Cy _ (AGo<|C1 _ (AGo<|AT4 C3 Bz).symm).symm;exact ⟨_,AS5,Ag.x,rfl⟩
       ·refine AG0<|q_b<|q_t<|AS8<|ATn rfl rfl (AGm<|AGu ?_);exact ⟨_,(AGo<|AT5 C3 Bz).symm,Ag,rfl,trivial⟩
      ·refine ATh<|ATi<|ATi<|AUf<|q_b<|q_t<|AS8<|ATn rfl rfl (AGm<|AGu ?_);exact ⟨_,(AGo<|C1 _ (AGo<|AT5 Bx By).symm).symm,Ag,rfl,trivial⟩
     ·refine ATh<|ATi<|ATi<|AUf<|q_t<|AGq<|AGx<|AG1 ?_;obtain rfl:=AGo<|Cy _ (AGo<|AT5 Bv Bw).symm;exact ⟨_,AS5,Am.x,rfl⟩
noncomputable def Af3 (fuel:Nat) (a3:LiI) (Ae:List AWq) (Aa Ab:Int):Option ((Int × Int) ⊕ (Int ⊕ Int)):=
 if Ab < (Ae.length:Int) then (gI Ae Ab).bind λAc=>((if ¬ Ac.2.1=1 then if ¬ Ac.2.1=2 then some (.inl 3) else if (a3.length:Int) < Aa then some (.inl 3) else some (.inr ()) else if (a3.length:Int) < Aa then some (.inl 3) else some<|.inr ()):Option (Int ⊕ Unit)).bind (λex=>match ex with | .inl Af=>(some<|.inr<|.inl Af) | .inr _=>some<|.inl (w64<|Aa + Ac.2.1,w64<|Ab + 1)) else some<|.inr<|.inr Aa
noncomputable def Acz (fuel:Nat) (a3 a8:LiI) (Aa:Int):Option (Int ⊕ (Int ⊕ Unit)):=
 if Aa < (a8.length:Int) then (gI a8 Aa).bind λAd=>if ¬ (Ad.length:Int)=(a3.length:Int) then some (.inr<|.inl 3) else some (.inl<|w64<|Aa + 1) else some<|.inr<|.inr ()
noncomputable def AWh (fuel:Nat) (a3:LiI) (a5:Int) (a8:LiI) (Ad:List AWq):Option Int:=
 (Ahe fuel a3).bind λAe=>if (!Ae)=true then some 6 else if ¬ a5=2 then some 20 else if ¬ (a8.length:Int)=(a3.length:Int) then some 3 else (iter (λs=>Acz fuel a3 a8 s) fuel 0).bind (λex=>match ex with | .inl Af=>(some Af) | .inr _=>(iter (λs=>Af3 fuel a3 Ad s.1 s.2) fuel (0,0)).bind (λex=>match ex with | .inl Ag=>(some Ag) | .inr Ah=>if ¬ Ah=(a3.length:Int) then some 3 else (AVl fuel a3 2).bind λ(Ai,Ak)=>(Agb fuel a3 a5 a8 Ad Ai).bind λAj=>if (!Aj)=true then some 10 else some 0))
theorem Ah9 {A9:Value} {a8:LiI} {Ai:Value} {Bc:(List AWq)} {r:Int} (H2:AV4 (cI .i64) h A9 a3) (H7:AV4 (cI .i64) h Ah a8) (Ar:SlC Ah5 h Ai Bc) (HO:Ap0 h) (hp:AWh fuel a3 a5 a8 Bc=some r):ATz Tryz.prog 12 #[A9,(.agg #[(.int .i64 a5),Ah,Ai])] h (λx h'=>Ext h h'/\x= .int .i64 r):=by
 unfold AWh at hp;refine cwf (l:=[_,_]) Tryz.func12 rfl rfl (AGq<|AY3 (Kst.k0 h) [(.int .i64 a5),Ah,Ai] λCb Cd Ce Be=>AGx<|AGs<|AGq<|AGm ?_);obtain ⟨Cf,Bw,Bf⟩:=AGr hp;refine AVs Be (Auy (H2.ext Be.x) Bw) λCg Ch Aa=>AV5 rfl (AGu<|⟨_,rfl,λAu=>?_,λAu=>?_⟩)
 ·refine AGq<|AGx<|AG1<|ATd ?_;obtain rfl:=AGo<|ifT Bf Au;exact ⟨_,AS5,Aa.x,rfl⟩
 ·refine AG0<|q_t<|AGs<|AGq<|AUs Alz ATg (Aa.b p0) 0 rfl (AVz rfl rfl (AGu ?_));have Bg:=AY5 Bf Au;refine ⟨_,rfl,λAv=>?_,λAv=>?_⟩
  ·refine AGq<|AGx<|AG1<|ATd ?_;obtain rfl:=AGo<|AT4 Bg Av;exact ⟨_,AS5,Aa.x,rfl⟩
  ·refine AG0<|q_t<|AGq<|AGm<|AT3 ATb rfl H2 (AGx<|AGs<|AGq<|AUs Ahb AU5 (Aa.b p0) 1 rfl (AT3 ATb rfl H7 (AGm<|AVz rfl rfl (AGu ?_))));have Bh:=AT5 Bg Av;refine ⟨_,rfl,λAw=>?_,λAw=>?_⟩
   ·refine AGq<|AGx<|AG1<|ATd ?_;obtain rfl:=AGo<|AT4 Bh Aw;exact ⟨_,AS5,Aa.x,rfl⟩
   ·refine AG0<|q_t<|AGs<|AGq<|AUs Ahb AU5 (Aa.b p0) 1 rfl (AT3 ATb rfl H7 (AGm<|AGu<|AGt<|AYr 274341036176 (AT5 Bh Aw) (λx=>[(29,(.int .i64 x))]) (λx=>Aa.L) Aa ⟨rfl,trivial⟩ ?_));rintro Ci Cj Ck Cm Ad Ax Bi;unfold Acz at Ax;refine AGq<|ATp rfl rfl (AGu<|AGs<|⟨_,rfl,λAy=>?_,λAy=>?_⟩)
    ·refine AG0<|q_t<|AGs<|AGt<|AGq ?_;obtain ⟨Cn,Bx,Bj⟩:=AGr<|AT4 Ax Ay;refine AZ1 ATb ATq H7 Ad.x Bx λ_ Co By=>AT2<|AGm<|AUl ATa rfl By (AGm<|AVz rfl rfl (AGu<|⟨_,rfl,λAz=>?_,λAz=>?_⟩))
     ·refine AGq<|AGx<|AG1<|AUg<|ATd<|ATd<|AUg<|ATd ?_;obtain rfl:=AGo<|Bi _ (AGo<|AT4 Bj Az).symm;exact ⟨_,AS5,Ad.x,rfl⟩
     ·refine AG0<|q_b<|q_t<|AS8<|ATn rfl rfl (AGm<|AGu ?_);exact ⟨_,(AGo<|AT5 Bj Az).symm,Ad,rfl,trivial⟩
    ·refine ATh<|ATi<|ATi<|AUf<|q_t<|AGq<|AGx<|AGs<|AGq<|AUs Afn Ak1 (Ad.b p0) 2 rfl (AUl Ahr rfl Ar (AGm<|AGu<|AGt<|AYr 9223369837831521552 (Bi _ (AGo<|AT5 Ax Ay).symm) (λx=>[(8,(.int .i64 x.1)),(41,(.int .i64 x.2))]) (λx=>Ad.L) Ad ⟨rfl,rfl,trivial⟩ ?_));rintro ⟨Cp,Cq⟩ Cr Ct Cu Ae A3 Am;unfold Af3 at A3;refine AGq<|ATp rfl rfl (AGu<|AGs<|⟨_,rfl,λA4=>?_,λA4=>?_⟩)
     ·refine AG0<|q_t<|AGs<|AGt<|AGq ?_;obtain ⟨Ac,Bz,B1⟩:=AGr<|AT4 A3 A4;refine Adg (c:=Ah5) Ahr rfl Ar rfl Bz λCv Cw Cx B3 B4=>?_;obtain rfl:=B3;refine Agu (c:=Ah5) Aag rfl rfl (λj u hu=>(ATw (B4 j u hu) Ae.x)) (AV6 Ae [(.int .i64 0),(.int .i64 0),(.int .i64 0),(.int .i64 0),(.int .i64 0)] Ak2 λCy Cz C0 Bl=>AVa [(.int .i64 Ac.1),(.int .i64 Ac.2.1),(.int .i64 Ac.2.2.1),(.int .i64 Ac.2.2.2.1),(.int .i64 Ac.2.2.2.2)] Aag rfl rfl rfl rfl (by simp [isOne]) (Bl.b p0) λC1 B5 B6=>AGu ?_);have Ab:=Bl.sb p0 B6 B5 rfl;obtain ⟨B7,Bm,Ao⟩:=AGr B1;refine Aer 288195191779622928 (λx:Unit=>[]) (λx h'=>(Sum.inr <| ())=B7/\Kst h h' (Ab.L)) ?_ ?_
      ·refine AGq<|AUs Ac0 AT9 (Ab.b p0) 1 rfl (AVz rfl rfl (AGm ?_));by_cases Ap: ¬ Ac.2.1=1
       ·have Bn:=ifT Bm Ap;rw [decide_eq_true Ap];refine ATc 48 true<|AVd Ac0 rfl (ATc 48 true<|AT6 AT9 rfl ((Ab.b p0).cell (i:=1) rfl) (ATc 48 true<|AVz rfl rfl (ATf rfl (AGm ?_))));by_cases Aq: ¬ Ac.2.1=2
        ·rw [decide_eq_true Aq];refine AWi 53 true<|ATf rfl (AGu<|ATx rfl (AGq<|AGx ?_));obtain rfl:=AGo<|ifT Bn Aq;refine AG1<|ATd<|AUg<|ATd<|ATd<|AUg<|ATd ?_;obtain rfl:=AGo<|Am _ (AGo Ao).symm;exact ⟨_,AS5,Ab.x,rfl⟩
        ·have Bo:=ifF Bn Aq;rw [decide_eq_false Aq];refine ATc 53 false<|AGm<|ATc 53 false<|AGm<|ATc 53 false<|AXr rfl rfl (AS6 rfl (AGu<|⟨_,rfl,λA5=>?_,λA5=>?_⟩))
         ·refine AGq<|AGx ?_;obtain rfl:=AGo<|AT4 Bo A5;refine AG1<|ATd<|AUg<|ATd<|ATd<|AUg<|ATd ?_;obtain rfl:=AGo<|Am _ (AGo Ao).symm;exact ⟨_,AS5,Ab.x,rfl⟩
         ·refine AG0<|q_t ?_;exact ⟨(():Unit),⟨AGo<|AT5 Bo A5,Ab⟩,trivial⟩
       ·have Bp:=ifF Bm Ap;rw [decide_eq_false Ap];refine AWi 48 false<|AS6 rfl (AGm<|ATc 53 false<|AGm<|ATc 53 false<|AGm<|ATc 53 false<|AXr rfl rfl (AS6 rfl (AGu<|⟨_,rfl,λA6=>?_,λA6=>?_⟩)))
        ·refine AGq<|AGx ?_;obtain rfl:=AGo<|AT4 Bp A6;refine AG1<|ATd<|AUg<|ATd<|ATd<|AUg<|ATd ?_;obtain rfl:=AGo<|Am _ (AGo Ao).symm;exact ⟨_,AS5,Ab.x,rfl⟩
        ·refine AG0<|q_t ?_;exact ⟨(():Unit),⟨AGo<|AT5 Bp A6,Ab⟩,trivial⟩
      rintro ⟨⟩ C2 C3 ⟨B8,Bq⟩;subst B8;refine AS8<|AGm<|AUs Ac0 AT9 (Bq.b p0) 1 rfl (ATn rfl rfl (ATs<|ATu<|q_b<|q_t<|AS8<|ATn rfl rfl (AGm<|AGu ?_)));exact ⟨_,(AGo Ao).symm,Bq.sel [1] AGn,rfl,rfl,trivial⟩
     ·refine ATh<|ATi<|ATi<|AUf<|q_t<|AGs<|AGq<|AGm<|AGm<|AVz rfl rfl (AGu ?_);have Br:=Am _ (AGo<|AT5 A3 A4).symm;refine ⟨_,rfl,λA7=>?_,λA7=>?_⟩
      ·refine AGq<|AGx<|AG1<|ATd ?_;obtain rfl:=AGo<|AT4 Br A7;exact ⟨_,AS5,Ae.x,rfl⟩
      ·refine AG0<|q_t<|AGq<|AGm ?_;obtain ⟨⟨C4,C5⟩,B9,Bt⟩:=AGr<|AT5 Br A7;dsimp only at Bt;refine AVs Ae (Ai7 (H2.ext Ae.x) (HO.ext Ae.x) B9) λC6 C7 Af=>AGm<|AUk rfl rfl (AUk rfl rfl (ATs<|AGx<|AGs<|AGq<|AGm<|Abd [(.int .i64 a5),Ah,Ai] Aev rfl rfl (Af.b p0).agg (AGm ?_)));obtain ⟨C8,Ca,Bu⟩:=AGr Bt;refine AVs Af (Aqv (H2.ext Af.x) (H7.ext Af.x) (Ar.ext Af.x) Ca) λC9 Da Bv=>AV5 rfl (AGu<|⟨_,rfl,λA8=>?_,λA8=>?_⟩)
       ·refine AGq<|AGx<|AG1<|ATd ?_;obtain rfl:=AGo<|ifT Bu A8;exact ⟨_,AS5,Bv.x,rfl⟩
       ·refine AG0<|q_t<|AGq<|AGx<|AG1 ?_;obtain rfl:=AGo<|AY5 Bu A8;exact ⟨_,AS5,Bv.x,rfl⟩
noncomputable def AUz (fuel:Nat):Option Bool:=
 (Ac7 fuel 2 ([([1,0]:List Int),([0,1]:List Int)]:List LiA) ([(0,2,2,1,2)]:List AWq)).bind λ(Aa,Ab)=>if Ab=true then (AWh fuel ([([2,1]:List Int),([1,2]:List Int)]:List LiA) 2 ([([1,0]:List Int),([0,1]:List Int)]:List LiA) ([(0,2,2,1,2)]:List AWq)).bind λAc=>if Ac=0 then (Ami fuel 2 ([([1,0]:List Int),([0,1]:List Int)]:List LiA) ([(0,2,2,1,2)]:List AWq)).bind λAd=>if Ad=true then (Aej fuel Aa ([(0,2,-1,false,0)]:List Af4)).bind λAe=>some Ae else some false else some false else some false
theorem AYw (HO:Ap0 h) (hp:AUz fuel=some r):ATz Tryz.prog 14 #[] h (λx h'=>Ext h h'/\x= .bool r):=by
 unfold AUz at hp;refine cwf (l:=[]) Tryz.func14 rfl rfl (AGq<|AT2<|Ar3 (κ:= .i64) [2,1] ATa Abm rfl rfl trivial tt2 rfl rfl rfl rfl λb1 v2 h3 I4 E5 A3 A4=>Ar3 (κ:= .i64) [1,2] ATa Abm rfl rfl trivial tt2 rfl rfl rfl rfl λA5 A6 Cq A7 A8 A9 Ba=>?_);have Ab:=((Kst.k0 h).no E5 (AYh A3 A4) I4).no A8 (AYh A9 Ba) A7;have Ao:=(((Ab.a0).grab p1).grab p0);refine Apq (c:=(cI .i64)) (el:=2) [[b1],[A5]] [v2,A6] [([2,1]:List Int),([1,2]:List Int)] ATb Aet rfl rfl trivial tt2 rfl rfl rfl rfl (Aac (Ab.o p1).isOne<|Aac (Ab.o p0).isOne Al2) ⟨(Ab.o p1),(Ab.o p0),trivial⟩ (by simpa using Ao.ndT) λCr Ct Cu Bb Bc Be=>AT2<|Ar3 (κ:= .i64) [1,0] ATa Abm rfl rfl trivial tt2 rfl rfl rfl rfl λBf Bg Cv Bh Bi Bj Bl=>Ar3 (κ:= .i64) [0,1] ATa Abm rfl rfl trivial tt2 rfl rfl rfl rfl λBm Bn Cw Bo Bp Bq Br=>?_;have Ac:=((Ao.lit Bc Bb<|by simpa using Be).no Bi (AYh Bj Bl) Bh).no Bp (AYh Bq Br) Bo;have Ap:=(((Ac.a0).grab p1).grab p0);refine Apq (c:=(cI .i64)) (el:=2) [[Bf],[Bm]] [Bg,Bn] [([1,0]:List Int),([0,1]:List Int)] ATb Aet rfl rfl trivial tt2 rfl rfl rfl rfl (Aac (Ac.o p1).isOne<|Aac (Ac.o p0).isOne Al2) ⟨(Ac.o p1),(Ac.o p0),trivial⟩ (by simpa using Ap.ndT) λCx Ad Cy Bt Bu Bv=>AXa (v:=(.agg #[(.int .i64 0),(.int .i64 2),(.int .i64 2),(.int .i64 1),(.int .i64 2)])) (λ_=>by kernel_rfl)<|A7v Ah5 ([(0,2,2,1,2)]:List AWq) [[(.int .i64 0),(.int .i64 2),(.int .i64 2),(.int .i64 1),(.int .i64 2)]] [(0,(.agg #[(.int .i64 0),(.int .i64 2),(.int .i64 2),(.int .i64 1),(.int .i64 2)]))] Ahr Ak2 rfl trivial tt2 rfl rfl rfl AG2 rfl (A27 (λ_=>rfl) A26) λCz Ae C0 Bw Bx By Bz=>?_;have Aj:=(Ap.lit Bu Bt<|by simpa using Bv).no Bx (AYh By Bz) Bw;obtain ⟨_,_,_,B1⟩:=(Aj.o2 p1).rd.shape;obtain ⟨_,_,_,B3⟩:=(Aj.o p0).rd.shape;refine AXa (v:=(.agg #[(.int .i64 2),Ad,Ae])) (λ_=>by subst B1;subst B3;kernel_rfl)<|AV6 Aj [(.int .i64 0),(.slice none 0 0),(.slice none 0 0)] Aub λC1 C2 C3 Ag=>AVa [(.int .i64 2),Ad,Ae] Aev rfl rfl rfl rfl (Aac rfl (Aac (Ag.o2 p2).isOne<|Aac (Ag.o p1).isOne Al2)) (Ag.b p0) λC4 B4 B5=>Aal ?_;have Ah:=Ag.sb p0 B5 B4 rfl;refine Abd [(.int .i64 2),Ad,Ae] Aev rfl rfl (Ah.b p0).agg ?_;obtain ⟨⟨C5,B6⟩,B7,Ak⟩:=AGr hp;dsimp only at Ak;refine Agw rfl (Ah0 (Ah.o2 p2).rd (Ah.o p1).rd B7) λC6 C7 B8 B9=>?_;obtain ⟨C8,C9,rfl,Ca,Cb⟩:=B9;refine AGm<|AUk rfl rfl (AUk rfl rfl (ATs<|AT2<|AGm<|AGm ?_));have Aa:=Ah.no B8 Cb Ca;cases Aq:B6
 ·refine AWe 20 false<|AS6 rfl (AGm<|Adc 26 false<|AS6 rfl (AGm<|AWe 30 false<|AS6 rfl (AGx<|AG1 ?_)));obtain rfl:=AGo<|AY5 Ak Aq;exact ⟨_,AS5,Aa.x,rfl⟩
 ·refine ATc 20 true<|AGm<|ATc 20 true<|Abd [(.int .i64 2),Ad,Ae] Aev rfl rfl (Aa.b p1).agg (ATc 20 true ?_);obtain ⟨Cd,Ce,Ar⟩:=AGr<|ifT Ak Aq;refine AVs Aa (Ah9 (Aa.o2 p6).rd (Aa.o2 p3).rd (Aa.o p2).rd (HO.ext Aa.x) Ce) λDa Db Af=>ATc 20 true<|AU0 rfl rfl (ATf rfl (AGm ?_));by_cases Ai:Cd=0
  ·rw [decide_eq_true Ai];refine ATc 26 true<|Abd [(.int .i64 2),Ad,Ae] Aev rfl rfl (Af.b p1).agg (ATc 26 true ?_);obtain ⟨Cf,Cg,Au⟩:=AGr<|ifT Ar Ai;refine AVs Af (Ass (Af.o2 p3).rd (Af.o p2).rd Cg) λDc Dd Av=>ATf rfl (AGm ?_);cases Aw:Cf
   ·refine AWe 30 false<|AS6 rfl (AGx<|AG1 ?_);obtain rfl:=AGo<|AY5 Au Aw;exact ⟨_,AS5,Av.x,rfl⟩
   ·refine ATc 30 true<|AGm<|ATc 30 true<|AXa (v:=(.agg #[(.int .i64 0),(.int .i64 2),(.int .i64<|-1),(.bool false),(.int .i64 0)])) (λ_=>by kernel_rfl)<|ATc 30 true<|A7v Ait ([(0,2,(-1),false,0)]:List Af4) [[(.int .i64 0),(.int .i64 2),(.int .i64<|-1),(.bool false),(.int .i64 0)]] [(0,(.agg #[(.int .i64 0),(.int .i64 2),(.int .i64<|-1),(.bool false),(.int .i64 0)]))] Aoa Axg rfl trivial tt2 rfl rfl rfl AG2 rfl (A27 (λ_=>rfl) A26) λDe Df Dg Ch Ci Cj Ck=>ATc 30 true ?_;have Am:=Av.no Ci (AYh Cj Ck) Ch;obtain ⟨Dh,Cm,Cn⟩:=AGr<|ifT Au Aw;refine AVs Am (Akm (Am.o p1).rd (Am.o p0).rd Cm) λDi Dj Co=>ATf rfl (AGx<|AG1 ?_);obtain rfl:=AGo Cn;exact ⟨_,AS5,Co.x,rfl⟩
  ·rw [decide_eq_false Ai];refine Adc 26 false<|AS6 rfl (AGm<|AWe 30 false<|AS6 rfl (AGx<|AG1 ?_));obtain rfl:=AGo<|ifF Ar Ai;exact ⟨_,AS5,Af.x,rfl⟩
end Go.Proofs.YtkakafabeobahaaGreatDoor
