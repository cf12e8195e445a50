/-
  Texts of a proof, joined. Conditions stand in each statement.
-/
import Derived.Lib.SmallJoins
import Derived.Test.YtdkldlbgcfpglaaGreatDoorMJordanCounts4
set_option linter.unusedVariables false
set_option linter.unusedSimpArgs false
namespace Go.Proofs.YtdkldlbgcfpglaaGreatDoor
open Go Go.QF
set_option maxRecDepth 100000
theorem Amw {S E:Type} {body:S->Option (S ⊕ E)} {Q:E->Prop} (I:Nat->S->Prop) (hs:∀ k s,I k s->Ok (body s) fun r=>match r with | .inl s'=> ∃ k',k' < k/\I k' s' | .inr e=>Q e):∀ {fuel k:Nat} {s0:S},I k s0->k < fuel->Ok (iter body fuel s0) Q:=by
  intro fuel;induction fuel with
  | zero=>intro k s0 _ h;omega
  | succ f ih=>
    intro k s0 h0 hf;obtain ⟨r,hr,hq⟩:=hs k s0 h0;cases r with
    | inl s'=>
      obtain ⟨k',h1,h2⟩:=hq;obtain ⟨e,he,hQ⟩:=ih h2 Zj;exact ⟨e,by simp [iter,hr,he],hQ⟩
    | inr e=>exact ⟨e,by simp [iter,hr],hq⟩
theorem Aeh {n i j s:Nat} {A:Z4} (hj:j < i) (hi:i < n) (hs:s < n) (X:Nat->Int):psum (fun k=>X k * AUz A i j k s) n=X s + if s=i then ARk A i j * X j else 0:=by
 have h1:∀ k,X k * AUz A i j k s=X k * dl k s + (if k=j then (if s=i then ARk A i j * X j else 0) else 0):=fun k=>by
   unfold AUz
   rw [AA4]
   split
   · next h=>
     subst h
     split
     · next h2=>subst h2;unfold dl;rw [if_neg Zj];grind
     · simp
   · simp
 rw [AA2 fun k _=>h1 k,ALa,Abu X hs,ANv (a:=j) Zj fun k _ hk=>if_neg hk,if_pos rfl]
theorem Aei {n i j r s:Nat} {A:Z4} (hj:j < i) (hi:i < n) (hr:r < n) (hs:s < n):ACj n (ACj n (trF (AUz A i j)) A) (AUz A i j) r s=AVt A i j (ARk A i j) r s:=by
 have h2:∀ k,ACj n (trF (AUz A i j)) A r k=A r k + if r=i then ARk A i j * A j k else 0:=fun k=>by
   show psum (fun l=>AUz A i j l r * A l k) n=_
   rw [AA2 (g:=fun l=>A l k * AUz A i j l r) fun l _=>Int.mul_comm _ _]
   exact Aeh hj hi hr fun l=>A l k
 show psum (fun k=>ACj n (trF (AUz A i j)) A r k * AUz A i j k s) n=_;rw [Aeh hj hi hs fun k=>ACj n (trF (AUz A i j)) A r k];rw [h2,h2,AX1];split <;> split <;> first | (subst_vars;grind) | grind
theorem Ab9 (j k s:Nat):AEx dl (j + 1) j k s=dl (tau j k) s:=by
 rw [ALm];unfold tau;split
 ·next h=>subst h;rfl
 ·split <;> rfl
theorem Ahn (j k:Nat):tau j (tau j k)=k:=by unfold tau;split <;> (try split) <;> (try split) <;> omega
theorem Asd {j k n:Nat} (hj:j + 1 < n) (hk:k < n):tau j k < n:=by unfold tau;split <;> (try split) <;> omega
theorem Aho {n j s:Nat} (hj:j + 1 < n) (hs:s < n) (X:Nat->Int):psum (fun k=>X k * AEx dl (j + 1) j k s) n=X (tau j s):=by
 rw [ANv (a:=tau j s) (Asd hj hs) fun k hk hne=>?_]
 ·rw [Ab9,Ahn];unfold dl;rw [if_pos rfl];simp
 ·rw [Ab9];unfold dl;rw [if_neg (fun h=>hne (by rw [<- h,Ahn]))];simp
theorem Ahp {n j r s:Nat} {A:Z4} (hj:j + 1 < n) (hr:r < n) (hs:s < n):ACj n (ACj n (trF (AEx dl (j + 1) j)) A) (AEx dl (j + 1) j) r s=swA A j r s:=by
 show psum (fun k=>ACj n (trF (AEx dl (j + 1) j)) A r k * AEx dl (j + 1) j k s) n=_;rw [Aho hj hs fun k=>ACj n (trF (AEx dl (j + 1) j)) A r k];show psum (fun l=>AEx dl (j + 1) j l r * A l (tau j s)) n=_;rw [AA2 (g:=fun l=>A l (tau j s) * AEx dl (j + 1) j l r) fun l _=>Int.mul_comm _ _];exact Aho hj hr fun l=>A l (tau j s)
theorem AL7 {n:Nat} {A A' B B':Z4} {i j:Nat} (hA:∀ k,k < n->A i k=A' i k) (hB:∀ k,k < n->B k j=B' k j):ACj n A B i j=ACj n A' B' i j:=AA2 fun k hk=>by rw [hA k hk,hB k hk]
theorem AX2 {n:Nat} {T U:Z4} (i j:Nat):trF (ACj n T U) i j=ACj n (trF U) (trF T) i j:=AA2 fun k _=>Int.mul_comm _ _
def Af1 (n:Nat) (A0 T A:Z4):Prop:= ∀ i j,i < n->j < n->A i j=ACj n (trF T) (ACj n A0 T) i j
theorem Aau {n:Nat} {A0 T A U B:Z4} (H:Af1 n A0 T A) (K:∀ i j,i < n->j < n->ACj n (ACj n (trF U) A) U i j=B i j):Af1 n A0 (ACj n T U) B:=fun i j hi hj=>by
  rw [<- K i j hi hj,AL6]
  have h1:ACj n (trF U) (ACj n A U) i j=ACj n (trF U) (ACj n (trF T) (ACj n A0 (ACj n T U))) i j:=by
    refine AL7 (fun _ _=>rfl) fun k hk=>?_;rw [AL7 (A':=ACj n (trF T) (ACj n A0 T)) (fun l hl=>H k l hk hl) (fun _ _=>rfl),AL6];refine AL7 (fun _ _=>rfl) fun l hl=>?_;rw [AL6]
  rw [h1,<- AL6];exact AL7 (fun k _=>(AX2 i k).symm) fun _ _=>rfl
theorem Ahq {n:Nat} {A:Z4}:Af1 n A dl A:=fun i j hi hj=>by
  show _=psum (fun k=>dl k i * ACj n A dl k j) n
  rw [AA2 (g:=fun k=>ACj n A dl k j * dl k i) fun k _=>Int.mul_comm _ _,Abu (fun k=>ACj n A dl k j) hi]
  exact (Afo hj).symm
def dm9:Int:=9 ^ 8
def Apn:Int:=2 ^ 97
theorem Apo {n i t:Nat} {A:Z4} (hn:n<=8) (h:Ab4 n dm9 A i t):∀ k,k < n->A k k<=Apn:=fun k hk=>by
  by_cases e:k=i
  · subst e
    have h1:=Aar (p:=(2 ^ 7 * (2 * dm9)) * (2 ^ 7 * (2 * dm9))) (q:=1) h.sym h.pos h.hi h.dm Zl Zl (fun l hl=>by
      have h2:=h.lamb l hl;have h3:(2:Int) ^ t * (2 * dm9)<=2 ^ 7 * (2 * dm9):=Int.mul_le_mul_of_nonneg_right (AVv (by have:=h.ht;omega)) Zl;have h4:=h.pos (l + 1) (by have:=h.hi;omega);have h5:=Int.mul_le_mul_of_nonneg_right h3 (Int.le_of_lt h4);have h6:=ATq (x:=Mn l A k l) (y:=2 ^ 7 * (2 * dm9) * det (l + 1) A) Zj Zj;rw [Int.one_mul];refine Int.le_trans h6 (Int.le_of_eq ?_);grind) k 0 Zj
    rw [AM1,show det 0 A=1 from rfl,Int.one_mul] at h1
    have h7:(1 + (k:Int) * ((2 ^ 7 * (2 * dm9)) * (2 ^ 7 * (2 * dm9)))) * (dm9 * 1)<=(1 + 7 * ((2 ^ 7 * (2 * dm9)) * (2 ^ 7 * (2 * dm9)))) * (dm9 * 1):=by
      refine Int.mul_le_mul_of_nonneg_right ?_ Zl;have:=Int.mul_le_mul_of_nonneg_right (show (k:Int)<=7 by omega) (show (0:Int)<=(2 ^ 7 * (2 * dm9)) * (2 ^ 7 * (2 * dm9)) by decide);omega
    exact Int.le_trans h1 (Int.le_trans h7 Zl)
  · exact Int.le_trans (h.rows k hk e) Zl
theorem Aej {n:Nat} {A:Z4} {B:Int} (hs:AKf n A) (hp:ALz n A) (hB:∀ k,k < n->A k k<=B) {i j:Nat} (hi:i < n) (hj:j < n): -B<=A i j/\A i j<=B:=by
 have h1:=AWz (k:=0) hs hp (Nat.zero_le _) hi hj;simp only [AM1] at h1;have p1:=AW0 (k:=0) hs hp (Nat.zero_le _) hi;have p2:=AW0 (k:=0) hs hp (Nat.zero_le _) hj;simp only [AM1] at p1 p2;have h2:=Int.mul_le_mul (hB i hi) (hB j hj) p2 (Int.le_trans p1 (hB i hi));exact Ad8 (Int.le_trans p1 (hB i hi)) (Int.le_trans h1 h2)
theorem Ahr {n:Nat} {A:Z4} {B:Int} (hs:AKf n A) (hp:ALz n A) (hB:∀ k,k < n->A k k<=B) {i j:Nat} (hi:i < n) (hj:j < n):(A i j).natAbs<=B.natAbs:=by
 have:=Aej hs hp hB hi hj;omega
def Aav:Nat:=(2 ^ 240) ^ 5
theorem Aek:16 * (Aav * Aav) < ADz:=by decide
def Aaw:Nat:=(2 ^ 220) ^ 5
theorem At2 {n:Nat} {A0 A T:Z4} (hn:n<=8) (hE:∀ i j,(A0 i j).natAbs<=2 ^ 40) (hs:AKf n A0) (hp:ALz n A0) (H:Af1 n A0 T A) (hB:∀ k,k < n->A k k<=Apn) {k s:Nat} (hk:k < n) (hs2:s < n):(T k s).natAbs<=Aaw:=by
  have h1:=Apf hs hp (fun r=>T r s) hk
  have h2:bil n 0 A0 (fun r=>T r s) (fun r=>T r s)=A s s:=by
    rw [H s s hs2 hs2];show _=psum (fun i=>T i s * psum (fun j=>A0 i j * T j s) n) n;unfold bil;refine AA2 fun i _=>?_;rw [<- AE3];exact AA2 fun j _=>by rw [AM1];grind
  rw [h2] at h1
  have h3:(AZe n A0 k k).natAbs<=dBd (2 ^ 40) 9:=by
    refine Nat.le_trans (AXv (m:=2 ^ 40) fun i j=>?_) (APt Zl Zj);rw [AA4]
    split
    · unfold dl;split <;> decide
    · exact hE i j
  have h4:AZe n A0 k k * A s s<=(dBd (2 ^ 40) 9:Nat) * Apn:=by
    have p0:0<=A s s:=by
      have:A s s=bil n 0 A0 (fun r=>T r s) (fun r=>T r s):=h2.symm;rw [this];exact APv hs hp _ n 0 Zj
    have b1:AZe n A0 k k<=(dBd (2 ^ 40) 9:Nat):=by omega
    have b2:=Int.mul_le_mul_of_nonneg_right b1 p0;have b3:=Int.mul_le_mul_of_nonneg_left (hB s hs2) (show (0:Int)<=(dBd (2 ^ 40) 9:Nat) by omega);omega
  have h5:((dBd (2 ^ 40) 9:Nat):Int) * Apn<=(Aaw:Int) * (Aaw:Int):=by decide
  have h6:=Ad8 (x:=T k s) (y:=(Aaw:Int)) Zj (Int.le_trans (Int.le_trans h1 h4) h5);omega
structure Aca (n:Nat) (A:Z4):Prop where
  sym:AKf n A
  pos:ALz n A
  sz:AVw A n
  lv:AXd A n
  dt:det n A<=10000
structure RSt (n:Nat) (A0 A T:Z4) (i t:Nat):Prop where
  inv:Ab4 n dm9 A i t
  car:Af1 n A0 T A
  dt:det n A=det n A0
def Auj (n:Nat) (A0:Z4) (k:Nat) (s:List (List Int) × List (List Int)):Prop:=
  ∃ A T i t,RSt n A0 A T i t/\s=(tab n n A,tab n n T)/\k=(Aed n A).toNat * 128 + (128 - (16 * i + t))
theorem Ahs {n:Nat} {A:Z4} (hp:ALz n A):0<=Aed n A:=by
 have:∀ m,m<=n + 1->0<=psum (fun k=>det k A) m:=fun m=>by
   induction m with
   | zero=>intro _;exact Int.le_refl _
   | succ m ih=>intro h;have h1:=ih Zj;have h2:=hp m Zj;simp only [psum];omega
 exact this _ (Nat.le_refl _)
theorem Apq {n:Nat} {A:Z4} (hd:∀ k,k<=n->det k A<=dm9):Aed n A<=(n + 1:Nat) * dm9:=by
 have:∀ m,m<=n + 1->psum (fun k=>det k A) m<=(m:Nat) * dm9:=fun m=>by
   induction m with
   | zero=>intro _;simp [psum]
   | succ m ih=>intro h;have h1:=ih Zj;have h2:=hd m Zj;simp only [psum];rw [Int.natCast_add,Int.add_mul];omega
 exact this _ (Nat.le_refl _)
theorem Ajg {n i j:Nat} {A:Z4} (hn:n<=8) (hj:j < i) (hi:i < n) (hp:ALz n A) (hb:∀ i j,i < n->j < n->(A i j).natAbs<=AF3):(ARk A i j).natAbs<=3 * dBd AF3 9:=by
 have b1:(Mn j A i j).natAbs<=dBd AF3 9:=AZh hn hi Zj Zj hb;have b2:(det (j + 1) A).natAbs<=dBd AF3 9:=ATr hn Zj hb;have hd:=hp (j + 1) Zj;unfold ARk;rw [Int.natAbs_neg];have:=Int.natAbs_ediv_le_natAbs (2 * Mn j A i j + det (j + 1) A) (2 * det (j + 1) A);omega
theorem Ajh {fuel n:Nat} {A0:Z4} (Ac:1<=n) (hn:n<=8) (hs:AKf n A0) (hp:ALz n A0) (hE:∀ i j,(A0 i j).natAbs<=2 ^ 40) (hD:∀ k,k<=n->det k A0<=dm9) (hr:∀ k,k < n->A0 k k<=3 * dm9) (hdt:det n A0<=10000) (hf:ADz < fuel):
    Ok (AFf fuel (tab n n A0)) fun r=> ∃ A T,r=(tab n n A,tab n n T,0)/\Aca n A/\Af1 n A0 T A/\det n A=det n A0/\ ∀ k,k < n->A k k<=3 * dm9:=by
 have Ad:100 < fuel:=Nat.lt_of_le_of_lt Zl hf;have Av:100000000 < fuel:=Nat.lt_of_le_of_lt Zl hf;have Ak:∀ i j,i < n->j < n->(A0 i j).natAbs<=AF3:=fun i j _ _=>Nat.le_trans (hE i j) Zl;unfold AFf;refine Zu (AZj Ac hn Ak Ad) fun v hv=>?_;have Ap:=hv.2 ⟨hs,hp⟩;subst Ap;refine AAw (fun h=>absurd rfl h) fun _=>Zu (ABh (Apm hn Ak Ad)) fun b hb=>?_;subst hb;refine AAw (fun h=>by simp [hdt] at h) fun _=>?_;refine Zu (ABh (Ag5 (A:=tab n n A0) (by rw [AA9];omega) (fun z hz=>by rw [AVb z hz];omega) (by rw [AA9];omega))) fun x hx=>?_;subst hx;rw [AA9];refine Zu (ABh (Ahl Ac Zj Ad)) fun x hx=>?_;subst hx;dsimp only;refine Zu (Amw (Auj n A0) (Q:=fun r=> ∃ A T,r=(tab n n A,tab n n T,0)/\Aca n A/\Af1 n A0 T A/\det n A=det n A0/\ ∀ k,k < n->A k k<=3 * dm9) (fun k s hI=>?_) (k:=(Aed n A0).toNat * 128 + 128) ⟨A0,dl,0,0,⟨AZf Ac hs hp hD hr,Ahq,rfl⟩,rfl,rfl⟩ ?_) fun r hr=>Zq hr
 ·obtain ⟨A,T,i,t,R,rfl,rfl⟩:=hI;have L:=R.inv;have hbd:=Apo hn L;have hb:∀ i j,i < n->j < n->(A i j).natAbs<=AF3:=fun i j hi hj=>Nat.le_trans (Ahr L.sym L.pos hbd hi hj) Zl;have hT:∀ k s,k < n->s < n->(T k s).natAbs<=Aaw:=fun k s hk Ab=>At2 hn hE hs hp R.car hbd hk Ab;have hTD:Aaw<=Aav:=by decide
  have hMD:AF3<=Aav:=by decide
  unfold AIg;refine Zu (Asb Ac hn L.pos hb hf) fun r hr=>?_
  have prod:∀ {U:Z4},(∀ i j,i < n->j < n->(U i j).natAbs<=3 * dBd AF3 9)->(AC3 fuel (tab n n A) (tab n n U)=some (tab n n (ACj n (ACj n (trF U) A) U))/\AB5 fuel (tab n n T) (tab n n U)=some (tab n n (ACj n T U))):=fun {U} hU=>by
    have Am:∀ i j,i < n->j < n->(U i j).natAbs<=Aav:=fun i j hi hj=>Nat.le_trans (hU i j hi hj) Zl
    refine ⟨Apl Ac Zj Aek (fun i j hi hj=>Nat.le_trans (hb i j hi hj) hMD) Am (fun i j hi hj=>?_) Ad,?_⟩
    · have h1:=psum_abs (f:=fun l=>U l i) (g:=fun l=>A l j) (D:=3 * dBd AF3 9) n fun l hl=>⟨hU l i hl hi,Nat.le_trans (hb l j hl hj) Zl⟩
      have h2:n * ((3 * dBd AF3 9) * (3 * dBd AF3 9))<=8 * ((3 * dBd AF3 9) * (3 * dBd AF3 9)):=Nat.mul_le_mul_right _ hn
      have h3:(ACj n (trF U) A i j).natAbs=(psum (fun l=>U l i * A l j) n).natAbs:=rfl
      have h4:∀ l,l < n->(U l i).natAbs<=3 * dBd AF3 9/\(A l j).natAbs<=AF3:=fun l hl=>⟨hU l i hl hi,hb l j hl hj⟩
      have h5:(psum (fun l=>U l i * A l j) n).natAbs<=n * (3 * dBd AF3 9 * AF3):=by
        refine QF.psum_abs fun l hl=>?_
        rw [Int.natAbs_mul]
        exact Nat.mul_le_mul (h4 l hl).1 (h4 l hl).2
      have h6:n * (3 * dBd AF3 9 * AF3)<=8 * (3 * dBd AF3 9 * AF3):=Nat.mul_le_mul_right _ hn
      have h7:8 * (3 * dBd AF3 9 * AF3)<=Aav:=by decide
      rw [h3]
      exact Nat.le_trans h5 (Nat.le_trans h6 h7)
    · unfold AB5
      rw [Amr Ac Zj Aek (fun i j hi hj=>Nat.le_trans (hT i j hi hj) hTD) Am Ad]
      rfl
  rcases hr with ⟨rfl,hsz,hlv⟩ | ⟨i',j,hji,hi',hbad,hsz,hzi,hlv,rfl⟩ | ⟨j,hj,hbad,hsz,hlv,rfl⟩
  ·dsimp only;refine AAw (fun _=>?_) (fun h=>absurd rfl h);have hrest:=AT9 hn L fun l hl=>hsz i l hl L.hi;refine Zu (ABh (Atz Ac Zj (fun i j hi hj=>Nat.lt_of_le_of_lt (Ahr L.sym L.pos hrest hi hj) Zl) Ad)) fun x hx=>Zq ?_;subst hx;exact ⟨A,T,rfl,⟨L.sym,L.pos,hsz,hlv,by rw [R.dt];exact hdt⟩,R.car,R.dt,hrest⟩
  ·dsimp only;refine AAw (fun h=>absurd h Zl) fun _=>?_
   have hU:∀ r s,r < n->s < n->(AUz A i' j r s).natAbs<=3 * dBd AF3 9:=fun r s hr Ab=>by
     have hdl:∀ a b,(dl a b).natAbs<=3 * dBd AF3 9:=fun a b=>by unfold dl;split <;> decide
     unfold AUz
     rw [AA4]
     split
     · split
       · exact Ajg hn hji hi' L.pos hb
       · exact hdl _ _
     · exact hdl _ _
   obtain ⟨e1,e2⟩:=prod hU;refine Zu (ABh e1) fun x hx=>Zu (ABh e2) fun y hy=>Zq ?_;subst hx;subst hy;obtain ⟨L2,hm⟩:=Aje hn L hi' hji hbad hsz hzi hlv;have hsum:Aed n (AVt A i' j (ARk A i' j))=Aed n A:=AA2 fun k _=>ANx hji;refine ⟨_,?_,AVt A i' j (ARk A i' j),ACj n T (AUz A i' j),i',i' - j,⟨L2,Aau R.car fun r s hr Ab=>Aei hji hi' hr Ab,by rw [ANx hji];exact R.dt⟩,?_,rfl⟩
   ·rw [hsum];have:=L.hi;have:=L.ht;omega
   ·rw [AM6 fun r s hr Ab=>Aei hji hi' hr Ab]
  ·dsimp only;refine AAw (fun h=>absurd h Zl) fun _=>?_
   have hU:∀ r s,r < n->s < n->(AEx dl (j + 1) j r s).natAbs<=3 * dBd AF3 9:=fun r s hr Ab=>by
     rw [Ab9];unfold dl;split <;> decide
   obtain ⟨e1,e2⟩:=prod hU;refine Zu (ABh e1) fun x hx=>Zu (ABh e2) fun y hy=>Zq ?_;subst hx;subst hy;obtain ⟨L2,hm⟩:=Ajf hn L hj hbad (fun r l h1 h2=>hsz r l h1 Zj) fun r hr=>hlv r Zj;refine ⟨_,?_,swA A j,ACj n T (AEx dl (j + 1) j),0,0,⟨L2,Aau R.car fun r s hr Ab=>Ahp hj hr Ab,by rw [Ahe Zj];exact R.dt⟩,?_,rfl⟩
   ·have h1:=Ahs L.pos;have h2:=Ahs L2.pos;have:=L.hi;have:=L.ht;omega
   ·rw [AM6 fun r s hr Ab=>Ahp hj hr Ab]
 ·have h1:=Apq hD;have h2:((n + 1:Nat):Int) * dm9<=9 * dm9:=Int.mul_le_mul_of_nonneg_right Zj Zl;have h3:(9 * dm9)=387420489:=by decide
  have h4:387420489 * 128 + 128 < ADz:=by decide
  omega
def part (n i:Nat) (G:Z4):List (List Int):=ACl n fun r=>if r < i then ACl n (G r) else []
theorem AKg {n i r:Nat} {G:Z4} (hr:r < i) (hn:r < n):(part n i G)[r]? =some (ACl n (G r)):=by
 unfold part;rw [AA0 hn,if_pos hr]
theorem AQl {n i:Nat} {G:Z4} (hn:i < n):(part n i G)[i]? =some []:=by
 unfold part;rw [AA0 hn,if_neg (Nat.lt_irrefl i)]
theorem AL0 {n i r:Nat} {G:Z4} {g:Nat->Int} (hr:r < i):(part n i G).set r (ACl n g)=part n i (ABz G r g):=by
 unfold part;rw [AEm];refine ABi fun k _=>?_;by_cases h:k=r
 ·subst h;rw [if_pos rfl,if_pos hr,AB0]
 ·rw [if_neg h,AE9 _ _ h]
theorem AN5 {n i:Nat} {G:Z4} {g:Nat->Int}:(part n i G).set i (ACl n g)=part n (i + 1) (ABz G i g):=by
 unfold part;rw [AEm];refine ABi fun k _=>?_;by_cases h:k=i
 ·subst h;rw [if_pos rfl,if_pos Zj,AB0]
 ·rw [if_neg h,AE9 _ _ h];by_cases h2:k < i
  ·rw [if_pos h2,if_pos Zj]
  ·rw [if_neg h2,if_neg Zj]
theorem AMe (n:Nat) (G:Z4):part n n G=tab n n G:=by
 unfold part;rw [AN2];exact ABi fun k hk=>if_pos hk
theorem AMf (n:Nat) (G:Z4):List.replicate n ([]:List Int)=part n 0 G:=by
 rw [AFu];exact ABi fun k _=>(if_neg Zj).symm
theorem AU0 {L:List Int} {q:Nat} (hq:q < 4611686018427387904):Ok (if (L.length:Int)<=((q:Nat):Int) then (some ((0:Int),((q:Nat):Int))) else ((gI L (w64 ((w64 (((q:Nat):Int) + 1)) - 1))).bind fun x=>(some ((w64 x),(w64 (((q:Nat):Int) + 1)))))) fun e=> ∃ p:Nat,e.2=(p:Int)/\p<=q + 1:=by
  refine AAw (fun h=>Zq ⟨q,rfl,Zj⟩) fun h=>?_;have hl:q < L.length:=by omega
  refine AAv (n:=q) (List.getElem?_eq_getElem hl) (by rw [ACf (x:=(q:Int) + 1) Zj Zj,wk Zj];omega) (Zq ⟨q + 1,?_,Zj⟩);rw [ACf (x:=(q:Int) + 1) Zj Zj];omega
theorem ASs (x:Int) (m:Nat) (hm:0 < m):0<=Int.tmod (w64 (IntKind.wrap .u8 x)) (m:Int)/\Int.tmod (w64 (IntKind.wrap .u8 x)) (m:Int) < m:=by
 have h1:IntKind.wrap .u8 x=x % 256:=by rw [IntKind.wrap_u8]
 rw [h1];have a1:=Int.emod_nonneg x (show (256:Int)≠0 by decide);have a2:=Int.emod_lt_of_pos x (show (0:Int) < 256 by decide);rw [wk Zj,Int.tmod_eq_emod_of_nonneg a1];exact ⟨Int.emod_nonneg _ Zj,Int.emod_lt_of_pos _ Zj⟩
def dgF (f:Nat->Int) (r c:Nat):Int:=if c=r then f r else 0
theorem At3 {fuel N q0:Nat} {a1 Ac:Int} {L:List Int} (hN:w64 (1 + (Int.tmod (w64 a1) Ac))=(N:Int)) (Af:N<=8) (Ag:q0<=1000) (hf:100 < fuel):
    Ok (iter (fun s=>AD5 fuel a1 L Ac s.1 s.2.1 s.2.2) fuel (0,(q0:Int),(List.replicate (Int.toNat (w64 (1 + (Int.tmod (w64 a1) Ac)))) ([]:List Int)))) fun e=> ∃ (q:Nat) (f:Nat->Int),e=((q:Int),tab N N (dgF f))/\q<=q0 + N/\ ∀ r,r < N->1<=f r/\f r<=6:=by
 refine ABd (fun i s=> ∃ (q:Nat) (f:Nat->Int),s=(((i:Nat):Int),(q:Int),part N i (dgF f))/\i<=N/\q<=q0 + i/\ ∀ r,r < i->1<=f r/\f r<=6) N ⟨q0,fun _=>0,by rw [hN,Int.toNat_natCast,AMf N (dgF fun _=>0)];rfl,Zj,Zj,fun r hr=>by omega⟩ Zj fun i s hi hI=>?_;obtain ⟨q,f,rfl,hiN,hq,Ad⟩:=hI;unfold AD5;dsimp only;rw [List.length_replicate,hN,Int.toNat_natCast];refine AAw (fun h=>ABs Zj ?_) (fun h=>Zq ?_)
 ·have hi':i < N:=by omega
  refine AAv (AQl hi') rfl ?_;rw [AB4,AFu N (0:Int),AN5];refine AAv (AKg Zj hi') rfl ?_;rw [AB0];refine Zu (Q:=fun e:Int × Int=>0<=e.1/\e.1 < 6/\ ∃ p:Nat,e.2=(p:Int)/\p<=q + 1) (Zu (AU0 (L:=L) (q:=q) Zj) fun e he=>?_) fun e he=>AAv (AA0 hi') rfl (Zq ⟨Zj,?_⟩)
  ·exact Zq ⟨(ASs _ 6 Zl).1,(ASs _ 6 Zl).2,he⟩
  ·obtain ⟨h1,h2,p,h3,h4⟩:=he;refine ⟨p,fun r=>if r=i then 1 + e.1 else f r,?_,Zj,Zj,fun r hr=>?_⟩
   ·rw [ACf (x:=(i:Int) + 1) Zj Zj,ACf (x:=1 + e.1) Zj Zj,h3,AB4,AB4,AEm,AL0 Zj];refine congrArg (fun z=>(((i + 1:Nat):Int),(p:Int),z)) (ABi fun r hr=>?_);split
    ·refine ABi fun c hc=>?_;rw [AA4];unfold dgF;dsimp only;split
     ·next h=>subst h;rfl
     ·next h=>rw [AA4,if_neg h]
    ·rfl
   ·dsimp only;split
    ·omega
    ·exact Ad r Zj
 ·obtain rfl:i=N:=by omega
  exact ⟨q,f,by rw [AMe],Zj,Ad⟩
theorem Ase {fuel N q0:Nat} {a1 Ac:Int} {L:List Int} (hN:w64 (1 + (Int.tmod (w64 a1) Ac))=(N:Int)) (Af:N<=8) (Ag:q0<=1000) (hf:100 < fuel):
    Ok (iter (fun s=>ADr fuel a1 L Ac s.1 s.2.1 s.2.2) fuel (0,(q0:Int),(List.replicate (Int.toNat (w64 (1 + (Int.tmod (w64 a1) Ac)))) ([]:List Int)))) fun e=> ∃ (q:Nat) (f:Nat->Int),e=((q:Int),tab N N (dgF f))/\q<=q0 + N/\ ∀ r,r < N->1<=f r/\f r<=9:=by
 refine ABd (fun i s=> ∃ (q:Nat) (f:Nat->Int),s=(((i:Nat):Int),(q:Int),part N i (dgF f))/\i<=N/\q<=q0 + i/\ ∀ r,r < i->1<=f r/\f r<=9) N ⟨q0,fun _=>0,by rw [hN,Int.toNat_natCast,AMf N (dgF fun _=>0)];rfl,Zj,Zj,fun r hr=>by omega⟩ Zj fun i s hi hI=>?_;obtain ⟨q,f,rfl,hiN,hq,Ad⟩:=hI;unfold ADr;dsimp only;rw [List.length_replicate,hN,Int.toNat_natCast];refine AAw (fun h=>ABs Zj ?_) (fun h=>Zq ?_)
 ·have hi':i < N:=by omega
  refine AAv (AQl hi') rfl ?_;rw [AB4,AFu N (0:Int),AN5];refine AAv (AKg Zj hi') rfl ?_;rw [AB0];refine Zu (Q:=fun e:Int × Int=>0<=e.1/\e.1 < 9/\ ∃ p:Nat,e.2=(p:Int)/\p<=q + 1) (Zu (AU0 (L:=L) (q:=q) Zj) fun e he=>?_) fun e he=>AAv (AA0 hi') rfl (Zq ⟨Zj,?_⟩)
  ·exact Zq ⟨(ASs _ 9 Zl).1,(ASs _ 9 Zl).2,he⟩
  ·obtain ⟨h1,h2,p,h3,h4⟩:=he;refine ⟨p,fun r=>if r=i then 1 + e.1 else f r,?_,Zj,Zj,fun r hr=>?_⟩
   ·rw [ACf (x:=(i:Int) + 1) Zj Zj,ACf (x:=1 + e.1) Zj Zj,h3,AB4,AB4,AEm,AL0 Zj];refine congrArg (fun z=>(((i + 1:Nat):Int),(p:Int),z)) (ABi fun r hr=>?_);split
    ·refine ABi fun c hc=>?_;rw [AA4];unfold dgF;dsimp only;split
     ·next h=>subst h;rfl
     ·next h=>rw [AA4,if_neg h]
    ·rfl
   ·dsimp only;split
    ·omega
    ·exact Ad r Zj
 ·obtain rfl:i=N:=by omega
  exact ⟨q,f,by rw [AMe],Zj,Ad⟩
theorem Asf {fuel N q0:Nat} {a1 Ac:Int} {L:List Int} (hN:w64 (1 + (Int.tmod (w64 a1) Ac))=(N:Int)) (Af:N<=8) (Ag:q0<=1000) (hf:100 < fuel):
    Ok (iter (fun s=>ADs fuel a1 L Ac s.1 s.2.1 s.2.2) fuel (0,(q0:Int),(List.replicate (Int.toNat (w64 (1 + (Int.tmod (w64 a1) Ac)))) ([]:List Int)))) fun e=> ∃ (q:Nat) (f:Nat->Int),e=((q:Int),tab N N (dgF f))/\q<=q0 + N/\ ∀ r,r < N->1<=f r/\f r<=1:=by
 refine ABd (fun i s=> ∃ (q:Nat) (f:Nat->Int),s=(((i:Nat):Int),(q:Int),part N i (dgF f))/\i<=N/\q<=q0 + i/\ ∀ r,r < i->1<=f r/\f r<=1) N ⟨q0,fun _=>0,by rw [hN,Int.toNat_natCast,AMf N (dgF fun _=>0)];rfl,Zj,Zj,fun r hr=>by omega⟩ Zj fun i s hi hI=>?_;obtain ⟨q,f,rfl,hiN,hq,Ad⟩:=hI;unfold ADs;dsimp only;rw [List.length_replicate,hN,Int.toNat_natCast];refine AAw (fun h=>ABs Zj ?_) (fun h=>Zq ?_)
 ·have hi':i < N:=by omega
  refine AAv (AQl hi') rfl ?_;rw [AB4,AFu N (0:Int),AN5];refine AAv (AKg Zj hi') rfl ?_;rw [AB0];refine Zu (Q:=fun e:Int × Int=>0<=e.1/\e.1 < 1/\ ∃ p:Nat,e.2=(p:Int)/\p<=q + 1) (Zu (AU0 (L:=L) (q:=q) Zj) fun e he=>?_) fun e he=>AAv (AA0 hi') rfl (Zq ⟨Zj,?_⟩)
  ·exact Zq ⟨(ASs _ 1 Zl).1,(ASs _ 1 Zl).2,he⟩
  ·obtain ⟨h1,h2,p,h3,h4⟩:=he;refine ⟨p,fun r=>if r=i then 1 + e.1 else f r,?_,Zj,Zj,fun r hr=>?_⟩
   ·rw [ACf (x:=(i:Int) + 1) Zj Zj,ACf (x:=1 + e.1) Zj Zj,h3,AB4,AB4,AEm,AL0 Zj];refine congrArg (fun z=>(((i + 1:Nat):Int),(p:Int),z)) (ABi fun r hr=>?_);split
    ·refine ABi fun c hc=>?_;rw [AA4];unfold dgF;dsimp only;split
     ·next h=>subst h;rfl
     ·next h=>rw [AA4,if_neg h]
    ·rfl
   ·dsimp only;split
    ·omega
    ·exact Ad r Zj
 ·obtain rfl:i=N:=by omega
  exact ⟨q,f,by rw [AMe],Zj,Ad⟩
theorem Asg {fuel N q0:Nat} {a1 Ac:Int} {L:List Int} (hN:w64 (1 + (Int.tmod (w64 a1) Ac))=(N:Int)) (Af:N<=8) (Ag:q0<=1000) (hf:100 < fuel):
    Ok (iter (fun s=>ADt fuel a1 L Ac s.1 s.2.1 s.2.2) fuel (0,(q0:Int),(List.replicate (Int.toNat (w64 (1 + (Int.tmod (w64 a1) Ac)))) ([]:List Int)))) fun e=> ∃ (q:Nat) (f:Nat->Int),e=((q:Int),tab N N (dgF f))/\q<=q0 + N/\ ∀ r,r < N->1<=f r/\f r<=2:=by
 refine ABd (fun i s=> ∃ (q:Nat) (f:Nat->Int),s=(((i:Nat):Int),(q:Int),part N i (dgF f))/\i<=N/\q<=q0 + i/\ ∀ r,r < i->1<=f r/\f r<=2) N ⟨q0,fun _=>0,by rw [hN,Int.toNat_natCast,AMf N (dgF fun _=>0)];rfl,Zj,Zj,fun r hr=>by omega⟩ Zj fun i s hi hI=>?_;obtain ⟨q,f,rfl,hiN,hq,Ad⟩:=hI;unfold ADt;dsimp only;rw [List.length_replicate,hN,Int.toNat_natCast];refine AAw (fun h=>ABs Zj ?_) (fun h=>Zq ?_)
 ·have hi':i < N:=by omega
  refine AAv (AQl hi') rfl ?_;rw [AB4,AFu N (0:Int),AN5];refine AAv (AKg Zj hi') rfl ?_;rw [AB0];refine Zu (Q:=fun e:Int × Int=>0<=e.1/\e.1 < 2/\ ∃ p:Nat,e.2=(p:Int)/\p<=q + 1) (Zu (AU0 (L:=L) (q:=q) Zj) fun e he=>?_) fun e he=>AAv (AA0 hi') rfl (Zq ⟨Zj,?_⟩)
  ·exact Zq ⟨(ASs _ 2 Zl).1,(ASs _ 2 Zl).2,he⟩
  ·obtain ⟨h1,h2,p,h3,h4⟩:=he;refine ⟨p,fun r=>if r=i then 1 + e.1 else f r,?_,Zj,Zj,fun r hr=>?_⟩
   ·rw [ACf (x:=(i:Int) + 1) Zj Zj,ACf (x:=1 + e.1) Zj Zj,h3,AB4,AB4,AEm,AL0 Zj];refine congrArg (fun z=>(((i + 1:Nat):Int),(p:Int),z)) (ABi fun r hr=>?_);split
    ·refine ABi fun c hc=>?_;rw [AA4];unfold dgF;dsimp only;split
     ·next h=>subst h;rfl
     ·next h=>rw [AA4,if_neg h]
    ·rfl
   ·dsimp only;split
    ·omega
    ·exact Ad r Zj
 ·obtain rfl:i=N:=by omega
  exact ⟨q,f,by rw [AMe],Zj,Ad⟩
theorem Ash {fuel N q0:Nat} {L:List Int} {F0:Z4} (Ag:N<=8) (Ah:q0<=1000) (Ad:∀ i j,i < N->j < N->(F0 i j).natAbs<=9) (hf:100 < fuel):
    Ok (iter (fun s=>AD6 fuel L (tab N N F0) s.1 s.2.1 s.2.2) fuel (0,(q0:Int),tab N N F0)) fun e=> ∃ (q:Nat) (F:Z4),e=((q:Int),tab N N F)/\q<=q0 + 8 * N/\ ∀ i j,i < N->j < N->(F i j).natAbs<=9:=by
 refine ABd (fun i s=> ∃ (q:Nat) (F:Z4),s=(((i:Nat):Int),(q:Int),tab N N F)/\i<=N/\q<=q0 + 8 * i/\ ∀ i j,i < N->j < N->(F i j).natAbs<=9) N ⟨q0,F0,rfl,Zj,Zj,Ad⟩ Zj fun i s hi hI=>?_;obtain ⟨q,F,rfl,hiN,hq,hF⟩:=hI;unfold AD6;dsimp only;rw [AA9];refine AAw (fun h=>?_) (fun h=>Zq ⟨q,F,rfl,Zj,hF⟩);have hi':i < N:=by omega
 refine Zu (ABd (fun j s=> ∃ (p:Nat) (F:Z4),s=(((j:Nat):Int),(p:Int),tab N N F)/\j<=i/\p<=q + j/\ ∀ i j,i < N->j < N->(F i j).natAbs<=9) i (Q:=fun e=> ∃ (p:Nat) (F:Z4),e=((p:Int),tab N N F)/\p<=q + i/\ ∀ i j,i < N->j < N->(F i j).natAbs<=9) ⟨q,F,rfl,Zj,Zj,hF⟩ Zj fun j s hj hJ=>?_) fun e he=>?_
 ·obtain ⟨p,F,rfl,hji,hp,hF⟩:=hJ;unfold AF4;dsimp only;refine AAw (fun h=>?_) (fun h=>Zq ⟨p,F,rfl,Zj,hF⟩);have hj':j < i:=by omega
  refine AAv (ABl hi') rfl (Zu (AU0 (L:=L) (q:=p) Zj) fun e he=>AAv (AA0 Zj) rfl ?_);obtain ⟨p2,h3,h4⟩:=he;rw [AB4,AB4,AEm,show (ACl N fun c=>if c=j then Int.tmod e.1 3 else F i c)=(List.range N).map fun c=>if c=j then Int.tmod e.1 3 else F i c from rfl,AK5];refine AAv (ABl Zj) rfl (AAv (ABl hi') rfl (AAv (AA0 Zj) rfl (AAv (AA0 hi') rfl (Zq ⟨Zj,p2,?_⟩))));generalize Af:(ABz F i fun c=>if c=j then Int.tmod e.1 3 else F i c)=F1
  have hv:(Int.tmod e.1 3).natAbs<=9:=by
    have:=Int.natAbs_tmod e.1 3
    have h5:e.1.natAbs % (3:Int).natAbs < 3:=Nat.mod_lt _ Zl
    omega
  have hF1b:∀ i j,i < N->j < N->(F1 i j).natAbs<=9:=fun a b ha hb=>by
    subst Af
    rw [AA4]
    split
    · split
      · exact hv
      · exact hF i b hi' hb
    · exact hF a b ha hb
  refine ⟨ABz F1 j fun c=>if c=i then F1 i j else F1 j c,?_,Zj,Zj,fun a b ha hb=>?_⟩
  ·rw [wk Zj,h3,AB4,AB4,AEm,show (ACl N fun c=>if c=i then F1 i j else F1 j c)=(List.range N).map fun c=>if c=i then F1 i j else F1 j c from rfl,AK5];rfl
  ·rw [AA4];split
   ·split
    ·exact hF1b i j hi' Zj
    ·exact hF1b j b Zj hb
   ·exact hF1b a b ha hb
 ·obtain ⟨p,F,rfl,hp,hF⟩:=he;exact Zq ⟨Zj,p,F,by rw [wk Zj];rfl,Zj,Zj,hF⟩
theorem Aht {fuel N:Nat} {b:Bool} (Ag:1<=N) (Ah:N<=8) (hf:100 < fuel):Ok (AE1 fuel (N:Int) b) fun e=> ∃ F,e=tab N N F/\ ∀ i j,i < N->j < N->(F i j).natAbs<=2:=by
 unfold AE1;refine ABs Zj ?_;rw [Int.toNat_natCast];refine Zu (ABd (fun i s=> ∃ G:Z4,s=(((i:Nat):Int),part N i G)/\i<=N/\ ∀ r c,(G r c).natAbs<=2) N (Q:=fun e=> ∃ F,e=tab N N F/\ ∀ i j,i < N->j < N->(F i j).natAbs<=2) ⟨fun _ _=>0,by rw [AMf N fun _ _=>0];rfl,Zj,fun _ _=>Nat.zero_le _⟩ Zj fun i s hi hI=>?_) fun e he=>Zq he;obtain ⟨G,rfl,hiN,hG⟩:=hI;unfold AJh;dsimp only;rw [List.length_replicate,Int.toNat_natCast];refine AAw (fun h=>ABs Zj ?_) (fun h=>Zq ?_)
 ·have hi':i < N:=by omega
  refine AAv (AQl hi') rfl ?_;rw [AB4,AFu N (0:Int),AN5];refine AAv (AKg Zj hi') rfl ?_;rw [AB0];refine AAv (AA0 hi') rfl ?_;rw [AB4,AB4,AEm,AL0 Zj]
  have Ab:∀ r c,(ABz (ABz G i fun x=>0) i (fun c=>if c=i then 2 else 0) r c).natAbs<=2:=fun r c=>by
    rw [AA4]
    split
    · split <;> decide
    · rw [AA4]
      split
      · decide
      · exact hG r c
  generalize (ABz (ABz G i fun x=>0) i fun c=>if c=i then 2 else 0)=G1 at Ab;have wi:w64 ((i:Int) + 1)=((i + 1:Nat):Int):=by rw [wk Zj];omega
  refine Zu (Q:=fun k=>k=(i:Int) - 1∨k=(i:Int) - 2) ?_ fun k hk=>?_
  ·have w1:w64 ((i:Int) - 1)=(i:Int) - 1:=wk Zj;have w2:w64 ((i:Int) - 2)=(i:Int) - 2:=wk Zj;rw [w1,w2];exact AAw (fun _=>AAw (fun _=>AAw (fun _=>Zq (.inr rfl)) fun _=>Zq (.inl rfl)) fun _=>Zq (.inl rfl)) fun _=>Zq (.inl rfl)
  ·refine AAw (fun h=>?_) (fun h=>Zq ⟨Zj,G1,by rw [wi],Zj,Ab⟩);obtain ⟨k,rfl⟩:∃ q:Nat,k=q:=⟨k.toNat,Zj⟩;have hki:k < i:=by omega
   refine AAv (AKg Zj hi') rfl (AAv (AKg Zj Zj) rfl (AAv (AA0 Zj) rfl ?_));rw [AB4,AB4,AEm,AL0 Zj]
   have Ac:∀ r c,(ABz G1 i (fun c=>if c=k then -1 else G1 i c) r c).natAbs<=2:=fun r c=>by
     rw [AA4]
     split
     · split
       · decide
       · exact Ab i c
     · exact Ab r c
   generalize (ABz G1 i fun c=>if c=k then -1 else G1 i c)=G2 at Ac;refine AAv (AKg Zj Zj) rfl (AAv (AA0 hi') rfl (Zq ⟨Zj,ABz G2 k fun c=>if c=i then -1 else G2 k c,?_,Zj,fun r c=>?_⟩))
   ·rw [wi,AB4,AB4,AEm,AL0 Zj]
   ·rw [AA4];split
    ·split
     ·decide
     ·exact Ac k c
    ·exact Ac r c
 ·obtain rfl:i=N:=by omega
  exact ⟨G,AMe _ _,fun a b _ _=>hG a b⟩
theorem Amx {n B:Nat} {F:Z4} (hB:B < 9223372036854775808) (h:∀ i j,i < n->j < n->(F i j).natAbs<=B):∀ z∈tab n n F,∀ x∈z,-9223372036854775808<=x/\x<=9223372036854775807:=fun z hz x hx=>by
  obtain ⟨i,hi⟩:=List.getElem?_of_mem hz
  have hin:i < n:=by have:=(List.getElem?_eq_some_iff.1 hi).1;rwa [AA9] at this
  rw [ABl hin] at hi
  cases hi
  obtain ⟨j,hj⟩:=List.getElem?_of_mem hx
  have hjn:j < n:=by have:=(List.getElem?_eq_some_iff.1 hj).1;rwa [ABm] at this
  rw [AA0 hjn] at hj
  cases hj
  have:=h i j hin hjn
  omega
theorem Apr {n:Nat} {F:Z4} (hn:1<=n) (Aa:n<=16):okM (tab n n F)=true:=by
 have hc:APf (tab n n F)=n:=Aj4 hn;unfold okM;rw [decide_eq_true_iff,AA9,hc];exact ⟨hn,Aa,fun z hz=>by rw [AVb z hz];exact ⟨hn,Aa,rfl⟩⟩
theorem Af2 {fuel n:Nat} {F:Z4} (hn:1<=n) (Aa:n<=16) (h:∀ i j,i < n->j < n->(F i j).natAbs<=9223372036854775807) (hf:17 < fuel):ADx fuel (tab n n F)=some (tab n n F):=by
 rw [Atr (Amx Zl h) hf,if_pos (Apr hn Aa)]
theorem Asi {fuel n:Nat} {F:Z4} (Ab:1<=n) (hn:n<=8) (hb:∀ i j,i < n->j < n->(F i j).natAbs<=1000000) (hf:100 < fuel):Ok (AGt fuel (tab n n F)) fun r=>r=true↔AKf n F/\ALz n F/\det n F<=10000:=by
 have Ac:∀ i j,i < n->j < n->(F i j).natAbs<=AF3:=fun i j hi hj=>Nat.le_trans (hb i j hi hj) Zl;unfold AGt;refine Zu (ABh (Af2 Ab Zj (fun i j hi hj=>Nat.le_trans (hb i j hi hj) Zl) Zj)) fun x hx=>?_;subst hx;refine Zu (AZj Ab hn Ac hf) fun v hv=>AAw (fun h=>?_) fun h=>Zq (Iff.intro (fun h2=>nomatch h2) fun h2=>absurd (hv.2 ⟨h2.1,h2.2.1⟩) h);have h1:=hv.1 h;refine Zu (ABh (AVn hn Ac Zj)) fun d hd=>Zu (Q:=(· =10000)) ⟨10000,if_pos Zj,rfl⟩ fun t ht=>Zu (ABh (a:=ARe d t) rfl) fun c hc=>Zq ?_;subst hd;subst ht;subst hc;rw [decide_eq_true_iff,Ab6];exact ⟨fun h2=>⟨h1.1,h1.2,h2⟩,fun h2=>h2.2.2⟩
theorem Asj {n:Nat} {f:Nat->Int} (hn:n<=8) (h:∀ r,r < n->1<=f r/\f r<=2):AKf n (dgF f)/\ALz n (dgF f)/\det n (dgF f)<=10000:=by
 have hd:∀ k,k<=n->det k (dgF f)=AC9 f k:=fun k hk=>by
   rw [AT5 (F:=dgF f) (fun c i hc hci hi=>by unfold dgF;rw [if_neg Zj])]
   exact ATj fun i _=>by unfold dgF;rw [if_pos rfl]
 have hb:∀ k,k<=n->0 < AC9 f k/\AC9 f k<=2 ^ k:=fun k=>by
   induction k with
   | zero=>intro _;simp [AC9]
   | succ k ih=>
     intro hk
     have h1:=ih Zj
     have h2:=h k Zj
     simp only [AC9]
     refine ⟨Int.mul_pos h1.1 Zj,?_⟩
     rw [Int.pow_succ]
     exact Int.mul_le_mul h1.2 h2.2 Zj (Int.le_of_lt (AVu k))
 refine ⟨fun i j hi hj=>?_,fun k hk=>by rw [hd k hk];exact (hb k hk).1,?_⟩
 ·unfold dgF;split
  ·next h=>subst h;rw [if_pos rfl]
  ·next h=>rw [if_neg (fun h2=>h h2.symm)]
 ·rw [hd n (Nat.le_refl n)];have:=(hb n (Nat.le_refl n)).2;have h2:=AVv hn;omega
structure At4 (n:Nat) (A:Z4):Prop where
  n1:1<=n
  n8:n<=8
  sym:AKf n A
  pos:ALz n A
  bd:∀ i j,i < n->j < n->(A i j).natAbs<=9
  dt:det n A<=10000
theorem Ahu {n m:Nat} {f:Nat->Int} (h:∀ r,r < n->1<=f r/\f r<=(m:Int)):∀ i j,i < n->j < n->(dgF f i j).natAbs<=m:=fun i j hi hj=>by
  unfold dgF
  have:=h i hi
  split <;> omega
theorem Asl {fuel:Nat} {a1 a2 most:Int} {L L2:List Int} (h1:0<=a1/\a1 < 256) (hm:1<=most/\most<=8) (hf:100 < fuel):Ok (ADm fuel a1 a2 L L2 most) fun r=> ∃ n A,r=tab n n A/\At4 n A/\(n:Int)=1 + Int.tmod a1 most:=by
 have t1:=Int.emod_nonneg a1 (show most≠0 by omega);have t2:=Int.emod_lt_of_pos a1 (show 0 < most by omega);have t3:Int.tmod a1 most=a1 % most:=Int.tmod_eq_emod_of_nonneg h1.1
 have hN:w64 (1 + Int.tmod (w64 a1) most)=((1 + a1 % most).toNat:Int):=by
   rw [ACf (x:=a1) Zj Zj,t3,wk Zj];omega
 generalize hNN:(1 + a1 % most).toNat=N at hN;have Ae:1<=N:=by omega
 have Ab:N<=8:=by omega
 unfold ADm;refine ABs Zj (Zu (Q:=fun e=> ∃ (q:Nat) (F:Z4),e=(tab N N F,(q:Int))/\q<=200/\ ∀ i j,i < N->j < N->(F i j).natAbs<=9) (Zu (Q:=fun _=>True) ?_ fun k _=>AAw (fun _=>?_) fun _=>AAw (fun _=>?_) fun _=>AAw (fun _=>?_) fun _=>AAw (fun _=>?_) fun _=>?_) fun e he=>?_)
 ·exact AAw (fun _=>Zq trivial) fun _=>AAw (fun _=>Zq trivial) fun _=>AAw (fun _=>Zq trivial) fun _=>Zq trivial
 ·refine Zu (Q:=fun e=> ∃ (q:Nat) (F:Z4),e=(tab N N F,(q:Int))/\q<=200/\ ∀ i j,i < N->j < N->(F i j).natAbs<=9) (Zu (Q:=fun e=> ∃ (q:Nat) (f:Nat->Int),e=(tab N N (dgF f),(q:Int))/\q<=8/\ ∀ r,r < N->1<=f r/\f r<=6) (ABs (by rw [hN];omega) (Zu (At3 (q0:=0) (L:=L) hN Ab Zj hf) fun e he=>Zq ?_)) fun e he=>?_) fun e he=>Zq he
  ·obtain ⟨q,f,rfl,h2,h3⟩:=he;exact ⟨q,f,rfl,Zj,h3⟩
  ·obtain ⟨q,f,rfl,h2,h3⟩:=he;refine Zu (Ash (L:=L) (q0:=q) Ab Zj (fun i j hi hj=>Nat.le_trans (Ahu (m:=6) h3 i j hi hj) Zl) hf) fun e he=>Zq ?_;obtain ⟨q,F,rfl,h4,h5⟩:=he;exact ⟨q,F,rfl,Zj,h5⟩
 ·rw [hN];refine Zu (Aht Ae Ab hf) fun F hF=>?_;obtain ⟨F,rfl,hF⟩:=hF;refine AAv (n:=0) (ABl Zj) rfl (AAv (n:=0) (AA0 Zj) rfl (Zu (Q:=fun e:Int × Int=>0<=e.1/\e.1 < 3/\ ∃ p:Nat,e.2=(p:Int)/\p<=0 + 1) (Zu (AU0 (L:=L) (q:=0) Zj) fun e he=>Zq ⟨(ASs _ 3 Zl).1,(ASs _ 3 Zl).2,he⟩) fun e he=>Zq ?_));obtain ⟨c1,c2,p,c3,c4⟩:=he;have c5:=hF 0 0 Zj Zj;refine ⟨p,ABz F 0 fun c=>if c=0 then F 0 0 + e.1 else F 0 c,?_,Zj,fun i j hi hj=>?_⟩
  ·rw [c3,wk Zj];refine congrArg (fun z=>(z,(p:Int))) ?_;show (tab N N F).set 0 ((ACl N (F 0)).set 0 (F 0 0 + e.1))=_;rw [AEm];exact AK5
  ·rw [AA4];split
   ·split
    ·omega
    ·have:=hF 0 j Zj hj;omega
   ·have:=hF i j hi hj;omega
 ·rw [hN];refine Zu (Aht Ae Ab hf) fun F hF=>?_;obtain ⟨F,rfl,hF⟩:=hF;have w1:w64 ((N:Int) - 1)=((N - 1:Nat):Int):=by rw [wk Zj];omega
  rw [w1];refine AAv (ABl Zj) rfl (AAv (AA0 Zj) rfl (Zu (Q:=fun e:Int × Int=>0<=e.1/\e.1 < 2/\ ∃ p:Nat,e.2=(p:Int)/\p<=0 + 1) (Zu (AU0 (L:=L) (q:=0) Zj) fun e he=>Zq ⟨(ASs _ 2 Zl).1,(ASs _ 2 Zl).2,he⟩) fun e he=>Zq ?_));obtain ⟨c1,c2,p,c3,c4⟩:=he;have c5:=hF (N - 1) (N - 1) Zj Zj;refine ⟨p,ABz F (N - 1) fun c=>if c=N - 1 then F (N - 1) (N - 1) + e.1 else F (N - 1) c,?_,Zj,fun i j hi hj=>?_⟩
  ·rw [c3,wk Zj,AB4,AB4];refine congrArg (fun z=>(z,(p:Int))) ?_;rw [AEm];exact AK5
  ·rw [AA4];split
   ·split
    ·omega
    ·have:=hF (N - 1) j Zj hj;omega
   ·have:=hF i j hi hj;omega
 ·refine Zu (Q:=fun e=> ∃ (q:Nat) (F:Z4),e=(tab N N F,(q:Int))/\q<=200/\ ∀ i j,i < N->j < N->(F i j).natAbs<=9) (ABs (by rw [hN];omega) (Zu (Ase (q0:=0) (L:=L) hN Ab Zj hf) fun e he=>Zq ?_)) fun e he=>Zq he;obtain ⟨q,f,rfl,h2,h3⟩:=he;exact ⟨q,dgF f,rfl,Zj,fun i j hi hj=>Ahu (m:=9) h3 i j hi hj⟩
 ·refine Zu (Q:=fun e=> ∃ (q:Nat) (F:Z4),e=(tab N N F,(q:Int))/\q<=200/\ ∀ i j,i < N->j < N->(F i j).natAbs<=9) (ABs (by rw [hN];omega) (Zu (Asf (q0:=0) (L:=L) hN Ab Zj hf) fun e he=>Zq ?_)) fun e he=>Zq he;obtain ⟨q,f,rfl,h2,h3⟩:=he;exact ⟨q,dgF f,rfl,Zj,fun i j hi hj=>Nat.le_trans (Ahu (m:=1) h3 i j hi hj) Zl⟩
 ·obtain ⟨q,F,rfl,h2,h3⟩:=he;dsimp only;refine Zu (Asi Ae Ab (fun i j hi hj=>Nat.le_trans (h3 i j hi hj) Zl) hf) fun b hb=>AAw (fun hn=>?_) fun hn=>Zq ?_
  ·refine Zu (Q:=fun e=> ∃ f:Nat->Int,e.1=tab N N (dgF f)/\ ∀ r,r < N->1<=f r/\f r<=2) (ABs (by rw [hN];omega) (Zu (Asg (q0:=q) (L:=L) hN Ab Zj hf) fun e he=>Zq ?_)) fun e he=>Zq ?_
   ·obtain ⟨q,f,rfl,h4,h5⟩:=he;exact ⟨f,rfl,h5⟩
   ·obtain ⟨f,h4,h5⟩:=he;obtain ⟨d1,d2,d3⟩:=Asj Ab h5;exact ⟨N,dgF f,h4,⟨Ae,Ab,d1,d2,fun i j hi hj=>Nat.le_trans (Ahu (m:=2) h5 i j hi hj) Zl,d3⟩,by rw [t3];omega⟩
  ·have hg:AKf N F/\ALz N F/\det N F<=10000:=hb.1 (by simpa using hn);exact ⟨N,F,rfl,⟨Ae,Ab,hg.1,hg.2.1,h3,hg.2.2⟩,by rw [t3];omega⟩
theorem Asm {fuel:Nat} {a1 a2 most:Int} {L L2:List Int} (h1:0<=a1/\a1 < 256) (hm:1<=most/\most<=8) (hf:ADz < fuel):Ok (ADn fuel a1 a2 L L2 most) fun r=> ∃ n A,r=tab n n A/\1<=n/\(n:Int)<=most/\Aca n A/\ ∀ k,k < n->A k k<=3 * dm9:=by
  have hf2:100 < fuel:=Nat.lt_of_le_of_lt Zl hf;unfold ADn;refine Zu (Asl h1 hm hf2) fun g hg=>?_;obtain ⟨n,A,rfl,G,hn⟩:=hg;have t2:=Int.emod_lt_of_pos a1 (show 0 < most by omega);have t3:Int.tmod a1 most=a1 % most:=Int.tmod_eq_emod_of_nonneg h1.1
  let A0:Z4:=fun i j=>if i < n/\j < n then A i j else 0
  have hA0:∀ i j,i < n->j < n->A0 i j=A i j:=fun i j hi hj=>if_pos ⟨hi,hj⟩;have e:tab n n A=tab n n A0:=AM6 fun i j hi hj=>(hA0 i j hi hj).symm;refine Zu (ABh (Af2 G.n1 (by have:=G.n8;omega) (fun i j hi hj=>Nat.le_trans (G.bd i j hi hj) Zl) Zj)) fun x hx=>?_;subst hx;rw [e];have hp:ALz n A0:=fun k hk=>by rw [ABx fun i j hi hj=>hA0 i j Zj Zj];exact G.pos k hk
  have hs:AKf n A0:=fun i j hi hj=>by rw [hA0 i j hi hj,hA0 j i hj hi];exact G.sym i j hi hj
  have hE:∀ i j,(A0 i j).natAbs<=9:=fun i j=>by
    show (if i < n/\j < n then A i j else 0).natAbs<=9
    split
    · next h=>exact G.bd i j h.1 h.2
    · decide
  have hh:=Ami hs hp (B:=9) Zl (fun i hi=>by have:=hE i i;omega)
  refine Zu (Ajh G.n1 G.n8 hs hp (fun i j=>Nat.le_trans (hE i j) Zl) (fun k hk=>?_) (fun k hk=>?_) ?_ hf) fun r hr=>Zq ?_
  · have h2:=hh k hk
    have h3:(9:Int) ^ k<=9 ^ 8:=by
      have:=Nat.pow_le_pow_right (show 0 < 9 by omega) (show k<=8 by have:=G.n8;omega);have e2:∀ t:Nat,(9:Int) ^ t=((9 ^ t:Nat):Int):=fun t=>by simp
      rw [e2,e2];omega
    exact Int.le_trans h2 h3
  · have:=hE k k;have:(3 * dm9)=129140163:=by decide
    omega
  · rw [ABx hA0];exact G.dt
  · obtain ⟨A',T,rfl,R,-,-,hd⟩:=hr;exact ⟨n,A',rfl,G.n1,by rw [hn,t3];omega,R,hd⟩
theorem Amy {A:Z4} {k:Nat} (h1:LvF A k) (h2:SzF A (k + 1) k) (hp:0 < det (k + 1) A):det (k + 1) A * det (k + 1) A<=2 * (det k A * det (k + 2) A):=by
 unfold LvF at h1;unfold SzF at h2;have h3:(2 * Mn k A (k + 1) k) * (2 * Mn k A (k + 1) k)<=det (k + 1) A * det (k + 1) A:=ATq Zj h2.2;have h4:(2 * Mn k A (k + 1) k) * (2 * Mn k A (k + 1) k)=4 * (Mn k A (k + 1) k * Mn k A (k + 1) k):=by grind
 omega
theorem AJ9 {x y:Int} (h0:0<=x) (h:x<=y):∀ k:Nat,x ^ k<=y ^ k
  | 0=>by simp
  | k + 1=>by
    rw [Int.pow_succ,Int.pow_succ]
    exact Int.mul_le_mul (AJ9 h0 h k) h h0 (Int.le_trans (Int.pow_nonneg h0) (AJ9 h0 h k))
def tri:Nat->Nat
  | 0=>0
  | k + 1=>tri k + (k + 1)
theorem Af3 {n:Nat} {A:Z4} (hp:ALz n A) (hs:AVw A n) (hl:AXd A n):∀ k,k + 1<=n->det k A ^ (k + 1)<=det (k + 1) A ^ k * 2 ^ tri k:=by
  intro k;induction k with
  | zero=>intro _;simp [det,tri]
  | succ k ih=>
    intro hk;have ih:=ih Zj;have p0:=hp k Zj;have p1:=hp (k + 1) Zj;have p2:=hp (k + 2) Zj;have h1:=Amy (hl k Zj) (hs (k + 1) k Zj Zj) p1;generalize det k A=a at *
    generalize det (k + 1) A=b at *
    generalize det (k + 2) A=c at *
    have h2:(b * b) ^ (k + 1)<=(2 * (a * c)) ^ (k + 1):=AJ9 (Int.le_of_lt (Int.mul_pos p1 p1)) h1 _;rw [Int.mul_pow,Int.mul_pow,Int.mul_pow] at h2;have h3:a ^ (k + 1) * c ^ (k + 1)<=b ^ k * 2 ^ tri k * c ^ (k + 1):=Int.mul_le_mul_of_nonneg_right ih (Int.le_of_lt (Int.pow_pos p2));have h4:2 ^ (k + 1) * (a ^ (k + 1) * c ^ (k + 1))<=2 ^ (k + 1) * (b ^ k * 2 ^ tri k * c ^ (k + 1)):=Int.mul_le_mul_of_nonneg_left h3 (Int.le_of_lt (AVu _));have h5:=Int.le_trans h2 h4;have e1:b ^ (k + 1) * b ^ (k + 1)=b ^ k * b ^ (k + 1 + 1):=by rw [Int.pow_succ b k,Int.pow_succ b (k + 1),Int.pow_succ b k];grind
    have e2:(2:Int) ^ (k + 1) * (b ^ k * 2 ^ tri k * c ^ (k + 1))=b ^ k * (c ^ (k + 1) * 2 ^ tri (k + 1)):=by
      have:(2:Int) ^ tri (k + 1)=2 ^ tri k * 2 ^ (k + 1):=by rw [<- Int.pow_add];rfl
      rw [this];grind
    rw [e1,e2] at h5;exact Int.le_of_mul_le_mul_left h5 (Int.pow_pos p1)
def dU:Nat->Int
  | 8=>10000
  | 7=>35777
  | 6=>64000
  | 5=>57243
  | 4=>25600
  | _=>10000
theorem At5 (k:Nat):dU k<=64000:=by unfold dU;split <;> omega
theorem Aqo (k:Nat):10000<=dU k:=by unfold dU;split <;> omega
theorem Aps:∀ k,k < 8->dU (k + 1) ^ k * 2 ^ tri k < (dU k + 1) ^ (k + 1):=by decide
theorem Aji {n:Nat} {A:Z4} (hn:n<=8) (hp:ALz n A) (hs:AVw A n) (hl:AXd A n) (hd:det n A<=10000):∀ m k,k + m=n->det k A<=dU k:=by
 intro m
 induction m with
 | zero=>
     intro k hk;obtain rfl:k=n:=by omega
     exact Int.le_trans hd (Aqo _)
 | succ m ih=>
   intro k hk
   have h1:=ih (k + 1) Zj
   have h2:=Af3 hp hs hl k Zj
   have p0:=hp k Zj
   have p1:=hp (k + 1) Zj
   rcases Int.lt_or_le (dU k) (det k A) with h | h
   · exfalso
     have h3:(dU k + 1) ^ (k + 1)<=det k A ^ (k + 1):=AJ9 (by have:=Aqo k;omega) Zj _
     have h4:det (k + 1) A ^ k * 2 ^ tri k<=dU (k + 1) ^ k * 2 ^ tri k:=Int.mul_le_mul_of_nonneg_right (AJ9 (Int.le_of_lt p1) h1 k) (Int.le_of_lt (AVu _))
     have h5:=Aps k Zj
     omega
   · exact h
theorem AVy {n:Nat} {A:Z4} (hn:n<=8) (R:Aca n A) {k:Nat} (hk:k<=n):0 < det k A/\det k A<=64000:=
  ⟨R.pos k hk,Int.le_trans (Aji hn R.pos R.sz R.lv R.dt (n - k) k Zj) (At5 k)⟩
theorem AX3 {n:Nat} {A:Z4} (hn:n<=8) (R:Aca n A) {i j:Nat} (hi:i < n) (hj:j < n): -192000<=A i j/\A i j<=192000:=
  Aej R.sym R.pos (fun k hk=>Aea (Dm:=64000) hn R.sym R.pos hk (fun k hk=>(AVy hn R hk).2) fun l hl=>R.sz k l hl hk) hi hj
structure RB (n:Nat) (A:Z4) (k:Nat):Prop where
  pos:∀ j,k < j->j<=n->0 < det j A
  lt:∀ j,k < j->j < n->det j A < 65536
  sz:∀ l i,k<=l->l < i->i < n->SzF A i l
  lv:∀ l,k<=l->l + 1 < n->LvF A l
  dt:det n A<=10000
theorem Asn {A F:Z4} {m k:Nat} (h0:0 < det k A) (hF:∀ i j,i < m + 1->j < m + 1->F i j=Mn k A (k + i) (k + j)) {i j:Nat} (hi:i < m) (hj:j < m):AP7 F (det k A) i j=Mn (k + 1) A (k + 1 + i) (k + 1 + j):=by
 unfold AP7;rw [hF 0 0 Zj Zj,hF (i + 1) (j + 1) Zj Zj,hF (i + 1) 0 Zj Zj,hF 0 (j + 1) Zj Zj,Nat.add_zero,AT6 Zj,Int.mul_tdiv_cancel_left _ Zj];rw [show k + (i + 1)=k + 1 + i by omega,show k + (j + 1)=k + 1 + j by omega]
theorem Ael {n:Nat} {A:Z4}:∀ (m k:Nat) (F:Z4),k + m=n->1<=m->0 < det k A->(∀ i j,i < m->j < m->F i j=Mn k A (k + i) (k + j))->(AOk m F (det k A)=true↔RB n A k):=by
 intro m
 induction m with
 | zero=>intro k F _ h;omega
 | succ m ih=>
   intro k F hk _ h0 hF
   have Ad:F 0 0=det (k + 1) A:=by rw [hF 0 0 Zj Zj];exact AI5 k A
   cases m with
   | zero=>
     obtain rfl:k + 1=n:=hk
     show decide (0 < F 0 0/\F 0 0<=10000)=true↔_
     rw [decide_eq_true_iff,Ad]
     exact ⟨fun h=>⟨fun j h1 h2=>by
       obtain rfl:j=k + 1:=by omega
       exact h.1,fun j h1 h2=>by omega,fun l i h1 h2 h3=>by omega,fun l h1 h2=>by omega,h.2⟩,fun h=>⟨h.pos (k + 1) Zj (Nat.le_refl _),h.dt⟩⟩
   | succ m=>
     have hN:∀ i j,i < m + 1->j < m + 1->AP7 F (det k A) i j=Mn (k + 1) A (k + 1 + i) (k + 1 + j):=fun i j hi hj=>Asn h0 hF hi hj
     have hS:AOj (m + 1 + 1) F↔(0 < det (k + 1) A/\det (k + 1) A < 65536)/\ ∀ i,k < i->i < n->SzF A i k:=by
       unfold AOj
       rw [Ad]
       refine and_congr_right fun _=>⟨fun h i h1 h2=>?_,fun h i h1 h2=>?_⟩
       · have h3:=h (i - k) Zj Zj
         rw [hF (i - k) 0 Zj Zj,show k + (i - k)=i by omega] at h3
         unfold SzF
         simp only [Nat.add_zero] at h3
         omega
       · have h3:=h (k + i) Zj Zj
         unfold SzF at h3
         rw [hF i 0 h2 Zj,Nat.add_zero]
         omega
     have hL:AUg F (det k A)↔LvF A k:=by
       unfold AUg LvF
       rw [Ad,hN 0 0 Zj Zj,Nat.add_zero,AI5 (k + 1) A,hF 1 0 Zj Zj,Nat.add_zero]
       have e:3 * det (k + 1) A * det (k + 1) A=3 * (det (k + 1) A * det (k + 1) A):=by grind
       rw [e]
       exact Iff.rfl
     show (decide (AOj (m + 1 + 1) F) && (decide (AUg F (det k A)) && AOk (m + 1) (AP7 F (det k A)) (F 0 0)))=true↔_
     rw [Bool.and_eq_true,Bool.and_eq_true,decide_eq_true_iff,decide_eq_true_iff,hS,hL,Ad]
     constructor
     · rintro ⟨⟨⟨h1,h2⟩,h3⟩,h4,h5⟩
       have R:=(ih (k + 1) _ Zj Zj h1 hN).1 h5
       refine ⟨fun j a b=>?_,fun j a b=>?_,fun l i a b c=>?_,fun l a b=>?_,R.dt⟩
       · by_cases e:j=k + 1
         · subst e;exact h1
         · exact R.pos j Zj b
       · by_cases e:j=k + 1
         · subst e;exact h2
         · exact R.lt j Zj b
       · by_cases e:l=k
         · subst e;exact h3 i b c
         · exact R.sz l i Zj b c
       · by_cases e:l=k
         · subst e;exact h4
         · exact R.lv l Zj b
     · intro R
       have h1:=R.pos (k + 1) Zj Zj
       exact ⟨⟨⟨h1,R.lt (k + 1) Zj Zj⟩,fun i a b=>R.sz k i (Nat.le_refl k) a b⟩,R.lv k (Nat.le_refl k) Zj,(ih (k + 1) _ Zj Zj h1 hN).2 ⟨fun j a b=>R.pos j Zj b,fun j a b=>R.lt j Zj b,fun l i a b c=>R.sz l i Zj b c,fun l a b=>R.lv l Zj b,R.dt⟩⟩
def AZz (M:List (List Int)):Prop:=(1<=M.length/\M.length<=8)/\(∀ z∈M,z.length=M.length)/\Aca M.length (ent M)
theorem Aax (M:List (List Int)):isRed M=true↔AZz M:=by
 unfold isRed;rw [Bool.and_eq_true];constructor
 ·rintro ⟨h1,h2⟩;have S:=AY7 h1;have R:=(Ael (A:=ent M) (n:=M.length) M.length 0 (ent M) Zj S.1.1 (by simp [det]) fun i j _ _=>by rw [AM1,Nat.zero_add,Nat.zero_add]).1 (by simpa [det] using h2);refine ⟨S.1,S.2.1,fun i j hi hj=>(S.2.2 i j hi hj).1,fun k hk=>?_,fun r l h3 h4=>R.sz l r (Nat.zero_le _) h3 h4,fun l hl=>R.lv l (Nat.zero_le _) hl,R.dt⟩;rcases Nat.eq_zero_or_pos k with h | h
  ·subst h;simp [det]
  ·exact R.pos k h hk
 ·rintro ⟨h1,h2,R⟩;refine ⟨(AF5 ⟨h1,h2,fun i j hi hj=>⟨R.sym i j hi hj,?_,?_⟩⟩).symm,?_⟩
  ·have:=AX3 h1.2 R hi hj;omega
  ·have:=AX3 h1.2 R hi hj;omega
  ·have h3:=(Ael (A:=ent M) (n:=M.length) M.length 0 (ent M) Zj h1.1 (by simp [det]) fun i j _ _=>by rw [AM1,Nat.zero_add,Nat.zero_add]).2 ⟨fun j _ hj=>R.pos j hj,fun j _ hj=>by have:=AVy h1.2 R (k:=j) Zj;omega,fun l i _ a b=>R.sz i l a b,fun l _ hl=>R.lv l hl,R.dt⟩;simpa [det] using h3
end Go.Proofs.YtdkldlbgcfpglaaGreatDoor
namespace Go.Proofs.YtdkldlbgcfpglaaGreatDoor
open Go Go.QF
open Go.ChangeShapes Go.WideShapes Go.ChangeAt Go.RowKit
set_option maxRecDepth 100000
theorem Ajj:Tryz.prog.cellsOf 24=4:=by kernel_rfl
theorem Amz {H:Type} {enc:TypeId × Value->H} {W:World} {r:Reach} {b0:Nat} {v:Value} {d:DataW H} {p:List MemPlace} (hv:Value.okWide Tryz.prog W r b0 24 v) (h:DataW.Trod enc Tryz.prog W 0 (fun _=>true) true 24 v d p):
    ∃ (g k:Int) (lv bv:Value) (Z Y:List Int),v= .agg #[.int .u8 g,.int .u8 k,lv,bv]/\SlC (cI .i8) W.heap lv Z/\SlC (cI .i8) W.heap bv Y/\(0<=g/\g < 256)/\(0<=k/\k < 256)/\(∀ z∈Z,-128<=z/\z<=127)/\ ∀ z∈Y,-128<=z/\z<=127:=by
  obtain ⟨cs,rfl,hsz⟩:=okWide_struct Tryz.underlying24 hv;rw [Ajj] at hsz;obtain ⟨l⟩:=cs
  match l,hsz with
  | [c0,c1,c2,c3],_=>
    obtain ⟨fuel,hf⟩:=h;obtain ⟨y0,y1,y2,y3,n,_,_,h0,h1,h2,h3⟩:=Joins.trod_struct4 Tryz.underlying24 hf;simp [Value.cells,Akf,Akg] at h0 h1 h2 h3;obtain ⟨x0,e0,_,w0⟩:=DataW.trod_int Tryz.underlying5 h0;obtain ⟨x1,e1,_,w1⟩:=DataW.trod_int Tryz.underlying5 h1;simp at e0 e1;subst e0;subst e1;have b0:=wf_u8 w0;have b1:=wf_u8 w1;obtain ⟨Z,HZ,hZ⟩:=Akh h2;obtain ⟨Y,HY,hY⟩:=Akh h3;exact ⟨x0,x1,c2,c3,Z,Y,rfl,Al8 HZ,Al8 HY,Zj,Zj,hZ,hY⟩
end Go.Proofs.YtdkldlbgcfpglaaGreatDoor
namespace Go.Proofs.YtdkldlbgcfpglaaGreatDoor
open Go Go.QF
set_option maxRecDepth 100000
theorem Ahv {n k:Nat} {A:Z4} (hn:n<=8) (R:Aca n A) (hk:k<=n) {i j:Nat} (hi:i < n) (hj:j < n):(Mn k A i j).natAbs<=12288000000:=by
 have h1:=AWz R.sym R.pos hk hi hj
 have b:∀ i,i < n->Mn k A i i<=12288000000:=fun i hi=>by
   have h2:=Amh R.sym R.pos hi k hk
   have h3:=AVy hn R hk
   have h4:=AX3 hn R hi hi
   have h5:det k A * A i i<=det k A * 192000:=Int.mul_le_mul_of_nonneg_left h4.2 Zj
   omega
 have p:=fun i (hi:i < n)=>AW0 R.sym R.pos hk hi;have h2:=Int.mul_le_mul (b i hi) (b j hj) (p j hj) Zj;have:=Ad8 (x:=Mn k A i j) (y:=12288000000) Zj (Int.le_trans h1 h2);omega
theorem Aso {fuel n:Nat} {A:Z4} (Ag:1<=n) (hn:n<=8) (R:Aca n A) (hf:100 < fuel):AGa fuel (tab n n A)=some (det n A):=by
 apply ok_eq;unfold AGa;rw [AA9];refine ABs Zj ?_;rw [Int.toNat_natCast];refine Zu (ABd (fun i s=>s=(((i:Nat):Int),part n i A)/\i<=n) n (Q:=(· =tab n n A)) ⟨by rw [AMf n A];rfl,Nat.zero_le _⟩ Zj fun i s hi hI=>?_) fun e he=>?_
 ·obtain ⟨rfl,hin⟩:=hI;unfold AJq;dsimp only;rw [AA9];refine AAw (fun h=>AAv (ABl Zj) rfl (ABs Zj (AAv (AQl Zj) rfl ?_))) (fun h=>Zq ?_)
  ·have hi':i < n:=by omega
   rw [Int.toNat_natCast,AB4,AFu n (0:Int),AN5];refine AAv (AKg Zj hi') rfl (ABs (by rw [ABm,ABm];exact ⟨rfl,Ag⟩) (Zq ⟨hi',?_,Zj⟩));rw [wk Zj,AB4,AL0 Zj,AT4,ANr];refine congrArg (fun z=>(z,part n (i + 1) A)) ?_;omega
  ·obtain rfl:i=n:=by omega
   exact AMe _ _
 subst he;refine Zu (Q:=(· =1)) ⟨1,if_pos Zj,rfl⟩ fun one h1=>?_;subst h1;refine Zu (ABd (fun k s=> ∃ G,s=(false,((k:Int),tab n n G,det k A))/\k<=n/\ ∀ r c,k<=r->r < n->k<=c->c < n->G r c=Mn k A r c) n (Q:=fun ex=>match ex with | .inl e=>False | .inr (neg,last)=>neg=false/\last=det n A) ⟨A,rfl,Nat.zero_le _,fun r c _ _ _ _=>(AM1 A r c).symm⟩ Zj fun k s hk hI=>?_) fun ex hex=>?_
 ·obtain ⟨G,rfl,hkn,hG⟩:=hI;unfold AJp;dsimp only;rw [AA9];refine AAw (fun h=>?_) (fun h=>Zq ⟨rfl,?_⟩)
  ·have hk':k < n:=by omega
   have hGk:G k k=det (k + 1) A:=by rw [hG k k Zj hk' Zj hk',AI5]
   have hpos:0 < det (k + 1) A:=R.pos (k + 1) Zj;have hlast:=AVy hn R (k:=k) Zj;refine Zu (Q:=(· =(k:Int))) (Zu (ABd (fun _ s=>s=(k:Int)) 0 (Q:=(· =(k:Int))) rfl Zj fun i s hi hI=>?_) fun e he=>Zq he) fun e he=>?_
   ·subst hI;unfold AJm;rw [AA9];refine Zu (Q:=fun ex=>match ex with | .inl _=>False | .inr _=>True) (AAw (fun h2=>AAv (ABl hk') rfl (AAv (AA0 hk') rfl (Zu (ABh (a:=AE7 (G k k)) rfl) fun sg hsg=>AAw (fun h3=>?_) fun h3=>Zq trivial))) fun h2=>absurd h h2) fun ex hex=>?_
    ·exfalso;rw [hsg] at h3;have:=(AO0 _).1 h3;omega
    ·cases ex with
     | inl u=>exact hex.elim
     | inr u=>exact Zq rfl
   ·subst he;refine AAw (fun h2=>by omega) fun _=>Zu (Q:=(· =(false,tab n n G))) (AAw (fun h2=>absurd rfl h2) fun _=>Zq rfl) fun r hr=>?_;subst hr;dsimp only;refine AAv (ABl hk') rfl (AAv (AA0 hk') rfl ?_);rw [wk Zj]
    have hq:∀ r c,k < r->r < n->k < c->c < n->bQ k G (det k A) r c=Mn (k + 1) A r c:=fun r c h1 h2 h3 h4=>by
      unfold bQ
      rw [hGk,hG r c Zj h2 Zj h4,hG r k Zj h2 Zj hk',hG k c Zj hk' Zj h4,<- AI5 k A,AT6 Zj,Int.mul_ediv_cancel_left _ Zj]
    have habs:∀ r c,k<=r->r < n->k<=c->c < n->(G r c).natAbs<=12288000000:=fun r c h1 h2 h3 h4=>by rw [hG r c h1 h2 h3 h4];exact Ahv hn R Zj h2 h4
    refine Zu (ABd (fun i s=>s=(((k + 1 + i:Nat):Int),tab n n (bF k G (det k A) (k + 1 + i) (k + 1)))/\k + 1 + i<=n) (n - (k + 1)) (Q:=(· =tab n n (bF k G (det k A) n (k + 1)))) ⟨by rw [Nat.add_zero,Adw];simp,Zj⟩ Zj fun i s hi hI=>?_) fun a3 Ah=>?_
    ·obtain ⟨rfl,hin⟩:=hI;unfold AJo;dsimp only;rw [AA9];obtain ⟨q,hqe⟩:∃ q,k + 1 + i=q:=⟨_,rfl⟩;rw [hqe] at hin ⊢;refine AAw (fun h3=>?_) (fun h3=>Zq ?_)
     ·have hqn:q < n:=by omega
      rw [wk Zj];refine Zu (ABd (fun j s=>s=(((k + 1 + j:Nat):Int),tab n n (bF k G (det k A) q (k + 1 + j)))/\k + 1 + j<=n) (n - (k + 1)) (Q:=(· =tab n n (bF k G (det k A) q n))) ⟨AAx,Zj⟩ Zj fun j s hj hJ=>?_) fun a4 Ai=>Zq ?_
      ·obtain ⟨rfl,hjn⟩:=hJ;unfold AJn;dsimp only;rw [AA9];obtain ⟨c,hc⟩:∃ c,k + 1 + j=c:=⟨_,rfl⟩;rw [hc] at hjn ⊢;refine AAw (fun h4=>?_) (fun h4=>Zq ?_)
       ·have hcn:c < n:=by omega
        have a1:=habs k k Zj hk' Zj hk';have a2:=habs q c Zj hqn Zj hcn;have a3:=habs q k Zj hqn Zj hk';have a4:=habs k c Zj hk' Zj hcn;have m1:=Nat.mul_le_mul a1 a2;have m2:=Nat.mul_le_mul a3 a4;have hB:12288000000 * 12288000000 < ADz:=by decide
        refine AAv (ABl hqn) rfl (AAv (AA0 hcn) rfl ?_);rw [Aqh];refine Zu (ABh (a:=G k k * G q c) (if_pos Zj)) fun x1 Am=>AAv (AA0 hk') rfl (AAv (ABl hk') rfl (AAv (AA0 hcn) rfl ?_));subst Am;rw [Aqg,Ag4];refine Zu (ABh (a:=G q k * G k c) (if_pos Zj)) fun x2 Ao=>?_;subst Ao;refine Zu (ABh (a:=G k k * G q c - G q k * G k c) (if_pos ⟨by rw [Int.natAbs_mul];omega,by rw [Int.natAbs_mul];omega⟩)) fun x3 Ap=>?_;subst Ap
        have hnum:G k k * G q c - G q k * G k c=det k A * Mn (k + 1) A q c:=by
          rw [hGk,hG q c Zj hqn Zj hcn,hG q k Zj hqn Zj hk',hG k c Zj hk' Zj hcn,<- AI5 k A,AT6 Zj]
        have m3:(det k A * Mn (k + 1) A q c).natAbs<=64000 * 12288000000:=by
          rw [Int.natAbs_mul]
          exact Nat.mul_le_mul Zj (Ahv hn R Zj hqn hcn)
        refine Zu (Q:=fun x=>x.1=bQ k G (det k A) q c) ⟨_,if_pos ⟨by rw [hnum];omega,Zj,Zj⟩,rfl⟩ fun x4 Aq=>Zq ⟨Zj,?_,Zj⟩;rw [Aq,wk Zj,AY3,Al0 k G (det k A) Zj Zj];congr 1
        ·omega
        ·rw [<- Nat.add_assoc,hc]
       ·obtain rfl:c=n:=by omega
        rfl
      ·subst Ai;refine ⟨Zj,?_,Zj⟩;rw [wk Zj];congr 1
       ·omega
       ·refine AL8 fun r c hr hc=>?_;rw [Alz k n G (det k A) q hc,<- Nat.add_assoc,hqe]
     ·obtain rfl:q=n:=by omega
      rfl
    ·subst Ah;refine Zq ⟨hk',bF k G (det k A) n (k + 1),?_,Zj,fun r c h1 h2 h3 h4=>?_⟩
     ·rw [hGk];rfl
     ·have:bF k G (det k A) n (k + 1) r c=bQ k G (det k A) r c:=by unfold bF;rw [if_pos Zj]
      rw [this];exact hq r c Zj h2 Zj h4
  ·obtain rfl:k=n:=by omega
   rfl
 ·match ex,hex with
  | .inl e,hex=>exact hex.elim
  | .inr (neg,last),hex=>
    obtain ⟨rfl,rfl⟩:=hex
    dsimp only
    exact AAw (fun h=>nomatch h) fun _=>Zq rfl
theorem Aem {fuel n:Nat} {F:Z4} (hn:1<=n) (Ab:n<=16) (hf:100 < fuel):AF9 fuel (tab n n F)=some ((n:Int),(n:Int),true)/\AFg fuel (tab n n F)=some ((n:Int),(n:Int),true):=by
 constructor <;>
 ·apply ok_eq;first | unfold AF9 | unfold AFg
  rw [AA9];refine Zu (Q:=fun ex=>match ex with | .inl _=>False | .inr _=>True) (AAw (fun h=>by omega) fun h=>AAw (fun h2=>by omega) fun h2=>Zq trivial) fun ex hex=>?_
  cases ex with
  | inl e=>exact hex.elim
  | inr u=>
    dsimp only
    refine AAv (n:=0) (ABl Zj) rfl ?_
    rw [ABm]
    refine Zu (Q:=fun ex=>match ex with | .inl _=>False | .inr _=>True) (AAw (fun h=>by omega) fun h=>AAw (fun h2=>by omega) fun h2=>Zq trivial) fun ex hex=>?_
    cases ex with
    | inl e=>exact hex.elim
    | inr u=>
      dsimp only
      refine Zu (ABd (fun i (s:Int)=>s=i) n (Q:=fun ex=>match ex with | .inl _=>False | .inr _=>True) rfl Zj fun i s hi hI=>?_) fun ex hex=>?_
      · subst hI
        first | unfold AJl | unfold AIh
        rw [AA9]
        refine AAw (fun h=>AAv (ABl Zj) rfl ?_) fun h=>Zq trivial
        rw [ABm,ABm]
        exact AAw (fun h2=>absurd rfl h2) fun _=>Zq ⟨Zj,wk Zj⟩
      · cases ex with
        | inl e=>exact hex.elim
        | inr u=>exact Zq rfl
theorem Apt {fuel n:Nat} {F:Z4} (hn:1<=n) (Ac:n<=16) (hb:∀ i j,i < n->j < n->(F i j).natAbs<=9223372036854775807) (hf:100 < fuel):AIp fuel (tab n n F)=some (tab n n F,true):=by
 apply ok_eq;unfold AIp;refine Zu (ABh (Aem hn Ac hf).1) fun x hx=>?_;subst hx;dsimp only;refine AAw (fun h=>nomatch h) fun _=>Zu (Q:=(· =tab n n F)) (ABs Zj ?_) fun e he=>Zq (by rw [he]);rw [Int.toNat_natCast];refine Zu (ABd (fun i s=>s=(((i:Nat):Int),part n i F)/\i<=n) n (Q:=(· =tab n n F)) ⟨by rw [AMf n F];rfl,Nat.zero_le _⟩ Zj fun i s hi hI=>?_) fun e he=>Zq he;obtain ⟨rfl,hin⟩:=hI;unfold ALd;dsimp only;rw [List.length_replicate,Int.toNat_natCast];refine AAw (fun h=>ABs Zj (AAv (AQl Zj) rfl ?_)) (fun h=>Zq ?_)
 ·have hi':i < n:=by omega
  rw [AB4,AFu n (0:Int),AN5];refine AAv (AKg Zj hi') rfl ?_;rw [AB0];refine Zu (ABd (fun j s=>s=(((j:Nat):Int),part n (i + 1) (ABz F i fun c=>if c < j then F i c else 0))/\j<=n) n (Q:=(· =part n (i + 1) F)) ⟨?_,Nat.zero_le _⟩ Zj fun j s hj hJ=>?_) fun e he=>Zq ⟨hi',?_,Zj⟩
  ·refine congrArg (fun z=>((0:Int),z)) ?_;unfold part;refine ABi fun r hr=>?_;split
   ·exact ABi fun c hc=>by rw [AA4,AA4];split <;> simp
   ·rfl
  ·obtain ⟨rfl,hjn⟩:=hJ;unfold ALc;dsimp only;rw [ABm];refine AAw (fun h=>?_) (fun h=>Zq ?_)
   ·have hj':j < n:=by omega
    refine AAv (AKg Zj hi') rfl ?_;rw [AB0];have:=hb i j hi' hj';refine Zu (Q:=(· =F i j)) (AAv (ABl hi') rfl (AAv (AA0 hj') rfl (Zu (Q:=(· =F i j)) ⟨_,if_pos Zj,rfl⟩ fun x hx=>Zq hx))) fun x hx=>?_;subst hx;refine AAv (AA0 hj') rfl (Zq ⟨Zj,?_,Zj⟩);rw [wk Zj,AB4,AB4,AEm,AL0 Zj,AT4];refine congrArg (fun z=>(((j + 1:Nat):Int),z)) ?_;congr 1;unfold ABz;funext r;split
    ·funext c;by_cases h1:c=j
     ·subst h1;rw [if_pos rfl,if_pos Zj]
     ·rw [if_neg h1];by_cases h2:c < j
      ·rw [if_pos h2,if_pos Zj]
      ·rw [if_neg h2,if_neg Zj]
    ·rfl
   ·obtain rfl:j=n:=by omega
    unfold part;refine ABi fun r hr=>?_;split
    ·refine ABi fun c hc=>?_;rw [AA4];split
     ·next h=>subst h;first | rfl | rw [if_pos hc]
     ·rfl
    ·rfl
  ·rw [he,wk Zj];rfl
 ·obtain rfl:i=n:=by omega
  exact AMe _ _
def AZ0 (d p e:Int):Prop:= ∃ (k:Nat) (r:Int),e=k/\d=r * p ^ k/\¬ p ∣ r
theorem AX4 {d p a b:Int} (hp:2<=p) (ha:AZ0 d p a) (hb:AZ0 d p b):a=b:=by
 have key:∀ (k l:Nat) (r s:Int),k < l->r * p ^ k=s * p ^ l->p ∣ r:=fun k l r s hkl h=>by
   obtain ⟨m,rfl⟩:∃ m,l=k + 1 + m:=⟨l - k - 1,Zj⟩
   rw [Int.pow_add,Int.pow_add,Int.pow_one] at h
   have h1:p ^ k * r=p ^ k * (p * (s * p ^ m)):=by grind
   exact ⟨_,Int.eq_of_mul_eq_mul_left (Int.pow_ne_zero Zj) h1⟩
 obtain ⟨k,r,rfl,h1,h2⟩:=ha;obtain ⟨l,s,rfl,h3,h4⟩:=hb;rcases Nat.lt_trichotomy k l with h | h | h
 ·exact absurd (key k l r s h (by rw [<- h1,<- h3])) h2
 ·rw [h]
 ·exact absurd (key l k s r h (by rw [<- h1,<- h3])) h4
theorem AUb {p r d:Int} {k:Nat} (hp:2<=p) (hr:0 < r) (hd:d<=10000) (h:d=r * p ^ k):k<=13:=by
 rcases Nat.lt_or_ge 13 k with h1 | h1
 ·exfalso;have h2:(2:Int) ^ 14<=2 ^ k:=AVv h1;have h3:(2:Int) ^ k<=p ^ k:=AJ9 Zj hp k;have h4:1 * p ^ k<=r * p ^ k:=Int.mul_le_mul_of_nonneg_right Zj Zj;have h5:(2:Int) ^ 14=16384:=by decide
  omega
 ·exact h1
theorem Am0 {fuel:Nat} {d p:Int} (Ac:1<=d) (hd:d<=10000) (hp:2<=p) (Ad:p<=9973) (hf:100 < fuel):Ok (ADh fuel d p) (AZ0 d p):=by
 unfold ADh;refine Zu (ABd (fun i s=> ∃ r:Int,s=(r,(i:Int))/\0 < r/\d=r * p ^ i) 14 (Q:=AZ0 d p) ⟨d,rfl,Zj,AAx⟩ Zj fun i s hi hI=>?_) fun e he=>Zq he;obtain ⟨r,rfl,hr,hdr⟩:=hI;have Ae:=AUb hp hr hd hdr
 have hrd:r<=d:=by
   have h1:r * 1<=r * p ^ i:=Int.mul_le_mul_of_nonneg_left (Int.pow_pos Zj) Zj
   omega
 unfold AG6;dsimp only;refine Zu (Q:=fun ex=>match ex with | .inl _=>p ∣ r | .inr _=> ¬ p ∣ r) (AAw (fun h=>ABs Zj (AAw (fun h2=>Zq ?_) fun h2=>Zq ?_)) fun h=>by omega) fun ex hex=>?_
 ·exact Int.dvd_of_tmod_eq_zero h2
 ·exact fun h3=>h2 (Int.tmod_eq_zero_of_dvd h3)
 ·cases ex with
  | inl u=>
    obtain ⟨q,rfl⟩:p ∣ r:=hex
    have hq:0 < q:=Int.pos_of_mul_pos_right hr Zj
    have hqr:1 * q<=p * q:=Int.mul_le_mul_of_nonneg_right Zj Zj
    refine ABs Zj (Zq ⟨Zj,q,?_,hq,by rw [hdr,Int.pow_succ];grind⟩)
    rw [Int.mul_tdiv_cancel_left _ Zj,ACf (x:=q) Zj Zj,wk Zj]
    rfl
  | inr u=>exact Zq ⟨i,r,rfl,hdr,hex⟩
def pwL (p:Int) (m:Nat):List Int:=ACl m fun i=>p ^ (2 ^ i)
theorem Am1 {fuel:Nat} {a b:Int} (ha:a.natAbs < 18446744073709551616) (hb:b.natAbs < 18446744073709551616) (h0:b≠0):ATk fuel a b=some (a / b,a % b,true):=if_pos ⟨ha,hb,h0⟩
theorem Asp {fuel:Nat} {d p:Int} (Am:1<=d) (hd:d<=10000) (hp:Pr p) (Ag:p<=9973) (hf:100 < fuel):Ok (AIq fuel d p) fun r=>AZ0 d p r.1:=by
 have Ae:2<=p:=hp.1;have pw:∀ k:Nat,0 < p ^ k:=fun k=>Int.pow_pos Zj;unfold AIq;refine Zu (ABh (a:=AI9 p) rfl) fun b hb=>?_;rw [<- AVa Zj hp] at hb;subst hb;refine AAw (fun h=>nomatch h) fun _=>Zu (ABh (a:=AE7 d) rfl) fun s hs=>?_;subst hs;refine AAw (fun h=>absurd ((AO0 d).1 h) Zj) fun _=>Zu (ABh (a:=d) rfl) fun x hx=>Zu (Q:=(· =p)) ⟨p,if_pos Zj,rfl⟩ fun y hy=>?_;subst hx;subst hy;refine Zu (ABd (fun j s=> ∃ r:Int,s=(pwL y (j + 1),r,((2 ^ j - 1:Nat):Int))/\0 < r/\x=r * y ^ (2 ^ j - 1)) 5 (Q:=fun e=> ∃ (j:Nat) (r:Int),e=(pwL y (j + 1),r,((2 ^ j - 1:Nat):Int))/\0 < r/\x=r * y ^ (2 ^ j - 1)/\¬ y ^ (2 ^ j) ∣ r/\j<=4) ⟨x,?_,Zj,AAx⟩ Zj fun j s hj hI=>?_) fun e he=>?_
 ·refine congrArg (fun l=>(l,x,(0:Int))) ?_;show [y]=[y ^ 1];rw [Int.pow_one]
 ·obtain ⟨r,rfl,hr,hxr⟩:=hI;have Ao:=AUb Ae hr hd hxr
  have Af:j<=3:=by
    rcases Nat.lt_or_ge 3 j with h | h
    · exfalso
      have:=Nat.pow_le_pow_right (show 0 < 2 by omega) h
      omega
    · exact h
  have hrx:r<=x:=by
    have h1:r * 1<=r * y ^ (2 ^ j - 1):=Int.mul_le_mul_of_nonneg_left (pw _) Zj
    omega
  have hjp:1<=2 ^ j:=Nat.one_le_two_pow
  have Ap:2 ^ j<=8:=by
    have:=Nat.pow_le_pow_right (show 0 < 2 by omega) Af
    omega
  have hyb:y ^ (2 ^ j)<=10000 * 9973:=by
    have e1:y ^ (2 ^ j)=y ^ (2 ^ j - 1) * y:=by rw [<- Int.pow_succ];congr 1;omega
    have h2:1 * y ^ (2 ^ j - 1)<=r * y ^ (2 ^ j - 1):=Int.mul_le_mul_of_nonneg_right Zj (Int.le_of_lt (pw _))
    rw [e1]
    exact Int.mul_le_mul Zj Ag Zj Zj
  have Ad:=pw (2 ^ j);unfold ALg;dsimp only;have hl:(pwL y (j + 1)).length=j + 1:=ABm _ _;rw [hl,ACf (x:=((j + 1:Nat):Int) - 1) Zj Zj];refine AAv (n:=j) (AA0 Zj) Zj (ABs Zj ?_);rw [show (((j + 1:Nat):Int) - 1).toNat=j by omega,show (1:Int) * 2 ^ j=((2 ^ j:Nat):Int) by simp,ACf (x:=((2 ^ j:Nat):Int)) Zj Zj];refine Zu (Q:=fun e:Bool × Int × Int=>if y ^ (2 ^ j) ∣ r then e=(true,r / y ^ (2 ^ j),((2 ^ (j + 1) - 1:Nat):Int)) else e=(false,r,((2 ^ j - 1:Nat):Int))) (Zu (ABh (Am1 (fuel:=fuel) (a:=r) (b:=y ^ (2 ^ j)) Zj Zj Zj)) fun q hq=>Zu (ABh (a:=AE7 q.2.1) rfl) fun s hs=>?_) fun e he=>?_
  ·subst hq;subst hs;dsimp only;refine AAw (fun h=>Zq ?_) fun h=>Zq ?_
   ·have hnd: ¬ y ^ (2 ^ j) ∣ r:=fun h2=>h ((AO0 _).2 (Int.emod_eq_zero_of_dvd h2));rw [if_neg hnd]
   ·have hdv:y ^ (2 ^ j) ∣ r:=Int.dvd_of_emod_eq_zero ((AO0 _).1 (Classical.not_not.1 h));rw [if_pos hdv,wk Zj,Nat.pow_succ];refine congrArg (fun z=>(true,r / y ^ (2 ^ j),z)) ?_;omega
  ·by_cases hdv:y ^ (2 ^ j) ∣ r
   ·rw [if_pos hdv] at he;subst he;dsimp only;refine AAw (fun _=>?_) fun h=>absurd rfl h;obtain ⟨q,rfl⟩:=hdv;have Ah:0 < q:=Int.pos_of_mul_pos_right hr Ad;have hqm:y ^ (2 ^ j) * 1<=y ^ (2 ^ j) * q:=Int.mul_le_mul_of_nonneg_left Zj Zj;have hB:10000 * 10000 < ADz:=by decide
    have m1:(y ^ (2 ^ j)).natAbs * (y ^ (2 ^ j)).natAbs<=10000 * 10000:=Nat.mul_le_mul Zj Zj;refine Zu (ABh (a:=y ^ (2 ^ j) * y ^ (2 ^ j)) (if_pos Zj)) fun z hz=>ABs Zj (Zq ⟨Zj,q,?_,Ah,?_⟩)
    ·subst hz;rw [Int.mul_ediv_cancel_left _ Zj];refine congrArg (fun l=>(l,q,((2 ^ (j + 1) - 1:Nat):Int))) ?_;have e1:y ^ (2 ^ j) * y ^ (2 ^ j)=y ^ (2 ^ (j + 1)):=by rw [<- Int.pow_add,Nat.pow_succ];congr 1;omega
     rw [e1];exact ANq (j + 1) fun i=>y ^ (2 ^ i)
    ·rw [hxr];have e1:y ^ (2 ^ (j + 1) - 1)=y ^ (2 ^ j) * y ^ (2 ^ j - 1):=by rw [<- Int.pow_add,Nat.pow_succ];congr 1;omega
     rw [e1];grind
   ·rw [if_neg hdv] at he;subst he;exact AAw (fun h=>nomatch h) fun _=>Zq ⟨j,r,rfl,hr,hxr,hdv,Zj⟩
 ·obtain ⟨j,r,rfl,hr,hxr,hnd,Af⟩:=he;dsimp only
  have hY:∀ q,q < j->y ^ (2 ^ q)<=10000:=fun q hq=>by
    have h0:=Nat.pow_le_pow_right (show 0 < 2 by omega) (show q + 1<=j by omega)
    have h1:=Nat.one_le_two_pow (n:=q)
    rw [Nat.pow_succ] at h0
    have e1:y ^ (2 ^ j - 1)=y ^ (2 ^ q) * y ^ (2 ^ j - 1 - 2 ^ q):=by rw [<- Int.pow_add];congr 1;omega
    have h2:y ^ (2 ^ q) * 1<=y ^ (2 ^ q) * y ^ (2 ^ j - 1 - 2 ^ q):=Int.mul_le_mul_of_nonneg_left (pw _) (Int.le_of_lt (pw _))
    have h3:1 * y ^ (2 ^ j - 1)<=r * y ^ (2 ^ j - 1):=Int.mul_le_mul_of_nonneg_right Zj (Int.le_of_lt (pw _))
    omega
  have hl:(pwL y (j + 1)).length=j + 1:=ABm _ _;rw [hl,ACf (x:=((j + 1:Nat):Int) - 2) Zj Zj];refine Zu (ABd (fun i s=> ∃ (r:Int) (k:Nat),s=((j:Int) - 1 - i,r,(k:Int))/\i<=j/\0 < r/\x=r * y ^ k/\¬ y ^ (2 ^ (j - i)) ∣ r) j (Q:=fun e=> ∃ (r:Int) (k:Nat),e=(r,(k:Int))/\x=r * y ^ k/\¬ y ∣ r) ⟨r,2 ^ j - 1,by refine congrArg (fun z=>(z,r,((2 ^ j - 1:Nat):Int))) ?_;omega,Zj,hr,hxr,by rw [Nat.sub_zero];exact hnd⟩ Zj fun i s hi hI=>?_) fun e he=>?_
  ·obtain ⟨r,k,rfl,hij,hr,hxr,hnd⟩:=hI;have Au:=AUb Ae hr hd hxr
   have hrx:r<=x:=by
     have h1:r * 1<=r * y ^ k:=Int.mul_le_mul_of_nonneg_left (pw _) Zj
     omega
   unfold ALf;dsimp only;refine AAw (fun h=>?_) (fun h=>Zq ⟨r,k,rfl,hxr,?_⟩)
   ·obtain ⟨q,hq⟩:∃ q:Nat,(j:Int) - 1 - i=q:=⟨j - 1 - i,Zj⟩;rw [hq];have hqj:q < j + 1:=by omega
    have Aj:q<=3:=by omega
    have Av:1<=2 ^ q:=Nat.one_le_two_pow;have Aw:2 ^ q<=8:=by have:=Nat.pow_le_pow_right (show 0 < 2 by omega) Aj;omega
    have hyb:=hY q Zj;have Ad:=pw (2 ^ q);have hsmall:y ^ (2 ^ q) ∣ r->y ^ (2 ^ q)<=r:=fun h=>Int.le_of_dvd hr h;refine AAv (n:=q) (AA0 hqj) rfl (ABs Zj ?_);rw [Int.toNat_natCast,show (1:Int) * 2 ^ q=((2 ^ q:Nat):Int) by simp,ACf (x:=((2 ^ q:Nat):Int)) Zj Zj];refine Zu (Q:=fun e:Bool × Int × Int=>if y ^ (2 ^ q) ∣ r then e=(true,r / y ^ (2 ^ q),((k + 2 ^ q:Nat):Int)) else e=(false,r,(k:Int))) (Zu (ABh (Am1 (fuel:=fuel) (a:=r) (b:=y ^ (2 ^ q)) Zj Zj Zj)) fun t ht=>Zu (ABh (a:=AE7 t.2.1) rfl) fun s hs=>?_) fun e he=>?_
    ·subst ht;subst hs;dsimp only;refine AAw (fun h=>Zq ?_) fun h=>Zq ?_
     ·have hnd: ¬ y ^ (2 ^ q) ∣ r:=fun h2=>h ((AO0 _).2 (Int.emod_eq_zero_of_dvd h2));rw [if_neg hnd]
     ·have hdv:y ^ (2 ^ q) ∣ r:=Int.dvd_of_emod_eq_zero ((AO0 _).1 (Classical.not_not.1 h));rw [if_pos hdv,wk Zj];refine congrArg (fun z=>(true,r / y ^ (2 ^ q),z)) ?_;omega
    ·rw [ACf (x:=(q:Int) - 1) Zj Zj];by_cases hdv:y ^ (2 ^ q) ∣ r
     ·rw [if_pos hdv] at he;subst he;obtain ⟨w,rfl⟩:=hdv;have Ak:0 < w:=Int.pos_of_mul_pos_right hr Ad;refine Zq ⟨Zj,w,k + 2 ^ q,?_,Zj,Ak,?_,?_⟩
      ·rw [Int.mul_ediv_cancel_left _ Zj];refine congrArg (fun z=>(z,w,((k + 2 ^ q:Nat):Int))) ?_;omega
      ·rw [hxr,Int.pow_add];grind
      ·rw [show j - (i + 1)=q by omega];rintro ⟨u,rfl⟩;refine hnd ⟨u,?_⟩;rw [show j - i=q + 1 by omega,Nat.pow_succ,Nat.mul_two,Int.pow_add];grind
     ·rw [if_neg hdv] at he;subst he;refine Zq ⟨Zj,r,k,?_,Zj,hr,hxr,by rw [show j - (i + 1)=q by omega];exact hdv⟩;refine congrArg (fun z=>(z,r,(k:Int))) ?_;omega
   ·have:j - i=0:=by omega
    rw [this,Nat.pow_zero,Int.pow_one] at hnd;exact hnd
  ·obtain ⟨r,k,rfl,h1,h2⟩:=he;exact Zq ⟨k,r,rfl,h1,h2⟩
theorem AZk {M:List (List Int)} (R:AZz M):M=tab M.length M.length (ent M):=Ae3 R.2.1
theorem Apu {n:Nat} {A:Z4} (Ab:1<=n) (hn:n<=8) (R:Aca n A):AZz (tab n n A):=by
 refine ⟨by rw [AA9];exact ⟨Ab,hn⟩,fun z hz=>by rw [AA9];exact AVb z hz,?_⟩;rw [AA9];have e:∀ i j,i < n->j < n->ent (tab n n A) i j=A i j:=fun i j hi hj=>Anq hi hj;have hd:∀ k,k<=n->det k (ent (tab n n A))=det k A:=fun k hk=>ABx fun i j hi hj=>e i j Zj Zj
 have hm:∀ k i j,k<=n->i < n->j < n->Mn k (ent (tab n n A)) i j=Mn k A i j:=fun k i j hk hi hj=>by
   unfold Mn
   exact ABx fun a b ha hb=>e _ _ (AM5 hk hi) (AM5 hk hj)
 refine ⟨fun i j hi hj=>by rw [e i j hi hj,e j i hj hi];exact R.sym i j hi hj,fun k hk=>by rw [hd k hk];exact R.pos k hk,fun r l h1 h2=>?_,fun r hr=>?_,by rw [hd n (Nat.le_refl n)];exact R.dt⟩
 ·have:=R.sz r l h1 h2;unfold SzF at this ⊢;rw [hd _ Zj,hm _ _ _ Zj h2 Zj];exact this
 ·have:=R.lv r hr;unfold LvF at this ⊢;rw [hd _ Zj,hd _ Zj,hd _ Zj,hm _ _ _ Zj hr Zj];exact this
theorem AVz {M:List (List Int)} (R:AZz M):1<=det M.length (ent M)/\det M.length (ent M)<=10000:=⟨by have:=R.2.2.pos _ (Nat.le_refl _);omega,R.2.2.dt⟩
theorem Ahw {M:List (List Int)} (R:AZz M) {i j:Nat} (hi:i < M.length) (hj:j < M.length):(ent M i j).natAbs<=192000:=by have:=AX3 R.1.2 R.2.2 hi hj;omega
theorem Aay {fuel:Nat} {M:List (List Int)} (R:AZz M) (hf:100 < fuel):AFm fuel M=some (det M.length (ent M)):=by
 apply ok_eq;obtain ⟨v1,v2⟩:=AVz R;have hT:=AZk R;have h1:=R.1;unfold AFm;generalize hF:ent M=F at *;generalize hL:M.length=n at *;have hb:∀ i j,i < n->j < n->(F i j).natAbs<=192000:=fun i j hi hj=>by subst hF;subst hL;exact Ahw R hi hj
 rw [hT];refine Zu (ABh (Af2 h1.1 Zj (fun i j hi hj=>Nat.le_trans (hb i j hi hj) Zl) Zj)) fun x hx=>?_;subst hx;refine Zu (ABh (AVn h1.2 (fun i j hi hj=>Nat.le_trans (hb i j hi hj) Zl) Zj)) fun y hy=>?_;subst hy;refine Zu (ABh (a:=(det n F,true)) (if_pos Zj)) fun z hz=>Zq ?_;rw [hz]
theorem Asq {d p v:Int} (Ab:1<=d) (hd:d<=10000) (hp:2<=p) (h:AZ0 d p v):0<=v/\v<=13:=by
 obtain ⟨k,r,rfl,h1,h2⟩:=h
 have hr:0 < r:=by
   have hpk:0 < p ^ k:=Int.pow_pos Zj
   rcases Int.lt_or_le 0 r with h | h
   · exact h
   · have:=Int.mul_nonpos_of_nonpos_of_nonneg h (Int.le_of_lt hpk);omega
 have:=AUb hp hr hd h1;omega
theorem Aaz {fuel:Nat} {M:List (List Int)} {p:Int} (R:AZz M) (hp:Pr p) (hp2:p<=9973) (hf:100 < fuel):∃ v,AZ0 (det M.length (ent M)) p v/\(0<=v/\v<=13)/\AC7 fuel M p=some (if p=2 then v + 3 else v + 1)/\AM4 fuel M p=some (if p=2 then v + 3 else v + 1):=by
  obtain ⟨v1,v2⟩:=AVz R;obtain ⟨⟨v,r0,e0⟩,hv1,hv⟩:=Asp v1 v2 hp hp2 hf;dsimp only at hv;have hvb:=Asq v1 v2 hp.1 hv
  refine ⟨v,hv,hvb,?_,?_⟩
  · apply ok_eq;have hT:=AZk R;have h1:=R.1;have RF:=R.2.2;unfold AC7;generalize hF:ent M=F at *
    generalize hL:M.length=n at *
    have hb:∀ i j,i < n->j < n->(F i j).natAbs<=192000:=fun i j hi hj=>by subst hF;subst hL;exact Ahw R hi hj
    rw [hT];refine Zu (ABh (Apt h1.1 Zj (fun i j hi hj=>Nat.le_trans (hb i j hi hj) Zl) hf)) fun x hx=>?_;subst hx;dsimp only
    refine Zu (Q:=(· =(det n F,true))) ?_ fun y hy=>?_
    · unfold AOw;refine Zu (ABh (Aem h1.1 Zj hf).2) fun x hx=>?_;subst hx;dsimp only;exact AAw (fun h=>nomatch h) fun _=>AAw (fun h=>absurd rfl h) fun _=>Zu (ABh (Aso h1.1 h1.2 RF hf)) fun z hz=>Zq (by rw [hz])
    · subst hy;dsimp only;refine Zu (ABh hv1) fun z hz=>?_;subst hz;dsimp only
      refine AAw (fun h=>Zq ?_) fun h=>Zq ?_
      · rw [if_pos h,wk Zj]
      · rw [if_neg h,wk Zj]
  · apply ok_eq;unfold AM4;refine Zu (ABh (Aay R hf)) fun d hd=>?_;subst hd;refine Zu (Am0 v1 v2 hp.1 hp2 hf) fun w hw=>?_;obtain rfl:=AX4 hp.1 hv hw
    refine AAw (fun h=>Zq ?_) fun h=>Zq ?_
    · rw [if_pos h,wk Zj]
    · rw [if_neg h,wk Zj]
theorem Agg (a:Int) (m:Nat) (ha:0<=a) (hm:0 < m):∃ q:Nat,Int.tmod a (m:Int)=q/\q < m:=by
 rw [Int.tmod_eq_emod_of_nonneg ha];have h1:=Int.emod_nonneg a (show (m:Int)≠0 by omega);have h2:=Int.emod_lt_of_pos a (show (0:Int) < m by omega);exact ⟨(a % m).toNat,Zj,Zj⟩
end Go.Proofs.YtdkldlbgcfpglaaGreatDoor
namespace Go.Proofs.YtdkldlbgcfpglaaGreatDoor
open Go Go.QF
set_option maxRecDepth 100000
set_option maxHeartbeats 4000000
def AKa (fuel:Nat) (a3:LiI) (Ab:Int):Option ((Int) ⊕ ((Bool) ⊕ (Unit))):=
  (if Ab < (a3.length:Int) then ((gI a3 Ab).bind fun Ac=>((gI a3 0).bind fun Ad=>(if ¬ (Ac.length:Int)=(Ad.length:Int) then (some (Sum.inr<| Sum.inl <| false)) else (some (Sum.inl (w64 (Ab + 1))))))) else (some (Sum.inr<| Sum.inr <| ())))
def AEs (fuel:Nat) (a3:LiI):Option Bool:=
  (((if (a3.length:Int) < 1 then (some (Sum.inl <| false)) else (if 16 < (a3.length:Int) then (some (Sum.inl <| false)) else ((gI a3 0).bind fun Ab=>(if (Ab.length:Int) < 1 then (some (Sum.inl <| false)) else (if 16 < (Ab.length:Int) then (some (Sum.inl <| false)) else (some (Sum.inr <| ()))))))):Option ((Bool) ⊕ (Unit))).bind (fun ex=>match ex with | Sum.inl Ac=>(some Ac) | Sum.inr (_)=>((iter (fun s=>AKa fuel a3 s) fuel 0).bind (fun ex=>match ex with | Sum.inl Ad=>(some Ad) | Sum.inr (_)=>(some true)))))
theorem AKb {fuel:Nat} {h:Zs} {Ao:Value} {a3:LiI} {r:Bool} (H2:AEq (cI .i64) h Ao a3) (hp:AEs fuel a3=some r):AAs Tryz.prog 85 #[Ao] h (fun x h'=>Ext h h'/\x= .bool r):=by
 unfold AEs at hp;refine cwf (l:=[_]) Tryz.func85 rfl rfl (Zn (Zv ?_));have K0:=Kst.k0 h;obtain ⟨Az,Ap,Ac⟩:=Zp hp;refine AI8 134217700 (fun x:Unit=>[]) (fun x h'=>(Sum.inr <| ())=Az/\Kst h h' (K0.L)) ?_ ?_
 ·refine Zn (Zk (ABe AAn rfl H2 (AAy rfl rfl (Zk ?_))));by_cases Af:(a3.length:Int) < 1
  ·rw [decide_eq_true Af];refine AH3 8 true (AAd rfl (Zk (AE5 13 true (AAd rfl (Zk (AE5 20 true (AAd rfl (Zr (AAl rfl (Zn (Zv ?_)))))))))));obtain rfl:=Zm (ifT Ap Af);refine Zy (AAc ?_);obtain rfl:=Zm Ac;exact ⟨_,Zz,K0.x,rfl⟩
  ·have Aq:=ifF Ap Af;rw [decide_eq_false Af];refine AAk 8 false (Zk (AAk 8 false (ABe AAn rfl H2 (AAk 8 false (AGz rfl rfl (AAo rfl (Zk ?_)))))));by_cases Ag:16 < (a3.length:Int)
   ·rw [decide_eq_true Ag];refine AE5 13 true (AAd rfl (Zk (AE5 20 true (AAd rfl (Zr (AAl rfl (Zn (Zv ?_))))))));obtain rfl:=Zm (ifT Aq Ag);refine Zy (AAc ?_);obtain rfl:=Zm Ac;exact ⟨_,Zz,K0.x,rfl⟩
   ·rw [decide_eq_false Ag];refine AAk 13 false (Zk (AAk 13 false ?_));obtain ⟨A3,Ar,Au⟩:=Zp (ifF Aq Ag);refine ATd AAn rfl H2 rfl Ar fun Bf Bg Bh A4 A5=>AAk 13 false (AA6 AA1 rfl (AAu A4 K0.x) (AAk 13 false (ABr AAj rfl A5 (AAk 13 false (AAy rfl rfl (AAo rfl (Zk ?_)))))));by_cases Ah:(A3.length:Int) < 1
    ·rw [decide_eq_true Ah];refine AE5 20 true (AAd rfl (Zr (AAl rfl (Zn (Zv ?_)))));obtain rfl:=Zm (ifT Au Ah);refine Zy (AAc ?_);obtain rfl:=Zm Ac;exact ⟨_,Zz,K0.x,rfl⟩
    ·have Av:=ifF Au Ah;rw [decide_eq_false Ah];refine AAk 20 false (Zk (AAk 20 false (ATd AAn rfl H2 rfl Ar fun Bi Bj Bl A6 A7=>AAk 20 false (AA6 AA1 rfl (AAu A6 K0.x) (AAk 20 false (ABr AAj rfl A7 (AAk 20 false (AGz rfl rfl (AAo rfl (Zr (⟨_,rfl,fun Ai=>?_,fun Ai=>?_⟩)))))))))))
     ·refine Zn (Zv ?_);obtain rfl:=Zm (AA7 Av Ai);refine Zy (AAc ?_);obtain rfl:=Zm Ac;exact ⟨_,Zz,K0.x,rfl⟩
     ·refine Zx (q_t ?_);exact ⟨(():Unit),⟨Zm (AA8 Av Ai),K0⟩,trivial⟩
 rintro ⟨⟩ Bm Bn ⟨A8,Aw⟩;subst A8;refine Zo (Zn (Zk (ABe AAn rfl H2 (Zk (Zr (Zt (AHm 2198486384660 Ac (fun x=>[(29,(.int .i64 x))]) (fun x=>Aw.L) Aw ⟨rfl,trivial⟩ ?_)))))));rintro Bo Bp Bq Br Ad Aj Ax;unfold AKa at Aj;refine Zn (AAy rfl rfl (Zr (Zo (⟨_,rfl,fun Ak=>?_,fun Ak=>?_⟩))))
 ·refine Zx (q_t (Zo (Zt (Zn ?_))));obtain ⟨Bt,A9,Ba⟩:=Zp (AA7 Aj Ak);refine AJw AAn AA1 H2 Ad.x A9 fun _ Bu Bb=>AA3 (Zk (ABr AAj rfl Bb (Zk ?_)));obtain ⟨Bv,Bc,Ay⟩:=Zp Ba;refine AJw AAn AA1 H2 Ad.x Bc fun _ Bw Be=>ABr AAj rfl Be (ADc rfl rfl (Zr (⟨_,rfl,fun Am=>?_,fun Am=>?_⟩)))
  ·refine Zn (Zv (Zy (ABp (AAc (AAc (ABp (AAc ?_)))))));obtain rfl:=Zm (Ax _ (Zm (AA7 Ay Am)).symm);exact ⟨_,Zz,Ad.x,rfl⟩
  ·refine Zx (q_b (q_t (Z1 (AAz rfl rfl (Zk (Zr ?_))))));exact ⟨_,(Zm (AA8 Ay Am)).symm,Ad,rfl,trivial⟩
 ·refine AAe (AAf (AAf (ABk (q_t (Zn (Zv (Zy ?_)))))));obtain rfl:=Zm (Ax _ (Zm (AA8 Aj Ak)).symm);exact ⟨_,Zz,Ad.x,rfl⟩
def AGn (fuel:Nat) (a3:LiI):Option Bool:=
  ((AEs fuel a3).bind fun x5=>(if x5=true then ((gI a3 0).bind fun Ac=>(if (a3.length:Int)=(Ac.length:Int) then (some (decide ((a3.length:Int)<=8))) else (some false))) else (some false)))
theorem APw {fuel:Nat} {h:Zs} {Ae:Value} {a3:LiI} {r:Bool} (H2:AEq (cI .i64) h Ae a3) (hp:AGn fuel a3=some r):AAs Tryz.prog 122 #[Ae] h (fun x h'=>Ext h h'/\x= .bool r):=by
 unfold AGn at hp;refine cwf (l:=[_]) Tryz.func122 rfl rfl (Zn (AA3 (Zk ?_)));have K0:=Kst.k0 h;obtain ⟨x5,Ak,Ag⟩:=Zp hp;refine ADk K0 (AKb (H2.ext K0.x) Ak) fun h9 E8 Ab=>Zk ?_;cases Ah:x5
 ·refine AE5 5 false (AHi 5 false (AAo rfl (Zk (AH3 14 false (AAo rfl (Zv (Zy ?_)))))));obtain rfl:=Zm (AH9 Ag Ah);exact ⟨_,Zz,Ab.x,rfl⟩
 ·refine AAk 5 true (Zk (AAk 5 true (ABe AAn rfl H2 (AAk 5 true (Zk (AAk 5 true ?_))))));obtain ⟨Am,Ao,Ai⟩:=Zp (ifT Ag Ah);refine ATd AAn rfl H2 rfl Ao fun Av Aw Ax Ap Aq=>AAk 5 true (AA6 AA1 rfl (AAu Ap Ab.x) (AAk 5 true (ABr AAj rfl Aq (AAk 5 true (ACc rfl rfl (AAd rfl (Zk ?_)))))));by_cases Ac:(a3.length:Int)=(Am.length:Int)
  ·rw [decide_eq_true Ac];refine AAk 14 true (Zk (AAk 14 true (ABe AAn rfl H2 (AAk 14 true (AYv rfl rfl (AAd rfl (Zv (Zy ?_))))))));obtain rfl:=Zm (ifT Ai Ac);exact ⟨_,Zz,Ab.x,rfl⟩
  ·rw [decide_eq_false Ac];refine AH3 14 false (AAo rfl (Zv (Zy ?_)));obtain rfl:=Zm (ifF Ai Ac);exact ⟨_,Zz,Ab.x,rfl⟩
def ACd (fuel:Nat) (a1:Int):Option Int:=
  (if a1 < 2 then (some 1) else (if 2147483647 < a1 then (some 1) else (some 0)))
theorem AFp {fuel:Nat} {h:Zs} {a1 r:Int} (hp:ACd fuel a1=some r):AAs Tryz.prog 86 #[(.int .i64 a1)] h (fun x h'=>Ext h h'/\x= .int .i64 r):=by
 unfold ACd at hp;refine cwf (l:=[_]) Tryz.func86 rfl rfl (Zn (Zv (Zo (Zn (Zk (AAy rfl rfl (Zk ?_)))))));have K0:=Kst.k0 h;by_cases Aa:a1 < 2
 ·rw [decide_eq_true Aa];refine AHi 5 true (AAd rfl (Zr (AAl rfl (Zn (Zv (Zy (AAc ?_)))))));obtain rfl:=Zm (ifT hp Aa);exact ⟨_,Zz,K0.x,rfl⟩
 ·have Ae:=ifF hp Aa;rw [decide_eq_false Aa];refine AAk 5 false (Zk (AAk 5 false (AGz rfl rfl (AAo rfl (Zr (⟨_,rfl,fun Ad=>?_,fun Ad=>?_⟩))))))
  ·refine Zn (Zv (Zy (AAc ?_)));obtain rfl:=Zm (AA7 Ae Ad);exact ⟨_,Zz,K0.x,rfl⟩
  ·refine Zx (q_t (Zn (Zv (Zy ?_))));obtain rfl:=Zm (AA8 Ae Ad);exact ⟨_,Zz,K0.x,rfl⟩
def AHx (fuel:Nat) (a5 Ad:Int) (Ae:LiA) (Ab:Int) (Ac:LiI):Option ((Int × LiI) ⊕ ((LiI))):=
  (if Ab < (Ae.length:Int) then ((gI Ae Ab).bind fun Ag=>((gI Ac Ad).bind fun Af=>(if a5≠0 then (if a5≠0 then ((gI Af Ab).bind fun Ah=>(some (Sum.inl ((w64 (Ab + 1)),(sI Ac Ad (sI Af Ab (Int.tmod (w64 ((Int.tmod Ag a5) + a5)) a5))))))) else none) else none))) else (some (Sum.inr<| Ac)))
def AHy (fuel:Nat) (a3:LiI) (a5 Aa:Int) (Ac:LiI):Option ((Int × LiI) ⊕ ((LiI))):=
  (if Aa < (a3.length:Int) then ((gI a3 Aa).bind fun Ab=>(if 0<=(Ab.length:Int)/\(Ab.length:Int)<=100000000 then ((gI Ac Aa).bind fun Ag=>((iter (fun s=>AHx fuel a5 Aa Ab s.1 s.2) fuel (0,(sI Ac Aa (List.replicate (Int.toNat (Ab.length:Int)) (0:Int))))).bind (fun (Af:LiI)=>(some (Sum.inl ((w64 (Aa + 1)),Af)))))) else none)) else (some (Sum.inr<| Ac)))
def ACh (fuel:Nat) (a3:LiI) (a5:Int):Option LiI:=
  (if 0<=(a3.length:Int)/\(a3.length:Int)<=100000000 then ((iter (fun s=>AHy fuel a3 a5 s.1 s.2) fuel (0,(List.replicate (Int.toNat (a3.length:Int)) ([]:List Int)))).bind (fun (Ac:LiI)=>(some Ac))) else none)
theorem AFv {fuel:Nat} {h:Zs} {Ao:Value} {a3:LiI} {a5:Int} {r:LiI} (H2:AEq (cI .i64) h Ao a3) (hp:ACh fuel a3 a5=some r):AAs Tryz.prog 87 #[Ao,(.int .i64 a5)] h (fun x h'=>Ext h h'/\ ∃ (x0:Value) (F0:List Nat) (A3:List LnA) (A4:List Value),x=x0/\ACp (cI .i64) 60 2 h' F0 A3 A4 x0 r/\Sp h' h.size [F0]):=by
 unfold ACh at hp;refine cwf (l:=[_,_]) Tryz.func87 rfl rfl (Zn (AA3 (Zk (ABe AAn rfl H2 ?_))));obtain ⟨A5,A6⟩:=ifN hp;refine ARc (cI .i64) 2 AAn AMp rfl trivial tt2 rfl rfl Zl A5 fun A7 A8 A9 Au Ce Ba E8 S9=>Zv (Zo (Zn (Zk (ABe AAn rfl H2 (Zk (Zr (Zt ?_)))))));have Av:=(Kst.k0 h).no2 E8 S9 Ba;refine AFr 281474976678848 (fun x:(Int) × (LiI) × LnA × LnN × LvA=>(x.1,x.2.1)) ((0,(List.replicate (Int.toNat (a3.length:Int)) ([]:List Int)),A7,A8,A9):(Int) × (LiI) × LnA × LnN × LvA) A6 (fun x=>[(15,(.int .i64 x.1))]) (fun x=>Av.L.set 0 (aO2 (cI .i64) 60 2 x.2.2.1 x.2.2.2.1 x.2.2.2.2 Au x.2.1)) Av ⟨rfl,trivial⟩ ?_;rintro ⟨Aa,Be,Cf,Aw,Bf⟩ Cg Ch Ci Ab Ag Bg;unfold AHy at Ag;refine Zn (AAy rfl rfl (Zr (Zo (⟨_,rfl,fun Ah=>?_,fun Ah=>?_⟩))))
 ·refine Zx (q_t (Zo (Zt (Zn (Zk ?_)))));obtain ⟨Bh,Bi,Bj⟩:=Zp (AA7 Ag Ah);refine AJw AAn AA1 H2 Ab.x Bi fun _ Cj Ai=>AAi (AA3 (Zk (Zk (Zk (ABr AAj rfl Ai ?_)))));obtain ⟨Bl,Bm⟩:=ifN Bj;refine AQt (c:=(cI .i64)) (a:=0) AAj AJx rfl rfl (fun _=>rfl) rfl trivial tt2 rfl rfl Zl Bl fun Ax Bn Ck Bo Bp Bq Br=>?_;have Ac:=Ab.no Bp (AEv Bq Br) Bo;obtain ⟨Cm,Ay,Bt⟩:=Zp Bm;refine ACt AAn rfl (Ac.o2 p1) rfl Ay fun Bu Cn Bv Co Cp=>ARb AA1 (Ac.o2 p1) Ay Bv rfl rfl (Ac.o p0) (Ac.dj p0 p1 Zl) fun Cq Bw Bx By=>AHj (Zk (ABr AAj rfl Ai (Zk (Zr (Zt ?_)))));have Aj:=(Ac.m2 p0 p1 Zl Bx Bw (fun z hz=> .inl (By z hz))).sel [1] Zl;dsimp only [AFy,AI2] at Aj;refine AFr 140737219920640 (fun x:(Int) × (LiI) × LnA × LnN × LvA=>(x.1,x.2.1)) ((0,(sI Be Aa (List.replicate (Int.toNat (Bh.length:Int)) (0:Int))),(Bu :: (Aw.set (Int.toNat Aa) [Ax]).flatten),(Aw.set (Int.toNat Aa) [Ax]),(Bf.set (Int.toNat Aa) Bn)):(Int) × (LiI) × LnA × LnN × LvA) Bt (fun x=>[(28,(.int .i64 x.1))]) (fun x=>Aj.L.set 0 (aO2 (cI .i64) 60 2 x.2.2.1 x.2.2.2.1 x.2.2.2.2 Au x.2.1)) Aj ⟨rfl,trivial⟩ ?_;rintro ⟨Cr,Ct,Cu,Cv,Cw⟩ Cx Cy Cz Ad Ak Bz;unfold AHx at Ak;refine Zn (AAy rfl rfl (Zr (Zo (⟨_,rfl,fun Am=>?_,fun Am=>?_⟩))))
  ·refine Zx (q_t (Zo (Zt (Zn (Zk ?_)))));obtain ⟨C0,B1,B3⟩:=Zp (AA7 Ak Am);refine AY0 AAj AAt Ai Ad.x B1 fun _=>(AAi (Zv (AGh (Zk (Zk ?_)))));obtain ⟨C1,Az,B4⟩:=Zp B3;refine AB2 AAn AA1 (Ad.o2 p0) Az fun _ C2 B5=>Zk (Zk (Zk ?_));obtain ⟨B6,B7⟩:=ifN B4;refine ADo rfl rfl B6 (Zk (AAz rfl rfl (Zk ?_)));obtain ⟨B8,B9⟩:=ifN B7;refine ADo rfl rfl B8 ?_;obtain ⟨C3,Ca,Cb⟩:=Zp B9;refine ALq (m:=Aa) Ad p0 AAj AAt B5 Az Ca (fun _=>rfl) fun _ C4 Cd=>AAh (q_b (q_t (Z1 (AAz rfl rfl (Zk (Zr ?_))))));exact ⟨(_,_,_,_,_),(Zm Cb).symm,Cd,rfl,trivial⟩
  ·refine AAe (AAf (AAf (ABk (q_b (q_t (Z1 (AAz rfl rfl (Zk (Zr ?_)))))))));exact ⟨(_,_,_,_,_),(Zm (Bz _ (Zm (AA8 Ak Am)).symm)).symm,Ad,rfl,trivial⟩
 ·refine AAe (AAf (AAf (ABk (q_t (Zn (Zk (Zv (Zy ?_))))))));obtain rfl:=Zm (Bg _ (Zm (AA8 Ag Ah)).symm);exact ⟨_,Zz,Ab.x,_,_,_,_,rfl,(Ab.o2 p0),Ab.s.sel [0] Zl⟩
def AM7 (fuel:Nat) (a3:LiI) (Ab Aa:Int) (Ac:LiI):Option ((Int × LiI) ⊕ ((LiI))):=
  (if Aa < (a3.length:Int) then ((gI a3 Aa).bind fun Af=>((gI Ac Ab).bind fun Ae=>((gI Af Ab).bind fun Ag=>((gI Ae Aa).bind fun Ah=>(some (Sum.inl ((w64 (Aa + 1)),(sI Ac Ab (sI Ae Aa Ag))))))))) else (some (Sum.inr<| Ac)))
def AM8 (fuel:Nat) (a3:LiI) (x5:LiA) (Aa:Int) (Ac:LiI):Option ((Int × LiI) ⊕ ((LiI))):=
  (if Aa < ((List.replicate (Int.toNat (x5.length:Int)) ([]:List Int)).length:Int) then (if 0<=(a3.length:Int)/\(a3.length:Int)<=100000000 then ((gI Ac Aa).bind fun Af=>((iter (fun s=>AM7 fuel a3 Aa s.1 s.2) fuel (0,(sI Ac Aa (List.replicate (Int.toNat (a3.length:Int)) (0:Int))))).bind (fun (Ae:LiI)=>(some (Sum.inl ((w64 (Aa + 1)),Ae)))))) else none) else (some (Sum.inr<| Ac)))
def ALw (fuel:Nat) (a3:LiI):Option LiI:=
  ((gI a3 0).bind fun x5=>(if 0<=(x5.length:Int)/\(x5.length:Int)<=100000000 then ((iter (fun s=>AM8 fuel a3 x5 s.1 s.2) fuel (0,(List.replicate (Int.toNat (x5.length:Int)) ([]:List Int)))).bind (fun (Ac:LiI)=>(some Ac))) else none))
theorem ASl {fuel:Nat} {h:Zs} {Ao:Value} {a3 r:LiI} (H2:AEq (cI .i64) h Ao a3) (hp:ALw fuel a3=some r):AAs Tryz.prog 125 #[Ao] h (fun x h'=>Ext h h'/\ ∃ (x0:Value) (F0:List Nat) (Az:List LnA) (A3:List Value),x=x0/\ACp (cI .i64) 60 2 h' F0 Az A3 x0 r/\Sp h' h.size [F0]):=by
 unfold ALw at hp;refine cwf (l:=[_]) Tryz.func125 rfl rfl (Zn (AA3 (Zk ?_)));have K0:=Kst.k0 h;obtain ⟨x5,A5,A6⟩:=Zp hp;refine AJw AAn AA1 H2 K0.x A5 fun _ r8 H9=>ABr AAj rfl H9 ?_;obtain ⟨A8,A9⟩:=ifN A6;refine ARc (cI .i64) 2 AAn AMp rfl trivial tt2 rfl rfl Zl A8 fun Ba Bb Bc Au Ce Be Bf Bg=>Zv (Zo (Zn (Zk ?_)));have Ag:=K0.no2 Bf Bg Be;refine ABe AAn rfl (Ag.o2 p0).rd (Zk (Zr (Zt (AFr 4398046494832 (fun x:(Int) × (LiI) × LnA × LnN × LvA=>(x.1,x.2.1)) ((0,(List.replicate (Int.toNat (x5.length:Int)) ([]:List Int)),Ba,Bb,Bc):(Int) × (LiI) × LnA × LnN × LvA) A9 (fun x=>[(14,(.int .i64 x.1))]) (fun x=>Ag.L.set 0 (aO2 (cI .i64) 60 2 x.2.2.1 x.2.2.2.1 x.2.2.2.2 Au x.2.1)) Ag ⟨rfl,trivial⟩ ?_))));rintro ⟨Aa,Bh,Cf,Av,Bi⟩ Cg Ch Ci Ae Ah Bj;unfold AM8 at Ah;refine Zn (AAy rfl rfl (Zr (Zo (⟨_,rfl,fun Ai=>?_,fun Ai=>?_⟩))))
 ·refine Zx (q_t (Zo (Zt (Zn (Zk (AA3 (Zk (Zk (Zk (ABe AAn rfl H2 ?_))))))))));obtain ⟨Bl,Bm⟩:=ifN (AA7 Ah Ai);refine AQt (c:=(cI .i64)) (a:=0) AAj AJx rfl rfl (fun _=>rfl) rfl trivial tt2 rfl rfl Zl Bl fun Aw Bn Cj Bo Bp Bq Br=>?_;have Ab:=Ae.no Bp (AEv Bq Br) Bo;obtain ⟨Ck,Ax,Bt⟩:=Zp Bm;refine ACt AAn rfl (Ab.o2 p1) rfl Ax fun Bu Cm Bv Cn Co=>ARb AA1 (Ab.o2 p1) Ax Bv rfl rfl (Ab.o p0) (Ab.dj p0 p1 Zl) fun Cp Bw Bx By=>AHj (Zk (ABe AAn rfl H2 (Zk (Zr (Zt ?_)))));have Aj:=(Ab.m2 p0 p1 Zl Bx Bw (fun z hz=> .inl (By z hz))).sel [1] Zl;dsimp only [AFy,AI2] at Aj;refine AFr 2198989701216 (fun x:(Int) × (LiI) × LnA × LnN × LvA=>(x.1,x.2.1)) ((0,(sI Bh Aa (List.replicate (Int.toNat (a3.length:Int)) (0:Int))),(Bu :: (Av.set (Int.toNat Aa) [Aw]).flatten),(Av.set (Int.toNat Aa) [Aw]),(Bi.set (Int.toNat Aa) Bn)):(Int) × (LiI) × LnA × LnN × LvA) Bt (fun x=>[(25,(.int .i64 x.1))]) (fun x=>Aj.L.set 0 (aO2 (cI .i64) 60 2 x.2.2.1 x.2.2.2.1 x.2.2.2.2 Au x.2.1)) Aj ⟨rfl,trivial⟩ ?_;rintro ⟨Cq,Cr,Ct,Cu,Cv⟩ Cw Cx Cy Ac Ak Bz;unfold AM7 at Ak;refine Zn (AAy rfl rfl (Zr (Zo (⟨_,rfl,fun Am=>?_,fun Am=>?_⟩))))
  ·refine Zx (q_t (Zo (Zt (Zn (Zk ?_)))));obtain ⟨Cz,B1,B3⟩:=Zp (AA7 Ak Am);refine AJw AAn AA1 H2 Ac.x B1 fun _ C0 B4=>AAi (Zv (AGh (Zk (Zk ?_))));obtain ⟨C1,Ay,B5⟩:=Zp B3;refine AB2 AAn AA1 (Ac.o2 p0) Ay fun _ C2 B6=>Zk (Zk (Zk ?_));obtain ⟨C3,B7,B8⟩:=Zp B5;refine AY0 AAj AAt B4 Ac.x B7 fun _=>?_;obtain ⟨C4,B9,Ca⟩:=Zp B8;refine ALq (m:=Aa) Ac p0 AAj AAt B6 Ay B9 (fun _=>rfl) fun _ C5 Cb=>AAh (q_b (q_t (Z1 (AAz rfl rfl (Zk (Zr ?_))))));exact ⟨(_,_,_,_,_),(Zm Ca).symm,Cb,rfl,trivial⟩
  ·refine AAe (AAf (AAf (ABk (q_b (q_t (Z1 (AAz rfl rfl (Zk (Zr ?_)))))))));exact ⟨(_,_,_,_,_),(Zm (Bz _ (Zm (AA8 Ak Am)).symm)).symm,Ac,rfl,trivial⟩
 ·refine AAe (AAf (AAf (ABk (q_t (Zn (Zk (Zv (Zy ?_))))))));obtain rfl:=Zm (Bj _ (Zm (AA8 Ah Ai)).symm);exact ⟨_,Zz,Ae.x,_,_,_,_,rfl,(Ae.o2 p0),Ae.s.sel [0] Zl⟩
def AN6 (fuel:Nat) (a9 Ad Ag:Int) (Ae:LiA) (Aa:Int) (Ab:LiI):Option ((Int × LiI) ⊕ ((LiI))):=
  (if Aa < (Ae.length:Int) then ((gI Ae Aa).bind fun Ah=>((gI Ab Ad).bind fun Af=>((gI Af Aa).bind fun Ai=>(if a9≠0 then (some (Sum.inl ((w64 (Aa + 1)),(sI Ab Ad (sI Af Aa (Int.tmod (w64 (Ai + (w64 (Ag * Ah)))) a9)))))) else none)))) else (some (Sum.inr<| Ab)))
def AN7 (fuel:Nat) (a7:LiI) (a9 Af:Int) (Ab:LiA) (Aa:Int) (Ac:LiI):Option ((Int × LiI) ⊕ ((LiI))):=
  (if Aa < (Ab.length:Int) then ((gI Ab Aa).bind fun Ag=>((gI a7 Aa).bind fun Ah=>((iter (fun s=>AN6 fuel a9 Af Ag Ah s.1 s.2) fuel (0,Ac)).bind (fun (Ai:LiI)=>(some (Sum.inl ((w64 (Aa + 1)),Ai))))))) else (some (Sum.inr<| Ac)))
def AN8 (fuel:Nat) (a3 a7:LiI) (a9 Aa:Int) (Ab:LiI):Option ((Int × LiI) ⊕ ((LiI))):=
  (if Aa < (a3.length:Int) then ((gI a3 Aa).bind fun Ag=>((gI a7 0).bind fun Ac=>(if 0<=(Ac.length:Int)/\(Ac.length:Int)<=100000000 then ((gI Ab Aa).bind fun Ai=>((iter (fun s=>AN7 fuel a7 a9 Aa Ag s.1 s.2) fuel (0,(sI Ab Aa (List.replicate (Int.toNat (Ac.length:Int)) (0:Int))))).bind (fun (Ah:LiI)=>(some (Sum.inl ((w64 (Aa + 1)),Ah)))))) else none))) else (some (Sum.inr<| Ab)))
def AKy (fuel:Nat) (a3 a7:LiI) (a9:Int):Option LiI:=
  (if 0<=(a3.length:Int)/\(a3.length:Int)<=100000000 then ((iter (fun s=>AN8 fuel a3 a7 a9 s.1 s.2) fuel (0,(List.replicate (Int.toNat (a3.length:Int)) ([]:List Int)))).bind (fun (Ad:LiI)=>(some Ad))) else none)
theorem AN9 {fuel:Nat} {h:Zs} {Au:Value} {a3:LiI} {Av:Value} {a7:LiI} {a9:Int} {r:LiI} (H2:AEq (cI .i64) h Au a3) (H6:AEq (cI .i64) h Av a7) (hp:AKy fuel a3 a7 a9=some r):AAs Tryz.prog 124 #[Au,Av,(.int .i64 a9)] h (fun x h'=>Ext h h'/\ ∃ (x0:Value) (F0:List Nat) (Bb:List LnA) (Bc:List Value),x=x0/\ACp (cI .i64) 60 2 h' F0 Bb Bc x0 r/\Sp h' h.size [F0]):=by
 unfold AKy at hp;refine cwf (l:=[_,_,_]) Tryz.func124 rfl rfl (Zn (AA3 (Zk (ABe AAn rfl H2 ?_))));obtain ⟨Be,Bf⟩:=ifN hp;refine ARc (cI .i64) 2 AAn AMp rfl trivial tt2 rfl rfl Zl Be fun Bg Bh Bi Ai Cy Bj Bl Bm=>Zv (Zo (Zn (Zk (ABe AAn rfl H2 (Zk (Zr (Zt ?_)))))));have A4:=(Kst.k0 h).no2 Bl Bm Bj;refine AFr 2361183241434822098688 (fun x:(Int) × (LiI) × LnA × LnN × LvA=>(x.1,x.2.1)) ((0,(List.replicate (Int.toNat (a3.length:Int)) ([]:List Int)),Bg,Bh,Bi):(Int) × (LiI) × LnA × LnN × LvA) Bf (fun x=>[(19,(.int .i64 x.1))]) (fun x=>A4.L.set 0 (aO2 (cI .i64) 60 2 x.2.2.1 x.2.2.2.1 x.2.2.2.2 Ai x.2.1)) A4 ⟨rfl,trivial⟩ ?_;rintro ⟨Aa,Bn,Cz,A5,Bo⟩ C0 C1 C2 Ab Aj Bp;unfold AN8 at Aj;refine Zn (AAy rfl rfl (Zr (Zo (⟨_,rfl,fun Ak=>?_,fun Ak=>?_⟩))))
 ·refine Zx (q_t (Zo (Zt (Zn (Zk ?_)))));obtain ⟨C3,Bq,Br⟩:=Zp (AA7 Aj Ak);refine AJw AAn AA1 H2 Ab.x Bq fun _ C4 A6=>AAi (AA3 (Zk (Zk (Zk ?_))));obtain ⟨Bt,Bu,Bv⟩:=Zp Br;refine AJw AAn AA1 H6 Ab.x Bu fun _ C5 Bw=>ABr AAj rfl Bw ?_;obtain ⟨Bx,By⟩:=ifN Bv;refine AQt (c:=(cI .i64)) (a:=0) AAj AJx rfl rfl (fun _=>rfl) rfl trivial tt2 rfl rfl Zl Bx fun A7 Bz C6 B1 B3 B4 B5=>?_;have Ad:=Ab.no B3 (AEv B4 B5) B1;obtain ⟨C7,A8,B6⟩:=Zp By;refine ACt AAn rfl (Ad.o2 p1) rfl A8 fun B7 C8 B8 C9 Da=>ARb AA1 (Ad.o2 p1) A8 B8 rfl rfl (Ad.o p0) (Ad.dj p0 p1 Zl) fun Db B9 Ca Cb=>AHj (Zk (ABr AAj rfl A6 (Zk (Zr (Zt ?_)))));have Am:=(Ad.m2 p0 p1 Zl Ca B9 (fun z hz=> .inl (Cb z hz))).sel [1] Zl;dsimp only [AFy,AI2] at Am;refine AFr 1180591620700231449600 (fun x:(Int) × (LiI) × LnA × LnN × LvA=>(x.1,x.2.1)) ((0,(sI Bn Aa (List.replicate (Int.toNat (Bt.length:Int)) (0:Int))),(B7 :: (A5.set (Int.toNat Aa) [A7]).flatten),(A5.set (Int.toNat Aa) [A7]),(Bo.set (Int.toNat Aa) Bz)):(Int) × (LiI) × LnA × LnN × LvA) B6 (fun x=>[(34,(.int .i64 x.1))]) (fun x=>Am.L.set 0 (aO2 (cI .i64) 60 2 x.2.2.1 x.2.2.2.1 x.2.2.2.2 Ai x.2.1)) Am ⟨rfl,trivial⟩ ?_;rintro ⟨Dc,Cd,Ce,Cf,Cg⟩ Dd De Df Ae Ao Ch;unfold AN7 at Ao;refine Zn (AAy rfl rfl (Zr (Zo (⟨_,rfl,fun Ap=>?_,fun Ap=>?_⟩))))
  ·refine Zx (q_t (Zo (Zt (Zn (Zk ?_)))));obtain ⟨Dg,Ci,Cj⟩:=Zp (AA7 Ao Ap);refine AY0 AAj AAt A6 Ae.x Ci fun _=>(AAi (AA3 (Zk (Zk ?_))));obtain ⟨Dh,Ck,Cm⟩:=Zp Cj;refine AJw AAn AA1 H6 Ae.x Ck fun _ Di A9=>ABr AAj rfl A9 (Zk (Zr (Zt (AFr 590295792766519619584 (fun x:(Int) × (LiI) × LnA × LnN × LvA=>(x.1,x.2.1)) ((0,Cd,Ce,Cf,Cg):(Int) × (LiI) × LnA × LnN × LvA) Cm (fun x=>[(44,(.int .i64 x.1))]) (fun x=>Ae.L.set 0 (aO2 (cI .i64) 60 2 x.2.2.1 x.2.2.2.1 x.2.2.2.2 Ai x.2.1)) Ae ⟨rfl,trivial⟩ ?_))));rintro ⟨Dj,Dk,Dl,Do,Dp⟩ Dq Dr Ds Ac Aq Cn;unfold AN6 at Aq;refine Zn (AAy rfl rfl (Zr (Zo (⟨_,rfl,fun Ar=>?_,fun Ar=>?_⟩))))
   ·refine Zx (q_t (Zo (Zt (Zn (Zk ?_)))));obtain ⟨Dt,Co,Cp⟩:=Zp (AA7 Aq Ar);refine AY0 AAj AAt A9 Ac.x Co fun _=>(AAi (Zv (AGh (Zk (Zk ?_)))));obtain ⟨Du,Af,Cq⟩:=Zp Cp;refine AB2 AAn AA1 (Ac.o2 p0) Af fun _ Dv Cr=>Zk (Zk (Zk (AB2 AAn AA1 (Ac.o2 p0) Af fun _ Dw Ct=>Zk ?_)));obtain ⟨Dx,Ba,Cu⟩:=Zp Cq;refine AH5 (m:=Aa) AAj AAt (Ac.o2 p0) Ct Af Ba fun _=>(Zk (Zk (AK2 rfl rfl (AAz rfl rfl (Zk ?_)))));obtain ⟨Cv,Cw⟩:=ifN Cu;refine ADo rfl rfl Cv (ALq (m:=Aa) Ac p0 AAj AAt Cr Af Ba (fun _=>rfl) fun _ Dy Cx=>AAh (q_b (q_t (Z1 (AAz rfl rfl (Zk (Zr ?_)))))));exact ⟨(_,_,_,_,_),(Zm Cw).symm,Cx,rfl,trivial⟩
   ·refine AAe (AAf (AAf (ABk (q_b (q_t (Z1 (AAz rfl rfl (Zk (Zr ?_)))))))));exact ⟨(_,_,_,_,_),(Zm (Cn _ (Zm (AA8 Aq Ar)).symm)).symm,Ac,rfl,trivial⟩
  ·refine AAe (AAf (AAf (ABk (q_b (q_t (Z1 (AAz rfl rfl (Zk (Zr ?_)))))))));exact ⟨(_,_,_,_,_),(Zm (Ch _ (Zm (AA8 Ao Ap)).symm)).symm,Ae,rfl,trivial⟩
 ·refine AAe (AAf (AAf (ABk (q_t (Zn (Zk (Zv (Zy ?_))))))));obtain rfl:=Zm (Bp _ (Zm (AA8 Aj Ak)).symm);exact ⟨_,Zz,Ab.x,_,_,_,_,rfl,(Ab.o2 p0),Ab.s.sel [0] Zl⟩
def AHr (fuel:Nat) (a3:LiI) (a5:Int):Option (LiI × Int):=
  ((AEs fuel a3).bind fun x6=>(if (!x6)=true then (some ([],3)) else ((ACd fuel a5).bind fun Ac=>(if ¬ Ac=0 then (some ([],Ac)) else ((ACh fuel a3 a5).bind fun Ae=>(some (Ae,0)))))))
theorem ASw {fuel:Nat} {h:Zs} {Ag:Value} {a3:LiI} {a5:Int} {r:(LiI × Int)} (H2:AEq (cI .i64) h Ag a3) (hp:AHr fuel a3 a5=some r):AAs Tryz.prog 45 #[Ag,(.int .i64 a5)] h (fun x h'=>Ext h h'/\ ∃ (x0:Value) (F0:List Nat) (Au:List LnA) (Av:List Value),x= .tuple #[x0,.int .i64 r.2]/\ACp (cI .i64) 60 2 h' F0 Au Av x0 r.1/\Sp h' h.size [F0]):=by
 unfold AHr at hp;refine cwf (l:=[_,_]) Tryz.func45 rfl rfl (Zn (AAi (Zv (Zo (Zn (Zk ?_))))));have K0:=Kst.k0 h;obtain ⟨x6,Aw,Ap⟩:=Zp hp;refine ADk K0 (AKb (H2.ext K0.x) Aw) fun A4 E9 Aq=>ADp rfl (Zr (⟨_,rfl,fun Aa=>?_,fun Aa=>?_⟩))
 ·refine Zn (AAi (Zv (Zy (AAc ?_))));have Ab:=Kst.anil2 (cI .i64) 60 2 Aq;obtain rfl:=Zm (ifT Ap Aa);exact ⟨_,ABg,Ab.x,_,_,_,_,rfl,(Ab.o2 p0),Ab.s.sel [0] Zl⟩
 ·refine Zx (q_t (Zo (Zn (Zk ?_))));obtain ⟨A6,Ax,Ar⟩:=Zp (AH9 Ap Aa);refine ADk Aq (AFp Ax) fun A7 A8 Ac=>AA3 (Zk (ADc rfl rfl (Zr (⟨_,rfl,fun Ad=>?_,fun Ad=>?_⟩))))
  ·refine Zn (Zk (AAi (Zv (Zy (AAc ?_)))));have Ae:=Kst.anil2 (cI .i64) 60 2 Ac;obtain rfl:=Zm (AA7 Ar Ad);exact ⟨_,ABg,Ae.x,_,_,_,_,rfl,(Ae.o2 p0),Ae.s.sel [0] Zl⟩
  ·refine Zx (q_t (Zn (Zk (Zk ?_))));obtain ⟨A9,Ay,Az⟩:=Zp (AA8 Ar Ad);refine ANo Ac (AFv (H2.ext Ac.x) Ay) fun Ba Bb Bc Be Bf Bg Af=>AAi (Zv (Zy ?_));obtain rfl:=Zm Az;exact ⟨_,ABg,Af.x,_,_,_,_,rfl,(Af.o2 p0),Af.s.sel [0] Zl⟩
def ALh (fuel:Nat) (a3 a7:LiI) (a9:Int):Option (LiI × Int):=
  ((((AEs fuel a3).bind fun Af=>(if (!Af)=true then (some (Sum.inl <| ([],3))) else ((AEs fuel a7).bind fun Ag=>(if (!Ag)=true then (some (Sum.inl <| ([],3))) else ((gI a3 0).bind fun Ah=>(if ¬ (a3.length:Int)=(Ah.length:Int) then (some (Sum.inl <| ([],3))) else (if ¬ (a7.length:Int)=(a3.length:Int) then (some (Sum.inl <| ([],3))) else (some (Sum.inr <| ()))))))))):Option (((LiI × Int)) ⊕ (Unit))).bind (fun ex=>match ex with | Sum.inl Ai=>(some Ai) | Sum.inr (_)=>((ACd fuel a9).bind fun Ad=>(if ¬ Ad=0 then (some ([],Ad)) else ((ACh fuel a7 a9).bind fun Ae=>((ALw fuel Ae).bind fun Aj=>((ACh fuel a3 a9).bind fun Ak=>((AKy fuel Ak Ae a9).bind fun Am=>((AKy fuel Aj Am a9).bind fun Ao=>(some (Ao,0)))))))))))
theorem ARl {fuel:Nat} {h:Zs} {Ax:Value} {a3:LiI} {Ay:Value} {a7:LiI} {a9:Int} {r:(LiI × Int)} (H2:AEq (cI .i64) h Ax a3) (H6:AEq (cI .i64) h Ay a7) (hp:ALh fuel a3 a7 a9=some r):AAs Tryz.prog 75 #[Ax,Ay,(.int .i64 a9)] h (fun x h'=>Ext h h'/\ ∃ (x0:Value) (F0:List Nat) (Bg:List LnA) (Bh:List Value),x= .tuple #[x0,.int .i64 r.2]/\ACp (cI .i64) 60 2 h' F0 Bg Bh x0 r.1/\Sp h' h.size [F0]):=by
 unfold ALh at hp;refine cwf (l:=[_,_,_]) Tryz.func75 rfl rfl (Zn (AAi (Zv ?_)));have K0:=Kst.k0 h;obtain ⟨Bi,Bj,Ab⟩:=Zp hp;refine AI8 17179868352 (fun x:Unit=>[]) (fun x h'=>(Sum.inr <| ())=Bi/\Kst h h' (K0.L)) ?_ ?_
 ·refine Zn (Zk ?_);obtain ⟨Bl,Bm,A6⟩:=Zp Bj;refine ADk K0 (AKb (H2.ext K0.x) Bm) fun B9 Ca Ah=>ADp rfl (Zk ?_);cases A7:(!Bl)
  ·refine AAk 13 false (Zk (AAk 13 false ?_));obtain ⟨Bn,Bo,A8⟩:=Zp (AH9 A6 A7);refine ADk Ah (AKb (H6.ext Ah.x) Bo) fun Cb Cd Ac=>AAk 13 false (ADp rfl (AAo rfl (Zk ?_)));cases A9:(!Bn)
   ·refine AAk 18 false (Zk (AAk 18 false (ABe AAn rfl H2 (AAk 18 false (Zk (AAk 18 false ?_))))));obtain ⟨Bp,Bq,Ba⟩:=Zp (AH9 A8 A9);refine ATd AAn rfl H2 rfl Bq fun Ce Cf Cg Br Bt=>AAk 18 false (AA6 AA1 rfl (AAu Br Ac.x) (AAk 18 false (ABr AAj rfl Bt (AAk 18 false (ADc rfl rfl (AAo rfl (Zk ?_)))))));by_cases Ad: ¬ (a3.length:Int)=(Bp.length:Int)
    ·rw [decide_eq_true Ad];refine AE5 27 true (AAd rfl (Zr (AAl rfl (Zn (AAi (Zv ?_))))));obtain rfl:=Zm (ifT Ba Ad);refine Zy (AAc ?_);have Ai:=Kst.anil2 (cI .i64) 60 2 Ac;obtain rfl:=Zm Ab;exact ⟨_,ABg,Ai.x,_,_,_,_,rfl,(Ai.o2 p0),Ai.s.sel [0] Zl⟩
    ·have Bb:=ifF Ba Ad;rw [decide_eq_false Ad];refine AAk 27 false (Zk (AAk 27 false (ABe AAn rfl H6 (AAk 27 false (Zk (AAk 27 false (ABe AAn rfl H2 (AAk 27 false (ADc rfl rfl (AAo rfl (Zr (⟨_,rfl,fun Aj=>?_,fun Aj=>?_⟩))))))))))))
     ·refine Zn (AAi (Zv ?_));obtain rfl:=Zm (AA7 Bb Aj);refine Zy (AAc ?_);have Ak:=Kst.anil2 (cI .i64) 60 2 Ac;obtain rfl:=Zm Ab;exact ⟨_,ABg,Ak.x,_,_,_,_,rfl,(Ak.o2 p0),Ak.s.sel [0] Zl⟩
     ·refine Zx (q_t ?_);exact ⟨(():Unit),⟨Zm (AA8 Bb Aj),Ac⟩,trivial⟩
   ·refine AE5 18 true (AHi 18 true (AAd rfl (Zk (AE5 27 true (AAd rfl (Zr (AAl rfl (Zn (AAi (Zv ?_))))))))));obtain rfl:=Zm (ifT A8 A9);refine Zy (AAc ?_);have Am:=Kst.anil2 (cI .i64) 60 2 Ac;obtain rfl:=Zm Ab;exact ⟨_,ABg,Am.x,_,_,_,_,rfl,(Am.o2 p0),Am.s.sel [0] Zl⟩
  ·refine AH3 13 true (AAd rfl (Zk (AE5 18 true (AHi 18 true (AAd rfl (Zk (AE5 27 true (AAd rfl (Zr (AAl rfl (Zn (AAi (Zv ?_)))))))))))));obtain rfl:=Zm (ifT A6 A7);refine Zy (AAc ?_);have Ao:=Kst.anil2 (cI .i64) 60 2 Ah;obtain rfl:=Zm Ab;exact ⟨_,ABg,Ao.x,_,_,_,_,rfl,(Ao.o2 p0),Ao.s.sel [0] Zl⟩
 rintro ⟨⟩ Ch Ci ⟨Bu,Bv⟩;subst Bu;refine Zo (Zn (Zk ?_));obtain ⟨Cj,Bw,Bc⟩:=Zp Ab;refine ADk Bv (AFp Bw) fun Ck Cm Ap=>AA3 (Zk (ADc rfl rfl (Zr (⟨_,rfl,fun Aq=>?_,fun Aq=>?_⟩))))
 ·refine Zn (Zk (AAi (Zv (Zy (AAc ?_)))));have Ar:=Kst.anil2 (cI .i64) 60 2 Ap;obtain rfl:=Zm (AA7 Bc Aq);exact ⟨_,ABg,Ar.x,_,_,_,_,rfl,(Ar.o2 p0),Ar.s.sel [0] Zl⟩
 ·refine Zx (q_t (Zn (Zk (Zk ?_))));obtain ⟨Cn,Bx,By⟩:=Zp (AA8 Bc Aq);refine ANo Ap (AFv (H6.ext Ap.x) Bx) fun Co Cp Cq Cr Ct Cu Be=>AA3 (Zk ?_);obtain ⟨Cv,Bz,B1⟩:=Zp By;refine ANo Be (ASl (Be.o2 p0).rd Bz) fun Cw Cx Cy Cz C0 C1 Bf=>Zk (Zk ?_);obtain ⟨C2,B3,B4⟩:=Zp B1;refine ANo Bf (AFv (H2.ext Bf.x) B3) fun C3 C4 C5 C6 C7 C8 Au=>Zk (Zk ?_);obtain ⟨C9,B5,B6⟩:=Zp B4;refine ANo Au (AN9 (Au.o2 p0).rd (Au.o2 p2).rd B5) fun Da Db Dc Dd De Df Av=>Zk ?_;obtain ⟨Dg,B7,B8⟩:=Zp B6;refine ANo Av (AN9 (Av.o2 p2).rd (Av.o2 p0).rd B7) fun Dh Di Dj Dk Dl Do Aw=>AAi (Zv (Zy ?_));obtain rfl:=Zm B8;exact ⟨_,ABg,Aw.x,_,_,_,_,rfl,(Aw.o2 p0),Aw.s.sel [0] Zl⟩
end Go.Proofs.YtdkldlbgcfpglaaGreatDoor
namespace Go.Proofs.YtdkldlbgcfpglaaGreatDoor
open Go Go.QF
set_option maxRecDepth 100000
theorem AKo {α β:Type} {L:List α} {n:Nat} {x:α} {f:α->Option β} (hx:L[n]? =some x):(gI L (n:Int)).bind f=f x:=by
 unfold gI;rw [if_pos Zj,Int.toNat_natCast,hx];rfl
theorem Aen {α β:Type} {L:List α} {x:α} {f:α->Option β} (hx:L[0]? =some x):(gI L 0).bind f=f x:=AKo (n:=0) hx
theorem AGw {i:Nat} (h:i<=1000000000):w64 ((i:Int) + 1)=((i + 1:Nat):Int):=by rw [wk Zj];omega
theorem AZl {n i r:Nat} {G:Z4} {g g':Nat->Int} (h:∀ c,c < n->g c=g' c):part n i (ABz G r g)=part n i (ABz G r g'):=by
 unfold part;refine ABi fun k _=>?_;split
 ·refine ABi fun c hc=>?_;by_cases hk:k=r
  ·subst hk;rw [AB0,AB0,h c hc]
  ·rw [AE9 _ _ hk,AE9 _ _ hk]
 ·rfl
theorem Am2 {n i:Nat} {F:Z4} {g:Nat->Int} (h:∀ c,c < n->g c=F i c):part n (i + 1) (ABz F i g)=part n (i + 1) F:=by
 rw [AZl h,ANr]
theorem Apv {body:Int × List (List Int)->Option ((Int × List (List Int)) ⊕ List (List Int))} {fuel n i:Nat} {G:Z4} (v:Nat->Int) (hf:n < fuel)
    (hs:∀ (j:Nat) (g:Nat->Int),j < n->g j=G i j->body ((j:Int),part n (i + 1) (ABz G i g))=some (.inl (((j + 1:Nat):Int),part n (i + 1) (ABz G i fun c=>if c=j then v j else g c))))
    (he:∀ X,body ((n:Int),X)=some (.inr X)):iter body fuel (0,part n (i + 1) G)=some (part n (i + 1) (ABz G i v)):=by
  apply ok_eq
  refine ABd (fun j s=>s=((j:Int),part n (i + 1) (ABz G i fun c=>if c < j then v c else G i c))) n ?_ hf fun j s hj hI=>?_
  · have:(fun c=>if c < 0 then v c else G i c)=G i:=funext fun c=>if_neg Zj;rw [this,ANr];rfl
  · subst hI
    by_cases h:j < n
    · rw [hs j _ h (if_neg Zj)];refine Zq ⟨h,?_⟩;refine congrArg (fun z=>(((j + 1:Nat):Int),part n (i + 1) (ABz G i z))) (funext fun c=>?_)
      by_cases h1:c=j
      · rw [if_pos h1,if_pos Zj,h1]
      · rw [if_neg h1]
        by_cases h2:c < j
        · rw [if_pos h2,if_pos Zj]
        · rw [if_neg h2,if_neg Zj]
    · obtain rfl:j=n:=by omega
      rw [he];exact Zq (AZl fun c hc=>if_pos hc)
theorem Am3 {body:Int × List (List Int)->Option ((Int × List (List Int)) ⊕ List (List Int))} {fuel n:Nat} (F:Z4) (hf:n < fuel)
    (hs:∀ i:Nat,i < n->body ((i:Int),part n i F)=some (.inl (((i + 1:Nat):Int),part n (i + 1) F))) (he:∀ X,body ((n:Int),X)=some (.inr X)):iter body fuel (0,List.replicate n ([]:List Int))=some (tab n n F):=by
  apply ok_eq;refine ABd (fun i s=>s=((i:Int),part n i F)) n (by rw [AMf n F];rfl) hf fun i s hi hI=>?_;subst hI
  by_cases h:i < n
  · rw [hs i h];exact Zq ⟨h,rfl⟩
  · obtain rfl:i=n:=by omega
    rw [he];exact Zq (AMe _ _)
theorem AW3 {x m:Int} (hm:2<=m) (Ab:m<=2147483647):Int.tmod (w64 (Int.tmod x m + m)) m=x % m:=by
 have h1:=Int.tmod_lt_of_pos x (show 0 < m by omega);have h2:=Int.tmod_lt_of_pos (-x) (show 0 < m by omega);rw [Int.neg_tmod] at h2;rw [wk Zj,Int.tmod_eq_emod_of_nonneg Zj,Int.add_emod_right,Int.tmod_def,Int.sub_mul_emod_self_left]
theorem Am4 {fuel n:Nat} {F:Z4} {m:Int} (hn:n<=8) (hm:2<=m) (Aa:m<=2147483647) (hf:100 < fuel):ACh fuel (tab n n F) m=some (tab n n fun i j=>F i j % m):=by
 unfold ACh;rw [AA9,if_pos Zj,Int.toNat_natCast,Am3 (n:=n) (fun i j=>F i j % m) Zj (fun i hi=>?_) fun X=>?_]
 ·rfl
 ·unfold AHy;dsimp only;rw [AA9,if_pos Zj,AKo (ABl hi),ABm,if_pos Zj,AKo (AQl hi),AB4,Int.toNat_natCast,AFu n (0:Int),AN5,Apv (n:=n) (fun j=>F i j % m) Zj (fun j g hj hg=>?_) fun X=>?_]
  ·dsimp only [Option.bind_some];rw [AT4,Am2 fun c _=>rfl,AGw Zj]
  ·unfold AHx;dsimp only;rw [ABm,if_pos Zj,AKo (AA0 hj),AKo (AKg Zj hi),if_pos Zj,if_pos Zj,AB0,AKo (AA0 hj),AW3 hm Aa,AB4,AB4,AEm,AL0 Zj,AT4,AGw Zj]
  ·unfold AHx;dsimp only;rw [ABm,if_neg Zj]
 ·unfold AHy;dsimp only;rw [AA9,if_neg Zj]
def AUh (n:Nat) (m:Int) (F:Z4):Prop:= ∀ i j,i < n->j < n->0<=F i j/\F i j < m
end Go.Proofs.YtdkldlbgcfpglaaGreatDoor
namespace Go.Proofs.YtdkldlbgcfpglaaGreatDoor
open Go Go.QF
set_option maxRecDepth 100000
set_option maxHeartbeats 4000000
def ARm (fuel:Nat) (Ac Ad Af:Int) (Ag:LiA) (Ah Ai Aa:Int) (Ab:LiI):Option ((Int × LiI) ⊕ ((LiI))):=
  (if Aa < (Ag.length:Int) then ((gI Ab Af).bind fun Aj=>((gI Aj Aa).bind fun Ak=>((gI Ab Ad).bind fun Ae=>((gI Ae Aa).bind fun Am=>(if Ac≠0 then (some (Sum.inl ((w64 (Aa + 1)),(sI Ab Ad (sI Ae Aa (Int.tmod (w64 (Am + (w64 ((w64 (Ac - (w64 (Int.tdiv Ai Ah)))) * Ak)))) Ac)))))) else none))))) else (some (Sum.inr<| Ab)))
def ARn (fuel:Nat) (Ah Aa Ab Af:Int) (Ac:LiI):Option ((Int × LiI) ⊕ ((Int × LiI))):=
  ((gI Ac Ab).bind fun Ag=>((gI Ag Aa).bind fun Ad=>(if ¬ Ad=0 then ((gI Ac Aa).bind fun Ai=>((gI Ai Aa).bind fun Aj=>(if Ad≠0 then ((((iter (fun s=>ARm fuel Ah Aa Ab Ag Ad Aj s.1 s.2) fuel (0,Ac)).bind (fun (Ak:LiI)=>(some ( Ak)))):Option (LiI)).bind fun Ae=>((gI Ae Ab).bind fun Am=>((gI Ae Aa).bind fun Ao=>(some (Sum.inl ((w64 (0 - Af)),(sI (sI Ae Aa Am) Ab Ao))))))) else none))) else (some (Sum.inr<| (Af,Ac))))))
def ARo (fuel:Nat) (Ad Ae Ac Aa:Int) (Ab:LiI):Option ((Int × Int × LiI) ⊕ ((Int × LiI))):=
  (if Aa < (Ab.length:Int) then ((iter (fun s=>ARn fuel Ad Ae Aa s.1 s.2) fuel (Ac,Ab)).bind (fun ((Af,Ag):Int × LiI)=>(some (Sum.inl (Af,(w64 (Aa + 1)),Ag))))) else (some (Sum.inr<| (Ac,Ab))))
def ARp (fuel:Nat) (Ad:LiI) (Ae Ab Aa:Int) (Ac:LiI):Option ((Int × Int × LiI) ⊕ ((Int × LiI))):=
  (if Aa < (Ad.length:Int) then ((iter (fun s=>ARo fuel Ae Aa s.1 s.2.1 s.2.2) fuel (Ab,(w64 (Aa + 1)),Ac)).bind (fun ((Af,Ag):Int × LiI)=>(some (Sum.inl (Af,(w64 (Aa + 1)),Ag))))) else (some (Sum.inr<| (Ab,Ac))))
def ARq (fuel:Nat) (a5:Int) (Ac:LiI) (Ad Ab:Int):Option ((Int × Int) ⊕ ((Int))):=
  (if Ab < (Ac.length:Int) then ((gI Ac Ab).bind fun Ae=>(if a5≠0 then ((gI Ae Ab).bind fun Af=>(if a5≠0 then (some (Sum.inl ((Int.tmod (w64 ((Int.tmod Ad a5) * Af)) a5),(w64 (Ab + 1))))) else none)) else none)) else (some (Sum.inr<| Ad)))
def AQ1 (fuel:Nat) (a3:LiI) (a5:Int):Option (Int × Int):=
  ((AGn fuel a3).bind fun x6=>(if (!x6)=true then (some (0,3)) else ((ACd fuel a5).bind fun Ac=>(if ¬ Ac=0 then (some (0,Ac)) else ((ACh fuel a3 a5).bind fun Ad=>(((((some ( a5)):Option (Int)).bind fun Af=>((iter (fun s=>ARp fuel Ad Af s.1 s.2.1 s.2.2) fuel (1,0,Ad)).bind (fun ((Ag,Ah):Int × LiI)=>(some ( (Ag,Ah)))))):Option (Int × LiI)).bind fun (Ai,Aj)=>((iter (fun s=>ARq fuel a5 Aj s.1 s.2) fuel ((w64 (Ai + a5)),0)).bind (fun (Ak:Int)=>(some (Ak,0))))))))))
theorem AW4 {fuel:Nat} {h:Zs} {A8:Value} {a3:LiI} {a5:Int} {r:(Int × Int)} (H2:AEq (cI .i64) h A8 a3) (hp:AQ1 fuel a3 a5=some r):AAs Tryz.prog 74 #[A8,(.int .i64 a5)] h (fun x h'=>Ext h h'/\x= .tuple #[.int .i64 r.1,.int .i64 r.2]):=by
 unfold AQ1 at hp;refine cwf (l:=[_,_]) Tryz.func74 rfl rfl (Zn (AAi (Zv (Zo (Zn (Zk ?_))))));have K0:=Kst.k0 h;obtain ⟨x6,B1,Bc⟩:=Zp hp;refine ADk K0 (APw (H2.ext K0.x) B1) fun Eb E9 Be=>ADp rfl (Zr (⟨_,rfl,fun Aj=>?_,fun Aj=>?_⟩))
 ·refine Zn (AAi (Zv (Zy (AAc ?_))));obtain rfl:=Zm (ifT Bc Aj);exact ⟨_,ABg,Be.x,rfl⟩
 ·refine Zx (q_t (Zo (Zn (Zk ?_))));obtain ⟨Ed,B3,Bf⟩:=Zp (AH9 Bc Aj);refine ADk Be (AFp B3) fun Ee Ef Ak=>AA3 (Zk (ADc rfl rfl (Zr (⟨_,rfl,fun Am=>?_,fun Am=>?_⟩))))
  ·refine Zn (Zk (AAi (Zv (Zy (AAc ?_)))));obtain rfl:=Zm (AA7 Bf Am);exact ⟨_,ABg,Ak.x,rfl⟩
  ·refine Zx (q_t (Zn (Zk (Zk ?_))));obtain ⟨B4,B5,B6⟩:=Zp (AA8 Bf Am);refine ANo Ak (AFv (H2.ext Ak.x) B5) fun B7 B8 B9 Ab Eg Eh Ao=>AA3 (Zk (Zk ?_));obtain ⟨Ca,Cb,Cd⟩:=Zp B6;refine AAr (K':=(fun xr h'=> ∃ x:(Int) × (LiI) × LnA × LnN × LvA,(x.1,x.2.1)=Ca/\xr=(.int .i64 x.1)/\Kst h h' (Ao.L.set 0 (aO2 (cI .i64) 60 2 x.2.2.1 x.2.2.2.1 x.2.2.2.2 Ab x.2.1)))) trivial rfl ?_ fun Ei Ej Ce=>?_
   ·refine cwf (l:=[_,_]) Tryz.func123 rfl rfl (Zn (AA3 (Zk ?_)));obtain ⟨Cf,Cg,Ch⟩:=Zp Cb;refine AAr (K':=(fun xr h'=> ∃ x:(Nat) × (Int),x.2=Cf/\xr=(.func (.func 171) #[] #[(.pointer (some ⟨x.1,0,none⟩))])/\Kst h h' (aB 2 x.1 [(.int .i64 x.2)] :: Ao.L))) trivial rfl ?_ fun Ek El Ci=>?_
    ·refine cwf (l:=[_]) Tryz.func144 rfl rfl (Zn (AHg Ao [(.int .i64 a5)] fun Cj Em En Ck=>AA3 (Aj0 rfl (Zv (Zy (⟨_,Zz,((Cj,a5):(Nat) × (Int)),?_,rfl,?_⟩))))))
     ·exact Zm Cg
     ·exact Ck
    obtain ⟨⟨Cm,Eo⟩,Cn,rfl,Ap⟩:=Ci;refine ⟨trivial,?_⟩;subst Cn;refine AA3 (Zv (Zo (Zn (Zk (ABe AAn rfl (Ap.o2 p1).rd (Zk (Zr (Zt (AFr 18889465931478580847040 (fun x:(Int) × (Int) × (LiI) × LnA × LnN × LvA=>(x.1,x.2.1,x.2.2.1)) ((1,0,B4,B7,B8,B9):(Int) × (Int) × (LiI) × LnA × LnN × LvA) Ch (fun x=>[(6,(.int .i64 x.1)),(13,(.int .i64 x.2.1))]) (fun x=>Ap.L.set 1 (aO2 (cI .i64) 60 2 x.2.2.2.1 x.2.2.2.2.1 x.2.2.2.2.2 Ab x.2.2.1)) Ap ⟨rfl,rfl,trivial⟩ ?_)))))))));rintro ⟨Bg,Af,Bh,Bi,Bj,Bl⟩ Ep Er Es Aq Ar Co;unfold ARp at Ar;refine Zn (AAy rfl rfl (Zr (Zo (⟨_,rfl,fun Au=>?_,fun Au=>?_⟩))))
    ·refine Zx (q_t (Zo (Zt (Zn (Zk (AA3 (Zk (AAz rfl rfl (Zv (Zt (AFr 9444732965739290165568 (fun x:(Int) × (Int) × (LiI) × LnA × LnN × LvA=>(x.1,x.2.1,x.2.2.1)) ((Bg,(w64 (Af + 1)),Bh,Bi,Bj,Bl):(Int) × (Int) × (LiI) × LnA × LnN × LvA) (AA7 Ar Au) (fun x=>[(6,(.int .i64 x.1)),(8,(.int .i64 x.2.1))]) (fun x=>Aq.L.set 1 (aO2 (cI .i64) 60 2 x.2.2.2.1 x.2.2.2.2.1 x.2.2.2.2.2 Ab x.2.2.1)) Aq ⟨rfl,rfl,trivial⟩ ?_)))))))))));rintro ⟨Cp,Av,Cq,Cr,Ct,Cu⟩ Et Eu Ev Ag Aw Cv;unfold ARo at Aw;refine Zo (Zn (Zk (Zk (ABe AAn rfl (Ag.o2 p1).rd (AAy rfl rfl (Zr (⟨_,rfl,fun Ax=>?_,fun Ax=>?_⟩)))))))
     ·refine Zx (q_t (Zo (Zt (Zt (AFr 9444732965739273650240 (fun x:(Int) × (LiI) × LnA × LnN × LvA=>(x.1,x.2.1)) ((Cp,Cq,Cr,Ct,Cu):(Int) × (LiI) × LnA × LnN × LvA) (AA7 Aw Ax) (fun x=>[(6,(.int .i64 x.1))]) (fun x=>Ag.L.set 1 (aO2 (cI .i64) 60 2 x.2.2.1 x.2.2.2.1 x.2.2.2.2 Ab x.2.1)) Ag ⟨rfl,trivial⟩ ?_)))));rintro ⟨Ew,Ey,Bm,Bn,Bo⟩ Ez Fa Fb Aa Bp Cw;unfold ARn at Bp;refine Zo (Zn (Zk (Zk ?_)));obtain ⟨Fc,Ac,Cx⟩:=Zp Bp;refine AB2 AAn AA1 (Aa.o2 p1) Ac fun _ Fd Cy=>Zk ?_;obtain ⟨Cz,Bq,Br⟩:=Zp Cx;refine AH5 (m:=Av) AAj AAt (Aa.o2 p1) Cy Ac Bq fun _=>(ADc rfl rfl (Zr (⟨_,rfl,fun Ay=>?_,fun Ay=>?_⟩)))
      ·refine Zx (q_t (Zt (Zo (AGh (Zk (Zk (Zk ?_)))))));obtain ⟨Fe,Az,C0⟩:=Zp (AA7 Br Ay);refine AB2 AAn AA1 (Aa.o2 p1) Az fun _ C1 Bt=>Zk (Zk (AB2 AAn AA1 (Aa.o2 p1) Ac fun _ C2 Bu=>Zk (Zk (AB2 AAn AA1 (Aa.o2 p1) Az fun _ Ff C3=>Zk ?_))));obtain ⟨C4,C5,C6⟩:=Zp C0;refine AH5 (m:=Af) AAj AAt (Aa.o2 p1) C3 Az C5 fun _=>(Zk (Zk (AB2 AAn AA1 (Aa.o2 p1) Ac fun _ Fg C7=>Zk (AH5 (m:=Av) AAj AAt (Aa.o2 p1) C7 Ac Bq fun _=>?_))));obtain ⟨C8,C9⟩:=ifN C6;refine AP9 rfl rfl C8 ?_;obtain ⟨Da,Db,Dc⟩:=Zp C9;refine AXn (l:=[C1,C2,(.int .i64 (w64 (Int.tdiv C4 Cz)))]) (cl:=[(.pointer (some ⟨Cm,0,none⟩))]) (K':=(fun xr h'=> ∃ x:(LiI),x=Da/\xr= .tuple #[]/\Kst h h' (Aa.L.set 1 (aO2 (cI .i64) 60 2 Bm Bn Bo Ab x)))) trivial rfl rfl ?_ fun Fh Fi Dd=>?_
       ·refine cwf (l:=[_,_,_,_]) Tryz.func171 rfl rfl (Zn (Zk (ABr AAj rfl ((Aa.o2 p1).rowI Bu Ac) (Zk (Zr (Zt (AHm 4294965632 Db (fun x=>[(11,(.int .i64 x.1))]) (fun x=>Aa.L.set 1 (aO2 (cI .i64) 60 2 Bm Bn Bo Ab x.2)) Aa ⟨rfl,trivial⟩ ?_)))))));rintro ⟨Fj,De⟩ Fk Fl Fm Ad A3 Df;unfold ARm at A3;refine Zn (AAy rfl rfl (Zr (Zo (⟨_,rfl,fun A4=>?_,fun A4=>?_⟩))))
        ·refine Zx (q_t (Zo (Zt (Zn (Zk ?_)))));obtain ⟨Fo,Dg,Dh⟩:=Zp (AA7 A3 A4);obtain ⟨Fp,Di,Dj⟩:=Zp Dh;refine AH5 (m:=Av) AAj AAt (Ad.o2 p1) Bu Dg Di fun _=>(AAi (Zv (AGh (Zk (Zk (Zk (Zk ?_)))))));obtain ⟨Fq,Bv,Dk⟩:=Zp Dj;obtain ⟨Fr,Bw,Dl⟩:=Zp Dk;refine AH5 (m:=Af) AAj AAt (Ad.o2 p1) Bt Bv Bw fun _=>AA6 AAt rfl ((Ad.b p0).cell (i:=0) rfl) (Zk (AE4 rfl rfl (Zk (AK2 rfl rfl (AAz rfl rfl (AA6 AAt rfl ((Ad.b p0).cell (i:=0) rfl) ?_))))));obtain ⟨Do,Dp⟩:=ifN Dl;refine ADo rfl rfl Do (ALq (m:=Af) Ad p1 AAj AAt Bt Bv Bw (fun _=>rfl) fun _ Ft Dq=>AAh (q_b (q_t (Z1 (AAz rfl rfl (Zk (Zr ?_)))))));exact ⟨_,(Zm Dp).symm,Dq,rfl,trivial⟩
        ·refine AAe (AAf (AAf (ABk (⟨_,AQ3,(De:(LiI)),?_,rfl,?_⟩))))
         ·exact Zm (Df _ (Zm (AA8 A3 A4)).symm)
         ·exact Ad
       obtain ⟨Fu,Dr,rfl,Ah⟩:=Dd;refine ⟨trivial,?_⟩;subst Dr;refine Zr (Zo (AGh (Zk (Zk (Zk (Zk (Zk (Zk ?_))))))));obtain ⟨Fv,Bx,Ds⟩:=Zp Dc;refine AB2 AAn AA1 (Ah.o2 p1) Bx fun _ Fw Dt=>Zk (Zk ?_);obtain ⟨Fx,By,Du⟩:=Zp Ds;refine AB2 AAn AA1 (Ah.o2 p1) By fun _ Fy Dv=>APp AAn AA1 (Ah.o2 p1) Dv Dt By Bx rfl rfl (fun _=>rfl) (fun _=>rfl) (fun _=>rfl) (fun _ _=>rfl) fun Fz F4 F5 F6 F7 F8 Dw Dx Dy=>Zr (Z1 (Zk (AUi rfl (AAi (AAh (q_b (q_t ?_)))))));exact ⟨(_,_,_,_,_),(Zm Du).symm,(Ah.uo2 p1 Dx Dw Dy),rfl,trivial⟩
      ·refine AAe (AAf (AAf (ABk (q_b (q_t (Z1 (Zk (AAz rfl rfl (Zv ?_)))))))));exact ⟨(_,_,_,_,_,_),(Zm (Cw _ (Zm (AA8 Br Ay)).symm)).symm,Aa,rfl,rfl,trivial⟩
     ·refine AAe (AAf (AAf (ABk (q_b (q_t (Z1 (AAz rfl rfl (Zk (Zr ?_)))))))));exact ⟨(_,_,_,_,_,_),(Zm (Cv _ (Zm (AA8 Aw Ax)).symm)).symm,Ag,rfl,rfl,trivial⟩
    ·refine AAe (AAf (AAf (ABk (q_t (Zn (Zk (Zv (Zy (⟨_,Zz,((Bg,Bh,Bi,Bj,Bl):(Int) × (LiI) × LnA × LnN × LvA),?_,rfl,?_⟩)))))))))
     ·exact Zm (Co _ (Zm (AA8 Ar Au)).symm)
     ·exact Aq.sel [1] Zl
   obtain ⟨⟨F9,Ga,Gb,Gc,Gd⟩,Dz,rfl,A5⟩:=Ce;refine ⟨trivial,?_⟩;subst Dz;refine Zk (AAz rfl rfl (Zv (Zo (Zn (Zk (ABe AAn rfl (A5.o2 p0).rd (Zk (Zr (Zt (AHm 35183835219712 Cd (fun x=>[(8,(.int .i64 x.1)),(29,(.int .i64 x.2))]) (fun x=>A5.L) A5 ⟨rfl,rfl,trivial⟩ ?_))))))))));rintro ⟨Ge,D0⟩ Gf Gg Gh Ai A6 D1;unfold ARq at A6;refine Zn (AAy rfl rfl (Zr (Zo (⟨_,rfl,fun A7=>?_,fun A7=>?_⟩))))
   ·refine Zx (q_t (Zo (Zt (Zn (Zk ?_)))));obtain ⟨Gi,Bz,D2⟩:=Zp (AA7 A6 A7);refine AB2 AAn AA1 (Ai.o2 p0) Bz fun _ Gj D3=>AAi (Zv (AGh (Zk (Zk ?_))));obtain ⟨D4,D5⟩:=ifN D2;refine ADo rfl rfl D4 (Zk (Zk ?_));obtain ⟨Gk,D6,D7⟩:=Zp D5;refine AH5 (m:=D0) AAj AAt (Ai.o2 p0) D3 Bz D6 fun _=>(AK2 rfl rfl (Zk ?_));obtain ⟨D8,D9⟩:=ifN D7;refine ADo rfl rfl D8 (AAi (AAh (q_b (q_t (Z1 (AAz rfl rfl (Zk (Zr ?_))))))));exact ⟨_,(Zm D9).symm,Ai,rfl,rfl,trivial⟩
   ·refine AAe (AAf (AAf (ABk (q_t (Zn (Zk (AAi (Zv (Zy ?_)))))))));obtain rfl:=Zm (D1 _ (Zm (AA8 A6 A7)).symm);exact ⟨_,ABg,Ai.x,rfl⟩
end Go.Proofs.YtdkldlbgcfpglaaGreatDoor
namespace Go.Proofs.YtdkldlbgcfpglaaGreatDoor
open Go Go.QF
set_option maxRecDepth 100000
theorem Am5 {E:Type} {body:Int->Option (Int ⊕ E)} {fuel n:Nat} {e:E} (hf:n < fuel) (hs:∀ i:Nat,i < n->body (i:Int)=some (.inl ((i + 1:Nat):Int))) (he:body (n:Int)=some (.inr e)):iter body fuel 0=some e:=by
 apply ok_eq;refine ABd (fun i s=>s=(i:Int)) n rfl hf fun i s hi hI=>?_;subst hI;by_cases h:i < n
 ·rw [hs i h];exact Zq ⟨h,rfl⟩
 ·obtain rfl:i=n:=by omega
  rw [he];exact Zq rfl
theorem Aeo {fuel n:Nat} {F:Z4} (Aa:1<=n) (hn:n<=8) (hf:100 < fuel):AEs fuel (tab n n F)=some true:=by
 unfold AEs;rw [AA9,if_neg Zj,if_neg Zj,Aen (ABl Zj),ABm,if_neg Zj,if_neg Zj];simp only [Option.bind_some];rw [Am5 (n:=n) (e:= .inr ()) Zj (fun i hi=>?_) ?_]
 ·rfl
 ·unfold AKa;rw [AA9,if_neg Zj]
 ·unfold AKa;rw [AA9,if_pos Zj,AKo (ABl hi),Aen (ABl Zj),ABm,ABm,if_neg (fun h=>h rfl),AGw Zj]
theorem AV0 {n j:Nat} {g:Nat->Int} {x:Int}:sI (ACl n g) (j:Int) x=ACl n fun c=>if c=j then x else g c:=by rw [AB4,AEm]
theorem AHu {n i:Nat} {F:Z4} {g:Nat->Int}:sI (tab n n F) (i:Int) (ACl n g)=tab n n (ABz F i g):=by
 rw [AB4];exact AK5
theorem AZm {n r:Nat} {F:Z4} {g g':Nat->Int} (h:∀ c,c < n->g c=g' c):tab n n (ABz F r g)=tab n n (ABz F r g'):=AL8 fun i j _ hj=>by
  rw [AA4,AA4,h j hj]
end Go.Proofs.YtdkldlbgcfpglaaGreatDoor
namespace Go.Proofs.YtdkldlbgcfpglaaGreatDoor
open Go Go.QF
set_option maxRecDepth 100000
set_option maxHeartbeats 4000000
def AM9 (fuel:Nat) (a2 Ac Ab:Int):Option ((Int × Int) ⊕ ((Int × Int))):=
  (if a2≠0 then (if (Int.tmod Ab a2)=0 then (if a2≠0 then (some (Sum.inl ((w64 (Ac + 1)),(w64 (Int.tdiv Ab a2))))) else none) else (some (Sum.inr<| (Ac,Ab)))) else none)
def AHs (fuel:Nat) (a1 a2:Int):Option AK7:=
  ((iter (fun s=>AM9 fuel a2 s.1 s.2) fuel (0,a1)).bind (fun ((Ac,Ad):Int × Int)=>(some (Ac,1,Ad,0,0))))
theorem ANa {fuel:Nat} {h:Zs} {a1 a2:Int} {r:AK7} (hp:AHs fuel a1 a2=some r):AAs Tryz.prog 76 #[(.int .i64 a1),(.int .i64 a2)] h (fun x h'=>Ext h h'/\x= .agg #[.int .i64 r.1,.int .i64 r.2.1,.int .i64 r.2.2.1,.int .i64 r.2.2.2.1,.int .i64 r.2.2.2.2]):=by
 unfold AHs at hp;refine cwf (l:=[_,_]) Tryz.func76 rfl rfl (Zn (ACx (Kst.k0 h) [(.int .i64 0),(.int .i64 0),(.int .i64 0),(.int .i64 0),(.int .i64 0)] ATg fun b3 h4 E6 K9=>AHj (Zk (AC5 (v:=(.agg #[(.int .i64 0),(.int .i64 1),(.int .i64 a1),(.int .i64 0),(.int .i64 0)])) (fun _=>by kernel_rfl) (ACx K9 [(.int .i64 0),(.int .i64 0),(.int .i64 0),(.int .i64 0),(.int .i64 0)] ATg fun Ap Ba Bb Ah=>AB3 [(.int .i64 0),(.int .i64 1),(.int .i64 a1),(.int .i64 0),(.int .i64 0)] ANk rfl rfl rfl rfl (by simp [isOne]) (Ah.b p0) fun Bc Aq Ar=>Zr (Zo ?_))))));refine Zt ?_;have Ai:=Ah.sb p0 Ar Aq rfl;refine AHm 4194048 hp (fun x=>[]) (fun x=>Ai.L.set 0 (aB 59 Ap [(.int .i64 x.1),(.int .i64 1),(.int .i64 x.2),(.int .i64 0),(.int .i64 0)])) Ai trivial ?_;rintro ⟨Ad,Ae⟩ Be Bf Bg Aa Aj Au;unfold AM9 at Aj;refine Zo (Zn (AEy AT0 AAt (Aa.b p0) 2 rfl (Zk ?_)));obtain ⟨Av,Ak⟩:=ifN Aj;refine ADo rfl rfl Av (ACc rfl rfl (Zr (⟨_,rfl,fun Af=>?_,fun Af=>?_⟩)))
 ·refine Zx (q_t (Zt (Zn (AEy AT0 AAt (Aa.b p0) 2 rfl (Zk ?_)))));obtain ⟨Aw,Ax⟩:=ifN (AA7 Ak Af);refine AP9 rfl rfl Aw (ACz AT0 rfl (AOo [(.int .i64 Ad),(.int .i64 1),(.int .i64 (w64 (Int.tdiv Ae a2))),(.int .i64 0),(.int .i64 0)] AAt rfl rfl rfl (Aa.b p0) (Nat.le_of_ble_eq_true rfl) rfl fun Bh Ay Az=>Zr (Z1 ?_)));have Ag:=Aa.sb p0 Az Ay rfl;refine AEy AKs ABt (Ag.b p0) 0 rfl (AAz rfl rfl (ACz AKs rfl (AOo [(.int .i64 (w64 (Ad + 1))),(.int .i64 1),(.int .i64 (w64 (Int.tdiv Ae a2))),(.int .i64 0),(.int .i64 0)] ABt rfl rfl rfl (Ag.b p0) (Nat.le_of_ble_eq_true rfl) rfl fun Bi A3 A4=>AAh (q_b (q_t ?_)))));exact ⟨_,(Zm Ax).symm,(Ag.sb p0 A4 A3 rfl),trivial⟩
 ·refine AAe (AAf (AAf (ABk (q_t (Zn (AMo [(.int .i64 Ad),(.int .i64 1),(.int .i64 Ae),(.int .i64 0),(.int .i64 0)] ANk rfl rfl (Aa.b p0).agg (AB3 [(.int .i64 Ad),(.int .i64 1),(.int .i64 Ae),(.int .i64 0),(.int .i64 0)] ANk rfl rfl rfl rfl (by simp [isOne]) (Aa.b p1) fun Bj A5 A6=>Zr (Zy ?_))))))));have Am:=Aa.sb p1 A6 A5 rfl;obtain rfl:=Zm (Au _ (Zm (AA8 Ak Af)).symm);exact ⟨_,AB9 ANk rfl rfl (Am.b p1),Am.x,rfl⟩
def APx (fuel:Nat) (Ad:Int) (Ab:LiA) (Aa:Int):Option ((Int) ⊕ ((Bool) ⊕ (Unit))):=
  (if Aa < (Ab.length:Int) then ((gI Ab Aa).bind fun Ac=>(if Ac < 0 then (some (Sum.inr<| Sum.inl <| false)) else (if Ad<=Ac then (some (Sum.inr<| Sum.inl <| false)) else (some (Sum.inl (w64 (Aa + 1))))))) else (some (Sum.inr<| Sum.inr <| ())))
def APy (fuel:Nat) (Ac:LiI) (Ab:Int) (Ad:LiA) (Aa:Int):Option ((Int) ⊕ ((Bool) ⊕ (Unit))):=
  (if Aa < (Ad.length:Int) then ((gI Ac Ab).bind fun Ae=>((gI Ae Aa).bind fun Af=>(if ¬ Aa=Ab then (if ¬ Af=0 then (some (Sum.inr<| Sum.inl <| false)) else (some (Sum.inl (w64 (Aa + 1))))) else (some (Sum.inl (w64 (Aa + 1))))))) else (some (Sum.inr<| Sum.inr <| ())))
def APz (fuel:Nat) (a5:Int) (Ae:(List AK7)) (Ad:LiI) (Aa:Int):Option ((Int) ⊕ ((Bool) ⊕ (Unit))):=
  (if Aa < (Ad.length:Int) then ((gI Ad Aa).bind fun Ah=>((((gI Ad Aa).bind fun Ai=>((gI Ai Aa).bind fun Af=>(if Af=0 then (some (Sum.inl <| false)) else ((gI Ae Aa).bind fun Ab=>((AHs fuel Af a5).bind fun Ac=>(if (!(decide ((Ab.1,Ab.2.1,Ab.2.2.1,Ab.2.2.2.1,Ab.2.2.2.2)=(Ac.1,Ac.2.1,Ac.2.2.1,Ac.2.2.2.1,Ac.2.2.2.2))))=true then (some (Sum.inl <| false)) else (some (Sum.inr <| ())))))))):Option ((Bool) ⊕ (Unit))).bind (fun ex=>match ex with | Sum.inl Aj=>(some (Sum.inr<| Sum.inl <| Aj)) | Sum.inr (_)=>(((if 0 < Aa then ((gI Ae Aa).bind fun Ak=>((gI Ae (w64 (Aa - 1))).bind fun Am=>(if Ak.1 < Am.1 then (some (Sum.inl <| false)) else (some (Sum.inr <| ()))))) else (some (Sum.inr <| ()))):Option ((Bool) ⊕ (Unit))).bind (fun ex=>match ex with | Sum.inl Ao=>(some (Sum.inr<| Sum.inl <| Ao)) | Sum.inr (_)=>((iter (fun s=>APy fuel Ad Aa Ah s) fuel 0).bind (fun ex=>match ex with | Sum.inl Ap=>(some (Sum.inr<| Sum.inl <| Ap)) | Sum.inr (_)=>(some (Sum.inl (w64 (Aa + 1))))))))))) else (some (Sum.inr<| Sum.inr <| ())))
def AP0 (fuel:Nat) (a8:LiI) (Ac Aa:Int):Option ((Int) ⊕ ((Bool) ⊕ (Unit))):=
  (if Aa < (a8.length:Int) then ((gI a8 Aa).bind fun Ad=>((iter (fun s=>APx fuel Ac Ad s) fuel 0).bind (fun ex=>match ex with | Sum.inl Ae=>(some (Sum.inr<| Sum.inl <| Ae)) | Sum.inr (_)=>(some (Sum.inl (w64 (Aa + 1))))))) else (some (Sum.inr<| Sum.inr <| ())))
def AOl (fuel:Nat) (a3:LiI) (a5:Int) (a8:LiI) (Ae:(List AK7)) (Ac:Int):Option Bool:=
  ((iter (fun s=>AP0 fuel a8 Ac s) fuel 0).bind (fun ex=>match ex with | Sum.inl Af=>(some Af) | Sum.inr (_)=>((AQ1 fuel a8 a5).bind fun (Ag,Aj)=>(if Ag=0 then (some false) else ((ALh fuel a3 a8 Ac).bind fun (Ah,Ak)=>((iter (fun s=>APz fuel a5 Ae Ah s) fuel 0).bind (fun ex=>match ex with | Sum.inl Ai=>(some Ai) | Sum.inr (_)=>(some true))))))))
theorem AU2 {fuel:Nat} {h:Zs} {Bp:Value} {a3:LiI} {a5:Int} {Aw:Value} {a8:LiI} {Ax:Value} {Bt:(List AK7)} {Bu:Int} {r:Bool} (H2:AEq (cI .i64) h Bp a3) (H7:AEq (cI .i64) h Aw a8) (Ay:SlC AR1 h Ax Bt) (hp:AOl fuel a3 a5 a8 Bt Bu=some r):AAs Tryz.prog 38 #[Bp,(.agg #[(.int .i64 a5),Aw,Ax]),(.int .i64 Bu)] h (fun x h'=>Ext h h'/\x= .bool r):=by
 unfold AOl at hp;refine cwf (l:=[_,_,_]) Tryz.func38 rfl rfl (Zn (AHg (Kst.k0 h) [(.int .i64 a5),Aw,Ax] fun Dj Dk Dl Az=>Zv (Zo (Zn (AEy ATz AE6 (Az.b p0) 1 rfl (ABe AAn rfl H7 (Zk (Zr (Zt (AHm 2199019062592 hp (fun x=>[(22,(.int .i64 x))]) (fun x=>Az.L) Az ⟨rfl,trivial⟩ ?_))))))))));rintro Do Dp Dq Dr Ac A3 A4;unfold AP0 at A3;refine Zn (AAy rfl rfl (Zr (Zo (⟨_,rfl,fun A5=>?_,fun A5=>?_⟩))))
 ·refine Zx (q_t (Zo (Zt (Zn ?_))));obtain ⟨Ds,Cd,Ce⟩:=Zp (AA7 A3 A5);refine AJw AAn AA1 H7 Ac.x Cd fun _ Dt Bv=>AA3 (Zk (ABr AAj rfl Bv (Zk (Zr (Zt (AHm 1099243193408 Ce (fun x=>[(28,(.int .i64 x))]) (fun x=>Ac.L) Ac ⟨rfl,trivial⟩ ?_))))));rintro Du Dv Dw Dx Ae A6 A7;unfold APx at A6;refine Zn (AAy rfl rfl (Zr (Zo (⟨_,rfl,fun A8=>?_,fun A8=>?_⟩))))
  ·refine Zx (q_t (Zo (Zt (Zn ?_))));obtain ⟨Cf,Cg,Bw⟩:=Zp (AA7 A6 A8);refine AY0 AAj AAt Bv Ae.x Cg fun _=>(AA3 (Zk (AAy rfl rfl (Zk ?_))));by_cases Ak:Cf < 0
   ·rw [decide_eq_true Ak];refine AH3 34 true (AAd rfl (Zr (AAl rfl (Zn (Zv (Zy (ABp (AAc (AAc (ABp (ABp (AAc (AAc (ABp (AAc ?_)))))))))))))));obtain rfl:=Zm (A4 _ (Zm (A7 _ (Zm (ifT Bw Ak)).symm)).symm);exact ⟨_,Zz,Ae.x,rfl⟩
   ·have Bx:=ifF Bw Ak;rw [decide_eq_false Ak];refine AAk 34 false (Zk (AAk 34 false (Zk (AAk 34 false (ANn rfl rfl (AAo rfl (Zr (⟨_,rfl,fun A9=>?_,fun A9=>?_⟩))))))))
    ·refine Zn (Zv (Zy (ABp (AAc (AAc (ABp (ABp (AAc (AAc (ABp (AAc ?_)))))))))));obtain rfl:=Zm (A4 _ (Zm (A7 _ (Zm (AA7 Bx A9)).symm)).symm);exact ⟨_,Zz,Ae.x,rfl⟩
    ·refine Zx (q_b (q_t (Z1 (AAz rfl rfl (Zk (Zr ?_))))));exact ⟨_,(Zm (AA8 Bx A9)).symm,Ae,rfl,trivial⟩
  ·refine AAe (AAf (AAf (ABk (q_b (q_t (Z1 (AAz rfl rfl (Zk (Zr ?_)))))))));exact ⟨_,(Zm (A7 _ (Zm (AA8 A6 A8)).symm)).symm,Ae,rfl,trivial⟩
 ·refine AAe (AAf (AAf (ABk (q_t (Zo (Zn (AEy ATz AE6 (Ac.b p0) 1 rfl (AEy AOs AAt (Ac.b p0) 0 rfl ?_))))))));obtain ⟨⟨Dy,Dz⟩,Ch,Ba⟩:=Zp (A4 _ (Zm (AA8 A3 A5)).symm);dsimp only at Ba;refine ADk Ac (AW4 (H7.ext Ac.x) Ch) fun D0 D1 Af=>Zk (ABj rfl rfl (ABj rfl rfl (AAi (AA3 (Zk (ACc rfl rfl (Zr (⟨_,rfl,fun Bb=>?_,fun Bb=>?_⟩))))))))
  ·refine Zn (Zv (Zy (AAc ?_)));obtain rfl:=Zm (AA7 Ba Bb);exact ⟨_,Zz,Af.x,rfl⟩
  ·refine Zx (q_t (Zn (Zk (AEy ATz AE6 (Af.b p0) 1 rfl (Zk ?_)))));obtain ⟨⟨D2,D3⟩,Ci,By⟩:=Zp (AA8 Ba Bb);dsimp only at By;refine AMx rfl (ARl (H2.ext Af.x) (H7.ext Af.x) Ci) fun D4 D5 Cj Ck=>?_;obtain ⟨D6,D7,D8,D9,rfl,Cm,Cn⟩:=Ck;refine Zk (ABj rfl rfl (ABj rfl rfl (AAi (Zv (Zo (Zn (Zk ?_)))))));have Bc:=Af.no2 Cj Cn Cm;refine ABe AAn rfl (Bc.o2 p0).rd (Zk (Zr (Zt (AHm 1329227995784915870597964051067142208 By (fun x=>[(61,(.int .i64 x))]) (fun x=>Bc.L) Bc ⟨rfl,trivial⟩ ?_))));rintro Ag Ea Be Eb Aa Bf Ah;unfold APz at Bf;refine Zn (AAy rfl rfl (Zr (Zo (⟨_,rfl,fun Bg=>?_,fun Bg=>?_⟩))))
   ·refine Zx (q_t (Zo (Zt (Zn (Zk ?_)))));obtain ⟨Ec,Bz,Co⟩:=Zp (AA7 Bf Bg);refine AB2 AAn AA1 (Aa.o2 p0) Bz fun _ Ed Am=>AAi (Zv ?_);obtain ⟨Cp,Cq,Bh⟩:=Zp Co;refine AI8 77371178668359972342988864 (fun x:Unit=>[]) (fun x h'=>(Sum.inr <| ())=Cp/\Kst h h' (Aa.L)) ?_ ?_
    ·refine Zo (ACb (fun h'=>UpT [] Be h') Zw ?_);have Ad:UpT [] Be Be:=UpT.start all_nil;refine Zk (Zk ?_);obtain ⟨Ee,Ao,Cr⟩:=Zp Cq;obtain ⟨Ct,Ap,B1⟩:=Zp Cr;refine AEa (m:=Ag) AAj rfl (Aa.o2 p0) Am Ao rfl Ap fun Ef Cu=>?_;obtain ⟨Eg,Cv,Cw⟩:=(Aa.o2 p0).cells Cu Ao Ap;obtain rfl:=Cv;refine AB8 AAt rfl Ad (fun h' hb=>AAu (Cw 0 _ rfl) hb.ext) (ACc rfl rfl (Zk ?_));by_cases Aq:Ct=0
     ·rw [decide_eq_true Aq];refine AE5 71 true (AE5 71 true (AH3 71 true (AAd rfl (Zr (AAl rfl (Zn (Zv ?_)))))));obtain rfl:=Zm (ifT B1 Aq);refine Zy (AAc (ABp (AAc (AAc (ABp (AAc ?_))))));obtain rfl:=Zm (Ah _ (Zm Bh).symm);exact ⟨_,Zz,Aa.x,rfl⟩
     ·rw [decide_eq_false Aq];refine AAk 71 false (ACz AMv rfl (AAk 71 false (AB8 ATf rfl Ad (fun h' hb=>((Aa.b p1).ext hb.ext).cell (i:=2) rfl) (AAk 71 false (Zk (AAk 71 false ?_))))));obtain ⟨Eh,Cx,Cy⟩:=Zp (ifF B1 Aq);refine AJb (c:=AR1) ASq rfl Ay rfl Cx fun Ei Ej Ek Cz C0=>?_;obtain rfl:=Cz;refine AAk 71 false (APk (c:=AR1) (h0:=h) ANk rfl rfl Ad (fun h' hb j u hu=>AAu (C0 j u hu) (Aa.x.trans hb.ext)) (AAk 71 false (Zk (AAk 71 false (Zk (AAk 71 false (AEa (m:=Ag) AAj rfl (Aa.o2 p0) Am Ao rfl Ap fun El C1=>AAk 71 false ?_)))))));obtain ⟨Em,C2,C3⟩:=(Aa.o2 p0).cells C1 Ao Ap;obtain rfl:=C2;refine AB8 AAt rfl Ad (fun h' hb=>AAu (C3 0 _ rfl) hb.ext) (AAk 71 false (ACz AOs rfl (AAk 71 false (AB8 AAt rfl Ad (fun h' hb=>((Aa.b p1).ext hb.ext).cell (i:=0) rfl) (AAk 71 false ?_)))));obtain ⟨En,C4,B3⟩:=Zp Cy;refine Aaf Aa Ad (ANa C4) fun Eo Ep B4 Er=>AAk 71 false (Aqa Zw rfl rfl (Atm _ _ _ _ _ _ _ _ _ _) (AAo rfl (Zr (⟨_,rfl,fun Bi=>?_,fun Bi=>?_⟩))))
      ·refine Zn (Zv ?_);obtain rfl:=Zm (ifT B3 Bi);refine Zy (AAc (ABp (AAc (AAc (ABp (AAc ?_))))));obtain rfl:=Zm (Ah _ (Zm Bh).symm);exact ⟨_,Zz,B4.x,rfl⟩
      ·refine Zx (q_t ?_);exact ⟨(():Unit),⟨Zm (AH9 B3 Bi),B4⟩,trivial⟩
    rintro ⟨⟩ Es Et ⟨C5,Ab⟩;subst C5;obtain ⟨C6,B5,B6⟩:=Zp Bh;refine AI8 20282332232399215087680070090816 (fun x:Unit=>[]) (fun x h'=>(Sum.inr <| ())=C6/\Kst h h' (Ab.L)) ?_ ?_
    ·refine Zo (AGh (Zk (AGz rfl rfl (Zk ?_))));by_cases Ar:0 < Ag
     ·rw [decide_eq_true Ar];refine AAk 88 true (ACz AMv rfl (AAk 88 true (AA6 ATf rfl ((Ab.b p1).cell (i:=2) rfl) (AAk 88 true (Zk (AAk 88 true ?_))))));obtain ⟨Eu,C7,C8⟩:=Zp (ifT B5 Ar);refine AJb (c:=AR1) ASq rfl Ay rfl C7 fun Ev Ew Ey C9 Da=>?_;obtain rfl:=C9;refine AAk 88 true (ACz AKs rfl (AAk 88 true (AA6 ABt rfl (AAu (Da 0 _ rfl) Ab.x) (AAk 88 true (ACz AMv rfl (AAk 88 true (AA6 ATf rfl ((Ab.b p1).cell (i:=2) rfl) (AAk 88 true (Zk (AAk 88 true (AE4 rfl rfl (AAk 88 true ?_))))))))))));obtain ⟨Ez,Db,B7⟩:=Zp C8;refine AJb (c:=AR1) ASq rfl Ay rfl Db fun Fa Fb Fc Dc Dd=>?_;obtain rfl:=Dc;refine AAk 88 true (ACz AKs rfl (AAk 88 true (AA6 ABt rfl (AAu (Dd 0 _ rfl) Ab.x) (AAk 88 true (AAy rfl rfl (AAd rfl (Zr (⟨_,rfl,fun Bj=>?_,fun Bj=>?_⟩))))))))
      ·refine Zn (Zv ?_);obtain rfl:=Zm (AA7 B7 Bj);refine Zy (AAc (ABp (AAc (AAc (ABp (AAc ?_))))));obtain rfl:=Zm (Ah _ (Zm B6).symm);exact ⟨_,Zz,Ab.x,rfl⟩
      ·refine Zx (q_t ?_);exact ⟨(():Unit),⟨Zm (AA8 B7 Bj),Ab⟩,trivial⟩
     ·rw [decide_eq_false Ar];refine AE5 88 false (AE5 88 false (APd 88 false (AAo rfl (Zr (AAq rfl (Zx (q_t ?_)))))));exact ⟨(():Unit),⟨Zm (ifF B5 Ar),Ab⟩,trivial⟩
    rintro ⟨⟩ Fd Fe ⟨De,Bl⟩;subst De;refine Zn (Zk (ABr AAj rfl ((Bl.o2 p0).rowI Am Bz) (Zk (Zr (Zt (AHm 664532868254043329770207741135421504 B6 (fun x=>[(106,(.int .i64 x))]) (fun x=>Bl.L) Bl ⟨rfl,trivial⟩ ?_))))));rintro Df Ff Fg Fh Ai Bm B8;unfold APy at Bm;refine Zn (AAy rfl rfl (Zr (Zo (⟨_,rfl,fun Bn=>?_,fun Bn=>?_⟩))))
    ·refine Zx (q_t (Zo (Zt (Zn (Zk ?_)))));obtain ⟨Fi,Dg,Dh⟩:=Zp (AA7 Bm Bn);obtain ⟨Fj,Di,B9⟩:=Zp Dh;refine AH5 (m:=Ag) AAj AAt (Ai.o2 p0) Am Dg Di fun _=>(AAi (AA3 (Zk (Zk (ADc rfl rfl (Zk ?_))))));by_cases Au: ¬ Df=Ag
     ·have Ca:=ifT B9 Au;rw [decide_eq_true Au];refine AAk 114 true (Zk (AAk 114 true (ADc rfl rfl (AAd rfl (Zr (⟨_,rfl,fun Bo=>?_,fun Bo=>?_⟩))))))
      ·refine Zn (Zv (Zy (ABp (AAc (AAc (ABp (ABp (AAc (AAc (ABp (AAc ?_)))))))))));obtain rfl:=Zm (Ah _ (Zm (B8 _ (Zm (AA7 Ca Bo)).symm)).symm);exact ⟨_,Zz,Ai.x,rfl⟩
      ·refine Zx (q_b (q_t (Z1 (AAz rfl rfl (Zk (Zr ?_))))));exact ⟨_,(Zm (AA8 Ca Bo)).symm,Ai,rfl,trivial⟩
     ·rw [decide_eq_false Au];refine AHi 114 false (AAo rfl (Zr (AAq rfl (Zx (q_b (q_t (Z1 (AAz rfl rfl (Zk (Zr ?_))))))))));exact ⟨_,(Zm (ifF B9 Au)).symm,Ai,rfl,trivial⟩
    ·refine AAe (AAf (AAf (ABk (q_b (q_t (Z1 (AAz rfl rfl (Zk (Zr ?_)))))))));exact ⟨_,(Zm (B8 _ (Zm (AA8 Bm Bn)).symm)).symm,Ai,rfl,trivial⟩
   ·refine AAe (AAf (AAf (ABk (q_t (Zn (Zv (Zy ?_)))))));obtain rfl:=Zm (Ah _ (Zm (AA8 Bf Bg)).symm);exact ⟨_,Zz,Aa.x,rfl⟩
noncomputable def AP1 (fuel:Nat) (a3 a8:LiI) (Aa:Int):Option ((Int) ⊕ ((Int) ⊕ (Unit))):=
  (if Aa < (a8.length:Int) then ((gI a8 Aa).bind fun Ad=>(if ¬ (Ad.length:Int)=(a3.length:Int) then (some (Sum.inr<| Sum.inl <| 3)) else (some (Sum.inl (w64 (Aa + 1)))))) else (some (Sum.inr<| Sum.inr <| ())))
noncomputable def AL4 (fuel:Nat) (a3:LiI) (a5:Int) (a8:LiI) (Ad:(List AK7)):Option Int:=
  ((AO8 fuel a3).bind fun Ae=>(if (!Ae)=true then (some 6) else ((ALe fuel a5).bind fun Af=>(if (!Af)=true then (some 20) else (((if ¬ (a8.length:Int)=(a3.length:Int) then (some (Sum.inl <| 3)) else (if ¬ (Ad.length:Int)=(a3.length:Int) then (some (Sum.inl <| 3)) else (some (Sum.inr <| ())))):Option ((Int) ⊕ (Unit))).bind (fun ex=>match ex with | Sum.inl Ag=>(some Ag) | Sum.inr (_)=>((iter (fun s=>AP1 fuel a3 a8 s) fuel 0).bind (fun ex=>match ex with | Sum.inl Ah=>(some Ah) | Sum.inr (_)=>((AC7 fuel a3 a5).bind fun Ai=>((AHq fuel a5 Ai).bind fun Aj=>((AOl fuel a3 a5 a8 Ad Aj).bind fun Ak=>(if (!Ak)=true then (some 10) else (some 0)))))))))))))
theorem AU3 {fuel:Nat} {h:Zs} {A4:Value} {a3:LiI} {a5:Int} {Ad:Value} {a8:LiI} {Ae:Value} {A5:(List AK7)} {r:Int} (H2:AEq (cI .i64) h A4 a3) (H7:AEq (cI .i64) h Ad a8) (A6:SlC AR1 h Ae A5) (HO:AS8 h) (hp:AL4 fuel a3 a5 a8 A5=some r):AAs Tryz.prog 11 #[A4,(.agg #[(.int .i64 a5),Ad,Ae])] h (fun x h'=>Ext h h'/\x= .int .i64 r):=by
 unfold AL4 at hp;refine cwf (l:=[_,_]) Tryz.func11 rfl rfl (Zn (AHg (Kst.k0 h) [(.int .i64 a5),Ad,Ae] fun Bx By Bz A7=>Zv (Zo (Zn (Zk ?_)))));obtain ⟨B1,Bh,A8⟩:=Zp hp;refine ADk A7 (AUy (H2.ext A7.x) Bh) fun B3 B4 Ah=>ADp rfl (Zr (⟨_,rfl,fun Ap=>?_,fun Ap=>?_⟩))
 ·refine Zn (Zv (Zy (AAc ?_)));obtain rfl:=Zm (ifT A8 Ap);exact ⟨_,Zz,Ah.x,rfl⟩
 ·refine Zx (q_t (Zo (Zn (AEy AOs AAt (Ah.b p0) 0 rfl ?_))));obtain ⟨B5,Bi,A9⟩:=Zp (AH9 A8 Ap);refine ADk Ah (AQk (HO.ext Ah.x) Bi) fun B6 B7 Ab=>ADp rfl (Zr (⟨_,rfl,fun Aq=>?_,fun Aq=>?_⟩))
  ·refine Zn (Zv (Zy (AAc ?_)));obtain rfl:=Zm (ifT A9 Aq);exact ⟨_,Zz,Ab.x,rfl⟩
  ·refine Zx (q_t (Zn (Zk (ABe AAn rfl H2 (Zv ?_)))));obtain ⟨Bj,Ba,Ar⟩:=Zp (AH9 A9 Aq);refine AI8 536739856 (fun x:Unit=>[]) (fun x h'=>(Sum.inr <| ())=Bj/\Kst h h' (Ab.L)) ?_ ?_
   ·refine Zn (AEy ATz AE6 (Ab.b p0) 1 rfl (ABe AAn rfl H7 (Zk (ADc rfl rfl (Zk ?_)))));by_cases Ai: ¬ (a8.length:Int)=(a3.length:Int)
    ·rw [decide_eq_true Ai];refine AE5 22 true (AAd rfl (Zr (AAl rfl (Zn (Zv ?_)))));obtain rfl:=Zm (ifT Ba Ai);refine Zy (AAc ?_);obtain rfl:=Zm Ar;exact ⟨_,Zz,Ab.x,rfl⟩
    ·have Bb:=ifF Ba Ai;rw [decide_eq_false Ai];refine AAk 22 false (ACz AMv rfl (AAk 22 false (AA6 ATf rfl ((Ab.b p0).cell (i:=2) rfl) (AAk 22 false (ABr ASq rfl A6 (AAk 22 false (Zk (AAk 22 false (ADc rfl rfl (AAo rfl (Zr (⟨_,rfl,fun Au=>?_,fun Au=>?_⟩))))))))))))
     ·refine Zn (Zv ?_);obtain rfl:=Zm (AA7 Bb Au);refine Zy (AAc ?_);obtain rfl:=Zm Ar;exact ⟨_,Zz,Ab.x,rfl⟩
     ·refine Zx (q_t ?_);exact ⟨(():Unit),⟨Zm (AA8 Bb Au),Ab⟩,trivial⟩
   rintro ⟨⟩ B8 B9 ⟨Bl,Av⟩;subst Bl;refine Zo (Zn (AEy ATz AE6 (Av.b p0) 1 rfl (ABe AAn rfl H7 (Zk (Zr (Zt (AHm 2194728288400 Ar (fun x=>[(32,(.int .i64 x))]) (fun x=>Av.L) Av ⟨rfl,trivial⟩ ?_)))))));rintro Ca Cb Aw Cd Aa Ax Bc;unfold AP1 at Ax;refine Zn (AAy rfl rfl (Zr (Zo (⟨_,rfl,fun Ay=>?_,fun Ay=>?_⟩))))
   ·refine Zx (q_t (Zo (Zt (Zn ?_))));obtain ⟨Ce,Bm,Be⟩:=Zp (AA7 Ax Ay);refine AJw AAn AA1 H7 Aa.x Bm fun _ Cf Bn=>AA3 (Zk (ABr AAj rfl Bn (Zk (ADc rfl rfl (Zr (⟨_,rfl,fun Az=>?_,fun Az=>?_⟩))))))
    ·refine Zn (Zv (Zy (ABp (AAc (AAc (ABp (AAc ?_)))))));obtain rfl:=Zm (Bc _ (Zm (AA7 Be Az)).symm);exact ⟨_,Zz,Aa.x,rfl⟩
    ·refine Zx (q_b (q_t (Z1 (AAz rfl rfl (Zk (Zr ?_))))));exact ⟨_,(Zm (AA8 Be Az)).symm,Aa,rfl,trivial⟩
   ·refine AAe (AAf (AAf (ABk (q_t (Zo (Zo (ACb (fun h'=>UpT [] Aw h') Zw ?_)))))));have Aj:UpT [] Aw Aw:=UpT.start all_nil;refine Zk (AGx [(.int .i64 a5),Ad,Ae] AMu rfl rfl Aj (fun h' hb=>((Aa.b p0).ext hb.ext).agg) (ACz AOs rfl (AB8 AAt rfl Aj (fun h' hb=>((Aa.b p0).ext hb.ext).cell (i:=0) rfl) (Zk (ACz AOs rfl (AB8 AAt rfl Aj (fun h' hb=>((Aa.b p0).ext hb.ext).cell (i:=0) rfl) ?_))))));obtain ⟨Cg,Bo,Bp⟩:=Zp (Bc _ (Zm (AA8 Ax Ay)).symm);refine Aaf Aa Aj (AHw (H2.ext Aa.x) (HO.ext Aa.x) Bo) fun Ch Ci Bq Br=>?_;obtain ⟨Cj,Bt,Bu⟩:=Zp Bp;refine Aaf Bq Br (AM3 Bt) fun Ck Cm Ak Bv=>?_;obtain ⟨Cn,Bw,Bf⟩:=Zp Bu;refine Aaf Ak Bv (AU2 (H2.ext Ak.x) (H7.ext Ak.x) (A6.ext Ak.x) Bw) fun Co Cp Bg Cq=>ADp rfl (Zr (⟨_,rfl,fun A3=>?_,fun A3=>?_⟩))
    ·refine Zn (Zv (Zy (AAc ?_)));obtain rfl:=Zm (ifT Bf A3);exact ⟨_,Zz,Bg.x,rfl⟩
    ·refine Zx (q_t (Zn (Zv (Zy ?_))));obtain rfl:=Zm (AH9 Bf A3);exact ⟨_,Zz,Bg.x,rfl⟩
def AKz (fuel:Nat) (a3 a7:(List AH8)) (Ac:Int):Option ((Int) ⊕ ((Bool) ⊕ (Unit))):=
  (if Ac < (a3.length:Int) then ((gI a3 Ac).bind fun Aa=>((gI a7 Ac).bind fun Ab=>(if (!(decide ((Aa.1,Aa.2.1,Aa.2.2.1,Aa.2.2.2.1,Aa.2.2.2.2)=(Ab.1,Ab.2.1,Ab.2.2.1,Ab.2.2.2.1,Ab.2.2.2.2))))=true then (some (Sum.inr<| Sum.inl <| false)) else (some (Sum.inl (w64 (Ac + 1))))))) else (some (Sum.inr<| Sum.inr <| ())))
def AIz (fuel:Nat) (a3 a7:(List AH8)):Option Bool:=
  (if ¬ (a3.length:Int)=(a7.length:Int) then (some false) else ((iter (fun s=>AKz fuel a3 a7 s) fuel 0).bind (fun ex=>match ex with | Sum.inl Ac=>(some Ac) | Sum.inr (_)=>(some true))))
theorem AO1 {fuel:Nat} {h:Zs} {Ah:Value} {a3:(List AH8)} {Aj:Value} {a7:(List AH8)} {r:Bool} (H2:SlC AN1 h Ah a3) (H6:SlC AN1 h Aj a7) (hp:AIz fuel a3 a7=some r):AAs Tryz.prog 44 #[Ah,Aj] h (fun x h'=>Ext h h'/\x= .bool r):=by
 unfold AIz at hp;refine cwf (l:=[_,_]) Tryz.func44 rfl rfl (Zn (Zv (Zo (Zn (Zk (ABr ASr rfl H2 (Zk (ABr ASr rfl H6 (ADc rfl rfl (Zr ?_))))))))));have K0:=Kst.k0 h;refine ⟨_,rfl,fun Ad=>?_,fun Ad=>?_⟩
 ·refine Zn (Zv (Zy (AAc ?_)));obtain rfl:=Zm (AA7 hp Ad);exact ⟨_,Zz,K0.x,rfl⟩
 ·refine Zx (q_t (Zo (Zn (Zk (ABr ASr rfl H2 (Zk (Zr (Zt (AHm 67100720 (AA8 hp Ad) (fun x=>[(13,(.int .i64 x))]) (fun x=>K0.L) K0 ⟨rfl,trivial⟩ ?_)))))))));rintro Az A3 A4 A5 Aa Ae Ao;unfold AKz at Ae;refine Zn (AAy rfl rfl (Zr (Zo (⟨_,rfl,fun Af=>?_,fun Af=>?_⟩))))
  ·refine Zx (q_t (Zo (Zt (Zn (Zk (Zv (Zo (AGh (Zk (Zk ?_))))))))));obtain ⟨A6,Aq,Ar⟩:=Zp (AA7 Ae Af);refine AJb (c:=AN1) ASr rfl H2 rfl Aq fun A7 A8 A9 Au Av=>?_;obtain rfl:=Au;refine ANh (c:=AN1) Abc rfl rfl (fun j u hu=>(AAu (Av j u hu) Aa.x)) (Zk (Zk ?_));obtain ⟨Ba,Aw,Ap⟩:=Zp Ar;refine AJb (c:=AN1) ASr rfl H6 rfl Aw fun Bb Bc Be Ax Ay=>?_;obtain rfl:=Ax;refine ANh (c:=AN1) Abc rfl rfl (fun j u hu=>(AAu (Ay j u hu) Aa.x)) (Aqa Zw rfl rfl (Atn _ _ _ _ _ _ _ _ _ _) (Zr (⟨_,rfl,fun Ag=>?_,fun Ag=>?_⟩)))
   ·refine Zn (Zv (Zy (ABp (AAc (AAc (ABp (AAc ?_)))))));obtain rfl:=Zm (Ao _ (Zm (ifT Ap Ag)).symm);exact ⟨_,Zz,Aa.x,rfl⟩
   ·refine Zx (q_b (q_t (Z1 (AAz rfl rfl (Zk (Zr ?_))))));exact ⟨_,(Zm (AH9 Ap Ag)).symm,Aa,rfl,trivial⟩
  ·refine AAe (AAf (AAf (ABk (q_t (Zn (Zv (Zy ?_)))))));obtain rfl:=Zm (Ao _ (Zm (AA8 Ae Af)).symm);exact ⟨_,Zz,Aa.x,rfl⟩
end Go.Proofs.YtdkldlbgcfpglaaGreatDoor
namespace Go.Proofs.YtdkldlbgcfpglaaGreatDoor
open Go Go.QF
set_option maxRecDepth 100000
theorem ALn {p:Int} (hp:1<=p) {a b:Nat} (h:a<=b):p ^ a<=p ^ b:=by
 obtain ⟨c,rfl⟩:∃ c,b=a + c:=⟨b - a,Zj⟩;rw [Int.pow_add];have h1:0 < p ^ a:=Int.pow_pos Zj;have h2:0 < p ^ c:=Int.pow_pos Zj;have:=Int.mul_le_mul_of_nonneg_left (show 1<=p ^ c by omega) (Int.le_of_lt h1);omega
theorem AV1 {p:Int} {k:Nat} (hp:2<=p) (h:p ^ k<=2147483647):k<=30:=by
 rcases Nat.lt_or_ge 30 k with h1 | h1
 ·exfalso;have h2:=ALn (p:=p) Zj (show 31<=k by omega);have h3:(2:Int) ^ 31<=p ^ 31:=AJ9 Zj hp 31;have h5:(2:Int) ^ 31=2147483648:=by decide
  omega
 ·exact h1
theorem Af4 {fuel:Nat} {p:Int} {k:Nat} (hp:2<=p) (h:p ^ k<=2147483647) (hf:100 < fuel):AHq fuel p k=some (p ^ k):=by
 have hk:=AV1 hp h;apply ok_eq;unfold AHq;refine Zu (ABd (fun i s=>s=(p ^ i,(i:Int))/\i<=k) k (Q:=(· =p ^ k)) ⟨AAx,Zj⟩ Zj fun i s hi hI=>?_) fun e he=>Zq he;obtain ⟨rfl,hik⟩:=hI;unfold AM2;dsimp only;refine AAw (fun h2=>Zq ⟨Zj,?_,Zj⟩) fun h2=>Zq ?_
 ·have h3:=ALn (p:=p) Zj (show i + 1<=k by omega);have h4:0 < p ^ (i + 1):=Int.pow_pos Zj;rw [show p ^ i * p=p ^ (i + 1) from (Int.pow_succ p i).symm,wk Zj,AGw Zj]
 ·obtain rfl:i=k:=by omega
  rfl
def IsB (p x:Int) (b:AK7):Prop:= ∃ (e:Nat) (u:Int),b=((e:Int),1,u,0,0)/\x=u * p ^ e/\¬ p ∣ u
theorem Ass {p x:Int} {b c:AK7} (hp:2<=p) (hb:IsB p x b) (hc:IsB p x c):b=c:=by
 obtain ⟨e,u,rfl,h1,h2⟩:=hb;obtain ⟨f,v,rfl,h3,h4⟩:=hc;have he:=AX4 hp ⟨e,u,rfl,h1,h2⟩ ⟨f,v,rfl,h3,h4⟩;obtain rfl:e=f:=by omega
 have:u=v:=Int.eq_of_mul_eq_mul_right (Int.pow_ne_zero (show p≠0 by omega)) (h1.symm.trans h3);rw [this]
theorem Aep {fuel:Nat} {x p:Int} (hp:2<=p) (Ad:p<=9973) (hx:0 < x) (Ae:x<=2147483647) (hf:100 < fuel):Ok (AHs fuel x p) (IsB p x):=by
 unfold AHs;refine Zu (ABd (fun i s=> ∃ r:Int,s=((i:Int),r)/\0 < r/\x=r * p ^ i) 31 (Q:=fun e=> ∃ (k:Nat) (u:Int),e=((k:Int),u)/\x=u * p ^ k/\¬ p ∣ u) ⟨x,rfl,Zj,AAx⟩ Zj fun i s hi hI=>?_) fun e he=>?_
 ·obtain ⟨r,rfl,hr,hdr⟩:=hI;have hpi:0 < p ^ i:=Int.pow_pos Zj;have hpx:1 * p ^ i<=r * p ^ i:=Int.mul_le_mul_of_nonneg_right Zj Zj;have Af:=AV1 (k:=i) hp Zj;have hrd:r * 1<=r * p ^ i:=Int.mul_le_mul_of_nonneg_left Zj Zj;unfold AM9;dsimp only;refine ABs Zj (AAw (fun h=>ABs Zj ?_) fun h=>Zq ⟨i,r,rfl,hdr,fun h3=>h (Int.tmod_eq_zero_of_dvd h3)⟩);obtain ⟨q,rfl⟩:p ∣ r:=Int.dvd_of_tmod_eq_zero h;have hq:0 < q:=Int.pos_of_mul_pos_right hr Zj;have hqr:1 * q<=p * q:=Int.mul_le_mul_of_nonneg_right Zj Zj;refine Zq ⟨Zj,q,?_,hq,by rw [hdr,Int.pow_succ];grind⟩;rw [Int.mul_tdiv_cancel_left _ Zj,ACf (x:=q) Zj Zj,AGw Zj]
 ·obtain ⟨k,u,rfl,h1,h2⟩:=he;exact Zq ⟨k,u,rfl,h1,h2⟩
def Asc (L:List AK7) (i:Nat):Prop:=0 < i-> ∀ b c,L[i]? =some b->L[i - 1]? =some c->c.1<=b.1
end Go.Proofs.YtdkldlbgcfpglaaGreatDoor
namespace Go.Proofs.YtdkldlbgcfpglaaGreatDoor
open Go Go.QF
structure Eli (n K:Nat) (p:Int) (H T G:Z4):Prop where
  c:Car n K p H T G
  d:Eqm (p ^ K) (det n T * det n T) 1
theorem AV2 {n:Nat} {m:Int} {A A' B B':Z4} {i j:Nat} (hA:∀ k,k < n->Eqm m (A i k) (A' i k)) (hB:∀ k,k < n->Eqm m (B k j) (B' k j)):Eqm m (ACj n A B i j) (ACj n A' B' i j):=Eqm.psum fun k hk=>(hA k hk).mul (hB k hk)
theorem Eli.step {n K:Nat} {p:Int} {H T G E T' G':Z4} (S:Eli n K p H T G) (hE:det n E * det n E=1) (hT:∀ i j,i < n->j < n->Eqm (p ^ K) (T' i j) (ACj n T E i j)) (hG:∀ i j,i < n->j < n->Eqm (p ^ K) (G' i j) (ACj n (trF E) (ACj n G E) i j)):Eli n K p H T' G':=by
 refine ⟨fun i j hi hj=>?_,?_⟩
 ·have h1:Eqm (p ^ K) (ACj n (trF T') (ACj n H T') i j) (ACj n (trF (ACj n T E)) (ACj n H (ACj n T E)) i j):=AV2 (fun k hk=>hT k i hk hi) fun k hk=>AV2 (fun l hl=>Eqm.refl _ _) fun l hl=>hT l j hl hj;refine h1.trans (Eqm.trans (Eqm.of_eq ?_) ((AV2 (fun k hk=>Eqm.refl _ _) fun k hk=>AV2 (fun l hl=>S.c k l hk hl) fun l hl=>Eqm.refl _ _).trans (hG i j hi hj).symm));rw [AL7 (fun k hk=>AX2 i k) (fun k hk=>rfl),AL6];refine AL7 (fun _ _=>rfl) fun k hk=>?_;rw [AL6];refine AL7 (fun _ _=>rfl) fun l hl=>?_;rw [AL6]
 ·have h1:Eqm (p ^ K) (det n T') (det n T * det n E):=by rw [<- ASg];exact Ahd hT
  refine (h1.mul h1).trans (Eqm.trans (Eqm.of_eq ?_) S.d);rw [show det n T * det n E * (det n T * det n E)=det n T * det n T * (det n E * det n E) by grind,hE,Int.mul_one]
theorem Ast {n K:Nat} {p:Int} {H G:Z4} (hG:∀ i j,i < n->j < n->Eqm (p ^ K) (G i j) (H i j)):Eli n K p H dl G:=by
 refine ⟨fun i j hi hj=>?_,by rw [AWq];exact Eqm.refl _ _⟩
 ·refine Eqm.trans (Eqm.of_eq ?_) (hG i j hi hj).symm;exact (Ahq (n:=n) (A:=H) i j hi hj).symm
def Af5 (j k:Nat) (c:Int):Z4:=ABz dl k fun x=>dl k x + c * dl j x
theorem Am6 (j k:Nat) (c:Int) (a b:Nat):Af5 j k c a b=dl a b + (if a=k then c * dl j b else 0):=by
 unfold Af5;rw [AA4];by_cases h:a=k
 ·subst h;rw [if_pos rfl,if_pos rfl]
 ·rw [if_neg h,if_neg h];simp
theorem Am7 {n j k:Nat} {c:Int} (hj:j < n) (hk:k < n) (hne:k≠j):det n (Af5 j k c) * det n (Af5 j k c)=1:=by
 unfold Af5;rw [ALb hk hj hne,AWq];rfl
theorem AV3 {n j k:Nat} {c:Int} {T:Z4} {a b:Nat} (hk:k < n) (hb:b < n):ACj n T (Af5 j k c) a b=T a b + (if b=j then c * T a k else 0):=by
 unfold ACj
 rw [AA2 (g:=fun l=>T a l * dl l b + (if l=k then T a k * (c * dl j b) else 0)) fun l _=>by
   rw [Am6];by_cases h:l=k
   · subst h;rw [if_pos rfl,if_pos rfl];grind
   · rw [if_neg h,if_neg h];simp,ALa,Afo hb,ANv hk fun l _ hne=>if_neg hne,if_pos rfl]
 unfold dl;by_cases h:b=j
 ·subst h;rw [if_pos rfl,if_pos rfl];grind
 ·rw [if_neg h,if_neg fun h2=>h h2.symm];simp
theorem Apw {n j k:Nat} {c:Int} {M:Z4} {a b:Nat} (hk:k < n) (ha:a < n):ACj n (trF (Af5 j k c)) M a b=M a b + (if a=j then c * M k b else 0):=by
 have:=AV3 (T:=trF M) (j:=j) (c:=c) (a:=b) hk ha;rw [<- show trF (trF M)=M from rfl,<- AX2];exact this
theorem Eli.add {n K:Nat} {p:Int} {H T G T' G':Z4} {j k:Nat} {c:Int} (S:Eli n K p H T G) (hj:j < n) (hk:k < n) (hne:k≠j) (hT:∀ a b,a < n->b < n->Eqm (p ^ K) (T' a b) (T a b + if b=j then c * T a k else 0)) (hG:∀ a b,a < n->b < n->Eqm (p ^ K) (G' a b) (G a b + (if b=j then c * G a k else 0) + if a=j then c * (G k b + if b=j then c * G k k else 0) else 0)):Eli n K p H T' G':=
  S.step (Am7 hj hk hne) (fun a b ha hb=>by rw [AV3 hk hb];exact hT a b ha hb) fun a b ha hb=>by
    rw [Apw hk ha,AV3 hk hb,AV3 hk hb]
    exact hG a b ha hb
def sw2 (i j a:Nat):Nat:=if a=j then i else if a=i then j else a
theorem AU4 {n i j a:Nat} (hi:i < n) (hj:j < n) (ha:a < n):sw2 i j a < n:=by
 unfold sw2;by_cases h1:a=j
 ·rw [if_pos h1];exact hi
 ·rw [if_neg h1];by_cases h2:a=i
  ·rw [if_pos h2];exact hj
  ·rw [if_neg h2];exact ha
theorem Acb (i j a:Nat):sw2 i j (sw2 i j a)=a:=by
 unfold sw2;by_cases h1:a=j
 ·subst h1;rw [if_pos rfl];by_cases h2:i=a
  ·rw [if_pos h2,h2]
  ·rw [if_neg h2,if_pos rfl]
 ·rw [if_neg h1];by_cases h2:a=i
  ·subst h2;rw [if_pos rfl,if_pos rfl]
  ·rw [if_neg h2,if_neg h1,if_neg h2]
theorem Acd (i j a b:Nat):AEx dl i j a b=dl (sw2 i j a) b:=by
 rw [ALm];unfold sw2;by_cases h1:a=j
 ·rw [if_pos h1,if_pos h1]
 ·rw [if_neg h1,if_neg h1];by_cases h2:a=i
  ·rw [if_pos h2,if_pos h2]
  ·rw [if_neg h2,if_neg h2]
theorem Apx {n i j:Nat} (hi:i < n) (hj:j < n):det n (AEx dl i j) * det n (AEx dl i j)=1:=by
 by_cases h:i=j
 ·subst h
  rw [ABx (G:=dl) fun a b _ _=>by
    rw [Acd];unfold sw2;by_cases h:a=i
    · rw [if_pos h,h]
    · rw [if_neg h,if_neg h],AWq];rfl
 ·rw [APs hi hj h,AWq];rfl
theorem Ace {n i j:Nat} {T:Z4} {a b:Nat} (hi:i < n) (hj:j < n) (hb:b < n):ACj n T (AEx dl i j) a b=T a (sw2 i j b):=by
 unfold ACj;rw [ANv (AU4 hi hj hb) fun k _ hne=>?_]
 ·rw [Acd,Acb];unfold dl;rw [if_pos rfl];simp
 ·rw [Acd];unfold dl;rw [if_neg fun h=>hne (by rw [<- h,Acb])];simp
theorem Asu {n i j:Nat} {M:Z4} {a b:Nat} (hi:i < n) (hj:j < n) (ha:a < n):ACj n (trF (AEx dl i j)) M a b=M (sw2 i j a) b:=by
 have:=Ace (T:=trF M) (a:=b) hi hj ha;rw [<- show trF (trF M)=M from rfl,<- AX2];exact this
theorem Eli.swap {n K:Nat} {p:Int} {H T G T' G':Z4} {i j:Nat} (S:Eli n K p H T G) (hi:i < n) (hj:j < n) (hT:∀ a b,a < n->b < n->T' a b=T a (sw2 i j b)) (hG:∀ a b,a < n->b < n->G' a b=G (sw2 i j a) (sw2 i j b)):Eli n K p H T' G':=
  S.step (Apx hi hj) (fun a b ha hb=>by rw [Ace hi hj hb,hT a b ha hb];exact Eqm.refl _ _) fun a b ha hb=>by
    rw [Asu hi hj ha,Ace hi hj hb,hG a b ha hb];exact Eqm.refl _ _
theorem Eli.sym {n K:Nat} {p:Int} {H T G:Z4} (S:Eli n K p H T G) (hs:∀ i j,i < n->j < n->H i j=H j i) (hG:AUh n (p ^ K) G) {i j:Nat} (hi:i < n) (hj:j < n):G i j=G j i:=by
 refine Aiu ?_ (hG i j hi hj) (hG j i hj hi);refine (S.c i j hi hj).symm.trans (Eqm.trans (Eqm.of_eq ?_) (S.c j i hj hi));show psum (fun a=>T a i * psum (fun b=>H a b * T b j) n) n=psum (fun a=>T a j * psum (fun b=>H a b * T b i) n) n;rw [AA2 (g:=fun a=>psum (fun b=>T a i * (H a b * T b j)) n) fun a _=>(AE3 _ _ _).symm,AWo,AA2 (f:=fun a=>T a j * psum (fun b=>H a b * T b i) n) (g:=fun a=>psum (fun b=>T a j * (H a b * T b i)) n) fun a _=>(AE3 _ _ _).symm];refine AA2 fun a ha=>AA2 fun b hb=>?_;rw [hs b a hb ha];grind
theorem Eli.det {n K:Nat} {p:Int} {H T G:Z4} (S:Eli n K p H T G):Eqm (p ^ K) (QF.det n G) (QF.det n H):=by
 have h1:Eqm (p ^ K) (QF.det n G) (QF.det n (ACj n (trF T) (ACj n H T))):=Ahd fun i j hi hj=>(S.c i j hi hj).symm;refine h1.trans ?_;rw [ASg,ASg,AOi];refine Eqm.trans (Eqm.of_eq (show QF.det n T * (QF.det n H * QF.det n T)=QF.det n H * (QF.det n T * QF.det n T) by grind)) ?_;have:=(Eqm.refl (p ^ K) (QF.det n H)).mul S.d;rwa [Int.mul_one] at this
theorem Eli.some {n K k:Nat} {p:Int} {H T G:Z4} (S:Eli n K p H T G) (hd: ¬ p ^ K ∣ QF.det n H) (hk:k < n) (hz:∀ j,j < k->G k j=0):∃ j,k<=j/\j < n/\G k j≠0:=by
  refine Classical.byContradiction fun hn=>hd ?_
  have h0:QF.det n G=0:=ASf hk fun j hj=>Classical.byContradiction fun h=>hn ⟨j,by
    rcases Nat.lt_or_ge j k with hl | hl
    · exact absurd (hz j hl) h
    · exact hl,hj,h⟩
  have:=S.det;rw [h0] at this;exact Ab8.1 this.symm
def AO2 (q:Int) (j l:Nat) (c:Int) (T:Z4):Z4:=fun a b=>if b=j then (T a j + c * T a l) % q else T a b
def Am8 (q:Int) (j l:Nat) (c:Int) (G:Z4):Z4:=fun a b=>if a=j then (G j b + c * G l b) % q else G a b
def AU5 (q:Int) (j l:Nat) (c:Int) (G:Z4):Z4:=Am8 q j l c (AO2 q j l c G)
def swC (i j:Nat) (T:Z4):Z4:=fun a b=>T a (sw2 i j b)
def swG (i j:Nat) (G:Z4):Z4:=fun a b=>G (sw2 i j a) (sw2 i j b)
theorem ARr (q:Int) (j l:Nat) (c:Int) (G:Z4) (a b:Nat):AU5 q j l c G a b=if a=j then (if b=j then ((G j j + c * G j l) % q + c * ((G l j + c * G l l) % q)) % q else (G j b + c * G l b) % q) else if b=j then (G a j + c * G a l) % q else G a b:=by
 unfold AU5 Am8 AO2;by_cases h:a=j
 ·rw [if_pos h,if_pos h];by_cases h2:b=j
  ·rw [if_pos h2,if_pos h2,if_pos h2]
  ·rw [if_neg h2,if_neg h2,if_neg h2]
 ·rw [if_neg h,if_neg h]
theorem Ahx {d q x:Int} (hq:d ∣ q) (hx:d ∣ x):d ∣ x % q:=by
 rw [Int.emod_def];exact Int.dvd_sub hx (Int.dvd_trans hq ⟨_,rfl⟩)
theorem AO3 {q:Int} (hq:0 < q) (x:Int):0<=x % q/\x % q < q:=⟨Int.emod_nonneg _ Zj,Int.emod_lt_of_pos _ hq⟩
theorem AUc {n j l:Nat} {q c:Int} {T:Z4} (hq:0 < q) (h:AUh n q T):AUh n q (AO2 q j l c T):=fun a b ha hb=>by
  unfold AO2;split
  · exact AO3 hq _
  · exact h a b ha hb
theorem Ajk {n j l:Nat} {q c:Int} {G:Z4} (hq:0 < q) (h:AUh n q G):AUh n q (AU5 q j l c G):=fun a b ha hb=>by
  unfold AU5 Am8;split
  · exact AO3 hq _
  · exact AUc hq h a b ha hb
structure JS (n K:Nat) (p:Int) (H T G:Z4) (k E:Nat):Prop where
  rt:AUh n (p ^ K) T
  rg:AUh n (p ^ K) G
  e:Eli n K p H T G
  z:∀ i j,i < k->j < n->j≠i->G i j=0
  fl:∀ i j,k<=i->i < n->k<=j->j < n->p ^ E ∣ G i j
theorem JS.add {n K k E j l:Nat} {p c:Int} {H T G:Z4} (S:JS n K p H T G k E) (hq:0 < p ^ K) (hE:E<=K) (hj:k<=j) (hjn:j < n) (hl:k<=l) (hln:l < n) (hne:l≠j):JS n K p H (AO2 (p ^ K) j l c T) (AU5 (p ^ K) j l c G) k E:=by
 refine ⟨AUc hq S.rt,Ajk hq S.rg,?_,fun a b ha hb hba=>?_,fun a b ha han hb hbn=>?_⟩
 ·exact S.e.add (c:=c) hjn hln hne (fun a b ha hb=>by
    unfold AO2;by_cases h:b=j
    · subst h;rw [if_pos rfl,if_pos rfl];exact Eqm.mod _ _
    · rw [if_neg h,if_neg h,Int.add_zero];exact Eqm.refl _ _) fun a b ha hb=>by
    rw [ARr]
    by_cases h:a=j
    · subst h;rw [if_pos rfl,if_pos rfl];by_cases h2:b=a
      · subst h2;rw [if_pos rfl,if_pos rfl,if_pos rfl]
        exact (Eqm.mod _ _).trans ((Eqm.mod _ _).add ((Eqm.refl _ _).mul (Eqm.mod _ _)))
      · rw [if_neg h2,if_neg h2,if_neg h2,Int.add_zero,Int.add_zero];exact Eqm.mod _ _
    · rw [if_neg h,if_neg h,Int.add_zero];by_cases h2:b=j
      · subst h2;rw [if_pos rfl,if_pos rfl];exact Eqm.mod _ _
      · rw [if_neg h2,if_neg h2,Int.add_zero];exact Eqm.refl _ _
 ·rw [ARr,if_neg Zj];by_cases h:b=j
  ·subst h;rw [if_pos rfl,S.z a b ha hb hba,S.z a l ha hln Zj];simp
  ·rw [if_neg h];exact S.z a b ha hb hba
 ·have hd:p ^ E ∣ p ^ K:=AEo hE;have key:∀ x y,k<=x->x < n->k<=y->y < n-> ∀ u v,k<=u->u < n->k<=v->v < n->p ^ E ∣ (G x y + c * G u v) % p ^ K:=fun x y h1 h2 h3 h4 u v h5 h6 h7 h8=>Ahx hd (Int.dvd_add (S.fl x y h1 h2 h3 h4) (Int.dvd_trans (S.fl u v h5 h6 h7 h8) ⟨c,Int.mul_comm _ _⟩));rw [ARr];by_cases h:a=j
  ·rw [if_pos h];by_cases h2:b=j
   ·rw [if_pos h2];exact Ahx hd (Int.dvd_add (key j j hj hjn hj hjn j l hj hjn hl hln) (Int.dvd_trans (key l j hl hln hj hjn l l hl hln hl hln) ⟨c,Int.mul_comm _ _⟩))
   ·rw [if_neg h2];exact key j b hj hjn hb hbn l b hl hln hb hbn
  ·rw [if_neg h];by_cases h2:b=j
   ·rw [if_pos h2];exact key a j ha han hj hjn a l ha han hl hln
   ·rw [if_neg h2];exact S.fl a b ha han hb hbn
theorem Am9 {k i j a:Nat} (hi:k<=i) (hj:k<=j) (ha:k<=a):k<=sw2 i j a:=by
 unfold sw2;by_cases h1:a=j
 ·rw [if_pos h1];exact hi
 ·rw [if_neg h1];by_cases h2:a=i
  ·rw [if_pos h2];exact hj
  ·rw [if_neg h2];exact ha
theorem Acf {i j a:Nat} (hi:a≠i) (hj:a≠j):sw2 i j a=a:=by unfold sw2;rw [if_neg hj,if_neg hi]
theorem JS.swap {n K k E i j:Nat} {p:Int} {H T G:Z4} (S:JS n K p H T G k E) (hi:k<=i) (hin:i < n) (hj:k<=j) (hjn:j < n):JS n K p H (swC i j T) (swG i j G) k E:=by
 refine ⟨(fun a b ha hb=>S.rt a _ ha (AU4 hin hjn hb)),(fun a b ha hb=>S.rg _ _ (AU4 hin hjn ha) (AU4 hin hjn hb)),S.e.swap hin hjn (fun _ _ _ _=>rfl) fun _ _ _ _=>rfl,fun a b ha hb hba=>?_,(fun a b ha han hb hbn=>S.fl _ _ (Am9 hi hj ha) (AU4 hin hjn han) (Am9 hi hj hb) (AU4 hin hjn hbn))⟩
 ·unfold swG;rw [Acf (a:=a) Zj Zj];exact S.z a _ ha (AU4 hin hjn hb) fun h=>hba (by rw [<- Acb i j b,h,Acf Zj Zj])
theorem JS.pivot {n K k E i j:Nat} {p u:Int} {H T G:Z4} (S:JS n K p H T G k E) (hs:∀ i j,i < n->j < n->H i j=H j i) (hp:PrI p) (hp2: ¬ p ∣ 2) (hEK:E < K) (hi:k<=i) (hin:i < n) (hj:k<=j) (hjn:j < n) (hne:j≠i) (hu:G i j=u * p ^ E) (hpu: ¬ p ∣ u) (h1:p ^ (E + 1) ∣ G i i) (h2:p ^ (E + 1) ∣ G j j):∃ v,AU5 (p ^ K) i j 1 G i i=v * p ^ E/\¬ p ∣ v:=by
  have hq:0 < p ^ K:=Int.pow_pos (by have:=hp.1;omega);obtain ⟨v,hv⟩:=(S.add (c:=1) hq Zj hi hin hj hjn hne).fl i i hi hin hi hin;refine ⟨v,by rw [hv,Int.mul_comm],fun hd=>?_⟩
  have e1:Eqm (p ^ K) (AU5 (p ^ K) i j 1 G i i) (G i i + 1 * G i j + 1 * (G j i + 1 * G j j)):=by
    rw [ARr,if_pos rfl,if_pos rfl];exact (Eqm.mod _ _).trans ((Eqm.mod _ _).add ((Eqm.refl _ _).mul (Eqm.mod _ _)))
  rw [S.e.sym hs S.rg hjn hin] at e1;have e2:=AN4 (e1.down (AEo (p:=p) (show E + 1<=K by omega)));obtain ⟨w,rfl⟩:=hd;have h3:p ^ (E + 1) ∣ AU5 (p ^ K) i j 1 G i i:=⟨w,by rw [hv,Int.pow_succ];grind⟩
  have h4:p ^ (E + 1) ∣ 2 * G i j:=by
    have:2 * G i j=AU5 (p ^ K) i j 1 G i i - (AU5 (p ^ K) i j 1 G i i - (G i i + 1 * G i j + 1 * (G i j + 1 * G j j))) - G i i - G j j:=by omega
    rw [this];exact Int.dvd_sub (Int.dvd_sub (Int.dvd_sub h3 e2) h1) h2
  rw [hu,Int.pow_succ] at h4;obtain ⟨x,hx⟩:=h4;have hpE:p ^ E≠0:=AVx hp E;have:p ∣ 2 * u:=⟨x,Int.eq_of_mul_eq_mul_left hpE (by rw [show p ^ E * (2 * u)=2 * (u * p ^ E) by grind,hx];grind)⟩;exact (hp.2 _ _ this).elim hp2 hpu
theorem Af6 {K E:Nat} {p x d A v:Int} (hq:0 < p ^ K) (hp:0 < p) (hx:0<=x) (hxd:p ^ E ∣ x) (hd:d=A * p ^ E) (hv:Eqm (p ^ K) (v * A) 1):(x + ((p ^ K - (x / p ^ E * v) % p ^ K) % p ^ K) * d) % p ^ K=0:=by
  have h1:Eqm (p ^ K) ((p ^ K - (x / p ^ E * v) % p ^ K) % p ^ K) (0 - x / p ^ E * v):=(Eqm.mod _ _).trans (Eqm.sub (by unfold Eqm;simp) (Eqm.mod _ _));obtain ⟨y,rfl⟩:=hxd;rw [Int.mul_ediv_cancel_left _ (by have:=Int.pow_pos (n:=p) (m:=E) hp;omega)] at h1 ⊢;refine Eqm.zero (((Eqm.refl _ _).add (h1.mul (Eqm.refl _ d))).trans ?_);rw [hd];refine Eqm.trans (Eqm.of_eq (show p ^ E * y + (0 - y * v) * (A * p ^ E)=p ^ E * y - p ^ E * y * (v * A) by grind)) ?_;refine ((Eqm.refl _ _).sub ((Eqm.refl _ (p ^ E * y)).mul hv)).trans (Eqm.of_eq ?_);omega
theorem JS.next {n K k E:Nat} {p:Int} {H T G:Z4} (S:JS n K p H T G k E) (hs:∀ i j,i < n->j < n->H i j=H j i) (hk:k < n) (hz:∀ j,k < j->j < n->G k j=0):JS n K p H T G (k + 1) E:=by
  refine ⟨S.rt,S.rg,S.e,fun i j hi hj hne=>?_,(fun i j hi hin hj hjn=>S.fl i j Zj hin Zj hjn)⟩
  · rcases Nat.lt_or_ge i k with h | h
    · exact S.z i j h hj hne
    · obtain rfl:i=k:=by omega
      rcases Nat.lt_or_ge i j with h2 | h2
      · exact hz j h2 hj
      · rw [S.e.sym hs S.rg Zj hj];exact S.z j i Zj hk Zj
structure JL (n:Nat) (p:Int) (G:Z4) (L:List AK7) (k E:Nat):Prop where
  len:L.length=k
  bl:∀ i b,L[i]? =some b->G i i≠0/\IsB p (G i i) b/\b.1<=E
  asc:∀ i,Asc L i
theorem JL.keep {n k E:Nat} {p:Int} {G G':Z4} {L:List AK7} (B:JL n p G L k E) (h:∀ i,i < k->G' i i=G i i):JL n p G' L k E:=⟨B.len,fun i b hb=>by
  rw [h i (by rw [<- B.len];exact (List.getElem?_eq_some_iff.1 hb).1)];exact B.bl i b hb,B.asc⟩
theorem JL.push {n k E F:Nat} {p:Int} {G:Z4} {L:List AK7} {b:AK7} (B:JL n p G L k E) (h0:G k k≠0) (hb:IsB p (G k k) b) (hF:b.1=F) (hE:E<=F):JL n p G (L ++ [b]) (k + 1) F:=by
 refine ⟨by simp [B.len],fun i c hc=>?_,fun i hi x y hx hy=>?_⟩
 ·rcases Nat.lt_or_ge i L.length with h | h
  ·rw [List.getElem?_append_left h] at hc;have:=B.bl i c hc;exact ⟨this.1,this.2.1,Zj⟩
  ·rw [List.getElem?_append_right h] at hc
   have h2:i - L.length=0:=by
     refine Classical.byContradiction fun h3=>?_
     rw [List.getElem?_eq_none (by simp;omega)] at hc;cases hc
   rw [h2] at hc;obtain rfl:b=c:=by simpa using hc
   obtain rfl:i=k:=by have:=B.len;omega
   exact ⟨h0,hb,Zj⟩
 ·rcases Nat.lt_or_ge i L.length with h | h
  ·rw [List.getElem?_append_left h] at hx;rw [List.getElem?_append_left Zj] at hy;exact B.asc i hi x y hx hy
  ·rw [List.getElem?_append_right h] at hx
   have h2:i - L.length=0:=by
     refine Classical.byContradiction fun h3=>?_
     rw [List.getElem?_eq_none (by simp;omega)] at hx;cases hx
   rw [h2] at hx;obtain rfl:b=x:=by simpa using hx
   rw [List.getElem?_append_left Zj] at hy;have:=(B.bl _ _ hy).2.2;omega
theorem Acg:FdT Tryz.prog 80 0 0 2:=⟨_,_,Tryz.underlying80,rfl,rfl,rfl⟩
theorem ANb:FdT Tryz.prog 80 1 1 2:=⟨_,_,Tryz.underlying80,rfl,rfl,rfl⟩
theorem AG7:FdT Tryz.prog 80 2 2 25:=⟨_,_,Tryz.underlying80,rfl,rfl,rfl⟩
theorem ASm:FdT Tryz.prog 80 3 3 25:=⟨_,_,Tryz.underlying80,rfl,rfl,rfl⟩
theorem AOm:SlT Tryz.prog 163 25 1:=AQn Tryz.underlying163 Zw
theorem Ana:ZeT Tryz.prog 25 (.slice none 0 0) 24:=APc Zw
end Go.Proofs.YtdkldlbgcfpglaaGreatDoor
namespace Go.Proofs.YtdkldlbgcfpglaaGreatDoor
open Go Go.QF
set_option maxRecDepth 100000
set_option maxHeartbeats 4000000
def AJs (fuel:Nat) (Ab Aa Ac Ad:Int):Option ((Int × Int × Int × Int) ⊕ ((Int × Int))):=
  (if ¬ Aa=0 then (if Aa≠0 then (some (Sum.inl (Aa,(w64 (Ab - (w64 ((w64 (Int.tdiv Ab Aa)) * Aa)))),Ad,(w64 (Ac - (w64 ((w64 (Int.tdiv Ab Aa)) * Ad))))))) else none) else (some (Sum.inr<| (Ab,Ac))))
def AGb (fuel:Nat) (a1 a2:Int):Option (Int × Bool):=
  ((iter (fun s=>AJs fuel s.1 s.2.1 s.2.2.1 s.2.2.2) fuel (a2,a1,0,1)).bind (fun ((Ac,Ad):Int × Int)=>(if a2≠0 then (if a2≠0 then (some ((Int.tmod (w64 ((Int.tmod Ad a2) + a2)) a2),(decide (Ac=1)))) else none) else none)))
theorem ARs {fuel:Nat} {h:Zs} {a1 a2:Int} {r:(Int × Bool)} (hp:AGb fuel a1 a2=some r):AAs Tryz.prog 145 #[(.int .i64 a1),(.int .i64 a2)] h (fun x h'=>Ext h h'/\x= .tuple #[.int .i64 r.1,.bool r.2]):=by
 unfold AGb at hp;refine cwf (l:=[_,_]) Tryz.func145 rfl rfl (Zn (AAi (AA3 (Zk (Zk (AAi (AA3 (AAi (Zv (Zo (Zt ?_)))))))))));have K0:=Kst.k0 h;refine AHm 1073735616 hp (fun x=>[(6,(.int .i64 x.1)),(7,(.int .i64 x.2.1)),(8,(.int .i64 x.2.2.1)),(9,(.int .i64 x.2.2.2))]) (fun x=>K0.L) K0 ⟨rfl,rfl,rfl,rfl,trivial⟩ ?_;rintro ⟨u9,Aq,Ar,Au⟩ Av h6 y5 K8 Aa Ag;unfold AJs at Aa;refine Zo (Zn (Zk (ADc rfl rfl (Zr (⟨_,rfl,fun Ab=>?_,fun Ab=>?_⟩)))))
 ·refine Zx (q_t (Zt (Zn (Zk (Zk ?_)))));obtain ⟨Ah,Ai⟩:=ifN (AA7 Aa Ab);refine AP9 rfl rfl Ah (AA3 (Zk (Zk (Zk (Zk (AK2 rfl rfl (AE4 rfl rfl (AAi (Zv (Z1 (Zk (Zk (Zk (Zk (AK2 rfl rfl (AE4 rfl rfl (AAi (AAi (AAh (q_b (q_t ?_)))))))))))))))))))));exact ⟨_,(Zm Ai).symm,K8,rfl,rfl,rfl,rfl,trivial⟩
 ·refine AAe (AAf (AAf (ABk (q_t (Zn (Zk (Zk ?_)))))));obtain ⟨Aj,Ak⟩:=ifN (Ag _ (Zm (AA8 Aa Ab)).symm);refine ADo rfl rfl Aj (Zk (AAz rfl rfl (Zk ?_)));obtain ⟨Am,Ao⟩:=ifN Ak;refine ADo rfl rfl Am (Zk (ACc rfl rfl (AAi (Zv (Zy ?_)))));obtain rfl:=Zm Ao;exact ⟨_,ABg,K8.x,rfl⟩
def ALi (fuel:Nat) (Aa:LiI) (Ab Ac:Int):Option ((Int × Int) ⊕ ((Int))):=
  (if Ac < (Aa.length:Int) then none else (some (Sum.inr<| Ab)))
def AGc (fuel:Nat) (Ab:LiI) (Ac Aa:Int):Option ((Int × Int) ⊕ ((Int))):=
  (if Aa < (Ab.length:Int) then ((iter (fun s=>ALi fuel Ab s.1 s.2) fuel (Ac,(w64 (Aa + 1)))).bind (fun (Ad:Int)=>(some (Sum.inl (Ad,(w64 (Aa + 1))))))) else (some (Sum.inr<| Ac)))
def ADy (fuel:Nat) (a5 Ad:Int) (Af:LiA) (Ag Aa:Int) (Ab:LiI):Option ((Int × LiI) ⊕ ((LiI))):=
  (if Aa < (Af.length:Int) then ((gI Ab Ad).bind fun Ae=>((gI Ae Aa).bind fun Ah=>(if a5≠0 then (some (Sum.inl ((w64 (Aa + 1)),(sI Ab Ad (sI Ae Aa (Int.tmod (w64 (Ah * Ag)) a5)))))) else none))) else (some (Sum.inr<| Ab)))
def AKp (fuel:Nat) (Aa Ab:Int):Option ((Int) ⊕ ((Unit))):=
  (if Ab < Aa then none else (some (Sum.inr<| ())))
def AKq (fuel:Nat) (a3 Ae:LiI) (Ab:Int) (Ac:LiI):Option ((Int × LiI) ⊕ ((LiI))):=
  (if Ab < (Ae.length:Int) then ((gI Ac Ab).bind fun Ad=>(if 0<=(a3.length:Int)/\(a3.length:Int)<=(Ad.length:Int) then (if (List.drop (Int.toNat (a3.length:Int)) Ad).length<=100000000 then (some (Sum.inl ((w64 (Ab + 1)),(sI Ac Ab (List.drop (Int.toNat (a3.length:Int)) Ad))))) else none) else none)) else (some (Sum.inr<| Ac)))
def AGd (fuel:Nat) (a5 Aa:Int) (Ab:LiI):Option ((Int × LiI) ⊕ (((LiI × Int)) ⊕ (LiI))):=
  (if 0<=Aa then ((gI Ab Aa).bind fun Ad=>((gI Ad Aa).bind fun Ae=>((AGb fuel Ae a5).bind fun (Af,Ag)=>(if (!Ag)=true then (some (Sum.inr<| Sum.inl <| ([],8))) else ((((iter (fun s=>ADy fuel a5 Aa Ad Af s.1 s.2) fuel (0,Ab)).bind (fun (Ah:LiI)=>(some ( Ah)))):Option (LiI)).bind fun Ai=>((iter (fun s=>AKp fuel Aa s) fuel 0).bind (fun (_:Unit)=>(some (Sum.inl ((w64 (Aa - 1)),Ai)))))))))) else (some (Sum.inr<| Sum.inr <| Ab)))
def ALj (fuel:Nat) (a3 Af:LiI) (Aa:Int) (Ac:LiI):Option ((Int × LiI) ⊕ ((LiI))):=
  (if Aa < (Af.length:Int) then ((gI Ac Aa).bind fun Ad=>(if 0 < Ad.length/\Ad.length<=100000/\0 < (a3.length:Int)/\(a3.length:Int)<=100000 then ((gI (sI Ac Aa (Ad ++ List.replicate (Int.toNat (a3.length:Int)) 0)) Aa).bind fun Ae=>((gI Ae (w64 ((a3.length:Int) + Aa))).bind fun Ag=>(some (Sum.inl ((w64 (Aa + 1)),(sI (sI Ac Aa (Ad ++ List.replicate (Int.toNat (a3.length:Int)) 0)) Aa (sI Ae (w64 ((a3.length:Int) + Aa)) 1))))))) else none)) else (some (Sum.inr<| Ac)))
def AIr (fuel:Nat) (a3:LiI) (a5:Int):Option (LiI × Int):=
  ((AGn fuel a3).bind fun x6=>(if (!x6)=true then (some ([],3)) else ((ACd fuel a5).bind fun Ac=>(if ¬ Ac=0 then (some ([],Ac)) else ((ACh fuel a3 a5).bind fun Ad=>((iter (fun s=>ALj fuel a3 Ad s.1 s.2) fuel (0,Ad)).bind (fun (Ae:LiI)=>(((((some ( a5)):Option (Int)).bind fun Ak=>((iter (fun s=>AGc fuel Ae s.1 s.2) fuel (1,0)).bind (fun (Ah:Int)=>(some ( Ah))))):Option (Int)).bind fun Am=>(((some ( a5)):Option (Int)).bind fun Ao=>((iter (fun s=>AGd fuel a5 s.1 s.2) fuel ((w64 ((a3.length:Int) - 1)),Ae)).bind (fun ex=>match ex with | Sum.inl Ai=>(some Ai) | Sum.inr (Af)=>((iter (fun s=>AKq fuel a3 Af s.1 s.2) fuel (0,Af)).bind (fun (Aj:LiI)=>(some (Aj,0)))))))))))))))
theorem ATt {fuel:Nat} {h:Zs} {Bq:Value} {a3:LiI} {a5:Int} {r:(LiI × Int)} (H2:AEq (cI .i64) h Bq a3) (hp:AIr fuel a3 a5=some r):AAs Tryz.prog 91 #[Bq,(.int .i64 a5)] h (fun x h'=>Ext h h'/\ ∃ (x0:Value) (F0:List Nat) (Cb:List LnA) (Cd:List Value),x= .tuple #[x0,.int .i64 r.2]/\ACp (cI .i64) 60 2 h' F0 Cb Cd x0 r.1/\Sp h' h.size [F0]):=by
 unfold AIr at hp;refine cwf (l:=[_,_]) Tryz.func91 rfl rfl (Zn (AAi (Zv (Zo (Zn (Zk ?_))))));have K0:=Kst.k0 h;obtain ⟨x6,Ce,Bw⟩:=Zp hp;refine ADk K0 (APw (H2.ext K0.x) Ce) fun Es E9 Bx=>ADp rfl (Zr (⟨_,rfl,fun Ap=>?_,fun Ap=>?_⟩))
 ·refine Zn (AAi (Zv (Zy (AAc ?_))));have Aq:=Kst.anil2 (cI .i64) 60 2 Bx;obtain rfl:=Zm (ifT Bw Ap);exact ⟨_,ABg,Aq.x,_,_,_,_,rfl,(Aq.o2 p0),Aq.s.sel [0] Zl⟩
 ·refine Zx (q_t (Zo (Zn (Zk ?_))));obtain ⟨Eu,Cf,By⟩:=Zp (AH9 Bw Ap);refine ADk Bx (AFp Cf) fun Ev Ew Ar=>AA3 (Zk (ADc rfl rfl (Zr (⟨_,rfl,fun Au=>?_,fun Au=>?_⟩))))
  ·refine Zn (Zk (AAi (Zv (Zy (AAc ?_)))));have Av:=Kst.anil2 (cI .i64) 60 2 Ar;obtain rfl:=Zm (AA7 By Au);exact ⟨_,ABg,Av.x,_,_,_,_,rfl,(Av.o2 p0),Av.s.sel [0] Zl⟩
  ·refine Zx (q_t (Zn (Zk (ABe AAn rfl H2 (AA3 (Zk (Zk ?_)))))));obtain ⟨Cg,Ch,Ci⟩:=Zp (AA8 By Au);refine ANo Ar (AFv (H2.ext Ar.x) Ch) fun Cj Ck Cm Af Ey Ez Aw=>Zv (Zo (Zn (Zk (ABe AAn rfl (Aw.o2 p0).rd (Zk (Zr (Zt (AFr 4503597479887360 (fun x:(Int) × (LiI) × LnA × LnN × LvA=>(x.1,x.2.1)) ((0,Cg,Cj,Ck,Cm):(Int) × (LiI) × LnA × LnN × LvA) Ci (fun x=>[(31,(.int .i64 x.1))]) (fun x=>Aw.L.set 0 (aO2 (cI .i64) 60 2 x.2.2.1 x.2.2.2.1 x.2.2.2.2 Af x.2.1)) Aw ⟨rfl,trivial⟩ ?_))))))));rintro ⟨Cn,Fa,Ai,Aj,Ak⟩ Fb Fc Fd Ac Ax Co;unfold ALj at Ax;refine Zn (AAy rfl rfl (Zr (Zo (⟨_,rfl,fun Ay=>?_,fun Ay=>?_⟩))))
   ·refine Zx (q_t (Zo (Zt (Zn (Zk (AA3 (Zk (Zk (Zk (Zk ?_))))))))));obtain ⟨Fe,Bz,Cp⟩:=Zp (AA7 Ax Ay);refine AB2 AAn AA1 (Ac.o2 p0) Bz fun _ Ff Cq=>Zk ?_;obtain ⟨Cr,Ct⟩:=ifN Cp;refine Aol AAj AQp AJx AAn AA1 (Ac.o2 p0) Cq Bz trivial tt2 rfl rfl (fun _=>rfl) (fun _=>rfl) rfl Zl Cr fun Fg Fh Fi Fj Fk Fl Cu Cv Cw=>Zr (Z1 (Zk (Zk ?_)));have B1:=Ac.uo2 p0 Cv Cu Cw;obtain ⟨Fm,B3,Cx⟩:=Zp Ct;refine AB2 AAn AA1 (B1.o2 p0) B3 fun _ Fo Cy=>Zk (Zk (AAz rfl rfl ?_));obtain ⟨Fp,Cz,C0⟩:=Zp Cx;refine ALq (m:=Cn) B1 p0 AAj AAt Cy B3 Cz (fun _=>rfl) fun _ Fq C1=>AAh (q_b (q_t (Z1 (AAz rfl rfl (Zk (Zr ?_))))));exact ⟨(_,_,_,_,_),(Zm C0).symm,C1,rfl,trivial⟩
   ·refine AAe (AAf (AAf (ABk (q_t (Zn (Zk (Zk ?_)))))));obtain ⟨C2,C3,C4⟩:=Zp (Co _ (Zm (AA8 Ax Ay)).symm);refine AAr (K':=(fun xr h'=> ∃ x:(Int),x=C2/\xr=(.int .i64 x)/\Kst h h' (Ac.L))) trivial rfl ?_ fun Fr Ft C5=>?_
    ·refine cwf (l:=[_,_]) Tryz.func123 rfl rfl (Zn (AA3 (Zk ?_)));obtain ⟨C6,C7,C8⟩:=Zp C3;refine AAr (K':=(fun xr h'=> ∃ x:(Nat) × (Int),x.2=C6/\xr=(.func (.func 171) #[] #[(.pointer (some ⟨x.1,0,none⟩))])/\Kst h h' (aB 2 x.1 [(.int .i64 x.2)] :: Ac.L))) trivial rfl ?_ fun Fu Fv C9=>?_
     ·refine cwf (l:=[_]) Tryz.func144 rfl rfl (Zn (AHg Ac [(.int .i64 a5)] fun Da Fw Fx Db=>AA3 (Aj0 rfl (Zv (Zy (⟨_,Zz,((Da,a5):(Nat) × (Int)),?_,rfl,?_⟩))))))
      ·exact Zm C7
      ·exact Db
     obtain ⟨⟨Fy,Fz⟩,Dc,rfl,Az⟩:=C9;refine ⟨trivial,?_⟩;subst Dc;refine AA3 (Zv (Zo (Zn (Zk (ABe AAn rfl (Az.o2 p1).rd (Zk (Zr (Zt (AHm 18889465931478580847040 C8 (fun x=>[(6,(.int .i64 x.1)),(13,(.int .i64 x.2))]) (fun x=>Az.L) Az ⟨rfl,rfl,trivial⟩ ?_)))))))));rintro ⟨Dd,F4⟩ F5 F6 F7 A3 A4 De;unfold AGc at A4;refine Zn (AAy rfl rfl (Zr (Zo (⟨_,rfl,fun A5=>?_,fun A5=>?_⟩))))
     ·refine Zx (q_t (Zo (Zt (Zn (Zk (AA3 (Zk (AAz rfl rfl (Zv (Zt (AHm 9444732965739290165568 (AA7 A4 A5) (fun x=>[(6,(.int .i64 x.1)),(8,(.int .i64 x.2))]) (fun x=>A3.L) A3 ⟨rfl,rfl,trivial⟩ ?_)))))))))));rintro ⟨F8,F9⟩ Ga Gb Gc B4 A6 Df;unfold ALi at A6;refine Zo (Zn (Zk (Zk (ABe AAn rfl (B4.o2 p1).rd (AAy rfl rfl (Zr (⟨_,rfl,fun A7=>?_,fun A7=>?_⟩)))))))
      ·refine Zx (q_t (Zo ?_));have Dg:=AA7 A6 A7;cases Dg
      ·refine AAe (AAf (AAf (ABk (q_b (q_t (Z1 (AAz rfl rfl (Zk (Zr ?_)))))))));exact ⟨_,(Zm (Df _ (Zm (AA8 A6 A7)).symm)).symm,B4,rfl,rfl,trivial⟩
     ·refine AAe (AAf (AAf (ABk (q_t (Zn (Zk (Zv (Zy (⟨_,Zz,(Dd:(Int)),?_,rfl,?_⟩)))))))))
      ·exact Zm (De _ (Zm (AA8 A4 A5)).symm)
      ·exact A3.sel [1] Zl
    obtain ⟨Gd,Dh,rfl,B5⟩:=C5;refine ⟨trivial,?_⟩;subst Dh;refine AHj (Zk ?_);obtain ⟨Di,Dj,Dk⟩:=Zp C4;refine AAr (K':=(fun xr h'=> ∃ x:(Nat) × (Int),x.2=Di/\xr=(.func (.func 171) #[] #[(.pointer (some ⟨x.1,0,none⟩))])/\Kst h h' (aB 2 x.1 [(.int .i64 x.2)] :: B5.L))) trivial rfl ?_ fun Ge Gf Dl=>?_
    ·refine cwf (l:=[_]) Tryz.func144 rfl rfl (Zn (AHg B5 [(.int .i64 a5)] fun Do Gg Gh Dp=>AA3 (Aj0 rfl (Zv (Zy (⟨_,Zz,((Do,a5):(Nat) × (Int)),?_,rfl,?_⟩))))))
     ·exact Zm Dj
     ·exact Dp
    obtain ⟨⟨Gi,Gj⟩,Dq,rfl,B6⟩:=Dl;refine ⟨trivial,?_⟩;subst Dq;refine Zv (Zo (Zn (Zk (AE4 rfl rfl (Zv (Zt (AHm 81129638414606105235036701751344 Dk (fun x=>[(11,(.int .i64 x.1))]) (fun x=>B6.L.set 1 (aO2 (cI .i64) 60 2 Ai Aj Ak Af x.2)) B6 ⟨rfl,trivial⟩ ?_)))))));rintro ⟨A8,Dr⟩ Gk Gl Gm Ag A9 B7;unfold AGd at A9;refine Zo (Zn (Zk (ANn rfl rfl (Zr (⟨_,rfl,fun Ba=>?_,fun Ba=>?_⟩)))))
    ·refine Zx (q_t (Zo (Zt (Zn (Zk (Zk ?_))))));obtain ⟨Gn,Am,Ds⟩:=Zp (AA7 A9 Ba);refine AB2 AAn AA1 (Ag.o2 p1) Am fun _ Gp Dt=>Zk ?_;obtain ⟨Gq,Du,Dv⟩:=Zp Ds;refine AH5 (m:=A8) AAj AAt (Ag.o2 p1) Dt Am Du fun _=>(Zk ?_);obtain ⟨⟨Gr,Gt⟩,Dw,Bb⟩:=Zp Dv;dsimp only at Bb;refine ADk Ag (ARs Dw) fun Gu Gv Ad=>Zk (ABj rfl rfl (ABj rfl rfl (AAi (Zv (Zo (Zn (Zk (ADp rfl (Zr (⟨_,rfl,fun Bc=>?_,fun Bc=>?_⟩))))))))))
     ·refine Zn (AAi (Zv (Zy (AAc (ABp (AAc (AAc (ABp (AAc ?_)))))))));have Be:=Kst.anil2 (cI .i64) 60 2 Ad;obtain rfl:=Zm (B7 _ (Zm (ifT Bb Bc)).symm);exact ⟨_,ABg,Be.x,_,_,_,_,rfl,(Be.o2 p0),Be.s.sel [0] Zl⟩
     ·refine Zx (q_t (Zn (Zk (Zk (AB2 AAn AA1 (Ad.o2 p1) Am fun _ Gw Bf=>Zk (Zk ?_))))));obtain ⟨Dx,Dy,Dz⟩:=Zp (AH9 Bb Bc);refine AAr (K':=(fun xr h'=> ∃ x:(LiI),x=Dx/\xr= .tuple #[]/\Kst h h' (Ad.L.set 1 (aO2 (cI .i64) 60 2 Ai Aj Ak Af x)))) trivial rfl ?_ fun Gx Gy D0=>?_
      ·refine cwf (l:=[_,_,_]) Tryz.func146 rfl rfl (Zn (Zk (ABr AAj rfl ((Ad.o2 p1).rowI Bf Am) (Zk (Zr (Zt (AHm 16776384 Dy (fun x=>[(10,(.int .i64 x.1))]) (fun x=>Ad.L.set 1 (aO2 (cI .i64) 60 2 Ai Aj Ak Af x.2)) Ad ⟨rfl,trivial⟩ ?_)))))));rintro ⟨Gz,D1⟩ G3 G4 G5 Bg Bh D2;unfold ADy at Bh;refine Zn (AAy rfl rfl (Zr (Zo (⟨_,rfl,fun Bi=>?_,fun Bi=>?_⟩))))
       ·refine Zx (q_t (Zo (Zt (Zn (Zk ?_)))));obtain ⟨G6,B8,D3⟩:=Zp (AA7 Bh Bi);obtain ⟨G7,B9,D4⟩:=Zp D3;refine AH5 (m:=A8) AAj AAt (Bg.o2 p1) Bf B8 B9 fun _=>(AAi (Zv (Z1 (Zk (Zk (Zk (Zk (AK2 rfl rfl (Zk ?_)))))))));obtain ⟨D5,D6⟩:=ifN D4;refine ADo rfl rfl D5 (ALq (m:=A8) Bg p1 AAj AAt Bf B8 B9 (fun _=>rfl) fun _ G8 D7=>AAh (q_b (q_t (Z1 (AAz rfl rfl (Zk (Zr ?_)))))));exact ⟨_,(Zm D6).symm,D7,rfl,trivial⟩
       ·refine AAe (AAf (AAf (ABk (⟨_,AQ3,(D1:(LiI)),?_,rfl,?_⟩))))
        ·exact Zm (D2 _ (Zm (AA8 Bh Bi)).symm)
        ·exact Bg
      obtain ⟨G9,D8,rfl,Ca⟩:=D0;refine ⟨trivial,?_⟩;subst D8;refine AHj (Zk (Zk (Zr (Zt (AHm 81129599728980454027655414562816 Dz (fun x=>[(85,(.int .i64 x))]) (fun x=>Ca.L) Ca ⟨rfl,trivial⟩ ?_)))));rintro Hb Hc Hd He D9 Bj Ea;unfold AKp at Bj;refine Zn (AAy rfl rfl (Zr (Zo (⟨_,rfl,fun Bl=>?_,fun Bl=>?_⟩))))
      ·refine Zx (q_t (Zo ?_));have Eb:=AA7 Bj Bl;cases Eb
      ·refine AAe (AAf (AAf (ABk (q_b (q_t (Z1 (Zk (AE4 rfl rfl (Zv ?_)))))))));exact ⟨_,(Zm (Ea _ (Zm (AA8 Bj Bl)).symm)).symm,D9,rfl,trivial⟩
    ·refine AAe (AAf (AAf (ABk (q_t (Zo (Zn (Zk (ABe AAn rfl (Ag.o2 p1).rd (Zk (Zr (Zt ?_)))))))))));have Bm:=Ag.sel [1] Zl;dsimp only [AFy,AI2] at Bm;refine AFr 5316587464586005064888445085100834816 (fun x:(Int) × (LiI) × LnA × LnN × LvA=>(x.1,x.2.1)) ((0,Dr,Ai,Aj,Ak):(Int) × (LiI) × LnA × LnN × LvA) (B7 _ (Zm (AA8 A9 Ba)).symm) (fun x=>[(108,(.int .i64 x.1))]) (fun x=>Bm.L.set 0 (aO2 (cI .i64) 60 2 x.2.2.1 x.2.2.2.1 x.2.2.2.2 Af x.2.1)) Bm ⟨rfl,trivial⟩ ?_;rintro ⟨Hf,Hg,Hh,Hj,Hk⟩ Hl Hm Hn Aa Bn Ec;unfold AKq at Bn;refine Zn (AAy rfl rfl (Zr (Zo (⟨_,rfl,fun Bo=>?_,fun Bo=>?_⟩))))
     ·refine Zx (q_t (Zo (Zt (Zn (Zk (Zv (Z1 (Zk (Zk (Zk (Zk ?_)))))))))));obtain ⟨Ho,Ae,Ed⟩:=Zp (AA7 Bn Bo);refine AB2 AAn AA1 (Aa.o2 p0) Ae fun _ Hq Bp=>Zk ?_;obtain ⟨Ee,Ef⟩:=ifN Ed;refine Ait AAj rfl ((Aa.o2 p0).rowI Bp Ae) ((Aa.o2 p0).rowCap Bp Ae) rfl Ee fun Hr Eg Hs=>?_;obtain ⟨Eh,Ei⟩:=ifN Ef;refine Ak7 AAj AJx rfl rfl trivial tt2 rfl rfl (Eg ((Aa.o2 p0).rowI Bp Ae)) Zl Eh fun Ht Hu Hv Ej Ek El=>?_;have Ah:=Aa.no Ek El Ej;refine ACt AAn rfl (Ah.o2 p1) rfl Ae fun Hw Hx Em Hy Hz=>ARb AA1 (Ah.o2 p1) Ae Em rfl rfl (Ah.o p0) (Ah.dj p0 p1 Zl) fun Ia En Eo Ep=>AAh (q_b (q_t (Z1 (AAz rfl rfl (Zk (Zr ?_))))));exact ⟨(_,_,_,_,_),(Zm Ei).symm,(Ah.m2 p0 p1 Zl Eo En (fun z hz=> .inl (Ep z hz))).sel [1] Zl,rfl,trivial⟩
     ·refine AAe (AAf (AAf (ABk (q_t (Zn (Zk (AAi (Zv (Zy ?_)))))))));obtain rfl:=Zm (Ec _ (Zm (AA8 Bn Bo)).symm);exact ⟨_,ABg,Aa.x,_,_,_,_,rfl,(Aa.o2 p0),Aa.s.sel [0] Zl⟩
end Go.Proofs.YtdkldlbgcfpglaaGreatDoor
namespace Go.Proofs.YtdkldlbgcfpglaaGreatDoor
open Go Go.QF
set_option maxRecDepth 100000
theorem Ach {fuel:Nat} {x m:Int} (hx:0<=x) (hxm:x < m) (hm:2<=m) (Aa:m<=2147483647) (hf:2147483648 < fuel):Ok (AGb fuel x m) fun r=>(r.2=true->AYc m x r.1)/\(r.2=false->¬ ∃ y,AYc m x y):=by
 unfold AGb;refine Zu (ATs (fun s:Int × Int × Int × Int=>EI m x s.1 s.2.1 s.2.2.1 s.2.2.2) (fun s=>s.2.1.toNat) (Q:=fun e:Int × Int=> ∃ v,EI m x e.1 0 e.2 v) (fun s hE=>?_) (EI.start hx hxm) (by dsimp only;omega)) fun e he=>?_
 ·obtain ⟨a,b,u,v⟩:=s;dsimp only at hE ⊢;have Ad:0<=b:=hE.1;have Ab:0<=a:=hE.2.1;have ham:a<=m:=hE.2.2.1;unfold AJs;refine AAw (fun h=>ABs h ?_) fun h=>?_
  ·have hbd:=hE.bounds Zj;rw [Int.tdiv_eq_ediv_of_nonneg Ab,ACf (x:=a / b) Zj Zj,ACf (x:=a / b * b) Zj Zj,ACf (x:=a - a / b * b) Zj Zj,ACf (x:=a / b * v) Zj Zj,ACf (x:=u - a / b * v) Zj Zj];have hs:=hE.step Zj;refine Zq ⟨hs,?_⟩;have h2:=Int.emod_lt_of_pos a (b:=b) Zj;rw [Int.emod_def,Int.mul_comm] at h2;have:=hs.1;show (a - a / b * b).toNat < b.toNat;omega
  ·obtain rfl:b=0:=by omega
   exact Zq ⟨v,hE⟩
 ·obtain ⟨v,hE⟩:=he;obtain ⟨a,u⟩:=e;dsimp only at hE ⊢;have hd:=EI.done hm hE;refine ABs Zj (ABs Zj (Zq ⟨fun h=>?_,fun h=>?_⟩))
  ·dsimp only at h ⊢;rw [AW3 hm Aa];exact hd.2.1 (of_decide_eq_true h)
  ·exact hd.2.2 (of_decide_eq_false h)
theorem Anb {fuel n:Nat} {T:Z4} (Aa:1<=n) (hn:n<=8) (hf:100 < fuel):AGn fuel (tab n n T)=some true:=by
 unfold AGn;rw [Aeo Aa hn hf];simp only [Option.bind_some,reduceIte];rw [Aen (ABl Zj),ABm,AA9,if_pos rfl,decide_eq_true Zj]
theorem AQm {S E:Type} {body:S->Option (S ⊕ E)} {fuel:Nat} {s s':S} (h:body s=some (.inl s')):iter body (fuel + 1) s=iter body fuel s':=by simp [iter,h]
theorem AOa {S E:Type} {body:S->Option (S ⊕ E)} {fuel:Nat} {s:S} {e:E} (h:body s=some (.inr e)):iter body (fuel + 1) s=some e:=by simp [iter,h]
theorem Asv {f:Nat} {x m:Int} (hm:2<=m) (Aa:m<=2147483647) (hg:∃ y,AYc m (x % m) y) (hf:2147483648 < f):∃ v,AIr f [[x]] m=some ([[v]],0)/\AYc m (x % m) v:=by
 obtain ⟨f,rfl⟩:∃ g,f=g + 3:=⟨f - 3,Zj⟩;have Ab:=Int.emod_nonneg x (show m≠0 by omega);have Ac:=Int.emod_lt_of_pos x (show 0 < m by omega);have h0:AGn (f + 3) [[x]]=some true:=Anb (n:=1) (T:=fun _ _=>x) Zj Zj Zj;have h1:ACd (f + 3) m=some 0:=by unfold ACd;rw [if_neg Zj,if_neg Zj]
 have h2:ACh (f + 3) [[x]] m=some [[x % m]]:=Am4 (n:=1) (F:=fun _ _=>x) Zj hm Aa Zj;generalize x % m=r at Ab Ac hg h2 ⊢;obtain ⟨⟨v,b⟩,h3,h4,h5⟩:=Ach Ab Ac hm Aa hf
 obtain rfl:b=true:=by
   cases b
   · exact absurd hg (h5 rfl)
   · rfl
 have hv:=h4 rfl;dsimp only at hv;have Ae:=hv.1;have Am:=hv.2.1;have e3:Int.tmod (w64 (1 * v)) m=v:=by rw [Int.one_mul,ACf (x:=v) Zj Zj,Int.tmod_eq_emod_of_nonneg Ae,Int.emod_eq_of_lt Ae Am]
 refine ⟨v,?_,hv⟩
 have a1:iter (fun s:Int × List (List Int)=>ALj (f + 3) [[x]] [[r]] s.1 s.2) (f + 3) (0,[[r]])=some [[r,1]]:=by
   rw [AQm (s':=(1,[[r,1]])) rfl,AOa rfl]
 have a2:iter (fun s:Int × Int=>AGc (f + 3) [[r,1]] s.1 s.2) (f + 3) (1,0)=some 1:=by
   have b5:iter (fun s:Int × Int=>ALi (f + 3) [[r,1]] s.1 s.2) (f + 3) (1,1)=some 1:=AOa rfl
   rw [AQm (s':=(1,1)) ?_,AOa rfl]
   show AGc (f + 3) [[r,1]] 1 0=_
   unfold AGc
   rw [if_pos (by show (0:Int) < ((1:Nat):Int);decide),show w64 (0 + 1)=1 from rfl,b5]
   rfl
 have a3:iter (fun s:Int × List (List Int)=>AGd (f + 3) m s.1 s.2) (f + 3) (0,[[r,1]])=some (Sum.inr [[Int.tmod (w64 (r * v)) m,v]]):=by
   have Af:m≠0:=by omega
   have Av:iter (fun s:Int × List (List Int)=>ADy (f + 3) m 0 [r,1] v s.1 s.2) (f + 3) (0,[[r,1]])=some [[Int.tmod (w64 (r * v)) m,v]]:=by
     rw [AQm (s':=(1,[[Int.tmod (w64 (r * v)) m,1]])) ?_,AQm (s':=(2,[[Int.tmod (w64 (r * v)) m,v]])) ?_,AOa rfl]
     · show ADy (f + 3) m 0 [r,1] v 1 [[Int.tmod (w64 (r * v)) m,1]]=_
       unfold ADy
       rw [if_pos (by show (1:Int) < ((2:Nat):Int);decide)]
       show (if m≠0 then some (Sum.inl ((2:Int),[[Int.tmod (w64 (r * v)) m,Int.tmod (w64 (1 * v)) m]])) else none)=_
       rw [if_pos Af,e3]
     · show ADy (f + 3) m 0 [r,1] v 0 [[r,1]]=_
       unfold ADy
       rw [if_pos (by show (0:Int) < ((2:Nat):Int);decide)]
       show (if m≠0 then some (Sum.inl ((1:Int),[[Int.tmod (w64 (r * v)) m,1]])) else none)=_
       rw [if_pos Af]
   have Aw:iter (fun s:Int=>AKp (f + 3) 0 s) (f + 3) 0=some ():=AOa rfl
   rw [AQm (s':=(-1,[[Int.tmod (w64 (r * v)) m,v]])) ?_,AOa rfl]
   show AGd (f + 3) m 0 [[r,1]]=_
   unfold AGd
   rw [if_pos Zl,show gI [[r,1]] (0:Int)=some [r,1] from rfl]
   simp only [Option.bind_some]
   rw [show gI [r,1] (0:Int)=some r from rfl]
   simp only [Option.bind_some]
   rw [h3]
   simp only [Option.bind_some]
   rw [if_neg Zl,Av]
   simp only [Option.bind_some]
   rw [Aw]
   rfl
 have a4:iter (fun s:Int × List (List Int)=>AKq (f + 3) [[x]] [[Int.tmod (w64 (r * v)) m,v]] s.1 s.2) (f + 3) (0,[[Int.tmod (w64 (r * v)) m,v]])=some [[v]]:=by
   rw [AQm (s':=(1,[[v]])) rfl,AOa rfl]
 unfold AIr;rw [h0];simp only [Option.bind_some];rw [if_neg Zl,h1];simp only [Option.bind_some];rw [if_neg Zl,h2];simp only [Option.bind_some];rw [a1];simp only [Option.bind_some];rw [a2];simp only [Option.bind_some];rw [show w64 (([[x]].length:Nat) - 1:Int)=0 from rfl,a3];simp only [Option.bind_some];rw [a4];rfl
end Go.Proofs.YtdkldlbgcfpglaaGreatDoor
namespace Go.Proofs.YtdkldlbgcfpglaaGreatDoor
open Go Go.QF
set_option maxRecDepth 100000
set_option maxHeartbeats 4000000
def AIj (fuel:Nat) (a1 a2:Int):Option Int:=
  (if a2≠0 then (if a2≠0 then (some (Int.tmod (w64 ((Int.tmod a1 a2) + a2)) a2)) else none) else none)
theorem AP2 {fuel:Nat} {h:Zs} {a1 a2 r:Int} (hp:AIj fuel a1 a2=some r):AAs Tryz.prog 102 #[(.int .i64 a1),(.int .i64 a2)] h (fun x h'=>Ext h h'/\x= .int .i64 r):=by
 unfold AIj at hp;refine cwf (l:=[_,_]) Tryz.func102 rfl rfl (Zn (AA3 (Zk (Zk ?_))));obtain ⟨Ac,Ad⟩:=ifN hp;refine ADo rfl rfl Ac (Zk (AAz rfl rfl (Zk ?_)));obtain ⟨Ae,Af⟩:=ifN Ad;refine ADo rfl rfl Ae (Zv (Zy ?_));obtain rfl:=Zm Af;exact ⟨_,Zz,(Kst.k0 h).x,rfl⟩
def ANc (fuel:Nat) (Ac Aa Ab:Int):Option ((Int × Int) ⊕ ((Int × Int))):=
  (if (Int.tmod Aa 2)=0 then (if (Int.tmod Ac 8)=3 then (some (Sum.inl ((w64 (Int.tdiv Aa 2)),(w64 (0 - Ab))))) else (if (Int.tmod Ac 8)=5 then (some (Sum.inl ((w64 (Int.tdiv Aa 2)),(w64 (0 - Ab))))) else (some (Sum.inl ((w64 (Int.tdiv Aa 2)),Ab))))) else (some (Sum.inr<| (Aa,Ab))))
def ANd (fuel:Nat) (Ad Aa Ae:Int):Option ((Int × Int × Int) ⊕ ((Int × Int))):=
  (if ¬ Ad=0 then ((iter (fun s=>ANc fuel Aa s.1 s.2) fuel (Ad,Ae)).bind (fun ((Ab,Ac):Int × Int)=>(((if (Int.tmod Ab 4)=3 then (if (Int.tmod Aa 4)=3 then (some ( (w64 (0 - Ac)))) else (some ( Ac))) else (some ( Ac))):Option ((Int))).bind (fun (Af:Int)=>(if Ab≠0 then (some (Sum.inl ((Int.tmod Aa Ab),Ab,Af))) else none))))) else (some (Sum.inr<| (Aa,Ae))))
def ALk (fuel:Nat) (a1 a2:Int):Option Int:=
  ((iter (fun s=>ANd fuel s.1 s.2.1 s.2.2) fuel (a1,a2,1)).bind (fun ((Ac,Ad):Int × Int)=>(if ¬ Ac=1 then (some 0) else (some Ad))))
theorem AV4 {fuel:Nat} {h:Zs} {a1 a2 r:Int} (hp:ALk fuel a1 a2=some r):AAs Tryz.prog 103 #[(.int .i64 a1),(.int .i64 a2)] h (fun x h'=>Ext h h'/\x= .int .i64 r):=by
 unfold ALk at hp;refine cwf (l:=[_,_]) Tryz.func103 rfl rfl (Zn (AA3 (Zv (Zo (Zt ?_)))));have K0:=Kst.k0 h;refine AHm 137438953443 hp (fun x=>[(0,(.int .i64 x.1)),(1,(.int .i64 x.2.1)),(5,(.int .i64 x.2.2))]) (fun x=>K0.L) K0 ⟨rfl,rfl,rfl,trivial⟩ ?_;rintro ⟨u9,Ay,Bc⟩ Be h6 y5 K8 Ae Az;unfold ANd at Ae;refine Zo (Zn (Zk (ADc rfl rfl (Zr (⟨_,rfl,fun Af=>?_,fun Af=>?_⟩)))))
 ·refine Zx (q_t (Zt (Zo (Zt (AHm 8388385 (AA7 Ae Af) (fun x=>[(0,(.int .i64 x.1)),(5,(.int .i64 x.2))]) (fun x=>K8.L) K8 ⟨rfl,rfl,trivial⟩ ?_)))));rintro ⟨A3,Ag⟩ Bh Bi Bj Aa Ah A4;unfold ANc at Ah;refine Zo (Zn (Zk (ADo rfl rfl Zl (ACc rfl rfl (Zr (⟨_,rfl,fun Ai=>?_,fun Ai=>?_⟩))))))
  ·refine Zx (q_t (Zt (Zn (Zk (AP9 rfl rfl Zl (AA3 (Zk (ADo rfl rfl Zl (ACc rfl rfl (Zk ?_))))))))));have Ar:=AA7 Ah Ai;by_cases Ac:(Int.tmod Ay 8)=3
   ·rw [decide_eq_true Ac];refine AH3 16 true (AAd rfl (Zr (AAl rfl (Z1 (Zk (AUi rfl (AAi (AAh (q_b (q_t ?_))))))))));exact ⟨_,(Zm (ifT Ar Ac)).symm,Aa,rfl,rfl,trivial⟩
   ·have Au:=ifF Ar Ac;rw [decide_eq_false Ac];refine AAk 16 false (Zk (AAk 16 false (ADo rfl rfl Zl (AAk 16 false (ACc rfl rfl (AAo rfl (Zr (⟨_,rfl,fun Aj=>?_,fun Aj=>?_⟩))))))))
    ·refine Z1 (Zk (AUi rfl (AAi (AAh (q_b (q_t ?_))))));exact ⟨_,(Zm (AA7 Au Aj)).symm,Aa,rfl,rfl,trivial⟩
    ·refine Zx (q_b (q_t ?_));exact ⟨_,(Zm (AA8 Au Aj)).symm,Aa,rfl,rfl,trivial⟩
  ·refine AAe (AAf (AAf (ABk (q_t ?_))));obtain ⟨A5,Av,A6⟩:=Zp (A4 _ (Zm (AA8 Ah Ai)).symm);refine AI8 8581546016 (fun x:(Int)=>[(5,(.int .i64 x))]) (fun x h'=>( x)=A5/\Kst h h' (Aa.L)) ?_ ?_
   ·refine Zn (Zk (ADo rfl rfl Zl (ACc rfl rfl (Zk ?_))));by_cases Ad:(Int.tmod A3 4)=3
    ·have Aw:=ifT Av Ad;rw [decide_eq_true Ad];refine AAk 26 true (Zk (AAk 26 true (ADo rfl rfl Zl (AAk 26 true (ACc rfl rfl (AAd rfl (Zr (⟨_,rfl,fun Ak=>?_,fun Ak=>?_⟩))))))))
     ·refine Z1 (Zk (AUi rfl (Zv ?_)));exact ⟨((w64 (0 - Ag)):(Int)),⟨Zm (AA7 Aw Ak),Aa⟩,rfl,trivial⟩
     ·refine Zx (q_t ?_);exact ⟨(Ag:(Int)),⟨Zm (AA8 Aw Ak),Aa⟩,rfl,trivial⟩
    ·rw [decide_eq_false Ad];refine AH3 26 false (AAo rfl (Zr (AAq rfl (Zx (q_t ?_)))));exact ⟨(Ag:(Int)),⟨Zm (ifF Av Ad),Aa⟩,rfl,trivial⟩
   rintro Bl Bm Bn ⟨A7,A8⟩;subst A7;refine Z1 (Zk (Zk ?_));obtain ⟨A9,Ba⟩:=ifN A6;refine ADo rfl rfl A9 (Zk (AAi (AAi (AAh (q_b (q_t ?_))))));exact ⟨_,(Zm Ba).symm,A8,rfl,rfl,rfl,trivial⟩
 ·refine AAe (AAf (AAf (ABk (q_t (Zo (Zn (Zk (ADc rfl rfl (Zr ?_)))))))));have Ax:=Az _ (Zm (AA8 Ae Af)).symm;refine ⟨_,rfl,fun Am=>?_,fun Am=>?_⟩
  ·refine Zn (Zv (Zy (AAc ?_)));obtain rfl:=Zm (AA7 Ax Am);exact ⟨_,Zz,K8.x,rfl⟩
  ·refine Zx (q_t (Zn (Zk (Zv (Zy ?_)))));obtain rfl:=Zm (AA8 Ax Am);exact ⟨_,Zz,K8.x,rfl⟩
def AIs (fuel:Nat) (a1 Ab Aa:Int):Option ((Int × Int) ⊕ (((Int × Int)) ⊕ (Int × Int))):=
  (if (Int.tmod Ab 2)=0 then (if (Int.tmod a1 2)=0 then (some (Sum.inr<| Sum.inl <| (0,0))) else ((((AIj fuel a1 8).bind fun Ad=>(if Ad=3 then (some ( (w64 (0 - Aa)))) else (if Ad=5 then (some ( (w64 (0 - Aa)))) else (some ( Aa))))):Option ((Int))).bind (fun (Ae:Int)=>(some (Sum.inl ((w64 (Int.tdiv Ab 2)),Ae)))))) else (some (Sum.inr<| Sum.inr <| (Ab,Aa))))
def AFh (fuel:Nat) (a1 a2:Int):Option (Int × Int):=
  (((if a1 < (-2147483647) then (some (Sum.inl <| (0,1))) else (if 2147483647 < a1 then (some (Sum.inl <| (0,1))) else (if a2 < (-2147483647) then (some (Sum.inl <| (0,1))) else (if 2147483647 < a2 then (some (Sum.inl <| (0,1))) else (some (Sum.inr <| ())))))):Option (((Int × Int)) ⊕ (Unit))).bind (fun ex=>match ex with | Sum.inl Ad=>(some Ad) | Sum.inr (_)=>(if a2=0 then (if a1=1 then (some (1,0)) else (if a1=(-1) then (some (1,0)) else (some (0,0)))) else (((if a2 < 0 then (if a1 < 0 then (some ( ((w64 (0 - a2)),(-1)))) else (some ( ((w64 (0 - a2)),1)))) else (some ( (a2,1)))):Option ((Int × Int))).bind (fun ((Ae,Af):Int × Int)=>((iter (fun s=>AIs fuel a1 s.1 s.2) fuel (Ae,Af)).bind (fun ex=>match ex with | Sum.inl Ag=>(some Ag) | Sum.inr ((Ac,Ah))=>((AIj fuel a1 Ac).bind fun Ai=>((ALk fuel Ai Ac).bind fun Aj=>(some ((w64 (Ah * Aj)),0)))))))))))
theorem ATu {fuel:Nat} {h:Zs} {a1 a2:Int} {r:(Int × Int)} (hp:AFh fuel a1 a2=some r):AAs Tryz.prog 53 #[(.int .i64 a1),(.int .i64 a2)] h (fun x h'=>Ext h h'/\x= .tuple #[.int .i64 r.1,.int .i64 r.2]):=by
 unfold AFh at hp;refine cwf (l:=[_,_]) Tryz.func53 rfl rfl (Zn (AAi (Zv ?_)));have K0:=Kst.k0 h;obtain ⟨Bh,A3,Ad⟩:=Zp hp;refine AI8 4194096 (fun x:Unit=>[]) (fun x h'=>(Sum.inr <| ())=Bh/\Kst h h' (K0.L)) ?_ ?_
 ·refine Zn (Zk (AAy rfl rfl (Zk ?_)));by_cases Af:a1 < (-2147483647)
  ·rw [decide_eq_true Af];refine AHi 10 true (AAd rfl (Zk (AHi 14 true (AAd rfl (Zk (AHi 18 true (AAd rfl (Zr (AAl rfl (Zn (AAi (Zv ?_))))))))))));obtain rfl:=Zm (ifT A3 Af);refine Zy (AAc ?_);obtain rfl:=Zm Ad;exact ⟨_,ABg,K0.x,rfl⟩
  ·have A4:=ifF A3 Af;rw [decide_eq_false Af];refine AAk 10 false (Zk (AAk 10 false (AGz rfl rfl (AAo rfl (Zk ?_)))));by_cases Ag:2147483647 < a1
   ·rw [decide_eq_true Ag];refine AHi 14 true (AAd rfl (Zk (AHi 18 true (AAd rfl (Zr (AAl rfl (Zn (AAi (Zv ?_)))))))));obtain rfl:=Zm (ifT A4 Ag);refine Zy (AAc ?_);obtain rfl:=Zm Ad;exact ⟨_,ABg,K0.x,rfl⟩
   ·have A5:=ifF A4 Ag;rw [decide_eq_false Ag];refine AAk 14 false (Zk (AAk 14 false (AAy rfl rfl (AAo rfl (Zk ?_)))));by_cases Ah:a2 < (-2147483647)
    ·rw [decide_eq_true Ah];refine AHi 18 true (AAd rfl (Zr (AAl rfl (Zn (AAi (Zv ?_))))));obtain rfl:=Zm (ifT A5 Ah);refine Zy (AAc ?_);obtain rfl:=Zm Ad;exact ⟨_,ABg,K0.x,rfl⟩
    ·have A6:=ifF A5 Ah;rw [decide_eq_false Ah];refine AAk 18 false (Zk (AAk 18 false (AGz rfl rfl (AAo rfl (Zr (⟨_,rfl,fun Am=>?_,fun Am=>?_⟩))))))
     ·refine Zn (AAi (Zv ?_));obtain rfl:=Zm (AA7 A6 Am);refine Zy (AAc ?_);obtain rfl:=Zm Ad;exact ⟨_,ABg,K0.x,rfl⟩
     ·refine Zx (q_t ?_);exact ⟨(():Unit),⟨Zm (AA8 A6 Am),K0⟩,trivial⟩
 rintro ⟨⟩ B3 B4 ⟨Bi,Aa⟩;subst Bi;refine Zo (Zn (Zk (ACc rfl rfl (Zr (⟨_,rfl,fun Ao=>?_,fun Ao=>?_⟩)))))
 ·refine Zo (Zn (Zk (ACc rfl rfl (Zk ?_))));have A7:=AA7 Ad Ao;by_cases Ai:a1=1
  ·rw [decide_eq_true Ai];refine AHi 26 true (AAd rfl (Zr (AAl rfl (Zn (AAi (Zv (Zy (AAc (AAc ?_)))))))));obtain rfl:=Zm (ifT A7 Ai);exact ⟨_,ABg,Aa.x,rfl⟩
  ·have A8:=ifF A7 Ai;rw [decide_eq_false Ai];refine AAk 26 false (Zk (AAk 26 false (ACc rfl rfl (AAo rfl (Zr (⟨_,rfl,fun Ap=>?_,fun Ap=>?_⟩))))))
   ·refine Zn (AAi (Zv (Zy (AAc (AAc ?_)))));obtain rfl:=Zm (AA7 A8 Ap);exact ⟨_,ABg,Aa.x,rfl⟩
   ·refine Zx (q_t (Zn (AAi (Zv (Zy (AAc ?_))))));obtain rfl:=Zm (AA8 A8 Ap);exact ⟨_,ABg,Aa.x,rfl⟩
 ·refine Zx (q_t (Zn (Zv ?_)));obtain ⟨Bj,A9,Bl⟩:=Zp (AA8 Ad Ao);refine AI8 67645734978 (fun x:(Int) × (Int)=>[(1,(.int .i64 x.1)),(6,(.int .i64 x.2))]) (fun x h'=>( (x.1,x.2))=Bj/\Kst h h' (Aa.L)) ?_ ?_
  ·refine Zn (Zk (AAy rfl rfl (Zr (⟨_,rfl,fun Aq=>?_,fun Aq=>?_⟩))))
   ·refine Zn (Zk (AUi rfl (AA3 (Zk (AAy rfl rfl (Zr ?_))))));have Ba:=AA7 A9 Aq;refine ⟨_,rfl,fun Ar=>?_,fun Ar=>?_⟩
    ·refine Z1 (Zv ?_);exact ⟨(((w64 (0 - a2)),(-1)):(Int) × (Int)),⟨Zm (AA7 Ba Ar),Aa⟩,rfl,rfl,trivial⟩
    ·refine Zx (q_t ?_);exact ⟨(((w64 (0 - a2)),1):(Int) × (Int)),⟨Zm (AA8 Ba Ar),Aa⟩,rfl,rfl,trivial⟩
   ·refine Zx (q_t ?_);exact ⟨((a2,1):(Int) × (Int)),⟨Zm (AA8 A9 Aq),Aa⟩,rfl,rfl,trivial⟩
  rintro ⟨u64,B5⟩ B6 B7 ⟨Bm,Bb⟩;subst Bm;refine Zo (Zt (AHm 18014329790005490 Bl (fun x=>[(1,(.int .i64 x.1)),(6,(.int .i64 x.2))]) (fun x=>Bb.L) Bb ⟨rfl,rfl,trivial⟩ ?_));rintro ⟨B8,Au⟩ B9 Ca Cb Aj Av Bc;unfold AIs at Av;refine Zo (Zn (Zk (ADo rfl rfl Zl (ACc rfl rfl (Zr (⟨_,rfl,fun Aw=>?_,fun Aw=>?_⟩))))))
  ·refine Zx (q_t (Zt (Zo (Zn (Zk (ADo rfl rfl Zl (ACc rfl rfl (Zr ?_))))))));have Be:=AA7 Av Aw;refine ⟨_,rfl,fun Ax=>?_,fun Ax=>?_⟩
   ·refine Zn (AAi (Zv (Zy (AAc (ABp (AAc (ABp (AAc ?_))))))));obtain rfl:=Zm (Bc _ (Zm (AA7 Be Ax)).symm);exact ⟨_,ABg,Aj.x,rfl⟩
   ·refine Zx (q_t ?_);obtain ⟨Bn,Bo,Bp⟩:=Zp (AA8 Be Ax);refine AI8 4499201580859584 (fun x:(Int)=>[(6,(.int .i64 x))]) (fun x h'=>( x)=Bn/\Kst h h' (Aj.L)) ?_ ?_
    ·refine Zn (Zk ?_);obtain ⟨Bq,Br,Bf⟩:=Zp Bo;refine ADk Aj (AP2 Br) fun Cd Ce Ay=>AA3 (Zk (ACc rfl rfl (Zk ?_)));by_cases Ak:Bq=3
     ·rw [decide_eq_true Ak];refine AHi 46 true (AAd rfl (Zr (AAl rfl (Z1 (Zk (AUi rfl (Zv ?_)))))));exact ⟨((w64 (0 - Au)):(Int)),⟨Zm (ifT Bf Ak),Ay⟩,rfl,trivial⟩
     ·have Bg:=ifF Bf Ak;rw [decide_eq_false Ak];refine AAk 46 false (Zk (AAk 46 false (ACc rfl rfl (AAo rfl (Zr (⟨_,rfl,fun Az=>?_,fun Az=>?_⟩))))))
      ·refine Z1 (Zk (AUi rfl (Zv ?_)));exact ⟨((w64 (0 - Au)):(Int)),⟨Zm (AA7 Bg Az),Ay⟩,rfl,trivial⟩
      ·refine Zx (q_t ?_);exact ⟨(Au:(Int)),⟨Zm (AA8 Bg Az),Ay⟩,rfl,trivial⟩
    rintro Cf Cg Ch ⟨Bt,Bu⟩;subst Bt;refine Z1 (Zk (AP9 rfl rfl Zl (AAi (AAh (q_b (q_t ?_))))));exact ⟨_,(Zm Bp).symm,Bu,rfl,rfl,trivial⟩
  ·refine AAe (AAf (AAf (ABk (q_t (Zn (Zk (Zk (Zk ?_))))))));obtain ⟨Ci,Bv,Bw⟩:=Zp (Bc _ (Zm (AA8 Av Aw)).symm);refine ADk Aj (AP2 Bv) fun Cj Ck Bx=>Zk ?_;obtain ⟨Cm,By,Bz⟩:=Zp Bw;refine ADk Bx (AV4 By) fun Cn Co B1=>AK2 rfl rfl (AAi (Zv (Zy ?_)));obtain rfl:=Zm Bz;exact ⟨_,ABg,B1.x,rfl⟩
noncomputable def AI0 (fuel:Nat) (a1:Int) (a8:(List AK7)) (Ae:(List AH8)) (Ad:Int):Option (((List AH8) × Int) ⊕ ((((List AH8) × Bool)) ⊕ ((List AH8)))):=
  (if Ad < (a8.length:Int) then ((gI a8 Ad).bind fun Aa=>(((if ¬ Aa.2.1=1 then (some (Sum.inl <| ([],false))) else (if Aa.1 < 0 then (some (Sum.inl <| ([],false))) else (if 60 < Aa.1 then (some (Sum.inl <| ([],false))) else (if ¬ Aa.2.2.2.1=0 then (some (Sum.inl <| ([],false))) else (if ¬ Aa.2.2.2.2=0 then (some (Sum.inl <| ([],false))) else (if a1≠0 then (if (Int.tmod Aa.2.2.1 a1)=0 then (some (Sum.inl <| ([],false))) else (some (Sum.inr <| ()))) else none)))))):Option ((((List AH8) × Bool)) ⊕ (Unit))).bind (fun ex=>match ex with | Sum.inl Ai=>(some (Sum.inr<| Sum.inl <| Ai)) | Sum.inr (_)=>(((if 0 < Ad then ((gI a8 (w64 (Ad - 1))).bind fun Aj=>(if Aa.1 < Aj.1 then (some (Sum.inl <| ([],false))) else (some (Sum.inr <| ())))) else (some (Sum.inr <| ()))):Option ((((List AH8) × Bool)) ⊕ (Unit))).bind (fun ex=>match ex with | Sum.inl Ak=>(some (Sum.inr<| Sum.inl <| Ak)) | Sum.inr (_)=>(((if Ad=0 then (if Ae.length<=100000000 then (some ( (Ae ++ [(Aa.1,0,1,false,0)]))) else none) else ((gI a8 (w64 (Ad - 1))).bind fun Am=>(if Am.1 < Aa.1 then (if Ae.length<=100000000 then (some ( (Ae ++ [(Aa.1,0,1,false,0)]))) else none) else (some ( Ae))))):Option (((List AH8)))).bind (fun (Ac:(List AH8))=>(if a1≠0 then ((AFh fuel (Int.tmod Aa.2.2.1 a1) a1).bind fun (Ao,Ap)=>((gI Ac (w64 ((Ac.length:Int) - 1))).bind fun Ab=>((gI (sI Ac (w64 ((Ac.length:Int) - 1)) (Ab.1,(w64 (Ab.2.1 + 1)),Ab.2.2.1,Ab.2.2.2.1,Ab.2.2.2.2)) (w64 ((Ac.length:Int) - 1))).bind fun Ag=>(some (Sum.inl ((sI (sI Ac (w64 ((Ac.length:Int) - 1)) (Ab.1,(w64 (Ab.2.1 + 1)),Ab.2.2.1,Ab.2.2.2.1,Ab.2.2.2.2)) (w64 ((Ac.length:Int) - 1)) (Ag.1,Ag.2.1,(w64 (Ag.2.2.1 * Ao)),Ag.2.2.2.1,Ag.2.2.2.2)),(w64 (Ad + 1)))))))) else none)))))))) else (some (Sum.inr<| Sum.inr <| Ae)))
noncomputable def ADl (fuel:Nat) (a1:Int) (a4:LiI) (a8:(List AK7)):Option ((List AH8) × Bool):=
  ((((ALe fuel a1).bind fun Ac=>(if (!Ac)=true then (some (Sum.inl <| ([],false))) else (if (a8.length:Int) < 1 then (some (Sum.inl <| ([],false))) else (if 8 < (a8.length:Int) then (some (Sum.inl <| ([],false))) else (some (Sum.inr <| ())))))):Option ((((List AH8) × Bool)) ⊕ (Unit))).bind (fun ex=>match ex with | Sum.inl Ad=>(some Ad) | Sum.inr (_)=>((iter (fun s=>AI0 fuel a1 a8 s.1 s.2) fuel ([],0)).bind (fun ex=>match ex with | Sum.inl Ae=>(some Ae) | Sum.inr (Af)=>(some (Af,true))))))
theorem AL1 {fuel:Nat} {h:Zs} {a1:Int} {A6:Value} {a4:LiI} {A7:Value} {a8:(List AK7)} {r:((List AH8) × Bool)} (H3:AEq (cI .i64) h A6 a4) (H7:SlC AR1 h A7 a8) (HO:AS8 h) (hp:ADl fuel a1 a4 a8=some r):AAs Tryz.prog 19 #[(.agg #[(.int .i64 a1),A6,A7])] h (fun x h'=>Ext h h'/\ ∃ (x0:Value) (F0:List Nat),x= .tuple #[x0,.bool r.2]/\OwC AN1 48 h' F0 x0 r.1/\Sp h' h.size [F0]):=by
 unfold ADl at hp;refine cwf (l:=[_]) Tryz.func19 rfl rfl (Zn (AHg (Kst.k0 h) [(.int .i64 a1),A6,A7] fun Ea Eb Ec Ao=>AAi (Zv ?_)));obtain ⟨Cn,Co,Ap⟩:=Zp hp;refine AI8 67107852 (fun x:Unit=>[]) (fun x h'=>(Sum.inr <| ())=Cn/\Kst h h' (Ao.L)) ?_ ?_
 ·refine Zn (AEy AOs AAt (Ao.b p0) 0 rfl ?_);obtain ⟨Cp,Cq,By⟩:=Zp Co;refine ADk Ao (AQk (HO.ext Ao.x) Cq) fun Ed Ee Ah=>ADp rfl (Zk ?_);cases Bz:(!Cp)
  ·refine AAk 14 false (ACz AMv rfl (AAk 14 false (AA6 ATf rfl ((Ah.b p0).cell (i:=2) rfl) (AAk 14 false (ABr ASq rfl H7 (AAk 14 false (AAy rfl rfl (AAo rfl (Zk ?_)))))))));have B1:=AH9 By Bz;by_cases Aq:(a8.length:Int) < 1
   ·rw [decide_eq_true Aq];refine APd 20 true (AAd rfl (Zr (AAl rfl (Zn (AAi (Zv ?_))))));obtain rfl:=Zm (ifT B1 Aq);refine Zy (AAc ?_);have A9:=Kst.anil AN1 48 Ah;obtain rfl:=Zm Ap;exact ⟨_,ABg,A9.x,_,_,rfl,(A9.o p0),A9.s.sel [0] Zl⟩
   ·have B3:=ifF B1 Aq;rw [decide_eq_false Aq];refine AAk 20 false (ACz AMv rfl (AAk 20 false (AA6 ATf rfl ((Ah.b p0).cell (i:=2) rfl) (AAk 20 false (ABr ASq rfl H7 (AAk 20 false (AGz rfl rfl (AAo rfl (Zr (⟨_,rfl,fun Ba=>?_,fun Ba=>?_⟩))))))))))
    ·refine Zn (AAi (Zv ?_));obtain rfl:=Zm (AA7 B3 Ba);refine Zy (AAc ?_);have Bb:=Kst.anil AN1 48 Ah;obtain rfl:=Zm Ap;exact ⟨_,ABg,Bb.x,_,_,rfl,(Bb.o p0),Bb.s.sel [0] Zl⟩
    ·refine Zx (q_t ?_);exact ⟨(():Unit),⟨Zm (AA8 B3 Ba),Ah⟩,trivial⟩
  ·refine APd 14 true (AAd rfl (Zk (APd 20 true (AAd rfl (Zr (AAl rfl (Zn (AAi (Zv ?_)))))))));obtain rfl:=Zm (ifT By Bz);refine Zy (AAc ?_);have Bc:=Kst.anil AN1 48 Ah;obtain rfl:=Zm Ap;exact ⟨_,ABg,Bc.x,_,_,rfl,(Bc.o p0),Bc.s.sel [0] Zl⟩
 rintro ⟨⟩ Ef Eg ⟨Cr,B4⟩;subst Cr;refine Zn (Zv (Zo (Zn (AEy AMv ATf (B4.b p0) 2 rfl (ABr ASq rfl H7 (Zk (Zr (Zt ?_))))))));have B5:=Kst.anil AN1 48 B4;refine AFr 2722258935367507707706996859453608821756 (fun x:((List AH8)) × (Value) × LnA × (Int)=>(x.1,x.2.2.2)) (([],(.slice none 0 0),[],0):((List AH8)) × (Value) × LnA × (Int)) Ap (fun x=>[(4,x.2.1),(29,(.int .i64 x.2.2.2))]) (fun x=>B5.L.set 0 (aO AN1 48 x.2.2.1 x.2.1 x.1)) B5 ⟨rfl,rfl,trivial⟩ ?_;rintro ⟨Be,Ct,Cu,B6⟩ Eh Ei Ej Ai Bf Ad;unfold AI0 at Bf;refine Zn (AAy rfl rfl (Zr (Zo (⟨_,rfl,fun Bg=>?_,fun Bg=>?_⟩))))
 ·refine Zx (q_t (Zo (Zt (Zn (Zk ?_)))));obtain ⟨Aa,Cv,Cw⟩:=Zp (AA7 Bf Bg);refine AJb (c:=AR1) ASq rfl H7 rfl Cv fun Ek El Em Cx Cy=>?_;obtain rfl:=Cx;refine ANh (c:=AR1) ANk rfl rfl (fun j u hu=>(AAu (Cy j u hu) Ai.x)) (ACx Ai [(.int .i64 0),(.int .i64 0),(.int .i64 0),(.int .i64 0),(.int .i64 0)] ATg fun En Eo Ep B7=>AAi (AB3 [(.int .i64 Aa.1),(.int .i64 Aa.2.1),(.int .i64 Aa.2.2.1),(.int .i64 Aa.2.2.2.1),(.int .i64 Aa.2.2.2.2)] ANk rfl rfl rfl rfl (by simp [isOne]) (B7.b p0) fun Er Cz C0=>Zr ?_));have Ab:=B7.sb p0 C0 Cz rfl;obtain ⟨C1,B8,Ae⟩:=Zp Cw;refine AI8 36893488130239234060 (fun x:Unit=>[]) (fun x h'=>(Sum.inr <| ())=C1/\Kst h h' (Ab.L)) ?_ ?_
  ·refine Zn (AEy An2 ABt (Ab.b p0) 1 rfl (ADc rfl rfl (Zk ?_)));by_cases Ar: ¬ Aa.2.1=1
   ·rw [decide_eq_true Ar];refine AH3 37 true (AAd rfl (Zk (AH3 42 true (AAd rfl (Zk (AH3 47 true (AAd rfl (Zk (AH3 52 true (AAd rfl (Zk (AE5 57 true (AW7 57 true (AAd rfl (Zr (AAl rfl (Zn (AAi (Zv ?_)))))))))))))))))));obtain rfl:=Zm (ifT B8 Ar);refine Zy (AAc (ABp (AAc (AAc (ABp (AAc ?_))))));have Bh:=Kst.anil AN1 48 Ab;obtain rfl:=Zm (Ad _ (Zm Ae).symm);exact ⟨_,ABg,Bh.x,_,_,rfl,(Bh.o p0),Bh.s.sel [0] Zl⟩
   ·have B9:=ifF B8 Ar;rw [decide_eq_false Ar];refine AAk 37 false (ACz AKs rfl (AAk 37 false (AA6 ABt rfl ((Ab.b p0).cell (i:=0) rfl) (AAk 37 false (AAy rfl rfl (AAo rfl (Zk ?_)))))));by_cases Au:Aa.1 < 0
    ·rw [decide_eq_true Au];refine AH3 42 true (AAd rfl (Zk (AH3 47 true (AAd rfl (Zk (AH3 52 true (AAd rfl (Zk (AE5 57 true (AW7 57 true (AAd rfl (Zr (AAl rfl (Zn (AAi (Zv ?_))))))))))))))));obtain rfl:=Zm (ifT B9 Au);refine Zy (AAc (ABp (AAc (AAc (ABp (AAc ?_))))));have Bi:=Kst.anil AN1 48 Ab;obtain rfl:=Zm (Ad _ (Zm Ae).symm);exact ⟨_,ABg,Bi.x,_,_,rfl,(Bi.o p0),Bi.s.sel [0] Zl⟩
    ·have Ca:=ifF B9 Au;rw [decide_eq_false Au];refine AAk 42 false (ACz AKs rfl (AAk 42 false (AA6 ABt rfl ((Ab.b p0).cell (i:=0) rfl) (AAk 42 false (AGz rfl rfl (AAo rfl (Zk ?_)))))));by_cases Av:60 < Aa.1
     ·rw [decide_eq_true Av];refine AH3 47 true (AAd rfl (Zk (AH3 52 true (AAd rfl (Zk (AE5 57 true (AW7 57 true (AAd rfl (Zr (AAl rfl (Zn (AAi (Zv ?_)))))))))))));obtain rfl:=Zm (ifT Ca Av);refine Zy (AAc (ABp (AAc (AAc (ABp (AAc ?_))))));have Bj:=Kst.anil AN1 48 Ab;obtain rfl:=Zm (Ad _ (Zm Ae).symm);exact ⟨_,ABg,Bj.x,_,_,rfl,(Bj.o p0),Bj.s.sel [0] Zl⟩
     ·have Cb:=ifF Ca Av;rw [decide_eq_false Av];refine AAk 47 false (ACz An3 rfl (AAk 47 false (AA6 AAt rfl ((Ab.b p0).cell (i:=3) rfl) (AAk 47 false (ADc rfl rfl (AAo rfl (Zk ?_)))))));by_cases Aw: ¬ Aa.2.2.2.1=0
      ·rw [decide_eq_true Aw];refine AH3 52 true (AAd rfl (Zk (AE5 57 true (AW7 57 true (AAd rfl (Zr (AAl rfl (Zn (AAi (Zv ?_))))))))));obtain rfl:=Zm (ifT Cb Aw);refine Zy (AAc (ABp (AAc (AAc (ABp (AAc ?_))))));have Bl:=Kst.anil AN1 48 Ab;obtain rfl:=Zm (Ad _ (Zm Ae).symm);exact ⟨_,ABg,Bl.x,_,_,rfl,(Bl.o p0),Bl.s.sel [0] Zl⟩
      ·have Cd:=ifF Cb Aw;rw [decide_eq_false Aw];refine AAk 52 false (ACz An4 rfl (AAk 52 false (AA6 AAt rfl ((Ab.b p0).cell (i:=4) rfl) (AAk 52 false (ADc rfl rfl (AAo rfl (Zk ?_)))))));by_cases Ax: ¬ Aa.2.2.2.2=0
       ·rw [decide_eq_true Ax];refine AE5 57 true (AW7 57 true (AAd rfl (Zr (AAl rfl (Zn (AAi (Zv ?_)))))));obtain rfl:=Zm (ifT Cd Ax);refine Zy (AAc (ABp (AAc (AAc (ABp (AAc ?_))))));have Bm:=Kst.anil AN1 48 Ab;obtain rfl:=Zm (Ad _ (Zm Ae).symm);exact ⟨_,ABg,Bm.x,_,_,rfl,(Bm.o p0),Bm.s.sel [0] Zl⟩
       ·rw [decide_eq_false Ax];refine AAk 57 false (ACz AT0 rfl (AAk 57 false (AA6 AAt rfl ((Ab.b p0).cell (i:=2) rfl) (AAk 57 false (ACz AOs rfl (AAk 57 false (AA6 AAt rfl ((Ab.b p2).cell (i:=0) rfl) (AAk 57 false ?_))))))));obtain ⟨C2,Ce⟩:=ifN (ifF Cd Ax);refine ADo rfl rfl C2 (AAk 57 false (ACc rfl rfl (AAo rfl (Zr (⟨_,rfl,fun Bn=>?_,fun Bn=>?_⟩)))))
        ·refine Zn (AAi (Zv ?_));obtain rfl:=Zm (AA7 Ce Bn);refine Zy (AAc (ABp (AAc (AAc (ABp (AAc ?_))))));have Bo:=Kst.anil AN1 48 Ab;obtain rfl:=Zm (Ad _ (Zm Ae).symm);exact ⟨_,ABg,Bo.x,_,_,rfl,(Bo.o p0),Bo.s.sel [0] Zl⟩
        ·refine Zx (q_t ?_);exact ⟨(():Unit),⟨Zm (AA8 Ce Bn),Ab⟩,trivial⟩
  rintro ⟨⟩ Es Et ⟨C3,Af⟩;subst C3;obtain ⟨C4,Cf,Cg⟩:=Zp Ae;refine AI8 604426016319167168249868 (fun x:Unit=>[]) (fun x h'=>(Sum.inr <| ())=C4/\Kst h h' (Af.L)) ?_ ?_
  ·refine Zo (AGh (Zk (AGz rfl rfl (Zk ?_))));by_cases Ay:0 < B6
   ·rw [decide_eq_true Ay];refine AAk 67 true (ACz AKs rfl (AAk 67 true (AA6 ABt rfl ((Af.b p0).cell (i:=0) rfl) (AAk 67 true (ACz AMv rfl (AAk 67 true (AA6 ATf rfl ((Af.b p2).cell (i:=2) rfl) (AAk 67 true (Zk (AAk 67 true (AE4 rfl rfl (AAk 67 true ?_))))))))))));obtain ⟨Eu,C5,Ch⟩:=Zp (ifT Cf Ay);refine AJb (c:=AR1) ASq rfl H7 rfl C5 fun Ev Ew Ey C6 C7=>?_;obtain rfl:=C6;refine AAk 67 true (ACz AKs rfl (AAk 67 true (AA6 ABt rfl (AAu (C7 0 _ rfl) Af.x) (AAk 67 true (AAy rfl rfl (AAd rfl (Zr (⟨_,rfl,fun Bp=>?_,fun Bp=>?_⟩))))))))
    ·refine Zn (AAi (Zv ?_));obtain rfl:=Zm (AA7 Ch Bp);refine Zy (AAc (ABp (AAc (AAc (ABp (AAc ?_))))));have Bq:=Kst.anil AN1 48 Af;obtain rfl:=Zm (Ad _ (Zm Cg).symm);exact ⟨_,ABg,Bq.x,_,_,rfl,(Bq.o p0),Bq.s.sel [0] Zl⟩
    ·refine Zx (q_t ?_);exact ⟨(():Unit),⟨Zm (AA8 Ch Bp),Af⟩,trivial⟩
   ·rw [decide_eq_false Ay];refine AE5 67 false (AE5 67 false (AAo rfl (Zr (AAq rfl (Zx (q_t ?_))))));exact ⟨(():Unit),⟨Zm (ifF Cf Ay),Af⟩,trivial⟩
  rintro ⟨⟩ Ez Fa ⟨C8,Ac⟩;subst C8;obtain ⟨C9,Ci,Da⟩:=Zp Cg;refine AI8 633824695651204893433764249616 (fun x:((List AH8)) × (Value) × LnA=>[(4,x.2.1)]) (fun x h'=>( x.1)=C9/\Kst h h' (Ac.L.set 1 (aO AN1 48 x.2.2 x.2.1 x.1))) ?_ ?_
  ·refine Zo (AGh (Zk (ACc rfl rfl (Zk ?_))));by_cases Az:B6=0
   ·rw [decide_eq_true Az];refine AE5 81 true (AE5 81 true (AAd rfl (Zr (AAl rfl (Z1 (Zk (AEy AKs ABt (Ac.b p0) 0 rfl (AC5 (v:=(.agg #[(.int .i64 Aa.1),(.int .i64 0),(.int .i64 1),(.bool false),(.int .i64 0)])) (fun _=>by kernel_rfl) ?_))))))));obtain ⟨Db,Dc⟩:=ifN (ifT Ci Az);refine ALl ASr Abe rfl rfl trivial tt2 (fun _=>rfl) rfl (show (AN1).rep _ (Aa.1,0,1,false,0) [(.int .i64 Aa.1),(.int .i64 0),(.int .i64 1),(.bool false),(.int .i64 0)] from rfl) (Ac.o p1) Zl Db fun Fb Dd De Fc Df Dg Dh=>Zv ?_;exact ⟨(((Be ++ [(Aa.1,0,1,false,0)]),De,Dd):((List AH8)) × (Value) × LnA),⟨Zm Dc,(Ac.uo p1 Dg Df Dh)⟩,rfl,trivial⟩
   ·rw [decide_eq_false Az];refine AAk 81 false (ACz AKs rfl (AAk 81 false (AA6 ABt rfl ((Ac.b p0).cell (i:=0) rfl) (AAk 81 false (ACz AMv rfl (AAk 81 false (AA6 ATf rfl ((Ac.b p2).cell (i:=2) rfl) (AAk 81 false (Zk (AAk 81 false (AE4 rfl rfl (AAk 81 false ?_))))))))))));obtain ⟨Fd,Di,Cj⟩:=Zp (ifF Ci Az);refine AJb (c:=AR1) ASq rfl H7 rfl Di fun Fe Ff Fg Dj Dk=>?_;obtain rfl:=Dj;refine AAk 81 false (ACz AKs rfl (AAk 81 false (AA6 ABt rfl (AAu (Dk 0 _ rfl) Ac.x) (AAk 81 false (AGz rfl rfl (AAo rfl (Zr (⟨_,rfl,fun Br=>?_,fun Br=>?_⟩))))))))
    ·refine Z1 (Zk (AEy AKs ABt (Ac.b p0) 0 rfl (AC5 (v:=(.agg #[(.int .i64 Aa.1),(.int .i64 0),(.int .i64 1),(.bool false),(.int .i64 0)])) (fun _=>by kernel_rfl) ?_)));obtain ⟨Dl,Do⟩:=ifN (AA7 Cj Br);refine ALl ASr Abe rfl rfl trivial tt2 (fun _=>rfl) rfl (show (AN1).rep _ (Aa.1,0,1,false,0) [(.int .i64 Aa.1),(.int .i64 0),(.int .i64 1),(.bool false),(.int .i64 0)] from rfl) (Ac.o p1) Zl Dl fun Fh Dp Dq Fi Dr Ds Dt=>Zv ?_;exact ⟨(((Be ++ [(Aa.1,0,1,false,0)]),Dq,Dp):((List AH8)) × (Value) × LnA),⟨Zm Do,(Ac.uo p1 Ds Dr Dt)⟩,rfl,trivial⟩
    ·refine Zx (q_t ?_);exact ⟨((Be,Ct,Cu):((List AH8)) × (Value) × LnA),⟨Zm (AA8 Cj Br),Ac⟩,rfl,trivial⟩
  rintro ⟨Fj,Fk,Fl⟩ Fm Fo ⟨Du,A3⟩;subst Du;refine Zo (AGh (AEy AT0 AAt (A3.b p0) 2 rfl (AEy AOs AAt (A3.b p2) 0 rfl ?_)));obtain ⟨Dv,Dw⟩:=ifN Da;refine ADo rfl rfl Dv (AEy AOs AAt (A3.b p2) 0 rfl ?_);obtain ⟨⟨Dx,Fp⟩,Dy,Ck⟩:=Zp Dw;dsimp only at Ck;refine ADk A3 (ATu Dy) fun Fq Fr Aj=>Zk (ABj rfl rfl (ABj rfl rfl (AAi (AA3 (Zk (Zk (ABr ASr rfl (Aj.o p1).rd (AE4 rfl rfl ?_))))))));obtain ⟨Ak,Bt,Dz⟩:=Zp Ck;refine AW8 ASr rfl (Aj.o p1) rfl Bt fun Ft A4=>AA3 (Zk (ACm rfl (ACz AXq rfl ?_)));obtain ⟨Fu,D0,D1⟩:=(Aj.o p1).cells A4 Bt;obtain rfl:=D0;refine AA6 ABt rfl (D1 1 _ rfl) (AAz rfl rfl (ACm rfl (ACz AXq rfl (Ak6 (c:=AN1) (a':=(Ak.1,(w64 (Ak.2.1 + 1)),Ak.2.2.1,Ak.2.2.2.1,Ak.2.2.2.2)) ABt rfl rfl rfl Zl (Aj.o p1) A4 Bt (fun _ q=>by cases q;rfl) fun Fv D2 D3=>Zr (Z1 (Zk (ACm rfl (ACz Abf rfl ?_))))))));have Bu:=Aj.uO p1 D3 D2;obtain ⟨Am,Cm,D4⟩:=Zp Dz;obtain ⟨Fw,D5,D6⟩:=(Bu.o p1).cells A4 Cm;obtain rfl:=D5;refine AA6 ABt rfl (D6 2 _ rfl) (Zk (AK2 rfl rfl (ACm rfl (ACz Abf rfl (Ak6 (c:=AN1) (a':=(Am.1,Am.2.1,(w64 (Am.2.2.1 * Dx)),Am.2.2.2.1,Am.2.2.2.2)) ABt rfl rfl rfl Zl (Bu.o p1) A4 Cm (fun _ q=>by cases q;rfl) fun Fx D7 D8=>AAh (q_b (q_t (Z1 (AAz rfl rfl (Zk (Zr ?_)))))))))));exact ⟨(_,_,_,_),(Zm D4).symm,(Bu.uO p1 D8 D7).sel [1,2] Zl,rfl,rfl,trivial⟩
 ·refine AAe (AAf (AAf (ABk (q_t (Zn (Zk (AAi (Zv (Zy ?_)))))))));obtain rfl:=Zm (Ad _ (Zm (AA8 Bf Bg)).symm);exact ⟨_,ABg,Ai.x,_,_,rfl,(Ai.o p0),Ai.s.sel [0] Zl⟩
noncomputable def AFw (fuel:Nat):Option Bool:=
  ((ADl fuel 3 ([([1,4]:List Int),([0,1]:List Int)]:List LiA) ([(0,1,2,0,0),(1,1,2,0,0)]:List AK7)).bind fun (Aa,Ab)=>((AJ8 fuel ([([2,1]:List Int),([1,2]:List Int)]:List LiA) 3).bind fun (Ac,Ad)=>(if Ab=true then (if Ac=2 then (if Ad=0 then ((AL4 fuel ([([2,1]:List Int),([1,2]:List Int)]:List LiA) 3 ([([1,4]:List Int),([0,1]:List Int)]:List LiA) ([(0,1,2,0,0),(1,1,2,0,0)]:List AK7)).bind fun Ae=>(if Ae=0 then ((AIz fuel Aa ([(0,1,(-1),false,0),(1,1,(-1),false,0)]:List AH8)).bind fun Af=>(some Af)) else (some false))) else (some false)) else (some false)) else (some false))))
theorem AQ2 {fuel:Nat} {h:Zs} {r:Bool} (HO:AS8 h) (hp:AFw fuel=some r):AAs Tryz.prog 13 #[] h (fun x h'=>Ext h h'/\x= .bool r):=by
 unfold AFw at hp;refine cwf (l:=[]) Tryz.func13 rfl rfl (Zn (AA3 (AWk (κ:= .i64) [2,1] AAj AJx rfl rfl trivial tt2 rfl rfl rfl rfl fun b1 v2 h3 I4 E5 A6 A7=>AWk (κ:= .i64) [1,2] AAj AJx rfl rfl trivial tt2 rfl rfl rfl rfl fun A8 A9 Cv Ba Bb Bc Be=>?_)));have Ab:=((Kst.k0 h).no E5 (AEv A6 A7) I4).no Bb (AEv Bc Be) Ba;have Aq:=(((Ab.a0).grab p1).grab p0);refine AWn (c:=(cI .i64)) (el:=2) [[b1],[A8]] [v2,A9] [([2,1]:List Int),([1,2]:List Int)] AAn AMp rfl rfl trivial tt2 rfl rfl rfl rfl (AIm (Ab.o p1).isOne (AIm (Ab.o p0).isOne AT3)) ⟨(Ab.o p1),(Ab.o p0),trivial⟩ (by simpa using Aq.ndT) fun Cw Cx Cy Bf Bg Bh=>AA3 (AWk (κ:= .i64) [1,4] AAj AJx rfl rfl trivial tt2 rfl rfl rfl rfl fun Bi Bj Cz Bl Bm Bn Bo=>AWk (κ:= .i64) [0,1] AAj AJx rfl rfl trivial tt2 rfl rfl rfl rfl fun Bp Bq C0 Br Bt Bu Bv=>?_);have Ac:=((Aq.lit Bg Bf (by simpa using Bh)).no Bm (AEv Bn Bo) Bl).no Bt (AEv Bu Bv) Br;have Ar:=(((Ac.a0).grab p1).grab p0);refine AWn (c:=(cI .i64)) (el:=2) [[Bi],[Bp]] [Bj,Bq] [([1,4]:List Int),([0,1]:List Int)] AAn AMp rfl rfl trivial tt2 rfl rfl rfl rfl (AIm (Ac.o p1).isOne (AIm (Ac.o p0).isOne AT3)) ⟨(Ac.o p1),(Ac.o p0),trivial⟩ (by simpa using Ar.ndT) fun C1 Ae C2 Bw Bx By=>AC5 (v:=(.agg #[(.int .i64 0),(.int .i64 1),(.int .i64 2),(.int .i64 0),(.int .i64 0)])) (fun _=>by kernel_rfl) (AC5 (v:=(.agg #[(.int .i64 1),(.int .i64 1),(.int .i64 2),(.int .i64 0),(.int .i64 0)])) (fun _=>by kernel_rfl) (Alh AR1 ([(0,1,2,0,0),(1,1,2,0,0)]:List AK7) [[(.int .i64 0),(.int .i64 1),(.int .i64 2),(.int .i64 0),(.int .i64 0)],[(.int .i64 1),(.int .i64 1),(.int .i64 2),(.int .i64 0),(.int .i64 0)]] [(0,(.agg #[(.int .i64 0),(.int .i64 1),(.int .i64 2),(.int .i64 0),(.int .i64 0)])),(1,(.agg #[(.int .i64 1),(.int .i64 1),(.int .i64 2),(.int .i64 0),(.int .i64 0)]))] ASq ATg rfl trivial tt2 rfl rfl rfl Zw rfl (AXu (fun _=>rfl) (AXu (fun _=>rfl) Agy)) fun C3 Af C4 Bz B1 B3 B4=>?_));have Ak:=(Ar.lit Bx Bw (by simpa using By)).no B1 (AEv B3 B4) Bz;obtain ⟨_,_,_,B5⟩:=(Ak.o2 p1).rd.shape;obtain ⟨_,_,_,B6⟩:=(Ak.o p0).rd.shape;refine AC5 (v:=(.agg #[(.int .i64 3),Ae,Af])) (fun _=>by subst B5;subst B6;kernel_rfl) (ACx Ak [(.int .i64 0),(.slice none 0 0),(.slice none 0 0)] Abd fun C5 C6 C7 Ag=>AB3 [(.int .i64 3),Ae,Af] AMu rfl rfl rfl rfl (AIm rfl (AIm (Ag.o2 p2).isOne (AIm (Ag.o p1).isOne AT3))) (Ag.b p0) fun C8 B7 B8=>AHj ?_);have Ad:=Ag.sb p0 B8 B7 rfl;refine AMo [(.int .i64 3),Ae,Af] AMu rfl rfl (Ad.b p0).agg ?_;obtain ⟨⟨C9,B9⟩,Ca,Au⟩:=Zp hp;dsimp only at Au;refine AMx rfl (AL1 (Ad.o2 p2).rd (Ad.o p1).rd (HO.ext Ad.x) Ca) fun Da Db Cb Cd=>?_;obtain ⟨Dc,Dd,rfl,Ce,Cf⟩:=Cd;refine Zk (ABj rfl rfl (ABj rfl rfl (AAi (AA3 (Zk ?_)))));have Am:=Ad.no Cb Cf Ce;obtain ⟨⟨Cg,Ch⟩,Ci,Ao⟩:=Zp Au;dsimp only at Ao;refine ADk Am (ASv (Am.o2 p6).rd (HO.ext Am.x) Ci) fun De Df Aa=>Zk (ABj rfl rfl (ABj rfl rfl (AAi (AA3 (Zk (Zk ?_))))));cases Av:B9
 ·refine AHi 28 false (AAo rfl (Zk (AHi 32 false (AAo rfl (Zk (APd 36 false (AAo rfl (Zk (AE5 42 false (AAo rfl (Zv (Zy ?_))))))))))));obtain rfl:=Zm (AH9 Ao Av);exact ⟨_,Zz,Aa.x,rfl⟩
 ·refine AAk 28 true (Zk (AAk 28 true (ACc rfl rfl (AAd rfl (Zk ?_)))));have Aw:=ifT Ao Av;by_cases Ah:Cg=2
  ·have Ax:=ifT Aw Ah;rw [decide_eq_true Ah];refine AAk 32 true (Zk (AAk 32 true (ACc rfl rfl (AAd rfl (Zk ?_)))));by_cases Ai:Ch=0
   ·rw [decide_eq_true Ai];refine AAk 36 true (Zk (AAk 36 true (AMo [(.int .i64 3),Ae,Af] AMu rfl rfl (Aa.b p1).agg (AAk 36 true ?_))));obtain ⟨Cj,Ck,Ay⟩:=Zp (ifT Ax Ai);refine ADk Aa (AU3 (Aa.o2 p6).rd (Aa.o2 p3).rd (Aa.o p2).rd (HO.ext Aa.x) Ck) fun Dg Dh Az=>AAk 36 true (ACc rfl rfl (AAd rfl (Zk ?_)));by_cases Aj:Cj=0
    ·rw [decide_eq_true Aj];refine AAk 42 true (Zk (AAk 42 true (AC5 (v:=(.agg #[(.int .i64 0),(.int .i64 1),(.int .i64 (-1)),(.bool false),(.int .i64 0)])) (fun _=>by kernel_rfl) (AAk 42 true (AC5 (v:=(.agg #[(.int .i64 1),(.int .i64 1),(.int .i64 (-1)),(.bool false),(.int .i64 0)])) (fun _=>by kernel_rfl) (AAk 42 true (Alh AN1 ([(0,1,(-1),false,0),(1,1,(-1),false,0)]:List AH8) [[(.int .i64 0),(.int .i64 1),(.int .i64 (-1)),(.bool false),(.int .i64 0)],[(.int .i64 1),(.int .i64 1),(.int .i64 (-1)),(.bool false),(.int .i64 0)]] [(0,(.agg #[(.int .i64 0),(.int .i64 1),(.int .i64 (-1)),(.bool false),(.int .i64 0)])),(1,(.agg #[(.int .i64 1),(.int .i64 1),(.int .i64 (-1)),(.bool false),(.int .i64 0)]))] ASr Abe rfl trivial tt2 rfl rfl rfl Zw rfl (AXu (fun _=>rfl) (AXu (fun _=>rfl) Agy)) fun Di Dj Dk Cm Cn Co Cp=>AAk 42 true ?_)))))));have Ap:=Az.no Cn (AEv Co Cp) Cm;obtain ⟨Dl,Cq,Cr⟩:=Zp (ifT Ay Aj);refine ADk Ap (AO1 (Ap.o p1).rd (Ap.o p0).rd Cq) fun Do Dp Ct=>AAd rfl (Zv (Zy ?_));obtain rfl:=Zm Cr;exact ⟨_,Zz,Ct.x,rfl⟩
    ·rw [decide_eq_false Aj];refine AE5 42 false (AAo rfl (Zv (Zy ?_)));obtain rfl:=Zm (ifF Ay Aj);exact ⟨_,Zz,Az.x,rfl⟩
   ·rw [decide_eq_false Ai];refine APd 36 false (AAo rfl (Zk (AE5 42 false (AAo rfl (Zv (Zy ?_))))));obtain rfl:=Zm (ifF Ax Ai);exact ⟨_,Zz,Aa.x,rfl⟩
  ·rw [decide_eq_false Ah];refine AHi 32 false (AAo rfl (Zk (APd 36 false (AAo rfl (Zk (AE5 42 false (AAo rfl (Zv (Zy ?_)))))))));obtain rfl:=Zm (ifF Aw Ah);exact ⟨_,Zz,Aa.x,rfl⟩
noncomputable def AHz (fuel:Nat) (a5 Ao:Int) (Ag:LiI) (Ac Ad Ae Ab Aa:Int):Option ((Int × Int × Int × Int) ⊕ ((Int × Int) ⊕ (Int × Int × Int))):=
  (if (w64 (Aa + Ac)) < (Ag.length:Int) then ((((gI Ag Aa).bind fun Ap=>((gI Ap (w64 (Aa + Ac))).bind fun Ah=>(if Ah=0 then (some (Sum.inl <| (Ad,Ae,Ab))) else ((((AHs fuel Ah a5).bind fun Af=>(if Ab < 0 then (some ( (Aa,(w64 (Aa + Ac)),Af.1))) else (if Af.1 < Ab then (some ( (Aa,(w64 (Aa + Ac)),Af.1))) else (some ( (Ad,Ae,Ab)))))):Option ((Int × Int × Int))).bind (fun ((Ai,Aj,Ak):Int × Int × Int)=>(if Ak=Ao then (some (Sum.inr <| (Ai,Aj))) else (some (Sum.inl <| (Ai,Aj,Ak))))))))):Option ((Int × Int × Int) ⊕ (Int × Int))).bind (fun ex=>match ex with | Sum.inl (Aq,Ar,Au)=>(some (Sum.inl (Aq,Ar,Au,(w64 (Aa + 1))))) | Sum.inr ((Av,Aw))=>(some (Sum.inr<| Sum.inl <| (Av,Aw))))) else (some (Sum.inr<| Sum.inr <| (Ad,Ae,Ab))))
noncomputable def AH0 (fuel:Nat) (a5 Ag Ab:Int) (Ac:LiI) (Ad Ae Ah Aa:Int):Option ((Int × Int × Int × Int) ⊕ ((Int × Int))):=
  (if Aa < (w64 ((Ac.length:Int) - Ab)) then ((iter (fun s=>AHz fuel a5 Ag Ac Aa s.1 s.2.1 s.2.2.1 s.2.2.2) fuel (Ad,Ae,Ah,Ab)).bind (fun ex=>match ex with | Sum.inl (Ai,Aj)=>(some (Sum.inr<| (Ai,Aj))) | Sum.inr ((Ak,Am,Ao))=>(some (Sum.inl (Ak,Am,Ao,(w64 (Aa + 1))))))) else (some (Sum.inr<| (Ad,Ae))))
noncomputable def AG8 (fuel:Nat) (Ad Ae Af:Int) (Ag:LiI) (Aa:Int) (Ab:LiI):Option ((Int × LiI) ⊕ ((LiI))):=
  (if Aa < (Ag.length:Int) then ((gI Ab Aa).bind fun Ac=>((gI Ac Ae).bind fun Ah=>((gI Ac Af).bind fun Ai=>(if Ad≠0 then (some (Sum.inl ((w64 (Aa + 1)),(sI Ab Aa (sI Ac Ae (Int.tmod (w64 (Ah + (w64 (1 * Ai)))) Ad)))))) else none)))) else (some (Sum.inr<| Ab)))
noncomputable def AG9 (fuel:Nat) (Ad Ae Af:Int) (Ag:LiI) (Aa:Int) (Ab:LiI):Option ((Int × LiI) ⊕ ((LiI))):=
  (if Aa < (Ag.length:Int) then ((gI Ab Aa).bind fun Ac=>((gI Ac Ae).bind fun Ah=>((gI Ac Af).bind fun Ai=>(if Ad≠0 then (some (Sum.inl ((w64 (Aa + 1)),(sI Ab Aa (sI Ac Ae (Int.tmod (w64 (Ah + (w64 (1 * Ai)))) Ad)))))) else none)))) else (some (Sum.inr<| Ab)))
noncomputable def AD7 (fuel:Nat) (Ac Ad Af:Int) (Ag:LiA) (Aa:Int) (Ab:LiI):Option ((Int × LiI) ⊕ ((LiI))):=
  (if Aa < (Ag.length:Int) then ((gI Ab Af).bind fun Ah=>((gI Ah Aa).bind fun Ai=>((gI Ab Ad).bind fun Ae=>((gI Ae Aa).bind fun Aj=>(if Ac≠0 then (some (Sum.inl ((w64 (Aa + 1)),(sI Ab Ad (sI Ae Aa (Int.tmod (w64 (Aj + (w64 (1 * Ai)))) Ac)))))) else none))))) else (some (Sum.inr<| Ab)))
noncomputable def AC8 (fuel:Nat) (Ad Ae Af Aa:Int) (Ab Ac:LiI):Option ((Int × LiI × LiI) ⊕ ((LiI × LiI))):=
  (if Aa < 2 then (if Aa=0 then ((iter (fun s=>AG8 fuel Ad Ae Af Ab s.1 s.2) fuel (0,Ab)).bind (fun (Ag:LiI)=>(some (Sum.inl ((w64 (Aa + 1)),Ag,Ac))))) else (if Aa=1 then ((iter (fun s=>AG9 fuel Ad Ae Af Ac s.1 s.2) fuel (0,Ac)).bind (fun (Ah:LiI)=>(some (Sum.inl ((w64 (Aa + 1)),Ab,Ah))))) else none)) else (some (Sum.inr<| (Ab,Ac))))
noncomputable def AHa (fuel:Nat) (Ad Ae:Int) (Ah:LiI) (Aa:Int) (Ab:LiI):Option ((Int × LiI) ⊕ ((LiI))):=
  (if Aa < (Ah.length:Int) then ((gI Ab Aa).bind fun Ac=>((gI Ac Ae).bind fun Af=>((gI Ac Ad).bind fun Ai=>((gI (sI Ab Aa (sI Ac Ad Af)) Aa).bind fun Ag=>((gI Ag Ae).bind fun Aj=>(some (Sum.inl ((w64 (Aa + 1)),(sI (sI Ab Aa (sI Ac Ad Af)) Aa (sI Ag Ae Ai)))))))))) else (some (Sum.inr<| Ab)))
noncomputable def AHb (fuel:Nat) (Ad Ae:Int) (Ah:LiI) (Aa:Int) (Ab:LiI):Option ((Int × LiI) ⊕ ((LiI))):=
  (if Aa < (Ah.length:Int) then ((gI Ab Aa).bind fun Ac=>((gI Ac Ae).bind fun Af=>((gI Ac Ad).bind fun Ai=>((gI (sI Ab Aa (sI Ac Ad Af)) Aa).bind fun Ag=>((gI Ag Ae).bind fun Aj=>(some (Sum.inl ((w64 (Aa + 1)),(sI (sI Ab Aa (sI Ac Ad Af)) Aa (sI Ag Ae Ai)))))))))) else (some (Sum.inr<| Ab)))
noncomputable def AD8 (fuel:Nat) (Ad Ae Aa:Int) (Ab Ac:LiI):Option ((Int × LiI × LiI) ⊕ ((LiI × LiI))):=
  (if Aa < 2 then (if Aa=0 then ((iter (fun s=>AHa fuel Ad Ae Ab s.1 s.2) fuel (0,Ab)).bind (fun (Af:LiI)=>(some (Sum.inl ((w64 (Aa + 1)),Af,Ac))))) else (if Aa=1 then ((iter (fun s=>AHb fuel Ad Ae Ac s.1 s.2) fuel (0,Ac)).bind (fun (Ag:LiI)=>(some (Sum.inl ((w64 (Aa + 1)),Ab,Ag))))) else none)) else (some (Sum.inr<| (Ab,Ac))))
noncomputable def AHc (fuel:Nat) (Aa Af Ag Ae Ah Ai:Int) (Aj:LiI) (Ab:Int) (Ac:LiI):Option ((Int × LiI) ⊕ ((LiI))):=
  (if Ab < (Aj.length:Int) then ((gI Ac Ab).bind fun Ad=>((gI Ad Ae).bind fun Ak=>((gI Ad Af).bind fun Am=>(if Aa≠0 then (some (Sum.inl ((w64 (Ab + 1)),(sI Ac Ab (sI Ad Ae (Int.tmod (w64 (Ak + (w64 ((Int.tmod (w64 (Aa - (Int.tmod (w64 ((w64 (Int.tdiv Ah Ag)) * Ai)) Aa))) Aa) * Am)))) Aa)))))) else none)))) else (some (Sum.inr<| Ac)))
noncomputable def AHd (fuel:Nat) (Aa Af Ag Ae Ah Ai:Int) (Aj:LiI) (Ab:Int) (Ac:LiI):Option ((Int × LiI) ⊕ ((LiI))):=
  (if Ab < (Aj.length:Int) then ((gI Ac Ab).bind fun Ad=>((gI Ad Ae).bind fun Ak=>((gI Ad Af).bind fun Am=>(if Aa≠0 then (some (Sum.inl ((w64 (Ab + 1)),(sI Ac Ab (sI Ad Ae (Int.tmod (w64 (Ak + (w64 ((Int.tmod (w64 (Aa - (Int.tmod (w64 ((w64 (Int.tdiv Ah Ag)) * Ai)) Aa))) Aa) * Am)))) Aa)))))) else none)))) else (some (Sum.inr<| Ac)))
noncomputable def AFi (fuel:Nat) (Aa Af Ag Ad Ah Ai:Int) (Aj:LiA) (Ab:Int) (Ac:LiI):Option ((Int × LiI) ⊕ ((LiI))):=
  (if Ab < (Aj.length:Int) then ((gI Ac Af).bind fun Ak=>((gI Ak Ab).bind fun Am=>((gI Ac Ad).bind fun Ae=>((gI Ae Ab).bind fun Ao=>(if Aa≠0 then (some (Sum.inl ((w64 (Ab + 1)),(sI Ac Ad (sI Ae Ab (Int.tmod (w64 (Ao + (w64 ((Int.tmod (w64 (Aa - (Int.tmod (w64 ((w64 (Int.tdiv Ah Ag)) * Ai)) Aa))) Aa) * Am)))) Aa)))))) else none))))) else (some (Sum.inr<| Ac)))
noncomputable def AD9 (fuel:Nat) (Ad Ae Af Ag Ah Ai Aa:Int) (Ab Ac:LiI):Option ((Int × LiI × LiI) ⊕ ((LiI × LiI))):=
  (if Aa < 2 then (if Aa=0 then ((iter (fun s=>AHc fuel Ad Ae Af Ag Ah Ai Ab s.1 s.2) fuel (0,Ab)).bind (fun (Aj:LiI)=>(some (Sum.inl ((w64 (Aa + 1)),Aj,Ac))))) else (if Aa=1 then ((iter (fun s=>AHd fuel Ad Ae Af Ag Ah Ai Ac s.1 s.2) fuel (0,Ac)).bind (fun (Ak:LiI)=>(some (Sum.inl ((w64 (Aa + 1)),Ab,Ak))))) else none)) else (some (Sum.inr<| (Ab,Ac))))
noncomputable def AHe (fuel:Nat) (Ab Ac Ae:Int) (Aj:LiI) (Aa:Int) (Ad Af:LiI):Option ((Int × LiI × LiI) ⊕ ((LiI × LiI))):=
  (if Aa < (Ad.length:Int) then ((gI Ad Ac).bind fun Ak=>((gI Ak Aa).bind fun Ag=>(if Ae≠0 then ((gI Aj 0).bind fun Am=>((gI Am 0).bind fun Ah=>(if Ab≠0 then (if Ab≠0 then ((((iter (fun s=>AD9 fuel Ab Ac Ae Aa Ag Ah s.1 s.2.1 s.2.2) fuel (0,Ad,Af)).bind (fun ((Ai,Ao):LiI × LiI)=>((gI Ai Ac).bind fun Ap=>((iter (fun s=>AFi fuel Ab Ac Ae Aa Ag Ah Ap s.1 s.2) fuel (0,Ai)).bind (fun (Aq:LiI)=>(some ( (Aq,Ao)))))))):Option (LiI × LiI)).bind fun (Ar,Au)=>(some (Sum.inl ((w64 (Aa + 1)),Ar,Au)))) else none) else none))) else none))) else (some (Sum.inr<| (Ad,Af))))
noncomputable def AEg (fuel:Nat) (a3:LiI) (a5 Ad Aq Aa:Int) (Ae Ah:LiI) (Ai:(List AK7)):Option ((Int × Int × LiI × LiI × (List AK7)) ⊕ ((LiI × LiI × (List AK7)))):=
  (if Aa < (a3.length:Int) then ((((((iter (fun s=>AH0 fuel a5 Aq Aa Ae s.1 s.2.1 s.2.2.1 s.2.2.2) fuel (Aa,Aa,(-1),0)).bind (fun ((Ar,Au):Int × Int)=>(some ( (Ar,Au))))):Option (Int × Int)).bind fun (Ac,Af)=>(((if ¬ Ac=Af then ((((iter (fun s=>AC8 fuel Ad Ac Af s.1 s.2.1 s.2.2) fuel (0,Ae,Ah)).bind (fun ((Ak,Av):LiI × LiI)=>((gI Ak Af).bind fun Aw=>((iter (fun s=>AD7 fuel Ad Ac Af Aw s.1 s.2) fuel (0,Ak)).bind (fun (Ax:LiI)=>(some ( (Ax,Av)))))))):Option (LiI × LiI)).bind fun (Ay,Az)=>(some ( (Ay,Az)))) else (some ( (Ae,Ah)))):Option ((LiI × LiI))).bind (fun ((Aj,A3):LiI × LiI)=>((((gI Aj Ac).bind fun A4=>((gI Aj Aa).bind fun A5=>((iter (fun s=>AD8 fuel Aa Ac s.1 s.2.1 s.2.2) fuel (0,(sI (sI Aj Aa A4) Ac A5),A3)).bind (fun ((A6,A7):LiI × LiI)=>(some ( (A6,A7))))))):Option (LiI × LiI)).bind fun (Am,A8)=>((gI Am Aa).bind fun A9=>((gI A9 Aa).bind fun Ba=>((AHs fuel Ba a5).bind fun Ab=>((AHq fuel a5 Ab.1).bind fun Bb=>((AIr fuel ([([Ab.2.2.1]:List Int)]:List LiA) Ad).bind fun (Bc,Bn)=>((iter (fun s=>AHe fuel Ad Aa Bb Bc s.1 s.2.1 s.2.2) fuel ((w64 (Aa + 1)),Am,A8)).bind (fun ((Be,Bf):LiI × LiI)=>(some ( (Ab.1,Ab.2.1,Ab.2.2.1,Ab.2.2.2.1,Ab.2.2.2.2,Be,Bf)))))))))))))):Option (Int × Int × Int × Int × Int × LiI × LiI)).bind fun (Ao,Bg,Bh,Bi,Bj,Bl,Bm)=>(if Ai.length<=100000000 then (some (Sum.inl (Ao,(w64 (Aa + 1)),Bl,Bm,(Ai ++ [(Ao,Bg,Bh,Bi,Bj)])))) else none)) else (some (Sum.inr<| (Ae,Ah,Ai))))
noncomputable def AH1 (fuel:Nat) (a3:LiI) (Aa:Int) (Ac:LiI):Option ((Int × LiI) ⊕ ((LiI))):=
  (if Aa < (a3.length:Int) then (if 0<=(a3.length:Int)/\(a3.length:Int)<=100000000 then (if Ac.length<=100000000 then ((gI (Ac ++ [(List.replicate (Int.toNat (a3.length:Int)) (0:Int))]) Aa).bind fun Ad=>((gI Ad Aa).bind fun Ae=>(some (Sum.inl ((w64 (Aa + 1)),(sI (Ac ++ [(List.replicate (Int.toNat (a3.length:Int)) (0:Int))]) Aa (sI Ad Aa 1))))))) else none) else none) else (some (Sum.inr<| Ac)))
noncomputable def AHt (fuel:Nat) (a3:LiI) (a5:Int):Option ((Int × LiI × (List AK7)) × Int):=
  ((AO8 fuel a3).bind fun Ad=>(if (!Ad)=true then (some ((0,[],[]),6)) else ((ALe fuel a5).bind fun Ae=>(if (!Ae)=true then (some ((0,[],[]),20)) else ((AC7 fuel a3 a5).bind fun Af=>((AHq fuel a5 Af).bind fun Ac=>((AHr fuel a3 Ac).bind fun (Ag,Ak)=>((iter (fun s=>AH1 fuel a3 s.1 s.2) fuel (0,[])).bind (fun (Ah:LiI)=>((iter (fun s=>AEg fuel a3 a5 Ac s.1 s.2.1 s.2.2.1 s.2.2.2.1 s.2.2.2.2) fuel (0,0,Ag,Ah,[])).bind (fun ((Am,Ai,Aj):LiI × LiI × (List AK7))=>(some ((a5,Ai,Aj),0)))))))))))))
theorem ASx {fuel:Nat} {h:Zs} {Er:Value} {a3:LiI} {a5:Int} {r:((Int × LiI × (List AK7)) × Int)} (H2:AEq (cI .i64) h Er a3) (HO:AS8 h) (hp:AHt fuel a3 a5=some r):AAs Tryz.prog 14 #[Er,(.int .i64 a5)] h (fun x h'=>Ext h h'/\ ∃ (Et:Value) (Eu:Value) (Ev:List Nat) (He:List LnA) (Hf:List Value) (Ew:List Nat),x= .tuple #[.agg #[.int .i64 r.1.1,Et,Eu],.int .i64 r.2]/\ACp (cI .i64) 60 2 h' Ev He Hf Et r.1.2.1/\OwC AR1 59 h' Ew Eu r.1.2.2/\Sp h' h.size [Ev,Ew]):=by
 unfold AHt at hp;refine cwf (l:=[_,_]) Tryz.func14 rfl rfl (Zn (ACx (Kst.k0 h) [(.int .i64 0),(.slice none 0 0),(.slice none 0 0)] Abd fun b6 h7 E9 Ey=>Zv (Zo (Zn (Zk ?_)))));obtain ⟨Qn,Hg,Ez⟩:=Zp hp;refine ADk Ey (AUy (H2.ext Ey.x) Hg) fun Qo Qp Bp=>ADp rfl (Zr (⟨_,rfl,fun Cg=>?_,fun Cg=>?_⟩))
 ·refine Zn (AC5 (v:=(.agg #[(.int .i64 0),(.slice none 0 0),(.slice none 0 0)])) (fun _=>by kernel_rfl) (AB3 [(.int .i64 0),(.slice none 0 0),(.slice none 0 0)] AMu rfl rfl rfl rfl (by simp [isOne]) (Bp.b p0) fun Qq Hh Hj=>Zv (Zy (AAc ?_))));have A7:=Kst.anil AR1 59 (Kst.anil2 (cI .i64) 60 2 (Bp.sb p0 Hj Hh rfl));obtain rfl:=Zm (ifT Ez Cg);exact ⟨_,AQc AMu rfl rfl (A7.b p2),A7.x,_,_,_,_,_,_,rfl,(A7.o2 p1),(A7.o p0),A7.s.sel [1,0] Zl⟩
 ·refine Zx (q_t (Zo (Zn (Zk ?_))));obtain ⟨Qr,Hk,Fa⟩:=Zp (AH9 Ez Cg);refine ADk Bp (AQk (HO.ext Bp.x) Hk) fun Qs Qt A8=>ADp rfl (Zr (⟨_,rfl,fun Ch=>?_,fun Ch=>?_⟩))
  ·refine Zn (AC5 (v:=(.agg #[(.int .i64 0),(.slice none 0 0),(.slice none 0 0)])) (fun _=>by kernel_rfl) (AB3 [(.int .i64 0),(.slice none 0 0),(.slice none 0 0)] AMu rfl rfl rfl rfl (by simp [isOne]) (A8.b p0) fun Qu Hl Hm=>Zv (Zy (AAc ?_))));have A9:=Kst.anil AR1 59 (Kst.anil2 (cI .i64) 60 2 (A8.sb p0 Hm Hl rfl));obtain rfl:=Zm (ifT Fa Ch);exact ⟨_,AQc AMu rfl rfl (A9.b p2),A9.x,_,_,_,_,_,_,rfl,(A9.o2 p1),(A9.o p0),A9.s.sel [1,0] Zl⟩
  ·refine Zx (q_t (Zn (Zk (ABe AAn rfl H2 (AA3 (Zk (Zk (Zk (Zk ?_)))))))));obtain ⟨Qv,Hn,Ho⟩:=Zp (AH9 Fa Ch);refine ADk A8 (AHw (H2.ext A8.x) (HO.ext A8.x) Hn) fun Qw Qx Hq=>?_;obtain ⟨Ba,Hr,Hs⟩:=Zp Ho;refine ADk Hq (AM3 Hr) fun Qy Qz Ht=>AC5 (v:=(.agg #[(.int .i64 a5),(.int .i64 Ba),(.slice none 0 0),(.slice none 0 0)])) (fun _=>by kernel_rfl) (AHg Ht [(.int .i64 a5),(.int .i64 Ba),(.slice none 0 0),(.slice none 0 0)] fun Hu Q0 Q1 Ci=>AA3 (Zk (Zk (Zk (ACm rfl (AEy ANb AAt (Ci.b p0) 1 rfl ?_))))));obtain ⟨⟨Hv,Q2⟩,Hw,Fb⟩:=Zp Hs;dsimp only at Fb;refine AMx rfl (ASw (H2.ext Ci.x) Hw) fun Q3 Q4 Hx Hy=>?_;obtain ⟨Ac,Hz,Ia,Ib,rfl,Ic,Id⟩:=Hy;refine Zk (ABj rfl rfl (ABj rfl rfl (ACm rfl (ACz AG7 rfl ?_))));have Cj:=Ci.no2 Hx Id Ic;refine AOo [(.int .i64 a5),(.int .i64 Ba),Ac,(.slice none 0 0)] AE6 rfl rfl (Cj.o2 p0).isOne (Cj.b p1) (Nat.le_of_ble_eq_true rfl) rfl fun Q6 Ie If=>Zr (Zo (Zn (Zk (Zk (Zr (Zt ?_))))));have Fc:=Kst.anil2 (cI .i64) 60 2 (Cj.sb p1 If Ie rfl);refine AFr 295147887587166781696 (fun x:(Int) × (LiI) × (Value) × LnA × LnN × LvA=>(x.1,x.2.1)) ((0,[],(.slice none 0 0),[],[],[]):(Int) × (LiI) × (Value) × LnA × LnN × LvA) Fb (fun x=>[(44,(.int .i64 x.1))]) (fun x=>(Fc.L.set 0 (aO2 (cI .i64) 60 2 x.2.2.2.1 x.2.2.2.2.1 x.2.2.2.2.2 x.2.2.1 x.2.1)).set 2 (aB 80 Hu [(.int .i64 a5),(.int .i64 Ba),Ac,x.2.2.1])) Fc ⟨rfl,trivial⟩ ?_;rintro ⟨Ih,Ii,Ad,Ae,Ag,Ah⟩ Q7 Ck Q8 Bb Cm Ij;unfold AH1 at Cm;refine Zn (AAy rfl rfl (Zr (Zo (⟨_,rfl,fun Cn=>?_,fun Cn=>?_⟩))))
   ·refine Zx (q_t (Zo (Zt (Zn (Zk (Zv (Zo (ACb (fun h'=>UpT (Ae ++ []) Ck h') Zw ?_))))))));have Bq:UpT (Ae ++ []) Ck Ck:=UpT.start (ACk (Bb.o2 p0).notD all_nil);refine Zk (Zk (ACm rfl (ACz ASm rfl (AB8 AE6 rfl Bq (fun h' hb=>((Bb.b p2).upT hb (Akw (Bb.dj p2 p0 Zl) Akx)).cell (i:=3) rfl) (Zk ?_)))));obtain ⟨Ik,Il⟩:=ifN (AA7 Cm Cn);refine AQt (c:=(cI .i64)) (a:=0) AAj AJx rfl rfl (fun _=>rfl) rfl Bq (fun _ E=>Bq.thenE E) rfl rfl Zl Ik fun Q9 Rc Rd Im Fd Io Ip=>?_;have Fe:=Bq.thenE Fd;have Br:=Bb.no Fd (AEv Io Ip) Im;obtain ⟨Iq,Ir⟩:=ifN Il;refine Ago AAn AMp rfl rfl Fe (fun _ U=>Fe.then U (ALp rfl)) (fun _=>rfl) rfl (Br.o p0) (Br.o2 p1) (Br.dj p0 p1 Zl) Zl Iq fun Re Rf Is Rg It Iu Iv=>ACm rfl (ACz ASm rfl ?_);have Co:=Br.m2 p0 p1 Zl Iu It Iv;refine AOo [(.int .i64 a5),(.int .i64 Ba),Ac,Is] AE6 rfl rfl (Co.o2 p1).isOne (Co.b p3) (Nat.le_of_ble_eq_true rfl) rfl fun Rh Iw Ix=>Zr (Z1 ?_);have Cp:=Co.sb p3 Ix Iw rfl;refine Zk (ACm rfl (AEy ASm AE6 (Cp.b p3) 3 rfl (Zk ?_)));obtain ⟨Ri,Ff,Iy⟩:=Zp Ir;refine AB2 AAn AA1 (Cp.o2 p1) Ff fun _ Rj Iz=>Zk ?_;obtain ⟨Rm,I0,I1⟩:=Zp Iy;refine ALq (m:=Ih) Cp p1 AAj AAt Iz Ff I0 (fun _=>rfl) fun _ Rn I2=>AAh (q_b (q_t (Z1 (AAz rfl rfl (Zk (Zr ?_))))));exact ⟨(_,_,_,_,_,_),(Zm I1).symm,I2.sel [1,2,3,4] Zl,rfl,trivial⟩
   ·refine AAe (AAf (AAf (ABk (q_t (Zn (Zk (AC5 (v:=(.agg #[(.int .i64 a5),(.slice none 0 0),(.slice none 0 0)])) (fun _=>by kernel_rfl) (ACx Bb [(.int .i64 0),(.slice none 0 0),(.slice none 0 0)] Abd fun I3 Ro Rq Fg=>AB3 [(.int .i64 a5),(.slice none 0 0),(.slice none 0 0)] AMu rfl rfl rfl rfl (by simp [isOne]) (Fg.b p0) fun Rr I6 I7=>AHj (Zv (Zo (Zo ?_)))))))))));refine Z1 (Zk (Zk (Zr (Zt ?_))));have Fh:=Kst.anil AR1 59 (Fg.sb p0 I7 I6 rfl);refine AFr 154740143727431099539790848 (fun x:(Int) × (Int) × (LiI) × LnA × LnN × LvA × (LiI) × ((List AK7)) × (Value) × LnA=>(x.1,x.2.1,x.2.2.1,x.2.2.2.2.2.2.1,x.2.2.2.2.2.2.2.1)) ((0,0,Hv,Hz,Ia,Ib,Ii,[],(.slice none 0 0),[]):(Int) × (Int) × (LiI) × LnA × LnN × LvA × (LiI) × ((List AK7)) × (Value) × LnA) (Ij _ (Zm (AA8 Cm Cn)).symm) (fun x=>[(10,(.int .i64 x.1)),(71,(.int .i64 x.2.1))]) (fun x=>(((Fh.L.set 3 (aO2 (cI .i64) 60 2 x.2.2.2.1 x.2.2.2.2.1 x.2.2.2.2.2.1 Ac x.2.2.1)).set 2 (aO2 (cI .i64) 60 2 Ae Ag Ah Ad x.2.2.2.2.2.2.1)).set 0 (aO AR1 59 x.2.2.2.2.2.2.2.2.2 x.2.2.2.2.2.2.2.2.1 x.2.2.2.2.2.2.2.1)).set 1 (aB 29 I3 [(.int .i64 a5),(.slice none 0 0),x.2.2.2.2.2.2.2.2.1])) Fh ⟨rfl,rfl,trivial⟩ ?_;rintro ⟨Rs,Cq,I9,Bc,Be,Bf,Ja,Rt,Cr,Ru⟩ Rv Rw Rx Av Ct Jc;unfold AEg at Ct;refine Zn (AAy rfl rfl (Zr (Zo (⟨_,rfl,fun Cu=>?_,fun Cu=>?_⟩))))
    ·refine Zx (q_t (Zo (Zt (Zn (Zk (AA3 (Zk (Zk (Zk ?_)))))))));obtain ⟨Je,Jf,Jg⟩:=Zp (AA7 Ct Cu);refine AAr (K':=(fun xr h'=> ∃ x:(Int) × (Int) × (Int) × (Int) × (Int) × (LiI) × LnA × LnN × LvA × (LiI),(x.1,x.2.1,x.2.2.1,x.2.2.2.1,x.2.2.2.2.1,x.2.2.2.2.2.1,x.2.2.2.2.2.2.2.2.2)=Je/\xr=(.agg #[(.int .i64 x.1),(.int .i64 x.2.1),(.int .i64 x.2.2.1),(.int .i64 x.2.2.2.1),(.int .i64 x.2.2.2.2.1)])/\Kst h h' ((Av.L.set 3 (aO2 (cI .i64) 60 2 x.2.2.2.2.2.2.1 x.2.2.2.2.2.2.2.1 x.2.2.2.2.2.2.2.2.1 Ac x.2.2.2.2.2.1)).set 2 (aO2 (cI .i64) 60 2 Ae Ag Ah Ad x.2.2.2.2.2.2.2.2.2)))) trivial rfl ?_ fun Ry Rz Jh=>?_
     ·refine cwf (l:=[_,_,_]) Tryz.func46 rfl rfl (Zn (ACx Av [(.int .i64 0),(.int .i64 0),(.int .i64 0),(.int .i64 0),(.int .i64 0)] ATg fun R3 R4 R5 Bg=>AHj (Zk (Zk (Zk ?_)))));obtain ⟨Ji,Jj,Jk⟩:=Zp Jf;refine AAr (K':=(fun xr h'=> ∃ x:(Int) × (Int),(x.1,x.2)=Ji/\xr= .tuple #[(.int .i64 x.1),(.int .i64 x.2)]/\Kst h h' (Bg.L))) trivial rfl ?_ fun R6 R7 Jl=>?_
      ·refine cwf (l:=[_,_,_]) Tryz.func88 rfl rfl (Zn (AAi (Zv (Agc (Zn (Zk (ACm rfl (AEy AG7 AE6 (Bg.b p5) 2 rfl (ABe AAn rfl (Bg.o2 p4).rd (AA3 (Zk (Zk (AAi (AAi (Zv (Zo ?_))))))))))))))));refine Agd (q_t (Zo (Zn (Zk (Zk (AE4 rfl rfl (Zk (Zr (Zt (AHm 18889465931478513810944 Jj (fun x=>[(9,(.int .i64 x.1)),(10,(.int .i64 x.2.1)),(11,(.int .i64 x.2.2.1)),(26,(.int .i64 x.2.2.2))]) (fun x=>Bg.L) Bg ⟨rfl,rfl,rfl,rfl,trivial⟩ ?_))))))))));rintro ⟨Jm,Jn,R8,Fi⟩ R9 Sa Sb Cv Cw Fj;unfold AH0 at Cw;refine Zn (AAy rfl rfl (Zr (Zo (⟨_,rfl,fun Cx=>?_,fun Cx=>?_⟩))))
       ·refine Zx (q_t (Zo (Zt (Zn (Zk (AA3 (Zk (Zv (Zt (AHm 9444732965738216746496 (AA7 Cw Cx) (fun x=>[(9,(.int .i64 x.1)),(10,(.int .i64 x.2.1)),(11,(.int .i64 x.2.2.1)),(13,(.int .i64 x.2.2.2))]) (fun x=>Cv.L) Cv ⟨rfl,rfl,rfl,rfl,trivial⟩ ?_))))))))));rintro ⟨Fk,Fl,Cy,Bh⟩ Sc Sd Se Ak Cz Fm;unfold AHz at Cz;refine Zo (Zn (Zk (Zk (AAz rfl rfl (Zk (AAy rfl rfl (Zr (⟨_,rfl,fun C0=>?_,fun C0=>?_⟩))))))))
        ·refine Zx (q_t ?_);obtain ⟨Jo,Jp,Fo⟩:=Zp (AA7 Cz C0);refine AI8 9444732965601851526656 (fun x:(Int) × (Int) × (Int)=>[(9,(.int .i64 x.1)),(10,(.int .i64 x.2.1)),(11,(.int .i64 x.2.2))]) (fun x h'=>(Sum.inl <| (x.1,x.2.1,x.2.2))=Jo/\Kst h h' (Ak.L)) ?_ ?_
         ·refine Zt (Zn (Zk (ACm rfl (AEy AG7 AE6 (Ak.b p5) 2 rfl (Zk ?_)))));obtain ⟨Sf,Fp,Jq⟩:=Zp Jp;refine AB2 AAn AA1 (Ak.o2 p4) Fp fun _ Sg Jr=>Zk (Zk (AAz rfl rfl ?_));obtain ⟨Sh,Js,Fq⟩:=Zp Jq;refine AH5 (m:=Bh) AAj AAt (Ak.o2 p4) Jr Fp Js fun _=>(Zv (Zo (Zn (Zk (ACc rfl rfl (Zr (⟨_,rfl,fun C1=>?_,fun C1=>?_⟩)))))))
          ·refine AAe (AAf (ABk (q_t ?_)));exact ⟨((Fk,Fl,Cy):(Int) × (Int) × (Int)),⟨Zm (AA7 Fq C1),Ak⟩,rfl,rfl,rfl,trivial⟩
          ·refine Zx (q_t ?_);obtain ⟨Jt,Ju,Fr⟩:=Zp (AA8 Fq C1);refine AI8 1180589368917597654528 (fun x:(Int) × (Int) × (Int)=>[(9,(.int .i64 x.1)),(10,(.int .i64 x.2.1)),(11,(.int .i64 x.2.2))]) (fun x h'=>( (x.1,x.2.1,x.2.2))=Jt/\Kst h h' (Ak.L)) ?_ ?_
           ·refine Zn (Zk (Zk (ACm rfl (AEy Acg AAt (Ak.b p5) 0 rfl ?_))));obtain ⟨C2,Jv,Ft⟩:=Zp Ju;refine ADk Ak (ANa Jv) fun Si Sj C3=>Aqu (u:=(.int .i64 C2.1)) (fun _=>by kernel_rfl) (AA3 (Zk (AAy rfl rfl (Zk ?_))));by_cases Bt:Cy < 0
            ·rw [decide_eq_true Bt];refine AH3 60 true (AAd rfl (Zr (AAl rfl (Z1 (Zk (Zk (Zk (AAz rfl rfl (Zk (AAi (AAi (Zv ?_))))))))))));exact ⟨((Bh,(w64 (Bh + Fi)),C2.1):(Int) × (Int) × (Int)),⟨Zm (ifT Ft Bt),C3⟩,rfl,rfl,rfl,trivial⟩
            ·have Fu:=ifF Ft Bt;rw [decide_eq_false Bt];refine AAk 60 false (Zk (AAk 60 false (Zk (AAk 60 false (AAy rfl rfl (AAo rfl (Zr (⟨_,rfl,fun C4=>?_,fun C4=>?_⟩))))))))
             ·refine Z1 (Zk (Zk (Zk (AAz rfl rfl (Zk (AAi (AAi (Zv ?_))))))));exact ⟨((Bh,(w64 (Bh + Fi)),C2.1):(Int) × (Int) × (Int)),⟨Zm (AA7 Fu C4),C3⟩,rfl,rfl,rfl,trivial⟩
             ·refine Zx (q_t ?_);exact ⟨((Fk,Fl,Cy):(Int) × (Int) × (Int)),⟨Zm (AA8 Fu C4),C3⟩,rfl,rfl,rfl,trivial⟩
           rintro ⟨Fv,Fw,Jw⟩ Sk Sm ⟨Jx,Fx⟩;subst Jx;refine Zn (Zk (Zk (ACc rfl rfl (Zr (⟨_,rfl,fun C5=>?_,fun C5=>?_⟩)))))
           ·obtain rfl:=Zm (AA7 Fr C5);refine AAe (AXg Zl (AAf (AAf (AXg Zl (AXg Zl (AAf (AAf (ABk (q_t (Zn (Zk (Zk (AAi (Zv (Zy (Ajt (⟨_,ABg,((Fv,Fw):(Int) × (Int)),?_,rfl,?_⟩)))))))))))))))))
            ·exact Zm (Fj _ (Zm (Fm _ (Zm Fo).symm)).symm)
            ·exact Fx
           ·refine Zx (q_b (q_t ?_));exact ⟨((Fv,Fw,Jw):(Int) × (Int) × (Int)),⟨Zm (AA8 Fr C5),Fx⟩,rfl,rfl,rfl,trivial⟩
         rintro ⟨Sn,So,Sq⟩ Sr Ss ⟨Jy,Jz⟩;subst Jy;refine Z1 (Zk (AAz rfl rfl (Zv ?_)));exact ⟨_,(Zm Fo).symm,Jz,rfl,rfl,rfl,rfl,trivial⟩
        ·refine AAe (AAf (AAf (ABk (q_b (q_t (Z1 (AAz rfl rfl (Zk (Zr ?_)))))))));exact ⟨_,(Zm (Fm _ (Zm (AA8 Cz C0)).symm)).symm,Ak,rfl,rfl,rfl,rfl,trivial⟩
       ·refine AAe (AAf (AAf (ABk (q_t (Zn (Zk (Zk (AAi (Zv (Zy (Ajt (⟨_,ABg,((Jm,Jn):(Int) × (Int)),?_,rfl,?_⟩))))))))))))
        ·exact Zm (Fj _ (Zm (AA8 Cw Cx)).symm)
        ·exact Cv
      obtain ⟨⟨Fy,J0⟩,J1,rfl,Ar⟩:=Jl;refine ⟨trivial,?_⟩;subst J1;refine Zk (ABj rfl rfl (ABj rfl rfl (AAi (Zv ?_))));obtain ⟨J2,Fz,J3⟩:=Zp Jk;refine AI8 532676608 (fun x:(LiI) × (LiI)=>[]) (fun x h'=>( (x.1,x.2))=J2/\Kst h h' ((Ar.L.set 4 (aO2 (cI .i64) 60 2 Bc Be Bf Ac x.1)).set 3 (aO2 (cI .i64) 60 2 Ae Ag Ah Ad x.2))) ?_ ?_
      ·refine Zn (Zk (Zk (ADc rfl rfl (Zr (⟨_,rfl,fun C6=>?_,fun C6=>?_⟩)))))
       ·refine Z1 (Zk (Zk (Zk ?_)));obtain ⟨J4,J5,J6⟩:=Zp (AA7 Fz C6);refine AAr (K':=(fun xr h'=> ∃ x:(LiI) × (LiI),(x.1,x.2)=J4/\xr= .tuple #[]/\Kst h h' ((Ar.L.set 4 (aO2 (cI .i64) 60 2 Bc Be Bf Ac x.1)).set 3 (aO2 (cI .i64) 60 2 Ae Ag Ah Ad x.2)))) trivial rfl ?_ fun St Su J7=>?_
        ·refine cwf (l:=[_,_,_,_]) Tryz.func89 rfl rfl (Zo (Zo (AGh (Zk (ACm rfl (AEy AG7 AE6 (Ar.b p5) 2 rfl (Zk (ACm rfl (AEy ASm AE6 (Ar.b p5) 3 rfl (Afk AOm Ana rfl trivial tt2 rfl (Ar.o2 p4).isOne (Ar.o2 p3).isOne fun Sv Sw J8 J9 Ka=>AW5 AOm rfl (Zk (Zr (Zt ?_)))))))))))));have F4:=Ar.nb J9 Ka J8;refine AHm 36028797002189312 J5 (fun x=>[(24,(.int .i64 x.1))]) (fun x=>(F4.L.set 5 (aO2 (cI .i64) 60 2 Bc Be Bf Ac x.2.1)).set 4 (aO2 (cI .i64) 60 2 Ae Ag Ah Ad x.2.2)) F4 ⟨rfl,trivial⟩ ?_;rintro ⟨F5,Sx,Kb⟩ Sy Sz S5 Ai C7 Kc;unfold AC8 at C7;refine Zn (AAy rfl rfl (Zr (Zo (⟨_,rfl,fun C8=>?_,fun C8=>?_⟩))))
         ·refine Zx (q_t (Zo (Zt (Zn ?_))));have F6:=AA7 C7 C8;by_cases C9:F5=0
          ·refine Aae 0 AOm rfl rfl C9 Zl (AA6 AE6 rfl ((Ai.b p0).cell (i:=0) rfl) (AA3 (Zk (ABe AAn rfl (Ai.o2 p5).rd (Zk (Zr (Zt (AHm 18014397435742208 (ifT F6 C9) (fun x=>[(30,(.int .i64 x.1))]) (fun x=>Ai.L.set 5 (aO2 (cI .i64) 60 2 Bc Be Bf Ac x.2)) Ai ⟨rfl,trivial⟩ ?_))))))));rintro ⟨Da,S7⟩ Ta Tb Tc Aw Db Kd;unfold AG8 at Db;refine Zn (AAy rfl rfl (Zr (Zo (⟨_,rfl,fun Dc=>?_,fun Dc=>?_⟩))))
           ·refine Zx (q_t (Zo (Zt (Zn ?_))));obtain ⟨Td,Bu,Ke⟩:=Zp (AA7 Db Dc);refine AB2 AAn AA1 (Aw.o2 p5) Bu fun _ Te Dd=>Zv (AGh (Zk (Zk (Zk (Zk ?_)))));obtain ⟨Tf,F7,Kf⟩:=Zp Ke;refine AH5 (m:=Da) AAj AAt (Aw.o2 p5) Dd Bu F7 fun _=>(Zk (Zk (Zk ?_)));obtain ⟨Tg,Kg,Kh⟩:=Zp Kf;refine AH5 (m:=Da) AAj AAt (Aw.o2 p5) Dd Bu Kg fun _=>(AK2 rfl rfl (AAz rfl rfl (Zk (ACm rfl (AEy ANb AAt (Aw.b p6) 1 rfl ?_)))));obtain ⟨Ki,Kj⟩:=ifN Kh;refine ADo rfl rfl Ki (ALq (m:=Da) Aw p5 AAj AAt Dd Bu F7 (fun _=>rfl) fun _ Th Kk=>AAh (q_b (q_t (Z1 (AAz rfl rfl (Zk (Zr ?_)))))));exact ⟨_,(Zm Kj).symm,Kk,rfl,trivial⟩
           ·refine AAe (AAf (AAf (ABk (q_b (q_t (Z1 (AAz rfl rfl (Zk (Zr ?_)))))))));exact ⟨_,(Zm (Kd _ (Zm (AA8 Db Dc)).symm)).symm,Aw,rfl,trivial⟩
          ·have F8:=ifF F6 C9;by_cases De:F5=1
           ·refine Aae 1 AOm rfl rfl De Zl (AA6 AE6 rfl ((Ai.b p0).cell (i:=1) rfl) (AA3 (Zk (ABe AAn rfl (Ai.o2 p4).rd (Zk (Zr (Zt (AHm 18014397435742208 (ifT F8 De) (fun x=>[(30,(.int .i64 x.1))]) (fun x=>Ai.L.set 4 (aO2 (cI .i64) 60 2 Ae Ag Ah Ad x.2)) Ai ⟨rfl,trivial⟩ ?_))))))));rintro ⟨Df,Ti⟩ Tj Tk Tl Ax Dg Kl;unfold AG9 at Dg;refine Zn (AAy rfl rfl (Zr (Zo (⟨_,rfl,fun Dh=>?_,fun Dh=>?_⟩))))
            ·refine Zx (q_t (Zo (Zt (Zn ?_))));obtain ⟨Tm,Bv,Km⟩:=Zp (AA7 Dg Dh);refine AB2 AAn AA1 (Ax.o2 p4) Bv fun _ Tn Di=>Zv (AGh (Zk (Zk (Zk (Zk ?_)))));obtain ⟨To,F9,Kn⟩:=Zp Km;refine AH5 (m:=Df) AAj AAt (Ax.o2 p4) Di Bv F9 fun _=>(Zk (Zk (Zk ?_)));obtain ⟨Tp,Ko,Kp⟩:=Zp Kn;refine AH5 (m:=Df) AAj AAt (Ax.o2 p4) Di Bv Ko fun _=>(AK2 rfl rfl (AAz rfl rfl (Zk (ACm rfl (AEy ANb AAt (Ax.b p6) 1 rfl ?_)))));obtain ⟨Kr,Kt⟩:=ifN Kp;refine ADo rfl rfl Kr (ALq (m:=Df) Ax p4 AAj AAt Di Bv F9 (fun _=>rfl) fun _ Tq Ku=>AAh (q_b (q_t (Z1 (AAz rfl rfl (Zk (Zr ?_)))))));exact ⟨_,(Zm Kt).symm,Ku,rfl,trivial⟩
            ·refine AAe (AAf (AAf (ABk (q_b (q_t (Z1 (AAz rfl rfl (Zk (Zr ?_)))))))));exact ⟨_,(Zm (Kl _ (Zm (AA8 Dg Dh)).symm)).symm,Ax,rfl,trivial⟩
           ·have Kv:=ifF F8 De;cases Kv
         ·refine AAe (AAf (AAf (ABk (q_t (Zn (Zk (ACm rfl (AEy AG7 AE6 (Ai.b p6) 2 rfl (Zk ?_)))))))));obtain ⟨Tr,Ga,Kw⟩:=Zp (Kc _ (Zm (AA8 C7 C8)).symm);refine AB2 AAn AA1 (Ai.o2 p5) Ga fun _ Ts Gb=>ABr AAj rfl ((Ai.o2 p5).rowI Gb Ga) (Zk (Zr (Zt ?_)));have Dj:=Ai.sel [1,2,3,4,5,6,7] Zl;dsimp only [AFy,AI2] at Dj;refine AHm 158456325019305303150233137152 Kw (fun x=>[(63,(.int .i64 x.1))]) (fun x=>Dj.L.set 4 (aO2 (cI .i64) 60 2 Bc Be Bf Ac x.2)) Dj ⟨rfl,trivial⟩ ?_;rintro ⟨Tt,Kx⟩ Tu Tv Tw Am Dk Ky;unfold AD7 at Dk;refine Zn (AAy rfl rfl (Zr (Zo (⟨_,rfl,fun Dl=>?_,fun Dl=>?_⟩))))
          ·refine Zx (q_t (Zo (Zt (Zn (Zk ?_)))));obtain ⟨Tx,Kz,La⟩:=Zp (AA7 Dk Dl);obtain ⟨Ty,Lb,Lc⟩:=Zp La;refine AH5 (m:=J0) AAj AAt (Am.o2 p4) Gb Kz Lb fun _=>(AAi (Zv (AGh (Zk (ACm rfl (AEy AG7 AE6 (Am.b p5) 2 rfl (Zk ?_)))))));obtain ⟨Tz,Bw,Ld⟩:=Zp Lc;refine AB2 AAn AA1 (Am.o2 p4) Bw fun _ T0 Le=>Zk (Zk (ACm rfl (AEy AG7 AE6 (Am.b p5) 2 rfl (Zk (AB2 AAn AA1 (Am.o2 p4) Bw fun _ T3 Lf=>Zk ?_)))));obtain ⟨T4,Gc,Lg⟩:=Zp Ld;refine AH5 (m:=Fy) AAj AAt (Am.o2 p4) Lf Bw Gc fun _=>(Zk (Zk (AK2 rfl rfl (AAz rfl rfl (Zk (ACm rfl (AEy ANb AAt (Am.b p5) 1 rfl ?_)))))));obtain ⟨Lh,Li⟩:=ifN Lg;refine ADo rfl rfl Lh (ALq (m:=Fy) Am p4 AAj AAt Le Bw Gc (fun _=>rfl) fun _ T5 Lj=>AAh (q_b (q_t (Z1 (AAz rfl rfl (Zk (Zr ?_)))))));exact ⟨_,(Zm Li).symm,Lj,rfl,trivial⟩
          ·refine AAe (AAf (AAf (ABk (⟨_,AQ3,((Kx,Kb):(LiI) × (LiI)),?_,rfl,?_⟩))))
           ·exact Zm (Ky _ (Zm (AA8 Dk Dl)).symm)
           ·exact Am
        obtain ⟨⟨Lk,Ll⟩,Lm,rfl,Lo⟩:=J7;refine ⟨trivial,?_⟩;subst Lm;refine Zr ?_;exact ⟨((Lk,Ll):(LiI) × (LiI)),⟨Zm J6,Lo⟩,trivial⟩
       ·refine Zx (q_t ?_);exact ⟨((I9,Ja):(LiI) × (LiI)),⟨Zm (AA8 Fz C6),Ar⟩,trivial⟩
      rintro ⟨T6,T7⟩ T8 T9 ⟨Lq,Ao⟩;subst Lq;refine Zn (Zk (Zk (Zk ?_)));obtain ⟨Lr,Lv,Lw⟩:=Zp J3;refine AAr (K':=(fun xr h'=> ∃ x:(LiI) × LnA × LnN × LvA × (LiI),(x.1,x.2.2.2.2)=Lr/\xr= .tuple #[]/\Kst h h' ((Ao.L.set 4 (aO2 (cI .i64) 60 2 x.2.1 x.2.2.1 x.2.2.2.1 Ac x.1)).set 3 (aO2 (cI .i64) 60 2 Ae Ag Ah Ad x.2.2.2.2)))) trivial rfl ?_ fun Ua Do Lx=>?_
      ·refine cwf (l:=[_,_,_]) Tryz.func90 rfl rfl (Zo (AGh (Zk (ACm rfl (AEy AG7 AE6 (Ao.b p5) 2 rfl (Zk (Zk (ACm rfl (AEy AG7 AE6 (Ao.b p5) 2 rfl (Zk (Zk (ACm rfl (AEy AG7 AE6 (Ao.b p5) 2 rfl (Zk ?_))))))))))))));obtain ⟨Ub,Gd,Ly⟩:=Zp Lv;refine AB2 AAn AA1 (Ao.o2 p4) Gd fun _ Uc Lz=>Zk (ACm rfl (AEy AG7 AE6 (Ao.b p5) 2 rfl (Zk ?_)));obtain ⟨Ud,Ge,L9⟩:=Zp Ly;refine AB2 AAn AA1 (Ao.o2 p4) Ge fun _ Ue Ma=>APp AAn AA1 (Ao.o2 p4) Ma Lz Ge Gd rfl rfl (fun _=>rfl) (fun _=>rfl) (fun _=>rfl) (fun _ _=>rfl) fun Uf Ug Dp Dq Dr Uh Mb Mc Md=>Zr (Zo (AGh ?_));have Bi:=Ao.uo2 p4 Mc Mb Md;refine Zk (ACm rfl (AEy AG7 AE6 (Bi.b p5) 2 rfl (Zk (ACm rfl (AEy ASm AE6 (Bi.b p5) 3 rfl (Afk AOm Ana rfl trivial tt2 rfl (Bi.o2 p4).isOne (Bi.o2 p3).isOne fun Ui Uj Me Mf Mg=>AW5 AOm rfl (Zk (Zr (Zt ?_)))))))));have Gf:=Bi.nb Mf Mg Me;refine AHm 4722366412500901036672 L9 (fun x=>[(46,(.int .i64 x.1))]) (fun x=>(Gf.L.set 5 (aO2 (cI .i64) 60 2 Dp Dq Dr Ac x.2.1)).set 4 (aO2 (cI .i64) 60 2 Ae Ag Ah Ad x.2.2)) Gf ⟨rfl,trivial⟩ ?_;rintro ⟨Gg,Mh,Mi⟩ Uk Ul Um Ap Ds Mj;unfold AD8 at Ds;refine Zn (AAy rfl rfl (Zr (Zo (⟨_,rfl,fun Dt=>?_,fun Dt=>?_⟩))))
       ·refine Zx (q_t (Zo (Zt (Zn ?_))));have Gh:=AA7 Ds Dt;by_cases Du:Gg=0
        ·refine Aae 0 AOm rfl rfl Du Zl (AA6 AE6 rfl ((Ap.b p0).cell (i:=0) rfl) (AA3 (Zk (ABe AAn rfl (Ap.o2 p5).rd (Zk (Zr (Zt (AHm 2361178737835195236864 (ifT Gh Du) (fun x=>[(52,(.int .i64 x.1))]) (fun x=>Ap.L.set 5 (aO2 (cI .i64) 60 2 Dp Dq Dr Ac x.2)) Ap ⟨rfl,trivial⟩ ?_))))))));rintro ⟨Bx,Un⟩ Uo Up Uq Bj Dv Mk;unfold AHa at Dv;refine Zn (AAy rfl rfl (Zr (Zo (⟨_,rfl,fun Dw=>?_,fun Dw=>?_⟩))))
         ·refine Zx (q_t (Zo (Zt (Zn ?_))));obtain ⟨Ur,By,Ml⟩:=Zp (AA7 Dv Dw);refine AB2 AAn AA1 (Bj.o2 p5) By fun _ Us Bz=>Zv (AGh (Zk (Zk (Zk (Zk (Zk (Zk ?_)))))));obtain ⟨Ut,Mm,Mo⟩:=Zp Ml;refine AH5 (m:=Bx) AAj AAt (Bj.o2 p5) Bz By Mm fun _=>(Zk (Zk ?_));obtain ⟨Uu,Gi,Mq⟩:=Zp Mo;refine AH5 (m:=Bx) AAj AAt (Bj.o2 p5) Bz By Gi fun _=>ALq (m:=Bx) Bj p5 AAj AAt Bz By Gi (fun _=>rfl) fun _ Uv Mr=>?_;obtain ⟨Uw,Ms,Mt⟩:=Zp Mq;obtain ⟨Ux,Mu,Mv⟩:=Zp Mt;refine ALq (m:=Bx) Mr p5 AAj AAt Bz Ms Mu (fun _=>rfl) fun _ Uy Mw=>AAh (q_b (q_t (Z1 (AAz rfl rfl (Zk (Zr ?_))))));exact ⟨_,(Zm Mv).symm,Mw,rfl,trivial⟩
         ·refine AAe (AAf (AAf (ABk (q_b (q_t (Z1 (AAz rfl rfl (Zk (Zr ?_)))))))));exact ⟨_,(Zm (Mk _ (Zm (AA8 Dv Dw)).symm)).symm,Bj,rfl,trivial⟩
        ·have Gj:=ifF Gh Du;by_cases Dx:Gg=1
         ·refine Aae 1 AOm rfl rfl Dx Zl (AA6 AE6 rfl ((Ap.b p0).cell (i:=1) rfl) (AA3 (Zk (ABe AAn rfl (Ap.o2 p4).rd (Zk (Zr (Zt (AHm 2361178737835195236864 (ifT Gj Dx) (fun x=>[(52,(.int .i64 x.1))]) (fun x=>Ap.L.set 4 (aO2 (cI .i64) 60 2 Ae Ag Ah Ad x.2)) Ap ⟨rfl,trivial⟩ ?_))))))));rintro ⟨B1,Uz⟩ U0 U3 U8 Bl Dy Mx;unfold AHb at Dy;refine Zn (AAy rfl rfl (Zr (Zo (⟨_,rfl,fun Dz=>?_,fun Dz=>?_⟩))))
          ·refine Zx (q_t (Zo (Zt (Zn ?_))));obtain ⟨Va,B3,My⟩:=Zp (AA7 Dy Dz);refine AB2 AAn AA1 (Bl.o2 p4) B3 fun _ Vb B4=>Zv (AGh (Zk (Zk (Zk (Zk (Zk (Zk ?_)))))));obtain ⟨Vc,Mz,M0⟩:=Zp My;refine AH5 (m:=B1) AAj AAt (Bl.o2 p4) B4 B3 Mz fun _=>(Zk (Zk ?_));obtain ⟨Vd,Gk,M1⟩:=Zp M0;refine AH5 (m:=B1) AAj AAt (Bl.o2 p4) B4 B3 Gk fun _=>ALq (m:=B1) Bl p4 AAj AAt B4 B3 Gk (fun _=>rfl) fun _ Ve M2=>?_;obtain ⟨Vf,M3,M4⟩:=Zp M1;obtain ⟨Vg,M5,M6⟩:=Zp M4;refine ALq (m:=B1) M2 p4 AAj AAt B4 M3 M5 (fun _=>rfl) fun _ Vh M7=>AAh (q_b (q_t (Z1 (AAz rfl rfl (Zk (Zr ?_))))));exact ⟨_,(Zm M6).symm,M7,rfl,trivial⟩
          ·refine AAe (AAf (AAf (ABk (q_b (q_t (Z1 (AAz rfl rfl (Zk (Zr ?_)))))))));exact ⟨_,(Zm (Mx _ (Zm (AA8 Dy Dz)).symm)).symm,Bl,rfl,trivial⟩
         ·have M8:=ifF Gj Dx;cases M8
       ·refine AAe (AAf (AAf (ABk (⟨_,AQ3,((Mh,Dp,Dq,Dr,Mi):(LiI) × LnA × LnN × LvA × (LiI)),?_,rfl,?_⟩))))
        ·exact Zm (Mj _ (Zm (AA8 Ds Dt)).symm)
        ·exact Ap.sel [1,2,3,4,5,6,7] Zl
      obtain ⟨⟨Vi,Ay,Az,A3,Vj⟩,M9,rfl,Au⟩:=Lx;refine ⟨trivial,?_⟩;subst M9;refine Zr (Zo ?_);have A4:UpT [] Do Do:=UpT.start all_nil;refine AR7 (B:=fun h'=>UpT [] Do h') 15 [⟨9,59,[.int .i64 0,.int .i64 0,.int .i64 0,.int .i64 0,.int .i64 0]⟩] (fun _ _ U E=>U.thenE E) Zw A4 (Abo rfl ATg rfl (fun _ _ U E=>U.thenE E)) (h_l rfl (Zk (AAh (h_l rfl (ACm rfl (AAh (h_l rfl (ACz AG7 rfl (AAh (h_l rfl (AB8 AE6 rfl A4 (fun h' hb=>((Au.b p5).ext hb.ext).cell (i:=2) rfl) (AAh (h_l rfl (Zk (AAh (h_l rfl ?_))))))))))))))));obtain ⟨Vk,D0,Na⟩:=Zp Lw;refine ACt AAn rfl (Au.o2 p4) rfl D0 fun Vl Vm Vn Nb Nc=>AAh (h_l rfl (AB8 AA1 rfl A4 (fun h' hb=>AAu Nc hb.ext) (AAh (h_l rfl (Zk (AAh (h_l rfl ?_)))))));obtain ⟨Vo,Gl,Nd⟩:=Zp Na;refine AEa (m:=Cq) AAj rfl (Au.o2 p4) Nb D0 rfl Gl fun Vp Nf=>AAh (h_l rfl ?_);obtain ⟨Vs,Ng,Nh⟩:=(Au.o2 p4).cells Nf D0 Gl;obtain rfl:=Ng;refine AB8 AAt rfl A4 (fun h' hb=>AAu (Nh 0 _ rfl) hb.ext) (AAh (h_l rfl (Zk (AAh (h_l rfl (ACm rfl (AAh (h_l rfl (ACz Acg rfl (AAh (h_l rfl (AB8 AAt rfl A4 (fun h' hb=>((Au.b p5).ext hb.ext).cell (i:=0) rfl) (AAh (h_e rfl fun Vt Gm=>?_))))))))))))));obtain ⟨Aa,Ni,Nj⟩:=Zp Nd;refine Aaf (Au.e Gm) (A4.thenE Gm) (ANa Ni) fun Vu Nk Vv Nl=>AAh ⟨Nk,?_⟩;refine AYz fun Vw Nm=>Aoh fun Vx Gn Nn Vy=>?_;have Gp:=Au.nb (Nl.thenE Nm).ext (AEv Nn Gn.lt) Gn;refine AB3 [(.int .i64 Aa.1),(.int .i64 Aa.2.1),(.int .i64 Aa.2.2.1),(.int .i64 Aa.2.2.2.1),(.int .i64 Aa.2.2.2.2)] ANk rfl rfl rfl rfl (by simp [isOne]) (Gp.b p0) fun Vz Np Nq=>Zr (Zo (AGh ?_));have D1:=Gp.sb p0 Nq Np rfl;refine Zk (ACm rfl (AEy Acg AAt (D1.b p6) 0 rfl (AEy AKs ABt (D1.b p0) 0 rfl ?_)));obtain ⟨V1,Nr,Ns⟩:=Zp Nj;refine ADk D1 (AM3 Nr) fun D2 V4 D3=>Zv (Zo (ACb (fun h'=>UpT [] D2 h') Zw ?_));have B5:UpT [] D2 D2:=UpT.start all_nil;refine ACz AT0 rfl (AB8 AAt rfl B5 (fun h' hb=>((D3.b p0).ext hb.ext).cell (i:=2) rfl) (AWk (κ:= .i64) [Aa.2.2.1] AAj AJx rfl rfl B5 (fun _ E=>B5.thenE E) rfl rfl rfl rfl fun Nt Nu V5 Nv Gq Nw Ny=>?_));have D4:=B5.thenE Gq;have D5:=D3.no Gq (AEv Nw Ny) Nv;refine AWn (c:=(cI .i64)) (el:=2) [[Nt]] [Nu] [([Aa.2.2.1]:List Int)] AAn AMp rfl rfl D4 (fun _ E=>D4.thenE E) rfl rfl rfl rfl (AIm (D5.o p0).isOne AT3) ⟨(D5.o p0),trivial⟩ AAx fun V6 V8 V9 Nz Gr N0=>Zk (ACm rfl (ACz ANb rfl ?_));have D6:=D4.thenE Gr;refine AB8 AAt rfl D6 (fun h' hb=>((D3.b p6).ext hb.ext).cell (i:=1) rfl) ?_;have Gt:=(((D5.a0).grab p0)).lit Gr Nz (by simpa using N0);obtain ⟨⟨Wa,Wb⟩,N3,Gu⟩:=Zp Ns;dsimp only at Gu;refine AD2 D6 (fun _ E=>D6.thenE E) rfl (ATt (Gt.o2 p0).rd N3) fun Wc Wd N4 N5=>?_;obtain ⟨We,Wf,Wg,Wh,rfl,N6,N7⟩:=N5;refine Zk (ABj rfl rfl (ABj rfl rfl (AAi (Zv (Zo (Zn (Zk (AAz rfl rfl (Zv (Zt ?_))))))))));have D7:=(Gt.no2 N4 N7 N6).sel [0,3,4,5,6,7,8,9,10] Zl;dsimp only [AFy,AI2] at D7;refine AHm 83076749736556651760677582561894400 Gu (fun x=>[(13,(.int .i64 x.1))]) (fun x=>(D7.L.set 6 (aO2 (cI .i64) 60 2 Ay Az A3 Ac x.2.1)).set 5 (aO2 (cI .i64) 60 2 Ae Ag Ah Ad x.2.2)) D7 ⟨rfl,trivial⟩ ?_;rintro ⟨Gv,N8,N9⟩ Wi Wj Wk Ab D8 Oa;unfold AHe at D8;refine Zo (Zn (Zk (Zk (ACm rfl (AEy AG7 AE6 (Ab.b p7) 2 rfl (ABe AAn rfl (Ab.o2 p6).rd (AAy rfl rfl (Zr (⟨_,rfl,fun D9=>?_,fun D9=>?_⟩)))))))))
      ·refine Zx (q_t (Zo (Zt (Zo (AGh (Zk (ACm rfl (AEy AG7 AE6 (Ab.b p7) 2 rfl (Zk ?_)))))))));obtain ⟨Wl,Gw,Ob⟩:=Zp (AA7 D8 D9);refine AB2 AAn AA1 (Ab.o2 p6) Gw fun _ Wm Oc=>Zk ?_;obtain ⟨Wn,Od,Oe⟩:=Zp Ob;refine AH5 (m:=Cq) AAj AAt (Ab.o2 p6) Oc Gw Od fun _=>(Zk ?_);obtain ⟨Og,Oh⟩:=ifN Oe;refine AP9 rfl rfl Og (Zk ?_);obtain ⟨Wo,Gx,Oi⟩:=Zp Oh;refine AB2 AAn AA1 (Ab.o2 p0) Gx fun _ Wp Oj=>?_;obtain ⟨Wq,Ol,Om⟩:=Zp Oi;refine AH5 (m:=0) AAj AAt (Ab.o2 p0) Oj Gx Ol fun _=>(AK2 rfl rfl (Zk (ACm rfl (AEy ANb AAt (Ab.b p7) 1 rfl ?_))));obtain ⟨On,Oo⟩:=ifN Om;refine ADo rfl rfl On (Zv (AGh (Zk (Zk (Zk (Zk (ACm rfl (AEy ANb AAt (Ab.b p7) 1 rfl (Zk (AE4 rfl rfl (Zk (ACm rfl (AEy ANb AAt (Ab.b p7) 1 rfl ?_)))))))))))));obtain ⟨Oq,Ot⟩:=ifN Oo;refine ADo rfl rfl Oq ?_;obtain ⟨Ou,Ov,Ow⟩:=Zp Ot;refine AAr (K':=(fun xr h'=> ∃ x:(LiI) × (LiI),(x.1,x.2)=Ou/\xr= .tuple #[]/\Kst h h' ((Ab.L.set 6 (aO2 (cI .i64) 60 2 Ay Az A3 Ac x.1)).set 5 (aO2 (cI .i64) 60 2 Ae Ag Ah Ad x.2)))) trivial rfl ?_ fun Wr Ws Ox=>?_
       ·refine cwf (l:=[_,_,_,_]) Tryz.func89 rfl rfl (Zo (Zo (AGh (Zk (ACm rfl (AEy AG7 AE6 (Ab.b p7) 2 rfl (Zk (ACm rfl (AEy ASm AE6 (Ab.b p7) 3 rfl (Afk AOm Ana rfl trivial tt2 rfl (Ab.o2 p6).isOne (Ab.o2 p5).isOne fun Wt Wu Oy Oz O0=>AW5 AOm rfl (Zk (Zr (Zt ?_)))))))))))));have Gy:=Ab.nb Oz O0 Oy;refine AHm 36028797002189312 Ov (fun x=>[(24,(.int .i64 x.1))]) (fun x=>(Gy.L.set 7 (aO2 (cI .i64) 60 2 Ay Az A3 Ac x.2.1)).set 6 (aO2 (cI .i64) 60 2 Ae Ag Ah Ad x.2.2)) Gy ⟨rfl,trivial⟩ ?_;rintro ⟨Gz,Wv,O1⟩ Ww Wx Wy Aj Ea O2;unfold AD9 at Ea;refine Zn (AAy rfl rfl (Zr (Zo (⟨_,rfl,fun Eb=>?_,fun Eb=>?_⟩))))
        ·refine Zx (q_t (Zo (Zt (Zn ?_))));have G3:=AA7 Ea Eb;by_cases Ec:Gz=0
         ·refine Aae 0 AOm rfl rfl Ec Zl (AA6 AE6 rfl ((Aj.b p0).cell (i:=0) rfl) (AA3 (Zk (ABe AAn rfl (Aj.o2 p7).rd (Zk (Zr (Zt (AHm 18014397435742208 (ifT G3 Ec) (fun x=>[(30,(.int .i64 x.1))]) (fun x=>Aj.L.set 7 (aO2 (cI .i64) 60 2 Ay Az A3 Ac x.2)) Aj ⟨rfl,trivial⟩ ?_))))))));rintro ⟨Ed,Wz⟩ W0 W1 W3 A5 Ee O3;unfold AHc at Ee;refine Zn (AAy rfl rfl (Zr (Zo (⟨_,rfl,fun Ef=>?_,fun Ef=>?_⟩))))
          ·refine Zx (q_t (Zo (Zt (Zn ?_))));obtain ⟨W4,B6,O4⟩:=Zp (AA7 Ee Ef);refine AB2 AAn AA1 (A5.o2 p7) B6 fun _ W5 Eg=>Zv (AGh (Zk (Zk (Zk (Zk ?_)))));obtain ⟨W6,G4,O5⟩:=Zp O4;refine AH5 (m:=Ed) AAj AAt (A5.o2 p7) Eg B6 G4 fun _=>(Zk (Zk (Zk ?_)));obtain ⟨W7,O6,O7⟩:=Zp O5;refine AH5 (m:=Ed) AAj AAt (A5.o2 p7) Eg B6 O6 fun _=>(AK2 rfl rfl (AAz rfl rfl (Zk (ACm rfl (AEy ANb AAt (A5.b p8) 1 rfl ?_)))));obtain ⟨O8,O9⟩:=ifN O7;refine ADo rfl rfl O8 (ALq (m:=Ed) A5 p7 AAj AAt Eg B6 G4 (fun _=>rfl) fun _ W8 Pa=>AAh (q_b (q_t (Z1 (AAz rfl rfl (Zk (Zr ?_)))))));exact ⟨_,(Zm O9).symm,Pa,rfl,trivial⟩
          ·refine AAe (AAf (AAf (ABk (q_b (q_t (Z1 (AAz rfl rfl (Zk (Zr ?_)))))))));exact ⟨_,(Zm (O3 _ (Zm (AA8 Ee Ef)).symm)).symm,A5,rfl,trivial⟩
         ·have G5:=ifF G3 Ec;by_cases Eh:Gz=1
          ·refine Aae 1 AOm rfl rfl Eh Zl (AA6 AE6 rfl ((Aj.b p0).cell (i:=1) rfl) (AA3 (Zk (ABe AAn rfl (Aj.o2 p6).rd (Zk (Zr (Zt (AHm 18014397435742208 (ifT G5 Eh) (fun x=>[(30,(.int .i64 x.1))]) (fun x=>Aj.L.set 6 (aO2 (cI .i64) 60 2 Ae Ag Ah Ad x.2)) Aj ⟨rfl,trivial⟩ ?_))))))));rintro ⟨Ei,Xa⟩ Xb Xc Xd A6 Ej Pb;unfold AHd at Ej;refine Zn (AAy rfl rfl (Zr (Zo (⟨_,rfl,fun Ek=>?_,fun Ek=>?_⟩))))
           ·refine Zx (q_t (Zo (Zt (Zn ?_))));obtain ⟨Xe,B7,Pc⟩:=Zp (AA7 Ej Ek);refine AB2 AAn AA1 (A6.o2 p6) B7 fun _ Xf El=>Zv (AGh (Zk (Zk (Zk (Zk ?_)))));obtain ⟨Xg,G6,Pd⟩:=Zp Pc;refine AH5 (m:=Ei) AAj AAt (A6.o2 p6) El B7 G6 fun _=>(Zk (Zk (Zk ?_)));obtain ⟨Xh,Pe,Pf⟩:=Zp Pd;refine AH5 (m:=Ei) AAj AAt (A6.o2 p6) El B7 Pe fun _=>(AK2 rfl rfl (AAz rfl rfl (Zk (ACm rfl (AEy ANb AAt (A6.b p8) 1 rfl ?_)))));obtain ⟨Pg,Ph⟩:=ifN Pf;refine ADo rfl rfl Pg (ALq (m:=Ei) A6 p6 AAj AAt El B7 G6 (fun _=>rfl) fun _ Xi Pj=>AAh (q_b (q_t (Z1 (AAz rfl rfl (Zk (Zr ?_)))))));exact ⟨_,(Zm Ph).symm,Pj,rfl,trivial⟩
           ·refine AAe (AAf (AAf (ABk (q_b (q_t (Z1 (AAz rfl rfl (Zk (Zr ?_)))))))));exact ⟨_,(Zm (Pb _ (Zm (AA8 Ej Ek)).symm)).symm,A6,rfl,trivial⟩
          ·have Pk:=ifF G5 Eh;cases Pk
        ·refine AAe (AAf (AAf (ABk (q_t (Zn (Zk (ACm rfl (AEy AG7 AE6 (Aj.b p8) 2 rfl (Zk ?_)))))))));obtain ⟨Xj,G7,Pl⟩:=Zp (O2 _ (Zm (AA8 Ea Eb)).symm);refine AB2 AAn AA1 (Aj.o2 p7) G7 fun _ Xk G8=>ABr AAj rfl ((Aj.o2 p7).rowI G8 G7) (Zk (Zr (Zt ?_)));have Em:=Aj.sel [1,2,3,4,5,6,7,8,9] Zl;dsimp only [AFy,AI2] at Em;refine AHm 158456325019305303150233137152 Pl (fun x=>[(63,(.int .i64 x.1))]) (fun x=>Em.L.set 6 (aO2 (cI .i64) 60 2 Ay Az A3 Ac x.2)) Em ⟨rfl,trivial⟩ ?_;rintro ⟨Xl,Pm⟩ Xm Xn Xo Aq En Pn;unfold AFi at En;refine Zn (AAy rfl rfl (Zr (Zo (⟨_,rfl,fun Eo=>?_,fun Eo=>?_⟩))))
         ·refine Zx (q_t (Zo (Zt (Zn (Zk ?_)))));obtain ⟨Xp,Po,Pp⟩:=Zp (AA7 En Eo);obtain ⟨Xq,Pq,Ps⟩:=Zp Pp;refine AH5 (m:=Cq) AAj AAt (Aq.o2 p6) G8 Po Pq fun _=>(AAi (Zv (AGh (Zk (ACm rfl (AEy AG7 AE6 (Aq.b p7) 2 rfl (Zk ?_)))))));obtain ⟨Xr,B8,Pt⟩:=Zp Ps;refine AB2 AAn AA1 (Aq.o2 p6) B8 fun _ Xt Pu=>Zk (Zk (ACm rfl (AEy AG7 AE6 (Aq.b p7) 2 rfl (Zk (AB2 AAn AA1 (Aq.o2 p6) B8 fun _ Xu Pv=>Zk ?_)))));obtain ⟨Xv,G9,Pw⟩:=Zp Pt;refine AH5 (m:=Gv) AAj AAt (Aq.o2 p6) Pv B8 G9 fun _=>(Zk (Zk (AK2 rfl rfl (AAz rfl rfl (Zk (ACm rfl (AEy ANb AAt (Aq.b p7) 1 rfl ?_)))))));obtain ⟨Px,Py⟩:=ifN Pw;refine ADo rfl rfl Px (ALq (m:=Gv) Aq p6 AAj AAt Pu B8 G9 (fun _=>rfl) fun _ Xw Pz=>AAh (q_b (q_t (Z1 (AAz rfl rfl (Zk (Zr ?_)))))));exact ⟨_,(Zm Py).symm,Pz,rfl,trivial⟩
         ·refine AAe (AAf (AAf (ABk (⟨_,AQ3,((Pm,O1):(LiI) × (LiI)),?_,rfl,?_⟩))))
          ·exact Zm (Pn _ (Zm (AA8 En Eo)).symm)
          ·exact Aq
       obtain ⟨⟨Xx,Xy⟩,P0,rfl,P1⟩:=Ox;refine ⟨trivial,?_⟩;subst P0;refine AAh (q_b (q_t (Z1 (Zk (AAz rfl rfl (Zv ?_))))));exact ⟨_,(Zm Ow).symm,P1,rfl,trivial⟩
      ·refine AAe (AAf (AAf (ABk (q_t (Zn (AMo [(.int .i64 Aa.1),(.int .i64 Aa.2.1),(.int .i64 Aa.2.2.1),(.int .i64 Aa.2.2.2.1),(.int .i64 Aa.2.2.2.2)] ANk rfl rfl (Ab.b p1).agg (AB3 [(.int .i64 Aa.1),(.int .i64 Aa.2.1),(.int .i64 Aa.2.2.1),(.int .i64 Aa.2.2.2.1),(.int .i64 Aa.2.2.2.2)] ANk rfl rfl rfl rfl (by simp [isOne]) (Ab.b p2) fun Xz P2 P3=>Zr (Zy ?_))))))));have Hb:=Ab.sb p2 P3 P2 rfl;refine ⟨_,AB9 ANk rfl rfl (Hb.b p2),((Aa.1,Aa.2.1,Aa.2.2.1,Aa.2.2.2.1,Aa.2.2.2.2,N8,Ay,Az,A3,N9):(Int) × (Int) × (Int) × (Int) × (Int) × (LiI) × LnA × LnN × LvA × (LiI)),?_,rfl,?_⟩
       ·exact Zm (Oa _ (Zm (AA8 D8 D9)).symm)
       ·exact Hb.sel [3,4,5,6,7,8] Zl
     obtain ⟨⟨B9,Ca,Cb,Cd,Ce,X0,X3,X4,X5,X6⟩,P4,rfl,P5⟩:=Jh;refine ⟨trivial,?_⟩;subst P4;refine ACx P5 [(.int .i64 0),(.int .i64 0),(.int .i64 0),(.int .i64 0),(.int .i64 0)] ATg fun X8 Ya Yb Hc=>AB3 [(.int .i64 B9),(.int .i64 Ca),(.int .i64 Cb),(.int .i64 Cd),(.int .i64 Ce)] ANk rfl rfl rfl rfl (by simp [isOne]) (Hc.b p0) fun Yc P6 P7=>AHj ?_;have Cf:=Hc.sb p0 P7 P6 rfl;refine AEy AMv ATf (Cf.b p2) 2 rfl (AMo [(.int .i64 B9),(.int .i64 Ca),(.int .i64 Cb),(.int .i64 Cd),(.int .i64 Ce)] ANk rfl rfl (Cf.b p0).agg ?_);obtain ⟨P8,P9⟩:=ifN Jg;refine ALl ASq ATg rfl rfl trivial tt2 (fun _=>rfl) rfl (show (AR1).rep _ (B9,Ca,Cb,Cd,Ce) [(.int .i64 B9),(.int .i64 Ca),(.int .i64 Cb),(.int .i64 Cd),(.int .i64 Ce)] from rfl) (Cf.o p1) Zl P8 fun Yd Ye Qa Yf Qb Qc Qd=>ACz AMv rfl ?_;have Ep:=Cf.uo p1 Qc Qb Qd;refine AOo [(.int .i64 a5),(.slice none 0 0),Qa] ATf rfl rfl (Ep.o p1).isOne (Ep.b p2) (Nat.le_of_ble_eq_true rfl) rfl fun Yg Qe Qf=>Zr (Z1 ?_);have Hd:=Ep.sb p2 Qf Qe rfl;refine AEy AKs ABt (Hd.b p0) 0 rfl (AAi (AAh (q_b (q_t (Z1 (AAz rfl rfl (Zk (Zr ?_))))))));exact ⟨(_,_,_,_,_,_,_,_,_,_),(Zm P9).symm,Hd.sel [1,2,3,4,5,6] Zl,rfl,rfl,trivial⟩
    ·refine AAe (AAf (AAf (ABk (q_t (Zn (Zk (ACm rfl (AEy ASm AE6 (Av.b p4) 3 rfl (ACz ATz rfl (AOo [(.int .i64 a5),Ad,Cr] AE6 rfl rfl (Av.o2 p2).isOne (Av.b p1) (Nat.le_of_ble_eq_true rfl) rfl fun Yh Qg Qh=>AHj ?_))))))))));have Bm:=Av.sb p1 Qh Qg rfl;refine AMo [(.int .i64 a5),Ad,Cr] AMu rfl rfl (Bm.b p1).agg (AB3 [(.int .i64 a5),Ad,Cr] AMu rfl rfl rfl rfl (AIm rfl (AIm (Bm.o2 p2).isOne (AIm (Bm.o p0).isOne AT3))) (Bm.b p5) fun Yi Qi Qj=>Zv (Zy ?_));have Bn:=Bm.sb p5 Qj Qi rfl;obtain rfl:=Zm (Jc _ (Zm (AA8 Ct Cu)).symm);exact ⟨_,AQc AMu rfl rfl (Bn.b p5),Bn.x,_,_,_,_,_,_,rfl,(Bn.o2 p2),(Bn.o p0),Bn.s.sel [2,0] Zl⟩
end Go.Proofs.YtdkldlbgcfpglaaGreatDoor
namespace Go.Proofs.YtdkldlbgcfpglaaGreatDoor
open Go Go.QF
set_option maxRecDepth 100000
theorem Ahy {q x y c:Int} (hq:0 < q) (Aa:q<=2147483647) (hx:0<=x/\x < q) (hy:0<=y/\y < q) (hc:0<=c/\c<=2147483647):Int.tmod (w64 (x + w64 (c * y))) q=(x + c * y) % q:=by
 have h1:0<=c * y:=Int.mul_nonneg hc.1 hy.1;have h2:c * y<=2147483647 * 2147483647:=Int.mul_le_mul hc.2 Zj hy.1 Zl;rw [ACf (x:=c * y) Zj Zj,ACf (x:=x + c * y) Zj Zj,Int.tmod_eq_emod_of_nonneg Zj]
theorem AUd {body:Int × List (List Int)->Option ((Int × List (List Int)) ⊕ List (List Int))} {fuel n:Nat} {G G':Z4} (hf:n < fuel)
    (hs:∀ (r:Nat) (M:Z4),r < n->(∀ b,M r b=G r b)->body ((r:Int),tab n n M)=some (.inl (((r + 1:Nat):Int),tab n n (ABz M r (G' r))))) (he:∀ X,body ((n:Int),X)=some (.inr X)):iter body fuel (0,tab n n G)=some (tab n n G'):=by
  apply ok_eq;refine ABd (fun r st=> ∃ M,st=((r:Int),tab n n M)/\r<=n/\ ∀ a b,M a b=if a < r then G' a b else G a b) n ⟨G,rfl,Nat.zero_le _,fun a b=>by rw [if_neg (Nat.not_lt_zero a)]⟩ hf fun r st hr hI=>?_;obtain ⟨M,rfl,hrn,hM⟩:=hI
  rcases Nat.lt_or_ge r n with h | h
  · rw [hs r M h fun b=>by rw [hM,if_neg (Nat.lt_irrefl r)]];refine Zq ⟨h,_,rfl,h,fun a b=>?_⟩;rw [AA4]
    by_cases h1:a=r
    · subst h1;rw [if_pos rfl,if_pos (Nat.lt_succ_self a)]
    · rw [if_neg h1,hM]
      by_cases h2:a < r
      · rw [if_pos h2,if_pos Zj]
      · rw [if_neg h2,if_neg Zj]
  · obtain rfl:r=n:=by omega
    rw [he];exact Zq (AL8 fun a b ha hb=>by rw [hM,if_pos ha])
theorem Ahz {body:Int × List (List Int)->Option ((Int × List (List Int)) ⊕ List (List Int))} {fuel n j:Nat} {G:Z4} {g:Nat->Int} (hf:n < fuel)
    (hs:∀ (s:Nat) (M:Z4),s < n->(∀ a b,a≠j->M a b=G a b)->M j s=G j s->body ((s:Int),tab n n M)=some (.inl (((s + 1:Nat):Int),tab n n (ABz M j fun b=>if b=s then g s else M j b)))) (he:∀ X,body ((n:Int),X)=some (.inr X)):iter body fuel (0,tab n n G)=some (tab n n (ABz G j g)):=by
  apply ok_eq;refine ABd (fun s st=> ∃ M,st=((s:Int),tab n n M)/\s<=n/\ ∀ a b,M a b=if a=j/\b < s then g b else G a b) n ⟨G,rfl,Nat.zero_le _,fun a b=>by rw [if_neg Zj]⟩ hf fun s st hr hI=>?_;obtain ⟨M,rfl,hrn,hM⟩:=hI
  rcases Nat.lt_or_ge s n with h | h
  · rw [hs s M h (fun a b ha=>by rw [hM,if_neg Zj]) (by rw [hM,if_neg Zj])];refine Zq ⟨h,_,rfl,h,fun a b=>?_⟩;rw [AA4]
    by_cases h1:a=j
    · subst h1;rw [if_pos rfl]
      by_cases h2:b=s
      · subst h2;rw [if_pos rfl,if_pos ⟨rfl,Nat.lt_succ_self b⟩]
      · rw [if_neg h2,hM]
        by_cases h3:b < s
        · rw [if_pos ⟨rfl,h3⟩,if_pos ⟨rfl,Zj⟩]
        · rw [if_neg (fun h=>h3 h.2),if_neg Zj]
    · rw [if_neg h1,hM,if_neg (fun h=>h1 h.1),if_neg (fun h=>h1 h.1)]
  · obtain rfl:s=n:=by omega
    rw [he];refine Zq (AL8 fun a b ha hb=>?_);rw [hM,AA4]
    by_cases h1:a=j
    · rw [if_pos ⟨h1,hb⟩,if_pos h1]
    · rw [if_neg (fun h=>h1 h.1),if_neg h1]
theorem Ah0 {n j l:Nat} {q c:Int} {G:Z4}:tab n n (ABz G j fun b=>(G j b + c * G l b) % q)=tab n n (Am8 q j l c G):=AL8 fun a b _ _=>by
  unfold Am8;rw [AA4]
theorem AV5 {n j l r:Nat} {q c:Int} {M G:Z4} (h:∀ b,M r b=G r b):tab n n (ABz M r fun b=>if b=j then (M r j + c * M r l) % q else M r b)=tab n n (ABz M r (AO2 q j l c G r)):=AZm fun b _=>by
  unfold AO2;rw [h,h,h]
theorem AV6 {n i j r:Nat} {q c:Int} {M:Z4} (hq:0 < q) (Aa:q<=2147483647) (hc:0<=c/\c<=2147483647) (hi:i < n) (hj:j < n) (hr:r < n) (hn:n<=8) (hM:AUh n q fun _ b=>M r b):
    ((gI (tab n n M) (r:Int)).bind fun x=>(gI x (i:Int)).bind fun y=>(gI x (j:Int)).bind fun z=>if q≠0 then some (Sum.inl (β:=List (List Int)) (w64 ((r:Int) + 1),sI (tab n n M) (r:Int) (sI x (i:Int) (Int.tmod (w64 (y + w64 (c * z))) q)))) else none)=some (.inl (((r + 1:Nat):Int),tab n n (ABz M r fun b=>if b=i then (M r i + c * M r j) % q else M r b))):=by
 rw [AKo (ABl hr),AKo (AA0 hi),AKo (AA0 hj),if_pos Zj,Ahy hq Aa (hM 0 i Zj hi) (hM 0 j Zj hj) hc,AV0,AHu,AGw Zj]
theorem Aer {n j l s:Nat} {q c:Int} {M:Z4} (hq:0 < q) (Aa:q<=2147483647) (hc:0<=c/\c<=2147483647) (hj:j < n) (hl:l < n) (hs:s < n) (hn:n<=8) (h1:0<=M j s/\M j s < q) (h2:0<=M l s/\M l s < q):
    ((gI (tab n n M) (l:Int)).bind fun x=>(gI x (s:Int)).bind fun y=>(gI (tab n n M) (j:Int)).bind fun z=>(gI z (s:Int)).bind fun w=>if q≠0 then some (Sum.inl (β:=List (List Int)) (w64 ((s:Int) + 1),sI (tab n n M) (j:Int) (sI z (s:Int) (Int.tmod (w64 (w + w64 (c * y))) q)))) else none)=some (.inl (((s + 1:Nat):Int),tab n n (ABz M j fun b=>if b=s then (M j s + c * M l s) % q else M j b))):=by
 rw [AKo (ABl hl),AKo (AA0 hs),AKo (ABl hj),AKo (AA0 hs),if_pos Zj,Ahy hq Aa h1 h2 hc,AV0,AHu,AGw Zj]
theorem Aes {n i k r:Nat} {M:Z4} (hi:i < n) (hk:k < n) (hr:r < n) (hn:n<=8):
    ((gI (tab n n M) (r:Int)).bind fun x=>(gI x (i:Int)).bind fun y=>(gI x (k:Int)).bind fun z=>(gI (sI (tab n n M) (r:Int) (sI x (k:Int) y)) (r:Int)).bind fun u=>(gI u (i:Int)).bind fun w=>some (Sum.inl (β:=List (List Int)) (w64 ((r:Int) + 1),sI (sI (tab n n M) (r:Int) (sI x (k:Int) y)) (r:Int) (sI u (i:Int) z))))=some (.inl (((r + 1:Nat):Int),tab n n (ABz M r fun b=>M r (sw2 k i b)))):=by
 rw [AKo (ABl hr),AKo (AA0 hi),AKo (AA0 hk),AV0,AHu,AKo (ABl hr),AB0,AKo (AA0 hi),AV0,AHu,AGw Zj];congr 3;refine AL8 fun a b ha hb=>?_;rw [AA4,AA4,AA4];by_cases h:a=r
 ·rw [if_pos h,if_pos h];unfold sw2;by_cases h1:b=i
  ·rw [if_pos h1,if_pos h1]
  ·rw [if_neg h1,if_neg h1];by_cases h2:b=k
   ·rw [if_pos h2,if_pos h2]
   ·rw [if_neg h2,if_neg h2]
 ·rw [if_neg h,if_neg h,if_neg h]
theorem Af7 {body:Int × List (List Int) × List (List Int)->Option ((Int × List (List Int) × List (List Int)) ⊕ (List (List Int) × List (List Int)))} {fuel:Nat} {g t g' t':List (List Int)} (hf:3 < fuel) (h0:body (0,g,t)=some (.inl (1,g',t))) (h1:body (1,g',t)=some (.inl (2,g',t'))) (h2:body (2,g',t')=some (.inr (g',t'))):iter body fuel (0,g,t)=some (g',t'):=by
  obtain ⟨f,rfl⟩:∃ f,fuel=f + 3:=⟨fuel - 3,Zj⟩;rw [AQm h0,AQm h1,AOa h2]
section
variable {fuel n i j k:Nat} {q c:Int} {G T:Z4}
theorem AV7 {n r:Nat} {q:Int} {M G:Z4} (hG:AUh n q G) (hr:r < n) (h:∀ b,M r b=G r b):AUh n q fun _ b=>M r b:=fun a b _ hb=>by
  show 0<=M r b/\M r b < q
  rw [h];exact hG r b hr hb
theorem Asw (hq:1 < q) (hq2:q<=2147483647) (hn:n<=8) (hi:i < n) (hj:j < n) (hne:j≠i) (hG:AUh n q G) (hT:AUh n q T) (hf:100 < fuel):
    iter (fun s=>AC8 fuel q (i:Int) (j:Int) s.1 s.2.1 s.2.2) fuel (0,tab n n G,tab n n T)=some (tab n n (AO2 q i j 1 G),tab n n (AO2 q i j 1 T))/\
    iter (fun s=>AD7 fuel q (i:Int) (j:Int) (ACl n (AO2 q i j 1 G j)) s.1 s.2) fuel (0,tab n n (AO2 q i j 1 G))=some (tab n n (AU5 q i j 1 G)):=by
  constructor
  · refine Af7 Zj ?_ ?_ ?_
    · unfold AC8;dsimp only
      rw [if_pos Zl,if_pos rfl,AUd (G:=G) (G':=AO2 q i j 1 G) Zj (fun r M hr hM=>?_) fun X=>?_]
      · rfl
      · unfold AG8;dsimp only;rw [AA9,if_pos Zj,AV6 Zj hq2 Zj hi hj hr hn (AV7 hG hr hM),AV5 hM]
      · unfold AG8;dsimp only;rw [AA9,if_neg Zj]
    · unfold AC8;dsimp only
      rw [if_pos Zl,if_neg Zl,if_pos rfl,AUd (G:=T) (G':=AO2 q i j 1 T) Zj (fun r M hr hM=>?_) fun X=>?_]
      · rfl
      · unfold AG9;dsimp only;rw [AA9,if_pos Zj,AV6 Zj hq2 Zj hi hj hr hn (AV7 hT hr hM),AV5 hM]
      · unfold AG9;dsimp only;rw [AA9,if_neg Zj]
    · unfold AC8;dsimp only;rw [if_neg Zl]
  · have hG1:=AUc (j:=i) (l:=j) (c:=1) Zj hG;unfold AU5
    rw [Ahz (j:=i) (g:=fun b=>(AO2 q i j 1 G i b + 1 * AO2 q i j 1 G j b) % q) Zj (fun s M hs hM hMs=>?_) fun X=>?_,Ah0]
    · unfold AD7;dsimp only;rw [ABm,if_pos Zj,Aer Zj hq2 Zj hi hj hs hn (by rw [hMs];exact hG1 i s hi hs) (by rw [hM j s hne];exact hG1 j s hj hs),hMs,hM j s hne]
    · unfold AD7;dsimp only;rw [ABm,if_neg Zj]
theorem Asx (hn:n<=8) (hi:i < n) (hk:k < n) (hf:100 < fuel):
    iter (fun s=>AD8 fuel (k:Int) (i:Int) s.1 s.2.1 s.2.2) fuel (0,sI (sI (tab n n G) (k:Int) (ACl n (G i))) (i:Int) (ACl n (G k)),tab n n T)=some (tab n n (swG k i G),tab n n (swC k i T)):=by
  have e0:sI (sI (tab n n G) (k:Int) (ACl n (G i))) (i:Int) (ACl n (G k))=tab n n fun a b=>G (sw2 k i a) b:=by
    rw [AHu,AHu];refine AL8 fun a b _ _=>?_;rw [AA4,AA4];unfold sw2
    by_cases h1:a=i
    · rw [if_pos h1,if_pos h1]
    · rw [if_neg h1,if_neg h1];by_cases h2:a=k
      · rw [if_pos h2,if_pos h2]
      · rw [if_neg h2,if_neg h2]
  rw [e0]
  refine Af7 Zj ?_ ?_ ?_
  · unfold AD8;dsimp only
    rw [if_pos Zl,if_pos rfl,AUd (G:=fun a b=>G (sw2 k i a) b) (G':=swG k i G) Zj (fun r M hr hM=>?_) fun X=>?_]
    · rfl
    · unfold AHa;dsimp only;rw [AA9,if_pos Zj,Aes hi hk hr hn];congr 3;exact AZm fun b _=>by rw [hM];rfl
    · unfold AHa;dsimp only;rw [AA9,if_neg Zj]
  · unfold AD8;dsimp only
    rw [if_pos Zl,if_neg Zl,if_pos rfl,AUd (G:=T) (G':=swC k i T) Zj (fun r M hr hM=>?_) fun X=>?_]
    · rfl
    · unfold AHb;dsimp only;rw [AA9,if_pos Zj,Aes hi hk hr hn];congr 3;exact AZm fun b _=>by rw [hM];rfl
    · unfold AHb;dsimp only;rw [AA9,if_neg Zj]
  · unfold AD8;dsimp only;rw [if_neg Zl]
theorem Asy {S x v:Int} (hq:1 < q) (hq2:q<=2147483647) (hn:n<=8) (hi:i < n) (hj:j < n) (hne:j≠i) (hG:AUh n q G) (hT:AUh n q T) (hf:100 < fuel) (hc:Int.tmod (w64 (q - (Int.tmod (w64 ((w64 (Int.tdiv x S)) * v)) q))) q=c) (hc2:0<=c/\c < q):
    iter (fun s=>AD9 fuel q (j:Int) S (i:Int) x v s.1 s.2.1 s.2.2) fuel (0,tab n n G,tab n n T)=some (tab n n (AO2 q i j c G),tab n n (AO2 q i j c T))/\
    iter (fun s=>AFi fuel q (j:Int) S (i:Int) x v (ACl n (AO2 q i j c G j)) s.1 s.2) fuel (0,tab n n (AO2 q i j c G))=some (tab n n (AU5 q i j c G)):=by
  constructor
  · refine Af7 Zj ?_ ?_ ?_
    · unfold AD9;dsimp only
      rw [if_pos Zl,if_pos rfl,AUd (G:=G) (G':=AO2 q i j c G) Zj (fun r M hr hM=>?_) fun X=>?_]
      · rfl
      · unfold AHc;dsimp only;simp only [hc];rw [AA9,if_pos Zj,AV6 Zj hq2 Zj hi hj hr hn (AV7 hG hr hM),AV5 hM]
      · unfold AHc;dsimp only;rw [AA9,if_neg Zj]
    · unfold AD9;dsimp only
      rw [if_pos Zl,if_neg Zl,if_pos rfl,AUd (G:=T) (G':=AO2 q i j c T) Zj (fun r M hr hM=>?_) fun X=>?_]
      · rfl
      · unfold AHd;dsimp only;simp only [hc];rw [AA9,if_pos Zj,AV6 Zj hq2 Zj hi hj hr hn (AV7 hT hr hM),AV5 hM]
      · unfold AHd;dsimp only;rw [AA9,if_neg Zj]
    · unfold AD9;dsimp only;rw [if_neg Zl]
  · have hG1:=AUc (j:=i) (l:=j) (c:=c) Zj hG;unfold AU5
    rw [Ahz (j:=i) (g:=fun b=>(AO2 q i j c G i b + c * AO2 q i j c G j b) % q) Zj (fun s M hs hM hMs=>?_) fun X=>?_,Ah0]
    · unfold AFi;dsimp only;simp only [hc];rw [ABm,if_pos Zj,Aer Zj hq2 Zj hi hj hs hn (by rw [hMs];exact hG1 i s hi hs) (by rw [hM j s hne];exact hG1 j s hj hs),hMs,hM j s hne]
    · unfold AFi;dsimp only;rw [ABm,if_neg Zj]
end
end Go.Proofs.YtdkldlbgcfpglaaGreatDoor
namespace Go.Proofs.YtdkldlbgcfpglaaGreatDoor
open Go Go.QF
set_option maxRecDepth 100000
structure PV (n k:Nat) (p:Int) (G:Z4) (r c E:Nat):Prop where
  hr:k<=r
  hrc:r<=c
  hc:c < n
  u:∃ u,G r c=u * p ^ E/\¬ p ∣ u
  dg:r≠c-> ∀ a,k<=a->a < n->p ^ (E + 1) ∣ G a a
def Dn (n k d i a e:Nat):Prop:=k<=a/\a + e < n/\(e < d∨e=d/\a < i)
def PSt (n k:Nat) (p:Int) (G:Z4) (d i r c:Nat) (l:Int):Prop:=
  (l= -1/\r=k/\c=k/\ ∀ a e,Dn n k d i a e->G a (a + e)=0)∨ ∃ E:Nat,l=E/\PV n k p G r c E/\ ∀ a e,Dn n k d i a e->p ^ E ∣ G a (a + e)
def PQ (n k:Nat) (p:Int) (G:Z4) (r c:Nat):Prop:= ∃ E,PV n k p G r c E/\ ∀ a e,k<=a->a + e < n->p ^ E ∣ G a (a + e)
theorem PSt.zero {n k d i r c:Nat} {p l:Int} {G:Z4} (H:PSt n k p G d i r c l) (hx:G i (i + d)=0):PSt n k p G d (i + 1) r c l:=by
 have key:∀ a e,Dn n k d (i + 1) a e->Dn n k d i a e∨(a=i/\e=d):=fun a e h=>by unfold Dn at *;omega
 rcases H with ⟨h1,h2,h3,h4⟩ | ⟨E,h1,h2,h3⟩
 ·refine .inl ⟨h1,h2,h3,fun a e h=>?_⟩;rcases key a e h with h | ⟨rfl,rfl⟩
  ·exact h4 a e h
  ·exact hx
 ·refine .inr ⟨E,h1,h2,fun a e h=>?_⟩;rcases key a e h with h | ⟨rfl,rfl⟩
  ·exact h3 a e h
  ·rw [hx];exact ⟨0,AAx⟩
theorem PSt.new {n k d i r c e:Nat} {p l u:Int} {G:Z4} (H:PSt n k p G d i r c l) (hi:k<=i) (hin:i + d < n) (hx:G i (i + d)=u * p ^ e) (hu: ¬ p ∣ u) (hl:l < 0∨(e:Int) < l):PSt n k p G d (i + 1) i (i + d) e:=by
  have key:∀ a e',Dn n k d (i + 1) a e'->Dn n k d i a e'∨(a=i/\e'=d):=fun a e h=>by unfold Dn at *;omega
  have all:∀ a e',Dn n k d i a e'->p ^ (e + 1) ∣ G a (a + e'):=fun a e' h=>by
    rcases H with ⟨h1,_,_,h4⟩ | ⟨E,rfl,_,h3⟩
    · rw [h4 a e' h];exact ⟨0,AAx⟩
    · exact Int.dvd_trans (AEo Zj) (h3 a e' h)
  refine .inr ⟨e,rfl,⟨hi,Zj,hin,⟨u,hx,hu⟩,fun hne a h1 h2=>?_⟩,fun a e' h=>?_⟩
  · exact all a 0 (by unfold Dn;omega)
  · rcases key a e' h with h | ⟨rfl,rfl⟩
    · exact Int.dvd_trans (AEo Zj) (all a e' h)
    · rw [hx];exact ⟨u,Int.mul_comm _ _⟩
theorem PSt.old {n k d i r c e:Nat} {p l u:Int} {G:Z4} (H:PSt n k p G d i r c l) (hx:G i (i + d)=u * p ^ e) (hl: ¬ l < 0) (Ac: ¬ (e:Int) < l):PSt n k p G d (i + 1) r c l:=by
 have key:∀ a e',Dn n k d (i + 1) a e'->Dn n k d i a e'∨(a=i/\e'=d):=fun a e h=>by unfold Dn at *;omega
 rcases H with ⟨rfl,_⟩ | ⟨E,rfl,h2,h3⟩
 ·exact absurd Zl hl
 ·refine .inr ⟨E,rfl,h2,fun a e' h=>?_⟩;rcases key a e' h with h | ⟨rfl,rfl⟩
  ·exact h3 a e' h
  ·rw [hx];exact Int.dvd_trans (AEo Zj) ⟨u,Int.mul_comm _ _⟩
theorem PSt.quit {n k d i r c f:Nat} {p:Int} {G:Z4} (H:PSt n k p G d i r c f) (hf:∀ a e,k<=a->a + e < n->p ^ f ∣ G a (a + e)):PQ n k p G r c:=by
 rcases H with ⟨h1,_⟩ | ⟨E,h1,h2,h3⟩
 ·omega
 ·obtain rfl:f=E:=by omega
  exact ⟨f,h2,hf⟩
theorem PSt.row {n k d r c:Nat} {p l:Int} {G:Z4} {i:Nat} (H:PSt n k p G d i r c l) (hi: ¬ i + d < n):PSt n k p G (d + 1) k r c l:=by
 have key:∀ a e,Dn n k (d + 1) k a e->Dn n k d i a e:=fun a e h=>by unfold Dn at *;omega
 rcases H with ⟨h1,h2,h3,h4⟩ | ⟨E,h1,h2,h3⟩
 ·exact .inl ⟨h1,h2,h3,fun a e h=>h4 a e (key a e h)⟩
 ·exact .inr ⟨E,h1,h2,fun a e h=>h3 a e (key a e h)⟩
section
variable {fuel n k f:Nat} {p q:Int} {G:Z4}
theorem Apy {d r c:Nat} {l:Int} (hp:2<=p) (hp2:p<=9973) (hq2:q<=2147483647) (hn:n<=8) (hG:AUh n q G) (hfl:∀ a e,k<=a->a + e < n->p ^ f ∣ G a (a + e)) (hd:d<=n) (hk:k < n) (hS:PSt n k p G d k r c l) (hlf:l≠f) (hf:100 < fuel):
    Ok (iter (fun s=>AHz fuel p (f:Int) (tab n n G) (d:Int) s.1 s.2.1 s.2.2.1 s.2.2.2) fuel ((r:Int),(c:Int),l,(k:Int))) fun ex=>(∃ r c:Nat,ex= .inl ((r:Int),(c:Int))/\PQ n k p G r c)∨ ∃ (r c:Nat) (l:Int),ex= .inr ((r:Int),(c:Int),l)/\PSt n k p G (d + 1) k r c l/\l≠f:=by
  refine ABd (fun j s=> ∃ (r c:Nat) (l:Int),s=((r:Int),(c:Int),l,((k + j:Nat):Int))/\k + j<=n/\PSt n k p G d (k + j) r c l/\l≠f) (n - k) ⟨r,c,l,rfl,Zj,hS,hlf⟩ Zj fun j s hj hI=>?_;obtain ⟨r,c,l,rfl,hjn,hS,hlf⟩:=hI;unfold AHz;dsimp only;have e1:w64 (((k + j:Nat):Int) + (d:Int))=((k + j + d:Nat):Int):=by rw [wk Zj];omega
  rw [e1,AA9];refine AAw (fun h=>?_) fun h=>Zq (.inr ⟨r,c,l,rfl,hS.row Zj,hlf⟩);have hij:k + j + d < n:=by omega
  have hi:k + j < n:=by omega
  rw [AKo (ABl hi),AKo (AA0 hij)];have hr:=hG (k + j) (k + j + d) hi hij
  have fin:∀ (F:(Int × Int × Int) ⊕ (Int × Int)->Option ((Int × Int × Int × Int) ⊕ ((Int × Int) ⊕ (Int × Int × Int)))) (R:(Int × Int × Int × Int) ⊕ ((Int × Int) ⊕ (Int × Int × Int))->Prop) (r c:Nat) (l:Int),(∀ a b e,F (.inl (a,b,e))=some (.inl (a,b,e,w64 (((k + j:Nat):Int) + 1))))->(∀ a b,F (.inr (a,b))=some (.inr (.inl (a,b))))->
      (∀ (r c:Nat) (l:Int),PSt n k p G d (k + (j + 1)) r c l->l≠f->R (.inl ((r:Int),(c:Int),l,((k + (j + 1):Nat):Int))))->(∀ r c:Nat,PQ n k p G r c->R (.inr (.inl ((r:Int),(c:Int)))))->PSt n k p G d (k + j + 1) r c l->Ok ((if l=f then some (Sum.inr ((r:Int),(c:Int))) else some (Sum.inl ((r:Int),(c:Int),l)):Option ((Int × Int × Int) ⊕ (Int × Int))).bind F) R:=by
    intro F R r c l h1 h2 h3 h4 hS
    by_cases hl:l=f
    · rw [if_pos hl];simp only [Option.bind_some];rw [h2];exact Zq (h4 r c ((hl ▸ hS).quit hfl))
    · rw [if_neg hl];simp only [Option.bind_some];rw [h1,AGw Zj];exact Zq (h3 r c l hS hl)
  by_cases h0:G (k + j) (k + j + d)=0
  · rw [if_pos h0];refine Zq ⟨Zj,r,c,l,?_,Zj,hS.zero h0,hlf⟩;show ((r:Int),(c:Int),l,w64 (((k + j:Nat):Int) + 1))=_;rw [AGw Zj];rfl
  · rw [if_neg h0];obtain ⟨b,hb,e,u,rfl,hx,hu⟩:=Aep hp hp2 (show 0 < G (k + j) (k + j + d) by omega) Zj hf;rw [hb];simp only [Option.bind_some]
    by_cases hl:l < 0
    · rw [if_pos hl];simp only [Option.bind_some];exact fin _ _ (k + j) (k + j + d) e (fun _ _ _=>rfl) (fun _ _=>rfl) (fun r c l hS hl=>⟨Zj,r,c,l,rfl,Zj,hS,hl⟩) (fun r c hQ=> .inl ⟨r,c,rfl,hQ⟩) (hS.new Zj hij hx hu (.inl hl))
    · rw [if_neg hl]
      by_cases hl2:(e:Int) < l
      · rw [if_pos hl2];simp only [Option.bind_some];exact fin _ _ (k + j) (k + j + d) e (fun _ _ _=>rfl) (fun _ _=>rfl) (fun r c l hS hl=>⟨Zj,r,c,l,rfl,Zj,hS,hl⟩) (fun r c hQ=> .inl ⟨r,c,rfl,hQ⟩) (hS.new Zj hij hx hu (.inr hl2))
      · rw [if_neg hl2];simp only [Option.bind_some];exact fin _ _ r c l (fun _ _ _=>rfl) (fun _ _=>rfl) (fun r c l hS hl=>⟨Zj,r,c,l,rfl,Zj,hS,hl⟩) (fun r c hQ=> .inl ⟨r,c,rfl,hQ⟩) (hS.old hx hl hl2)
theorem Apz (hp:2<=p) (hp2:p<=9973) (hq2:q<=2147483647) (hn:n<=8) (hG:AUh n q G) (hfl:∀ a e,k<=a->a + e < n->p ^ f ∣ G a (a + e)) (hk:k < n) (hne:∃ e,k + e < n/\G k (k + e)≠0) (hf:100 < fuel):
    Ok (iter (fun s=>AH0 fuel p (f:Int) (k:Int) (tab n n G) s.1 s.2.1 s.2.2.1 s.2.2.2) fuel ((k:Int),(k:Int),(-1:Int),(0:Int))) fun ex=> ∃ r c:Nat,ex=((r:Int),(c:Int))/\PQ n k p G r c:=by
  refine ABd (fun d s=> ∃ (r c:Nat) (l:Int),s=((r:Int),(c:Int),l,(d:Int))/\d<=n - k/\PSt n k p G d k r c l/\l≠f) (n - k) ⟨k,k,-1,rfl,Nat.zero_le _,.inl ⟨rfl,rfl,rfl,fun a e h=>by unfold Dn at h;omega⟩,Zj⟩ Zj fun d s hd hI=>?_;obtain ⟨r,c,l,rfl,hdn,hS,hlf⟩:=hI;unfold AH0;dsimp only;rw [AA9,ACf (x:=(n:Int) - (k:Int)) Zj Zj]
  refine AAw (fun h=>?_) fun h=>Zq ⟨r,c,rfl,?_⟩
  · refine Zu (Apy hp hp2 hq2 hn hG hfl Zj hk hS hlf hf) fun ex hex=>?_
    rcases hex with ⟨r,c,rfl,hQ⟩ | ⟨r,c,l,rfl,hS,hlf⟩
    · exact Zq ⟨r,c,rfl,hQ⟩
    · refine Zq ⟨Zj,r,c,l,?_,Zj,hS,hlf⟩;rw [AGw Zj]
  · obtain rfl:d=n - k:=by omega
    rcases hS with ⟨_,_,_,h4⟩ | ⟨E,_,h2,h3⟩
    · obtain ⟨e,he,hx⟩:=hne;exact absurd (h4 k e (by unfold Dn;omega)) hx
    · exact ⟨E,h2,fun a e h1 h5=>h3 a e (by unfold Dn;omega)⟩
end
end Go.Proofs.YtdkldlbgcfpglaaGreatDoor
namespace Go.Proofs.YtdkldlbgcfpglaaGreatDoor
open Go Go.QF
set_option maxRecDepth 100000
theorem Anc {M:List (List Int)} {p v:Int} (R:AZz M) (hp:2<=p) (hp2:p<=9973) (h:AZ0 (det M.length (ent M)) p v):∃ k:Nat,((if p=2 then v + 3 else v + 1)=(k:Int))/\p ^ k<=2147483647/\1<=k/\(p=2->3<=k):=by
  obtain ⟨v1,v2⟩:=AVz R;obtain ⟨e,r,rfl,h1,h2⟩:=h;have hpe:0 < p ^ e:=Int.pow_pos Zj
  have hr:0 < r:=by
    rcases Int.lt_or_le 0 r with h | h
    · exact h
    · have:=Int.mul_nonpos_of_nonpos_of_nonneg h (Int.le_of_lt hpe);omega
  have hle:1 * p ^ e<=r * p ^ e:=Int.mul_le_mul_of_nonneg_right Zj Zj
  by_cases h:p=2
  · subst h;refine ⟨e + 3,by rw [if_pos rfl];rfl,?_,Zj,fun _=>by omega⟩;rw [Int.pow_add];have:(2:Int) ^ 3=8:=by decide
    omega
  · refine ⟨e + 1,by rw [if_neg h];rfl,?_,Zj,fun h2=>absurd h2 h⟩;rw [Int.pow_succ];have:=Int.mul_le_mul (show p ^ e<=10000 by omega) hp2 Zj Zj;omega
theorem Af8 {p:Int} (hp:Pr p):PrI p:=⟨hp.1,fun x y h=>by
  have h2:=hp.1
  refine Classical.byContradiction fun hn=>?_
  have hx:x % p≠0:=fun h=>hn (.inl (Int.dvd_of_emod_eq_zero h))
  have hy:y % p≠0:=fun h=>hn (.inr (Int.dvd_of_emod_eq_zero h))
  have h3:=Int.emod_nonneg x (show p≠0 by omega)
  have h4:=Int.emod_lt_of_pos x (show 0 < p by omega)
  have h5:=Int.emod_nonneg y (show p≠0 by omega)
  have h6:=Int.emod_lt_of_pos y (show 0 < p by omega)
  refine Akc hp (a:=x % p) (x:=y % p) Zj Zj Zj Zj ?_
  rw [<- Int.mul_emod]
  exact Int.emod_eq_zero_of_dvd h⟩
theorem Aet {p a:Int} (hp:Pr p) (ha: ¬ p ∣ a):∀ K:Nat,∃ y,p ^ (K + 1) ∣ y * a - 1
  | 0=>by
    have h2:=hp.1;have hx:a % p≠0:=fun h=>ha (Int.dvd_of_emod_eq_zero h);have h3:=Int.emod_nonneg a (show p≠0 by omega);have h4:=Int.emod_lt_of_pos a (show 0 < p by omega);obtain ⟨y,hy⟩:=AYg hp _ (a % p) (Nat.le_refl _) Zj h4;refine ⟨y,?_⟩;rw [Int.pow_succ,Int.pow_zero,Int.one_mul];refine AN4 (m:=p) ?_;show y * a % p=1 % p;rw [Int.emod_eq_of_lt (a:=1) Zl Zj,<- hy];exact ((Eqm.refl p y).mul (Eqm.mod p a)).symm
  | K + 1=>by
    obtain ⟨y,z,hz⟩:=Aet hp ha K;refine ⟨y * (2 - y * a),?_⟩;have e:y * (2 - y * a) * a - 1= -((y * a - 1) * (y * a - 1)):=by grind
    rw [e,hz];refine Int.dvd_neg.2 (Int.dvd_trans (AEo (b:=K + 1 + (K + 1)) Zj) ?_);rw [Int.pow_add];exact ⟨z * z,by grind⟩
theorem Ajl {p a:Int} {K:Nat} (hp:Pr p) (ha: ¬ p ∣ a) (hK:1<=K):∃ y,AYc (p ^ K) (a % p ^ K) y:=by
 obtain ⟨y,hy⟩:=Aet hp ha (K - 1);rw [show K - 1 + 1=K by omega] at hy;have hq:0 < p ^ K:=Int.pow_pos (by have:=hp.1;omega);refine ⟨y % p ^ K,Int.emod_nonneg _ Zj,Int.emod_lt_of_pos _ hq,?_⟩;exact ((Eqm.mod _ y).mul (Eqm.mod _ a)).trans (ASk hy)
theorem Aci {p u x:Int} {f E:Nat} (hp:PrI p) (hx:x=u * p ^ E) (hu: ¬ p ∣ u) (hf:p ^ f ∣ x):f<=E:=by
 rcases Nat.lt_or_ge E f with h | h
 ·exfalso;have h1:p ^ (E + 1) ∣ u * p ^ E:=hx ▸ Int.dvd_trans (AEo h) hf;obtain ⟨w,hw⟩:=h1;refine hu ⟨w,Int.eq_of_mul_eq_mul_left (AVx hp E) ?_⟩;rw [Int.pow_succ] at hw;grind
 ·exact h
theorem Ane {p u x:Int} {E K:Nat} (hp:PrI p) (hx:x=u * p ^ E) (hu: ¬ p ∣ u) (h0:0<=x/\x < p ^ K):E < K:=by
 rcases Nat.lt_or_ge E K with h | h
 ·exact h
 ·exfalso;have hpp:=hp.1;have h1:p ^ K ∣ x:=by rw [hx];exact Int.dvd_trans (AEo h) ⟨u,Int.mul_comm _ _⟩
  have h2:x=0:=by
    rcases Int.lt_or_le 0 x with h3 | h3
    · have:=Int.le_of_dvd h3 h1;omega
    · omega
  rw [h2] at hx;have hpE:p ^ E≠0:=AVx hp E;rcases Int.mul_eq_zero.1 hx.symm with h3 | h3
  ·exact hu (h3 ▸ ⟨0,AAx⟩)
  ·exact hpE h3
section
variable {fuel n K k:Nat} {p:Int} {H T G:Z4}
theorem JS.low {E:Nat} (S:JS n K p H T G k E) (hs:∀ i j,i < n->j < n->H i j=H j i) {E':Nat} (h:∀ a e,k<=a->a + e < n->p ^ E' ∣ G a (a + e)):JS n K p H T G k E':=⟨S.rt,S.rg,S.e,S.z,fun i j hi hin hj hjn=>by
  rcases Nat.lt_or_ge j i with hl | hl
  · rw [S.e.sym hs S.rg hin hjn]
    have:=h j (i - j) hj Zj
    rwa [show j + (i - j)=i by omega] at this
  · have:=h i (j - i) hi Zj
    rwa [show i + (j - i)=j by omega] at this⟩
theorem Aa1 {q:Int} {j l:Nat} {c:Int} {G:Z4} {a:Nat} (h:a≠j):AU5 q j l c G a a=G a a:=by
 rw [ARr,if_neg h,if_neg h]
theorem Anf {i j a:Nat} {G:Z4} (hi:a≠i) (hj:a≠j):swG i j G a a=G a a:=by
 unfold swG;rw [Acf hi hj]
theorem Ap0 {E:Nat} {A v:Int} (S:JS n K p H T G k E) (hp:2<=p) (hq1:1 < p ^ K) (hq2:p ^ K<=2147483647) (hE:E<=K) (hn:n<=8) (hk:k < n) (hD:G k k=A * p ^ E) (hv:Eqm (p ^ K) (v * A) 1) (hv0:0<=v/\v < p ^ K) (hf:100 < fuel):
    Ok (iter (fun s=>AHe fuel (p ^ K) (k:Int) (p ^ E) [[v]] s.1 s.2.1 s.2.2) fuel (((k + 1:Nat):Int),tab n n G,tab n n T)) fun ex=> ∃ T' G',ex=(tab n n G',tab n n T')/\JS n K p H T' G' k E/\(∀ a,a<=k->G' a a=G a a)/\ ∀ j,k < j->j < n->G' k j=0:=by
  refine ABd (fun i s=> ∃ T' G',s=(((k + 1 + i:Nat):Int),tab n n G',tab n n T')/\k + 1 + i<=n/\JS n K p H T' G' k E/\(∀ a,a<=k->G' a a=G a a)/\ ∀ j,k < j->j < k + 1 + i->G' k j=0) (n - (k + 1)) ⟨T,G,rfl,Zj,S,fun _ _=>rfl,fun j h1 h2=>by omega⟩ Zj fun i s hi hI=>?_;obtain ⟨T',G',rfl,hin,S',hd,hz⟩:=hI;unfold AHe;dsimp only;rw [AA9];refine AAw (fun h=>?_) fun h=>Zq ⟨T',G',rfl,S',hd,fun j h1 h2=>hz j h1 Zj⟩;obtain ⟨j,hj⟩:∃ j,j=k + 1 + i:=⟨_,rfl⟩;rw [<- hj] at h hin hz ⊢;have hjn:j < n:=by omega
  have hpE:0 < p ^ E:=Int.pow_pos Zj;rw [AKo (ABl hk),AKo (AA0 hjn),if_pos Zj,Aen (x:=[v]) rfl,Aen (x:=v) rfl,if_pos Zj,if_pos Zj];have hx:=S'.rg k j hk hjn;obtain ⟨x,hxe⟩:∃ x,x=G' k j:=⟨_,rfl⟩;rw [<- hxe] at hx ⊢;have hdiv:0<=x / p ^ E/\x / p ^ E<=x:=⟨Int.ediv_nonneg hx.1 (Int.le_of_lt hpE),Int.ediv_le_self _ hx.1⟩;have hm0:0<=x / p ^ E * v:=Int.mul_nonneg hdiv.1 hv0.1;have hm1:x / p ^ E * v<=2147483647 * 2147483647:=Int.mul_le_mul Zj Zj hv0.1 Zl;have hc0:=AO3 (q:=p ^ K) Zj (x / p ^ E * v)
  have hc:Int.tmod (w64 (p ^ K - (Int.tmod (w64 ((w64 (Int.tdiv x (p ^ E))) * v)) (p ^ K)))) (p ^ K)=(p ^ K - (x / p ^ E * v) % p ^ K) % p ^ K:=by
    rw [Int.tdiv_eq_ediv_of_nonneg hx.1,ACf (x:=x / p ^ E) Zj Zj,ACf (x:=x / p ^ E * v) Zj Zj,Int.tmod_eq_emod_of_nonneg hm0,wk Zj,Int.tmod_eq_emod_of_nonneg Zj]
  obtain ⟨c,hce⟩:∃ c,c=(p ^ K - (x / p ^ E * v) % p ^ K) % p ^ K:=⟨_,rfl⟩;rw [<- hce] at hc;have hc2:0<=c/\c < p ^ K:=by rw [hce];exact AO3 Zj _
  obtain ⟨a1,a2⟩:=Asy (fuel:=fuel) (G:=G') (T:=T') hq1 hq2 hn hjn hk Zj S'.rg S'.rt hf hc hc2;rw [a1];simp only [Option.bind_some];rw [AKo (ABl hk),a2];simp only [Option.bind_some];have S2:=S'.add (c:=c) Zj hE (show k<=j by omega) hjn (Nat.le_refl k) hk Zj
  refine Zq ⟨Zj,_,_,?_,Zj,S2,fun a ha=>by rw [Aa1 Zj,hd a ha],fun j' h1 h2=>?_⟩
  · rw [hj,AGw Zj];rfl
  · rw [ARr,if_neg Zj]
    by_cases h3:j'=j
    · rw [if_pos h3,<- hxe,hd k (Nat.le_refl k),hce];exact Af6 Zj Zj hx.1 (hxe ▸ S'.fl k j (Nat.le_refl k) hk Zj hjn) hD hv
    · rw [if_neg h3];exact hz j' h1 Zj
theorem Ap1 {f:Nat} {L:List AK7} {M:List (List Int)} (hM:M.length=n) (S:JS n K p H T G k f) (B:JL n p G L k f) (hs:∀ i j,i < n->j < n->H i j=H j i) (hd: ¬ p ^ K ∣ det n H) (hp:Pr p) (hp2:2 < p) (hp3:p<=9973) (hq2:p ^ K<=2147483647) (hK:1<=K) (hn:n<=8) (hk:k < n) (hf:2147483648 < fuel):
    ∃ T' G' L' E,AEg fuel M p (p ^ K) (f:Int) (k:Int) (tab n n G) (tab n n T) L=some (.inl ((E:Nat),((k + 1:Nat):Int),tab n n G',tab n n T',L'))/\JS n K p H T' G' (k + 1) E/\JL n p G' L' (k + 1) E:=by
  have hI:=Af8 hp;have hf2:100 < fuel:=by omega
  have hq1:1 < p ^ K:=by
    have h1:p ^ 1<=p ^ K:=ALn Zj hK;rw [Int.pow_succ,Int.pow_zero,Int.one_mul] at h1;omega
  obtain ⟨j,hj1,hj2,hj3⟩:=S.e.some hd hk fun j hj=>by rw [S.e.sym hs S.rg hk Zj];exact S.z j k hj hk Zj
  obtain ⟨ex,hpv,r,c,rfl,E,P,hall⟩:=Apz (fuel:=fuel) (n:=n) (k:=k) (f:=f) (p:=p) (G:=G) Zj hp3 hq2 hn S.rg (fun a e h1 h2=>S.fl a (a + e) h1 Zj Zj h2) hk ⟨j - k,Zj,by rwa [show k + (j - k)=j by omega]⟩ hf2;have S1:=S.low hs hall;obtain ⟨u,hu,hpu⟩:=P.u;have hrn:r < n:=by have:=P.hrc;have:=P.hc;omega
  have hEK:=Ane hI hu hpu (S.rg r c hrn P.hc);have hfE:=Aci hI hu hpu (S.fl r c P.hr hrn (by have:=P.hr;have:=P.hrc;omega) P.hc)
  have key:∃ T1 G1,(((if ¬ (r:Int)=(c:Int) then ((((iter (fun s=>AC8 fuel (p ^ K) (r:Int) (c:Int) s.1 s.2.1 s.2.2) fuel (0,tab n n G,tab n n T)).bind (fun ((e1,e2):(List (List Int)) × (List (List Int)))=>((gI e1 (c:Int)).bind fun x=>((iter (fun s=>AD7 fuel (p ^ K) (r:Int) (c:Int) x s.1 s.2) fuel (0,e1)).bind (fun (e:(List (List Int)))=>(some ( (e,e2)))))))):Option ((List (List Int)) × (List (List Int)))).bind fun (e1,e2)=>(some ( (e1,e2)))) else (some ( (tab n n G,tab n n T)))):Option (((List (List Int)) × (List (List Int))))))=some (tab n n G1,tab n n T1)/\JS n K p H T1 G1 k E/\(∃ u,G1 r r=u * p ^ E/\¬ p ∣ u)/\ ∀ a,a < k->G1 a a=G a a:=by
    by_cases hrc:r=c
    · subst hrc;exact ⟨T,G,by rw [if_neg AAx],S1,⟨u,hu,hpu⟩,fun _ _=>rfl⟩
    · obtain ⟨a1,a2⟩:=Asw (fuel:=fuel) (G:=G) (T:=T) hq1 hq2 hn hrn P.hc (fun h=>hrc h.symm) S.rg S.rt hf2;refine ⟨_,_,?_,S1.add (c:=1) Zj Zj P.hr hrn (by have:=P.hr;have:=P.hrc;omega) P.hc (fun h=>hrc h.symm),S1.pivot hs hI (fun h=>by have:=Int.le_of_dvd Zl h;omega) hEK P.hr hrn (by have:=P.hr;have:=P.hrc;omega) P.hc (fun h=>hrc h.symm) hu hpu (P.dg hrc r P.hr hrn) (P.dg hrc c (by have:=P.hr;have:=P.hrc;omega) P.hc),fun a ha=>Aa1 (by have:=P.hr;omega)⟩;rw [if_pos Zj,a1];simp only [Option.bind_some];rw [AKo (ABl P.hc),a2];rfl
  obtain ⟨T1,G1,e1,S2,⟨u1,hu1,hpu1⟩,hd1⟩:=key;have S3:=S2.swap (Nat.le_refl k) hk P.hr hrn
  have hdk:swG k r G1 k k=u1 * p ^ E:=by
    have:swG k r G1 k k=G1 r r:=by
      unfold swG sw2
      by_cases h:k=r
      · rw [if_pos h,h]
      · rw [if_neg h,if_pos rfl]
    rw [this,hu1]
  have hkk:=S3.rg k k hk hk
  have hpos:0 < swG k r G1 k k:=by
    rcases Int.lt_or_le 0 (swG k r G1 k k) with h | h
    · exact h
    · exfalso;have h0:swG k r G1 k k=0:=by omega
      rw [h0] at hdk
      rcases Int.mul_eq_zero.1 hdk.symm with h3 | h3
      · exact hpu1 (h3 ▸ ⟨0,AAx⟩)
      · exact AVx hI E h3
  obtain ⟨b,hb,hbi⟩:=Aep (fuel:=fuel) (show 2<=p by omega) hp3 hpos Zj hf2;obtain rfl:=Ass (show 2<=p by omega) hbi (⟨E,u1,rfl,hdk,hpu1⟩:IsB p _ _);obtain ⟨v,hv,hvi⟩:=Asv (f:=fuel) (x:=u1) (m:=p ^ K) Zj hq2 (Ajl hp hpu1 hK) hf;have hvq:Eqm (p ^ K) (v * u1) 1:=((Eqm.refl _ v).mul (Eqm.mod _ u1)).symm.trans hvi.2.2;obtain ⟨ex,hcl,T2,G2,rfl,S4,hd2,hz2⟩:=Ap0 (fuel:=fuel) S3 Zj hq1 hq2 Zj hn hk hdk hvq ⟨hvi.1,hvi.2.1⟩ hf2;have hLk:=B.len
  refine ⟨T2,G2,L ++ [((E:Int),1,u1,0,0)],E,?_,S4.next hs hk hz2,(B.keep fun a ha=>?_).push ?_ ?_ rfl hfE⟩
  · unfold AEg;rw [hM,if_pos Zj,hpv];simp only [Option.bind_some];rw [e1];simp only [Option.bind_some];rw [AKo (ABl hrn),AKo (ABl hk),Asx hn hrn hk hf2];simp only [Option.bind_some];rw [AKo (ABl hk),AKo (AA0 hk),hb];simp only [Option.bind_some];rw [Af4 Zj (Int.le_trans (ALn Zj (Nat.le_of_lt hEK)) hq2) hf2];simp only [Option.bind_some];rw [hv];simp only [Option.bind_some];rw [AGw Zj,hcl];simp only [Option.bind_some];rw [if_pos Zj]
  · rw [hd2 a Zj,Anf Zj (by have:=P.hr;omega),hd1 a ha]
  · rw [hd2 k (Nat.le_refl k)];omega
  · rw [hd2 k (Nat.le_refl k)];exact ⟨E,u1,rfl,hdk,hpu1⟩
end
theorem Ang {fuel n:Nat} {M:List (List Int)} (hM:M.length=n) (hn:n<=8) (hf:100 < fuel):iter (fun s=>AH1 fuel M s.1 s.2) fuel (0,[])=some (tab n n dl):=by
  apply ok_eq;refine ABd (fun i s=>s=((i:Int),ACl i fun a=>ACl n (dl a))/\i<=n) n ⟨rfl,Nat.zero_le _⟩ Zj fun i s hi hI=>?_;obtain ⟨rfl,hin⟩:=hI;unfold AH1;dsimp only;rw [hM]
  refine AAw (fun h=>?_) fun h=>?_
  · have hi:i < n:=by omega
    rw [if_pos Zj,ABm,if_pos Zj,Int.toNat_natCast,AFu n (0:Int)]
    have hget:(ACl i (fun a=>ACl n (dl a)) ++ [ACl n fun _=>(0:Int)])[i]? =some (ACl n fun _=>(0:Int)):=by
      rw [List.getElem?_append_right (by rw [ABm];exact Nat.le_refl _),ABm,Nat.sub_self];rfl
    rw [AKo hget,AKo (AA0 hi),AV0,AGw Zj];refine Zq ⟨hi,?_,hi⟩;congr 1;rw [AB4,List.set_append,if_neg (by rw [ABm];omega),ABm,Nat.sub_self];show ACl i (fun a=>ACl n (dl a)) ++ [ACl n fun c=>if c=i then 1 else 0]=_
    have:ACl n (fun c=>if c=i then (1:Int) else 0)=ACl n (dl i):=ABi fun c _=>by
      unfold dl
      by_cases h:c=i
      · rw [if_pos h,if_pos h.symm]
      · rw [if_neg h,if_neg (fun e=>h e.symm)]
    rw [this];unfold ACl;rw [List.range_succ,List.map_append];rfl
  · obtain rfl:i=n:=by omega
    exact Zq rfl
theorem Asz {fuel:Nat} {M:List (List Int)} {m:Int} (R:AZz M) (hm:2<=m) (Aa:m<=2147483647) (hf:100 < fuel):AHr fuel M m=some (tab M.length M.length fun i j=>ent M i j % m,0):=by
 have hM:=AZk R;unfold AHr ACd;have h1:AEs fuel M=some true:=by rw [hM];exact Aeo R.1.1 R.1.2 hf
 have h2:ACh fuel M m=some (tab M.length M.length fun i j=>ent M i j % m):=by
   conv=>lhs;rw [hM]
   exact Am4 R.1.2 hm Aa hf
 rw [h1];simp only [Option.bind_some];rw [if_neg Zl,if_neg Zj,if_neg Zj];simp only [Option.bind_some];rw [if_neg Zl,h2];rfl
theorem As0 {fuel:Nat} {M:List (List Int)} {p:Int} (R:AZz M) (hp:Pr p) (hp2:2 < p) (hp3:p<=9973) (hf:2147483648 < fuel):
    ∃ (K E:Nat) (T G:Z4) (L:List AK7),AHt fuel M p=some ((p,tab M.length M.length T,L),0)/\AC7 fuel M p=some (K:Int)/\1<=K/\p ^ K<=2147483647/\AZ0 (det M.length (ent M)) p ((K:Int) - 1)/\JS M.length K p (ent M) T G M.length E/\JL M.length p G L M.length E:=by
  have hf2:100 < fuel:=by omega
  obtain ⟨v,hv,hv2,hj,-⟩:=Aaz (fuel:=fuel) R hp hp3 hf2;obtain ⟨K,hk,hq,hk1,-⟩:=Anc R Zj hp3 hv;rw [hk] at hj;rw [if_neg Zj] at hk
  have hq1:2<=p ^ K:=by
    have h1:p ^ 1<=p ^ K:=ALn Zj hk1;rw [Int.pow_succ,Int.pow_zero,Int.one_mul] at h1;omega
  have hI:=Af8 hp;have hn:=R.1.2;have hs:∀ i j,i < M.length->j < M.length->ent M i j=ent M j i:=fun i j hi hj=>R.2.2.sym i j hi hj
  have hd: ¬ p ^ K ∣ det M.length (ent M):=fun h=>by
    obtain ⟨e,r,he,h1,h2⟩:=hv;have:=Aci (f:=K) hI h1 h2 h;omega
  unfold AHt;have hrd:isRed M=true:=(Aax M).2 R;have hod:AZy p=true:=(AWy ⟨hp2,hp3,hp⟩).symm;simp only [AO8,ALe,Option.bind_some,hrd,hod];rw [if_neg Zl,if_neg Zl,hj];simp only [Option.bind_some];rw [Af4 Zj hq hf2];simp only [Option.bind_some];rw [Asz R hq1 hq hf2];simp only [Option.bind_some];rw [Ang rfl hn hf2];simp only [Option.bind_some]
  have S0:JS M.length K p (ent M) dl (fun i j=>ent M i j % p ^ K) 0 0:=⟨fun i j _ _=>by
    unfold dl;split <;> omega,fun i j _ _=>AO3 Zj _,Ast fun i j _ _=>Eqm.mod _ _,fun i j h=>absurd h (Nat.not_lt_zero i),fun i j _ _ _ _=>⟨ent M i j % p ^ K,by rw [Int.pow_zero,Int.one_mul]⟩⟩
  have B0:JL M.length p (fun i j=>ent M i j % p ^ K) [] 0 0:=⟨rfl,fun i b h=>by simp at h,fun i hi b c h=>by simp at h⟩
  have main:Ok (iter (fun s=>AEg fuel M p (p ^ K) s.1 s.2.1 s.2.2.1 s.2.2.2.1 s.2.2.2.2) fuel (0,0,tab M.length M.length (fun i j=>ent M i j % p ^ K),tab M.length M.length dl,[])) fun ex=> ∃ (E:Nat) (T G:Z4) (L:List AK7),ex=(tab M.length M.length G,tab M.length M.length T,L)/\JS M.length K p (ent M) T G M.length E/\JL M.length p G L M.length E:=by
    refine ABd (fun i s=> ∃ (E:Nat) (T G:Z4) (L:List AK7),s=((E:Int),(i:Int),tab M.length M.length G,tab M.length M.length T,L)/\i<=M.length/\JS M.length K p (ent M) T G i E/\JL M.length p G L i E) M.length ⟨0,_,_,_,rfl,Nat.zero_le _,S0,B0⟩ Zj fun i s hi hI=>?_;obtain ⟨E,T,G,L,rfl,hin,S,B⟩:=hI;dsimp only
    rcases Nat.lt_or_ge i M.length with h | h
    · obtain ⟨T',G',L',E',h1,h2,h3⟩:=Ap1 (fuel:=fuel) (M:=M) rfl S B hs hd hp hp2 hp3 hq hk1 hn h hf;rw [h1];exact Zq ⟨h,E',T',G',L',rfl,h,h2,h3⟩
    · obtain rfl:i=M.length:=by omega
      unfold AEg;rw [if_neg Zj];exact Zq ⟨E,T,G,L,rfl,S,B⟩
  obtain ⟨ex,h1,E,T,G,L,rfl,S,B⟩:=main;rw [h1];exact ⟨K,E,T,G,L,rfl,rfl,hk1,hq,by rwa [show (K:Int) - 1=v by omega],S,B⟩
end Go.Proofs.YtdkldlbgcfpglaaGreatDoor
namespace Go.Proofs.YtdkldlbgcfpglaaGreatDoor
open Go Go.QF
set_option maxRecDepth 100000
theorem pr3:Pr 3:=⟨Zj,fun d h1 h2=>by
  obtain rfl:d=2:=by omega
  decide⟩
theorem Aul:AZy 3=true:=by simp [AZy,pr3]
theorem Aqp:isRed [[2,1],[1,2]]=true:=by
 unfold isRed
 rw [<- AF5 (M:=[[2,1],[1,2]]) ⟨Zl,Zl,fun i j hi hj=>by
   have hi:i < 2:=hi
   have hj:j < 2:=hj
   rcases (by omega:i=0∨i=1) with rfl | rfl <;> rcases (by omega:j=0∨j=1) with rfl | rfl <;> decide⟩]
 decide +kernel
theorem Aum:AZ0 3 3 1:=⟨1,1,rfl,Zl,Zl⟩
theorem Acj:AFw (ADz + 1)=some true:=by
 have Aa:100 < ADz + 1:=Nat.lt_of_le_of_lt Zl (Nat.lt_succ_self ADz);have R:=(Aax _).1 Aqp;have hd:det 2 (ent [[2,1],[1,2]])=3:=by decide +kernel
 obtain ⟨v,h1,h2,h3,h4⟩:=Aaz (fuel:=ADz + 1) R (p:=3) pr3 Zj Aa;obtain rfl:v=1:=AX4 Zj (by simpa [hd] using h1) Aum;rw [if_neg Zl] at h3;have h5:=Af4 (fuel:=ADz + 1) (p:=3) (k:=2) Zj Zl Aa;unfold AFw ADl AJ8 AL4 ALe AO8;simp only [Aul,Aqp,h3,Option.bind_some,Bool.not_true,Bool.false_eq_true,reduceIte];decide +kernel
end Go.Proofs.YtdkldlbgcfpglaaGreatDoor
