/-
  Texts of a proof, joined. Conditions stand in each statement.
-/
import Derived.Lib.SmallJoins
import Derived.Test.YtdkldlbgcfpglaaGreatDoorMJordanRefuses4
set_option linter.unusedVariables false
set_option linter.unusedSimpArgs false
namespace Go.Proofs.YtdkldlbgcfpglaaGreatDoor
open Go Go.QF
theorem Agh {S E:Type} {body:S->Option (S ⊕ E)} {Q:E->Prop} (I:S->Prop) (μ:S->Nat) (hs:∀ s,I s->Ok (body s) fun r=>match r with | .inl s'=>I s'/\μ s' < μ s | .inr e=>Q e):∀ {fuel:Nat} {s0:S},I s0->μ s0 < fuel->Ok (iter body fuel s0) Q:=by
  intro fuel;induction fuel with
  | zero=>intro s0 _ h;omega
  | succ f ih=>
    intro s0 h0 hf;obtain ⟨r,hr,hq⟩:=hs s0 h0;cases r with
    | inl s'=>
      obtain ⟨e,he,hQ⟩:=ih hq.1 (by have:=hq.2;omega);exact ⟨e,by simp [iter,hr,he],hQ⟩
    | inr e=>exact ⟨e,by simp [iter,hr],hq⟩
theorem AQ2 (a:Int):AGc a=0↔a=0:=by unfold AGc;split <;> (try split) <;> omega
theorem Ajv (a:Int):AGc a < 0↔a < 0:=by unfold AGc;split <;> (try split) <;> omega
theorem Apb {fuel:Nat} {a b:Int} (ha:a.natAbs < AC3) (hb:b.natAbs < AC3) (h0:b≠0):ACu fuel a b=some (a / b):=by
 apply ok_eq;unfold ACu;refine Zr (ABc (a:=(a / b,a % b,true)) (if_pos ⟨ha,hb,h0⟩)) fun x hx=>?_;subst hx;exact Zn rfl
theorem Awj {fuel:Nat} {a b:Int} (ha:a.natAbs < AC3) (hb:b.natAbs < AC3) (h0:b≠0):AD2 fuel a b=some (a % b):=by
 apply ok_eq;unfold AD2;refine Zr (ABc (a:=(a / b,a % b,true)) (if_pos ⟨ha,hb,h0⟩)) fun x hx=>?_;subst hx;exact Zn rfl
theorem Awk {fuel:Nat} {a b:Int} (ha:a.natAbs < AC3) (hb:b.natAbs < AC3) (h0:b≠0) (hf:AC3 < fuel):Ok (AH7 fuel a b) fun g=>0 < g/\g ∣ a/\g ∣ b:=by
 unfold AH7;refine Zr (ABc (a:=(a.natAbs:Int)) rfl) fun x hx=>Zr (ABc (a:=(b.natAbs:Int)) rfl) fun y hy=>?_;subst hx;subst hy;refine Zr (Agh (fun s:Int × Int=>0<=s.1/\0<=s.2/\s.1.natAbs < AC3/\s.2.natAbs < AC3/\(0 < s.1∨0 < s.2)/\ ∀ d:Int,d ∣ s.1->d ∣ s.2->d ∣ a/\d ∣ b) (fun s=>s.2.natAbs) (Q:=fun g=>0 < g/\g ∣ a/\g ∣ b) (fun s hs=>?_) ⟨Zj,Zj,Zj,Zj,.inr Zj,fun d h1 h2=>⟨Int.dvd_natAbs.1 h1,Int.dvd_natAbs.1 h2⟩⟩ (by dsimp only;omega)) fun g hg=>Zn hg;obtain ⟨u,v⟩:=s;obtain ⟨h1,h2,h3,h4,h5,h6⟩:=hs;unfold AL0;dsimp only at h1 h2 h3 h4 h5 h6 ⊢;refine Zr (ABc (a:=AGc v) rfl) fun s hs=>?_;subst hs;refine AAh (fun hv=>?_) fun hv=>Zn ?_
 ·have Ab:v≠0:=fun h=>hv ((AQ2 v).2 h);refine Zr (ABc (Awj h3 h4 Ab)) fun r hr=>Zn ?_;subst hr;have e1:=Int.emod_nonneg u Ab;have e2:=Int.emod_lt_of_pos u (show 0 < v by omega);refine ⟨⟨h2,e1,h4,Zj,.inl Zj,fun d d1 d2=>h6 d ?_ d1⟩,Zj⟩;have:=Int.dvd_add d2 (Int.dvd_trans d1 ⟨u / v,rfl⟩);rwa [Int.emod_add_mul_ediv] at this
 ·have Ab:v=0:=by
    rcases Decidable.em (AGc v=0) with h | h
    · exact (AQ2 v).1 h
    · exact absurd h hv
  subst Ab;exact ⟨Zj,h6 u (Int.dvd_refl u) ⟨0,AA4⟩⟩
def FrE (n d n' d':Int):Prop:=0 < d'/\n' * d=n * d'/\n'.natAbs<=n.natAbs/\d'.natAbs<=d.natAbs
theorem Ate {fuel:Nat} {a b:Int} (ha:a.natAbs < AC3) (hb:b.natAbs < AC3) (h0:b≠0) (hf:AC3 < fuel):Ok (AGu fuel a b) fun r=>r.2=true/\FrE a b r.1.1 r.1.2:=by
 unfold AGu;refine Zr (ABc (a:=AGc b) rfl) fun s hs=>?_;subst hs;refine AAh (fun h=>absurd ((AQ2 b).1 h) h0) fun _=>Zr (Q:=fun e:Int × Int=>0 < e.2/\e.1 * b=a * e.2/\e.1.natAbs=a.natAbs/\e.2.natAbs=b.natAbs) (Zr (ABc (a:=AGc b) rfl) fun s hs=>?_) fun e he=>?_
 ·subst hs;refine AAh (fun h=>?_) fun h=>Zn ⟨?_,rfl,rfl,rfl⟩
  ·have:=(Ajv b).1 h;refine Zr (ABc (a:= -a) rfl) fun x hx=>Zr (ABc (a:= -b) rfl) fun y hy=>Zn ?_;subst hx;subst hy;exact ⟨by dsimp only;omega,by dsimp only;grind,by dsimp only;omega,by dsimp only;omega⟩
  ·have: ¬ b < 0:=fun h2=>h ((Ajv b).2 h2);dsimp only;omega
 ·obtain ⟨u,v⟩:=e;obtain ⟨h1,h2,h3,h4⟩:=he;dsimp only at h1 h2 h3 h4 ⊢;refine Zr (Awk (a:=u) (b:=v) Zj Zj Zj hf) fun g hg=>?_;obtain ⟨g1,⟨u',rfl⟩,⟨v',rfl⟩⟩:=hg;have gn:g≠0:=by omega
  have hv':0 < v':=Int.pos_of_mul_pos_right h1 g1;have e1:(g * u').natAbs=g.natAbs * u'.natAbs:=Int.natAbs_mul _ _;have e2:(g * v').natAbs=g.natAbs * v'.natAbs:=Int.natAbs_mul _ _;have g2:1<=g.natAbs:=by omega
  have m1:=Nat.mul_le_mul_right u'.natAbs g2;have m2:=Nat.mul_le_mul_right v'.natAbs g2;have m3:=Nat.mul_le_mul_left g.natAbs (show 1<=v'.natAbs by omega);refine Zr (ABc (Apb Zj Zj gn)) fun x hx=>Zr (ABc (Apb Zj Zj gn)) fun y hy=>Zn ⟨rfl,?_⟩;subst hx;subst hy;rw [Int.mul_ediv_cancel_left _ gn,Int.mul_ediv_cancel_left _ gn];refine ⟨hv',?_,by dsimp only;omega,by dsimp only;omega⟩;have:g * (u' * b)=g * (a * v'):=by grind
  exact Int.eq_of_mul_eq_mul_left gn this
theorem Aej {fuel:Nat} {a b:Int} (ha:a.natAbs < AC3) (hb:b.natAbs < AC3) (h0:b≠0) (hf:AC3 < fuel):Ok (ACi fuel a b) fun r=>FrE a b r.1 r.2:=by
 unfold ACi;refine Zr (Ate ha hb h0 hf) fun r hr=>?_;obtain ⟨⟨x,y⟩,c⟩:=r;obtain ⟨h1,h2⟩:=hr;dsimp only at h1 h2 ⊢;subst h1;exact AAh (fun h=>absurd h Zl) fun _=>Zn h2
theorem Auu {fuel:Nat} {a b:Int} (ha:a.natAbs < AC3) (hb:b.natAbs < AC3) (h0:b≠0) (hf:AC3 < fuel):Ok (AFr fuel a b) fun r=>FrE a b r.1 r.2:=by
 unfold AFr;exact Zr (Aej ha hb h0 hf) fun r hr=>Zn hr
theorem Agi {N D N' D':Int} (hD:0 < D) (hD':0 < D') (h:N * D'=N' * D):N / D=N' / D':=by
 rw [<- Int.mul_ediv_mul_of_pos_left N D hD',h,Int.mul_comm D D',Int.mul_ediv_mul_of_pos_left N' D' hD]
theorem Auv {fuel:Nat} {a b:Int} (hab:4 * (a.natAbs + b.natAbs) < AC3) (h0:0 < b) (hf:AC3 < fuel):Ok (AF6 fuel a b) fun r=>r=(2 * a + b) / (2 * b):=by
 have Ag:(1:Int).natAbs < AC3:=by
   have:(1:Int).natAbs=1:=rfl
   omega
 have Ah:(2:Int).natAbs < AC3:=by
   have:(2:Int).natAbs=2:=rfl
   omega
 unfold AF6;refine Zr (Q:=(· =(1,2))) ?_ fun hh he=>?_
 ·unfold AJ7;exact Zr (Q:=(· =1)) ⟨1,if_pos Zj,rfl⟩ fun x hx=>Zr (Q:=(· =2)) ⟨2,if_pos Zj,rfl⟩ fun y hy=>Zn (by rw [hx,hy])
 subst he;dsimp only;refine Zr (Q:=fun r=>0 < r.2/\r.1 * (2 * b)=(2 * a + b) * r.2/\r.1.natAbs < AC3/\r.2.natAbs < AC3) ?_ fun r hr=>?_
 ·unfold AKz;refine Zr (Aej Zj Zj Zj hf) fun x hx=>Zr (Aej (a:=1) (b:=2) Ag Ah Zj hf) fun y hy=>?_;obtain ⟨x1,x2⟩:=x;obtain ⟨y1,y2⟩:=y;obtain ⟨a1,a2,a3,a4⟩:=hx;obtain ⟨b1,b2,b3,b4⟩:=hy;dsimp only at *;obtain rfl:y2=2:=by omega
  obtain rfl:y1=1:=by omega
  refine Zr (ABc (a:=x1 * 2) (if_pos (by have:(2:Int).natAbs=2:=rfl;rw [this];omega))) fun u hu=>Zr (ABc (a:=1 * x2) (if_pos (by have:(1:Int).natAbs=1:=rfl;rw [this];omega))) fun v hv=>?_;subst hu;subst hv;refine Zr (ABc (a:=x1 * 2 + 1 * x2) (if_pos ⟨Zj,Zj⟩)) fun w hw=>Zr (ABc (a:=x2 * 2) (if_pos (by have:(2:Int).natAbs=2:=rfl;rw [this];omega))) fun z hz=>?_;subst hw;subst hz;refine Zr (Ate Zj Zj Zj hf) fun r hr=>Zn ?_;obtain ⟨⟨r1,r2⟩,c⟩:=r;obtain ⟨-,c1,c2,c3,c4⟩:=hr;dsimp only at *;refine ⟨c1,?_,Zj,Zj⟩;have h1:x2 * (r1 * (2 * b))=x2 * ((2 * a + b) * r2):=by grind
  exact Int.eq_of_mul_eq_mul_left (show x2≠0 by omega) h1
 ·obtain ⟨r1,r2⟩:=r;obtain ⟨h1,h2,h3,h4⟩:=hr;dsimp only at *;unfold AJf;refine Zr (Q:=fun r=>r=(2 * a + b) / (2 * b)) (Zr (Aej h3 h4 Zj hf) fun x hx=>?_) fun z hz=>Zn hz;obtain ⟨x1,x2⟩:=x;obtain ⟨a1,a2,a3,a4⟩:=hx;dsimp only at *;refine Zr (ABc (Apb Zj Zj Zj)) fun q hq=>Zn ?_;subst hq;refine Agi a1 Zj ?_;have h5:r2 * (x1 * (2 * b))=r2 * ((2 * a + b) * x2):=by grind
  exact Int.eq_of_mul_eq_mul_left (show r2≠0 by omega) h5
end Go.Proofs.YtdkldlbgcfpglaaGreatDoor
namespace Go.Proofs.YtdkldlbgcfpglaaGreatDoor
open Go Go.QF
set_option maxRecDepth 100000
theorem Agj:64 * (dBd AGw (8 + 1) * dBd AGw (8 + 1)) < AC3:=by decide
theorem Agk {fuel n j:Nat} {F:AAb} (hn:n<=8) (hj:j + 1 < n) (hb:∀ i j,i < n->j < n->(F i j).natAbs<=AGw) (hf:100 < fuel):Ok (AEv fuel (tab n n F) (AB6 n fun a=>det (a + 1) F) ((j + 1:Nat):Int)) fun r=>r=true↔LvF F j:=by
 show Ok _ fun r:Bool=>r=true↔3 * (det (j + 1) F * det (j + 1) F)<=4 * (det j F * det (j + 2) F + Mn j F (j + 1) j * Mn j F (j + 1) j);unfold AEv;have w1:w64 (((j + 1:Nat):Int) - 1)=(j:Int):=by rw [wk Zj];omega
 have w2:w64 (((j + 1:Nat):Int) + 1)=((j + 2:Nat):Int):=by rw [wk Zj];omega
 rw [w1,w2];have hD:=Agj;have bl:(Mn j F (j + 1) j).natAbs<=dBd AGw (8 + 1):=Abn hn Zj Zj Zj hb;have b0:(det j F).natAbs<=dBd AGw (8 + 1):=AVp hn Zj hb;have b1:(det (j + 1) F).natAbs<=dBd AGw (8 + 1):=AVp hn Zj hb;have b2:(det (j + 2) F).natAbs<=dBd AGw (8 + 1):=AVp hn Zj hb;have p1:=Nat.mul_le_mul b0 b2;have p2:=Nat.mul_le_mul bl bl;have p3:=Nat.mul_le_mul b1 b1;have e1:=Int.natAbs_mul (det j F) (det (j + 2) F);have e2:=Int.natAbs_mul (Mn j F (j + 1) j) (Mn j F (j + 1) j);have e3:=Int.natAbs_mul (det (j + 1) F) (det (j + 1) F);refine Zr (ABc (Abm hn Zj Zj hb hf)) fun l hl=>?_;subst hl;refine Zr (Q:=(· =4)) ⟨4,if_pos Zj,rfl⟩ fun x hx=>?_;subst hx;refine Zr (ABc (AV8 Zj hn)) fun x hx=>Zr (ABc (AV8 Zj hn)) fun y hy=>?_;subst hx;subst hy;refine Zr (ABc (a:=det j F * det (j + 2) F) (if_pos Zj)) fun x hx=>Zr (ABc (a:=Mn j F (j + 1) j * Mn j F (j + 1) j) (if_pos Zj)) fun y hy=>?_;subst hx;subst hy;generalize det j F * det (j + 2) F=P at *;generalize Mn j F (j + 1) j * Mn j F (j + 1) j=L at *;refine Zr (ABc (a:=P + L) (if_pos Zj)) fun x hx=>Zr (ABc (a:=4 * x) (if_pos (by have:(4:Int).natAbs=4:=rfl;rw [this];omega))) fun y hy=>?_;subst hx;subst hy;refine Zr (Q:=(· =3)) ⟨3,if_pos Zj,rfl⟩ fun x hx=>?_;subst hx;refine Zr (ABc (AV8 Zj hn)) fun x hx=>Zr (ABc (AV8 Zj hn)) fun y hy=>?_;subst hx;subst hy;refine Zr (ABc (a:=det (j + 1) F * det (j + 1) F) (if_pos Zj)) fun x hx=>?_;subst hx;generalize det (j + 1) F * det (j + 1) F=S at *;refine Zr (ABc (a:=3 * S) (if_pos (by have:(3:Int).natAbs=3:=rfl;rw [this];omega))) fun x hx=>Zr (ABc (a:=ATf (4 * (P + L)) x) rfl) fun c hc=>Zn ?_;subst hx;subst hc;rw [decide_eq_true_iff];unfold ATf;split <;> (try split) <;> omega
def ATn (A:AAb) (i j:Nat):Int:= -((2 * Mn j A i j + det (j + 1) A) / (2 * det (j + 1) A))
def AW2 (A:AAb) (i j:Nat):AAb:=ABy dl j fun q=>if q=i then ATn A i j else dl j q
def ARv (A:AAb) (i:Nat):Prop:= ∀ r l,l < r->r < i->SzF A r l
def ATo (A:AAb) (i:Nat):Prop:= ∀ r,r + 1 < i->LvF A r
def Apc (n:Nat) (A:AAb) (r:List (List Int) × Bool):Prop:=
  (r=([],false)/\ARv A n/\ATo A n)∨
  (∃ i j,j < i/\i < n/\¬ SzF A i j/\ARv A i/\(∀ l,l < i->j < l->SzF A i l)/\ATo A i/\r=(tab n n (AW2 A i j),true))∨
  ∃ j,j + 1 < n/\¬ LvF A j/\ARv A (j + 2)/\ATo A (j + 1)/\r=(tab n n (AEm dl (j + 1) j),true)
theorem Auw {fuel n:Nat} {A:AAb} (Ai:1<=n) (hn:n<=8) (hp:AN5 n A) (hb:∀ i j,i < n->j < n->(A i j).natAbs<=AGw) (hf:AC3 < fuel):Ok (AHg fuel (tab n n A)) (Apc n A):=by
 have Ac:100 < fuel:=Nat.lt_of_le_of_lt Zl hf;have hD:=Agj;unfold AHg;refine Zr (ABc (AY7 Ai hn hb Ac)) fun x hx=>?_;subst hx;dsimp only;rw [AAt];refine Zr (ABc (Aju Ai Zj Ac)) fun x hx=>?_;subst hx;dsimp only;refine Zr (ABa (fun i s=>s=(((i:Nat):Int),tab n n dl)/\i<=n/\ARv A i/\ATo A i) n (Q:=fun ex=>match ex with | .inl r=>Apc n A r | .inr _=>ARv A n/\ATo A n) ⟨rfl,Nat.zero_le _,fun r l h1 h2=>by omega,fun r h=>by omega⟩ Zj fun i s hi hI=>?_) fun ex hex=>?_
 ·obtain ⟨rfl,hin,hsz,hlv⟩:=hI;unfold ALc;dsimp only;rw [AAt];refine AAh (fun h=>?_) (fun h=>Zn ?_)
  ·have hi':i < n:=by omega
   refine Zr (ABa (fun k s=>s=((i:Int) - 1 - k,tab n n dl)/\k<=i/\ ∀ l,l < i->i<=l + k->SzF A i l) i (Q:=fun ex=>match ex with | .inl r=>Apc n A r | .inr e=>e=tab n n dl/\ ∀ l,l < i->SzF A i l) ⟨by rw [wk Zj];simp,Nat.zero_le _,fun l h1 h2=>by omega⟩ Zj fun k s hk hK=>?_) fun ex hex=>?_
   ·obtain ⟨rfl,hki,hz⟩:=hK;unfold ALb;dsimp only;refine AAh (fun h2=>?_) (fun h2=>Zn ⟨rfl,fun l hl=>hz l hl Zj⟩);obtain ⟨j,hj⟩:∃ j:Nat,(i:Int) - 1 - k=j:=⟨i - 1 - k,Zj⟩;rw [hj];have hji:j < i:=by omega
    refine Zr (ABc (Ajp hn hi' Zj hb Ac)) fun b Ag=>?_;subst Ag;refine AAh (fun h3=>?_) (fun h3=>Zn ⟨Zj,?_,Zj,fun l h4 h5=>?_⟩)
    ·have hbad: ¬ SzF A i j:=fun h=>by rw [<- AZ6] at h;simp [h] at h3
     refine AAu (AA1 Zj) rfl (Zr (ABc (Abm hn hi' Zj hb Ac)) fun l hl=>?_);subst hl;rw [show w64 ((j:Int) + 1)=((j + 1:Nat):Int) by rw [wk Zj];omega];refine Zr (ABc (AV8 Zj hn)) fun d hd=>?_;subst hd;have bl:(Mn j A i j).natAbs<=dBd AGw (8 + 1):=Abn hn hi' Zj Zj hb;have b1:(det (j + 1) A).natAbs<=dBd AGw (8 + 1):=AVp hn Zj hb;have hd:=hp (j + 1) Zj;have hDD:dBd AGw (8 + 1)<=dBd AGw (8 + 1) * dBd AGw (8 + 1):=Nat.le_mul_of_pos_left _ Zj;refine Zr (Auu Zj Zj Zj hf) fun q hq=>?_;obtain ⟨x,y⟩:=q;obtain ⟨q1,q2,q3,q4⟩:=hq;dsimp only at q1 q2 q3 q4 ⊢;refine Zr (Auv Zj q1 hf) fun m hm=>Zr (ABc (a:= -m) rfl) fun c hc=>?_
     have Ap:c=ATn A i j:=by
       rw [hc,hm]
       unfold ATn
       congr 1
       refine Agi Zj Zj ?_
       grind
     clear hm hc;refine AAu (AAq hi') rfl (Zn (.inr (.inl ⟨i,j,hji,hi',hbad,hsz,fun l h4 h5=>hz l h4 Zj,hlv,?_⟩)));rw [AB0,AB0,AD7,Ap,show (AB6 n fun q=>if q=i then ATn A i j else dl j q)=(List.range n).map fun q=>if q=i then ATn A i j else dl j q from rfl,AK4];rfl
    ·rw [wk Zj];refine congrArg (fun z=>(z,tab n n dl)) ?_;omega
    ·have hgood:SzF A i j:=by rw [<- AZ6];simpa using h3
     rcases Nat.lt_or_ge (l + k) i with h6 | h6
     ·obtain rfl:l=j:=by omega
      exact hgood
     ·exact hz l h4 h6
   ·cases ex with
    | inl r=>exact Zn hex
    | inr e=>
      obtain ⟨rfl,hzi⟩:=hex
      have hsz':ARv A (i + 1):=fun r l h1 h2=>by
        rcases Nat.lt_or_ge r i with h3 | h3
        · exact hsz r l h1 h3
        · obtain rfl:r=i:=by omega
          exact hzi l h1
      dsimp only
      have nx:w64 ((i:Int) + 1)=((i + 1:Nat):Int):=by rw [wk Zj];omega
      refine AAh (fun h4=>?_) (fun h4=>Zn ⟨Zj,by rw [nx],Zj,hsz',fun r hr=>by omega⟩)
      obtain ⟨j,rfl⟩:∃ j,i=j + 1:=⟨i - 1,Zj⟩
      refine Zr (Agk hn hi' hb Ac) fun b Ag=>?_
      refine AAh (fun h5=>?_) (fun h5=>Zn ⟨Zj,by rw [nx],Zj,hsz',fun r hr=>?_⟩)
      · have hbad: ¬ LvF A j:=fun h=>by rw [Ag.2 h] at h5;cases h5
        rw [show w64 (((j + 1:Nat):Int) - 1)=(j:Int) by rw [wk Zj];omega]
        refine AAu (AA1 Zj) rfl (AAu (AA1 hi') rfl (Zn (.inr (.inr ⟨j,hi',hbad,hsz',hlv,?_⟩))))
        rw [AB0,AB0,show AB6 n (dl j)=(List.range n).map (dl j) from rfl,show AB6 n (dl (j + 1))=(List.range n).map (dl (j + 1)) from rfl,AK4,AK4]
        rfl
      · have hgood:LvF A j:=Ag.1 (by simpa using h5)
        rcases Nat.lt_or_ge r j with h6 | h6
        · exact hlv r Zj
        · obtain rfl:r=j:=by omega
          exact hgood
  ·obtain rfl:i=n:=by omega
   exact ⟨hsz,hlv⟩
 ·cases ex with
  | inl r=>exact Zn hex
  | inr u=>exact Zn (.inl ⟨rfl,hex⟩)
end Go.Proofs.YtdkldlbgcfpglaaGreatDoor
namespace Go.QF
open Go
def PrI (p:Int):Prop:=2<=p/\ ∀ x y:Int,p ∣ x * y->p ∣ x∨p ∣ y
theorem PrI.ne {p:Int} (hp:PrI p):p≠0:=by have:=hp.1;omega
theorem AIz {p:Int} {a b:Nat} (h:a<=b):p ^ a ∣ p ^ b:=⟨p ^ (b - a),by rw [<- Int.pow_add];congr 1;omega⟩
theorem Ar7 {m x y d:Int} (h:Eqm m x y) (hd:d ∣ m) (hy:d ∣ y):d ∣ x:=by
 have h1:m ∣ x - y:=Int.dvd_of_emod_eq_zero (Int.emod_eq_emod_iff_emod_sub_eq_zero.1 h);have h2:=Int.dvd_add (Int.dvd_trans hd h1) hy;rwa [show x - y + y=x by omega] at h2
theorem AW3 {m x y:Int} (h:m ∣ x - y):Eqm m x y:=Int.emod_eq_emod_iff_emod_sub_eq_zero.2 (Int.emod_eq_zero_of_dvd h)
theorem ASm {m x y:Int} (h:Eqm m x y):m ∣ x - y:=Int.dvd_of_emod_eq_zero (Int.emod_eq_emod_iff_emod_sub_eq_zero.1 h)
theorem Eqm.down {m d x y:Int} (h:Eqm m x y) (hd:d ∣ m):Eqm d x y:=AW3 (Int.dvd_trans hd (ASm h))
theorem Aek {m x:Int}:Eqm m x 0↔m ∣ x:=⟨fun h=>by simpa using ASm h,fun h=>AW3 (by simpa using h)⟩
def Car (n K:Nat) (p:Int) (D S D':AAb):Prop:= ∀ i j,i < n->j < n->Eqm (p ^ K) (ACv n (trF S) (ACv n D S) i j) (D' i j)
theorem Agl (c:Int) (f:Nat->Int) (n:Nat):c * psum f n=psum (fun i=>c * f i) n:=(AF8 c f n).symm
theorem Ah7 (c:Int) (f:Nat->Int) (n:Nat):psum f n * c=psum (fun i=>f i * c) n:=by
 rw [Int.mul_comm,Agl];exact ABb fun k _=>Int.mul_comm _ _
section
variable {n K:Nat} {p:Int} {e f:Nat->Nat} {a b D D' S:AAb}
theorem AZ7 (hp:PrI p) (m:Nat):p ^ m≠0:=Int.pow_ne_zero hp.ne
theorem AOc {A B C:AAb} (i j:Nat):ACv n (ACv n A B) C i j=ACv n A (ACv n B C) i j:=by
 unfold ACv;rw [ABb (g:=fun k=>psum (fun l=>A i l * B l k * C k j) n) fun k _=>Ah7 _ _ _,AYx]
 exact ABb fun l _=>by
   rw [Agl]
   exact ABb fun k _=>by grind
end
end Go.QF
namespace Go.Proofs.YtdkldlbgcfpglaaGreatDoor
open Go Go.QF
set_option maxRecDepth 100000
theorem Apd {S E:Type} {body:S->Option (S ⊕ E)} {Q:E->Prop} (I:Nat->S->Prop) (hs:∀ k s,I k s->Ok (body s) fun r=>match r with | .inl s'=> ∃ k',k' < k/\I k' s' | .inr e=>Q e):∀ {fuel k:Nat} {s0:S},I k s0->k < fuel->Ok (iter body fuel s0) Q:=by
  intro fuel;induction fuel with
  | zero=>intro k s0 _ h;omega
  | succ f ih=>
    intro k s0 h0 hf;obtain ⟨r,hr,hq⟩:=hs k s0 h0;cases r with
    | inl s'=>
      obtain ⟨k',h1,h2⟩:=hq;obtain ⟨e,he,hQ⟩:=ih h2 Zj;exact ⟨e,by simp [iter,hr,he],hQ⟩
    | inr e=>exact ⟨e,by simp [iter,hr],hq⟩
theorem Agm {n i j s:Nat} {A:AAb} (hj:j < i) (hi:i < n) (hs:s < n) (X:Nat->Int):psum (fun k=>X k * AW2 A i j k s) n=X s + if s=i then ATn A i j * X j else 0:=by
 have h1:∀ k,X k * AW2 A i j k s=X k * dl k s + (if k=j then (if s=i then ATn A i j * X j else 0) else 0):=fun k=>by
   unfold AW2
   rw [ABd]
   split
   · next h=>
     subst h
     split
     · next h2=>subst h2;unfold dl;rw [if_neg Zj];grind
     · simp
   · simp
 rw [ABb fun k _=>h1 k,AM6,Ad5 X hs,APt (a:=j) Zj fun k _ hk=>if_neg hk,if_pos rfl]
theorem Agn {n i j r s:Nat} {A:AAb} (hj:j < i) (hi:i < n) (hr:r < n) (hs:s < n):ACv n (ACv n (trF (AW2 A i j)) A) (AW2 A i j) r s=AX2 A i j (ATn A i j) r s:=by
 have h2:∀ k,ACv n (trF (AW2 A i j)) A r k=A r k + if r=i then ATn A i j * A j k else 0:=fun k=>by
   show psum (fun l=>AW2 A i j l r * A l k) n=_
   rw [ABb (g:=fun l=>A l k * AW2 A i j l r) fun l _=>Int.mul_comm _ _]
   exact Agm hj hi hr fun l=>A l k
 show psum (fun k=>ACv n (trF (AW2 A i j)) A r k * AW2 A i j k s) n=_;rw [Agm hj hi hs fun k=>ACv n (trF (AW2 A i j)) A r k];rw [h2,h2,AZ5];split <;> split <;> first | (subst_vars;grind) | grind
theorem Ael (j k s:Nat):AEm dl (j + 1) j k s=dl (tau j k) s:=by
 rw [AJ3];unfold tau;split
 ·next h=>subst h;rfl
 ·split <;> rfl
theorem Ajw (j k:Nat):tau j (tau j k)=k:=by unfold tau;split <;> (try split) <;> (try split) <;> omega
theorem Auy {j k n:Nat} (hj:j + 1 < n) (hk:k < n):tau j k < n:=by unfold tau;split <;> (try split) <;> omega
theorem Ajx {n j s:Nat} (hj:j + 1 < n) (hs:s < n) (X:Nat->Int):psum (fun k=>X k * AEm dl (j + 1) j k s) n=X (tau j s):=by
 rw [APt (a:=tau j s) (Auy hj hs) fun k hk hne=>?_]
 ·rw [Ael,Ajw];unfold dl;rw [if_pos rfl];simp
 ·rw [Ael];unfold dl;rw [if_neg (fun h=>hne (by rw [<- h,Ajw]))];simp
theorem Ajy {n j r s:Nat} {A:AAb} (hj:j + 1 < n) (hr:r < n) (hs:s < n):ACv n (ACv n (trF (AEm dl (j + 1) j)) A) (AEm dl (j + 1) j) r s=swA A j r s:=by
 show psum (fun k=>ACv n (trF (AEm dl (j + 1) j)) A r k * AEm dl (j + 1) j k s) n=_;rw [Ajx hj hs fun k=>ACv n (trF (AEm dl (j + 1) j)) A r k];show psum (fun l=>AEm dl (j + 1) j l r * A l (tau j s)) n=_;rw [ABb (g:=fun l=>A l (tau j s) * AEm dl (j + 1) j l r) fun l _=>Int.mul_comm _ _];exact Ajx hj hr fun l=>A l (tau j s)
theorem AOd {n:Nat} {A A' B B':AAb} {i j:Nat} (hA:∀ k,k < n->A i k=A' i k) (hB:∀ k,k < n->B k j=B' k j):ACv n A B i j=ACv n A' B' i j:=ABb fun k hk=>by rw [hA k hk,hB k hk]
theorem AZ8 {n:Nat} {T U:AAb} (i j:Nat):trF (ACv n T U) i j=ACv n (trF U) (trF T) i j:=ABb fun k _=>Int.mul_comm _ _
def Ah8 (n:Nat) (A0 T A:AAb):Prop:= ∀ i j,i < n->j < n->A i j=ACv n (trF T) (ACv n A0 T) i j
theorem Adb {n:Nat} {A0 T A U B:AAb} (H:Ah8 n A0 T A) (K:∀ i j,i < n->j < n->ACv n (ACv n (trF U) A) U i j=B i j):Ah8 n A0 (ACv n T U) B:=fun i j hi hj=>by
  rw [<- K i j hi hj,AOc]
  have h1:ACv n (trF U) (ACv n A U) i j=ACv n (trF U) (ACv n (trF T) (ACv n A0 (ACv n T U))) i j:=by
    refine AOd (fun _ _=>rfl) fun k hk=>?_;rw [AOd (A':=ACv n (trF T) (ACv n A0 T)) (fun l hl=>H k l hk hl) (fun _ _=>rfl),AOc];refine AOd (fun _ _=>rfl) fun l hl=>?_;rw [AOc]
  rw [h1,<- AOc];exact AOd (fun k _=>(AZ8 i k).symm) fun _ _=>rfl
theorem Ajz {n:Nat} {A:AAb}:Ah8 n A dl A:=fun i j hi hj=>by
  show _=psum (fun k=>dl k i * ACv n A dl k j) n
  rw [ABb (g:=fun k=>ACv n A dl k j * dl k i) fun k _=>Int.mul_comm _ _,Ad5 (fun k=>ACv n A dl k j) hi]
  exact (Ahu hj).symm
def dm9:Int:=9 ^ 8
def Ar8:Int:=2 ^ 97
theorem Ar9 {n i t:Nat} {A:AAb} (hn:n<=8) (h:Aeg n dm9 A i t):∀ k,k < n->A k k<=Ar8:=fun k hk=>by
  by_cases e:k=i
  · subst e
    have h1:=Ac9 (p:=(2 ^ 7 * (2 * dm9)) * (2 ^ 7 * (2 * dm9))) (q:=1) h.sym h.pos h.hi h.dm Zl Zl (fun l hl=>by
      have h2:=h.lamb l hl;have h3:(2:Int) ^ t * (2 * dm9)<=2 ^ 7 * (2 * dm9):=Int.mul_le_mul_of_nonneg_right (AX4 (by have:=h.ht;omega)) Zl;have h4:=h.pos (l + 1) (by have:=h.hi;omega);have h5:=Int.mul_le_mul_of_nonneg_right h3 (Int.le_of_lt h4);have h6:=AVo (x:=Mn l A k l) (y:=2 ^ 7 * (2 * dm9) * det (l + 1) A) Zj Zj;rw [Int.one_mul];refine Int.le_trans h6 (Int.le_of_eq ?_);grind) k 0 Zj
    rw [AO7,show det 0 A=1 from rfl,Int.one_mul] at h1
    have h7:(1 + (k:Int) * ((2 ^ 7 * (2 * dm9)) * (2 ^ 7 * (2 * dm9)))) * (dm9 * 1)<=(1 + 7 * ((2 ^ 7 * (2 * dm9)) * (2 ^ 7 * (2 * dm9)))) * (dm9 * 1):=by
      refine Int.mul_le_mul_of_nonneg_right ?_ Zl;have:=Int.mul_le_mul_of_nonneg_right (show (k:Int)<=7 by omega) (show (0:Int)<=(2 ^ 7 * (2 * dm9)) * (2 ^ 7 * (2 * dm9)) by decide);omega
    exact Int.le_trans h1 (Int.le_trans h7 Zl)
  · exact Int.le_trans (h.rows k hk e) Zl
theorem Ago {n:Nat} {A:AAb} {B:Int} (hs:AMe n A) (hp:AN5 n A) (hB:∀ k,k < n->A k k<=B) {i j:Nat} (hi:i < n) (hj:j < n): -B<=A i j/\A i j<=B:=by
 have h1:=AY4 (k:=0) hs hp (Nat.zero_le _) hi hj;simp only [AO7] at h1;have p1:=AY5 (k:=0) hs hp (Nat.zero_le _) hi;have p2:=AY5 (k:=0) hs hp (Nat.zero_le _) hj;simp only [AO7] at p1 p2;have h2:=Int.mul_le_mul (hB i hi) (hB j hj) p2 (Int.le_trans p1 (hB i hi));exact Agb (Int.le_trans p1 (hB i hi)) (Int.le_trans h1 h2)
theorem Aj0 {n:Nat} {A:AAb} {B:Int} (hs:AMe n A) (hp:AN5 n A) (hB:∀ k,k < n->A k k<=B) {i j:Nat} (hi:i < n) (hj:j < n):(A i j).natAbs<=B.natAbs:=by
 have:=Ago hs hp hB hi hj;omega
def Adc:Nat:=(2 ^ 240) ^ 5
theorem Agp:16 * (Adc * Adc) < AC3:=by decide
def Ade:Nat:=(2 ^ 220) ^ 5
theorem Awl {n:Nat} {A0 A T:AAb} (hn:n<=8) (hE:∀ i j,(A0 i j).natAbs<=2 ^ 40) (hs:AMe n A0) (hp:AN5 n A0) (H:Ah8 n A0 T A) (hB:∀ k,k < n->A k k<=Ar8) {k s:Nat} (hk:k < n) (hs2:s < n):(T k s).natAbs<=Ade:=by
  have h1:=Ar1 hs hp (fun r=>T r s) hk
  have h2:bil n 0 A0 (fun r=>T r s) (fun r=>T r s)=A s s:=by
    rw [H s s hs2 hs2];show _=psum (fun i=>T i s * psum (fun j=>A0 i j * T j s) n) n;unfold bil;refine ABb fun i _=>?_;rw [<- AF8];exact ABb fun j _=>by rw [AO7];grind
  rw [h2] at h1
  have h3:(Abk n A0 k k).natAbs<=dBd (2 ^ 40) 9:=by
    refine Nat.le_trans (AXw (m:=2 ^ 40) fun i j=>?_) (AO8 Zl Zj);rw [ABd]
    split
    · unfold dl;split <;> decide
    · exact hE i j
  have h4:Abk n A0 k k * A s s<=(dBd (2 ^ 40) 9:Nat) * Ar8:=by
    have p0:0<=A s s:=by
      have:A s s=bil n 0 A0 (fun r=>T r s) (fun r=>T r s):=h2.symm;rw [this];exact ARu hs hp _ n 0 Zj
    have b1:Abk n A0 k k<=(dBd (2 ^ 40) 9:Nat):=by omega
    have b2:=Int.mul_le_mul_of_nonneg_right b1 p0;have b3:=Int.mul_le_mul_of_nonneg_left (hB s hs2) (show (0:Int)<=(dBd (2 ^ 40) 9:Nat) by omega);omega
  have h5:((dBd (2 ^ 40) 9:Nat):Int) * Ar8<=(Ade:Int) * (Ade:Int):=by decide
  have h6:=Agb (x:=T k s) (y:=(Ade:Int)) Zj (Int.le_trans (Int.le_trans h1 h4) h5);omega
structure Ab5 (n:Nat) (A:AAb):Prop where
  sym:AMe n A
  pos:AN5 n A
  sz:ARv A n
  lv:ATo A n
  dt:det n A<=10000
structure RSt (n:Nat) (A0 A T:AAb) (i t:Nat):Prop where
  inv:Aeg n dm9 A i t
  car:Ah8 n A0 T A
  dt:det n A=det n A0
def Aw1 (n:Nat) (A0:AAb) (k:Nat) (s:List (List Int) × List (List Int)):Prop:=
  ∃ A T i t,RSt n A0 A T i t/\s=(tab n n A,tab n n T)/\k=(Agg n A).toNat * 128 + (128 - (16 * i + t))
theorem Aj1 {n:Nat} {A:AAb} (hp:AN5 n A):0<=Agg n A:=by
 have:∀ m,m<=n + 1->0<=psum (fun k=>det k A) m:=fun m=>by
   induction m with
   | zero=>intro _;exact Int.le_refl _
   | succ m ih=>intro h;have h1:=ih Zj;have h2:=hp m Zj;simp only [psum];omega
 exact this _ (Nat.le_refl _)
theorem Asa {n:Nat} {A:AAb} (hd:∀ k,k<=n->det k A<=dm9):Agg n A<=(n + 1:Nat) * dm9:=by
 have:∀ m,m<=n + 1->psum (fun k=>det k A) m<=(m:Nat) * dm9:=fun m=>by
   induction m with
   | zero=>intro _;simp [psum]
   | succ m ih=>intro h;have h1:=ih Zj;have h2:=hd m Zj;simp only [psum];rw [Int.natCast_add,Int.add_mul];omega
 exact this _ (Nat.le_refl _)
theorem Alk {n i j:Nat} {A:AAb} (hn:n<=8) (hj:j < i) (hi:i < n) (hp:AN5 n A) (hb:∀ i j,i < n->j < n->(A i j).natAbs<=AGw):(ATn A i j).natAbs<=3 * dBd AGw 9:=by
 have b1:(Mn j A i j).natAbs<=dBd AGw 9:=Abn hn hi Zj Zj hb;have b2:(det (j + 1) A).natAbs<=dBd AGw 9:=AVp hn Zj hb;have hd:=hp (j + 1) Zj;unfold ATn;rw [Int.natAbs_neg];have:=Int.natAbs_ediv_le_natAbs (2 * Mn j A i j + det (j + 1) A) (2 * det (j + 1) A);omega
theorem Alm {fuel n:Nat} {A0:AAb} (Ac:1<=n) (hn:n<=8) (hs:AMe n A0) (hp:AN5 n A0) (hE:∀ i j,(A0 i j).natAbs<=2 ^ 40) (hD:∀ k,k<=n->det k A0<=dm9) (hr:∀ k,k < n->A0 k k<=3 * dm9) (hdt:det n A0<=10000) (hf:AC3 < fuel):
    Ok (AGj fuel (tab n n A0)) fun r=> ∃ A T,r=(tab n n A,tab n n T,0)/\Ab5 n A/\Ah8 n A0 T A/\det n A=det n A0/\ ∀ k,k < n->A k k<=3 * dm9:=by
 have Ad:100 < fuel:=Nat.lt_of_le_of_lt Zl hf;have Av:100000000 < fuel:=Nat.lt_of_le_of_lt Zl hf;have Ak:∀ i j,i < n->j < n->(A0 i j).natAbs<=AGw:=fun i j _ _=>Nat.le_trans (hE i j) Zl;unfold AGj;refine Zr (AW1 Ac hn Ak Ad) fun v hv=>?_;have Ap:=hv.2 ⟨hs,hp⟩;subst Ap;refine AAh (fun h=>absurd rfl h) fun _=>Zr (ABc (Ajt hn Ak Ad)) fun b hb=>?_;subst hb;refine AAh (fun h=>by simp [hdt] at h) fun _=>?_;refine Zr (ABc (Ad8 (A:=tab n n A0) (by rw [AAt];omega) (fun z hz=>by rw [AXh z hz];omega) (by rw [AAt];omega))) fun x hx=>?_;subst hx;rw [AAt];refine Zr (ABc (Aju Ac Zj Ad)) fun x hx=>?_;subst hx;dsimp only;refine Zr (Apd (Aw1 n A0) (Q:=fun r=> ∃ A T,r=(tab n n A,tab n n T,0)/\Ab5 n A/\Ah8 n A0 T A/\det n A=det n A0/\ ∀ k,k < n->A k k<=3 * dm9) (fun k s hI=>?_) (k:=(Agg n A0).toNat * 128 + 128) ⟨A0,dl,0,0,⟨Abl Ac hs hp hD hr,Ajz,rfl⟩,rfl,rfl⟩ ?_) fun r hr=>Zn hr
 ·obtain ⟨A,T,i,t,R,rfl,rfl⟩:=hI;have L:=R.inv;have hbd:=Ar9 hn L;have hb:∀ i j,i < n->j < n->(A i j).natAbs<=AGw:=fun i j hi hj=>Nat.le_trans (Aj0 L.sym L.pos hbd hi hj) Zl;have hT:∀ k s,k < n->s < n->(T k s).natAbs<=Ade:=fun k s hk Ab=>Awl hn hE hs hp R.car hbd hk Ab;have hTD:Ade<=Adc:=by decide
  have hMD:AGw<=Adc:=by decide
  unfold AJy;refine Zr (Auw Ac hn L.pos hb hf) fun r hr=>?_
  have prod:∀ {U:AAb},(∀ i j,i < n->j < n->(U i j).natAbs<=3 * dBd AGw 9)->(ADp fuel (tab n n A) (tab n n U)=some (tab n n (ACv n (ACv n (trF U) A) U))/\ACe fuel (tab n n T) (tab n n U)=some (tab n n (ACv n T U))):=fun {U} hU=>by
    have Am:∀ i j,i < n->j < n->(U i j).natAbs<=Adc:=fun i j hi hj=>Nat.le_trans (hU i j hi hj) Zl
    refine ⟨Ar6 Ac Zj Agp (fun i j hi hj=>Nat.le_trans (hb i j hi hj) hMD) Am (fun i j hi hj=>?_) Ad,?_⟩
    · have h1:=psum_abs (f:=fun l=>U l i) (g:=fun l=>A l j) (D:=3 * dBd AGw 9) n fun l hl=>⟨hU l i hl hi,Nat.le_trans (hb l j hl hj) Zl⟩
      have h2:n * ((3 * dBd AGw 9) * (3 * dBd AGw 9))<=8 * ((3 * dBd AGw 9) * (3 * dBd AGw 9)):=Nat.mul_le_mul_right _ hn
      have h3:(ACv n (trF U) A i j).natAbs=(psum (fun l=>U l i * A l j) n).natAbs:=rfl
      have h4:∀ l,l < n->(U l i).natAbs<=3 * dBd AGw 9/\(A l j).natAbs<=AGw:=fun l hl=>⟨hU l i hl hi,hb l j hl hj⟩
      have h5:(psum (fun l=>U l i * A l j) n).natAbs<=n * (3 * dBd AGw 9 * AGw):=by
        refine QF.psum_abs fun l hl=>?_
        rw [Int.natAbs_mul]
        exact Nat.mul_le_mul (h4 l hl).1 (h4 l hl).2
      have h6:n * (3 * dBd AGw 9 * AGw)<=8 * (3 * dBd AGw 9 * AGw):=Nat.mul_le_mul_right _ hn
      have h7:8 * (3 * dBd AGw 9 * AGw)<=Adc:=by decide
      rw [h3]
      exact Nat.le_trans h5 (Nat.le_trans h6 h7)
    · unfold ACe
      rw [Apa Ac Zj Agp (fun i j hi hj=>Nat.le_trans (hT i j hi hj) hTD) Am Ad]
      rfl
  rcases hr with ⟨rfl,hsz,hlv⟩ | ⟨i',j,hji,hi',hbad,hsz,hzi,hlv,rfl⟩ | ⟨j,hj,hbad,hsz,hlv,rfl⟩
  ·dsimp only;refine AAh (fun _=>?_) (fun h=>absurd rfl h);have hrest:=AV7 hn L fun l hl=>hsz i l hl L.hi;refine Zr (ABc (Awi Ac Zj (fun i j hi hj=>Nat.lt_of_le_of_lt (Aj0 L.sym L.pos hrest hi hj) Zl) Ad)) fun x hx=>Zn ?_;subst hx;exact ⟨A,T,rfl,⟨L.sym,L.pos,hsz,hlv,by rw [R.dt];exact hdt⟩,R.car,R.dt,hrest⟩
  ·dsimp only;refine AAh (fun h=>absurd h Zl) fun _=>?_
   have hU:∀ r s,r < n->s < n->(AW2 A i' j r s).natAbs<=3 * dBd AGw 9:=fun r s hr Ab=>by
     have hdl:∀ a b,(dl a b).natAbs<=3 * dBd AGw 9:=fun a b=>by unfold dl;split <;> decide
     unfold AW2
     rw [ABd]
     split
     · split
       · exact Alk hn hji hi' L.pos hb
       · exact hdl _ _
     · exact hdl _ _
   obtain ⟨e1,e2⟩:=prod hU;refine Zr (ABc e1) fun x hx=>Zr (ABc e2) fun y hy=>Zn ?_;subst hx;subst hy;obtain ⟨L2,hm⟩:=Ali hn L hi' hji hbad hsz hzi hlv;have hsum:Agg n (AX2 A i' j (ATn A i' j))=Agg n A:=ABb fun k _=>AP0 hji;refine ⟨_,?_,AX2 A i' j (ATn A i' j),ACv n T (AW2 A i' j),i',i' - j,⟨L2,Adb R.car fun r s hr Ab=>Agn hji hi' hr Ab,by rw [AP0 hji];exact R.dt⟩,?_,rfl⟩
   ·rw [hsum];have:=L.hi;have:=L.ht;omega
   ·rw [APc fun r s hr Ab=>Agn hji hi' hr Ab]
  ·dsimp only;refine AAh (fun h=>absurd h Zl) fun _=>?_
   have hU:∀ r s,r < n->s < n->(AEm dl (j + 1) j r s).natAbs<=3 * dBd AGw 9:=fun r s hr Ab=>by
     rw [Ael];unfold dl;split <;> decide
   obtain ⟨e1,e2⟩:=prod hU;refine Zr (ABc e1) fun x hx=>Zr (ABc e2) fun y hy=>Zn ?_;subst hx;subst hy;obtain ⟨L2,hm⟩:=Alj hn L hj hbad (fun r l h1 h2=>hsz r l h1 Zj) fun r hr=>hlv r Zj;refine ⟨_,?_,swA A j,ACv n T (AEm dl (j + 1) j),0,0,⟨L2,Adb R.car fun r s hr Ab=>Ajy hj hr Ab,by rw [Ajm Zj];exact R.dt⟩,?_,rfl⟩
   ·have h1:=Aj1 L.pos;have h2:=Aj1 L2.pos;have:=L.hi;have:=L.ht;omega
   ·rw [APc fun r s hr Ab=>Ajy hj hr Ab]
 ·have h1:=Asa hD;have h2:((n + 1:Nat):Int) * dm9<=9 * dm9:=Int.mul_le_mul_of_nonneg_right Zj Zl;have h3:(9 * dm9)=387420489:=by decide
  have h4:387420489 * 128 + 128 < AC3:=by decide
  omega
def part (n i:Nat) (G:AAb):List (List Int):=AB6 n fun r=>if r < i then AB6 n (G r) else []
theorem AKb {n i r:Nat} {G:AAb} (hr:r < i) (hn:r < n):(part n i G)[r]? =some (AB6 n (G r)):=by
 unfold part;rw [AAq hn,if_pos hr]
theorem APd {n i:Nat} {G:AAb} (hn:i < n):(part n i G)[i]? =some []:=by
 unfold part;rw [AAq hn,if_neg (Nat.lt_irrefl i)]
theorem AMf {n i r:Nat} {G:AAb} {g:Nat->Int} (hr:r < i):(part n i G).set r (AB6 n g)=part n i (ABy G r g):=by
 unfold part;rw [AD7];refine ABo fun k _=>?_;by_cases h:k=r
 ·subst h;rw [if_pos rfl,if_pos hr,ABt]
 ·rw [if_neg h,AD5 _ _ h]
theorem ANd {n i:Nat} {G:AAb} {g:Nat->Int}:(part n i G).set i (AB6 n g)=part n (i + 1) (ABy G i g):=by
 unfold part;rw [AD7];refine ABo fun k _=>?_;by_cases h:k=i
 ·subst h;rw [if_pos rfl,if_pos Zj,ABt]
 ·rw [if_neg h,AD5 _ _ h];by_cases h2:k < i
  ·rw [if_pos h2,if_pos Zj]
  ·rw [if_neg h2,if_neg Zj]
theorem AOn (n:Nat) (G:AAb):part n n G=tab n n G:=by
 unfold part;rw [AP5];exact ABo fun k hk=>if_pos hk
theorem AOo (n:Nat) (G:AAb):List.replicate n ([]:List Int)=part n 0 G:=by
 rw [AE4];exact ABo fun k _=>(if_neg Zj).symm
theorem AW4 {L:List Int} {q:Nat} (hq:q < 4611686018427387904):Ok (if (L.length:Int)<=((q:Nat):Int) then (some ((0:Int),((q:Nat):Int))) else ((gI L (w64 ((w64 (((q:Nat):Int) + 1)) - 1))).bind fun x=>(some ((w64 x),(w64 (((q:Nat):Int) + 1)))))) fun e=> ∃ p:Nat,e.2=(p:Int)/\p<=q + 1:=by
  refine AAh (fun h=>Zn ⟨q,rfl,Zj⟩) fun h=>?_;have hl:q < L.length:=by omega
  refine AAu (n:=q) (List.getElem?_eq_getElem hl) (by rw [ACk (x:=(q:Int) + 1) Zj Zj,wk Zj];omega) (Zn ⟨q + 1,?_,Zj⟩);rw [ACk (x:=(q:Int) + 1) Zj Zj];omega
theorem AUt (x:Int) (m:Nat) (hm:0 < m):0<=Int.tmod (w64 (IntKind.wrap .u8 x)) (m:Int)/\Int.tmod (w64 (IntKind.wrap .u8 x)) (m:Int) < m:=by
 have h1:IntKind.wrap .u8 x=x % 256:=by rw [IntKind.wrap_u8]
 rw [h1];have a1:=Int.emod_nonneg x (show (256:Int)≠0 by decide);have a2:=Int.emod_lt_of_pos x (show (0:Int) < 256 by decide);rw [wk Zj,Int.tmod_eq_emod_of_nonneg a1];exact ⟨Int.emod_nonneg _ Zj,Int.emod_lt_of_pos _ Zj⟩
def dgF (f:Nat->Int) (r c:Nat):Int:=if c=r then f r else 0
theorem Awm {fuel N q0:Nat} {a1 Ac:Int} {L:List Int} (hN:w64 (1 + (Int.tmod (w64 a1) Ac))=(N:Int)) (Af:N<=8) (Ag:q0<=1000) (hf:100 < fuel):
    Ok (iter (fun s=>AEw fuel a1 L Ac s.1 s.2.1 s.2.2) fuel (0,(q0:Int),(List.replicate (Int.toNat (w64 (1 + (Int.tmod (w64 a1) Ac)))) ([]:List Int)))) fun e=> ∃ (q:Nat) (f:Nat->Int),e=((q:Int),tab N N (dgF f))/\q<=q0 + N/\ ∀ r,r < N->1<=f r/\f r<=6:=by
 refine ABa (fun i s=> ∃ (q:Nat) (f:Nat->Int),s=(((i:Nat):Int),(q:Int),part N i (dgF f))/\i<=N/\q<=q0 + i/\ ∀ r,r < i->1<=f r/\f r<=6) N ⟨q0,fun _=>0,by rw [hN,Int.toNat_natCast,AOo N (dgF fun _=>0)];rfl,Zj,Zj,fun r hr=>by omega⟩ Zj fun i s hi hI=>?_;obtain ⟨q,f,rfl,hiN,hq,Ad⟩:=hI;unfold AEw;dsimp only;rw [List.length_replicate,hN,Int.toNat_natCast];refine AAh (fun h=>AB5 Zj ?_) (fun h=>Zn ?_)
 ·have hi':i < N:=by omega
  refine AAu (APd hi') rfl ?_;rw [AB0,AE4 N (0:Int),ANd];refine AAu (AKb Zj hi') rfl ?_;rw [ABt];refine Zr (Q:=fun e:Int × Int=>0<=e.1/\e.1 < 6/\ ∃ p:Nat,e.2=(p:Int)/\p<=q + 1) (Zr (AW4 (L:=L) (q:=q) Zj) fun e he=>?_) fun e he=>AAu (AAq hi') rfl (Zn ⟨Zj,?_⟩)
  ·exact Zn ⟨(AUt _ 6 Zl).1,(AUt _ 6 Zl).2,he⟩
  ·obtain ⟨h1,h2,p,h3,h4⟩:=he;refine ⟨p,fun r=>if r=i then 1 + e.1 else f r,?_,Zj,Zj,fun r hr=>?_⟩
   ·rw [ACk (x:=(i:Int) + 1) Zj Zj,ACk (x:=1 + e.1) Zj Zj,h3,AB0,AB0,AD7,AMf Zj];refine congrArg (fun z=>(((i + 1:Nat):Int),(p:Int),z)) (ABo fun r hr=>?_);split
    ·refine ABo fun c hc=>?_;rw [ABd];unfold dgF;dsimp only;split
     ·next h=>subst h;rfl
     ·next h=>rw [ABd,if_neg h]
    ·rfl
   ·dsimp only;split
    ·omega
    ·exact Ad r Zj
 ·obtain rfl:i=N:=by omega
  exact ⟨q,f,by rw [AOn],Zj,Ad⟩
theorem Auz {fuel N q0:Nat} {a1 Ac:Int} {L:List Int} (hN:w64 (1 + (Int.tmod (w64 a1) Ac))=(N:Int)) (Af:N<=8) (Ag:q0<=1000) (hf:100 < fuel):
    Ok (iter (fun s=>AEe fuel a1 L Ac s.1 s.2.1 s.2.2) fuel (0,(q0:Int),(List.replicate (Int.toNat (w64 (1 + (Int.tmod (w64 a1) Ac)))) ([]:List Int)))) fun e=> ∃ (q:Nat) (f:Nat->Int),e=((q:Int),tab N N (dgF f))/\q<=q0 + N/\ ∀ r,r < N->1<=f r/\f r<=9:=by
 refine ABa (fun i s=> ∃ (q:Nat) (f:Nat->Int),s=(((i:Nat):Int),(q:Int),part N i (dgF f))/\i<=N/\q<=q0 + i/\ ∀ r,r < i->1<=f r/\f r<=9) N ⟨q0,fun _=>0,by rw [hN,Int.toNat_natCast,AOo N (dgF fun _=>0)];rfl,Zj,Zj,fun r hr=>by omega⟩ Zj fun i s hi hI=>?_;obtain ⟨q,f,rfl,hiN,hq,Ad⟩:=hI;unfold AEe;dsimp only;rw [List.length_replicate,hN,Int.toNat_natCast];refine AAh (fun h=>AB5 Zj ?_) (fun h=>Zn ?_)
 ·have hi':i < N:=by omega
  refine AAu (APd hi') rfl ?_;rw [AB0,AE4 N (0:Int),ANd];refine AAu (AKb Zj hi') rfl ?_;rw [ABt];refine Zr (Q:=fun e:Int × Int=>0<=e.1/\e.1 < 9/\ ∃ p:Nat,e.2=(p:Int)/\p<=q + 1) (Zr (AW4 (L:=L) (q:=q) Zj) fun e he=>?_) fun e he=>AAu (AAq hi') rfl (Zn ⟨Zj,?_⟩)
  ·exact Zn ⟨(AUt _ 9 Zl).1,(AUt _ 9 Zl).2,he⟩
  ·obtain ⟨h1,h2,p,h3,h4⟩:=he;refine ⟨p,fun r=>if r=i then 1 + e.1 else f r,?_,Zj,Zj,fun r hr=>?_⟩
   ·rw [ACk (x:=(i:Int) + 1) Zj Zj,ACk (x:=1 + e.1) Zj Zj,h3,AB0,AB0,AD7,AMf Zj];refine congrArg (fun z=>(((i + 1:Nat):Int),(p:Int),z)) (ABo fun r hr=>?_);split
    ·refine ABo fun c hc=>?_;rw [ABd];unfold dgF;dsimp only;split
     ·next h=>subst h;rfl
     ·next h=>rw [ABd,if_neg h]
    ·rfl
   ·dsimp only;split
    ·omega
    ·exact Ad r Zj
 ·obtain rfl:i=N:=by omega
  exact ⟨q,f,by rw [AOn],Zj,Ad⟩
theorem Au0 {fuel N q0:Nat} {a1 Ac:Int} {L:List Int} (hN:w64 (1 + (Int.tmod (w64 a1) Ac))=(N:Int)) (Af:N<=8) (Ag:q0<=1000) (hf:100 < fuel):
    Ok (iter (fun s=>AEf fuel a1 L Ac s.1 s.2.1 s.2.2) fuel (0,(q0:Int),(List.replicate (Int.toNat (w64 (1 + (Int.tmod (w64 a1) Ac)))) ([]:List Int)))) fun e=> ∃ (q:Nat) (f:Nat->Int),e=((q:Int),tab N N (dgF f))/\q<=q0 + N/\ ∀ r,r < N->1<=f r/\f r<=1:=by
 refine ABa (fun i s=> ∃ (q:Nat) (f:Nat->Int),s=(((i:Nat):Int),(q:Int),part N i (dgF f))/\i<=N/\q<=q0 + i/\ ∀ r,r < i->1<=f r/\f r<=1) N ⟨q0,fun _=>0,by rw [hN,Int.toNat_natCast,AOo N (dgF fun _=>0)];rfl,Zj,Zj,fun r hr=>by omega⟩ Zj fun i s hi hI=>?_;obtain ⟨q,f,rfl,hiN,hq,Ad⟩:=hI;unfold AEf;dsimp only;rw [List.length_replicate,hN,Int.toNat_natCast];refine AAh (fun h=>AB5 Zj ?_) (fun h=>Zn ?_)
 ·have hi':i < N:=by omega
  refine AAu (APd hi') rfl ?_;rw [AB0,AE4 N (0:Int),ANd];refine AAu (AKb Zj hi') rfl ?_;rw [ABt];refine Zr (Q:=fun e:Int × Int=>0<=e.1/\e.1 < 1/\ ∃ p:Nat,e.2=(p:Int)/\p<=q + 1) (Zr (AW4 (L:=L) (q:=q) Zj) fun e he=>?_) fun e he=>AAu (AAq hi') rfl (Zn ⟨Zj,?_⟩)
  ·exact Zn ⟨(AUt _ 1 Zl).1,(AUt _ 1 Zl).2,he⟩
  ·obtain ⟨h1,h2,p,h3,h4⟩:=he;refine ⟨p,fun r=>if r=i then 1 + e.1 else f r,?_,Zj,Zj,fun r hr=>?_⟩
   ·rw [ACk (x:=(i:Int) + 1) Zj Zj,ACk (x:=1 + e.1) Zj Zj,h3,AB0,AB0,AD7,AMf Zj];refine congrArg (fun z=>(((i + 1:Nat):Int),(p:Int),z)) (ABo fun r hr=>?_);split
    ·refine ABo fun c hc=>?_;rw [ABd];unfold dgF;dsimp only;split
     ·next h=>subst h;rfl
     ·next h=>rw [ABd,if_neg h]
    ·rfl
   ·dsimp only;split
    ·omega
    ·exact Ad r Zj
 ·obtain rfl:i=N:=by omega
  exact ⟨q,f,by rw [AOn],Zj,Ad⟩
theorem Au1 {fuel N q0:Nat} {a1 Ac:Int} {L:List Int} (hN:w64 (1 + (Int.tmod (w64 a1) Ac))=(N:Int)) (Af:N<=8) (Ag:q0<=1000) (hf:100 < fuel):
    Ok (iter (fun s=>AEg fuel a1 L Ac s.1 s.2.1 s.2.2) fuel (0,(q0:Int),(List.replicate (Int.toNat (w64 (1 + (Int.tmod (w64 a1) Ac)))) ([]:List Int)))) fun e=> ∃ (q:Nat) (f:Nat->Int),e=((q:Int),tab N N (dgF f))/\q<=q0 + N/\ ∀ r,r < N->1<=f r/\f r<=2:=by
 refine ABa (fun i s=> ∃ (q:Nat) (f:Nat->Int),s=(((i:Nat):Int),(q:Int),part N i (dgF f))/\i<=N/\q<=q0 + i/\ ∀ r,r < i->1<=f r/\f r<=2) N ⟨q0,fun _=>0,by rw [hN,Int.toNat_natCast,AOo N (dgF fun _=>0)];rfl,Zj,Zj,fun r hr=>by omega⟩ Zj fun i s hi hI=>?_;obtain ⟨q,f,rfl,hiN,hq,Ad⟩:=hI;unfold AEg;dsimp only;rw [List.length_replicate,hN,Int.toNat_natCast];refine AAh (fun h=>AB5 Zj ?_) (fun h=>Zn ?_)
 ·have hi':i < N:=by omega
  refine AAu (APd hi') rfl ?_;rw [AB0,AE4 N (0:Int),ANd];refine AAu (AKb Zj hi') rfl ?_;rw [ABt];refine Zr (Q:=fun e:Int × Int=>0<=e.1/\e.1 < 2/\ ∃ p:Nat,e.2=(p:Int)/\p<=q + 1) (Zr (AW4 (L:=L) (q:=q) Zj) fun e he=>?_) fun e he=>AAu (AAq hi') rfl (Zn ⟨Zj,?_⟩)
  ·exact Zn ⟨(AUt _ 2 Zl).1,(AUt _ 2 Zl).2,he⟩
  ·obtain ⟨h1,h2,p,h3,h4⟩:=he;refine ⟨p,fun r=>if r=i then 1 + e.1 else f r,?_,Zj,Zj,fun r hr=>?_⟩
   ·rw [ACk (x:=(i:Int) + 1) Zj Zj,ACk (x:=1 + e.1) Zj Zj,h3,AB0,AB0,AD7,AMf Zj];refine congrArg (fun z=>(((i + 1:Nat):Int),(p:Int),z)) (ABo fun r hr=>?_);split
    ·refine ABo fun c hc=>?_;rw [ABd];unfold dgF;dsimp only;split
     ·next h=>subst h;rfl
     ·next h=>rw [ABd,if_neg h]
    ·rfl
   ·dsimp only;split
    ·omega
    ·exact Ad r Zj
 ·obtain rfl:i=N:=by omega
  exact ⟨q,f,by rw [AOn],Zj,Ad⟩
theorem Au2 {fuel N q0:Nat} {L:List Int} {F0:AAb} (Ag:N<=8) (Ah:q0<=1000) (Ad:∀ i j,i < N->j < N->(F0 i j).natAbs<=9) (hf:100 < fuel):
    Ok (iter (fun s=>AEx fuel L (tab N N F0) s.1 s.2.1 s.2.2) fuel (0,(q0:Int),tab N N F0)) fun e=> ∃ (q:Nat) (F:AAb),e=((q:Int),tab N N F)/\q<=q0 + 8 * N/\ ∀ i j,i < N->j < N->(F i j).natAbs<=9:=by
 refine ABa (fun i s=> ∃ (q:Nat) (F:AAb),s=(((i:Nat):Int),(q:Int),tab N N F)/\i<=N/\q<=q0 + 8 * i/\ ∀ i j,i < N->j < N->(F i j).natAbs<=9) N ⟨q0,F0,rfl,Zj,Zj,Ad⟩ Zj fun i s hi hI=>?_;obtain ⟨q,F,rfl,hiN,hq,hF⟩:=hI;unfold AEx;dsimp only;rw [AAt];refine AAh (fun h=>?_) (fun h=>Zn ⟨q,F,rfl,Zj,hF⟩);have hi':i < N:=by omega
 refine Zr (ABa (fun j s=> ∃ (p:Nat) (F:AAb),s=(((j:Nat):Int),(p:Int),tab N N F)/\j<=i/\p<=q + j/\ ∀ i j,i < N->j < N->(F i j).natAbs<=9) i (Q:=fun e=> ∃ (p:Nat) (F:AAb),e=((p:Int),tab N N F)/\p<=q + i/\ ∀ i j,i < N->j < N->(F i j).natAbs<=9) ⟨q,F,rfl,Zj,Zj,hF⟩ Zj fun j s hj hJ=>?_) fun e he=>?_
 ·obtain ⟨p,F,rfl,hji,hp,hF⟩:=hJ;unfold AG9;dsimp only;refine AAh (fun h=>?_) (fun h=>Zn ⟨p,F,rfl,Zj,hF⟩);have hj':j < i:=by omega
  refine AAu (AA1 hi') rfl (Zr (AW4 (L:=L) (q:=p) Zj) fun e he=>AAu (AAq Zj) rfl ?_);obtain ⟨p2,h3,h4⟩:=he;rw [AB0,AB0,AD7,show (AB6 N fun c=>if c=j then Int.tmod e.1 3 else F i c)=(List.range N).map fun c=>if c=j then Int.tmod e.1 3 else F i c from rfl,AK4];refine AAu (AA1 Zj) rfl (AAu (AA1 hi') rfl (AAu (AAq Zj) rfl (AAu (AAq hi') rfl (Zn ⟨Zj,p2,?_⟩))));generalize Af:(ABy F i fun c=>if c=j then Int.tmod e.1 3 else F i c)=F1
  have hv:(Int.tmod e.1 3).natAbs<=9:=by
    have:=Int.natAbs_tmod e.1 3
    have h5:e.1.natAbs % (3:Int).natAbs < 3:=Nat.mod_lt _ Zl
    omega
  have hF1b:∀ i j,i < N->j < N->(F1 i j).natAbs<=9:=fun a b ha hb=>by
    subst Af
    rw [ABd]
    split
    · split
      · exact hv
      · exact hF i b hi' hb
    · exact hF a b ha hb
  refine ⟨ABy F1 j fun c=>if c=i then F1 i j else F1 j c,?_,Zj,Zj,fun a b ha hb=>?_⟩
  ·rw [wk Zj,h3,AB0,AB0,AD7,show (AB6 N fun c=>if c=i then F1 i j else F1 j c)=(List.range N).map fun c=>if c=i then F1 i j else F1 j c from rfl,AK4];rfl
  ·rw [ABd];split
   ·split
    ·exact hF1b i j hi' Zj
    ·exact hF1b j b Zj hb
   ·exact hF1b a b ha hb
 ·obtain ⟨p,F,rfl,hp,hF⟩:=he;exact Zn ⟨Zj,p,F,by rw [wk Zj];rfl,Zj,Zj,hF⟩
theorem Aj2 {fuel N:Nat} {b:Bool} (Ag:1<=N) (Ah:N<=8) (hf:100 < fuel):Ok (AF5 fuel (N:Int) b) fun e=> ∃ F,e=tab N N F/\ ∀ i j,i < N->j < N->(F i j).natAbs<=2:=by
 unfold AF5;refine AB5 Zj ?_;rw [Int.toNat_natCast];refine Zr (ABa (fun i s=> ∃ G:AAb,s=(((i:Nat):Int),part N i G)/\i<=N/\ ∀ r c,(G r c).natAbs<=2) N (Q:=fun e=> ∃ F,e=tab N N F/\ ∀ i j,i < N->j < N->(F i j).natAbs<=2) ⟨fun _ _=>0,by rw [AOo N fun _ _=>0];rfl,Zj,fun _ _=>Nat.zero_le _⟩ Zj fun i s hi hI=>?_) fun e he=>Zn he;obtain ⟨G,rfl,hiN,hG⟩:=hI;unfold ALa;dsimp only;rw [List.length_replicate,Int.toNat_natCast];refine AAh (fun h=>AB5 Zj ?_) (fun h=>Zn ?_)
 ·have hi':i < N:=by omega
  refine AAu (APd hi') rfl ?_;rw [AB0,AE4 N (0:Int),ANd];refine AAu (AKb Zj hi') rfl ?_;rw [ABt];refine AAu (AAq hi') rfl ?_;rw [AB0,AB0,AD7,AMf Zj]
  have Ab:∀ r c,(ABy (ABy G i fun x=>0) i (fun c=>if c=i then 2 else 0) r c).natAbs<=2:=fun r c=>by
    rw [ABd]
    split
    · split <;> decide
    · rw [ABd]
      split
      · decide
      · exact hG r c
  generalize (ABy (ABy G i fun x=>0) i fun c=>if c=i then 2 else 0)=G1 at Ab;have wi:w64 ((i:Int) + 1)=((i + 1:Nat):Int):=by rw [wk Zj];omega
  refine Zr (Q:=fun k=>k=(i:Int) - 1∨k=(i:Int) - 2) ?_ fun k hk=>?_
  ·have w1:w64 ((i:Int) - 1)=(i:Int) - 1:=wk Zj;have w2:w64 ((i:Int) - 2)=(i:Int) - 2:=wk Zj;rw [w1,w2];exact AAh (fun _=>AAh (fun _=>AAh (fun _=>Zn (.inr rfl)) fun _=>Zn (.inl rfl)) fun _=>Zn (.inl rfl)) fun _=>Zn (.inl rfl)
  ·refine AAh (fun h=>?_) (fun h=>Zn ⟨Zj,G1,by rw [wi],Zj,Ab⟩);obtain ⟨k,rfl⟩:∃ q:Nat,k=q:=⟨k.toNat,Zj⟩;have hki:k < i:=by omega
   refine AAu (AKb Zj hi') rfl (AAu (AKb Zj Zj) rfl (AAu (AAq Zj) rfl ?_));rw [AB0,AB0,AD7,AMf Zj]
   have Ac:∀ r c,(ABy G1 i (fun c=>if c=k then -1 else G1 i c) r c).natAbs<=2:=fun r c=>by
     rw [ABd]
     split
     · split
       · decide
       · exact Ab i c
     · exact Ab r c
   generalize (ABy G1 i fun c=>if c=k then -1 else G1 i c)=G2 at Ac;refine AAu (AKb Zj Zj) rfl (AAu (AAq hi') rfl (Zn ⟨Zj,ABy G2 k fun c=>if c=i then -1 else G2 k c,?_,Zj,fun r c=>?_⟩))
   ·rw [wi,AB0,AB0,AD7,AMf Zj]
   ·rw [ABd];split
    ·split
     ·decide
     ·exact Ac k c
    ·exact Ac r c
 ·obtain rfl:i=N:=by omega
  exact ⟨G,AOn _ _,fun a b _ _=>hG a b⟩
theorem Agq {n B:Nat} {F:AAb} (hB:B < 9223372036854775808) (h:∀ i j,i < n->j < n->(F i j).natAbs<=B):∀ z∈tab n n F,∀ x∈z,-9223372036854775808<=x/\x<=9223372036854775807:=fun z hz x hx=>by
  obtain ⟨i,hi⟩:=List.getElem?_of_mem hz
  have hin:i < n:=by have:=(List.getElem?_eq_some_iff.1 hi).1;rwa [AAt] at this
  rw [AA1 hin] at hi
  cases hi
  obtain ⟨j,hj⟩:=List.getElem?_of_mem hx
  have hjn:j < n:=by have:=(List.getElem?_eq_some_iff.1 hj).1;rwa [AA2] at this
  rw [AAq hjn] at hj
  cases hj
  have:=h i j hin hjn
  omega
theorem Asb {n:Nat} {F:AAb} (hn:1<=n) (Aa:n<=16):okM (tab n n F)=true:=by
 have hc:ANg (tab n n F)=n:=Amn hn;unfold okM;rw [decide_eq_true_iff,AAt,hc];exact ⟨hn,Aa,fun z hz=>by rw [AXh z hz];exact ⟨hn,Aa,rfl⟩⟩
theorem Ah9 {fuel n:Nat} {F:AAb} (hn:1<=n) (Aa:n<=16) (h:∀ i j,i < n->j < n->(F i j).natAbs<=9223372036854775807) (hf:17 < fuel):ADt fuel (tab n n F)=some (tab n n F):=by
 rw [Ata (Agq Zl h) hf,if_pos (Asb hn Aa)]
theorem Au3 {fuel n:Nat} {F:AAb} (Ab:1<=n) (hn:n<=8) (hb:∀ i j,i < n->j < n->(F i j).natAbs<=1000000) (hf:100 < fuel):Ok (AH6 fuel (tab n n F)) fun r=>r=true↔AMe n F/\AN5 n F/\det n F<=10000:=by
 have Ac:∀ i j,i < n->j < n->(F i j).natAbs<=AGw:=fun i j hi hj=>Nat.le_trans (hb i j hi hj) Zl;unfold AH6;refine Zr (ABc (Ah9 Ab Zj (fun i j hi hj=>Nat.le_trans (hb i j hi hj) Zl) Zj)) fun x hx=>?_;subst hx;refine Zr (AW1 Ab hn Ac hf) fun v hv=>AAh (fun h=>?_) fun h=>Zn (Iff.intro (fun h2=>nomatch h2) fun h2=>absurd (hv.2 ⟨h2.1,h2.2.1⟩) h);have h1:=hv.1 h;refine Zr (ABc (AXy hn Ac Zj)) fun d hd=>Zr (Q:=(· =10000)) ⟨10000,if_pos Zj,rfl⟩ fun t ht=>Zr (ABc (a:=ATf d t) rfl) fun c hc=>Zn ?_;subst hd;subst ht;subst hc;rw [decide_eq_true_iff,Aei];exact ⟨fun h2=>⟨h1.1,h1.2,h2⟩,fun h2=>h2.2.2⟩
theorem Au4 {n:Nat} {f:Nat->Int} (hn:n<=8) (h:∀ r,r < n->1<=f r/\f r<=2):AMe n (dgF f)/\AN5 n (dgF f)/\det n (dgF f)<=10000:=by
 have hd:∀ k,k<=n->det k (dgF f)=AGx f k:=fun k hk=>by
   rw [ATi (F:=dgF f) (fun c i hc hci hi=>by unfold dgF;rw [if_neg Zj])]
   exact AZh fun i _=>by unfold dgF;rw [if_pos rfl]
 have hb:∀ k,k<=n->0 < AGx f k/\AGx f k<=2 ^ k:=fun k=>by
   induction k with
   | zero=>intro _;simp [AGx]
   | succ k ih=>
     intro hk
     have h1:=ih Zj
     have h2:=h k Zj
     simp only [AGx]
     refine ⟨Int.mul_pos h1.1 Zj,?_⟩
     rw [Int.pow_succ]
     exact Int.mul_le_mul h1.2 h2.2 Zj (Int.le_of_lt (AX3 k))
 refine ⟨fun i j hi hj=>?_,fun k hk=>by rw [hd k hk];exact (hb k hk).1,?_⟩
 ·unfold dgF;split
  ·next h=>subst h;rw [if_pos rfl]
  ·next h=>rw [if_neg (fun h2=>h h2.symm)]
 ·rw [hd n (Nat.le_refl n)];have:=(hb n (Nat.le_refl n)).2;have h2:=AX4 hn;omega
structure Awn (n:Nat) (A:AAb):Prop where
  n1:1<=n
  n8:n<=8
  sym:AMe n A
  pos:AN5 n A
  bd:∀ i j,i < n->j < n->(A i j).natAbs<=9
  dt:det n A<=10000
theorem Aj3 {n m:Nat} {f:Nat->Int} (h:∀ r,r < n->1<=f r/\f r<=(m:Int)):∀ i j,i < n->j < n->(dgF f i j).natAbs<=m:=fun i j hi hj=>by
  unfold dgF
  have:=h i hi
  split <;> omega
theorem Au5 {fuel:Nat} {a1 a2 most:Int} {L L2:List Int} (h1:0<=a1/\a1 < 256) (hm:1<=most/\most<=8) (hf:100 < fuel):Ok (AD8 fuel a1 a2 L L2 most) fun r=> ∃ n A,r=tab n n A/\Awn n A/\(n:Int)=1 + Int.tmod a1 most:=by
 have t1:=Int.emod_nonneg a1 (show most≠0 by omega);have t2:=Int.emod_lt_of_pos a1 (show 0 < most by omega);have t3:Int.tmod a1 most=a1 % most:=Int.tmod_eq_emod_of_nonneg h1.1
 have hN:w64 (1 + Int.tmod (w64 a1) most)=((1 + a1 % most).toNat:Int):=by
   rw [ACk (x:=a1) Zj Zj,t3,wk Zj];omega
 generalize hNN:(1 + a1 % most).toNat=N at hN;have Ae:1<=N:=by omega
 have Ab:N<=8:=by omega
 unfold AD8;refine AB5 Zj (Zr (Q:=fun e=> ∃ (q:Nat) (F:AAb),e=(tab N N F,(q:Int))/\q<=200/\ ∀ i j,i < N->j < N->(F i j).natAbs<=9) (Zr (Q:=fun _=>True) ?_ fun k _=>AAh (fun _=>?_) fun _=>AAh (fun _=>?_) fun _=>AAh (fun _=>?_) fun _=>AAh (fun _=>?_) fun _=>?_) fun e he=>?_)
 ·exact AAh (fun _=>Zn trivial) fun _=>AAh (fun _=>Zn trivial) fun _=>AAh (fun _=>Zn trivial) fun _=>Zn trivial
 ·refine Zr (Q:=fun e=> ∃ (q:Nat) (F:AAb),e=(tab N N F,(q:Int))/\q<=200/\ ∀ i j,i < N->j < N->(F i j).natAbs<=9) (Zr (Q:=fun e=> ∃ (q:Nat) (f:Nat->Int),e=(tab N N (dgF f),(q:Int))/\q<=8/\ ∀ r,r < N->1<=f r/\f r<=6) (AB5 (by rw [hN];omega) (Zr (Awm (q0:=0) (L:=L) hN Ab Zj hf) fun e he=>Zn ?_)) fun e he=>?_) fun e he=>Zn he
  ·obtain ⟨q,f,rfl,h2,h3⟩:=he;exact ⟨q,f,rfl,Zj,h3⟩
  ·obtain ⟨q,f,rfl,h2,h3⟩:=he;refine Zr (Au2 (L:=L) (q0:=q) Ab Zj (fun i j hi hj=>Nat.le_trans (Aj3 (m:=6) h3 i j hi hj) Zl) hf) fun e he=>Zn ?_;obtain ⟨q,F,rfl,h4,h5⟩:=he;exact ⟨q,F,rfl,Zj,h5⟩
 ·rw [hN];refine Zr (Aj2 Ae Ab hf) fun F hF=>?_;obtain ⟨F,rfl,hF⟩:=hF;refine AAu (n:=0) (AA1 Zj) rfl (AAu (n:=0) (AAq Zj) rfl (Zr (Q:=fun e:Int × Int=>0<=e.1/\e.1 < 3/\ ∃ p:Nat,e.2=(p:Int)/\p<=0 + 1) (Zr (AW4 (L:=L) (q:=0) Zj) fun e he=>Zn ⟨(AUt _ 3 Zl).1,(AUt _ 3 Zl).2,he⟩) fun e he=>Zn ?_));obtain ⟨c1,c2,p,c3,c4⟩:=he;have c5:=hF 0 0 Zj Zj;refine ⟨p,ABy F 0 fun c=>if c=0 then F 0 0 + e.1 else F 0 c,?_,Zj,fun i j hi hj=>?_⟩
  ·rw [c3,wk Zj];refine congrArg (fun z=>(z,(p:Int))) ?_;show (tab N N F).set 0 ((AB6 N (F 0)).set 0 (F 0 0 + e.1))=_;rw [AD7];exact AK4
  ·rw [ABd];split
   ·split
    ·omega
    ·have:=hF 0 j Zj hj;omega
   ·have:=hF i j hi hj;omega
 ·rw [hN];refine Zr (Aj2 Ae Ab hf) fun F hF=>?_;obtain ⟨F,rfl,hF⟩:=hF;have w1:w64 ((N:Int) - 1)=((N - 1:Nat):Int):=by rw [wk Zj];omega
  rw [w1];refine AAu (AA1 Zj) rfl (AAu (AAq Zj) rfl (Zr (Q:=fun e:Int × Int=>0<=e.1/\e.1 < 2/\ ∃ p:Nat,e.2=(p:Int)/\p<=0 + 1) (Zr (AW4 (L:=L) (q:=0) Zj) fun e he=>Zn ⟨(AUt _ 2 Zl).1,(AUt _ 2 Zl).2,he⟩) fun e he=>Zn ?_));obtain ⟨c1,c2,p,c3,c4⟩:=he;have c5:=hF (N - 1) (N - 1) Zj Zj;refine ⟨p,ABy F (N - 1) fun c=>if c=N - 1 then F (N - 1) (N - 1) + e.1 else F (N - 1) c,?_,Zj,fun i j hi hj=>?_⟩
  ·rw [c3,wk Zj,AB0,AB0];refine congrArg (fun z=>(z,(p:Int))) ?_;rw [AD7];exact AK4
  ·rw [ABd];split
   ·split
    ·omega
    ·have:=hF (N - 1) j Zj hj;omega
   ·have:=hF i j hi hj;omega
 ·refine Zr (Q:=fun e=> ∃ (q:Nat) (F:AAb),e=(tab N N F,(q:Int))/\q<=200/\ ∀ i j,i < N->j < N->(F i j).natAbs<=9) (AB5 (by rw [hN];omega) (Zr (Auz (q0:=0) (L:=L) hN Ab Zj hf) fun e he=>Zn ?_)) fun e he=>Zn he;obtain ⟨q,f,rfl,h2,h3⟩:=he;exact ⟨q,dgF f,rfl,Zj,fun i j hi hj=>Aj3 (m:=9) h3 i j hi hj⟩
 ·refine Zr (Q:=fun e=> ∃ (q:Nat) (F:AAb),e=(tab N N F,(q:Int))/\q<=200/\ ∀ i j,i < N->j < N->(F i j).natAbs<=9) (AB5 (by rw [hN];omega) (Zr (Au0 (q0:=0) (L:=L) hN Ab Zj hf) fun e he=>Zn ?_)) fun e he=>Zn he;obtain ⟨q,f,rfl,h2,h3⟩:=he;exact ⟨q,dgF f,rfl,Zj,fun i j hi hj=>Nat.le_trans (Aj3 (m:=1) h3 i j hi hj) Zl⟩
 ·obtain ⟨q,F,rfl,h2,h3⟩:=he;dsimp only;refine Zr (Au3 Ae Ab (fun i j hi hj=>Nat.le_trans (h3 i j hi hj) Zl) hf) fun b hb=>AAh (fun hn=>?_) fun hn=>Zn ?_
  ·refine Zr (Q:=fun e=> ∃ f:Nat->Int,e.1=tab N N (dgF f)/\ ∀ r,r < N->1<=f r/\f r<=2) (AB5 (by rw [hN];omega) (Zr (Au1 (q0:=q) (L:=L) hN Ab Zj hf) fun e he=>Zn ?_)) fun e he=>Zn ?_
   ·obtain ⟨q,f,rfl,h4,h5⟩:=he;exact ⟨f,rfl,h5⟩
   ·obtain ⟨f,h4,h5⟩:=he;obtain ⟨d1,d2,d3⟩:=Au4 Ab h5;exact ⟨N,dgF f,h4,⟨Ae,Ab,d1,d2,fun i j hi hj=>Nat.le_trans (Aj3 (m:=2) h5 i j hi hj) Zl,d3⟩,by rw [t3];omega⟩
  ·have hg:AMe N F/\AN5 N F/\det N F<=10000:=hb.1 (by simpa using hn);exact ⟨N,F,rfl,⟨Ae,Ab,hg.1,hg.2.1,h3,hg.2.2⟩,by rw [t3];omega⟩
theorem Au6 {fuel:Nat} {a1 a2 most:Int} {L L2:List Int} (h1:0<=a1/\a1 < 256) (hm:1<=most/\most<=8) (hf:AC3 < fuel):Ok (AD9 fuel a1 a2 L L2 most) fun r=> ∃ n A,r=tab n n A/\1<=n/\(n:Int)<=most/\Ab5 n A/\ ∀ k,k < n->A k k<=3 * dm9:=by
  have hf2:100 < fuel:=Nat.lt_of_le_of_lt Zl hf;unfold AD9;refine Zr (Au5 h1 hm hf2) fun g hg=>?_;obtain ⟨n,A,rfl,G,hn⟩:=hg;have t2:=Int.emod_lt_of_pos a1 (show 0 < most by omega);have t3:Int.tmod a1 most=a1 % most:=Int.tmod_eq_emod_of_nonneg h1.1
  let A0:AAb:=fun i j=>if i < n/\j < n then A i j else 0
  have hA0:∀ i j,i < n->j < n->A0 i j=A i j:=fun i j hi hj=>if_pos ⟨hi,hj⟩;have e:tab n n A=tab n n A0:=APc fun i j hi hj=>(hA0 i j hi hj).symm;refine Zr (ABc (Ah9 G.n1 (by have:=G.n8;omega) (fun i j hi hj=>Nat.le_trans (G.bd i j hi hj) Zl) Zj)) fun x hx=>?_;subst hx;rw [e];have hp:AN5 n A0:=fun k hk=>by rw [AB8 fun i j hi hj=>hA0 i j Zj Zj];exact G.pos k hk
  have hs:AMe n A0:=fun i j hi hj=>by rw [hA0 i j hi hj,hA0 j i hj hi];exact G.sym i j hi hj
  have hE:∀ i j,(A0 i j).natAbs<=9:=fun i j=>by
    show (if i < n/\j < n then A i j else 0).natAbs<=9
    split
    · next h=>exact G.bd i j h.1 h.2
    · decide
  have hh:=Ao1 hs hp (B:=9) Zl (fun i hi=>by have:=hE i i;omega)
  refine Zr (Alm G.n1 G.n8 hs hp (fun i j=>Nat.le_trans (hE i j) Zl) (fun k hk=>?_) (fun k hk=>?_) ?_ hf) fun r hr=>Zn ?_
  · have h2:=hh k hk
    have h3:(9:Int) ^ k<=9 ^ 8:=by
      have:=Nat.pow_le_pow_right (show 0 < 9 by omega) (show k<=8 by have:=G.n8;omega);have e2:∀ t:Nat,(9:Int) ^ t=((9 ^ t:Nat):Int):=fun t=>by simp
      rw [e2,e2];omega
    exact Int.le_trans h2 h3
  · have:=hE k k;have:(3 * dm9)=129140163:=by decide
    omega
  · rw [AB8 hA0];exact G.dt
  · obtain ⟨A',T,rfl,R,-,-,hd⟩:=hr;exact ⟨n,A',rfl,G.n1,by rw [hn,t3];omega,R,hd⟩
theorem Ape {A:AAb} {k:Nat} (h1:LvF A k) (h2:SzF A (k + 1) k) (hp:0 < det (k + 1) A):det (k + 1) A * det (k + 1) A<=2 * (det k A * det (k + 2) A):=by
 unfold LvF at h1;unfold SzF at h2;have h3:(2 * Mn k A (k + 1) k) * (2 * Mn k A (k + 1) k)<=det (k + 1) A * det (k + 1) A:=AVo Zj h2.2;have h4:(2 * Mn k A (k + 1) k) * (2 * Mn k A (k + 1) k)=4 * (Mn k A (k + 1) k * Mn k A (k + 1) k):=by grind
 omega
theorem AL3 {x y:Int} (h0:0<=x) (h:x<=y):∀ k:Nat,x ^ k<=y ^ k
  | 0=>by simp
  | k + 1=>by
    rw [Int.pow_succ,Int.pow_succ]
    exact Int.mul_le_mul (AL3 h0 h k) h h0 (Int.le_trans (Int.pow_nonneg h0) (AL3 h0 h k))
def tri:Nat->Nat
  | 0=>0
  | k + 1=>tri k + (k + 1)
theorem Aia {n:Nat} {A:AAb} (hp:AN5 n A) (hs:ARv A n) (hl:ATo A n):∀ k,k + 1<=n->det k A ^ (k + 1)<=det (k + 1) A ^ k * 2 ^ tri k:=by
  intro k;induction k with
  | zero=>intro _;simp [det,tri]
  | succ k ih=>
    intro hk;have ih:=ih Zj;have p0:=hp k Zj;have p1:=hp (k + 1) Zj;have p2:=hp (k + 2) Zj;have h1:=Ape (hl k Zj) (hs (k + 1) k Zj Zj) p1;generalize det k A=a at *
    generalize det (k + 1) A=b at *
    generalize det (k + 2) A=c at *
    have h2:(b * b) ^ (k + 1)<=(2 * (a * c)) ^ (k + 1):=AL3 (Int.le_of_lt (Int.mul_pos p1 p1)) h1 _;rw [Int.mul_pow,Int.mul_pow,Int.mul_pow] at h2;have h3:a ^ (k + 1) * c ^ (k + 1)<=b ^ k * 2 ^ tri k * c ^ (k + 1):=Int.mul_le_mul_of_nonneg_right ih (Int.le_of_lt (Int.pow_pos p2));have h4:2 ^ (k + 1) * (a ^ (k + 1) * c ^ (k + 1))<=2 ^ (k + 1) * (b ^ k * 2 ^ tri k * c ^ (k + 1)):=Int.mul_le_mul_of_nonneg_left h3 (Int.le_of_lt (AX3 _));have h5:=Int.le_trans h2 h4;have e1:b ^ (k + 1) * b ^ (k + 1)=b ^ k * b ^ (k + 1 + 1):=by rw [Int.pow_succ b k,Int.pow_succ b (k + 1),Int.pow_succ b k];grind
    have e2:(2:Int) ^ (k + 1) * (b ^ k * 2 ^ tri k * c ^ (k + 1))=b ^ k * (c ^ (k + 1) * 2 ^ tri (k + 1)):=by
      have:(2:Int) ^ tri (k + 1)=2 ^ tri k * 2 ^ (k + 1):=by rw [<- Int.pow_add];rfl
      rw [this];grind
    rw [e1,e2] at h5;exact Int.le_of_mul_le_mul_left h5 (Int.pow_pos p1)
def dU:Nat->Int
  | 8=>10000
  | 7=>35777
  | 6=>64000
  | 5=>57243
  | 4=>25600
  | _=>10000
theorem Awo (k:Nat):dU k<=64000:=by unfold dU;split <;> omega
theorem Atf (k:Nat):10000<=dU k:=by unfold dU;split <;> omega
theorem Asd:∀ k,k < 8->dU (k + 1) ^ k * 2 ^ tri k < (dU k + 1) ^ (k + 1):=by decide
theorem Aln {n:Nat} {A:AAb} (hn:n<=8) (hp:AN5 n A) (hs:ARv A n) (hl:ATo A n) (hd:det n A<=10000):∀ m k,k + m=n->det k A<=dU k:=by
 intro m
 induction m with
 | zero=>
     intro k hk;obtain rfl:k=n:=by omega
     exact Int.le_trans hd (Atf _)
 | succ m ih=>
   intro k hk
   have h1:=ih (k + 1) Zj
   have h2:=Aia hp hs hl k Zj
   have p0:=hp k Zj
   have p1:=hp (k + 1) Zj
   rcases Int.lt_or_le (dU k) (det k A) with h | h
   · exfalso
     have h3:(dU k + 1) ^ (k + 1)<=det k A ^ (k + 1):=AL3 (by have:=Atf k;omega) Zj _
     have h4:det (k + 1) A ^ k * 2 ^ tri k<=dU (k + 1) ^ k * 2 ^ tri k:=Int.mul_le_mul_of_nonneg_right (AL3 (Int.le_of_lt p1) h1 k) (Int.le_of_lt (AX3 _))
     have h5:=Asd k Zj
     omega
   · exact h
theorem AX5 {n:Nat} {A:AAb} (hn:n<=8) (R:Ab5 n A) {k:Nat} (hk:k<=n):0 < det k A/\det k A<=64000:=
  ⟨R.pos k hk,Int.le_trans (Aln hn R.pos R.sz R.lv R.dt (n - k) k Zj) (Awo k)⟩
theorem AX6 {n:Nat} {A:AAb} (hn:n<=8) (R:Ab5 n A) {i j:Nat} (hi:i < n) (hj:j < n): -192000<=A i j/\A i j<=192000:=
  Ago R.sym R.pos (fun k hk=>Agd (Dm:=64000) hn R.sym R.pos hk (fun k hk=>(AX5 hn R hk).2) fun l hl=>R.sz k l hl hk) hi hj
structure RB (n:Nat) (A:AAb) (k:Nat):Prop where
  pos:∀ j,k < j->j<=n->0 < det j A
  lt:∀ j,k < j->j < n->det j A < 65536
  sz:∀ l i,k<=l->l < i->i < n->SzF A i l
  lv:∀ l,k<=l->l + 1 < n->LvF A l
  dt:det n A<=10000
theorem Au7 {A F:AAb} {m k:Nat} (h0:0 < det k A) (hF:∀ i j,i < m + 1->j < m + 1->F i j=Mn k A (k + i) (k + j)) {i j:Nat} (hi:i < m) (hj:j < m):AR3 F (det k A) i j=Mn (k + 1) A (k + 1 + i) (k + 1 + j):=by
 unfold AR3;rw [hF 0 0 Zj Zj,hF (i + 1) (j + 1) Zj Zj,hF (i + 1) 0 Zj Zj,hF 0 (j + 1) Zj Zj,Nat.add_zero,AV4 Zj,Int.mul_tdiv_cancel_left _ Zj];rw [show k + (i + 1)=k + 1 + i by omega,show k + (j + 1)=k + 1 + j by omega]
theorem Agr {n:Nat} {A:AAb}:∀ (m k:Nat) (F:AAb),k + m=n->1<=m->0 < det k A->(∀ i j,i < m->j < m->F i j=Mn k A (k + i) (k + j))->(AQn m F (det k A)=true↔RB n A k):=by
 intro m
 induction m with
 | zero=>intro k F _ h;omega
 | succ m ih=>
   intro k F hk _ h0 hF
   have Ad:F 0 0=det (k + 1) A:=by rw [hF 0 0 Zj Zj];exact AK0 k A
   cases m with
   | zero=>
     obtain rfl:k + 1=n:=hk
     show decide (0 < F 0 0/\F 0 0<=10000)=true↔_
     rw [decide_eq_true_iff,Ad]
     exact ⟨fun h=>⟨fun j h1 h2=>by
       obtain rfl:j=k + 1:=by omega
       exact h.1,fun j h1 h2=>by omega,fun l i h1 h2 h3=>by omega,fun l h1 h2=>by omega,h.2⟩,fun h=>⟨h.pos (k + 1) Zj (Nat.le_refl _),h.dt⟩⟩
   | succ m=>
     have hN:∀ i j,i < m + 1->j < m + 1->AR3 F (det k A) i j=Mn (k + 1) A (k + 1 + i) (k + 1 + j):=fun i j hi hj=>Au7 h0 hF hi hj
     have hS:AQm (m + 1 + 1) F↔(0 < det (k + 1) A/\det (k + 1) A < 65536)/\ ∀ i,k < i->i < n->SzF A i k:=by
       unfold AQm
       rw [Ad]
       refine and_congr_right fun _=>⟨fun h i h1 h2=>?_,fun h i h1 h2=>?_⟩
       · have h3:=h (i - k) Zj Zj
         rw [hF (i - k) 0 Zj Zj,show k + (i - k)=i by omega] at h3
         unfold SzF
         simp only [Nat.add_zero] at h3
         omega
       · have h3:=h (k + i) Zj Zj
         unfold SzF at h3
         rw [hF i 0 h2 Zj,Nat.add_zero]
         omega
     have hL:AWg F (det k A)↔LvF A k:=by
       unfold AWg LvF
       rw [Ad,hN 0 0 Zj Zj,Nat.add_zero,AK0 (k + 1) A,hF 1 0 Zj Zj,Nat.add_zero]
       have e:3 * det (k + 1) A * det (k + 1) A=3 * (det (k + 1) A * det (k + 1) A):=by grind
       rw [e]
       exact Iff.rfl
     show (decide (AQm (m + 1 + 1) F) && (decide (AWg F (det k A)) && AQn (m + 1) (AR3 F (det k A)) (F 0 0)))=true↔_
     rw [Bool.and_eq_true,Bool.and_eq_true,decide_eq_true_iff,decide_eq_true_iff,hS,hL,Ad]
     constructor
     · rintro ⟨⟨⟨h1,h2⟩,h3⟩,h4,h5⟩
       have R:=(ih (k + 1) _ Zj Zj h1 hN).1 h5
       refine ⟨fun j a b=>?_,fun j a b=>?_,fun l i a b c=>?_,fun l a b=>?_,R.dt⟩
       · by_cases e:j=k + 1
         · subst e;exact h1
         · exact R.pos j Zj b
       · by_cases e:j=k + 1
         · subst e;exact h2
         · exact R.lt j Zj b
       · by_cases e:l=k
         · subst e;exact h3 i b c
         · exact R.sz l i Zj b c
       · by_cases e:l=k
         · subst e;exact h4
         · exact R.lv l Zj b
     · intro R
       have h1:=R.pos (k + 1) Zj Zj
       exact ⟨⟨⟨h1,R.lt (k + 1) Zj Zj⟩,fun i a b=>R.sz k i (Nat.le_refl k) a b⟩,R.lv k (Nat.le_refl k) Zj,(ih (k + 1) _ Zj Zj h1 hN).2 ⟨fun j a b=>R.pos j Zj b,fun j a b=>R.lt j Zj b,fun l i a b c=>R.sz l i Zj b c,fun l a b=>R.lv l Zj b,R.dt⟩⟩
def AX7 (M:List (List Int)):Prop:=(1<=M.length/\M.length<=8)/\(∀ z∈M,z.length=M.length)/\Ab5 M.length (ent M)
theorem AQ8 (M:List (List Int)):isRed M=true↔AX7 M:=by
 unfold isRed;rw [Bool.and_eq_true];constructor
 ·rintro ⟨h1,h2⟩;have S:=Abg h1;have R:=(Agr (A:=ent M) (n:=M.length) M.length 0 (ent M) Zj S.1.1 (by simp [det]) fun i j _ _=>by rw [AO7,Nat.zero_add,Nat.zero_add]).1 (by simpa [det] using h2);refine ⟨S.1,S.2.1,fun i j hi hj=>(S.2.2 i j hi hj).1,fun k hk=>?_,fun r l h3 h4=>R.sz l r (Nat.zero_le _) h3 h4,fun l hl=>R.lv l (Nat.zero_le _) hl,R.dt⟩;rcases Nat.eq_zero_or_pos k with h | h
  ·subst h;simp [det]
  ·exact R.pos k h hk
 ·rintro ⟨h1,h2,R⟩;refine ⟨(AHa ⟨h1,h2,fun i j hi hj=>⟨R.sym i j hi hj,?_,?_⟩⟩).symm,?_⟩
  ·have:=AX6 h1.2 R hi hj;omega
  ·have:=AX6 h1.2 R hi hj;omega
  ·have h3:=(Agr (A:=ent M) (n:=M.length) M.length 0 (ent M) Zj h1.1 (by simp [det]) fun i j _ _=>by rw [AO7,Nat.zero_add,Nat.zero_add]).2 ⟨fun j _ hj=>R.pos j hj,fun j _ hj=>by have:=AX5 h1.2 R (k:=j) Zj;omega,fun l i _ a b=>R.sz i l a b,fun l _ hl=>R.lv l hl,R.dt⟩;simpa [det] using h3
theorem Aib {fuel r c:Nat} {F:AAb} (hr:1<=r) (Ad:r<=16) (hc:1<=c) (Ae:c<=16) (hf:100 < fuel):AB7 fuel (tab r c F)=some ((r:Int),(c:Int),true):=by
 apply ok_eq;unfold AB7;rw [AAt];refine Zr (Q:=fun ex=>match ex with | .inl _=>False | .inr _=>True) (AAh (fun h=>by omega) fun h=>AAh (fun h2=>by omega) fun h2=>Zn trivial) fun ex hex=>?_
 cases ex with
 | inl e=>exact hex.elim
 | inr u=>
   dsimp only
   refine Zr (ABa (fun i (s:Int)=>s=i) r (Q:=fun ex=>match ex with | .inl _=>False | .inr _=>True) rfl Zj fun i s hi hI=>?_) fun ex hex=>?_
   · subst hI
     unfold AFp
     rw [AAt]
     refine AAh (fun h=>AAu (AA1 Zj) rfl ?_) fun h=>Zn trivial
     rw [AA2]
     refine AAh (fun h2=>by omega) fun h2=>AAh (fun h3=>by omega) fun h3=>AAu (n:=0) (AA1 Zj) rfl (AAh (fun h4=>?_) fun h4=>Zn ⟨Zj,wk Zj⟩)
     rw [AA2] at h4;omega
   · cases ex with
     | inl e=>exact hex.elim
     | inr u=>exact AAu (n:=0) (AA1 Zj) rfl (Zn (by rw [AA2]))
theorem Alo {fuel n:Nat} {F:AAb} (Ah:1<=n) (hn:n<=8) (hb:∀ i j,i < n->j < n->(F i j).natAbs<=AGw) (hf:100 < fuel):Ok (AF7 fuel (tab n n F)) fun r=>r=true↔ARv F n/\ATo F n:=by
 unfold AF7;refine Zr (ABc (AY7 Ah hn hb hf)) fun x hx=>?_;subst hx;dsimp only;refine Zr (ABa (fun i s=>s=((i:Nat):Int)/\i<=n/\ARv F i/\ATo F i) n (Q:=fun ex=>match ex with | .inl e=>e=false/\¬ (ARv F n/\ATo F n) | .inr _=>ARv F n/\ATo F n) ⟨rfl,Nat.zero_le _,fun r l h1 h2=>by omega,fun r h=>by omega⟩ Zj fun i s hi hI=>?_) fun ex hex=>?_
 ·obtain ⟨rfl,hin,hsz,hlv⟩:=hI;unfold AI8;rw [AAt];refine AAh (fun h=>?_) (fun h=>Zn ?_)
  ·have hi':i < n:=by omega
   refine Zr (ABa (fun k s=>s=((k:Nat):Int)/\k<=i/\ ∀ l,l < k->SzF F i l) i (Q:=fun ex=>match ex with | .inl e=>e=false/\¬ (ARv F n/\ATo F n) | .inr _=> ∀ l,l < i->SzF F i l) ⟨rfl,Nat.zero_le _,fun l h1=>by omega⟩ Zj fun k s hk hK=>?_) fun ex hex=>?_
   ·obtain ⟨rfl,hki,hz⟩:=hK;unfold AI7;refine AAh (fun h2=>?_) (fun h2=>Zn ?_)
    ·have hki':k < i:=by omega
     refine Zr (ABc (Ajp hn hi' Zj hb hf)) fun b Ad=>?_;subst Ad;refine AAh (fun h3=>Zn ⟨rfl,fun h4=>?_⟩) (fun h3=>Zn ⟨Zj,by rw [wk Zj];omega,Zj,fun l hl=>?_⟩)
     ·have:=h4.1 i k hki' hi';rw [<- AZ6] at this;simp [this] at h3
     ·have hgood:SzF F i k:=by rw [<- AZ6];simpa using h3
      rcases Nat.lt_or_ge l k with h6 | h6
      ·exact hz l h6
      ·obtain rfl:l=k:=by omega
       exact hgood
    ·obtain rfl:k=i:=by omega
     exact hz
   ·cases ex with
    | inl r=>exact Zn hex
    | inr e=>
      have hsz':ARv F (i + 1):=fun r l h1 h2=>by
        rcases Nat.lt_or_ge r i with h3 | h3
        · exact hsz r l h1 h3
        · obtain rfl:r=i:=by omega
          exact hex l h1
      dsimp only
      have nx:w64 ((i:Int) + 1)=((i + 1:Nat):Int):=by rw [wk Zj];omega
      refine AAh (fun h4=>?_) (fun h4=>Zn ⟨Zj,nx,Zj,hsz',fun r hr=>by omega⟩)
      obtain ⟨j,rfl⟩:∃ j,i=j + 1:=⟨i - 1,Zj⟩
      refine Zr (Agk hn hi' hb hf) fun b Ad=>?_
      refine AAh (fun h5=>Zn ⟨rfl,fun h6=>?_⟩) (fun h5=>Zn ⟨Zj,nx,Zj,hsz',fun r hr=>?_⟩)
      · rw [Ad.2 (h6.2 j hi')] at h5;cases h5
      · have hgood:LvF F j:=Ad.1 (by simpa using h5)
        rcases Nat.lt_or_ge r j with h6 | h6
        · exact hlv r Zj
        · obtain rfl:r=j:=by omega
          exact hgood
  ·obtain rfl:i=n:=by omega
   exact ⟨hsz,hlv⟩
 ·cases ex with
  | inl r=>exact Zn (Iff.intro (fun h=>by rw [hex.1] at h;cases h) fun h=>absurd h hex.2)
  | inr u=>exact Zn ⟨fun _=>hex,fun _=>rfl⟩
def Ags (M:List (List Int)):Prop:= ∀ z∈M,∀ x∈z,-9223372036854775808<=x/\x<=9223372036854775807
theorem Abp {fuel:Nat} {M:List (List Int)} (hM:Ags M) (hf:100 < fuel):AB4 fuel M=some (isRed M):=by
 have key:Ok (AB4 fuel M) fun r=>r=true↔AX7 M:=by
   unfold AB4
   refine Zr (ABc (AZi hM Zj)) fun x hx=>?_
   subst hx
   by_cases hk:okM M=true
   · rw [if_pos hk]
     dsimp only
     have Ag:=hk
     unfold okM at Ag
     rw [decide_eq_true_iff] at Ag
     obtain ⟨a1,a2,a3⟩:=Ag
     have hne:∃ z,M[0]? =some z:=⟨M[0],List.getElem?_eq_getElem Zj⟩
     obtain ⟨z,hz⟩:=hne
     have hc:ANg M=z.length:=AQ7 hz
     have Aj:=a3 z (List.mem_of_getElem? hz)
     have hT:M=tab M.length (ANg M) (ent M):=AYp fun z hz=>(a3 z hz).2.2
     refine AAh (fun _=>?_) fun h=>absurd rfl h
     by_cases hsq:ANg M=M.length/\M.length<=8
     · have Ai:M=tab M.length M.length (ent M):=by rw [hsq.1] at hT;exact hT
       have hb:∀ i j,i < M.length->j < M.length->(ent M i j).natAbs<=AGw:=fun i j hi hj=>by
         have hl:M[i].length=M.length:=by rw [(a3 _ (List.getElem_mem hi)).2.2];exact hsq.1
         rw [Amm hi Zj]
         have h1:=hM _ (List.getElem_mem hi) _ (List.getElem_mem (show j < M[i].length by omega))
         have h2:(9223372036854775808:Nat)<=AGw:=by decide
         omega
       have hR:AX7 M↔Ab5 M.length (ent M):=⟨fun h=>h.2.2,fun h=>⟨⟨a1,hsq.2⟩,fun z hz=>by rw [(a3 z hz).2.2];exact hsq.1,h⟩⟩
       rw [hR]
       generalize hF:ent M=F at *
       generalize hL:M.length=n at *
       rw [Ai]
       refine Zr (AW1 a1 hsq.2 hb hf) fun v hv=>AAh (fun h=>?_) fun h=>Zn ⟨fun h2=>(nomatch h2),fun h2=>absurd (hv.2 ⟨h2.sym,h2.pos⟩) h⟩
       have h1:=hv.1 h
       refine Zr (ABc (Ajt hsq.2 hb hf)) fun b Ad=>?_
       subst Ad
       refine AAh (fun h2=>?_) fun h2=>Zn ⟨fun h3=>(nomatch h3),fun h3=>absurd (decide_eq_true h3.dt) h2⟩
       refine Zr (Alo a1 hsq.2 hb hf) fun b Ad=>Zn ⟨fun h3=>?_,fun h3=>Ad.2 ⟨h3.sz,h3.lv⟩⟩
       exact ⟨h1.1,h1.2,(Ad.1 h3).1,(Ad.1 h3).2,of_decide_eq_true h2⟩
     · have hnr: ¬ AX7 M:=fun h=>hsq ⟨by rw [hc];exact h.2.1 z (List.mem_of_getElem? hz),h.1.2⟩
       refine Zr (Q:=fun v=>v=3) ?_ fun v hv=>AAh (fun h=>by omega) fun _=>Zn ⟨fun h=>(nomatch h),fun h=>absurd h hnr⟩
       unfold ACo
       refine Zr (Q:=fun e=>e.2=false∨(8:Int) < e.1) ?_ fun e he=>?_
       · unfold ADu
         rw [hT]
         refine Zr (ABc (Aib a1 a2 Zj Zj hf)) fun x hx=>?_
         subst hx
         dsimp only
         refine AAh (fun h=>absurd h Zl) fun _=>AAh (fun h=>Zn (.inl rfl)) fun h=>Zn (.inr ?_)
         have h2:M.length=ANg M:=by omega
         dsimp only
         by_cases h3:M.length<=8
         · exact absurd ⟨h2.symm,h3⟩ hsq
         · omega
       · obtain ⟨e1,e2⟩:=e
         dsimp only at he ⊢
         refine AAh (fun h=>Zn rfl) fun h=>AAh (fun _=>Zn rfl) fun h2=>?_
         rcases he with rfl | he
         · exact absurd rfl h
         · exact absurd he h2
   · rw [if_neg hk]
     refine AAh (fun h=>(nomatch h)) fun _=>Zn ⟨fun h=>(nomatch h),fun h=>absurd ?_ hk⟩
     obtain ⟨h1,h2,_⟩:=h
     unfold okM
     rw [decide_eq_true_iff]
     have hc:ANg M=M.length:=by rw [AQ7 (List.getElem?_eq_getElem (show 0 < M.length by omega))];exact h2 _ (List.getElem_mem _)
     exact ⟨Zj,Zj,fun z hz=>by rw [h2 z hz,hc];exact ⟨Zj,Zj,rfl⟩⟩
 obtain ⟨r,h1,h2⟩:=key;rw [h1];congr 1;rw [<- AQ8] at h2;cases r <;> cases h:isRed M <;> simp_all
end Go.Proofs.YtdkldlbgcfpglaaGreatDoor
namespace Go.Proofs.YtdkldlbgcfpglaaGreatDoor
open Go Go.QF
open Go.ChangeShapes Go.WideShapes Go.ChangeAt Go.RowKit
set_option maxRecDepth 100000
theorem Alp:Tryz.prog.cellsOf 24=4:=by kernel_rfl
theorem wf_i64 {z:Int} (h:(Lit.int .i64 z).wf=true): -9223372036854775808<=z/\z<=9223372036854775807:=by
 simp [Lit.wf,IntKind.min,IntKind.max,IntKind.bits,IntKind.signed] at h;omega
theorem Au8 {H:Type} {enc:TypeId × Value->H} {W:World} {fuel:Nat} {v:Value} {x:DataW H × List MemPlace} (hf:DataW.trod enc Tryz.prog W 0 (fun _=>true) true fuel 25 [v]=some x):∃ M,ACx (cI .i64) W.heap v M/\Ags M:=by
  rcases Deep.open_int_rows Tryz.underlying25 Tryz.underlying60 Tryz.underlying2 Akk Ach hf with ⟨hcs,_⟩ | ⟨a',len',cap',A,L,C,Z,hcs,_,hl,_,_,hrow⟩
  · simp at hcs;subst hcs;exact ⟨[],Anr _ _,fun z hz=>by cases hz⟩
  · simp at hcs;subst hcs
    have hM:Mat W.heap (.slice (some a') len' cap') ((List.range len').map fun r=>(Z r).take (L r)):=by
      refine ⟨(List.range len').map fun r=> .slice (A r) (L r) (C r),?_,AA4,fun i r z hr hz=>?_⟩
      · refine AVb AA4 (fun h=>by cases h) fun a'' ha i x hx=>?_;injection ha with ha;subst ha;have hi:i < len':=by have:=(List.getElem?_eq_some_iff.1 hx).1;simpa using this
        simp [hi] at hx;subst hx;exact (hrow i Zj).1
      · have hi:i < len':=by have:=(List.getElem?_eq_some_iff.1 hr).1;simpa using this
        simp [hi] at hr hz;subst hr;subst hz;obtain ⟨_,hLC,_,hZ,_,hnone,hcell⟩:=hrow i Zj;refine AVb (by simp;omega) (fun h=>by have:=hnone h;omega) fun a'' ha c x hx=>?_;have hc:c < L i:=by have:=(List.getElem?_eq_some_iff.1 hx).1;simp at this;omega
        have:=(hcell a'' ha).2 c Zj;rw [this];rw [List.getElem?_map,List.getElem?_take,if_pos hc,List.getElem?_eq_getElem Zj] at hx;simp only [Option.map_some,Option.some.injEq] at hx;rw [<- hx,List.getD_eq_getElem?_getD,List.getElem?_eq_getElem Zj];rfl
    refine ⟨_,Arv hM ⟨_,_,_,rfl,hl⟩,fun z hz x hx=>?_⟩;obtain ⟨r,hr,rfl⟩:=List.mem_map.1 hz;have hr':r < len':=List.mem_range.1 hr;exact wf_i64 ((hrow r Zj).2.2.2.2.1 x (List.mem_of_mem_take hx))
theorem Apf {H:Type} {enc:TypeId × Value->H} {W:World} {v:Value} {d:DataW H} {p:List MemPlace} (hv:∃ a len cap,v= .slice a len cap) (h:DataW.Trod enc Tryz.prog W 0 (fun _=>true) true 25 v d p):∃ M,ACx (cI .i64) W.heap v M/\Ags M:=by
 obtain ⟨fuel,hf⟩:=h;obtain ⟨a,len,cap,rfl⟩:=hv;exact Au8 hf
theorem Apg {H:Type} {enc:TypeId × Value->H} {W:World} {r:Reach} {b0:Nat} {v:Value} {d:DataW H} {p:List MemPlace} (hv:Value.okWide Tryz.prog W r b0 24 v) (h:DataW.Trod enc Tryz.prog W 0 (fun _=>true) true 24 v d p):
    ∃ (g k:Int) (lv bv:Value) (Z Y:List Int),v= .agg #[.int .u8 g,.int .u8 k,lv,bv]/\SlC (cI .i8) W.heap lv Z/\SlC (cI .i8) W.heap bv Y/\(0<=g/\g < 256)/\(0<=k/\k < 256)/\(∀ z∈Z,-128<=z/\z<=127)/\ ∀ z∈Y,-128<=z/\z<=127:=by
  obtain ⟨cs,rfl,hsz⟩:=okWide_struct Tryz.underlying24 hv;rw [Alp] at hsz;obtain ⟨l⟩:=cs
  match l,hsz with
  | [c0,c1,c2,c3],_=>
    obtain ⟨fuel,hf⟩:=h;obtain ⟨y0,y1,y2,y3,n,_,_,h0,h1,h2,h3⟩:=Joins.trod_struct4 Tryz.underlying24 hf;simp [Value.cells,Amz,Am0] at h0 h1 h2 h3;obtain ⟨x0,e0,_,w0⟩:=DataW.trod_int Tryz.underlying5 h0;obtain ⟨x1,e1,_,w1⟩:=DataW.trod_int Tryz.underlying5 h1;simp at e0 e1;subst e0;subst e1;have b0:=wf_u8 w0;have b1:=wf_u8 w1;obtain ⟨Z,HZ,hZ⟩:=Am1 h2;obtain ⟨Y,HY,hY⟩:=Am1 h3;exact ⟨x0,x1,c2,c3,Z,Y,rfl,Ah1 HZ,Ah1 HY,Zj,Zj,hZ,hY⟩
end Go.Proofs.YtdkldlbgcfpglaaGreatDoor
namespace Go.Proofs.YtdkldlbgcfpglaaGreatDoor
open Go Go.QF
set_option maxRecDepth 100000
theorem Aj4 {n k:Nat} {A:AAb} (hn:n<=8) (R:Ab5 n A) (hk:k<=n) {i j:Nat} (hi:i < n) (hj:j < n):(Mn k A i j).natAbs<=12288000000:=by
 have h1:=AY4 R.sym R.pos hk hi hj
 have b:∀ i,i < n->Mn k A i i<=12288000000:=fun i hi=>by
   have h2:=Ao0 R.sym R.pos hi k hk
   have h3:=AX5 hn R hk
   have h4:=AX6 hn R hi hi
   have h5:det k A * A i i<=det k A * 192000:=Int.mul_le_mul_of_nonneg_left h4.2 Zj
   omega
 have p:=fun i (hi:i < n)=>AY5 R.sym R.pos hk hi;have h2:=Int.mul_le_mul (b i hi) (b j hj) (p j hj) Zj;have:=Agb (x:=Mn k A i j) (y:=12288000000) Zj (Int.le_trans h1 h2);omega
theorem Au9 {fuel n:Nat} {A:AAb} (Ag:1<=n) (hn:n<=8) (R:Ab5 n A) (hf:100 < fuel):AHi fuel (tab n n A)=some (det n A):=by
 apply ok_eq;unfold AHi;rw [AAt];refine AB5 Zj ?_;rw [Int.toNat_natCast];refine Zr (ABa (fun i s=>s=(((i:Nat):Int),part n i A)/\i<=n) n (Q:=(· =tab n n A)) ⟨by rw [AOo n A];rfl,Nat.zero_le _⟩ Zj fun i s hi hI=>?_) fun e he=>?_
 ·obtain ⟨rfl,hin⟩:=hI;unfold ALj;dsimp only;rw [AAt];refine AAh (fun h=>AAu (AA1 Zj) rfl (AB5 Zj (AAu (APd Zj) rfl ?_))) (fun h=>Zn ?_)
  ·have hi':i < n:=by omega
   rw [Int.toNat_natCast,AB0,AE4 n (0:Int),ANd];refine AAu (AKb Zj hi') rfl (AB5 (by rw [AA2,AA2];exact ⟨rfl,Ag⟩) (Zn ⟨hi',?_,Zj⟩));rw [wk Zj,AB0,AMf Zj,ANk,AOl];refine congrArg (fun z=>(z,part n (i + 1) A)) ?_;omega
  ·obtain rfl:i=n:=by omega
   exact AOn _ _
 subst he;refine Zr (Q:=(· =1)) ⟨1,if_pos Zj,rfl⟩ fun one h1=>?_;subst h1;refine Zr (ABa (fun k s=> ∃ G,s=(false,((k:Int),tab n n G,det k A))/\k<=n/\ ∀ r c,k<=r->r < n->k<=c->c < n->G r c=Mn k A r c) n (Q:=fun ex=>match ex with | .inl e=>False | .inr (neg,last)=>neg=false/\last=det n A) ⟨A,rfl,Nat.zero_le _,fun r c _ _ _ _=>(AO7 A r c).symm⟩ Zj fun k s hk hI=>?_) fun ex hex=>?_
 ·obtain ⟨G,rfl,hkn,hG⟩:=hI;unfold ALi;dsimp only;rw [AAt];refine AAh (fun h=>?_) (fun h=>Zn ⟨rfl,?_⟩)
  ·have hk':k < n:=by omega
   have hGk:G k k=det (k + 1) A:=by rw [hG k k Zj hk' Zj hk',AK0]
   have hpos:0 < det (k + 1) A:=R.pos (k + 1) Zj;have hlast:=AX5 hn R (k:=k) Zj;refine Zr (Q:=(· =(k:Int))) (Zr (ABa (fun _ s=>s=(k:Int)) 0 (Q:=(· =(k:Int))) rfl Zj fun i s hi hI=>?_) fun e he=>Zn he) fun e he=>?_
   ·subst hI;unfold ALf;rw [AAt];refine Zr (Q:=fun ex=>match ex with | .inl _=>False | .inr _=>True) (AAh (fun h2=>AAu (AA1 hk') rfl (AAu (AAq hk') rfl (Zr (ABc (a:=AGc (G k k)) rfl) fun sg hsg=>AAh (fun h3=>?_) fun h3=>Zn trivial))) fun h2=>absurd h h2) fun ex hex=>?_
    ·exfalso;rw [hsg] at h3;have:=(AQ2 _).1 h3;omega
    ·cases ex with
     | inl u=>exact hex.elim
     | inr u=>exact Zn rfl
   ·subst he;refine AAh (fun h2=>by omega) fun _=>Zr (Q:=(· =(false,tab n n G))) (AAh (fun h2=>absurd rfl h2) fun _=>Zn rfl) fun r hr=>?_;subst hr;dsimp only;refine AAu (AA1 hk') rfl (AAu (AAq hk') rfl ?_);rw [wk Zj]
    have hq:∀ r c,k < r->r < n->k < c->c < n->bQ k G (det k A) r c=Mn (k + 1) A r c:=fun r c h1 h2 h3 h4=>by
      unfold bQ
      rw [hGk,hG r c Zj h2 Zj h4,hG r k Zj h2 Zj hk',hG k c Zj hk' Zj h4,<- AK0 k A,AV4 Zj,Int.mul_ediv_cancel_left _ Zj]
    have habs:∀ r c,k<=r->r < n->k<=c->c < n->(G r c).natAbs<=12288000000:=fun r c h1 h2 h3 h4=>by rw [hG r c h1 h2 h3 h4];exact Aj4 hn R Zj h2 h4
    refine Zr (ABa (fun i s=>s=(((k + 1 + i:Nat):Int),tab n n (bF k G (det k A) (k + 1 + i) (k + 1)))/\k + 1 + i<=n) (n - (k + 1)) (Q:=(· =tab n n (bF k G (det k A) n (k + 1)))) ⟨by rw [Nat.add_zero,Aba];simp,Zj⟩ Zj fun i s hi hI=>?_) fun a3 Ah=>?_
    ·obtain ⟨rfl,hin⟩:=hI;unfold ALh;dsimp only;rw [AAt];obtain ⟨q,hqe⟩:∃ q,k + 1 + i=q:=⟨_,rfl⟩;rw [hqe] at hin ⊢;refine AAh (fun h3=>?_) (fun h3=>Zn ?_)
     ·have hqn:q < n:=by omega
      rw [wk Zj];refine Zr (ABa (fun j s=>s=(((k + 1 + j:Nat):Int),tab n n (bF k G (det k A) q (k + 1 + j)))/\k + 1 + j<=n) (n - (k + 1)) (Q:=(· =tab n n (bF k G (det k A) q n))) ⟨AA4,Zj⟩ Zj fun j s hj hJ=>?_) fun a4 Ai=>Zn ?_
      ·obtain ⟨rfl,hjn⟩:=hJ;unfold ALg;dsimp only;rw [AAt];obtain ⟨c,hc⟩:∃ c,k + 1 + j=c:=⟨_,rfl⟩;rw [hc] at hjn ⊢;refine AAh (fun h4=>?_) (fun h4=>Zn ?_)
       ·have hcn:c < n:=by omega
        have a1:=habs k k Zj hk' Zj hk';have a2:=habs q c Zj hqn Zj hcn;have a3:=habs q k Zj hqn Zj hk';have a4:=habs k c Zj hk' Zj hcn;have m1:=Nat.mul_le_mul a1 a2;have m2:=Nat.mul_le_mul a3 a4;have hB:12288000000 * 12288000000 < AC3:=by decide
        refine AAu (AA1 hqn) rfl (AAu (AAq hcn) rfl ?_);rw [Aol];refine Zr (ABc (a:=G k k * G q c) (if_pos Zj)) fun x1 Am=>AAu (AAq hk') rfl (AAu (AA1 hk') rfl (AAu (AAq hcn) rfl ?_));subst Am;rw [Aok,Abb];refine Zr (ABc (a:=G q k * G k c) (if_pos Zj)) fun x2 Ao=>?_;subst Ao;refine Zr (ABc (a:=G k k * G q c - G q k * G k c) (if_pos ⟨by rw [Int.natAbs_mul];omega,by rw [Int.natAbs_mul];omega⟩)) fun x3 Ap=>?_;subst Ap
        have hnum:G k k * G q c - G q k * G k c=det k A * Mn (k + 1) A q c:=by
          rw [hGk,hG q c Zj hqn Zj hcn,hG q k Zj hqn Zj hk',hG k c Zj hk' Zj hcn,<- AK0 k A,AV4 Zj]
        have m3:(det k A * Mn (k + 1) A q c).natAbs<=64000 * 12288000000:=by
          rw [Int.natAbs_mul]
          exact Nat.mul_le_mul Zj (Aj4 hn R Zj hqn hcn)
        refine Zr (Q:=fun x=>x.1=bQ k G (det k A) q c) ⟨_,if_pos ⟨by rw [hnum];omega,Zj,Zj⟩,rfl⟩ fun x4 Aq=>Zn ⟨Zj,?_,Zj⟩;rw [Aq,wk Zj,AWz,Ahx k G (det k A) Zj Zj];congr 1
        ·omega
        ·rw [<- Nat.add_assoc,hc]
       ·obtain rfl:c=n:=by omega
        rfl
      ·subst Ai;refine ⟨Zj,?_,Zj⟩;rw [wk Zj];congr 1
       ·omega
       ·refine ANh fun r c hr hc=>?_;rw [Ahw k n G (det k A) q hc,<- Nat.add_assoc,hqe]
     ·obtain rfl:q=n:=by omega
      rfl
    ·subst Ah;refine Zn ⟨hk',bF k G (det k A) n (k + 1),?_,Zj,fun r c h1 h2 h3 h4=>?_⟩
     ·rw [hGk];rfl
     ·have:bF k G (det k A) n (k + 1) r c=bQ k G (det k A) r c:=by unfold bF;rw [if_pos Zj]
      rw [this];exact hq r c Zj h2 Zj h4
  ·obtain rfl:k=n:=by omega
   rfl
 ·match ex,hex with
  | .inl e,hex=>exact hex.elim
  | .inr (neg,last),hex=>
    obtain ⟨rfl,rfl⟩:=hex
    dsimp only
    exact AAh (fun h=>nomatch h) fun _=>Zn rfl
theorem Agt {fuel n:Nat} {F:AAb} (hn:1<=n) (Ab:n<=16) (hf:100 < fuel):AHh fuel (tab n n F)=some ((n:Int),(n:Int),true)/\AGk fuel (tab n n F)=some ((n:Int),(n:Int),true):=by
 constructor <;>
 ·apply ok_eq;first | unfold AHh | unfold AGk
  rw [AAt];refine Zr (Q:=fun ex=>match ex with | .inl _=>False | .inr _=>True) (AAh (fun h=>by omega) fun h=>AAh (fun h2=>by omega) fun h2=>Zn trivial) fun ex hex=>?_
  cases ex with
  | inl e=>exact hex.elim
  | inr u=>
    dsimp only
    refine AAu (n:=0) (AA1 Zj) rfl ?_
    rw [AA2]
    refine Zr (Q:=fun ex=>match ex with | .inl _=>False | .inr _=>True) (AAh (fun h=>by omega) fun h=>AAh (fun h2=>by omega) fun h2=>Zn trivial) fun ex hex=>?_
    cases ex with
    | inl e=>exact hex.elim
    | inr u=>
      dsimp only
      refine Zr (ABa (fun i (s:Int)=>s=i) n (Q:=fun ex=>match ex with | .inl _=>False | .inr _=>True) rfl Zj fun i s hi hI=>?_) fun ex hex=>?_
      · subst hI
        first | unfold ALe | unfold AJz
        rw [AAt]
        refine AAh (fun h=>AAu (AA1 Zj) rfl ?_) fun h=>Zn trivial
        rw [AA2,AA2]
        exact AAh (fun h2=>absurd rfl h2) fun _=>Zn ⟨Zj,wk Zj⟩
      · cases ex with
        | inl e=>exact hex.elim
        | inr u=>exact Zn rfl
theorem Ase {fuel n:Nat} {F:AAb} (hn:1<=n) (Ac:n<=16) (hb:∀ i j,i < n->j < n->(F i j).natAbs<=9223372036854775807) (hf:100 < fuel):AJ9 fuel (tab n n F)=some (tab n n F,true):=by
 apply ok_eq;unfold AJ9;refine Zr (ABc (Agt hn Ac hf).1) fun x hx=>?_;subst hx;dsimp only;refine AAh (fun h=>nomatch h) fun _=>Zr (Q:=(· =tab n n F)) (AB5 Zj ?_) fun e he=>Zn (by rw [he]);rw [Int.toNat_natCast];refine Zr (ABa (fun i s=>s=(((i:Nat):Int),part n i F)/\i<=n) n (Q:=(· =tab n n F)) ⟨by rw [AOo n F];rfl,Nat.zero_le _⟩ Zj fun i s hi hI=>?_) fun e he=>Zn he;obtain ⟨rfl,hin⟩:=hI;unfold AM8;dsimp only;rw [List.length_replicate,Int.toNat_natCast];refine AAh (fun h=>AB5 Zj (AAu (APd Zj) rfl ?_)) (fun h=>Zn ?_)
 ·have hi':i < n:=by omega
  rw [AB0,AE4 n (0:Int),ANd];refine AAu (AKb Zj hi') rfl ?_;rw [ABt];refine Zr (ABa (fun j s=>s=(((j:Nat):Int),part n (i + 1) (ABy F i fun c=>if c < j then F i c else 0))/\j<=n) n (Q:=(· =part n (i + 1) F)) ⟨?_,Nat.zero_le _⟩ Zj fun j s hj hJ=>?_) fun e he=>Zn ⟨hi',?_,Zj⟩
  ·refine congrArg (fun z=>((0:Int),z)) ?_;unfold part;refine ABo fun r hr=>?_;split
   ·exact ABo fun c hc=>by rw [ABd,ABd];split <;> simp
   ·rfl
  ·obtain ⟨rfl,hjn⟩:=hJ;unfold AM7;dsimp only;rw [AA2];refine AAh (fun h=>?_) (fun h=>Zn ?_)
   ·have hj':j < n:=by omega
    refine AAu (AKb Zj hi') rfl ?_;rw [ABt];have:=hb i j hi' hj';refine Zr (Q:=(· =F i j)) (AAu (AA1 hi') rfl (AAu (AAq hj') rfl (Zr (Q:=(· =F i j)) ⟨_,if_pos Zj,rfl⟩ fun x hx=>Zn hx))) fun x hx=>?_;subst hx;refine AAu (AAq hj') rfl (Zn ⟨Zj,?_,Zj⟩);rw [wk Zj,AB0,AB0,AD7,AMf Zj,ANk];refine congrArg (fun z=>(((j + 1:Nat):Int),z)) ?_;congr 1;unfold ABy;funext r;split
    ·funext c;by_cases h1:c=j
     ·subst h1;rw [if_pos rfl,if_pos Zj]
     ·rw [if_neg h1];by_cases h2:c < j
      ·rw [if_pos h2,if_pos Zj]
      ·rw [if_neg h2,if_neg Zj]
    ·rfl
   ·obtain rfl:j=n:=by omega
    unfold part;refine ABo fun r hr=>?_;split
    ·refine ABo fun c hc=>?_;rw [ABd];split
     ·next h=>subst h;first | rfl | rw [if_pos hc]
     ·rfl
    ·rfl
  ·rw [he,wk Zj];rfl
 ·obtain rfl:i=n:=by omega
  exact AOn _ _
def Ab6 (d p e:Int):Prop:= ∃ (k:Nat) (r:Int),e=k/\d=r * p ^ k/\¬ p ∣ r
theorem Aem {d p a b:Int} (hp:2<=p) (ha:Ab6 d p a) (hb:Ab6 d p b):a=b:=by
 have key:∀ (k l:Nat) (r s:Int),k < l->r * p ^ k=s * p ^ l->p ∣ r:=fun k l r s hkl h=>by
   obtain ⟨m,rfl⟩:∃ m,l=k + 1 + m:=⟨l - k - 1,Zj⟩
   rw [Int.pow_add,Int.pow_add,Int.pow_one] at h
   have h1:p ^ k * r=p ^ k * (p * (s * p ^ m)):=by grind
   exact ⟨_,Int.eq_of_mul_eq_mul_left (Int.pow_ne_zero Zj) h1⟩
 obtain ⟨k,r,rfl,h1,h2⟩:=ha;obtain ⟨l,s,rfl,h3,h4⟩:=hb;rcases Nat.lt_trichotomy k l with h | h | h
 ·exact absurd (key k l r s h (by rw [<- h1,<- h3])) h2
 ·rw [h]
 ·exact absurd (key l k s r h (by rw [<- h1,<- h3])) h4
theorem AV9 {p r d:Int} {k:Nat} (hp:2<=p) (hr:0 < r) (hd:d<=10000) (h:d=r * p ^ k):k<=13:=by
 rcases Nat.lt_or_ge 13 k with h1 | h1
 ·exfalso;have h2:(2:Int) ^ 14<=2 ^ k:=AX4 h1;have h3:(2:Int) ^ k<=p ^ k:=AL3 Zj hp k;have h4:1 * p ^ k<=r * p ^ k:=Int.mul_le_mul_of_nonneg_right Zj Zj;have h5:(2:Int) ^ 14=16384:=by decide
  omega
 ·exact h1
theorem Ava {fuel:Nat} {d p:Int} (Ac:1<=d) (hd:d<=10000) (hp:2<=p) (Ad:p<=9973) (hf:100 < fuel):Ok (AFt fuel d p) (Ab6 d p):=by
 unfold AFt;refine Zr (ABa (fun i s=> ∃ r:Int,s=(r,(i:Int))/\0 < r/\d=r * p ^ i) 14 (Q:=Ab6 d p) ⟨d,rfl,Zj,AA4⟩ Zj fun i s hi hI=>?_) fun e he=>Zn he;obtain ⟨r,rfl,hr,hdr⟩:=hI;have Ae:=AV9 hp hr hd hdr
 have hrd:r<=d:=by
   have h1:r * 1<=r * p ^ i:=Int.mul_le_mul_of_nonneg_left (Int.pow_pos Zj) Zj
   omega
 unfold AIl;dsimp only;refine Zr (Q:=fun ex=>match ex with | .inl _=>p ∣ r | .inr _=> ¬ p ∣ r) (AAh (fun h=>AB5 Zj (AAh (fun h2=>Zn ?_) fun h2=>Zn ?_)) fun h=>by omega) fun ex hex=>?_
 ·exact Int.dvd_of_tmod_eq_zero h2
 ·exact fun h3=>h2 (Int.tmod_eq_zero_of_dvd h3)
 ·cases ex with
  | inl u=>
    obtain ⟨q,rfl⟩:p ∣ r:=hex
    have hq:0 < q:=Int.pos_of_mul_pos_right hr Zj
    have hqr:1 * q<=p * q:=Int.mul_le_mul_of_nonneg_right Zj Zj
    refine AB5 Zj (Zn ⟨Zj,q,?_,hq,by rw [hdr,Int.pow_succ];grind⟩)
    rw [Int.mul_tdiv_cancel_left _ Zj,ACk (x:=q) Zj Zj,wk Zj]
    rfl
  | inr u=>exact Zn ⟨i,r,rfl,hdr,hex⟩
def pwL (p:Int) (m:Nat):List Int:=AB6 m fun i=>p ^ (2 ^ i)
theorem Aph {fuel:Nat} {a b:Int} (ha:a.natAbs < 18446744073709551616) (hb:b.natAbs < 18446744073709551616) (h0:b≠0):AVj fuel a b=some (a / b,a % b,true):=if_pos ⟨ha,hb,h0⟩
theorem Avb {fuel:Nat} {d p:Int} (Am:1<=d) (hd:d<=10000) (hp:Pr p) (Ag:p<=9973) (hf:100 < fuel):Ok (AKa fuel d p) fun r=>Ab6 d p r.1:=by
 have Ae:2<=p:=hp.1;have pw:∀ k:Nat,0 < p ^ k:=fun k=>Int.pow_pos Zj;unfold AKa;refine Zr (ABc (a:=AK2 p) rfl) fun b hb=>?_;rw [<- AXg Zj hp] at hb;subst hb;refine AAh (fun h=>nomatch h) fun _=>Zr (ABc (a:=AGc d) rfl) fun s hs=>?_;subst hs;refine AAh (fun h=>absurd ((AQ2 d).1 h) Zj) fun _=>Zr (ABc (a:=d) rfl) fun x hx=>Zr (Q:=(· =p)) ⟨p,if_pos Zj,rfl⟩ fun y hy=>?_;subst hx;subst hy;refine Zr (ABa (fun j s=> ∃ r:Int,s=(pwL y (j + 1),r,((2 ^ j - 1:Nat):Int))/\0 < r/\x=r * y ^ (2 ^ j - 1)) 5 (Q:=fun e=> ∃ (j:Nat) (r:Int),e=(pwL y (j + 1),r,((2 ^ j - 1:Nat):Int))/\0 < r/\x=r * y ^ (2 ^ j - 1)/\¬ y ^ (2 ^ j) ∣ r/\j<=4) ⟨x,?_,Zj,AA4⟩ Zj fun j s hj hI=>?_) fun e he=>?_
 ·refine congrArg (fun l=>(l,x,(0:Int))) ?_;show [y]=[y ^ 1];rw [Int.pow_one]
 ·obtain ⟨r,rfl,hr,hxr⟩:=hI;have Ao:=AV9 Ae hr hd hxr
  have Af:j<=3:=by
    rcases Nat.lt_or_ge 3 j with h | h
    · exfalso
      have:=Nat.pow_le_pow_right (show 0 < 2 by omega) h
      omega
    · exact h
  have hrx:r<=x:=by
    have h1:r * 1<=r * y ^ (2 ^ j - 1):=Int.mul_le_mul_of_nonneg_left (pw _) Zj
    omega
  have hjp:1<=2 ^ j:=Nat.one_le_two_pow
  have Ap:2 ^ j<=8:=by
    have:=Nat.pow_le_pow_right (show 0 < 2 by omega) Af
    omega
  have hyb:y ^ (2 ^ j)<=10000 * 9973:=by
    have e1:y ^ (2 ^ j)=y ^ (2 ^ j - 1) * y:=by rw [<- Int.pow_succ];congr 1;omega
    have h2:1 * y ^ (2 ^ j - 1)<=r * y ^ (2 ^ j - 1):=Int.mul_le_mul_of_nonneg_right Zj (Int.le_of_lt (pw _))
    rw [e1]
    exact Int.mul_le_mul Zj Ag Zj Zj
  have Ad:=pw (2 ^ j);unfold ANa;dsimp only;have hl:(pwL y (j + 1)).length=j + 1:=AA2 _ _;rw [hl,ACk (x:=((j + 1:Nat):Int) - 1) Zj Zj];refine AAu (n:=j) (AAq Zj) Zj (AB5 Zj ?_);rw [show (((j + 1:Nat):Int) - 1).toNat=j by omega,show (1:Int) * 2 ^ j=((2 ^ j:Nat):Int) by simp,ACk (x:=((2 ^ j:Nat):Int)) Zj Zj];refine Zr (Q:=fun e:Bool × Int × Int=>if y ^ (2 ^ j) ∣ r then e=(true,r / y ^ (2 ^ j),((2 ^ (j + 1) - 1:Nat):Int)) else e=(false,r,((2 ^ j - 1:Nat):Int))) (Zr (ABc (Aph (fuel:=fuel) (a:=r) (b:=y ^ (2 ^ j)) Zj Zj Zj)) fun q hq=>Zr (ABc (a:=AGc q.2.1) rfl) fun s hs=>?_) fun e he=>?_
  ·subst hq;subst hs;dsimp only;refine AAh (fun h=>Zn ?_) fun h=>Zn ?_
   ·have hnd: ¬ y ^ (2 ^ j) ∣ r:=fun h2=>h ((AQ2 _).2 (Int.emod_eq_zero_of_dvd h2));rw [if_neg hnd]
   ·have hdv:y ^ (2 ^ j) ∣ r:=Int.dvd_of_emod_eq_zero ((AQ2 _).1 (Classical.not_not.1 h));rw [if_pos hdv,wk Zj,Nat.pow_succ];refine congrArg (fun z=>(true,r / y ^ (2 ^ j),z)) ?_;omega
  ·by_cases hdv:y ^ (2 ^ j) ∣ r
   ·rw [if_pos hdv] at he;subst he;dsimp only;refine AAh (fun _=>?_) fun h=>absurd rfl h;obtain ⟨q,rfl⟩:=hdv;have Ah:0 < q:=Int.pos_of_mul_pos_right hr Ad;have hqm:y ^ (2 ^ j) * 1<=y ^ (2 ^ j) * q:=Int.mul_le_mul_of_nonneg_left Zj Zj;have hB:10000 * 10000 < AC3:=by decide
    have m1:(y ^ (2 ^ j)).natAbs * (y ^ (2 ^ j)).natAbs<=10000 * 10000:=Nat.mul_le_mul Zj Zj;refine Zr (ABc (a:=y ^ (2 ^ j) * y ^ (2 ^ j)) (if_pos Zj)) fun z hz=>AB5 Zj (Zn ⟨Zj,q,?_,Ah,?_⟩)
    ·subst hz;rw [Int.mul_ediv_cancel_left _ Zj];refine congrArg (fun l=>(l,q,((2 ^ (j + 1) - 1:Nat):Int))) ?_;have e1:y ^ (2 ^ j) * y ^ (2 ^ j)=y ^ (2 ^ (j + 1)):=by rw [<- Int.pow_add,Nat.pow_succ];congr 1;omega
     rw [e1];exact AOk (j + 1) fun i=>y ^ (2 ^ i)
    ·rw [hxr];have e1:y ^ (2 ^ (j + 1) - 1)=y ^ (2 ^ j) * y ^ (2 ^ j - 1):=by rw [<- Int.pow_add,Nat.pow_succ];congr 1;omega
     rw [e1];grind
   ·rw [if_neg hdv] at he;subst he;exact AAh (fun h=>nomatch h) fun _=>Zn ⟨j,r,rfl,hr,hxr,hdv,Zj⟩
 ·obtain ⟨j,r,rfl,hr,hxr,hnd,Af⟩:=he;dsimp only
  have hY:∀ q,q < j->y ^ (2 ^ q)<=10000:=fun q hq=>by
    have h0:=Nat.pow_le_pow_right (show 0 < 2 by omega) (show q + 1<=j by omega)
    have h1:=Nat.one_le_two_pow (n:=q)
    rw [Nat.pow_succ] at h0
    have e1:y ^ (2 ^ j - 1)=y ^ (2 ^ q) * y ^ (2 ^ j - 1 - 2 ^ q):=by rw [<- Int.pow_add];congr 1;omega
    have h2:y ^ (2 ^ q) * 1<=y ^ (2 ^ q) * y ^ (2 ^ j - 1 - 2 ^ q):=Int.mul_le_mul_of_nonneg_left (pw _) (Int.le_of_lt (pw _))
    have h3:1 * y ^ (2 ^ j - 1)<=r * y ^ (2 ^ j - 1):=Int.mul_le_mul_of_nonneg_right Zj (Int.le_of_lt (pw _))
    omega
  have hl:(pwL y (j + 1)).length=j + 1:=AA2 _ _;rw [hl,ACk (x:=((j + 1:Nat):Int) - 2) Zj Zj];refine Zr (ABa (fun i s=> ∃ (r:Int) (k:Nat),s=((j:Int) - 1 - i,r,(k:Int))/\i<=j/\0 < r/\x=r * y ^ k/\¬ y ^ (2 ^ (j - i)) ∣ r) j (Q:=fun e=> ∃ (r:Int) (k:Nat),e=(r,(k:Int))/\x=r * y ^ k/\¬ y ∣ r) ⟨r,2 ^ j - 1,by refine congrArg (fun z=>(z,r,((2 ^ j - 1:Nat):Int))) ?_;omega,Zj,hr,hxr,by rw [Nat.sub_zero];exact hnd⟩ Zj fun i s hi hI=>?_) fun e he=>?_
  ·obtain ⟨r,k,rfl,hij,hr,hxr,hnd⟩:=hI;have Au:=AV9 Ae hr hd hxr
   have hrx:r<=x:=by
     have h1:r * 1<=r * y ^ k:=Int.mul_le_mul_of_nonneg_left (pw _) Zj
     omega
   unfold AM9;dsimp only;refine AAh (fun h=>?_) (fun h=>Zn ⟨r,k,rfl,hxr,?_⟩)
   ·obtain ⟨q,hq⟩:∃ q:Nat,(j:Int) - 1 - i=q:=⟨j - 1 - i,Zj⟩;rw [hq];have hqj:q < j + 1:=by omega
    have Aj:q<=3:=by omega
    have Av:1<=2 ^ q:=Nat.one_le_two_pow;have Aw:2 ^ q<=8:=by have:=Nat.pow_le_pow_right (show 0 < 2 by omega) Aj;omega
    have hyb:=hY q Zj;have Ad:=pw (2 ^ q);have hsmall:y ^ (2 ^ q) ∣ r->y ^ (2 ^ q)<=r:=fun h=>Int.le_of_dvd hr h;refine AAu (n:=q) (AAq hqj) rfl (AB5 Zj ?_);rw [Int.toNat_natCast,show (1:Int) * 2 ^ q=((2 ^ q:Nat):Int) by simp,ACk (x:=((2 ^ q:Nat):Int)) Zj Zj];refine Zr (Q:=fun e:Bool × Int × Int=>if y ^ (2 ^ q) ∣ r then e=(true,r / y ^ (2 ^ q),((k + 2 ^ q:Nat):Int)) else e=(false,r,(k:Int))) (Zr (ABc (Aph (fuel:=fuel) (a:=r) (b:=y ^ (2 ^ q)) Zj Zj Zj)) fun t ht=>Zr (ABc (a:=AGc t.2.1) rfl) fun s hs=>?_) fun e he=>?_
    ·subst ht;subst hs;dsimp only;refine AAh (fun h=>Zn ?_) fun h=>Zn ?_
     ·have hnd: ¬ y ^ (2 ^ q) ∣ r:=fun h2=>h ((AQ2 _).2 (Int.emod_eq_zero_of_dvd h2));rw [if_neg hnd]
     ·have hdv:y ^ (2 ^ q) ∣ r:=Int.dvd_of_emod_eq_zero ((AQ2 _).1 (Classical.not_not.1 h));rw [if_pos hdv,wk Zj];refine congrArg (fun z=>(true,r / y ^ (2 ^ q),z)) ?_;omega
    ·rw [ACk (x:=(q:Int) - 1) Zj Zj];by_cases hdv:y ^ (2 ^ q) ∣ r
     ·rw [if_pos hdv] at he;subst he;obtain ⟨w,rfl⟩:=hdv;have Ak:0 < w:=Int.pos_of_mul_pos_right hr Ad;refine Zn ⟨Zj,w,k + 2 ^ q,?_,Zj,Ak,?_,?_⟩
      ·rw [Int.mul_ediv_cancel_left _ Zj];refine congrArg (fun z=>(z,w,((k + 2 ^ q:Nat):Int))) ?_;omega
      ·rw [hxr,Int.pow_add];grind
      ·rw [show j - (i + 1)=q by omega];rintro ⟨u,rfl⟩;refine hnd ⟨u,?_⟩;rw [show j - i=q + 1 by omega,Nat.pow_succ,Nat.mul_two,Int.pow_add];grind
     ·rw [if_neg hdv] at he;subst he;refine Zn ⟨Zj,r,k,?_,Zj,hr,hxr,by rw [show j - (i + 1)=q by omega];exact hdv⟩;refine congrArg (fun z=>(z,r,(k:Int))) ?_;omega
   ·have:j - i=0:=by omega
    rw [this,Nat.pow_zero,Int.pow_one] at hnd;exact hnd
  ·obtain ⟨r,k,rfl,h1,h2⟩:=he;exact Zn ⟨k,r,rfl,h1,h2⟩
theorem AVq {M:List (List Int)} (R:AX7 M):M=tab M.length M.length (ent M):=AYp R.2.1
theorem Api {n:Nat} {A:AAb} (hn:n<=8) (R:Ab5 n A):Ags (tab n n A):=Agq (B:=192000) Zl fun i j hi hj=>by have:=AX6 hn R hi hj;omega
theorem Abq {M:List (List Int)} (R:AX7 M):1<=det M.length (ent M)/\det M.length (ent M)<=10000:=⟨by have:=R.2.2.pos _ (Nat.le_refl _);omega,R.2.2.dt⟩
theorem Aj5 {M:List (List Int)} (R:AX7 M) {i j:Nat} (hi:i < M.length) (hj:j < M.length):(ent M i j).natAbs<=192000:=by have:=AX6 R.1.2 R.2.2 hi hj;omega
theorem Alq {fuel:Nat} {M:List (List Int)} (R:AX7 M) (hf:100 < fuel):AH9 fuel M=some (det M.length (ent M)):=by
 apply ok_eq;obtain ⟨v1,v2⟩:=Abq R;have hT:=AVq R;have h1:=R.1;unfold AH9;generalize hF:ent M=F at *;generalize hL:M.length=n at *;have hb:∀ i j,i < n->j < n->(F i j).natAbs<=192000:=fun i j hi hj=>by subst hF;subst hL;exact Aj5 R hi hj
 rw [hT];refine Zr (ABc (Ah9 h1.1 Zj (fun i j hi hj=>Nat.le_trans (hb i j hi hj) Zl) Zj)) fun x hx=>?_;subst hx;refine Zr (ABc (AXy h1.2 (fun i j hi hj=>Nat.le_trans (hb i j hi hj) Zl) Zj)) fun y hy=>?_;subst hy;refine Zr (ABc (a:=(det n F,true)) (if_pos Zj)) fun z hz=>Zn ?_;rw [hz]
theorem Avc {d p v:Int} (Ab:1<=d) (hd:d<=10000) (hp:2<=p) (h:Ab6 d p v):0<=v/\v<=13:=by
 obtain ⟨k,r,rfl,h1,h2⟩:=h
 have hr:0 < r:=by
   have hpk:0 < p ^ k:=Int.pow_pos Zj
   rcases Int.lt_or_le 0 r with h | h
   · exact h
   · have:=Int.mul_nonpos_of_nonpos_of_nonneg h (Int.le_of_lt hpk);omega
 have:=AV9 hp hr hd h1;omega
theorem AY9 {fuel:Nat} {M:List (List Int)} {p:Int} (R:AX7 M) (hp:Pr p) (hp2:p<=9973) (hf:100 < fuel):∃ v,Ab6 (det M.length (ent M)) p v/\(0<=v/\v<=13)/\AC5 fuel M p=some (if p=2 then v + 3 else v + 1)/\AEy fuel M p=some (if p=2 then v + 3 else v + 1):=by
  obtain ⟨v1,v2⟩:=Abq R;obtain ⟨⟨v,r0,e0⟩,hv1,hv⟩:=Avb v1 v2 hp hp2 hf;dsimp only at hv;have hvb:=Avc v1 v2 hp.1 hv
  refine ⟨v,hv,hvb,?_,?_⟩
  · apply ok_eq;have hT:=AVq R;have h1:=R.1;have RF:=R.2.2;unfold AC5;generalize hF:ent M=F at *
    generalize hL:M.length=n at *
    have hb:∀ i j,i < n->j < n->(F i j).natAbs<=192000:=fun i j hi hj=>by subst hF;subst hL;exact Aj5 R hi hj
    rw [hT];refine Zr (ABc (Ase h1.1 Zj (fun i j hi hj=>Nat.le_trans (hb i j hi hj) Zl) hf)) fun x hx=>?_;subst hx;dsimp only
    refine Zr (Q:=(· =(det n F,true))) ?_ fun y hy=>?_
    · unfold AQ0;refine Zr (ABc (Agt h1.1 Zj hf).2) fun x hx=>?_;subst hx;dsimp only;exact AAh (fun h=>nomatch h) fun _=>AAh (fun h=>absurd rfl h) fun _=>Zr (ABc (Au9 h1.1 h1.2 RF hf)) fun z hz=>Zn (by rw [hz])
    · subst hy;dsimp only;refine Zr (ABc hv1) fun z hz=>?_;subst hz;dsimp only
      refine AAh (fun h=>Zn ?_) fun h=>Zn ?_
      · rw [if_pos h,wk Zj]
      · rw [if_neg h,wk Zj]
  · apply ok_eq;unfold AEy;refine Zr (ABc (Alq R hf)) fun d hd=>?_;subst hd;refine Zr (Ava v1 v2 hp.1 hp2 hf) fun w hw=>?_;obtain rfl:=Aem hp.1 hv hw
    refine AAh (fun h=>Zn ?_) fun h=>Zn ?_
    · rw [if_pos h,wk Zj]
    · rw [if_neg h,wk Zj]
theorem Alr {fuel:Nat} {M:List (List Int)} (hf:100 < fuel):Ok (AG6 fuel M) fun r=>r=false->M.length<=12/\ ∀ z∈M,z.length<=12:=by
 unfold AG6;refine AAh (fun _=>Zn fun h=>nomatch h) fun h=>Zr (ABa (fun i s=>s=((i:Nat):Int)/\i<=M.length/\ ∀ j z,j < i->M[j]? =some z->z.length<=12) M.length (Q:=fun ex=>match ex with | .inl e=>e=true | .inr _=>M.length<=12/\ ∀ z∈M,z.length<=12) ⟨rfl,Nat.zero_le _,fun j z hj=>by omega⟩ Zj fun i s hi hI=>?_) fun ex hex=>?_
 ·obtain ⟨rfl,him,hz⟩:=hI;unfold AKr;refine AAh (fun h2=>?_) fun h2=>Zn ⟨Zj,fun z hzm=>?_⟩
  ·have hi':i < M.length:=by omega
   refine AAu (List.getElem?_eq_getElem hi') rfl (AAh (fun _=>Zn rfl) fun h3=>Zn ⟨hi',by rw [wk Zj];rfl,Zj,fun j z hj hjz=>?_⟩);rcases Nat.lt_or_ge j i with h4 | h4
   ·exact hz j z h4 hjz
   ·obtain rfl:j=i:=by omega
    rw [List.getElem?_eq_getElem hi'] at hjz;cases hjz;omega
  ·obtain ⟨j,hj⟩:=List.getElem?_of_mem hzm;have:=(List.getElem?_eq_some_iff.1 hj).1;exact hz j z Zj hj
 ·cases ex with
  | inl e=>exact Zn fun h=>by rw [hex] at h;cases h
  | inr u=>exact Zn fun _=>hex
theorem Aip (a:Int) (m:Nat) (ha:0<=a) (hm:0 < m):∃ q:Nat,Int.tmod a (m:Int)=q/\q < m:=by
 rw [Int.tmod_eq_emod_of_nonneg ha];have h1:=Int.emod_nonneg a (show (m:Int)≠0 by omega);have h2:=Int.emod_lt_of_pos a (show (0:Int) < m by omega);exact ⟨(a % m).toNat,Zj,Zj⟩
theorem Als {fuel:Nat} {k raw:Int} {wild:Bool} (hk:0<=k/\k < 256):Ok (AD4 fuel k raw wild) fun _=>True:=by
 unfold AD4;refine AAh (fun _=>Zn trivial) fun _=>Zr (Q:=fun _=>True) ?_ fun _ _=>Zn trivial;unfold AJh;refine AB5 Zl ?_;obtain ⟨q,h1,h2⟩:=Aip (w64 k) 20 (by rw [wk Zj];exact hk.1) Zl;exact AAu (n:=q) (List.getElem?_eq_getElem (by exact h2)) h1 (Zn trivial)
end Go.Proofs.YtdkldlbgcfpglaaGreatDoor
namespace Go.Proofs.YtdkldlbgcfpglaaGreatDoor
open Go Go.QF
set_option maxRecDepth 100000
set_option maxHeartbeats 4000000
def AL4 (fuel:Nat) (a3:LiI) (Ab:Int):Option ((Int) ⊕ ((Bool) ⊕ (Unit))):=
  (if Ab < (a3.length:Int) then ((gI a3 Ab).bind fun Ac=>((gI a3 0).bind fun Ad=>(if ¬ (Ac.length:Int)=(Ad.length:Int) then (some (Sum.inr<| Sum.inl <| false)) else (some (Sum.inl (w64 (Ab + 1))))))) else (some (Sum.inr<| Sum.inr <| ())))
def AFx (fuel:Nat) (a3:LiI):Option Bool:=
  (((if (a3.length:Int) < 1 then (some (Sum.inl <| false)) else (if 16 < (a3.length:Int) then (some (Sum.inl <| false)) else ((gI a3 0).bind fun Ab=>(if (Ab.length:Int) < 1 then (some (Sum.inl <| false)) else (if 16 < (Ab.length:Int) then (some (Sum.inl <| false)) else (some (Sum.inr <| ()))))))):Option ((Bool) ⊕ (Unit))).bind (fun ex=>match ex with | Sum.inl Ac=>(some Ac) | Sum.inr (_)=>((iter (fun s=>AL4 fuel a3 s) fuel 0).bind (fun ex=>match ex with | Sum.inl Ad=>(some Ad) | Sum.inr (_)=>(some true)))))
theorem AL5 {fuel:Nat} {h:Zv} {Ao:Value} {a3:LiI} {r:Bool} (H2:ACx (cI .i64) h Ao a3) (hp:AFx fuel a3=some r):AAw Tryz.prog 85 #[Ao] h (fun x h'=>Ext h h'/\x= .bool r):=by
 unfold AFx at hp;refine cwf (l:=[_]) Tryz.func85 rfl rfl (Zo (Zu ?_));have K0:=Kst.k0 h;obtain ⟨Az,Ap,Ac⟩:=Zq hp;refine AKi 134217700 (fun x:Unit=>[]) (fun x h'=>(Sum.inr <| ())=Az/\Kst h h' (K0.L)) ?_ ?_
 ·refine Zo (Zk (AA6 AAg rfl H2 (AAv rfl rfl (Zk ?_))));by_cases Af:(a3.length:Int) < 1
  ·rw [decide_eq_true Af];refine AC8 8 true (AAa rfl (Zk (ADf 13 true (AAa rfl (Zk (ADf 20 true (AAa rfl (Zs (AAr rfl (Zo (Zu ?_)))))))))));obtain rfl:=Zm (ifT Ap Af);refine Zx (AAd ?_);obtain rfl:=Zm Ac;exact ⟨_,Zz,K0.x,rfl⟩
  ·have Aq:=ifF Ap Af;rw [decide_eq_false Af];refine Z4 8 false (Zk (Z4 8 false (AA6 AAg rfl H2 (Z4 8 false (AF1 rfl rfl (Z1 rfl (Zk ?_)))))));by_cases Ag:16 < (a3.length:Int)
   ·rw [decide_eq_true Ag];refine ADf 13 true (AAa rfl (Zk (ADf 20 true (AAa rfl (Zs (AAr rfl (Zo (Zu ?_))))))));obtain rfl:=Zm (ifT Aq Ag);refine Zx (AAd ?_);obtain rfl:=Zm Ac;exact ⟨_,Zz,K0.x,rfl⟩
   ·rw [decide_eq_false Ag];refine Z4 13 false (Zk (Z4 13 false ?_));obtain ⟨A3,Ar,Au⟩:=Zq (ifF Aq Ag);refine ATc AAg rfl H2 rfl Ar fun Bf Bg Bh A4 A5=>Z4 13 false (AA7 AA3 rfl (AAz A4 K0.x) (Z4 13 false (ABj AAi rfl A5 (Z4 13 false (AAv rfl rfl (Z1 rfl (Zk ?_)))))));by_cases Ah:(A3.length:Int) < 1
    ·rw [decide_eq_true Ah];refine ADf 20 true (AAa rfl (Zs (AAr rfl (Zo (Zu ?_)))));obtain rfl:=Zm (ifT Au Ah);refine Zx (AAd ?_);obtain rfl:=Zm Ac;exact ⟨_,Zz,K0.x,rfl⟩
    ·have Av:=ifF Au Ah;rw [decide_eq_false Ah];refine Z4 20 false (Zk (Z4 20 false (ATc AAg rfl H2 rfl Ar fun Bi Bj Bl A6 A7=>Z4 20 false (AA7 AA3 rfl (AAz A6 K0.x) (Z4 20 false (ABj AAi rfl A7 (Z4 20 false (AF1 rfl rfl (Z1 rfl (Zs (⟨_,rfl,fun Ai=>?_,fun Ai=>?_⟩)))))))))))
     ·refine Zo (Zu ?_);obtain rfl:=Zm (AA8 Av Ai);refine Zx (AAd ?_);obtain rfl:=Zm Ac;exact ⟨_,Zz,K0.x,rfl⟩
     ·refine Zw (q_t ?_);exact ⟨(():Unit),⟨Zm (AA9 Av Ai),K0⟩,trivial⟩
 rintro ⟨⟩ Bm Bn ⟨A8,Aw⟩;subst A8;refine Zp (Zo (Zk (AA6 AAg rfl H2 (Zk (Zs (Zt (AG5 2198486384660 Ac (fun x=>[(29,(.int .i64 x))]) (fun x=>Aw.L) Aw ⟨rfl,trivial⟩ ?_)))))));rintro Bo Bp Bq Br Ad Aj Ax;unfold AL4 at Aj;refine Zo (AAv rfl rfl (Zs (Zp (⟨_,rfl,fun Ak=>?_,fun Ak=>?_⟩))))
 ·refine Zw (q_t (Zp (Zt (Zo ?_))));obtain ⟨Bt,A9,Ba⟩:=Zq (AA8 Aj Ak);refine AGh AAg AA3 H2 Ad.x A9 fun _ Bu Bb=>AA5 (Zk (ABj AAi rfl Bb (Zk ?_)));obtain ⟨Bv,Bc,Ay⟩:=Zq Ba;refine AGh AAg AA3 H2 Ad.x Bc fun _ Bw Be=>ABj AAi rfl Be (ACp rfl rfl (Zs (⟨_,rfl,fun Am=>?_,fun Am=>?_⟩)))
  ·refine Zo (Zu (Zx (ABg (AAd (AAd (ABg (AAd ?_)))))));obtain rfl:=Zm (Ax _ (Zm (AA8 Ay Am)).symm);exact ⟨_,Zz,Ad.x,rfl⟩
  ·refine Zw (q_b (q_t (AAc (AAx rfl rfl (Zk (Zs ?_))))));exact ⟨_,(Zm (AA9 Ay Am)).symm,Ad,rfl,trivial⟩
 ·refine AAj (AAk (AAk (ABm (q_t (Zo (Zu (Zx ?_)))))));obtain rfl:=Zm (Ax _ (Zm (AA9 Aj Ak)).symm);exact ⟨_,Zz,Ad.x,rfl⟩
def AFy (fuel:Nat) (a3:LiI):Option Bool:=
  ((AFx fuel a3).bind fun x5=>(if x5=true then ((gI a3 0).bind fun Ac=>(if (a3.length:Int)=(Ac.length:Int) then (some (decide ((a3.length:Int)<=8))) else (some false))) else (some false)))
theorem ARw {fuel:Nat} {h:Zv} {Ae:Value} {a3:LiI} {r:Bool} (H2:ACx (cI .i64) h Ae a3) (hp:AFy fuel a3=some r):AAw Tryz.prog 122 #[Ae] h (fun x h'=>Ext h h'/\x= .bool r):=by
 unfold AFy at hp;refine cwf (l:=[_]) Tryz.func122 rfl rfl (Zo (AA5 (Zk ?_)));have K0:=Kst.k0 h;obtain ⟨x5,Ak,Ag⟩:=Zq hp;refine ACa K0 (AL5 (H2.ext K0.x) Ak) fun h9 E8 Ab=>Zk ?_;cases Ah:x5
 ·refine ADf 5 false (AG3 5 false (Z1 rfl (Zk (AC8 14 false (Z1 rfl (Zu (Zx ?_)))))));obtain rfl:=Zm (AFe Ag Ah);exact ⟨_,Zz,Ab.x,rfl⟩
 ·refine Z4 5 true (Zk (Z4 5 true (AA6 AAg rfl H2 (Z4 5 true (Zk (Z4 5 true ?_))))));obtain ⟨Am,Ao,Ai⟩:=Zq (ifT Ag Ah);refine ATc AAg rfl H2 rfl Ao fun Av Aw Ax Ap Aq=>Z4 5 true (AA7 AA3 rfl (AAz Ap Ab.x) (Z4 5 true (ABj AAi rfl Aq (Z4 5 true (ABx rfl rfl (AAa rfl (Zk ?_)))))));by_cases Ac:(a3.length:Int)=(Am.length:Int)
  ·rw [decide_eq_true Ac];refine Z4 14 true (Zk (Z4 14 true (AA6 AAg rfl H2 (Z4 14 true (AWx rfl rfl (AAa rfl (Zu (Zx ?_))))))));obtain rfl:=Zm (ifT Ai Ac);exact ⟨_,Zz,Ab.x,rfl⟩
  ·rw [decide_eq_false Ac];refine AC8 14 false (Z1 rfl (Zu (Zx ?_)));obtain rfl:=Zm (ifF Ai Ac);exact ⟨_,Zz,Ab.x,rfl⟩
def ABu (fuel:Nat) (a1:Int):Option Int:=
  (if a1 < 2 then (some 1) else (if 2147483647 < a1 then (some 1) else (some 0)))
theorem AGz {fuel:Nat} {h:Zv} {a1 r:Int} (hp:ABu fuel a1=some r):AAw Tryz.prog 86 #[(.int .i64 a1)] h (fun x h'=>Ext h h'/\x= .int .i64 r):=by
 unfold ABu at hp;refine cwf (l:=[_]) Tryz.func86 rfl rfl (Zo (Zu (Zp (Zo (Zk (AAv rfl rfl (Zk ?_)))))));have K0:=Kst.k0 h;by_cases Aa:a1 < 2
 ·rw [decide_eq_true Aa];refine AG3 5 true (AAa rfl (Zs (AAr rfl (Zo (Zu (Zx (AAd ?_)))))));obtain rfl:=Zm (ifT hp Aa);exact ⟨_,Zz,K0.x,rfl⟩
 ·have Ae:=ifF hp Aa;rw [decide_eq_false Aa];refine Z4 5 false (Zk (Z4 5 false (AF1 rfl rfl (Z1 rfl (Zs (⟨_,rfl,fun Ad=>?_,fun Ad=>?_⟩))))))
  ·refine Zo (Zu (Zx (AAd ?_)));obtain rfl:=Zm (AA8 Ae Ad);exact ⟨_,Zz,K0.x,rfl⟩
  ·refine Zw (q_t (Zo (Zu (Zx ?_))));obtain rfl:=Zm (AA9 Ae Ad);exact ⟨_,Zz,K0.x,rfl⟩
def AJi (fuel:Nat) (a5 Ad:Int) (Ae:LiA) (Ab:Int) (Ac:LiI):Option ((Int × LiI) ⊕ ((LiI))):=
  (if Ab < (Ae.length:Int) then ((gI Ae Ab).bind fun Ag=>((gI Ac Ad).bind fun Af=>(if a5≠0 then (if a5≠0 then ((gI Af Ab).bind fun Ah=>(some (Sum.inl ((w64 (Ab + 1)),(sI Ac Ad (sI Af Ab (Int.tmod (w64 ((Int.tmod Ag a5) + a5)) a5))))))) else none) else none))) else (some (Sum.inr<| Ac)))
def AJj (fuel:Nat) (a3:LiI) (a5 Aa:Int) (Ac:LiI):Option ((Int × LiI) ⊕ ((LiI))):=
  (if Aa < (a3.length:Int) then ((gI a3 Aa).bind fun Ab=>(if 0<=(Ab.length:Int)/\(Ab.length:Int)<=100000000 then ((gI Ac Aa).bind fun Ag=>((iter (fun s=>AJi fuel a5 Aa Ab s.1 s.2) fuel (0,(sI Ac Aa (List.replicate (Int.toNat (Ab.length:Int)) (0:Int))))).bind (fun (Af:LiI)=>(some (Sum.inl ((w64 (Aa + 1)),Af)))))) else none)) else (some (Sum.inr<| Ac)))
def ACt (fuel:Nat) (a3:LiI) (a5:Int):Option LiI:=
  (if 0<=(a3.length:Int)/\(a3.length:Int)<=100000000 then ((iter (fun s=>AJj fuel a3 a5 s.1 s.2) fuel (0,(List.replicate (Int.toNat (a3.length:Int)) ([]:List Int)))).bind (fun (Ac:LiI)=>(some Ac))) else none)
theorem AG7 {fuel:Nat} {h:Zv} {Ao:Value} {a3:LiI} {a5:Int} {r:LiI} (H2:ACx (cI .i64) h Ao a3) (hp:ACt fuel a3 a5=some r):AAw Tryz.prog 87 #[Ao,(.int .i64 a5)] h (fun x h'=>Ext h h'/\ ∃ (x0:Value) (F0:List Nat) (A3:List LnA) (A4:List Value),x=x0/\ACy (cI .i64) 60 2 h' F0 A3 A4 x0 r/\Sp h' h.size [F0]):=by
 unfold ACt at hp;refine cwf (l:=[_,_]) Tryz.func87 rfl rfl (Zo (AA5 (Zk (AA6 AAg rfl H2 ?_))));obtain ⟨A5,A6⟩:=ifN hp;refine ASh (cI .i64) 2 AAg AMl rfl trivial tt2 rfl rfl Zl A5 fun A7 A8 A9 Au Ce Ba E8 S9=>Zu (Zp (Zo (Zk (AA6 AAg rfl H2 (Zk (Zs (Zt ?_)))))));have Av:=(Kst.k0 h).no2 E8 S9 Ba;refine AFo 281474976678848 (fun x:(Int) × (LiI) × LnA × LnN × LvA=>(x.1,x.2.1)) ((0,(List.replicate (Int.toNat (a3.length:Int)) ([]:List Int)),A7,A8,A9):(Int) × (LiI) × LnA × LnN × LvA) A6 (fun x=>[(15,(.int .i64 x.1))]) (fun x=>Av.L.set 0 (aO2 (cI .i64) 60 2 x.2.2.1 x.2.2.2.1 x.2.2.2.2 Au x.2.1)) Av ⟨rfl,trivial⟩ ?_;rintro ⟨Aa,Be,Cf,Aw,Bf⟩ Cg Ch Ci Ab Ag Bg;unfold AJj at Ag;refine Zo (AAv rfl rfl (Zs (Zp (⟨_,rfl,fun Ah=>?_,fun Ah=>?_⟩))))
 ·refine Zw (q_t (Zp (Zt (Zo (Zk ?_)))));obtain ⟨Bh,Bi,Bj⟩:=Zq (AA8 Ag Ah);refine AGh AAg AA3 H2 Ab.x Bi fun _ Cj Ai=>AAn (AA5 (Zk (Zk (Zk (ABj AAi rfl Ai ?_)))));obtain ⟨Bl,Bm⟩:=ifN Bj;refine AQh (c:=(cI .i64)) (a:=0) AAi AI0 rfl rfl (fun _=>rfl) rfl trivial tt2 rfl rfl Zl Bl fun Ax Bn Ck Bo Bp Bq Br=>?_;have Ac:=Ab.no Bp (AE8 Bq Br) Bo;obtain ⟨Cm,Ay,Bt⟩:=Zq Bm;refine ADb AAg rfl (Ac.o2 p1) rfl Ay fun Bu Cn Bv Co Cp=>ASg AA3 (Ac.o2 p1) Ay Bv rfl rfl (Ac.o p0) (Ac.dj p0 p1 Zl) fun Cq Bw Bx By=>AId (Zk (ABj AAi rfl Ai (Zk (Zs (Zt ?_)))));have Aj:=(Ac.m2 p0 p1 Zl Bx Bw (fun z hz=> .inl (By z hz))).sel [1] Zl;dsimp only [AHd,AKw] at Aj;refine AFo 140737219920640 (fun x:(Int) × (LiI) × LnA × LnN × LvA=>(x.1,x.2.1)) ((0,(sI Be Aa (List.replicate (Int.toNat (Bh.length:Int)) (0:Int))),(Bu :: (Aw.set (Int.toNat Aa) [Ax]).flatten),(Aw.set (Int.toNat Aa) [Ax]),(Bf.set (Int.toNat Aa) Bn)):(Int) × (LiI) × LnA × LnN × LvA) Bt (fun x=>[(28,(.int .i64 x.1))]) (fun x=>Aj.L.set 0 (aO2 (cI .i64) 60 2 x.2.2.1 x.2.2.2.1 x.2.2.2.2 Au x.2.1)) Aj ⟨rfl,trivial⟩ ?_;rintro ⟨Cr,Ct,Cu,Cv,Cw⟩ Cx Cy Cz Ad Ak Bz;unfold AJi at Ak;refine Zo (AAv rfl rfl (Zs (Zp (⟨_,rfl,fun Am=>?_,fun Am=>?_⟩))))
  ·refine Zw (q_t (Zp (Zt (Zo (Zk ?_)))));obtain ⟨C0,B1,B3⟩:=Zq (AA8 Ak Am);refine AUs AAi AAl Ai Ad.x B1 fun _=>(AAn (Zu (AGe (Zk (Zk ?_)))));obtain ⟨C1,Az,B4⟩:=Zq B3;refine AB1 AAg AA3 (Ad.o2 p0) Az fun _ C2 B5=>Zk (Zk (Zk ?_));obtain ⟨B6,B7⟩:=ifN B4;refine ADk rfl rfl B6 (Zk (AAx rfl rfl (Zk ?_)));obtain ⟨B8,B9⟩:=ifN B7;refine ADk rfl rfl B8 ?_;obtain ⟨C3,Ca,Cb⟩:=Zq B9;refine ALo (m:=Aa) Ad p0 AAi AAl B5 Az Ca (fun _=>rfl) fun _ C4 Cd=>AAo (q_b (q_t (AAc (AAx rfl rfl (Zk (Zs ?_))))));exact ⟨(_,_,_,_,_),(Zm Cb).symm,Cd,rfl,trivial⟩
  ·refine AAj (AAk (AAk (ABm (q_b (q_t (AAc (AAx rfl rfl (Zk (Zs ?_)))))))));exact ⟨(_,_,_,_,_),(Zm (Bz _ (Zm (AA9 Ak Am)).symm)).symm,Ad,rfl,trivial⟩
 ·refine AAj (AAk (AAk (ABm (q_t (Zo (Zk (Zu (Zx ?_))))))));obtain rfl:=Zm (Bg _ (Zm (AA9 Ag Ah)).symm);exact ⟨_,Zz,Ab.x,_,_,_,_,rfl,(Ab.o2 p0),Ab.s.sel [0] Zl⟩
def AIm (fuel:Nat) (a3:LiI) (Ab Aa:Int) (Ac:LiI):Option ((Int × LiI) ⊕ ((LiI))):=
  (if Aa < (a3.length:Int) then ((gI a3 Aa).bind fun Af=>((gI Ac Ab).bind fun Ae=>((gI Af Ab).bind fun Ag=>((gI Ae Aa).bind fun Ah=>(some (Sum.inl ((w64 (Aa + 1)),(sI Ac Ab (sI Ae Aa Ag))))))))) else (some (Sum.inr<| Ac)))
def AIn (fuel:Nat) (a3:LiI) (x5:LiA) (Aa:Int) (Ac:LiI):Option ((Int × LiI) ⊕ ((LiI))):=
  (if Aa < ((List.replicate (Int.toNat (x5.length:Int)) ([]:List Int)).length:Int) then (if 0<=(a3.length:Int)/\(a3.length:Int)<=100000000 then ((gI Ac Aa).bind fun Af=>((iter (fun s=>AIm fuel a3 Aa s.1 s.2) fuel (0,(sI Ac Aa (List.replicate (Int.toNat (a3.length:Int)) (0:Int))))).bind (fun (Ae:LiI)=>(some (Sum.inl ((w64 (Aa + 1)),Ae)))))) else none) else (some (Sum.inr<| Ac)))
def AIb (fuel:Nat) (a3:LiI):Option LiI:=
  ((gI a3 0).bind fun x5=>(if 0<=(x5.length:Int)/\(x5.length:Int)<=100000000 then ((iter (fun s=>AIn fuel a3 x5 s.1 s.2) fuel (0,(List.replicate (Int.toNat (x5.length:Int)) ([]:List Int)))).bind (fun (Ac:LiI)=>(some Ac))) else none))
theorem AUn {fuel:Nat} {h:Zv} {Ao:Value} {a3 r:LiI} (H2:ACx (cI .i64) h Ao a3) (hp:AIb fuel a3=some r):AAw Tryz.prog 125 #[Ao] h (fun x h'=>Ext h h'/\ ∃ (x0:Value) (F0:List Nat) (Az:List LnA) (A3:List Value),x=x0/\ACy (cI .i64) 60 2 h' F0 Az A3 x0 r/\Sp h' h.size [F0]):=by
 unfold AIb at hp;refine cwf (l:=[_]) Tryz.func125 rfl rfl (Zo (AA5 (Zk ?_)));have K0:=Kst.k0 h;obtain ⟨x5,A5,A6⟩:=Zq hp;refine AGh AAg AA3 H2 K0.x A5 fun _ r8 H9=>ABj AAi rfl H9 ?_;obtain ⟨A8,A9⟩:=ifN A6;refine ASh (cI .i64) 2 AAg AMl rfl trivial tt2 rfl rfl Zl A8 fun Ba Bb Bc Au Ce Be Bf Bg=>Zu (Zp (Zo (Zk ?_)));have Ag:=K0.no2 Bf Bg Be;refine AA6 AAg rfl (Ag.o2 p0).rd (Zk (Zs (Zt (AFo 4398046494832 (fun x:(Int) × (LiI) × LnA × LnN × LvA=>(x.1,x.2.1)) ((0,(List.replicate (Int.toNat (x5.length:Int)) ([]:List Int)),Ba,Bb,Bc):(Int) × (LiI) × LnA × LnN × LvA) A9 (fun x=>[(14,(.int .i64 x.1))]) (fun x=>Ag.L.set 0 (aO2 (cI .i64) 60 2 x.2.2.1 x.2.2.2.1 x.2.2.2.2 Au x.2.1)) Ag ⟨rfl,trivial⟩ ?_))));rintro ⟨Aa,Bh,Cf,Av,Bi⟩ Cg Ch Ci Ae Ah Bj;unfold AIn at Ah;refine Zo (AAv rfl rfl (Zs (Zp (⟨_,rfl,fun Ai=>?_,fun Ai=>?_⟩))))
 ·refine Zw (q_t (Zp (Zt (Zo (Zk (AA5 (Zk (Zk (Zk (AA6 AAg rfl H2 ?_))))))))));obtain ⟨Bl,Bm⟩:=ifN (AA8 Ah Ai);refine AQh (c:=(cI .i64)) (a:=0) AAi AI0 rfl rfl (fun _=>rfl) rfl trivial tt2 rfl rfl Zl Bl fun Aw Bn Cj Bo Bp Bq Br=>?_;have Ab:=Ae.no Bp (AE8 Bq Br) Bo;obtain ⟨Ck,Ax,Bt⟩:=Zq Bm;refine ADb AAg rfl (Ab.o2 p1) rfl Ax fun Bu Cm Bv Cn Co=>ASg AA3 (Ab.o2 p1) Ax Bv rfl rfl (Ab.o p0) (Ab.dj p0 p1 Zl) fun Cp Bw Bx By=>AId (Zk (AA6 AAg rfl H2 (Zk (Zs (Zt ?_)))));have Aj:=(Ab.m2 p0 p1 Zl Bx Bw (fun z hz=> .inl (By z hz))).sel [1] Zl;dsimp only [AHd,AKw] at Aj;refine AFo 2198989701216 (fun x:(Int) × (LiI) × LnA × LnN × LvA=>(x.1,x.2.1)) ((0,(sI Bh Aa (List.replicate (Int.toNat (a3.length:Int)) (0:Int))),(Bu :: (Av.set (Int.toNat Aa) [Aw]).flatten),(Av.set (Int.toNat Aa) [Aw]),(Bi.set (Int.toNat Aa) Bn)):(Int) × (LiI) × LnA × LnN × LvA) Bt (fun x=>[(25,(.int .i64 x.1))]) (fun x=>Aj.L.set 0 (aO2 (cI .i64) 60 2 x.2.2.1 x.2.2.2.1 x.2.2.2.2 Au x.2.1)) Aj ⟨rfl,trivial⟩ ?_;rintro ⟨Cq,Cr,Ct,Cu,Cv⟩ Cw Cx Cy Ac Ak Bz;unfold AIm at Ak;refine Zo (AAv rfl rfl (Zs (Zp (⟨_,rfl,fun Am=>?_,fun Am=>?_⟩))))
  ·refine Zw (q_t (Zp (Zt (Zo (Zk ?_)))));obtain ⟨Cz,B1,B3⟩:=Zq (AA8 Ak Am);refine AGh AAg AA3 H2 Ac.x B1 fun _ C0 B4=>AAn (Zu (AGe (Zk (Zk ?_))));obtain ⟨C1,Ay,B5⟩:=Zq B3;refine AB1 AAg AA3 (Ac.o2 p0) Ay fun _ C2 B6=>Zk (Zk (Zk ?_));obtain ⟨C3,B7,B8⟩:=Zq B5;refine AUs AAi AAl B4 Ac.x B7 fun _=>?_;obtain ⟨C4,B9,Ca⟩:=Zq B8;refine ALo (m:=Aa) Ac p0 AAi AAl B6 Ay B9 (fun _=>rfl) fun _ C5 Cb=>AAo (q_b (q_t (AAc (AAx rfl rfl (Zk (Zs ?_))))));exact ⟨(_,_,_,_,_),(Zm Ca).symm,Cb,rfl,trivial⟩
  ·refine AAj (AAk (AAk (ABm (q_b (q_t (AAc (AAx rfl rfl (Zk (Zs ?_)))))))));exact ⟨(_,_,_,_,_),(Zm (Bz _ (Zm (AA9 Ak Am)).symm)).symm,Ac,rfl,trivial⟩
 ·refine AAj (AAk (AAk (ABm (q_t (Zo (Zk (Zu (Zx ?_))))))));obtain rfl:=Zm (Bj _ (Zm (AA9 Ah Ai)).symm);exact ⟨_,Zz,Ae.x,_,_,_,_,rfl,(Ae.o2 p0),Ae.s.sel [0] Zl⟩
def AKc (fuel:Nat) (a9 Ad Ag:Int) (Ae:LiA) (Aa:Int) (Ab:LiI):Option ((Int × LiI) ⊕ ((LiI))):=
  (if Aa < (Ae.length:Int) then ((gI Ae Aa).bind fun Ah=>((gI Ab Ad).bind fun Af=>((gI Af Aa).bind fun Ai=>(if a9≠0 then (some (Sum.inl ((w64 (Aa + 1)),(sI Ab Ad (sI Af Aa (Int.tmod (w64 (Ai + (w64 (Ag * Ah)))) a9)))))) else none)))) else (some (Sum.inr<| Ab)))
def AKd (fuel:Nat) (a7:LiI) (a9 Af:Int) (Ab:LiA) (Aa:Int) (Ac:LiI):Option ((Int × LiI) ⊕ ((LiI))):=
  (if Aa < (Ab.length:Int) then ((gI Ab Aa).bind fun Ag=>((gI a7 Aa).bind fun Ah=>((iter (fun s=>AKc fuel a9 Af Ag Ah s.1 s.2) fuel (0,Ac)).bind (fun (Ai:LiI)=>(some (Sum.inl ((w64 (Aa + 1)),Ai))))))) else (some (Sum.inr<| Ac)))
def AKe (fuel:Nat) (a3 a7:LiI) (a9 Aa:Int) (Ab:LiI):Option ((Int × LiI) ⊕ ((LiI))):=
  (if Aa < (a3.length:Int) then ((gI a3 Aa).bind fun Ag=>((gI a7 0).bind fun Ac=>(if 0<=(Ac.length:Int)/\(Ac.length:Int)<=100000000 then ((gI Ab Aa).bind fun Ai=>((iter (fun s=>AKd fuel a7 a9 Aa Ag s.1 s.2) fuel (0,(sI Ab Aa (List.replicate (Int.toNat (Ac.length:Int)) (0:Int))))).bind (fun (Ah:LiI)=>(some (Sum.inl ((w64 (Aa + 1)),Ah)))))) else none))) else (some (Sum.inr<| Ab)))
def AHv (fuel:Nat) (a3 a7:LiI) (a9:Int):Option LiI:=
  (if 0<=(a3.length:Int)/\(a3.length:Int)<=100000000 then ((iter (fun s=>AKe fuel a3 a7 a9 s.1 s.2) fuel (0,(List.replicate (Int.toNat (a3.length:Int)) ([]:List Int)))).bind (fun (Ad:LiI)=>(some Ad))) else none)
theorem AP9 {fuel:Nat} {h:Zv} {Au:Value} {a3:LiI} {Av:Value} {a7:LiI} {a9:Int} {r:LiI} (H2:ACx (cI .i64) h Au a3) (H6:ACx (cI .i64) h Av a7) (hp:AHv fuel a3 a7 a9=some r):AAw Tryz.prog 124 #[Au,Av,(.int .i64 a9)] h (fun x h'=>Ext h h'/\ ∃ (x0:Value) (F0:List Nat) (Bb:List LnA) (Bc:List Value),x=x0/\ACy (cI .i64) 60 2 h' F0 Bb Bc x0 r/\Sp h' h.size [F0]):=by
 unfold AHv at hp;refine cwf (l:=[_,_,_]) Tryz.func124 rfl rfl (Zo (AA5 (Zk (AA6 AAg rfl H2 ?_))));obtain ⟨Be,Bf⟩:=ifN hp;refine ASh (cI .i64) 2 AAg AMl rfl trivial tt2 rfl rfl Zl Be fun Bg Bh Bi Ai Cy Bj Bl Bm=>Zu (Zp (Zo (Zk (AA6 AAg rfl H2 (Zk (Zs (Zt ?_)))))));have A4:=(Kst.k0 h).no2 Bl Bm Bj;refine AFo 2361183241434822098688 (fun x:(Int) × (LiI) × LnA × LnN × LvA=>(x.1,x.2.1)) ((0,(List.replicate (Int.toNat (a3.length:Int)) ([]:List Int)),Bg,Bh,Bi):(Int) × (LiI) × LnA × LnN × LvA) Bf (fun x=>[(19,(.int .i64 x.1))]) (fun x=>A4.L.set 0 (aO2 (cI .i64) 60 2 x.2.2.1 x.2.2.2.1 x.2.2.2.2 Ai x.2.1)) A4 ⟨rfl,trivial⟩ ?_;rintro ⟨Aa,Bn,Cz,A5,Bo⟩ C0 C1 C2 Ab Aj Bp;unfold AKe at Aj;refine Zo (AAv rfl rfl (Zs (Zp (⟨_,rfl,fun Ak=>?_,fun Ak=>?_⟩))))
 ·refine Zw (q_t (Zp (Zt (Zo (Zk ?_)))));obtain ⟨C3,Bq,Br⟩:=Zq (AA8 Aj Ak);refine AGh AAg AA3 H2 Ab.x Bq fun _ C4 A6=>AAn (AA5 (Zk (Zk (Zk ?_))));obtain ⟨Bt,Bu,Bv⟩:=Zq Br;refine AGh AAg AA3 H6 Ab.x Bu fun _ C5 Bw=>ABj AAi rfl Bw ?_;obtain ⟨Bx,By⟩:=ifN Bv;refine AQh (c:=(cI .i64)) (a:=0) AAi AI0 rfl rfl (fun _=>rfl) rfl trivial tt2 rfl rfl Zl Bx fun A7 Bz C6 B1 B3 B4 B5=>?_;have Ad:=Ab.no B3 (AE8 B4 B5) B1;obtain ⟨C7,A8,B6⟩:=Zq By;refine ADb AAg rfl (Ad.o2 p1) rfl A8 fun B7 C8 B8 C9 Da=>ASg AA3 (Ad.o2 p1) A8 B8 rfl rfl (Ad.o p0) (Ad.dj p0 p1 Zl) fun Db B9 Ca Cb=>AId (Zk (ABj AAi rfl A6 (Zk (Zs (Zt ?_)))));have Am:=(Ad.m2 p0 p1 Zl Ca B9 (fun z hz=> .inl (Cb z hz))).sel [1] Zl;dsimp only [AHd,AKw] at Am;refine AFo 1180591620700231449600 (fun x:(Int) × (LiI) × LnA × LnN × LvA=>(x.1,x.2.1)) ((0,(sI Bn Aa (List.replicate (Int.toNat (Bt.length:Int)) (0:Int))),(B7 :: (A5.set (Int.toNat Aa) [A7]).flatten),(A5.set (Int.toNat Aa) [A7]),(Bo.set (Int.toNat Aa) Bz)):(Int) × (LiI) × LnA × LnN × LvA) B6 (fun x=>[(34,(.int .i64 x.1))]) (fun x=>Am.L.set 0 (aO2 (cI .i64) 60 2 x.2.2.1 x.2.2.2.1 x.2.2.2.2 Ai x.2.1)) Am ⟨rfl,trivial⟩ ?_;rintro ⟨Dc,Cd,Ce,Cf,Cg⟩ Dd De Df Ae Ao Ch;unfold AKd at Ao;refine Zo (AAv rfl rfl (Zs (Zp (⟨_,rfl,fun Ap=>?_,fun Ap=>?_⟩))))
  ·refine Zw (q_t (Zp (Zt (Zo (Zk ?_)))));obtain ⟨Dg,Ci,Cj⟩:=Zq (AA8 Ao Ap);refine AUs AAi AAl A6 Ae.x Ci fun _=>(AAn (AA5 (Zk (Zk ?_))));obtain ⟨Dh,Ck,Cm⟩:=Zq Cj;refine AGh AAg AA3 H6 Ae.x Ck fun _ Di A9=>ABj AAi rfl A9 (Zk (Zs (Zt (AFo 590295792766519619584 (fun x:(Int) × (LiI) × LnA × LnN × LvA=>(x.1,x.2.1)) ((0,Cd,Ce,Cf,Cg):(Int) × (LiI) × LnA × LnN × LvA) Cm (fun x=>[(44,(.int .i64 x.1))]) (fun x=>Ae.L.set 0 (aO2 (cI .i64) 60 2 x.2.2.1 x.2.2.2.1 x.2.2.2.2 Ai x.2.1)) Ae ⟨rfl,trivial⟩ ?_))));rintro ⟨Dj,Dk,Dl,Do,Dp⟩ Dq Dr Ds Ac Aq Cn;unfold AKc at Aq;refine Zo (AAv rfl rfl (Zs (Zp (⟨_,rfl,fun Ar=>?_,fun Ar=>?_⟩))))
   ·refine Zw (q_t (Zp (Zt (Zo (Zk ?_)))));obtain ⟨Dt,Co,Cp⟩:=Zq (AA8 Aq Ar);refine AUs AAi AAl A9 Ac.x Co fun _=>(AAn (Zu (AGe (Zk (Zk ?_)))));obtain ⟨Du,Af,Cq⟩:=Zq Cp;refine AB1 AAg AA3 (Ac.o2 p0) Af fun _ Dv Cr=>Zk (Zk (Zk (AB1 AAg AA3 (Ac.o2 p0) Af fun _ Dw Ct=>Zk ?_)));obtain ⟨Dx,Ba,Cu⟩:=Zq Cq;refine AIy (m:=Aa) AAi AAl (Ac.o2 p0) Ct Af Ba fun _=>(Zk (Zk (AL9 rfl rfl (AAx rfl rfl (Zk ?_)))));obtain ⟨Cv,Cw⟩:=ifN Cu;refine ADk rfl rfl Cv (ALo (m:=Aa) Ac p0 AAi AAl Cr Af Ba (fun _=>rfl) fun _ Dy Cx=>AAo (q_b (q_t (AAc (AAx rfl rfl (Zk (Zs ?_)))))));exact ⟨(_,_,_,_,_),(Zm Cw).symm,Cx,rfl,trivial⟩
   ·refine AAj (AAk (AAk (ABm (q_b (q_t (AAc (AAx rfl rfl (Zk (Zs ?_)))))))));exact ⟨(_,_,_,_,_),(Zm (Cn _ (Zm (AA9 Aq Ar)).symm)).symm,Ac,rfl,trivial⟩
  ·refine AAj (AAk (AAk (ABm (q_b (q_t (AAc (AAx rfl rfl (Zk (Zs ?_)))))))));exact ⟨(_,_,_,_,_),(Zm (Ch _ (Zm (AA9 Ao Ap)).symm)).symm,Ae,rfl,trivial⟩
 ·refine AAj (AAk (AAk (ABm (q_t (Zo (Zk (Zu (Zx ?_))))))));obtain rfl:=Zm (Bp _ (Zm (AA9 Aj Ak)).symm);exact ⟨_,Zz,Ab.x,_,_,_,_,rfl,(Ab.o2 p0),Ab.s.sel [0] Zl⟩
def AJa (fuel:Nat) (a3:LiI) (a5:Int):Option (LiI × Int):=
  ((AFx fuel a3).bind fun x6=>(if (!x6)=true then (some ([],3)) else ((ABu fuel a5).bind fun Ac=>(if ¬ Ac=0 then (some ([],Ac)) else ((ACt fuel a3 a5).bind fun Ae=>(some (Ae,0)))))))
theorem AUy {fuel:Nat} {h:Zv} {Ag:Value} {a3:LiI} {a5:Int} {r:(LiI × Int)} (H2:ACx (cI .i64) h Ag a3) (hp:AJa fuel a3 a5=some r):AAw Tryz.prog 45 #[Ag,(.int .i64 a5)] h (fun x h'=>Ext h h'/\ ∃ (x0:Value) (F0:List Nat) (Au:List LnA) (Av:List Value),x= .tuple #[x0,.int .i64 r.2]/\ACy (cI .i64) 60 2 h' F0 Au Av x0 r.1/\Sp h' h.size [F0]):=by
 unfold AJa at hp;refine cwf (l:=[_,_]) Tryz.func45 rfl rfl (Zo (AAn (Zu (Zp (Zo (Zk ?_))))));have K0:=Kst.k0 h;obtain ⟨x6,Aw,Ap⟩:=Zq hp;refine ACa K0 (AL5 (H2.ext K0.x) Aw) fun A4 E9 Aq=>ACr rfl (Zs (⟨_,rfl,fun Aa=>?_,fun Aa=>?_⟩))
 ·refine Zo (AAn (Zu (Zx (AAd ?_))));have Ab:=Kst.anil2 (cI .i64) 60 2 Aq;obtain rfl:=Zm (ifT Ap Aa);exact ⟨_,ABi,Ab.x,_,_,_,_,rfl,(Ab.o2 p0),Ab.s.sel [0] Zl⟩
 ·refine Zw (q_t (Zp (Zo (Zk ?_))));obtain ⟨A6,Ax,Ar⟩:=Zq (AFe Ap Aa);refine ACa Aq (AGz Ax) fun A7 A8 Ac=>AA5 (Zk (ACp rfl rfl (Zs (⟨_,rfl,fun Ad=>?_,fun Ad=>?_⟩))))
  ·refine Zo (Zk (AAn (Zu (Zx (AAd ?_)))));have Ae:=Kst.anil2 (cI .i64) 60 2 Ac;obtain rfl:=Zm (AA8 Ar Ad);exact ⟨_,ABi,Ae.x,_,_,_,_,rfl,(Ae.o2 p0),Ae.s.sel [0] Zl⟩
  ·refine Zw (q_t (Zo (Zk (Zk ?_))));obtain ⟨A9,Ay,Az⟩:=Zq (AA9 Ar Ad);refine AM5 Ac (AG7 (H2.ext Ac.x) Ay) fun Ba Bb Bc Be Bf Bg Af=>AAn (Zu (Zx ?_));obtain rfl:=Zm Az;exact ⟨_,ABi,Af.x,_,_,_,_,rfl,(Af.o2 p0),Af.s.sel [0] Zl⟩
def AHk (fuel:Nat) (a3 a7:LiI) (a9:Int):Option (LiI × Int):=
  ((((AFx fuel a3).bind fun Af=>(if (!Af)=true then (some (Sum.inl <| ([],3))) else ((AFx fuel a7).bind fun Ag=>(if (!Ag)=true then (some (Sum.inl <| ([],3))) else ((gI a3 0).bind fun Ah=>(if ¬ (a3.length:Int)=(Ah.length:Int) then (some (Sum.inl <| ([],3))) else (if ¬ (a7.length:Int)=(a3.length:Int) then (some (Sum.inl <| ([],3))) else (some (Sum.inr <| ()))))))))):Option (((LiI × Int)) ⊕ (Unit))).bind (fun ex=>match ex with | Sum.inl Ai=>(some Ai) | Sum.inr (_)=>((ABu fuel a9).bind fun Ad=>(if ¬ Ad=0 then (some ([],Ad)) else ((ACt fuel a7 a9).bind fun Ae=>((AIb fuel Ae).bind fun Aj=>((ACt fuel a3 a9).bind fun Ak=>((AHv fuel Ak Ae a9).bind fun Am=>((AHv fuel Aj Am a9).bind fun Ao=>(some (Ao,0)))))))))))
theorem ATp {fuel:Nat} {h:Zv} {Ax:Value} {a3:LiI} {Ay:Value} {a7:LiI} {a9:Int} {r:(LiI × Int)} (H2:ACx (cI .i64) h Ax a3) (H6:ACx (cI .i64) h Ay a7) (hp:AHk fuel a3 a7 a9=some r):AAw Tryz.prog 75 #[Ax,Ay,(.int .i64 a9)] h (fun x h'=>Ext h h'/\ ∃ (x0:Value) (F0:List Nat) (Bg:List LnA) (Bh:List Value),x= .tuple #[x0,.int .i64 r.2]/\ACy (cI .i64) 60 2 h' F0 Bg Bh x0 r.1/\Sp h' h.size [F0]):=by
 unfold AHk at hp;refine cwf (l:=[_,_,_]) Tryz.func75 rfl rfl (Zo (AAn (Zu ?_)));have K0:=Kst.k0 h;obtain ⟨Bi,Bj,Ab⟩:=Zq hp;refine AKi 17179868352 (fun x:Unit=>[]) (fun x h'=>(Sum.inr <| ())=Bi/\Kst h h' (K0.L)) ?_ ?_
 ·refine Zo (Zk ?_);obtain ⟨Bl,Bm,A6⟩:=Zq Bj;refine ACa K0 (AL5 (H2.ext K0.x) Bm) fun B9 Ca Ah=>ACr rfl (Zk ?_);cases A7:(!Bl)
  ·refine Z4 13 false (Zk (Z4 13 false ?_));obtain ⟨Bn,Bo,A8⟩:=Zq (AFe A6 A7);refine ACa Ah (AL5 (H6.ext Ah.x) Bo) fun Cb Cd Ac=>Z4 13 false (ACr rfl (Z1 rfl (Zk ?_)));cases A9:(!Bn)
   ·refine Z4 18 false (Zk (Z4 18 false (AA6 AAg rfl H2 (Z4 18 false (Zk (Z4 18 false ?_))))));obtain ⟨Bp,Bq,Ba⟩:=Zq (AFe A8 A9);refine ATc AAg rfl H2 rfl Bq fun Ce Cf Cg Br Bt=>Z4 18 false (AA7 AA3 rfl (AAz Br Ac.x) (Z4 18 false (ABj AAi rfl Bt (Z4 18 false (ACp rfl rfl (Z1 rfl (Zk ?_)))))));by_cases Ad: ¬ (a3.length:Int)=(Bp.length:Int)
    ·rw [decide_eq_true Ad];refine ADf 27 true (AAa rfl (Zs (AAr rfl (Zo (AAn (Zu ?_))))));obtain rfl:=Zm (ifT Ba Ad);refine Zx (AAd ?_);have Ai:=Kst.anil2 (cI .i64) 60 2 Ac;obtain rfl:=Zm Ab;exact ⟨_,ABi,Ai.x,_,_,_,_,rfl,(Ai.o2 p0),Ai.s.sel [0] Zl⟩
    ·have Bb:=ifF Ba Ad;rw [decide_eq_false Ad];refine Z4 27 false (Zk (Z4 27 false (AA6 AAg rfl H6 (Z4 27 false (Zk (Z4 27 false (AA6 AAg rfl H2 (Z4 27 false (ACp rfl rfl (Z1 rfl (Zs (⟨_,rfl,fun Aj=>?_,fun Aj=>?_⟩))))))))))))
     ·refine Zo (AAn (Zu ?_));obtain rfl:=Zm (AA8 Bb Aj);refine Zx (AAd ?_);have Ak:=Kst.anil2 (cI .i64) 60 2 Ac;obtain rfl:=Zm Ab;exact ⟨_,ABi,Ak.x,_,_,_,_,rfl,(Ak.o2 p0),Ak.s.sel [0] Zl⟩
     ·refine Zw (q_t ?_);exact ⟨(():Unit),⟨Zm (AA9 Bb Aj),Ac⟩,trivial⟩
   ·refine ADf 18 true (AG3 18 true (AAa rfl (Zk (ADf 27 true (AAa rfl (Zs (AAr rfl (Zo (AAn (Zu ?_))))))))));obtain rfl:=Zm (ifT A8 A9);refine Zx (AAd ?_);have Am:=Kst.anil2 (cI .i64) 60 2 Ac;obtain rfl:=Zm Ab;exact ⟨_,ABi,Am.x,_,_,_,_,rfl,(Am.o2 p0),Am.s.sel [0] Zl⟩
  ·refine AC8 13 true (AAa rfl (Zk (ADf 18 true (AG3 18 true (AAa rfl (Zk (ADf 27 true (AAa rfl (Zs (AAr rfl (Zo (AAn (Zu ?_)))))))))))));obtain rfl:=Zm (ifT A6 A7);refine Zx (AAd ?_);have Ao:=Kst.anil2 (cI .i64) 60 2 Ah;obtain rfl:=Zm Ab;exact ⟨_,ABi,Ao.x,_,_,_,_,rfl,(Ao.o2 p0),Ao.s.sel [0] Zl⟩
 rintro ⟨⟩ Ch Ci ⟨Bu,Bv⟩;subst Bu;refine Zp (Zo (Zk ?_));obtain ⟨Cj,Bw,Bc⟩:=Zq Ab;refine ACa Bv (AGz Bw) fun Ck Cm Ap=>AA5 (Zk (ACp rfl rfl (Zs (⟨_,rfl,fun Aq=>?_,fun Aq=>?_⟩))))
 ·refine Zo (Zk (AAn (Zu (Zx (AAd ?_)))));have Ar:=Kst.anil2 (cI .i64) 60 2 Ap;obtain rfl:=Zm (AA8 Bc Aq);exact ⟨_,ABi,Ar.x,_,_,_,_,rfl,(Ar.o2 p0),Ar.s.sel [0] Zl⟩
 ·refine Zw (q_t (Zo (Zk (Zk ?_))));obtain ⟨Cn,Bx,By⟩:=Zq (AA9 Bc Aq);refine AM5 Ap (AG7 (H6.ext Ap.x) Bx) fun Co Cp Cq Cr Ct Cu Be=>AA5 (Zk ?_);obtain ⟨Cv,Bz,B1⟩:=Zq By;refine AM5 Be (AUn (Be.o2 p0).rd Bz) fun Cw Cx Cy Cz C0 C1 Bf=>Zk (Zk ?_);obtain ⟨C2,B3,B4⟩:=Zq B1;refine AM5 Bf (AG7 (H2.ext Bf.x) B3) fun C3 C4 C5 C6 C7 C8 Au=>Zk (Zk ?_);obtain ⟨C9,B5,B6⟩:=Zq B4;refine AM5 Au (AP9 (Au.o2 p0).rd (Au.o2 p2).rd B5) fun Da Db Dc Dd De Df Av=>Zk ?_;obtain ⟨Dg,B7,B8⟩:=Zq B6;refine AM5 Av (AP9 (Av.o2 p2).rd (Av.o2 p0).rd B7) fun Dh Di Dj Dk Dl Do Aw=>AAn (Zu (Zx ?_));obtain rfl:=Zm B8;exact ⟨_,ABi,Aw.x,_,_,_,_,rfl,(Aw.o2 p0),Aw.s.sel [0] Zl⟩
end Go.Proofs.YtdkldlbgcfpglaaGreatDoor
namespace Go.Proofs.YtdkldlbgcfpglaaGreatDoor
open Go Go.QF
set_option maxRecDepth 100000
theorem ACw {α β:Type} {L:List α} {n:Nat} {x:α} {f:α->Option β} (hx:L[n]? =some x):(gI L (n:Int)).bind f=f x:=by
 unfold gI;rw [if_pos Zj,Int.toNat_natCast,hx];rfl
theorem AUu {α β:Type} {L:List α} {x:α} {f:α->Option β} (hx:L[0]? =some x):(gI L 0).bind f=f x:=ACw (n:=0) hx
theorem ABr {i:Nat} (h:i<=1000000000):w64 ((i:Int) + 1)=((i + 1:Nat):Int):=by rw [wk Zj];omega
theorem Abr {n i r:Nat} {G:AAb} {g g':Nat->Int} (h:∀ c,c < n->g c=g' c):part n i (ABy G r g)=part n i (ABy G r g'):=by
 unfold part;refine ABo fun k _=>?_;split
 ·refine ABo fun c hc=>?_;by_cases hk:k=r
  ·subst hk;rw [ABt,ABt,h c hc]
  ·rw [AD5 _ _ hk,AD5 _ _ hk]
 ·rfl
theorem AX8 {n i:Nat} {F:AAb} {g:Nat->Int} (h:∀ c,c < n->g c=F i c):part n (i + 1) (ABy F i g)=part n (i + 1) F:=by
 rw [Abr h,AOl]
theorem Aen {body:Int × List (List Int)->Option ((Int × List (List Int)) ⊕ List (List Int))} {fuel n i:Nat} {G:AAb} (v:Nat->Int) (hf:n < fuel)
    (hs:∀ (j:Nat) (g:Nat->Int),j < n->g j=G i j->body ((j:Int),part n (i + 1) (ABy G i g))=some (.inl (((j + 1:Nat):Int),part n (i + 1) (ABy G i fun c=>if c=j then v j else g c))))
    (he:∀ X,body ((n:Int),X)=some (.inr X)):iter body fuel (0,part n (i + 1) G)=some (part n (i + 1) (ABy G i v)):=by
  apply ok_eq
  refine ABa (fun j s=>s=((j:Int),part n (i + 1) (ABy G i fun c=>if c < j then v c else G i c))) n ?_ hf fun j s hj hI=>?_
  · have:(fun c=>if c < 0 then v c else G i c)=G i:=funext fun c=>if_neg Zj;rw [this,AOl];rfl
  · subst hI
    by_cases h:j < n
    · rw [hs j _ h (if_neg Zj)];refine Zn ⟨h,?_⟩;refine congrArg (fun z=>(((j + 1:Nat):Int),part n (i + 1) (ABy G i z))) (funext fun c=>?_)
      by_cases h1:c=j
      · rw [if_pos h1,if_pos Zj,h1]
      · rw [if_neg h1]
        by_cases h2:c < j
        · rw [if_pos h2,if_pos Zj]
        · rw [if_neg h2,if_neg Zj]
    · obtain rfl:j=n:=by omega
      rw [he];exact Zn (Abr fun c hc=>if_pos hc)
theorem AX9 {body:Int × List (List Int)->Option ((Int × List (List Int)) ⊕ List (List Int))} {fuel n:Nat} (F:AAb) (hf:n < fuel)
    (hs:∀ i:Nat,i < n->body ((i:Int),part n i F)=some (.inl (((i + 1:Nat):Int),part n (i + 1) F))) (he:∀ X,body ((n:Int),X)=some (.inr X)):iter body fuel (0,List.replicate n ([]:List Int))=some (tab n n F):=by
  apply ok_eq;refine ABa (fun i s=>s=((i:Int),part n i F)) n (by rw [AOo n F];rfl) hf fun i s hi hI=>?_;subst hI
  by_cases h:i < n
  · rw [hs i h];exact Zn ⟨h,rfl⟩
  · obtain rfl:i=n:=by omega
    rw [he];exact Zn (AOn _ _)
theorem Adf {x m:Int} (hm:2<=m) (Ab:m<=2147483647):Int.tmod (w64 (Int.tmod x m + m)) m=x % m:=by
 have h1:=Int.tmod_lt_of_pos x (show 0 < m by omega);have h2:=Int.tmod_lt_of_pos (-x) (show 0 < m by omega);rw [Int.neg_tmod] at h2;rw [wk Zj,Int.tmod_eq_emod_of_nonneg Zj,Int.add_emod_right,Int.tmod_def,Int.sub_mul_emod_self_left]
theorem Abt {fuel n:Nat} {F:AAb} {m:Int} (hn:n<=8) (hm:2<=m) (Aa:m<=2147483647) (hf:100 < fuel):ACt fuel (tab n n F) m=some (tab n n fun i j=>F i j % m):=by
 unfold ACt;rw [AAt,if_pos Zj,Int.toNat_natCast,AX9 (n:=n) (fun i j=>F i j % m) Zj (fun i hi=>?_) fun X=>?_]
 ·rfl
 ·unfold AJj;dsimp only;rw [AAt,if_pos Zj,ACw (AA1 hi),AA2,if_pos Zj,ACw (APd hi),AB0,Int.toNat_natCast,AE4 n (0:Int),ANd,Aen (n:=n) (fun j=>F i j % m) Zj (fun j g hj hg=>?_) fun X=>?_]
  ·dsimp only [Option.bind_some];rw [ANk,AX8 fun c _=>rfl,ABr Zj]
  ·unfold AJi;dsimp only;rw [AA2,if_pos Zj,ACw (AAq hj),ACw (AKb Zj hi),if_pos Zj,if_pos Zj,ABt,ACw (AAq hj),Adf hm Aa,AB0,AB0,AD7,AMf Zj,ANk,ABr Zj]
  ·unfold AJi;dsimp only;rw [AA2,if_neg Zj]
 ·unfold AJj;dsimp only;rw [AAt,if_neg Zj]
theorem Apj {fuel n:Nat} {F:AAb} (Aa:1<=n) (hn:n<=8) (hf:100 < fuel):AIb fuel (tab n n F)=some (tab n n fun i j=>F j i):=by
 unfold AIb;rw [AUu (AA1 Zj),AA2,if_pos Zj,Int.toNat_natCast,AX9 (n:=n) (fun i j=>F j i) Zj (fun i hi=>?_) fun X=>?_]
 ·rfl
 ·unfold AIn;dsimp only;rw [AA2,Int.toNat_natCast,List.length_replicate,if_pos Zj,AAt,if_pos Zj,ACw (APd hi),AB0,Int.toNat_natCast,AE4 n (0:Int),ANd,Aen (n:=n) (fun j=>F j i) Zj (fun j g hj hg=>?_) fun X=>?_]
  ·dsimp only [Option.bind_some];rw [ANk,AX8 fun c _=>rfl,ABr Zj]
  ·unfold AIm;dsimp only;rw [AAt,if_pos Zj,ACw (AA1 hj),ACw (AKb Zj hi),ACw (AAq hi),ABt,ACw (AAq hj),AB0,AB0,AD7,AMf Zj,ANk,ABr Zj]
  ·unfold AIm;dsimp only;rw [AAt,if_neg Zj]
 ·unfold AIn;dsimp only;rw [AA2,Int.toNat_natCast,List.length_replicate,if_neg Zj]
def ATq (n:Nat) (m:Int) (F:AAb):Prop:= ∀ i j,i < n->j < n->0<=F i j/\F i j < m
theorem Aic {m:Int} {f:Nat->Int} {k:Nat} {x y:Int} (hm:2<=m) (Aa:m<=2147483647) (hx:0<=x/\x < m) (hy:0<=y/\y < m) (hf:f k=x * y):Int.tmod (w64 (psum f k % m + (w64 (x * y)))) m=psum f (k + 1) % m:=by
 have h0:=Int.mul_nonneg hx.1 hy.1;have h1:x * y<=2147483646 * 2147483646:=Int.mul_le_mul Zj Zj hy.1 Zj;have h2:=Int.emod_nonneg (psum f k) (show m≠0 by omega);have h3:=Int.emod_lt_of_pos (psum f k) (show 0 < m by omega);rw [ACk (x:=x * y) Zj Zj,wk Zj,Int.tmod_eq_emod_of_nonneg Zj,<- hf,Akm]
theorem Aj6 {fuel n:Nat} {F G:AAb} {m:Int} (Ab:1<=n) (hn:n<=8) (hm:2<=m) (Aa:m<=2147483647) (hF:ATq n m F) (hG:ATq n m G) (hf:100 < fuel):AHv fuel (tab n n F) (tab n n G) m=some (tab n n fun i j=>psum (fun k=>F i k * G k j) n % m):=by
 unfold AHv;rw [AAt,if_pos Zj,Int.toNat_natCast,AX9 (n:=n) (fun i j=>psum (fun k=>F i k * G k j) n % m) Zj (fun i hi=>?_) fun X=>?_]
 ·rfl
 ·unfold AKe;dsimp only;rw [AAt,if_pos Zj,ACw (AA1 hi),AUu (AA1 Zj),AA2,if_pos Zj,ACw (APd hi),AB0,Int.toNat_natCast,AE4 n (0:Int),ANd]
  have key:∀ X,iter (fun s=>AKd fuel (tab n n G) m i (AB6 n (F i)) s.1 s.2) fuel (0,part n (i + 1) (ABy X i fun _=>0))=some (part n (i + 1) (ABy X i fun j=>psum (fun k=>F i k * G k j) n % m)):=fun X=>by
    apply ok_eq
    refine ABa (fun k s=>s=((k:Int),part n (i + 1) (ABy X i fun j=>psum (fun k=>F i k * G k j) k % m))) n ?_ Zj fun k s hk hI=>?_
    · refine congrArg (fun z=>((0:Int),part n (i + 1) (ABy X i z))) (funext fun c=>?_)
      show 0=0 % m
      rw [Int.zero_emod]
    · subst hI
      unfold AKd
      dsimp only
      rw [AA2]
      by_cases h:k < n
      · rw [if_pos Zj,ACw (AAq h),ACw (AA1 h),Aen (n:=n) (fun j=>psum (fun k=>F i k * G k j) (k + 1) % m) Zj (fun j g hj hg=>?_) fun X=>?_]
        · dsimp only [Option.bind_some]
          rw [ANk,ABr Zj]
          exact Zn ⟨h,rfl⟩
        · unfold AKc
          dsimp only
          rw [AA2,if_pos Zj,ACw (AAq hj),ACw (AKb Zj hi),ABt,ACw (AAq hj),if_pos Zj,hg,ABt,Aic (f:=fun k=>F i k * G k j) hm Aa (hF i k hi h) (hG k j h hj) rfl,AB0,AB0,AD7,AMf Zj,ANk,ABr Zj]
        · unfold AKc
          dsimp only
          rw [AA2,if_neg Zj]
      · obtain rfl:k=n:=by omega
        rw [if_neg Zj]
        exact Zn rfl
  rw [key];dsimp only [Option.bind_some];rw [AX8 fun c _=>rfl,ABr Zj]
 ·unfold AKe;dsimp only;rw [AAt,if_neg Zj]
end Go.Proofs.YtdkldlbgcfpglaaGreatDoor
namespace Go.Proofs.YtdkldlbgcfpglaaGreatDoor
open Go Go.QF
set_option maxRecDepth 100000
set_option maxHeartbeats 4000000
def ANl (fuel:Nat) (Ac Ad Af:Int) (Ag:LiA) (Ah Ai Aa:Int) (Ab:LiI):Option ((Int × LiI) ⊕ ((LiI))):=
  (if Aa < (Ag.length:Int) then ((gI Ab Af).bind fun Aj=>((gI Aj Aa).bind fun Ak=>((gI Ab Ad).bind fun Ae=>((gI Ae Aa).bind fun Am=>(if Ac≠0 then (some (Sum.inl ((w64 (Aa + 1)),(sI Ab Ad (sI Ae Aa (Int.tmod (w64 (Am + (w64 ((w64 (Ac - (w64 (Int.tdiv Ai Ah)))) * Ak)))) Ac)))))) else none))))) else (some (Sum.inr<| Ab)))
def ANm (fuel:Nat) (Ah Aa Ab Af:Int) (Ac:LiI):Option ((Int × LiI) ⊕ ((Int × LiI))):=
  ((gI Ac Ab).bind fun Ag=>((gI Ag Aa).bind fun Ad=>(if ¬ Ad=0 then ((gI Ac Aa).bind fun Ai=>((gI Ai Aa).bind fun Aj=>(if Ad≠0 then ((((iter (fun s=>ANl fuel Ah Aa Ab Ag Ad Aj s.1 s.2) fuel (0,Ac)).bind (fun (Ak:LiI)=>(some ( Ak)))):Option (LiI)).bind fun Ae=>((gI Ae Ab).bind fun Am=>((gI Ae Aa).bind fun Ao=>(some (Sum.inl ((w64 (0 - Af)),(sI (sI Ae Aa Am) Ab Ao))))))) else none))) else (some (Sum.inr<| (Af,Ac))))))
def APu (fuel:Nat) (Ad Ae Ac Aa:Int) (Ab:LiI):Option ((Int × Int × LiI) ⊕ ((Int × LiI))):=
  (if Aa < (Ab.length:Int) then ((iter (fun s=>ANm fuel Ad Ae Aa s.1 s.2) fuel (Ac,Ab)).bind (fun ((Af,Ag):Int × LiI)=>(some (Sum.inl (Af,(w64 (Aa + 1)),Ag))))) else (some (Sum.inr<| (Ac,Ab))))
def APv (fuel:Nat) (Ad:LiI) (Ae Ab Aa:Int) (Ac:LiI):Option ((Int × Int × LiI) ⊕ ((Int × LiI))):=
  (if Aa < (Ad.length:Int) then ((iter (fun s=>APu fuel Ae Aa s.1 s.2.1 s.2.2) fuel (Ab,(w64 (Aa + 1)),Ac)).bind (fun ((Af,Ag):Int × LiI)=>(some (Sum.inl (Af,(w64 (Aa + 1)),Ag))))) else (some (Sum.inr<| (Ab,Ac))))
def APw (fuel:Nat) (a5:Int) (Ac:LiI) (Ad Ab:Int):Option ((Int × Int) ⊕ ((Int))):=
  (if Ab < (Ac.length:Int) then ((gI Ac Ab).bind fun Ae=>(if a5≠0 then ((gI Ae Ab).bind fun Af=>(if a5≠0 then (some (Sum.inl ((Int.tmod (w64 ((Int.tmod Ad a5) * Af)) a5),(w64 (Ab + 1))))) else none)) else none)) else (some (Sum.inr<| Ad)))
def AN6 (fuel:Nat) (a3:LiI) (a5:Int):Option (Int × Int):=
  ((AFy fuel a3).bind fun x6=>(if (!x6)=true then (some (0,3)) else ((ABu fuel a5).bind fun Ac=>(if ¬ Ac=0 then (some (0,Ac)) else ((ACt fuel a3 a5).bind fun Ad=>(((((some ( a5)):Option (Int)).bind fun Af=>((iter (fun s=>APv fuel Ad Af s.1 s.2.1 s.2.2) fuel (1,0,Ad)).bind (fun ((Ag,Ah):Int × LiI)=>(some ( (Ag,Ah)))))):Option (Int × LiI)).bind fun (Ai,Aj)=>((iter (fun s=>APw fuel a5 Aj s.1 s.2) fuel ((w64 (Ai + a5)),0)).bind (fun (Ak:Int)=>(some (Ak,0))))))))))
theorem AZa {fuel:Nat} {h:Zv} {A8:Value} {a3:LiI} {a5:Int} {r:(Int × Int)} (H2:ACx (cI .i64) h A8 a3) (hp:AN6 fuel a3 a5=some r):AAw Tryz.prog 74 #[A8,(.int .i64 a5)] h (fun x h'=>Ext h h'/\x= .tuple #[.int .i64 r.1,.int .i64 r.2]):=by
 unfold AN6 at hp;refine cwf (l:=[_,_]) Tryz.func74 rfl rfl (Zo (AAn (Zu (Zp (Zo (Zk ?_))))));have K0:=Kst.k0 h;obtain ⟨x6,B1,Bc⟩:=Zq hp;refine ACa K0 (ARw (H2.ext K0.x) B1) fun Eb E9 Be=>ACr rfl (Zs (⟨_,rfl,fun Aj=>?_,fun Aj=>?_⟩))
 ·refine Zo (AAn (Zu (Zx (AAd ?_))));obtain rfl:=Zm (ifT Bc Aj);exact ⟨_,ABi,Be.x,rfl⟩
 ·refine Zw (q_t (Zp (Zo (Zk ?_))));obtain ⟨Ed,B3,Bf⟩:=Zq (AFe Bc Aj);refine ACa Be (AGz B3) fun Ee Ef Ak=>AA5 (Zk (ACp rfl rfl (Zs (⟨_,rfl,fun Am=>?_,fun Am=>?_⟩))))
  ·refine Zo (Zk (AAn (Zu (Zx (AAd ?_)))));obtain rfl:=Zm (AA8 Bf Am);exact ⟨_,ABi,Ak.x,rfl⟩
  ·refine Zw (q_t (Zo (Zk (Zk ?_))));obtain ⟨B4,B5,B6⟩:=Zq (AA9 Bf Am);refine AM5 Ak (AG7 (H2.ext Ak.x) B5) fun B7 B8 B9 Ab Eg Eh Ao=>AA5 (Zk (Zk ?_));obtain ⟨Ca,Cb,Cd⟩:=Zq B6;refine AA0 (K':=(fun xr h'=> ∃ x:(Int) × (LiI) × LnA × LnN × LvA,(x.1,x.2.1)=Ca/\xr=(.int .i64 x.1)/\Kst h h' (Ao.L.set 0 (aO2 (cI .i64) 60 2 x.2.2.1 x.2.2.2.1 x.2.2.2.2 Ab x.2.1)))) trivial rfl ?_ fun Ei Ej Ce=>?_
   ·refine cwf (l:=[_,_]) Tryz.func123 rfl rfl (Zo (AA5 (Zk ?_)));obtain ⟨Cf,Cg,Ch⟩:=Zq Cb;refine AA0 (K':=(fun xr h'=> ∃ x:(Nat) × (Int),x.2=Cf/\xr=(.func (.func 171) #[] #[(.pointer (some ⟨x.1,0,none⟩))])/\Kst h h' (aB 2 x.1 [(.int .i64 x.2)] :: Ao.L))) trivial rfl ?_ fun Ek El Ci=>?_
    ·refine cwf (l:=[_]) Tryz.func144 rfl rfl (Zo (AHb Ao [(.int .i64 a5)] fun Cj Em En Ck=>AA5 (Amh rfl (Zu (Zx (⟨_,Zz,((Cj,a5):(Nat) × (Int)),?_,rfl,?_⟩))))))
     ·exact Zm Cg
     ·exact Ck
    obtain ⟨⟨Cm,Eo⟩,Cn,rfl,Ap⟩:=Ci;refine ⟨trivial,?_⟩;subst Cn;refine AA5 (Zu (Zp (Zo (Zk (AA6 AAg rfl (Ap.o2 p1).rd (Zk (Zs (Zt (AFo 18889465931478580847040 (fun x:(Int) × (Int) × (LiI) × LnA × LnN × LvA=>(x.1,x.2.1,x.2.2.1)) ((1,0,B4,B7,B8,B9):(Int) × (Int) × (LiI) × LnA × LnN × LvA) Ch (fun x=>[(6,(.int .i64 x.1)),(13,(.int .i64 x.2.1))]) (fun x=>Ap.L.set 1 (aO2 (cI .i64) 60 2 x.2.2.2.1 x.2.2.2.2.1 x.2.2.2.2.2 Ab x.2.2.1)) Ap ⟨rfl,rfl,trivial⟩ ?_)))))))));rintro ⟨Bg,Af,Bh,Bi,Bj,Bl⟩ Ep Er Es Aq Ar Co;unfold APv at Ar;refine Zo (AAv rfl rfl (Zs (Zp (⟨_,rfl,fun Au=>?_,fun Au=>?_⟩))))
    ·refine Zw (q_t (Zp (Zt (Zo (Zk (AA5 (Zk (AAx rfl rfl (Zu (Zt (AFo 9444732965739290165568 (fun x:(Int) × (Int) × (LiI) × LnA × LnN × LvA=>(x.1,x.2.1,x.2.2.1)) ((Bg,(w64 (Af + 1)),Bh,Bi,Bj,Bl):(Int) × (Int) × (LiI) × LnA × LnN × LvA) (AA8 Ar Au) (fun x=>[(6,(.int .i64 x.1)),(8,(.int .i64 x.2.1))]) (fun x=>Aq.L.set 1 (aO2 (cI .i64) 60 2 x.2.2.2.1 x.2.2.2.2.1 x.2.2.2.2.2 Ab x.2.2.1)) Aq ⟨rfl,rfl,trivial⟩ ?_)))))))))));rintro ⟨Cp,Av,Cq,Cr,Ct,Cu⟩ Et Eu Ev Ag Aw Cv;unfold APu at Aw;refine Zp (Zo (Zk (Zk (AA6 AAg rfl (Ag.o2 p1).rd (AAv rfl rfl (Zs (⟨_,rfl,fun Ax=>?_,fun Ax=>?_⟩)))))))
     ·refine Zw (q_t (Zp (Zt (Zt (AFo 9444732965739273650240 (fun x:(Int) × (LiI) × LnA × LnN × LvA=>(x.1,x.2.1)) ((Cp,Cq,Cr,Ct,Cu):(Int) × (LiI) × LnA × LnN × LvA) (AA8 Aw Ax) (fun x=>[(6,(.int .i64 x.1))]) (fun x=>Ag.L.set 1 (aO2 (cI .i64) 60 2 x.2.2.1 x.2.2.2.1 x.2.2.2.2 Ab x.2.1)) Ag ⟨rfl,trivial⟩ ?_)))));rintro ⟨Ew,Ey,Bm,Bn,Bo⟩ Ez Fa Fb Aa Bp Cw;unfold ANm at Bp;refine Zp (Zo (Zk (Zk ?_)));obtain ⟨Fc,Ac,Cx⟩:=Zq Bp;refine AB1 AAg AA3 (Aa.o2 p1) Ac fun _ Fd Cy=>Zk ?_;obtain ⟨Cz,Bq,Br⟩:=Zq Cx;refine AIy (m:=Av) AAi AAl (Aa.o2 p1) Cy Ac Bq fun _=>(ACp rfl rfl (Zs (⟨_,rfl,fun Ay=>?_,fun Ay=>?_⟩)))
      ·refine Zw (q_t (Zt (Zp (AGe (Zk (Zk (Zk ?_)))))));obtain ⟨Fe,Az,C0⟩:=Zq (AA8 Br Ay);refine AB1 AAg AA3 (Aa.o2 p1) Az fun _ C1 Bt=>Zk (Zk (AB1 AAg AA3 (Aa.o2 p1) Ac fun _ C2 Bu=>Zk (Zk (AB1 AAg AA3 (Aa.o2 p1) Az fun _ Ff C3=>Zk ?_))));obtain ⟨C4,C5,C6⟩:=Zq C0;refine AIy (m:=Af) AAi AAl (Aa.o2 p1) C3 Az C5 fun _=>(Zk (Zk (AB1 AAg AA3 (Aa.o2 p1) Ac fun _ Fg C7=>Zk (AIy (m:=Av) AAi AAl (Aa.o2 p1) C7 Ac Bq fun _=>?_))));obtain ⟨C8,C9⟩:=ifN C6;refine AU5 rfl rfl C8 ?_;obtain ⟨Da,Db,Dc⟩:=Zq C9;refine AZt (l:=[C1,C2,(.int .i64 (w64 (Int.tdiv C4 Cz)))]) (cl:=[(.pointer (some ⟨Cm,0,none⟩))]) (K':=(fun xr h'=> ∃ x:(LiI),x=Da/\xr= .tuple #[]/\Kst h h' (Aa.L.set 1 (aO2 (cI .i64) 60 2 Bm Bn Bo Ab x)))) trivial rfl rfl ?_ fun Fh Fi Dd=>?_
       ·refine cwf (l:=[_,_,_,_]) Tryz.func171 rfl rfl (Zo (Zk (ABj AAi rfl ((Aa.o2 p1).rowI Bu Ac) (Zk (Zs (Zt (AG5 4294965632 Db (fun x=>[(11,(.int .i64 x.1))]) (fun x=>Aa.L.set 1 (aO2 (cI .i64) 60 2 Bm Bn Bo Ab x.2)) Aa ⟨rfl,trivial⟩ ?_)))))));rintro ⟨Fj,De⟩ Fk Fl Fm Ad A3 Df;unfold ANl at A3;refine Zo (AAv rfl rfl (Zs (Zp (⟨_,rfl,fun A4=>?_,fun A4=>?_⟩))))
        ·refine Zw (q_t (Zp (Zt (Zo (Zk ?_)))));obtain ⟨Fo,Dg,Dh⟩:=Zq (AA8 A3 A4);obtain ⟨Fp,Di,Dj⟩:=Zq Dh;refine AIy (m:=Av) AAi AAl (Ad.o2 p1) Bu Dg Di fun _=>(AAn (Zu (AGe (Zk (Zk (Zk (Zk ?_)))))));obtain ⟨Fq,Bv,Dk⟩:=Zq Dj;obtain ⟨Fr,Bw,Dl⟩:=Zq Dk;refine AIy (m:=Af) AAi AAl (Ad.o2 p1) Bt Bv Bw fun _=>AA7 AAl rfl ((Ad.b p0).cell (i:=0) rfl) (Zk (AFl rfl rfl (Zk (AL9 rfl rfl (AAx rfl rfl (AA7 AAl rfl ((Ad.b p0).cell (i:=0) rfl) ?_))))));obtain ⟨Do,Dp⟩:=ifN Dl;refine ADk rfl rfl Do (ALo (m:=Af) Ad p1 AAi AAl Bt Bv Bw (fun _=>rfl) fun _ Ft Dq=>AAo (q_b (q_t (AAc (AAx rfl rfl (Zk (Zs ?_)))))));exact ⟨_,(Zm Dp).symm,Dq,rfl,trivial⟩
        ·refine AAj (AAk (AAk (ABm (⟨_,AS4,(De:(LiI)),?_,rfl,?_⟩))))
         ·exact Zm (Df _ (Zm (AA9 A3 A4)).symm)
         ·exact Ad
       obtain ⟨Fu,Dr,rfl,Ah⟩:=Dd;refine ⟨trivial,?_⟩;subst Dr;refine Zs (Zp (AGe (Zk (Zk (Zk (Zk (Zk (Zk ?_))))))));obtain ⟨Fv,Bx,Ds⟩:=Zq Dc;refine AB1 AAg AA3 (Ah.o2 p1) Bx fun _ Fw Dt=>Zk (Zk ?_);obtain ⟨Fx,By,Du⟩:=Zq Ds;refine AB1 AAg AA3 (Ah.o2 p1) By fun _ Fy Dv=>ARo AAg AA3 (Ah.o2 p1) Dv Dt By Bx rfl rfl (fun _=>rfl) (fun _=>rfl) (fun _=>rfl) (fun _ _=>rfl) fun Fz F4 F5 F6 F7 F8 Dw Dx Dy=>Zs (AAc (Zk (AWh rfl (AAn (AAo (q_b (q_t ?_)))))));exact ⟨(_,_,_,_,_),(Zm Du).symm,(Ah.uo2 p1 Dx Dw Dy),rfl,trivial⟩
      ·refine AAj (AAk (AAk (ABm (q_b (q_t (AAc (Zk (AAx rfl rfl (Zu ?_)))))))));exact ⟨(_,_,_,_,_,_),(Zm (Cw _ (Zm (AA9 Br Ay)).symm)).symm,Aa,rfl,rfl,trivial⟩
     ·refine AAj (AAk (AAk (ABm (q_b (q_t (AAc (AAx rfl rfl (Zk (Zs ?_)))))))));exact ⟨(_,_,_,_,_,_),(Zm (Cv _ (Zm (AA9 Aw Ax)).symm)).symm,Ag,rfl,rfl,trivial⟩
    ·refine AAj (AAk (AAk (ABm (q_t (Zo (Zk (Zu (Zx (⟨_,Zz,((Bg,Bh,Bi,Bj,Bl):(Int) × (LiI) × LnA × LnN × LvA),?_,rfl,?_⟩)))))))))
     ·exact Zm (Co _ (Zm (AA9 Ar Au)).symm)
     ·exact Aq.sel [1] Zl
   obtain ⟨⟨F9,Ga,Gb,Gc,Gd⟩,Dz,rfl,A5⟩:=Ce;refine ⟨trivial,?_⟩;subst Dz;refine Zk (AAx rfl rfl (Zu (Zp (Zo (Zk (AA6 AAg rfl (A5.o2 p0).rd (Zk (Zs (Zt (AG5 35183835219712 Cd (fun x=>[(8,(.int .i64 x.1)),(29,(.int .i64 x.2))]) (fun x=>A5.L) A5 ⟨rfl,rfl,trivial⟩ ?_))))))))));rintro ⟨Ge,D0⟩ Gf Gg Gh Ai A6 D1;unfold APw at A6;refine Zo (AAv rfl rfl (Zs (Zp (⟨_,rfl,fun A7=>?_,fun A7=>?_⟩))))
   ·refine Zw (q_t (Zp (Zt (Zo (Zk ?_)))));obtain ⟨Gi,Bz,D2⟩:=Zq (AA8 A6 A7);refine AB1 AAg AA3 (Ai.o2 p0) Bz fun _ Gj D3=>AAn (Zu (AGe (Zk (Zk ?_))));obtain ⟨D4,D5⟩:=ifN D2;refine ADk rfl rfl D4 (Zk (Zk ?_));obtain ⟨Gk,D6,D7⟩:=Zq D5;refine AIy (m:=D0) AAi AAl (Ai.o2 p0) D3 Bz D6 fun _=>(AL9 rfl rfl (Zk ?_));obtain ⟨D8,D9⟩:=ifN D7;refine ADk rfl rfl D8 (AAn (AAo (q_b (q_t (AAc (AAx rfl rfl (Zk (Zs ?_))))))));exact ⟨_,(Zm D9).symm,Ai,rfl,rfl,trivial⟩
   ·refine AAj (AAk (AAk (ABm (q_t (Zo (Zk (AAn (Zu (Zx ?_)))))))));obtain rfl:=Zm (D1 _ (Zm (AA9 A6 A7)).symm);exact ⟨_,ABi,Ai.x,rfl⟩
end Go.Proofs.YtdkldlbgcfpglaaGreatDoor
namespace Go.Proofs.YtdkldlbgcfpglaaGreatDoor
open Go Go.QF
set_option maxRecDepth 100000
theorem Apk {E:Type} {body:Int->Option (Int ⊕ E)} {fuel n:Nat} {e:E} (hf:n < fuel) (hs:∀ i:Nat,i < n->body (i:Int)=some (.inl ((i + 1:Nat):Int))) (he:body (n:Int)=some (.inr e)):iter body fuel 0=some e:=by
 apply ok_eq;refine ABa (fun i s=>s=(i:Int)) n rfl hf fun i s hi hI=>?_;subst hI;by_cases h:i < n
 ·rw [hs i h];exact Zn ⟨h,rfl⟩
 ·obtain rfl:i=n:=by omega
  rw [he];exact Zn rfl
theorem AVr {fuel n:Nat} {F:AAb} (Aa:1<=n) (hn:n<=8) (hf:100 < fuel):AFx fuel (tab n n F)=some true:=by
 unfold AFx;rw [AAt,if_neg Zj,if_neg Zj,AUu (AA1 Zj),AA2,if_neg Zj,if_neg Zj];simp only [Option.bind_some];rw [Apk (n:=n) (e:= .inr ()) Zj (fun i hi=>?_) ?_]
 ·rfl
 ·unfold AL4;rw [AAt,if_neg Zj]
 ·unfold AL4;rw [AAt,if_pos Zj,ACw (AA1 hi),AUu (AA1 Zj),AA2,AA2,if_neg (fun h=>h rfl),ABr Zj]
theorem AWa {n j:Nat} {g:Nat->Int} {x:Int}:sI (AB6 n g) (j:Int) x=AB6 n fun c=>if c=j then x else g c:=by rw [AB0,AD7]
theorem AHc {n i:Nat} {F:AAb} {g:Nat->Int}:sI (tab n n F) (i:Int) (AB6 n g)=tab n n (ABy F i g):=by
 rw [AB0];exact AK4
theorem AYa {n r:Nat} {F:AAb} {g g':Nat->Int} (h:∀ c,c < n->g c=g' c):tab n n (ABy F r g)=tab n n (ABy F r g'):=ANh fun i j _ hj=>by
  rw [ABd,ABd,h j hj]
structure Ab7 (n:Nat) (m:Int) (A F:AAb) (s:Int) (c:Nat):Prop where
  sg:s=1∨s= -1
  bd:Bd n n m F
  z:Zc n F c
  d:Eqm m (det n F) (s * det n A)
theorem Asf {m a b x y:Int} (hm:2<=m) (Ab:m<=2147483647) (ha:0<=a/\a < m) (hb:0 < b/\b < m) (hx:0<=x/\x < m) (hy:0<=y/\y < m):Int.tmod (w64 (x + (w64 ((w64 (m - (w64 (Int.tdiv a b)))) * y)))) m=(x + (m - a / b) * y) % m:=by
 have hq:=Ats ha.1 ha.2 hb.1;have h1:Int.tdiv a b=a / b:=Int.tdiv_eq_ediv_of_nonneg ha.1;have h0:0<=(m - a / b) * y:=Int.mul_nonneg Zj hy.1;have h2:(m - a / b) * y<=2147483647 * 2147483647:=Int.mul_le_mul Zj Zj hy.1 Zj;rw [h1,ACk (x:=a / b) Zj Zj,ACk (x:=m - a / b) Zj Zj,ACk (x:=(m - a / b) * y) Zj Zj,wk Zj,Int.tmod_eq_emod_of_nonneg Zj]
theorem Asg {fuel n c i:Nat} {m:Int} {F:AAb} (hn:n<=8) (hm:2<=m) (Ac:m<=2147483647) (hc:c < n) (hi:i < n) (hne:c≠i) (hB:Bd n n m F) (h0:F i c≠0) (hf:100 < fuel):
    iter (fun s=>ANl fuel m c i (AB6 n (F i)) (F i c) (F c c) s.1 s.2) fuel (0,tab n n F)=some (tab n n (ABy F c fun x=>(F c x + (m - F c c / F i c) * F i x) % m)):=by
 apply ok_eq;refine ABa (fun j s=>s=((j:Int),tab n n (ABy F c fun x=>if x < j then (F c x + (m - F c c / F i c) * F i x) % m else F c x))) n ?_ Zj fun j s hj hI=>?_
 ·have:(fun x=>if x < 0 then (F c x + (m - F c c / F i c) * F i x) % m else F c x)=F c:=funext fun x=>if_neg Zj;rw [this,AOl];rfl
 ·subst hI;unfold ANl;dsimp only;rw [AA2];by_cases h:j < n
  ·have b1:=hB c c hc hc;have b2:=hB i c hi hc;rw [if_pos Zj,ACw (AA1 hi),AD5 _ _ (Ne.symm hne),ACw (AAq h),ACw (AA1 hc),ABt,ACw (AAq h),if_pos Zj,if_neg Zj,Asf hm Ac (hB c c hc hc) ⟨Zj,b2.2⟩ (hB c j hc h) (hB i j hi h),AWa,AHc,ANk,ABr Zj];refine Zn ⟨h,congrArg (fun z=>(((j + 1:Nat):Int),tab n n (ABy F c z))) (funext fun x=>?_)⟩;by_cases h1:x=j
   ·rw [if_pos h1,if_pos Zj,h1]
   ·rw [if_neg h1];by_cases h2:x < j
    ·rw [if_pos h2,if_pos Zj]
    ·rw [if_neg h2,if_neg Zj]
  ·obtain rfl:j=n:=by omega
   rw [if_neg Zj];exact Zn (AYa fun x hx=>if_pos hx)
theorem Alu {n c i:Nat} {m s:Int} {A F:AAb} (hm:2<=m) (hc:c < n) (hi:i < n) (hci:c < i) (H:Ab7 n m A F s c) (q:Int):Ab7 n m A (ATb F c i q m) (-s) c:=by
 have h1:=(Eqm.refl m 0).sub H.d;rw [Int.zero_sub,Int.zero_sub] at h1;refine ⟨by rcases H.sg with h | h <;> rw [h] <;> simp,Aqd Zj H.bd hc hi,Aqe H.z hci hi,(Alc hc hi Zj).trans ?_⟩;rw [Int.neg_mul];exact h1
theorem Aid {fuel n c i:Nat} {m s:Int} {A F:AAb} (hn:n<=8) (hm:2<=m) (Ab:m<=2147483647) (hc:c < n) (hi:i < n) (hci:c < i) (H:Ab7 n m A F s c) (hZ:Zi F c i) (hf:2147483648 < fuel):
    Ok (iter (fun s=>ANm fuel m c i s.1 s.2) fuel (s,tab n n F)) fun e=> ∃ s' F',e=(s',tab n n F')/\Ab7 n m A F' s' c/\Zi F' c i/\F' i c=0:=by
 refine ABa (fun k st=> ∃ s' F',st=(s',tab n n F')/\Ab7 n m A F' s' c/\Zi F' c i/\F' i c + k<=m) m.toNat ⟨s,F,rfl,H,hZ,by have:=H.bd i c hi hc;omega⟩ Zj fun k st hk hI=>?_;obtain ⟨s',F',rfl,H',hZ',hk'⟩:=hI;have hB:=H'.bd;have b2:=hB i c hi hc;unfold ANm;dsimp only;rw [ACw (AA1 hi),ACw (AAq hc)];refine AAh (fun h=>?_) fun h=>Zn ⟨s',F',rfl,H',hZ',Decidable.not_not.1 h⟩;rw [ACw (AA1 hc),ACw (AAq hc),if_pos h,Asg hn hm Ab hc hi Zj hB h Zj];simp only [Option.bind_some]
 have e1:∀ g,sI (sI (tab n n (ABy F' c g)) (c:Int) (AB6 n (F' i))) (i:Int) (AB6 n g)=tab n n (AEm (ABy F' c g) c i):=fun g=>by
   rw [AHc,AHc]
   unfold AEm
   rw [ABt,AD5 _ _ (show i≠c by omega)]
 have b1:=hB c c hc hc;rw [ACw (AA1 hi),AD5 _ _ (show i≠c by omega),ACw (AA1 hc),ABt,e1,ACk (by rcases H'.sg with h | h <;> omega) (by rcases H'.sg with h | h <;> omega),Int.zero_sub];refine Zn ⟨Zj,-s',_,rfl,Alu hm hc hi hci H' _,Aqf hZ',?_⟩;show ATb F' c i (F' c c / F' i c) m i c + ((k + 1:Nat):Int)<=m;rw [Ais];dsimp only;rw [Aqg b1.1 b1.2 Zj b2.2];have:=Int.emod_lt_of_pos (F' c c) (show 0 < F' i c by omega);omega
theorem Avd {fuel n:Nat} {T:AAb} {m:Int} (Af:1<=n) (hn:n<=8) (hm:2<=m) (Ad:m<=2147483647) (hf:2147483648 < fuel):AN6 fuel (tab n n T) m=some (det n T % m,0):=by
 unfold AN6
 have h0:AFy fuel (tab n n T)=some true:=by
   unfold AFy
   rw [AVr Af hn Zj]
   simp only [Option.bind_some,reduceIte]
   rw [AUu (AA1 Zj),AA2,AAt,if_pos rfl,decide_eq_true Zj]
 have h1:ABu fuel m=some 0:=by unfold ABu;rw [if_neg Zj,if_neg Zj]
 rw [h0];simp only [Option.bind_some];rw [if_neg Zl,h1];simp only [Option.bind_some];rw [if_neg Zl,Abt hn hm Ad Zj];simp only [Option.bind_some];apply ok_eq;generalize hA:(fun i j=>T i j % m)=A;have hAd:Eqm m (det n A) (det n T):=by subst hA;exact AV6 fun i j _ _=>Eqm.mod _ _
 have hAb:Bd n n m A:=by subst hA;exact fun i j _ _=>⟨Int.emod_nonneg _ Zj,Int.emod_lt_of_pos _ Zj⟩
 refine Zr (Q:=fun e:Int × List (List Int)=> ∃ F,e.2=tab n n F/\Ab7 n m A F e.1 n) (Zr (ABa (fun c st=> ∃ s F,st=(s,(c:Int),tab n n F)/\c<=n/\Ab7 n m A F s c) n (Q:=fun e:Int × List (List Int)=> ∃ F,e.2=tab n n F/\Ab7 n m A F e.1 n) ⟨1,A,rfl,Nat.zero_le _,.inl rfl,hAb,fun c' i h=>absurd h (Nat.not_lt_zero _),by rw [Int.one_mul];exact Eqm.refl _ _⟩ Zj fun c st hc hI=>?_) fun e he=>Zn he) fun e he=>?_
 ·obtain ⟨s,F,rfl,hcn,H⟩:=hI;unfold APv;dsimp only;rw [AAt];refine AAh (fun h=>?_) fun h=>Zn ⟨F,rfl,(show c=n by omega) ▸ H⟩;have hc':c < n:=by omega
  rw [ABr Zj];refine Zr (ABa (fun k st=> ∃ s F,st=(s,((c + 1 + k:Nat):Int),tab n n F)/\c + 1 + k<=n/\Ab7 n m A F s c/\Zi F c (c + 1 + k)) (n - (c + 1)) (Q:=fun e:Int × List (List Int)=> ∃ F,e.2=tab n n F/\Ab7 n m A F e.1 (c + 1)) ⟨s,F,rfl,Zj,H,fun k h1 h2=>by omega⟩ Zj fun k st hk hI=>?_) fun e he=>?_
  ·obtain ⟨s',F',rfl,hkn,H',hZ'⟩:=hI;unfold APu;dsimp only;rw [AAt];refine AAh (fun h2=>Zr (Aid hn hm Ad hc' Zj Zj H' hZ' hf) fun e he=>?_) fun h2=>Zn ⟨F',rfl,H'.sg,H'.bd,Aiu H'.z ((show c + 1 + k=n by omega) ▸ hZ'),H'.d⟩;obtain ⟨s2,F2,rfl,H2,Aj,h3⟩:=he;exact Zn ⟨Zj,s2,F2,by rw [ABr Zj];rfl,Zj,H2,Ait Aj h3⟩
  ·obtain ⟨e1,e2⟩:=e;obtain ⟨F',h2,H'⟩:=he;dsimp only at h2 H';subst h2;exact Zn ⟨Zj,e1,F',rfl,Zj,H'⟩
 ·obtain ⟨s,M⟩:=e;obtain ⟨F,h2,H⟩:=he;dsimp only at h2 H;subst h2;dsimp only;rw [ACk (by rcases H.sg with h | h <;> omega) (by rcases H.sg with h | h <;> omega)];refine Zr (ABa (fun k st=>st=(ATz F m s k,(k:Int))/\k<=n) n (Q:=(· =ATz F m s n)) ⟨rfl,Nat.zero_le _⟩ Zj fun k st hk hI=>?_) fun e he=>Zn ?_
  ·obtain ⟨rfl,hkn⟩:=hI;unfold APw;dsimp only;rw [AAt];by_cases h:k < n
   ·have hd:=Aqh (F:=F) (m:=m) (s:=s) hm H.sg k;have hb:=H.bd k k h h;have h3:=Int.emod_nonneg (ATz F m s k) (show m≠0 by omega);have h4:=Int.emod_lt_of_pos (ATz F m s k) (show 0 < m by omega);have h5:=Int.mul_nonneg h3 hb.1;have h6:ATz F m s k % m * F k k<=2147483647 * 2147483647:=Int.mul_le_mul Zj Zj hb.1 Zj;rw [if_pos Zj,ACw (AA1 h),if_pos Zj,ACw (AAq h),if_pos Zj,Int.tmod_eq_emod_of_nonneg hd.1,ACk (x:=ATz F m s k % m * F k k) Zj Zj,Int.tmod_eq_emod_of_nonneg h5,ABr Zj];exact Zn ⟨h,rfl,Zj⟩
   ·obtain rfl:k=n:=by omega
    rw [if_neg Zj];exact Zn rfl
  ·subst he
   have h3:Eqm m (ATz F m s n) (det n T):=by
     refine (Aow _).trans ?_
     rw [<- ATi H.z]
     refine ((Eqm.refl m s).mul H.d).trans (Eqm.trans (Eqm.of_eq ?_) hAd)
     rcases H.sg with h | h <;> rw [h] <;> grind
   have h4:0<=ATz F m s n/\ATz F m s n < m:=by
     obtain ⟨k,rfl⟩:∃ k,n=k + 1:=⟨n - 1,Zj⟩
     unfold ATz
     exact ⟨Int.emod_nonneg _ Zj,Int.emod_lt_of_pos _ Zj⟩
   unfold Eqm at h3;rw [<- h3,Int.emod_eq_of_lt h4.1 h4.2]
end Go.Proofs.YtdkldlbgcfpglaaGreatDoor
namespace Go.Proofs.YtdkldlbgcfpglaaGreatDoor
open Go Go.QF
set_option maxRecDepth 100000
set_option maxHeartbeats 4000000
def APe (fuel:Nat) (a2 Ac Ab:Int):Option ((Int × Int) ⊕ ((Int × Int))):=
  (if a2≠0 then (if (Int.tmod Ab a2)=0 then (if a2≠0 then (some (Sum.inl ((w64 (Ac + 1)),(w64 (Int.tdiv Ab a2))))) else none) else (some (Sum.inr<| (Ac,Ab)))) else none)
def AJb (fuel:Nat) (a1 a2:Int):Option AGb:=
  ((iter (fun s=>APe fuel a2 s.1 s.2) fuel (0,a1)).bind (fun ((Ac,Ad):Int × Int)=>(some (Ac,1,Ad,0,0))))
theorem APf {fuel:Nat} {h:Zv} {a1 a2:Int} {r:AGb} (hp:AJb fuel a1 a2=some r):AAw Tryz.prog 76 #[(.int .i64 a1),(.int .i64 a2)] h (fun x h'=>Ext h h'/\x= .agg #[.int .i64 r.1,.int .i64 r.2.1,.int .i64 r.2.2.1,.int .i64 r.2.2.2.1,.int .i64 r.2.2.2.2]):=by
 unfold AJb at hp;refine cwf (l:=[_,_]) Tryz.func76 rfl rfl (Zo (AC4 (Kst.k0 h) [(.int .i64 0),(.int .i64 0),(.int .i64 0),(.int .i64 0),(.int .i64 0)] ARj fun b3 h4 E6 K9=>AId (Zk (ADr (v:=(.agg #[(.int .i64 0),(.int .i64 1),(.int .i64 a1),(.int .i64 0),(.int .i64 0)])) (fun _=>by kernel_rfl) (AC4 K9 [(.int .i64 0),(.int .i64 0),(.int .i64 0),(.int .i64 0),(.int .i64 0)] ARj fun Ap Ba Bb Ah=>AB9 [(.int .i64 0),(.int .i64 1),(.int .i64 a1),(.int .i64 0),(.int .i64 0)] AK5 rfl rfl rfl rfl (by simp [isOne]) (Ah.b p0) fun Bc Aq Ar=>Zs (Zp ?_))))));refine Zt ?_;have Ai:=Ah.sb p0 Ar Aq rfl;refine AG5 4194048 hp (fun x=>[]) (fun x=>Ai.L.set 0 (aB 59 Ap [(.int .i64 x.1),(.int .i64 1),(.int .i64 x.2),(.int .i64 0),(.int .i64 0)])) Ai trivial ?_;rintro ⟨Ad,Ae⟩ Be Bf Bg Aa Aj Au;unfold APe at Aj;refine Zp (Zo (ADj ANj AAl (Aa.b p0) 2 rfl (Zk ?_)));obtain ⟨Av,Ak⟩:=ifN Aj;refine ADk rfl rfl Av (ABx rfl rfl (Zs (⟨_,rfl,fun Af=>?_,fun Af=>?_⟩)))
 ·refine Zw (q_t (Zt (Zo (ADj ANj AAl (Aa.b p0) 2 rfl (Zk ?_)))));obtain ⟨Aw,Ax⟩:=ifN (AA8 Ak Af);refine AU5 rfl rfl Aw (ACd ANj rfl (AQs [(.int .i64 Ad),(.int .i64 1),(.int .i64 (w64 (Int.tdiv Ae a2))),(.int .i64 0),(.int .i64 0)] AAl rfl rfl rfl (Aa.b p0) (Nat.le_of_ble_eq_true rfl) rfl fun Bh Ay Az=>Zs (AAc ?_)));have Ag:=Aa.sb p0 Az Ay rfl;refine ADj AHr ABv (Ag.b p0) 0 rfl (AAx rfl rfl (ACd AHr rfl (AQs [(.int .i64 (w64 (Ad + 1))),(.int .i64 1),(.int .i64 (w64 (Int.tdiv Ae a2))),(.int .i64 0),(.int .i64 0)] ABv rfl rfl rfl (Ag.b p0) (Nat.le_of_ble_eq_true rfl) rfl fun Bi A3 A4=>AAo (q_b (q_t ?_)))));exact ⟨_,(Zm Ax).symm,(Ag.sb p0 A4 A3 rfl),trivial⟩
 ·refine AAj (AAk (AAk (ABm (q_t (Zo (ANn [(.int .i64 Ad),(.int .i64 1),(.int .i64 Ae),(.int .i64 0),(.int .i64 0)] AK5 rfl rfl (Aa.b p0).agg (AB9 [(.int .i64 Ad),(.int .i64 1),(.int .i64 Ae),(.int .i64 0),(.int .i64 0)] AK5 rfl rfl rfl rfl (by simp [isOne]) (Aa.b p1) fun Bj A5 A6=>Zs (Zx ?_))))))));have Am:=Aa.sb p1 A6 A5 rfl;obtain rfl:=Zm (Au _ (Zm (AA9 Ak Af)).symm);exact ⟨_,ACg AK5 rfl rfl (Am.b p1),Am.x,rfl⟩
def AL6 (fuel:Nat) (Ad:Int) (Ab:LiA) (Aa:Int):Option ((Int) ⊕ ((Bool) ⊕ (Unit))):=
  (if Aa < (Ab.length:Int) then ((gI Ab Aa).bind fun Ac=>(if Ac < 0 then (some (Sum.inr<| Sum.inl <| false)) else (if Ad<=Ac then (some (Sum.inr<| Sum.inl <| false)) else (some (Sum.inl (w64 (Aa + 1))))))) else (some (Sum.inr<| Sum.inr <| ())))
def AL7 (fuel:Nat) (Ac:LiI) (Ab:Int) (Ad:LiA) (Aa:Int):Option ((Int) ⊕ ((Bool) ⊕ (Unit))):=
  (if Aa < (Ad.length:Int) then ((gI Ac Ab).bind fun Ae=>((gI Ae Aa).bind fun Af=>(if ¬ Aa=Ab then (if ¬ Af=0 then (some (Sum.inr<| Sum.inl <| false)) else (some (Sum.inl (w64 (Aa + 1))))) else (some (Sum.inl (w64 (Aa + 1))))))) else (some (Sum.inr<| Sum.inr <| ())))
def AL8 (fuel:Nat) (a5:Int) (Ae:(List AGb)) (Ad:LiI) (Aa:Int):Option ((Int) ⊕ ((Bool) ⊕ (Unit))):=
  (if Aa < (Ad.length:Int) then ((gI Ad Aa).bind fun Ah=>((((gI Ad Aa).bind fun Ai=>((gI Ai Aa).bind fun Af=>(if Af=0 then (some (Sum.inl <| false)) else ((gI Ae Aa).bind fun Ab=>((AJb fuel Af a5).bind fun Ac=>(if (!(decide ((Ab.1,Ab.2.1,Ab.2.2.1,Ab.2.2.2.1,Ab.2.2.2.2)=(Ac.1,Ac.2.1,Ac.2.2.1,Ac.2.2.2.1,Ac.2.2.2.2))))=true then (some (Sum.inl <| false)) else (some (Sum.inr <| ())))))))):Option ((Bool) ⊕ (Unit))).bind (fun ex=>match ex with | Sum.inl Aj=>(some (Sum.inr<| Sum.inl <| Aj)) | Sum.inr (_)=>(((if 0 < Aa then ((gI Ae Aa).bind fun Ak=>((gI Ae (w64 (Aa - 1))).bind fun Am=>(if Ak.1 < Am.1 then (some (Sum.inl <| false)) else (some (Sum.inr <| ()))))) else (some (Sum.inr <| ()))):Option ((Bool) ⊕ (Unit))).bind (fun ex=>match ex with | Sum.inl Ao=>(some (Sum.inr<| Sum.inl <| Ao)) | Sum.inr (_)=>((iter (fun s=>AL7 fuel Ad Aa Ah s) fuel 0).bind (fun ex=>match ex with | Sum.inl Ap=>(some (Sum.inr<| Sum.inl <| Ap)) | Sum.inr (_)=>(some (Sum.inl (w64 (Aa + 1))))))))))) else (some (Sum.inr<| Sum.inr <| ())))
def AJc (fuel:Nat) (a8:LiI) (Ac Aa:Int):Option ((Int) ⊕ ((Bool) ⊕ (Unit))):=
  (if Aa < (a8.length:Int) then ((gI a8 Aa).bind fun Ad=>((iter (fun s=>AL6 fuel Ac Ad s) fuel 0).bind (fun ex=>match ex with | Sum.inl Ae=>(some (Sum.inr<| Sum.inl <| Ae)) | Sum.inr (_)=>(some (Sum.inl (w64 (Aa + 1))))))) else (some (Sum.inr<| Sum.inr <| ())))
def AMg (fuel:Nat) (a3:LiI) (a5:Int) (a8:LiI) (Ae:(List AGb)) (Ac:Int):Option Bool:=
  ((iter (fun s=>AJc fuel a8 Ac s) fuel 0).bind (fun ex=>match ex with | Sum.inl Af=>(some Af) | Sum.inr (_)=>((AN6 fuel a8 a5).bind fun (Ag,Aj)=>(if Ag=0 then (some false) else ((AHk fuel a3 a8 Ac).bind fun (Ah,Ak)=>((iter (fun s=>AL8 fuel a5 Ae Ah s) fuel 0).bind (fun ex=>match ex with | Sum.inl Ai=>(some Ai) | Sum.inr (_)=>(some true))))))))
theorem AW6 {fuel:Nat} {h:Zv} {Bp:Value} {a3:LiI} {a5:Int} {Aw:Value} {a8:LiI} {Ax:Value} {Bt:(List AGb)} {Bu:Int} {r:Bool} (H2:ACx (cI .i64) h Bp a3) (H7:ACx (cI .i64) h Aw a8) (Ay:SlC AOp h Ax Bt) (hp:AMg fuel a3 a5 a8 Bt Bu=some r):AAw Tryz.prog 38 #[Bp,(.agg #[(.int .i64 a5),Aw,Ax]),(.int .i64 Bu)] h (fun x h'=>Ext h h'/\x= .bool r):=by
 unfold AMg at hp;refine cwf (l:=[_,_,_]) Tryz.func38 rfl rfl (Zo (AHb (Kst.k0 h) [(.int .i64 a5),Aw,Ax] fun Dj Dk Dl Az=>Zu (Zp (Zo (ADj ALv AD6 (Az.b p0) 1 rfl (AA6 AAg rfl H7 (Zk (Zs (Zt (AG5 2199019062592 hp (fun x=>[(22,(.int .i64 x))]) (fun x=>Az.L) Az ⟨rfl,trivial⟩ ?_))))))))));rintro Do Dp Dq Dr Ac A3 A4;unfold AJc at A3;refine Zo (AAv rfl rfl (Zs (Zp (⟨_,rfl,fun A5=>?_,fun A5=>?_⟩))))
 ·refine Zw (q_t (Zp (Zt (Zo ?_))));obtain ⟨Ds,Cd,Ce⟩:=Zq (AA8 A3 A5);refine AGh AAg AA3 H7 Ac.x Cd fun _ Dt Bv=>AA5 (Zk (ABj AAi rfl Bv (Zk (Zs (Zt (AG5 1099243193408 Ce (fun x=>[(28,(.int .i64 x))]) (fun x=>Ac.L) Ac ⟨rfl,trivial⟩ ?_))))));rintro Du Dv Dw Dx Ae A6 A7;unfold AL6 at A6;refine Zo (AAv rfl rfl (Zs (Zp (⟨_,rfl,fun A8=>?_,fun A8=>?_⟩))))
  ·refine Zw (q_t (Zp (Zt (Zo ?_))));obtain ⟨Cf,Cg,Bw⟩:=Zq (AA8 A6 A8);refine AUs AAi AAl Bv Ae.x Cg fun _=>(AA5 (Zk (AAv rfl rfl (Zk ?_))));by_cases Ak:Cf < 0
   ·rw [decide_eq_true Ak];refine AC8 34 true (AAa rfl (Zs (AAr rfl (Zo (Zu (Zx (ABg (AAd (AAd (ABg (ABg (AAd (AAd (ABg (AAd ?_)))))))))))))));obtain rfl:=Zm (A4 _ (Zm (A7 _ (Zm (ifT Bw Ak)).symm)).symm);exact ⟨_,Zz,Ae.x,rfl⟩
   ·have Bx:=ifF Bw Ak;rw [decide_eq_false Ak];refine Z4 34 false (Zk (Z4 34 false (Zk (Z4 34 false (AMn rfl rfl (Z1 rfl (Zs (⟨_,rfl,fun A9=>?_,fun A9=>?_⟩))))))))
    ·refine Zo (Zu (Zx (ABg (AAd (AAd (ABg (ABg (AAd (AAd (ABg (AAd ?_)))))))))));obtain rfl:=Zm (A4 _ (Zm (A7 _ (Zm (AA8 Bx A9)).symm)).symm);exact ⟨_,Zz,Ae.x,rfl⟩
    ·refine Zw (q_b (q_t (AAc (AAx rfl rfl (Zk (Zs ?_))))));exact ⟨_,(Zm (AA9 Bx A9)).symm,Ae,rfl,trivial⟩
  ·refine AAj (AAk (AAk (ABm (q_b (q_t (AAc (AAx rfl rfl (Zk (Zs ?_)))))))));exact ⟨_,(Zm (A7 _ (Zm (AA9 A6 A8)).symm)).symm,Ae,rfl,trivial⟩
 ·refine AAj (AAk (AAk (ABm (q_t (Zp (Zo (ADj ALv AD6 (Ac.b p0) 1 rfl (ADj ALu AAl (Ac.b p0) 0 rfl ?_))))))));obtain ⟨⟨Dy,Dz⟩,Ch,Ba⟩:=Zq (A4 _ (Zm (AA9 A3 A5)).symm);dsimp only at Ba;refine ACa Ac (AZa (H7.ext Ac.x) Ch) fun D0 D1 Af=>Zk (ABl rfl rfl (ABl rfl rfl (AAn (AA5 (Zk (ABx rfl rfl (Zs (⟨_,rfl,fun Bb=>?_,fun Bb=>?_⟩))))))))
  ·refine Zo (Zu (Zx (AAd ?_)));obtain rfl:=Zm (AA8 Ba Bb);exact ⟨_,Zz,Af.x,rfl⟩
  ·refine Zw (q_t (Zo (Zk (ADj ALv AD6 (Af.b p0) 1 rfl (Zk ?_)))));obtain ⟨⟨D2,D3⟩,Ci,By⟩:=Zq (AA9 Ba Bb);dsimp only at By;refine ANz rfl (ATp (H2.ext Af.x) (H7.ext Af.x) Ci) fun D4 D5 Cj Ck=>?_;obtain ⟨D6,D7,D8,D9,rfl,Cm,Cn⟩:=Ck;refine Zk (ABl rfl rfl (ABl rfl rfl (AAn (Zu (Zp (Zo (Zk ?_)))))));have Bc:=Af.no2 Cj Cn Cm;refine AA6 AAg rfl (Bc.o2 p0).rd (Zk (Zs (Zt (AG5 1329227995784915870597964051067142208 By (fun x=>[(61,(.int .i64 x))]) (fun x=>Bc.L) Bc ⟨rfl,trivial⟩ ?_))));rintro Ag Ea Be Eb Aa Bf Ah;unfold AL8 at Bf;refine Zo (AAv rfl rfl (Zs (Zp (⟨_,rfl,fun Bg=>?_,fun Bg=>?_⟩))))
   ·refine Zw (q_t (Zp (Zt (Zo (Zk ?_)))));obtain ⟨Ec,Bz,Co⟩:=Zq (AA8 Bf Bg);refine AB1 AAg AA3 (Aa.o2 p0) Bz fun _ Ed Am=>AAn (Zu ?_);obtain ⟨Cp,Cq,Bh⟩:=Zq Co;refine AKi 77371178668359972342988864 (fun x:Unit=>[]) (fun x h'=>(Sum.inr <| ())=Cp/\Kst h h' (Aa.L)) ?_ ?_
    ·refine Zp (ACj (fun h'=>UpT [] Be h') Zy ?_);have Ad:UpT [] Be Be:=UpT.start all_nil;refine Zk (Zk ?_);obtain ⟨Ee,Ao,Cr⟩:=Zq Cq;obtain ⟨Ct,Ap,B1⟩:=Zq Cr;refine AE9 (m:=Ag) AAi rfl (Aa.o2 p0) Am Ao rfl Ap fun Ef Cu=>?_;obtain ⟨Eg,Cv,Cw⟩:=(Aa.o2 p0).cells Cu Ao Ap;obtain rfl:=Cv;refine ACl AAl rfl Ad (fun h' hb=>AAz (Cw 0 _ rfl) hb.ext) (ABx rfl rfl (Zk ?_));by_cases Aq:Ct=0
     ·rw [decide_eq_true Aq];refine ADf 71 true (ADf 71 true (AC8 71 true (AAa rfl (Zs (AAr rfl (Zo (Zu ?_)))))));obtain rfl:=Zm (ifT B1 Aq);refine Zx (AAd (ABg (AAd (AAd (ABg (AAd ?_))))));obtain rfl:=Zm (Ah _ (Zm Bh).symm);exact ⟨_,Zz,Aa.x,rfl⟩
     ·rw [decide_eq_false Aq];refine Z4 71 false (ACd AHq rfl (Z4 71 false (ACl AOf rfl Ad (fun h' hb=>((Aa.b p1).ext hb.ext).cell (i:=2) rfl) (Z4 71 false (Zk (Z4 71 false ?_))))));obtain ⟨Eh,Cx,Cy⟩:=Zq (ifF B1 Aq);refine AI2 (c:=AOp) AMs rfl Ay rfl Cx fun Ei Ej Ek Cz C0=>?_;obtain rfl:=Cz;refine Z4 71 false (ARi (c:=AOp) (h0:=h) AK5 rfl rfl Ad (fun h' hb j u hu=>AAz (C0 j u hu) (Aa.x.trans hb.ext)) (Z4 71 false (Zk (Z4 71 false (Zk (Z4 71 false (AE9 (m:=Ag) AAi rfl (Aa.o2 p0) Am Ao rfl Ap fun El C1=>Z4 71 false ?_)))))));obtain ⟨Em,C2,C3⟩:=(Aa.o2 p0).cells C1 Ao Ap;obtain rfl:=C2;refine ACl AAl rfl Ad (fun h' hb=>AAz (C3 0 _ rfl) hb.ext) (Z4 71 false (ACd ALu rfl (Z4 71 false (ACl AAl rfl Ad (fun h' hb=>((Aa.b p1).ext hb.ext).cell (i:=0) rfl) (Z4 71 false ?_)))));obtain ⟨En,C4,B3⟩:=Zq Cy;refine Aa6 Aa Ad (APf C4) fun Eo Ep B4 Er=>Z4 71 false (As3 Zy rfl rfl (Av9 _ _ _ _ _ _ _ _ _ _) (Z1 rfl (Zs (⟨_,rfl,fun Bi=>?_,fun Bi=>?_⟩))))
      ·refine Zo (Zu ?_);obtain rfl:=Zm (ifT B3 Bi);refine Zx (AAd (ABg (AAd (AAd (ABg (AAd ?_))))));obtain rfl:=Zm (Ah _ (Zm Bh).symm);exact ⟨_,Zz,B4.x,rfl⟩
      ·refine Zw (q_t ?_);exact ⟨(():Unit),⟨Zm (AFe B3 Bi),B4⟩,trivial⟩
    rintro ⟨⟩ Es Et ⟨C5,Ab⟩;subst C5;obtain ⟨C6,B5,B6⟩:=Zq Bh;refine AKi 20282332232399215087680070090816 (fun x:Unit=>[]) (fun x h'=>(Sum.inr <| ())=C6/\Kst h h' (Ab.L)) ?_ ?_
    ·refine Zp (AGe (Zk (AF1 rfl rfl (Zk ?_))));by_cases Ar:0 < Ag
     ·rw [decide_eq_true Ar];refine Z4 88 true (ACd AHq rfl (Z4 88 true (AA7 AOf rfl ((Ab.b p1).cell (i:=2) rfl) (Z4 88 true (Zk (Z4 88 true ?_))))));obtain ⟨Eu,C7,C8⟩:=Zq (ifT B5 Ar);refine AI2 (c:=AOp) AMs rfl Ay rfl C7 fun Ev Ew Ey C9 Da=>?_;obtain rfl:=C9;refine Z4 88 true (ACd AHr rfl (Z4 88 true (AA7 ABv rfl (AAz (Da 0 _ rfl) Ab.x) (Z4 88 true (ACd AHq rfl (Z4 88 true (AA7 AOf rfl ((Ab.b p1).cell (i:=2) rfl) (Z4 88 true (Zk (Z4 88 true (AFl rfl rfl (Z4 88 true ?_))))))))))));obtain ⟨Ez,Db,B7⟩:=Zq C8;refine AI2 (c:=AOp) AMs rfl Ay rfl Db fun Fa Fb Fc Dc Dd=>?_;obtain rfl:=Dc;refine Z4 88 true (ACd AHr rfl (Z4 88 true (AA7 ABv rfl (AAz (Dd 0 _ rfl) Ab.x) (Z4 88 true (AAv rfl rfl (AAa rfl (Zs (⟨_,rfl,fun Bj=>?_,fun Bj=>?_⟩))))))))
      ·refine Zo (Zu ?_);obtain rfl:=Zm (AA8 B7 Bj);refine Zx (AAd (ABg (AAd (AAd (ABg (AAd ?_))))));obtain rfl:=Zm (Ah _ (Zm B6).symm);exact ⟨_,Zz,Ab.x,rfl⟩
      ·refine Zw (q_t ?_);exact ⟨(():Unit),⟨Zm (AA9 B7 Bj),Ab⟩,trivial⟩
     ·rw [decide_eq_false Ar];refine ADf 88 false (ADf 88 false (AD0 88 false (Z1 rfl (Zs (AAy rfl (Zw (q_t ?_)))))));exact ⟨(():Unit),⟨Zm (ifF B5 Ar),Ab⟩,trivial⟩
    rintro ⟨⟩ Fd Fe ⟨De,Bl⟩;subst De;refine Zo (Zk (ABj AAi rfl ((Bl.o2 p0).rowI Am Bz) (Zk (Zs (Zt (AG5 664532868254043329770207741135421504 B6 (fun x=>[(106,(.int .i64 x))]) (fun x=>Bl.L) Bl ⟨rfl,trivial⟩ ?_))))));rintro Df Ff Fg Fh Ai Bm B8;unfold AL7 at Bm;refine Zo (AAv rfl rfl (Zs (Zp (⟨_,rfl,fun Bn=>?_,fun Bn=>?_⟩))))
    ·refine Zw (q_t (Zp (Zt (Zo (Zk ?_)))));obtain ⟨Fi,Dg,Dh⟩:=Zq (AA8 Bm Bn);obtain ⟨Fj,Di,B9⟩:=Zq Dh;refine AIy (m:=Ag) AAi AAl (Ai.o2 p0) Am Dg Di fun _=>(AAn (AA5 (Zk (Zk (ACp rfl rfl (Zk ?_))))));by_cases Au: ¬ Df=Ag
     ·have Ca:=ifT B9 Au;rw [decide_eq_true Au];refine Z4 114 true (Zk (Z4 114 true (ACp rfl rfl (AAa rfl (Zs (⟨_,rfl,fun Bo=>?_,fun Bo=>?_⟩))))))
      ·refine Zo (Zu (Zx (ABg (AAd (AAd (ABg (ABg (AAd (AAd (ABg (AAd ?_)))))))))));obtain rfl:=Zm (Ah _ (Zm (B8 _ (Zm (AA8 Ca Bo)).symm)).symm);exact ⟨_,Zz,Ai.x,rfl⟩
      ·refine Zw (q_b (q_t (AAc (AAx rfl rfl (Zk (Zs ?_))))));exact ⟨_,(Zm (AA9 Ca Bo)).symm,Ai,rfl,trivial⟩
     ·rw [decide_eq_false Au];refine AG3 114 false (Z1 rfl (Zs (AAy rfl (Zw (q_b (q_t (AAc (AAx rfl rfl (Zk (Zs ?_))))))))));exact ⟨_,(Zm (ifF B9 Au)).symm,Ai,rfl,trivial⟩
    ·refine AAj (AAk (AAk (ABm (q_b (q_t (AAc (AAx rfl rfl (Zk (Zs ?_)))))))));exact ⟨_,(Zm (B8 _ (Zm (AA9 Bm Bn)).symm)).symm,Ai,rfl,trivial⟩
   ·refine AAj (AAk (AAk (ABm (q_t (Zo (Zu (Zx ?_)))))));obtain rfl:=Zm (Ah _ (Zm (AA9 Bf Bg)).symm);exact ⟨_,Zz,Aa.x,rfl⟩
noncomputable def AJd (fuel:Nat) (a3 a8:LiI) (Aa:Int):Option ((Int) ⊕ ((Int) ⊕ (Unit))):=
  (if Aa < (a8.length:Int) then ((gI a8 Aa).bind fun Ad=>(if ¬ (Ad.length:Int)=(a3.length:Int) then (some (Sum.inr<| Sum.inl <| 3)) else (some (Sum.inl (w64 (Aa + 1)))))) else (some (Sum.inr<| Sum.inr <| ())))
noncomputable def AFz (fuel:Nat) (a3:LiI) (a5:Int) (a8:LiI) (Ad:(List AGb)):Option Int:=
  ((AMk fuel a3).bind fun Ae=>(if (!Ae)=true then (some 6) else ((AKo fuel a5).bind fun Af=>(if (!Af)=true then (some 20) else (((if ¬ (a8.length:Int)=(a3.length:Int) then (some (Sum.inl <| 3)) else (if ¬ (Ad.length:Int)=(a3.length:Int) then (some (Sum.inl <| 3)) else (some (Sum.inr <| ())))):Option ((Int) ⊕ (Unit))).bind (fun ex=>match ex with | Sum.inl Ag=>(some Ag) | Sum.inr (_)=>((iter (fun s=>AJd fuel a3 a8 s) fuel 0).bind (fun ex=>match ex with | Sum.inl Ah=>(some Ah) | Sum.inr (_)=>((AC5 fuel a3 a5).bind fun Ai=>((AI9 fuel a5 Ai).bind fun Aj=>((AMg fuel a3 a5 a8 Ad Aj).bind fun Ak=>(if (!Ak)=true then (some 10) else (some 0)))))))))))))
theorem AW7 {fuel:Nat} {h:Zv} {A4:Value} {a3:LiI} {a5:Int} {Ad:Value} {a8:LiI} {Ae:Value} {A5:(List AGb)} {r:Int} (H2:ACx (cI .i64) h A4 a3) (H7:ACx (cI .i64) h Ad a8) (A6:SlC AOp h Ae A5) (HO:AVa h) (hp:AFz fuel a3 a5 a8 A5=some r):AAw Tryz.prog 11 #[A4,(.agg #[(.int .i64 a5),Ad,Ae])] h (fun x h'=>Ext h h'/\x= .int .i64 r):=by
 unfold AFz at hp;refine cwf (l:=[_,_]) Tryz.func11 rfl rfl (Zo (AHb (Kst.k0 h) [(.int .i64 a5),Ad,Ae] fun Bx By Bz A7=>Zu (Zp (Zo (Zk ?_)))));obtain ⟨B1,Bh,A8⟩:=Zq hp;refine ACa A7 (AW0 (H2.ext A7.x) Bh) fun B3 B4 Ah=>ACr rfl (Zs (⟨_,rfl,fun Ap=>?_,fun Ap=>?_⟩))
 ·refine Zo (Zu (Zx (AAd ?_)));obtain rfl:=Zm (ifT A8 Ap);exact ⟨_,Zz,Ah.x,rfl⟩
 ·refine Zw (q_t (Zp (Zo (ADj ALu AAl (Ah.b p0) 0 rfl ?_))));obtain ⟨B5,Bi,A9⟩:=Zq (AFe A8 Ap);refine ACa Ah (ASk (HO.ext Ah.x) Bi) fun B6 B7 Ab=>ACr rfl (Zs (⟨_,rfl,fun Aq=>?_,fun Aq=>?_⟩))
  ·refine Zo (Zu (Zx (AAd ?_)));obtain rfl:=Zm (ifT A9 Aq);exact ⟨_,Zz,Ab.x,rfl⟩
  ·refine Zw (q_t (Zo (Zk (AA6 AAg rfl H2 (Zu ?_)))));obtain ⟨Bj,Ba,Ar⟩:=Zq (AFe A9 Aq);refine AKi 536739856 (fun x:Unit=>[]) (fun x h'=>(Sum.inr <| ())=Bj/\Kst h h' (Ab.L)) ?_ ?_
   ·refine Zo (ADj ALv AD6 (Ab.b p0) 1 rfl (AA6 AAg rfl H7 (Zk (ACp rfl rfl (Zk ?_)))));by_cases Ai: ¬ (a8.length:Int)=(a3.length:Int)
    ·rw [decide_eq_true Ai];refine ADf 22 true (AAa rfl (Zs (AAr rfl (Zo (Zu ?_)))));obtain rfl:=Zm (ifT Ba Ai);refine Zx (AAd ?_);obtain rfl:=Zm Ar;exact ⟨_,Zz,Ab.x,rfl⟩
    ·have Bb:=ifF Ba Ai;rw [decide_eq_false Ai];refine Z4 22 false (ACd AHq rfl (Z4 22 false (AA7 AOf rfl ((Ab.b p0).cell (i:=2) rfl) (Z4 22 false (ABj AMs rfl A6 (Z4 22 false (Zk (Z4 22 false (ACp rfl rfl (Z1 rfl (Zs (⟨_,rfl,fun Au=>?_,fun Au=>?_⟩))))))))))))
     ·refine Zo (Zu ?_);obtain rfl:=Zm (AA8 Bb Au);refine Zx (AAd ?_);obtain rfl:=Zm Ar;exact ⟨_,Zz,Ab.x,rfl⟩
     ·refine Zw (q_t ?_);exact ⟨(():Unit),⟨Zm (AA9 Bb Au),Ab⟩,trivial⟩
   rintro ⟨⟩ B8 B9 ⟨Bl,Av⟩;subst Bl;refine Zp (Zo (ADj ALv AD6 (Av.b p0) 1 rfl (AA6 AAg rfl H7 (Zk (Zs (Zt (AG5 2194728288400 Ar (fun x=>[(32,(.int .i64 x))]) (fun x=>Av.L) Av ⟨rfl,trivial⟩ ?_)))))));rintro Ca Cb Aw Cd Aa Ax Bc;unfold AJd at Ax;refine Zo (AAv rfl rfl (Zs (Zp (⟨_,rfl,fun Ay=>?_,fun Ay=>?_⟩))))
   ·refine Zw (q_t (Zp (Zt (Zo ?_))));obtain ⟨Ce,Bm,Be⟩:=Zq (AA8 Ax Ay);refine AGh AAg AA3 H7 Aa.x Bm fun _ Cf Bn=>AA5 (Zk (ABj AAi rfl Bn (Zk (ACp rfl rfl (Zs (⟨_,rfl,fun Az=>?_,fun Az=>?_⟩))))))
    ·refine Zo (Zu (Zx (ABg (AAd (AAd (ABg (AAd ?_)))))));obtain rfl:=Zm (Bc _ (Zm (AA8 Be Az)).symm);exact ⟨_,Zz,Aa.x,rfl⟩
    ·refine Zw (q_b (q_t (AAc (AAx rfl rfl (Zk (Zs ?_))))));exact ⟨_,(Zm (AA9 Be Az)).symm,Aa,rfl,trivial⟩
   ·refine AAj (AAk (AAk (ABm (q_t (Zp (Zp (ACj (fun h'=>UpT [] Aw h') Zy ?_)))))));have Aj:UpT [] Aw Aw:=UpT.start all_nil;refine Zk (AIc [(.int .i64 a5),Ad,Ae] AM3 rfl rfl Aj (fun h' hb=>((Aa.b p0).ext hb.ext).agg) (ACd ALu rfl (ACl AAl rfl Aj (fun h' hb=>((Aa.b p0).ext hb.ext).cell (i:=0) rfl) (Zk (ACd ALu rfl (ACl AAl rfl Aj (fun h' hb=>((Aa.b p0).ext hb.ext).cell (i:=0) rfl) ?_))))));obtain ⟨Cg,Bo,Bp⟩:=Zq (Bc _ (Zm (AA9 Ax Ay)).symm);refine Aa6 Aa Aj (AJg (H2.ext Aa.x) (HO.ext Aa.x) Bo) fun Ch Ci Bq Br=>?_;obtain ⟨Cj,Bt,Bu⟩:=Zq Bp;refine Aa6 Bq Br (APb Bt) fun Ck Cm Ak Bv=>?_;obtain ⟨Cn,Bw,Bf⟩:=Zq Bu;refine Aa6 Ak Bv (AW6 (H2.ext Ak.x) (H7.ext Ak.x) (A6.ext Ak.x) Bw) fun Co Cp Bg Cq=>ACr rfl (Zs (⟨_,rfl,fun A3=>?_,fun A3=>?_⟩))
    ·refine Zo (Zu (Zx (AAd ?_)));obtain rfl:=Zm (ifT Bf A3);exact ⟨_,Zz,Bg.x,rfl⟩
    ·refine Zw (q_t (Zo (Zu (Zx ?_))));obtain rfl:=Zm (AFe Bf A3);exact ⟨_,Zz,Bg.x,rfl⟩
def AGp (fuel:Nat) (a1 a2 a3 a4 a5 a6 a7:Int):Option Bool:=
  (((if a6=2 then (some ( (w64 (a7 - 3)))) else (some ( (w64 (a7 - 1))))):Option ((Int))).bind (fun (Ai:Int)=>(((if a1 < 0 then (some (Sum.inl <| false)) else (if Ai < a1 then (some (Sum.inl <| false)) else (some (Sum.inr <| ())))):Option ((Bool) ⊕ (Unit))).bind (fun ex=>match ex with | Sum.inl Aj=>(some Aj) | Sum.inr (_)=>((AD3 fuel a6 (w64 (a7 - a1))).bind fun Ae=>(if a2=1 then (if 0 < a3 then (if a3 < Ae then (if a6≠0 then (if ¬ (Int.tmod a3 a6)=0 then (if a4=0 then (some (decide (a5=0))) else (some false)) else (some false)) else none) else (some false)) else (some false)) else (if 0<=a3 then (if a3 < Ae then (if 0<=a4 then (if a4 < Ae then (if 0<=a5 then (if a5 < Ae then (if (Int.tmod a3 2)=0 then (if (Int.tmod a4 2)=1 then (some (decide ((Int.tmod a5 2)=0))) else (some false)) else (some false)) else (some false)) else (some false)) else (some false)) else (some false)) else (some false)) else (some false))))))))
theorem AR6 {fuel:Nat} {h:Zv} {a1 a2 a3 a4 a5 a6 a7:Int} {r:Bool} (hp:AGp fuel a1 a2 a3 a4 a5 a6 a7=some r):AAw Tryz.prog 80 #[(.agg #[(.int .i64 a1),(.int .i64 a2),(.int .i64 a3),(.int .i64 a4),(.int .i64 a5)]),(.int .i64 a6),(.int .i64 a7)] h (fun x h'=>Ext h h'/\x= .bool r):=by
 unfold AGp at hp;refine cwf (l:=[_,_,_]) Tryz.func80 rfl rfl (Zo (AHb (Kst.k0 h) [(.int .i64 a1),(.int .i64 a2),(.int .i64 a3),(.int .i64 a4),(.int .i64 a5)] fun b8 h9 B4 A4=>AA5 (Zk (AFl rfl rfl (Zu ?_)))));obtain ⟨Bt,A9,Bu⟩:=Zq hp;refine AKi 30848 (fun x:(Int)=>[(7,(.int .i64 x))]) (fun x h'=>( x)=Bt/\Kst h h' (A4.L)) ?_ ?_
 ·refine Zo (Zk (ABx rfl rfl (Zs (⟨_,rfl,fun A5=>?_,fun A5=>?_⟩))))
  ·refine AAc (Zk (AFl rfl rfl (Zu ?_)));exact ⟨((w64 (a7 - 3)):(Int)),⟨Zm (AA8 A9 A5),A4⟩,rfl,trivial⟩
  ·refine Zw (q_t ?_);exact ⟨((w64 (a7 - 1)):(Int)),⟨Zm (AA9 A9 A5),A4⟩,rfl,trivial⟩
 rintro B5 B6 B7 ⟨Bv,Ad⟩;subst Bv;obtain ⟨Bw,Ba,A6⟩:=Zq Bu;refine AKi 16744512 (fun x:Unit=>[]) (fun x h'=>(Sum.inr <| ())=Bw/\Kst h h' (Ad.L)) ?_ ?_
 ·refine Zo (ADj AHr ABv (Ad.b p0) 0 rfl (AAv rfl rfl (Zk ?_)));by_cases Ah:a1 < 0
  ·rw [decide_eq_true Ah];refine AD0 18 true (AAa rfl (Zs (AAr rfl (Zo (Zu ?_)))));obtain rfl:=Zm (ifT Ba Ah);refine Zx (AAd ?_);obtain rfl:=Zm A6;exact ⟨_,Zz,Ad.x,rfl⟩
  ·have Bb:=ifF Ba Ah;rw [decide_eq_false Ah];refine Z4 18 false (ACd AHr rfl (Z4 18 false (AA7 ABv rfl ((Ad.b p0).cell (i:=0) rfl) (Z4 18 false (Zk (Z4 18 false (AF1 rfl rfl (Z1 rfl (Zs (⟨_,rfl,fun A7=>?_,fun A7=>?_⟩))))))))))
   ·refine Zo (Zu ?_);obtain rfl:=Zm (AA8 Bb A7);refine Zx (AAd ?_);obtain rfl:=Zm A6;exact ⟨_,Zz,Ad.x,rfl⟩
   ·refine Zw (q_t ?_);exact ⟨(():Unit),⟨Zm (AA9 Bb A7),Ad⟩,trivial⟩
 rintro ⟨⟩ B8 B9 ⟨Bx,Bc⟩;subst Bx;refine Zo (Zk (Zk (ADj AHr ABv (Bc.b p0) 0 rfl (AFl rfl rfl ?_))));obtain ⟨Ai,By,Be⟩:=Zq A6;refine ACa Bc (AKq By) fun Ca Cb Aa=>Zu (Zp (Zo (ADj AXp ABv (Aa.b p0) 1 rfl (ABx rfl rfl (Zs (⟨_,rfl,fun A8=>?_,fun A8=>?_⟩))))))
 ·refine Zo (ADj ANj AAl (Aa.b p0) 2 rfl (AF1 rfl rfl (Zk ?_)));have Bf:=AA8 Be A8;by_cases Aj:0 < a3
  ·have Bg:=ifT Bf Aj;rw [decide_eq_true Aj];refine Z4 36 true (ACd ANj rfl (Z4 36 true (AA7 AAl rfl ((Aa.b p0).cell (i:=2) rfl) (Z4 36 true (Zk (Z4 36 true (AAv rfl rfl (AAa rfl (Zk ?_)))))))));by_cases Ak:a3 < Ai
   ·rw [decide_eq_true Ak];refine Z4 42 true (ACd ANj rfl (Z4 42 true (AA7 AAl rfl ((Aa.b p0).cell (i:=2) rfl) (Z4 42 true (Zk (Z4 42 true ?_))))));obtain ⟨Bz,Bh⟩:=ifN (ifT Bg Ak);refine ADk rfl rfl Bz (Z4 42 true (ACp rfl rfl (AAa rfl (Zk ?_))));by_cases Am: ¬ (Int.tmod a3 a6)=0
    ·have Bi:=ifT Bh Am;rw [decide_eq_true Am];refine Z4 49 true (ACd AT2 rfl (Z4 49 true (AA7 AAl rfl ((Aa.b p0).cell (i:=3) rfl) (Z4 49 true (ABx rfl rfl (AAa rfl (Zk ?_)))))));by_cases Ao:a4=0
     ·rw [decide_eq_true Ao];refine Z4 54 true (ACd AV0 rfl (Z4 54 true (AA7 AAl rfl ((Aa.b p0).cell (i:=4) rfl) (Z4 54 true (ABx rfl rfl (AAa rfl (Zu (Zx (AAd ?_)))))))));obtain rfl:=Zm (ifT Bi Ao);exact ⟨_,Zz,Aa.x,rfl⟩
     ·rw [decide_eq_false Ao];refine AC8 54 false (Z1 rfl (Zu (Zx (AAd ?_))));obtain rfl:=Zm (ifF Bi Ao);exact ⟨_,Zz,Aa.x,rfl⟩
    ·rw [decide_eq_false Am];refine AC8 49 false (Z1 rfl (Zk (AC8 54 false (Z1 rfl (Zu (Zx (AAd ?_)))))));obtain rfl:=Zm (ifF Bh Am);exact ⟨_,Zz,Aa.x,rfl⟩
   ·rw [decide_eq_false Ak];refine ADf 42 false (Z1 rfl (Zk (AC8 49 false (Z1 rfl (Zk (AC8 54 false (Z1 rfl (Zu (Zx (AAd ?_))))))))));obtain rfl:=Zm (ifF Bg Ak);exact ⟨_,Zz,Aa.x,rfl⟩
  ·rw [decide_eq_false Aj];refine AD0 36 false (Z1 rfl (Zk (ADf 42 false (Z1 rfl (Zk (AC8 49 false (Z1 rfl (Zk (AC8 54 false (Z1 rfl (Zu (Zx (AAd ?_)))))))))))));obtain rfl:=Zm (ifF Bf Aj);exact ⟨_,Zz,Aa.x,rfl⟩
 ·refine Zw (q_t (Zo (ADj ANj AAl (Aa.b p0) 2 rfl (AMn rfl rfl (Zk ?_)))));have Bj:=AA9 Be A8;by_cases Ap:0<=a3
  ·have Bl:=ifT Bj Ap;rw [decide_eq_true Ap];refine Z4 62 true (ACd ANj rfl (Z4 62 true (AA7 AAl rfl ((Aa.b p0).cell (i:=2) rfl) (Z4 62 true (Zk (Z4 62 true (AAv rfl rfl (AAa rfl (Zk ?_)))))))));by_cases Aq:a3 < Ai
   ·have Bm:=ifT Bl Aq;rw [decide_eq_true Aq];refine Z4 68 true (ACd AT2 rfl (Z4 68 true (AA7 AAl rfl ((Aa.b p0).cell (i:=3) rfl) (Z4 68 true (AMn rfl rfl (AAa rfl (Zk ?_)))))));by_cases Ar:0<=a4
    ·have Bn:=ifT Bm Ar;rw [decide_eq_true Ar];refine Z4 73 true (ACd AT2 rfl (Z4 73 true (AA7 AAl rfl ((Aa.b p0).cell (i:=3) rfl) (Z4 73 true (Zk (Z4 73 true (AAv rfl rfl (AAa rfl (Zk ?_)))))))));by_cases Au:a4 < Ai
     ·have Bo:=ifT Bn Au;rw [decide_eq_true Au];refine Z4 79 true (ACd AV0 rfl (Z4 79 true (AA7 AAl rfl ((Aa.b p0).cell (i:=4) rfl) (Z4 79 true (AMn rfl rfl (AAa rfl (Zk ?_)))))));by_cases Av:0<=a5
      ·have Bp:=ifT Bo Av;rw [decide_eq_true Av];refine Z4 84 true (ACd AV0 rfl (Z4 84 true (AA7 AAl rfl ((Aa.b p0).cell (i:=4) rfl) (Z4 84 true (Zk (Z4 84 true (AAv rfl rfl (AAa rfl (Zk ?_)))))))));by_cases Aw:a5 < Ai
       ·have Bq:=ifT Bp Aw;rw [decide_eq_true Aw];refine Z4 90 true (ACd ANj rfl (Z4 90 true (AA7 AAl rfl ((Aa.b p0).cell (i:=2) rfl) (Z4 90 true (ADk rfl rfl Zl (Z4 90 true (ABx rfl rfl (AAa rfl (Zk ?_)))))))));by_cases Ax:(Int.tmod a3 2)=0
        ·have Br:=ifT Bq Ax;rw [decide_eq_true Ax];refine Z4 96 true (ACd AT2 rfl (Z4 96 true (AA7 AAl rfl ((Aa.b p0).cell (i:=3) rfl) (Z4 96 true (ADk rfl rfl Zl (Z4 96 true (ABx rfl rfl (AAa rfl (Zk ?_)))))))));by_cases Ay:(Int.tmod a4 2)=1
         ·rw [decide_eq_true Ay];refine Z4 102 true (ACd AV0 rfl (Z4 102 true (AA7 AAl rfl ((Aa.b p0).cell (i:=4) rfl) (Z4 102 true (ADk rfl rfl Zl (Z4 102 true (ABx rfl rfl (AAa rfl (Zu (Zx ?_))))))))));obtain rfl:=Zm (ifT Br Ay);exact ⟨_,Zz,Aa.x,rfl⟩
         ·rw [decide_eq_false Ay];refine AD0 102 false (Z1 rfl (Zu (Zx ?_)));obtain rfl:=Zm (ifF Br Ay);exact ⟨_,Zz,Aa.x,rfl⟩
        ·rw [decide_eq_false Ax];refine AD0 96 false (Z1 rfl (Zk (AD0 102 false (Z1 rfl (Zu (Zx ?_))))));obtain rfl:=Zm (ifF Bq Ax);exact ⟨_,Zz,Aa.x,rfl⟩
       ·rw [decide_eq_false Aw];refine AD0 90 false (Z1 rfl (Zk (AD0 96 false (Z1 rfl (Zk (AD0 102 false (Z1 rfl (Zu (Zx ?_)))))))));obtain rfl:=Zm (ifF Bp Aw);exact ⟨_,Zz,Aa.x,rfl⟩
      ·rw [decide_eq_false Av];refine AD0 84 false (Z1 rfl (Zk (AD0 90 false (Z1 rfl (Zk (AD0 96 false (Z1 rfl (Zk (AD0 102 false (Z1 rfl (Zu (Zx ?_))))))))))));obtain rfl:=Zm (ifF Bo Av);exact ⟨_,Zz,Aa.x,rfl⟩
     ·rw [decide_eq_false Au];refine AC8 79 false (Z1 rfl (Zk (AD0 84 false (Z1 rfl (Zk (AD0 90 false (Z1 rfl (Zk (AD0 96 false (Z1 rfl (Zk (AD0 102 false (Z1 rfl (Zu (Zx ?_)))))))))))))));obtain rfl:=Zm (ifF Bn Au);exact ⟨_,Zz,Aa.x,rfl⟩
    ·rw [decide_eq_false Ar];refine AD0 73 false (Z1 rfl (Zk (AC8 79 false (Z1 rfl (Zk (AD0 84 false (Z1 rfl (Zk (AD0 90 false (Z1 rfl (Zk (AD0 96 false (Z1 rfl (Zk (AD0 102 false (Z1 rfl (Zu (Zx ?_))))))))))))))))));obtain rfl:=Zm (ifF Bm Ar);exact ⟨_,Zz,Aa.x,rfl⟩
   ·rw [decide_eq_false Aq];refine AC8 68 false (Z1 rfl (Zk (AD0 73 false (Z1 rfl (Zk (AC8 79 false (Z1 rfl (Zk (AD0 84 false (Z1 rfl (Zk (AD0 90 false (Z1 rfl (Zk (AD0 96 false (Z1 rfl (Zk (AD0 102 false (Z1 rfl (Zu (Zx ?_)))))))))))))))))))));obtain rfl:=Zm (ifF Bl Aq);exact ⟨_,Zz,Aa.x,rfl⟩
  ·rw [decide_eq_false Ap];refine AD0 62 false (Z1 rfl (Zk (AC8 68 false (Z1 rfl (Zk (AD0 73 false (Z1 rfl (Zk (AC8 79 false (Z1 rfl (Zk (AD0 84 false (Z1 rfl (Zk (AD0 90 false (Z1 rfl (Zk (AD0 96 false (Z1 rfl (Zk (AD0 102 false (Z1 rfl (Zu (Zx ?_))))))))))))))))))))))));obtain rfl:=Zm (ifF Bj Ap);exact ⟨_,Zz,Aa.x,rfl⟩
def AJ2 (fuel:Nat) (a3:(List AGb)) (a6 a7 Aa Ah:Int) (Ae:LiI):Option ((Int × Int × LiI) ⊕ ((LiI))):=
  (if Ah < (a3.length:Int) then ((gI a3 Ah).bind fun Ac=>((AD3 fuel a6 Ac.1).bind fun Ad=>((gI Ae Aa).bind fun Af=>(if a7≠0 then ((gI Af Aa).bind fun Ap=>(((if Ac.2.1=2 then ((gI (sI Ae Aa (sI Af Aa (Int.tmod (w64 (Ad * Ac.2.2.1)) a7))) Aa).bind fun Ag=>(if a7≠0 then ((gI Ag (w64 (Aa + 1))).bind fun Aq=>((gI (sI (sI Ae Aa (sI Af Aa (Int.tmod (w64 (Ad * Ac.2.2.1)) a7))) Aa (sI Ag (w64 (Aa + 1)) (Int.tmod (w64 (Ad * Ac.2.2.2.1)) a7))) (w64 (Aa + 1))).bind fun Ai=>(if a7≠0 then ((gI Ai Aa).bind fun Ar=>((gI (sI (sI (sI Ae Aa (sI Af Aa (Int.tmod (w64 (Ad * Ac.2.2.1)) a7))) Aa (sI Ag (w64 (Aa + 1)) (Int.tmod (w64 (Ad * Ac.2.2.2.1)) a7))) (w64 (Aa + 1)) (sI Ai Aa (Int.tmod (w64 (Ad * Ac.2.2.2.1)) a7))) (w64 (Aa + 1))).bind fun Ak=>(if a7≠0 then ((gI Ak (w64 (Aa + 1))).bind fun Au=>(some ( (sI (sI (sI (sI Ae Aa (sI Af Aa (Int.tmod (w64 (Ad * Ac.2.2.1)) a7))) Aa (sI Ag (w64 (Aa + 1)) (Int.tmod (w64 (Ad * Ac.2.2.2.1)) a7))) (w64 (Aa + 1)) (sI Ai Aa (Int.tmod (w64 (Ad * Ac.2.2.2.1)) a7))) (w64 (Aa + 1)) (sI Ak (w64 (Aa + 1)) (Int.tmod (w64 (Ad * Ac.2.2.2.2)) a7)))))) else none))) else none))) else none)) else (some ( (sI Ae Aa (sI Af Aa (Int.tmod (w64 (Ad * Ac.2.2.1)) a7)))))):Option ((LiI))).bind (fun (Ao:LiI)=>(some (Sum.inl ((w64 (Aa + Ac.2.1)),(w64 (Ah + 1)),Ao)))))) else none)))) else (some (Sum.inr<| Ae)))
def AG0 (fuel:Nat) (a5 Ab:Int) (Ac:LiI):Option ((Int × LiI) ⊕ ((LiI))):=
  (if Ab < ((List.replicate (Int.toNat a5) ([]:List Int)).length:Int) then (if 0<=a5/\a5<=100000000 then ((gI Ac Ab).bind fun Ad=>(some (Sum.inl ((w64 (Ab + 1)),(sI Ac Ab (List.replicate (Int.toNat a5) (0:Int))))))) else none) else (some (Sum.inr<| Ac)))
def AGq (fuel:Nat) (a3:(List AGb)) (a5 a6 a7:Int):Option LiI:=
  (if 0<=a5/\a5<=100000000 then ((iter (fun s=>AG0 fuel a5 s.1 s.2) fuel (0,(List.replicate (Int.toNat a5) ([]:List Int)))).bind (fun (Ae:LiI)=>((iter (fun s=>AJ2 fuel a3 a6 a7 s.1 s.2.1 s.2.2) fuel (0,0,Ae)).bind (fun (Af:LiI)=>(some Af))))) else none)
theorem AR7 {fuel:Nat} {h:Zv} {Ax:Value} {a3:(List AGb)} {a5 a6 a7:Int} {r:LiI} (H2:SlC AOp h Ax a3) (hp:AGq fuel a3 a5 a6 a7=some r):AAw Tryz.prog 84 #[Ax,(.int .i64 a5),(.int .i64 a6),(.int .i64 a7)] h (fun x h'=>Ext h h'/\ ∃ (x0:Value) (F0:List Nat) (Bm:List LnA) (Bn:List Value),x=x0/\ACy (cI .i64) 60 2 h' F0 Bm Bn x0 r/\Sp h' h.size [F0]):=by
 unfold AGq at hp;refine cwf (l:=[_,_,_,_]) Tryz.func84 rfl rfl (Zo (AA5 (Zk ?_)));obtain ⟨Bo,Bp⟩:=ifN hp;refine ASh (cI .i64) 2 AAg AMl rfl trivial tt2 rfl rfl Zl Bo fun Bq Br Bt Ai Do Bu Bv Bw=>Zu (Zp (Zo (Zk ?_)));have Aj:=(Kst.k0 h).no2 Bv Bw Bu;refine AA6 AAg rfl (Aj.o2 p0).rd (Zk (Zs (Zt (AFo 267912192 (fun x:(Int) × (LiI) × LnA × LnN × LvA=>(x.1,x.2.1)) ((0,(List.replicate (Int.toNat a5) ([]:List Int)),Bq,Br,Bt):(Int) × (LiI) × LnA × LnN × LvA) Bp (fun x=>[(19,(.int .i64 x.1))]) (fun x=>Aj.L.set 0 (aO2 (cI .i64) 60 2 x.2.2.1 x.2.2.2.1 x.2.2.2.2 Ai x.2.1)) Aj ⟨rfl,trivial⟩ ?_))));rintro ⟨Dp,Bx,By,Bz,B1⟩ Dq Dr Ds Ak Am B3;unfold AG0 at Am;refine Zo (AAv rfl rfl (Zs (Zp (⟨_,rfl,fun Ao=>?_,fun Ao=>?_⟩))))
 ·refine Zw (q_t (Zp (Zt (Zo (Zk (Zu (AAc (Zk (Zk (Zk ?_))))))))));obtain ⟨B4,B5⟩:=ifN (AA8 Am Ao);refine AQh (c:=(cI .i64)) (a:=0) AAi AI0 rfl rfl (fun _=>rfl) rfl trivial tt2 rfl rfl Zl B4 fun Dt Du Dv B6 B7 B8 B9=>?_;have Ae:=Ak.no B7 (AE8 B8 B9) B6;obtain ⟨Dw,A6,Ca⟩:=Zq B5;refine ADb AAg rfl (Ae.o2 p1) rfl A6 fun Dx Dy Cb Dz D0=>ASg AA3 (Ae.o2 p1) A6 Cb rfl rfl (Ae.o p0) (Ae.dj p0 p1 Zl) fun D1 Cd Ce Cf=>AAo (q_b (q_t (AAc (AAx rfl rfl (Zk (Zs ?_))))));exact ⟨(_,_,_,_,_),(Zm Ca).symm,(Ae.m2 p0 p1 Zl Ce Cd (fun z hz=> .inl (Cf z hz))).sel [1] Zl,rfl,trivial⟩
 ·refine AAj (AAk (AAk (ABm (q_t (Zo (Zu (Zp (Zo (Zk (ABj AMs rfl H2 (Zk (Zs (Zt (AFo 316912650057057350373102086144 (fun x:(Int) × (Int) × (LiI) × LnA × LnN × LvA=>(x.1,x.2.1,x.2.2.1)) ((0,0,Bx,By,Bz,B1):(Int) × (Int) × (LiI) × LnA × LnN × LvA) (B3 _ (Zm (AA9 Am Ao)).symm) (fun x=>[(11,(.int .i64 x.1)),(30,(.int .i64 x.2.1))]) (fun x=>Ak.L.set 0 (aO2 (cI .i64) 60 2 x.2.2.2.1 x.2.2.2.2.1 x.2.2.2.2.2 Ai x.2.2.1)) Ak ⟨rfl,rfl,trivial⟩ ?_))))))))))))));rintro ⟨Aa,D2,A7,A8,A9,Ba⟩ D3 D4 D5 Af Ap Cg;unfold AJ2 at Ap;refine Zo (AAv rfl rfl (Zs (Zp (⟨_,rfl,fun Aq=>?_,fun Aq=>?_⟩))))
  ·refine Zw (q_t (Zp (Zt (Zo ?_))));obtain ⟨Ab,Ch,Ci⟩:=Zq (AA8 Ap Aq);refine AI2 (c:=AOp) AMs rfl H2 rfl Ch fun D6 D7 D8 Cj Ck=>?_;obtain rfl:=Cj;refine AOe (c:=AOp) AK5 rfl rfl (fun j u hu=>(AAz (Ck j u hu) Af.x)) (AC4 Af [(.int .i64 0),(.int .i64 0),(.int .i64 0),(.int .i64 0),(.int .i64 0)] ARj fun D9 Ea Eb Bb=>AB9 [(.int .i64 Ab.1),(.int .i64 Ab.2.1),(.int .i64 Ab.2.2.1),(.int .i64 Ab.2.2.2.1),(.int .i64 Ab.2.2.2.2)] AK5 rfl rfl rfl rfl (by simp [isOne]) (Bb.b p0) fun Ec Cm Cn=>AId ?_);have Bc:=Bb.sb p0 Cn Cm rfl;refine Zk (ADj AHr ABv (Bc.b p0) 0 rfl ?_);obtain ⟨Ag,Co,Cp⟩:=Zq Ci;refine ACa Bc (AKq Co) fun Ed Ee Ar=>Zu (Zp (AGe (Zk (Zk ?_))));obtain ⟨Be,Bf,Cq⟩:=Zq Cp;refine AB1 AAg AA3 (Ar.o2 p1) Bf fun _ Ef Cr=>Zk (Zk (ADj ANj AAl (Ar.b p0) 2 rfl (AL9 rfl rfl (Zk ?_))));obtain ⟨Ct,Cu⟩:=ifN Cq;refine ADk rfl rfl Ct ?_;obtain ⟨Eg,Cv,Cw⟩:=Zq Cu;refine ALo (m:=Aa) Ar p1 AAi AAl Cr Bf Cv (fun _=>rfl) fun _ Eh Ad=>Zs ?_;obtain ⟨Cx,Bg,Cy⟩:=Zq Cw;refine AKi 9903520314281916299286151168 (fun x:(LiI) × LnA × LnN × LvA=>[]) (fun x h'=>( x.1)=Cx/\Kst h h' (Ad.L.set 1 (aO2 (cI .i64) 60 2 x.2.1 x.2.2.1 x.2.2.2 Ai x.1))) ?_ ?_
   ·refine Zo (ADj AXp ABv (Ad.b p0) 1 rfl (ABx rfl rfl (Zs (⟨_,rfl,fun Au=>?_,fun Au=>?_⟩))))
    ·refine Zp (AGe (Zk (Zk ?_)));obtain ⟨Cz,Bh,C0⟩:=Zq (AA8 Bg Au);refine AB1 AAg AA3 (Ad.o2 p1) Bh fun _ Ei C1=>Zk (AAx rfl rfl (Zk (ADj AT2 AAl (Ad.b p0) 3 rfl (AL9 rfl rfl (Zk ?_)))));obtain ⟨C2,C3⟩:=ifN C0;refine ADk rfl rfl C2 ?_;obtain ⟨Ej,C4,C5⟩:=Zq C3;refine ALo (m:=Aa) Ad p1 AAi AAl C1 Bh C4 (fun _=>rfl) fun _ Ek Av=>Zs (Zp (AGe (Zk (Zk (AAx rfl rfl ?_)))));obtain ⟨C6,Bi,C7⟩:=Zq C5;refine AB1 AAg AA3 (Av.o2 p1) Bi fun _ El C8=>Zk (Zk (ADj AT2 AAl (Av.b p0) 3 rfl (AL9 rfl rfl (Zk ?_))));obtain ⟨C9,Da⟩:=ifN C7;refine ADk rfl rfl C9 ?_;obtain ⟨Em,Db,Dc⟩:=Zq Da;refine ALo (m:=(w64 (Aa + 1))) Av p1 AAi AAl C8 Bi Db (fun _=>rfl) fun _ En Aw=>Zs (AGe (Zk (Zk (AAx rfl rfl ?_))));obtain ⟨Dd,Bj,De⟩:=Zq Dc;refine AB1 AAg AA3 (Aw.o2 p1) Bj fun _ Eo Df=>Zk (AAx rfl rfl (Zk (ADj AV0 AAl (Aw.b p0) 4 rfl (AL9 rfl rfl (Zk ?_)))));obtain ⟨Dg,Dh⟩:=ifN De;refine ADk rfl rfl Dg ?_;obtain ⟨Ep,Di,Dj⟩:=Zq Dh;refine ALo (m:=(w64 (Aa + 1))) Aw p1 AAi AAl Df Bj Di (fun _=>rfl) fun _ Er Dk=>Zs ?_;exact ⟨(((sI (sI (sI (sI A7 Aa (sI Be Aa (Int.tmod (w64 (Ag * Ab.2.2.1)) a7))) Aa (sI Cz (w64 (Aa + 1)) (Int.tmod (w64 (Ag * Ab.2.2.2.1)) a7))) (w64 (Aa + 1)) (sI C6 Aa (Int.tmod (w64 (Ag * Ab.2.2.2.1)) a7))) (w64 (Aa + 1)) (sI Dd (w64 (Aa + 1)) (Int.tmod (w64 (Ag * Ab.2.2.2.2)) a7))),A8,A9,Ba):(LiI) × LnA × LnN × LvA),⟨Zm Dj,Dk⟩,trivial⟩
    ·refine Zw (q_t ?_);exact ⟨(((sI A7 Aa (sI Be Aa (Int.tmod (w64 (Ag * Ab.2.2.1)) a7))),A8,A9,Ba):(LiI) × LnA × LnN × LvA),⟨Zm (AA9 Bg Au),Ad⟩,trivial⟩
   rintro ⟨Es,Et,Eu,Ev⟩ Ew Ey ⟨Dl,Bl⟩;subst Dl;refine AAc (Zk (ADj AXp ABv (Bl.b p0) 1 rfl (AAx rfl rfl (AAn (AAo (q_b (q_t (AAc (AAx rfl rfl (Zk (Zs ?_)))))))))));exact ⟨(_,_,_,_,_,_),(Zm Cy).symm,Bl.sel [1] Zl,rfl,rfl,trivial⟩
  ·refine AAj (AAk (AAk (ABm (q_t (Zo (Zk (Zu (Zx ?_))))))));obtain rfl:=Zm (Cg _ (Zm (AA9 Ap Aq)).symm);exact ⟨_,Zz,Af.x,_,_,_,_,rfl,(Af.o2 p0),Af.s.sel [0] Zl⟩
def AGr (fuel:Nat) (a3:LiI) (Ab:Int):Option ((Int) ⊕ ((Bool) ⊕ (Unit))):=
  (if Ab < (a3.length:Int) then ((gI a3 Ab).bind fun Ac=>(if ¬ (Ac.length:Int)=(a3.length:Int) then (some (Sum.inr<| Sum.inl <| false)) else (some (Sum.inl (w64 (Ab + 1)))))) else (some (Sum.inr<| Sum.inr <| ())))
def AGa (fuel:Nat) (a3:LiI):Option Bool:=
  ((iter (fun s=>AGr fuel a3 s) fuel 0).bind (fun ex=>match ex with | Sum.inl Ab=>(some Ab) | Sum.inr (_)=>(some true)))
theorem ARx {fuel:Nat} {h:Zv} {Af:Value} {a3:LiI} {r:Bool} (H2:ACx (cI .i64) h Af a3) (hp:AGa fuel a3=some r):AAw Tryz.prog 41 #[Af] h (fun x h'=>Ext h h'/\x= .bool r):=by
 unfold AGa at hp;refine cwf (l:=[_]) Tryz.func41 rfl rfl (Zo (Zu (Zp (Zo (Zk (AA6 AAg rfl H2 (Zk (Zs (Zt ?_)))))))));have K0:=Kst.k0 h;refine AG5 130964 hp (fun x=>[(7,(.int .i64 x))]) (fun x=>K0.L) K0 ⟨rfl,trivial⟩ ?_;rintro Ao Ap h8 y7 Aa Ac Ai;unfold AGr at Ac;refine Zo (AAv rfl rfl (Zs (Zp (⟨_,rfl,fun Ad=>?_,fun Ad=>?_⟩))))
 ·refine Zw (q_t (Zp (Zt (Zo ?_))));obtain ⟨Au,Ak,Aj⟩:=Zq (AA8 Ac Ad);refine AGh AAg AA3 H2 Aa.x Ak fun _ Av Am=>AA5 (Zk (ABj AAi rfl Am (Zk (AA6 AAg rfl H2 (ACp rfl rfl (Zs (⟨_,rfl,fun Ae=>?_,fun Ae=>?_⟩)))))))
  ·refine Zo (Zu (Zx (ABg (AAd (AAd (ABg (AAd ?_)))))));obtain rfl:=Zm (Ai _ (Zm (AA8 Aj Ae)).symm);exact ⟨_,Zz,Aa.x,rfl⟩
  ·refine Zw (q_b (q_t (AAc (AAx rfl rfl (Zk (Zs ?_))))));exact ⟨_,(Zm (AA9 Aj Ae)).symm,Aa,rfl,trivial⟩
 ·refine AAj (AAk (AAk (ABm (q_t (Zo (Zu (Zx ?_)))))));obtain rfl:=Zm (Ai _ (Zm (AA9 Ac Ad)).symm);exact ⟨_,Zz,Aa.x,rfl⟩
def AG1 (fuel:Nat) (Ad:Int) (Ab:LiA) (Aa:Int):Option ((Int) ⊕ ((Bool) ⊕ (Unit))):=
  (if Aa < (Ab.length:Int) then ((gI Ab Aa).bind fun Ac=>(if Ac < 0 then (some (Sum.inr<| Sum.inl <| false)) else (if Ad<=Ac then (some (Sum.inr<| Sum.inl <| false)) else (some (Sum.inl (w64 (Aa + 1))))))) else (some (Sum.inr<| Sum.inr <| ())))
def AE6 (fuel:Nat) (a8:LiI) (Ac Aa:Int):Option ((Int) ⊕ ((Bool) ⊕ (Unit))):=
  (if Aa < (a8.length:Int) then ((gI a8 Aa).bind fun Ad=>((iter (fun s=>AG1 fuel Ac Ad s) fuel 0).bind (fun ex=>match ex with | Sum.inl Ae=>(some (Sum.inr<| Sum.inl <| Ae)) | Sum.inr (_)=>(some (Sum.inl (w64 (Aa + 1))))))) else (some (Sum.inr<| Sum.inr <| ())))
def AG2 (fuel:Nat) (a5:Int) (Ac:(List AGb)) (Ae Aa:Int):Option ((Int) ⊕ ((Bool) ⊕ (Unit))):=
  (if Aa < (Ac.length:Int) then ((gI Ac Aa).bind fun Ab=>((AGp fuel Ab.1 Ab.2.1 Ab.2.2.1 Ab.2.2.2.1 Ab.2.2.2.2 a5 Ae).bind fun Af=>(if (!Af)=true then (some (Sum.inr<| Sum.inl <| false)) else (if 0 < Aa then ((gI Ac (w64 (Aa - 1))).bind fun Ag=>(if Ab.1 < Ag.1 then (some (Sum.inr<| Sum.inl <| false)) else (some (Sum.inl (w64 (Aa + 1)))))) else (some (Sum.inl (w64 (Aa + 1)))))))) else (some (Sum.inr<| Sum.inr <| ())))
def AGs (fuel:Nat) (a3:LiI) (a5:Int) (a8:LiI) (Ae:(List AGb)):Option Bool:=
  ((AEy fuel a3 a5).bind fun Af=>((AD3 fuel a5 Af).bind fun Ad=>((iter (fun s=>AG2 fuel a5 Ae Af s) fuel 0).bind (fun ex=>match ex with | Sum.inl Ag=>(some Ag) | Sum.inr (_)=>((iter (fun s=>AE6 fuel a8 Ad s) fuel 0).bind (fun ex=>match ex with | Sum.inl Ah=>(some Ah) | Sum.inr (_)=>((AGv fuel a8 a5).bind fun (Ai,Ao)=>((AEj fuel a3 a8 Ad).bind fun (Aj,Ap)=>(if ¬ Ai=0 then ((AGq fuel Ae (a3.length:Int) a5 Ad).bind fun Ak=>((AHj fuel Aj Ak).bind fun Am=>(some Am))) else (some false))))))))))
theorem AR8 {fuel:Nat} {h:Zv} {Be:Value} {a3:LiI} {a5:Int} {Ap:Value} {a8:LiI} {Aq:Value} {Bh:(List AGb)} {r:Bool} (H2:ACx (cI .i64) h Be a3) (H7:ACx (cI .i64) h Ap a8) (Ah:SlC AOp h Aq Bh) (hp:AGs fuel a3 a5 a8 Bh=some r):AAw Tryz.prog 42 #[Be,(.agg #[(.int .i64 a5),Ap,Aq])] h (fun x h'=>Ext h h'/\x= .bool r):=by
 unfold AGs at hp;refine cwf (l:=[_,_]) Tryz.func42 rfl rfl (Zo (AHb (Kst.k0 h) [(.int .i64 a5),Ap,Aq] fun Cv Cw Cx Au=>AA5 (Zk (ADj ALu AAl (Au.b p0) 0 rfl ?_))));obtain ⟨Cy,Bu,Bv⟩:=Zq hp;refine ACa Au (AR4 (H2.ext Au.x) Bu) fun Cz C0 Bi=>AA5 (ADj ALu AAl (Bi.b p0) 0 rfl (Zk ?_));obtain ⟨C1,Bw,Bx⟩:=Zq Bv;refine ACa Bi (AKq Bw) fun C2 C3 Av=>Zu (Zp (Zo (ADj AHq AOf (Av.b p0) 2 rfl (ABj AMs rfl Ah (Zk (Zs (Zt (AG5 72057593769492880 Bx (fun x=>[(28,(.int .i64 x))]) (fun x=>Av.L) Av ⟨rfl,trivial⟩ ?_))))))));rintro By C4 C5 C6 Ad Aw Ax;unfold AG2 at Aw;refine Zo (AAv rfl rfl (Zs (Zp (⟨_,rfl,fun Ay=>?_,fun Ay=>?_⟩))))
 ·refine Zw (q_t (Zp (Zt (Zo (Zk ?_)))));obtain ⟨Aa,Bz,B1⟩:=Zq (AA8 Aw Ay);refine AI2 (c:=AOp) AMs rfl Ah rfl Bz fun C7 C8 C9 B3 B4=>?_;obtain rfl:=B3;refine AOe (c:=AOp) AK5 rfl rfl (fun j u hu=>(AAz (B4 j u hu) Ad.x)) (AC4 Ad [(.int .i64 0),(.int .i64 0),(.int .i64 0),(.int .i64 0),(.int .i64 0)] ARj fun Da Db Dc Bj=>AAn (AB9 [(.int .i64 Aa.1),(.int .i64 Aa.2.1),(.int .i64 Aa.2.2.1),(.int .i64 Aa.2.2.2.1),(.int .i64 Aa.2.2.2.2)] AK5 rfl rfl rfl rfl (by simp [isOne]) (Bj.b p0) fun Dd B5 B6=>Zs (Zp (AGe ?_))));have Az:=Bj.sb p0 B6 B5 rfl;refine ANn [(.int .i64 Aa.1),(.int .i64 Aa.2.1),(.int .i64 Aa.2.2.1),(.int .i64 Aa.2.2.2.1),(.int .i64 Aa.2.2.2.2)] AK5 rfl rfl (Az.b p0).agg (ADj ALu AAl (Az.b p1) 0 rfl (Zk ?_));obtain ⟨B7,B8,Bl⟩:=Zq B1;refine ACa Az (AR6 B8) fun De Df Ab=>ACr rfl (Zk ?_);cases Bm:(!B7)
  ·refine Z4 39 false (Zk (Z4 39 false (AF1 rfl rfl (Z4 39 false (Zk ?_)))));have Bn:=AFe Bl Bm;by_cases Ai:0 < By
   ·rw [decide_eq_true Ai];refine Z4 42 true (ACd AHr rfl (Z4 42 true (AA7 ABv rfl ((Ab.b p0).cell (i:=0) rfl) (Z4 42 true (ACd AHq rfl (Z4 42 true (AA7 AOf rfl ((Ab.b p1).cell (i:=2) rfl) (Z4 42 true (Zk (Z4 42 true (AFl rfl rfl (Z4 42 true ?_))))))))))));obtain ⟨Dg,B9,Bo⟩:=Zq (ifT Bn Ai);refine AI2 (c:=AOp) AMs rfl Ah rfl B9 fun Dh Di Dj Ca Cb=>?_;obtain rfl:=Ca;refine Z4 42 true (ACd AHr rfl (Z4 42 true (AA7 ABv rfl (AAz (Cb 0 _ rfl) Ab.x) (Z4 42 true (AAv rfl rfl (Z4 39 false (AAa rfl (Z1 rfl (Zs (⟨_,rfl,fun A3=>?_,fun A3=>?_⟩))))))))))
    ·refine Zo (Zu (Zx (ABg (AAd (AAd (ABg (AAd ?_)))))));obtain rfl:=Zm (Ax _ (Zm (AA8 Bo A3)).symm);exact ⟨_,Zz,Ab.x,rfl⟩
    ·refine Zw (q_b (q_t (AAc (AAx rfl rfl (Zk (Zs ?_))))));exact ⟨_,(Zm (AA9 Bo A3)).symm,Ab.sel [1] Zl,rfl,trivial⟩
   ·rw [decide_eq_false Ai];refine ADf 42 false (ADf 42 false (Z4 39 false (Z1 rfl (Z1 rfl (Zs (AAy rfl (Zw (q_b (q_t (AAc (AAx rfl rfl (Zk (Zs ?_)))))))))))));exact ⟨_,(Zm (ifF Bn Ai)).symm,Ab.sel [1] Zl,rfl,trivial⟩
  ·refine AC8 39 true (APx 42 Zy rfl (APx 42 Zy rfl (APx 42 Zy rfl (APx 42 Zy rfl (APx 42 Zy rfl (APx 42 Zy rfl (APx 42 Zy rfl (APx 42 Zy rfl (APx 42 Zy rfl (APx 42 Zy rfl (AOx 39 true (AAa rfl (Zs (AAr rfl (Zo (Zu (Zx (ABg (AAd (AAd (ABg (AAd ?_))))))))))))))))))))));obtain rfl:=Zm (Ax _ (Zm (ifT Bl Bm)).symm);exact ⟨_,Zz,Ab.x,rfl⟩
 ·refine AAj (AAk (AAk (ABm (q_t (Zp (Zo (ADj ALv AD6 (Ad.b p0) 1 rfl (AA6 AAg rfl H7 (Zk (Zs (Zt (AG5 302230878442904990258192 (Ax _ (Zm (AA9 Aw Ay)).symm) (fun x=>[(59,(.int .i64 x))]) (fun x=>Ad.L) Ad ⟨rfl,trivial⟩ ?_))))))))))));rintro Dk Dl Do Dp Ac A4 A5;unfold AE6 at A4;refine Zo (AAv rfl rfl (Zs (Zp (⟨_,rfl,fun A6=>?_,fun A6=>?_⟩))))
  ·refine Zw (q_t (Zp (Zt (Zo ?_))));obtain ⟨Dq,Cd,Ce⟩:=Zq (AA8 A4 A6);refine AGh AAg AA3 H7 Ac.x Cd fun _ Dr Bp=>AA5 (Zk (ABj AAi rfl Bp (Zk (Zs (Zt (AG5 151078833963681227739152 Ce (fun x=>[(65,(.int .i64 x))]) (fun x=>Ac.L) Ac ⟨rfl,trivial⟩ ?_))))));rintro Ds Dt Du Dv Ae A7 A8;unfold AG1 at A7;refine Zo (AAv rfl rfl (Zs (Zp (⟨_,rfl,fun A9=>?_,fun A9=>?_⟩))))
   ·refine Zw (q_t (Zp (Zt (Zo ?_))));obtain ⟨Cf,Cg,Bq⟩:=Zq (AA8 A7 A9);refine AUs AAi AAl Bp Ae.x Cg fun _=>(AA5 (Zk (AAv rfl rfl (Zk ?_))));by_cases Aj:Cf < 0
    ·rw [decide_eq_true Aj];refine AC8 71 true (AAa rfl (Zs (AAr rfl (Zo (Zu (Zx (ABg (AAd (AAd (ABg (ABg (AAd (AAd (ABg (AAd ?_)))))))))))))));obtain rfl:=Zm (A5 _ (Zm (A8 _ (Zm (ifT Bq Aj)).symm)).symm);exact ⟨_,Zz,Ae.x,rfl⟩
    ·have Br:=ifF Bq Aj;rw [decide_eq_false Aj];refine Z4 71 false (Zk (Z4 71 false (Zk (Z4 71 false (AMn rfl rfl (Z1 rfl (Zs (⟨_,rfl,fun Ba=>?_,fun Ba=>?_⟩))))))))
     ·refine Zo (Zu (Zx (ABg (AAd (AAd (ABg (ABg (AAd (AAd (ABg (AAd ?_)))))))))));obtain rfl:=Zm (A5 _ (Zm (A8 _ (Zm (AA8 Br Ba)).symm)).symm);exact ⟨_,Zz,Ae.x,rfl⟩
     ·refine Zw (q_b (q_t (AAc (AAx rfl rfl (Zk (Zs ?_))))));exact ⟨_,(Zm (AA9 Br Ba)).symm,Ae,rfl,trivial⟩
   ·refine AAj (AAk (AAk (ABm (q_b (q_t (AAc (AAx rfl rfl (Zk (Zs ?_)))))))));exact ⟨_,(Zm (A8 _ (Zm (AA9 A7 A9)).symm)).symm,Ae,rfl,trivial⟩
  ·refine AAj (AAk (AAk (ABm (q_t (Zo (ADj ALv AD6 (Ac.b p0) 1 rfl (ADj ALu AAl (Ac.b p0) 0 rfl ?_)))))));obtain ⟨⟨Ch,Dw⟩,Ci,Bt⟩:=Zq (A5 _ (Zm (AA9 A4 A6)).symm);dsimp only at Bt;refine ACa Ac (AUm (H7.ext Ac.x) Ci) fun Dx Dy Ak=>Zk (ABl rfl rfl (ABl rfl rfl (AAn (AA5 (Zk (ADj ALv AD6 (Ak.b p0) 1 rfl (Zk ?_)))))));obtain ⟨⟨Dz,D0⟩,Cj,Bb⟩:=Zq Bt;dsimp only at Bb;refine ANz rfl (AP8 (H2.ext Ak.x) (H7.ext Ak.x) Cj) fun D1 D2 Ck Cm=>?_;obtain ⟨D3,D4,D5,D6,rfl,Cn,Co⟩:=Cm;refine Zk (ABl rfl rfl (ABl rfl rfl (AAn (AA5 (Zk (ACp rfl rfl (Zk ?_)))))));have Af:=Ak.no2 Ck Co Cn;by_cases Am: ¬ Ch=0
   ·rw [decide_eq_true Am];refine Z4 96 true (Zk (Z4 96 true (ACd AHq rfl (Z4 96 true (AA7 AOf rfl ((Af.b p1).cell (i:=2) rfl) (Z4 96 true (Zk (Z4 96 true (AA6 AAg rfl H2 (Z4 96 true (ACd ALu rfl (Z4 96 true (AA7 AAl rfl ((Af.b p1).cell (i:=0) rfl) (Z4 96 true (Zk (Z4 96 true ?_))))))))))))))));obtain ⟨D7,Cp,Cq⟩:=Zq (ifT Bb Am);refine AM5 Af (AR7 (Ah.ext Af.x) Cp) fun D8 D9 Ea Eb Ec Ed Bc=>Z4 96 true ?_;obtain ⟨Ee,Cr,Ct⟩:=Zq Cq;refine ACa Bc (ATm (Bc.o2 p1).rd (Bc.o2 p0).rd Cr) fun Ef Eg Cu=>AAa rfl (Zu (Zx ?_));obtain rfl:=Zm Ct;exact ⟨_,Zz,Cu.x,rfl⟩
   ·rw [decide_eq_false Am];refine ADf 96 false (ADf 96 false (Z1 rfl (Zu (Zx ?_))));obtain rfl:=Zm (ifF Bb Am);exact ⟨_,Zz,Af.x,rfl⟩
noncomputable def AE7 (fuel:Nat) (Ab:(List AGb)) (Aa:Int):Option ((Int) ⊕ ((Int) ⊕ (Unit))):=
  (if Aa < (Ab.length:Int) then ((gI Ab Aa).bind fun Ac=>(if ¬ Ac.2.1=1 then (some (Sum.inr<| Sum.inl <| 10)) else (some (Sum.inl (w64 (Aa + 1)))))) else (some (Sum.inr<| Sum.inr <| ())))
noncomputable def AC1 (fuel:Nat) (a3:LiI) (a5:Int) (a8:LiI) (Ac:(List AGb)):Option Int:=
  ((AB4 fuel a3).bind fun Ae=>(if (!Ae)=true then (some 6) else ((ASl fuel a5).bind fun Af=>(if (!Af)=true then (some 20) else (((if ¬ (a8.length:Int)=(a3.length:Int) then (some (Sum.inl <| 3)) else (if ¬ (Ac.length:Int)=(a3.length:Int) then (some (Sum.inl <| 3)) else ((AGa fuel a8).bind fun Ag=>(if (!Ag)=true then (some (Sum.inl <| 3)) else (some (Sum.inr <| ())))))):Option ((Int) ⊕ (Unit))).bind (fun ex=>match ex with | Sum.inl Ah=>(some Ah) | Sum.inr (_)=>((iter (fun s=>AE7 fuel Ac s) fuel 0).bind (fun ex=>match ex with | Sum.inl Ai=>(some Ai) | Sum.inr (_)=>((AGs fuel a3 a5 a8 Ac).bind fun Aj=>(if (!Aj)=true then (some 10) else (some 0)))))))))))
theorem ANt {fuel:Nat} {h:Zv} {A6:Value} {a3:LiI} {a5:Int} {Af:Value} {a8:LiI} {Ag:Value} {Ap:(List AGb)} {r:Int} (H2:ACx (cI .i64) h A6 a3) (H7:ACx (cI .i64) h Af a8) (Ai:SlC AOp h Ag Ap) (hp:AC1 fuel a3 a5 a8 Ap=some r):AAw Tryz.prog 12 #[A6,(.agg #[(.int .i64 a5),Af,Ag])] h (fun x h'=>Ext h h'/\x= .int .i64 r):=by
 unfold AC1 at hp;refine cwf (l:=[_,_]) Tryz.func12 rfl rfl (Zo (AHb (Kst.k0 h) [(.int .i64 a5),Af,Ag] fun Bx By Bz A7=>Zu (Zp (Zo (Zk ?_)))));obtain ⟨B1,Bl,A8⟩:=Zq hp;refine ACa A7 (AH2 (H2.ext A7.x) Bl) fun B3 B4 Ar=>ACr rfl (Zs (⟨_,rfl,fun Au=>?_,fun Au=>?_⟩))
 ·refine Zo (Zu (Zx (AAd ?_)));obtain rfl:=Zm (ifT A8 Au);exact ⟨_,Zz,Ar.x,rfl⟩
 ·refine Zw (q_t (Zp (Zo (ADj ALu AAl (Ar.b p0) 0 rfl ?_))));obtain ⟨B5,Bm,A9⟩:=Zq (AFe A8 Au);refine ACa Ar (Abi Bm) fun B6 B7 Aa=>ACr rfl (Zs (⟨_,rfl,fun Av=>?_,fun Av=>?_⟩))
  ·refine Zo (Zu (Zx (AAd ?_)));obtain rfl:=Zm (ifT A9 Av);exact ⟨_,Zz,Aa.x,rfl⟩
  ·refine Zw (q_t ?_);obtain ⟨Bn,Ba,Aj⟩:=Zq (AFe A9 Av);refine AKi 17179852816 (fun x:Unit=>[]) (fun x h'=>(Sum.inr <| ())=Bn/\Kst h h' (Aa.L)) ?_ ?_
   ·refine Zo (ADj ALv AD6 (Aa.b p0) 1 rfl (AA6 AAg rfl H7 (Zk (AA6 AAg rfl H2 (ACp rfl rfl (Zk ?_))))));by_cases Ak: ¬ (a8.length:Int)=(a3.length:Int)
    ·rw [decide_eq_true Ak];refine ADf 20 true (AOx 20 true (AAa rfl (Zk (AD0 28 true (AAa rfl (Zs (AAr rfl (Zo (Zu ?_)))))))));obtain rfl:=Zm (ifT Ba Ak);refine Zx (AAd ?_);obtain rfl:=Zm Aj;exact ⟨_,Zz,Aa.x,rfl⟩
    ·have Bb:=ifF Ba Ak;rw [decide_eq_false Ak];refine Z4 20 false (ACd AHq rfl (Z4 20 false (AA7 AOf rfl ((Aa.b p0).cell (i:=2) rfl) (Z4 20 false (ABj AMs rfl Ai (Z4 20 false (Zk (Z4 20 false (AA6 AAg rfl H2 (Z4 20 false (ACp rfl rfl (Z1 rfl (Zk ?_)))))))))))));by_cases Am: ¬ (Ap.length:Int)=(a3.length:Int)
     ·rw [decide_eq_true Am];refine AD0 28 true (AAa rfl (Zs (AAr rfl (Zo (Zu ?_)))));obtain rfl:=Zm (ifT Bb Am);refine Zx (AAd ?_);obtain rfl:=Zm Aj;exact ⟨_,Zz,Aa.x,rfl⟩
     ·rw [decide_eq_false Am];refine Z4 28 false (ACd ALv rfl (Z4 28 false (AA7 AD6 rfl ((Aa.b p0).cell (i:=1) rfl) (Z4 28 false ?_))));obtain ⟨B8,Bo,Bc⟩:=Zq (ifF Bb Am);refine ACa Aa (ARx (H7.ext Aa.x) Bo) fun B9 Ca Be=>Z4 28 false (ACr rfl (Z1 rfl (Zs (⟨_,rfl,fun Aw=>?_,fun Aw=>?_⟩))))
      ·refine Zo (Zu ?_);obtain rfl:=Zm (ifT Bc Aw);refine Zx (AAd ?_);obtain rfl:=Zm Aj;exact ⟨_,Zz,Be.x,rfl⟩
      ·refine Zw (q_t ?_);exact ⟨(():Unit),⟨Zm (AFe Bc Aw),Be⟩,trivial⟩
   rintro ⟨⟩ Cb Cd ⟨Bp,Ax⟩;subst Bp;refine Zp (Zo (ADj AHq AOf (Ax.b p0) 2 rfl (ABj AMs rfl Ai (Zk (Zs (Zt (AG5 35046933135440 Aj (fun x=>[(37,(.int .i64 x))]) (fun x=>Ax.L) Ax ⟨rfl,trivial⟩ ?_)))))));rintro Ce Cf Cg Ch Ab Ay Bf;unfold AE7 at Ay;refine Zo (AAv rfl rfl (Zs (Zp (⟨_,rfl,fun Az=>?_,fun Az=>?_⟩))))
   ·refine Zw (q_t (Zp (Zt (Zo ?_))));obtain ⟨Ac,Bq,Bg⟩:=Zq (AA8 Ay Az);refine AI2 (c:=AOp) AMs rfl Ai rfl Bq fun Ci Cj Ck Br Bt=>?_;obtain rfl:=Br;refine AOe (c:=AOp) AK5 rfl rfl (fun j u hu=>(AAz (Bt j u hu) Ab.x)) (AC4 Ab [(.int .i64 0),(.int .i64 0),(.int .i64 0),(.int .i64 0),(.int .i64 0)] ARj fun Cm Cn Co Bh=>AB9 [(.int .i64 Ac.1),(.int .i64 Ac.2.1),(.int .i64 Ac.2.2.1),(.int .i64 Ac.2.2.2.1),(.int .i64 Ac.2.2.2.2)] AK5 rfl rfl rfl rfl (by simp [isOne]) (Bh.b p0) fun Cp Bu Bv=>AId ?_);have A3:=Bh.sb p0 Bv Bu rfl;refine ADj AXp ABv (A3.b p0) 1 rfl (ACp rfl rfl (Zs (⟨_,rfl,fun A4=>?_,fun A4=>?_⟩)))
    ·refine Zo (Zu (Zx (ABg (AAd (AAd (ABg (AAd ?_)))))));obtain rfl:=Zm (Bf _ (Zm (AA8 Bg A4)).symm);exact ⟨_,Zz,A3.x,rfl⟩
    ·refine Zw (q_b (q_t (AAc (AAx rfl rfl (Zk (Zs ?_))))));exact ⟨_,(Zm (AA9 Bg A4)).symm,A3.sel [1] Zl,rfl,trivial⟩
   ·refine AAj (AAk (AAk (ABm (q_t (Zp (Zo (Zk (ANn [(.int .i64 a5),Af,Ag] AM3 rfl rfl (Ab.b p0).agg ?_))))))));obtain ⟨Cq,Bw,Bi⟩:=Zq (Bf _ (Zm (AA9 Ay Az)).symm);refine ACa Ab (AR8 (H2.ext Ab.x) (H7.ext Ab.x) (Ai.ext Ab.x) Bw) fun Cr Ct Bj=>ACr rfl (Zs (⟨_,rfl,fun A5=>?_,fun A5=>?_⟩))
    ·refine Zo (Zu (Zx (AAd ?_)));obtain rfl:=Zm (ifT Bi A5);exact ⟨_,Zz,Bj.x,rfl⟩
    ·refine Zw (q_t (Zo (Zu (Zx ?_))));obtain rfl:=Zm (AFe Bi A5);exact ⟨_,Zz,Bj.x,rfl⟩
def AMx (fuel:Nat) (a3 a7:(List AQx)) (Ac:Int):Option ((Int) ⊕ ((Bool) ⊕ (Unit))):=
  (if Ac < (a3.length:Int) then ((gI a3 Ac).bind fun Aa=>((gI a7 Ac).bind fun Ab=>(if (!(decide ((Aa.1,Aa.2.1,Aa.2.2.1,Aa.2.2.2.1,Aa.2.2.2.2)=(Ab.1,Ab.2.1,Ab.2.2.1,Ab.2.2.2.1,Ab.2.2.2.2))))=true then (some (Sum.inr<| Sum.inl <| false)) else (some (Sum.inl (w64 (Ac + 1))))))) else (some (Sum.inr<| Sum.inr <| ())))
def AKu (fuel:Nat) (a3 a7:(List AQx)):Option Bool:=
  (if ¬ (a3.length:Int)=(a7.length:Int) then (some false) else ((iter (fun s=>AMx fuel a3 a7 s) fuel 0).bind (fun ex=>match ex with | Sum.inl Ac=>(some Ac) | Sum.inr (_)=>(some true))))
theorem AQ3 {fuel:Nat} {h:Zv} {Ah:Value} {a3:(List AQx)} {Aj:Value} {a7:(List AQx)} {r:Bool} (H2:SlC AQg h Ah a3) (H6:SlC AQg h Aj a7) (hp:AKu fuel a3 a7=some r):AAw Tryz.prog 44 #[Ah,Aj] h (fun x h'=>Ext h h'/\x= .bool r):=by
 unfold AKu at hp;refine cwf (l:=[_,_]) Tryz.func44 rfl rfl (Zo (Zu (Zp (Zo (Zk (ABj AWk rfl H2 (Zk (ABj AWk rfl H6 (ACp rfl rfl (Zs ?_))))))))));have K0:=Kst.k0 h;refine ⟨_,rfl,fun Ad=>?_,fun Ad=>?_⟩
 ·refine Zo (Zu (Zx (AAd ?_)));obtain rfl:=Zm (AA8 hp Ad);exact ⟨_,Zz,K0.x,rfl⟩
 ·refine Zw (q_t (Zp (Zo (Zk (ABj AWk rfl H2 (Zk (Zs (Zt (AG5 67100720 (AA9 hp Ad) (fun x=>[(13,(.int .i64 x))]) (fun x=>K0.L) K0 ⟨rfl,trivial⟩ ?_)))))))));rintro Az A3 A4 A5 Aa Ae Ao;unfold AMx at Ae;refine Zo (AAv rfl rfl (Zs (Zp (⟨_,rfl,fun Af=>?_,fun Af=>?_⟩))))
  ·refine Zw (q_t (Zp (Zt (Zo (Zk (Zu (Zp (AGe (Zk (Zk ?_))))))))));obtain ⟨A6,Aq,Ar⟩:=Zq (AA8 Ae Af);refine AI2 (c:=AQg) AWk rfl H2 rfl Aq fun A7 A8 A9 Au Av=>?_;obtain rfl:=Au;refine AOe (c:=AQg) Anl rfl rfl (fun j u hu=>(AAz (Av j u hu) Aa.x)) (Zk (Zk ?_));obtain ⟨Ba,Aw,Ap⟩:=Zq Ar;refine AI2 (c:=AQg) AWk rfl H6 rfl Aw fun Bb Bc Be Ax Ay=>?_;obtain rfl:=Ax;refine AOe (c:=AQg) Anl rfl rfl (fun j u hu=>(AAz (Ay j u hu) Aa.x)) (As3 Zy rfl rfl (Awa _ _ _ _ _ _ _ _ _ _) (Zs (⟨_,rfl,fun Ag=>?_,fun Ag=>?_⟩)))
   ·refine Zo (Zu (Zx (ABg (AAd (AAd (ABg (AAd ?_)))))));obtain rfl:=Zm (Ao _ (Zm (ifT Ap Ag)).symm);exact ⟨_,Zz,Aa.x,rfl⟩
   ·refine Zw (q_b (q_t (AAc (AAx rfl rfl (Zk (Zs ?_))))));exact ⟨_,(Zm (AFe Ap Ag)).symm,Aa,rfl,trivial⟩
  ·refine AAj (AAk (AAk (ABm (q_t (Zo (Zu (Zx ?_)))))));obtain rfl:=Zm (Ao _ (Zm (AA9 Ae Af)).symm);exact ⟨_,Zz,Aa.x,rfl⟩
end Go.Proofs.YtdkldlbgcfpglaaGreatDoor
namespace Go.Proofs.YtdkldlbgcfpglaaGreatDoor
open Go Go.QF
set_option maxRecDepth 100000
theorem AQq {E:Type} {body:Int->Option (Int ⊕ (E ⊕ Unit))} {fuel n:Nat} (good:Nat->Prop) (bad:E) (hf:n < fuel) (hs:∀ i:Nat,i < n->Ok (body (i:Int)) fun r=>(r= .inl ((i + 1:Nat):Int)/\good i)∨(r= .inr (.inl bad)/\¬ good i)) (he:body (n:Int)=some (.inr (.inr ()))):
    Ok (iter body fuel 0) fun ex=>(ex= .inr ()/\ ∀ i,i < n->good i)∨(ex= .inl bad/\¬ ∀ i,i < n->good i):=by
  refine ABa (fun i s=>s=(i:Int)/\ ∀ j,j < i->good j) n ⟨rfl,fun j hj=>absurd hj (Nat.not_lt_zero j)⟩ hf fun i s hi hI=>?_;obtain ⟨rfl,hI⟩:=hI
  by_cases h:i < n
  · refine Arc (hs i h) fun r hr=>?_
    rcases hr with ⟨rfl,hg⟩ | ⟨rfl,hg⟩
    · exact ⟨h,rfl,fun j hj=>(Nat.lt_succ_iff_lt_or_eq.1 hj).elim (hI j) fun e=>e ▸ hg⟩
    · exact .inr ⟨rfl,fun hall=>hg (hall i h)⟩
  · obtain rfl:i=n:=by omega
    rw [he];exact Zn (.inl ⟨rfl,hI⟩)
theorem Aeo {α:Type} {body:List α × Int->Option ((List α × Int) ⊕ List α)} {fuel n:Nat} (f:Nat->α) (hf:n < fuel) (hs:∀ i:Nat,i < n->body (AB6 i f,(i:Int))=some (.inl (AB6 i f ++ [f i],((i + 1:Nat):Int)))) (he:∀ X,body (X,(n:Int))=some (.inr X)):iter body fuel ([],0)=some (AB6 n f):=by
  apply ok_eq;refine ABa (fun i s=>s=(AB6 i f,(i:Int))) n rfl hf fun i s hi hI=>?_;subst hI
  by_cases h:i < n
  · rw [hs i h,AOk];exact Zn ⟨h,rfl⟩
  · obtain rfl:i=n:=by omega
    rw [he];exact Zn rfl
theorem Apl {body:Int × List Int->Option ((Int × List Int) ⊕ List Int)} {fuel n:Nat} {g0:Nat->Int} (v:Nat->Int) (hf:n < fuel)
    (hs:∀ (j:Nat) (g:Nat->Int),j < n->g j=g0 j->body ((j:Int),AB6 n g)=some (.inl (((j + 1:Nat):Int),AB6 n fun c=>if c=j then v j else g c)))
    (he:∀ X,body ((n:Int),X)=some (.inr X)):iter body fuel (0,AB6 n g0)=some (AB6 n v):=by
  apply ok_eq
  refine ABa (fun j s=>s=((j:Int),AB6 n fun c=>if c < j then v c else g0 c)) n ?_ hf fun j s hj hI=>?_
  · exact congrArg (fun z=>((0:Int),AB6 n z)) (funext fun c=>(if_neg Zj).symm)
  · subst hI
    by_cases h:j < n
    · rw [hs j _ h (if_neg Zj)];refine Zn ⟨h,?_⟩;refine congrArg (fun z=>(((j + 1:Nat):Int),AB6 n z)) (funext fun c=>?_)
      by_cases h1:c=j
      · rw [if_pos h1,if_pos Zj,h1]
      · rw [if_neg h1]
        by_cases h2:c < j
        · rw [if_pos h2,if_pos Zj]
        · rw [if_neg h2,if_neg Zj]
    · obtain rfl:j=n:=by omega
      rw [he];exact Zn (ABo fun c hc=>if_pos hc)
def ASn (n:Nat) (q:Int) (A T:AAb):AAb:=fun i j=>psum (fun k=>T k i % q * (psum (fun l=>A k l % q * (T l j % q)) n % q)) n % q
theorem ATr (n:Nat) {q:Int} (hq:2<=q) (F:AAb):ATq n q fun i j=>F i j % q:=fun i j _ _=>⟨Int.emod_nonneg _ Zj,Int.emod_lt_of_pos _ Zj⟩
theorem Ash {fuel n:Nat} {A T:AAb} {q:Int} (Aa:1<=n) (hn:n<=8) (hq:2<=q) (Ab:q<=2147483647) (hf:100 < fuel):AHk fuel (tab n n A) (tab n n T) q=some (tab n n (ASn n q A T),0):=by
 unfold AHk;have h1:ABu fuel q=some 0:=by unfold ABu;rw [if_neg Zj,if_neg Zj]
 rw [AVr Aa hn hf,AVr Aa hn hf];simp only [Option.bind_some];rw [if_neg Zl,AUu (AA1 Zj),AA2,AAt,AAt,if_neg Zl,if_neg (fun h=>h rfl),if_neg (fun h=>h rfl)];simp only [Option.bind_some];rw [h1];simp only [Option.bind_some];rw [if_neg Zl,Abt hn hq Ab hf];simp only [Option.bind_some];rw [Apj Aa hn hf];simp only [Option.bind_some];rw [Abt hn hq Ab hf];simp only [Option.bind_some];rw [Aj6 Aa hn hq Ab (ATr n hq A) (ATr n hq T) hf];simp only [Option.bind_some];rw [Aj6 Aa hn hq Ab (fun i j hi hj=>ATr n hq T j i hj hi) (ATr n hq _) hf];rfl
theorem Alw {r c:Nat} {F:AAb} {m:Int}:AP3 (tab r c F) m=tab r c fun i j=>F i j % m:=by
 simp [AP3,tab,Function.comp_def]
theorem Apm {fuel n:Nat} {F:AAb} {m:Int} (hn:n<=8) (hm:2<=m) (Ab:m<=2147483647) (hf:100 < fuel):AC0 fuel (tab n n F) m=some (tab n n fun i j=>F i j % m):=by
 rw [Af5 Zj Ab (by rw [AAt];omega) (by rw [AAt];omega) (fun z hz=>by
   obtain ⟨i,hi⟩:=List.getElem?_of_mem hz
   have h1:=(List.getElem?_eq_some_iff.1 hi).1
   rw [AAt] at h1
   rw [AA1 h1] at hi
   cases hi
   rw [AA2];omega),Alw]
theorem Aj7 {fuel n:Nat} {F G:AAb} {m:Int} (Ae:1<=n) (hn:n<=8) (hm:2<=m) (Ab:m<=2147483647) (hf:100 < fuel):AEc fuel (tab n n F) (tab n n G) m=some (tab n n fun i j=>psum (fun k=>F i k % m * (G k j % m)) n % m):=by
 unfold AEc;rw [Apm hn hm Ab hf];simp only [Option.bind_some];rw [Apm hn hm Ab hf];simp only [Option.bind_some];rw [Aeo (n:=n) (fun i=>AB6 n fun j=>psum (fun k=>F i k % m * (G k j % m)) n % m) Zj (fun i hi=>?_) fun X=>?_]
 ·rfl
 ·unfold AGn;dsimp only;rw [AAt,if_pos Zj,AUu (AA1 Zj),AA2,if_pos Zj,Int.toNat_natCast,AE4 n (0:Int),Apl (n:=n) (fun j=>psum (fun k=>F i k % m * (G k j % m)) n % m) Zj (fun j g hj hg=>?_) fun X=>?_]
  ·simp only [Option.bind_some];rw [AA2,if_pos Zj,ABr Zj]
  ·unfold AGm;dsimp only;rw [AA2,Int.toNat_natCast,List.length_replicate,if_pos Zj]
   have key:iter (fun s=>AGl fuel m (tab n n fun i j=>F i j % m) (tab n n fun i j=>G i j % m) i j s.1 s.2) fuel (0,AB6 n g)=some (AB6 n fun c=>if c=j then psum (fun k=>F i k % m * (G k j % m)) n % m else g c):=by
     apply ok_eq
     refine ABa (fun k s=>s=((k:Int),AB6 n fun c=>if c=j then psum (fun k=>F i k % m * (G k j % m)) k % m else g c)) n ?_ Zj fun k s hk hI=>?_
     · refine congrArg (fun z=>((0:Int),AB6 n z)) (funext fun c=>?_)
       split
       · next h=>subst h;rw [hg];show 0=0 % m;rw [Int.zero_emod]
       · rfl
     · subst hI
       unfold AGl
       dsimp only
       rw [AAt]
       by_cases h:k < n
       · have b1:=ATr n hm F i k hi h
         have b2:=ATr n hm G k j h hj
         dsimp only at b1 b2
         have b0:=Int.mul_nonneg b1.1 b2.1
         have b3:F i k % m * (G k j % m)<=2147483646 * 2147483646:=Int.mul_le_mul Zj Zj b2.1 Zj
         have b4:=Int.emod_nonneg (F i k % m * (G k j % m)) (show m≠0 by omega)
         have b5:=Int.emod_lt_of_pos (F i k % m * (G k j % m)) (show 0 < m by omega)
         have b6:=Int.emod_nonneg (psum (fun k=>F i k % m * (G k j % m)) k) (show m≠0 by omega)
         have b7:=Int.emod_lt_of_pos (psum (fun k=>F i k % m * (G k j % m)) k) (show 0 < m by omega)
         rw [if_pos Zj,ACw (AAq hj),ACw (AA1 hi),ACw (AAq h),ACw (AA1 h),ACw (AAq hj),if_pos Zj,if_pos Zj,if_pos rfl,ACk (x:=F i k % m * (G k j % m)) Zj Zj,Int.tmod_eq_emod_of_nonneg b0,ACk (x:=psum (fun k=>F i k % m * (G k j % m)) k % m + F i k % m * (G k j % m) % m) Zj Zj,Int.tmod_eq_emod_of_nonneg Zj,Ag7 (f:=fun k=>F i k % m * (G k j % m)),AB0,AD7,ABr Zj]
         refine Zn ⟨h,congrArg (fun z=>(((k + 1:Nat):Int),AB6 n z)) (funext fun c=>?_)⟩
         by_cases hc:c=j
         · rw [if_pos hc,if_pos hc]
         · rw [if_neg hc,if_neg hc,if_neg hc]
       · obtain rfl:k=n:=by omega
         rw [if_neg Zj];exact Zn rfl
   rw [key];simp only [Option.bind_some];rw [ABr Zj]
  ·unfold AGm;dsimp only;rw [AA2,Int.toNat_natCast,List.length_replicate,if_neg Zj]
 ·unfold AGn;dsimp only;rw [AAt,if_neg Zj]
theorem Apn {fuel n:Nat} {F:AAb} (Aa:1<=n) (hn:n<=8) (hf:100 < fuel):AE5 fuel (tab n n F)=some (tab n n fun i j=>F j i):=by
 unfold AE5;rw [AUu (AA1 Zj),Aeo (n:=n) (fun i=>AB6 n fun j=>F j i) Zj (fun i hi=>?_) fun X=>?_]
 ·rfl
 ·unfold AFw;dsimp only;rw [AA2,if_pos Zj,Aeo (n:=n) (fun j=>F j i) Zj (fun j hj=>?_) fun X=>?_]
  ·simp only [Option.bind_some];rw [AA2,if_pos Zj,ABr Zj]
  ·unfold AFv;dsimp only;rw [AAt,if_pos Zj,ACw (AA1 hj),ACw (AAq hi),AA2,if_pos Zj,ABr Zj]
  ·unfold AFv;dsimp only;rw [AAt,if_neg Zj]
 ·unfold AFw;dsimp only;rw [AA2,if_neg Zj]
theorem Abu {n:Nat} {F:AAb} (Ab:1<=n) (hn:n<=8):Aak (tab n n F):=by
 have hc:ANg (tab n n F)=n:=by rw [AQ7 (AA1 (show 0 < n by omega)),AA2]
 refine ⟨⟨by rw [AAt];omega,by rw [AAt];omega,Zj,Zj,fun z hz=>?_⟩,by rw [AAt,hc],by rw [AAt];omega⟩;obtain ⟨i,hi⟩:=List.getElem?_of_mem hz;have h1:=(List.getElem?_eq_some_iff.1 hi).1;rw [AAt] at h1;rw [AA1 h1] at hi;cases hi;rw [AA2,hc]
theorem Asi {fuel n:Nat} {A T:AAb} {q:Int} (Aa:1<=n) (hn:n<=8) (hq:2<=q) (Ab:q<=2147483647) (hf:100 < fuel):AEj fuel (tab n n A) (tab n n T) q=some (tab n n (ASn n q A T),0):=by
 unfold AEj
 have hv:∀ F,ADc fuel (tab n n F)=some true:=fun F=>by
   rw [Ajl Zj]
   exact congrArg some (decide_eq_true (Abu Aa hn).1)
 have h1:AZo q=true:=by unfold AZo;rw [decide_eq_true_eq];exact ⟨hq,Ab⟩
 rw [hv,hv];simp only [Option.bind_some];rw [if_neg Zl,AUu (AA1 Zj),AA2,AAt,AAt,if_neg Zl,if_neg (fun h=>h rfl),if_neg (fun h=>h rfl)];simp only [Option.bind_some];rw [Ac7,h1];simp only [Option.bind_some];rw [if_neg Zl,Apn Aa hn hf];simp only [Option.bind_some];rw [Aj7 Aa hn hq Ab hf];simp only [Option.bind_some];rw [Aj7 Aa hn hq Ab hf];simp only [Option.bind_some,Int.emod_emod];rfl
theorem Ave {fuel n:Nat} {T:AAb} {p:Int} (Ab:1<=n) (hn:n<=8) (hp:2<=p) (Ac:p<=2147483647) (hf:100 < fuel):AGv fuel (tab n n T) p=some (det n T % p,0):=by
 have hs:=Abu (F:=T) Ab hn;rw [Aoy Zj ⟨by rw [AAt];omega,fun z hz=>by have h2:=hs.1.2.2.2.2 z hz;have:=hs.1.2.2.2.1;omega⟩];have h1:AOy (tab n n T)=true:=decide_eq_true hs;have h2:AZo p=true:=by unfold AZo;rw [decide_eq_true_eq];exact ⟨hp,Ac⟩
 unfold Aum Aun;rw [h1,h2,AAt];refine congrArg (fun z=>some (z,(0:Int))) ?_;exact AV6 fun i j hi hj=>by rw [Aqa hi hj];rfl
theorem Asj {fuel n:Nat} {F G:AAb} (hn:n<=8) (hf:100 < fuel):Ok (AHj fuel (tab n n F) (tab n n G)) fun b=>b=true↔ ∀ i,i < n-> ∀ j,j < n->F i j=G i j:=by
 unfold AHj;rw [AAt,AAt,if_neg (fun h=>h rfl)];refine Zr (AQq (n:=n) (fun i=> ∀ j,j < n->F i j=G i j) false Zj (fun i hi=>?_) ?_) fun ex hex=>?_
 ·unfold AHu;rw [AAt,if_pos Zj,ACw (AA1 hi),ACw (AA1 hi),AA2,AA2,if_neg (fun h=>h rfl)];refine Zr (AQq (n:=n) (fun j=>F i j=G i j) false Zj (fun j hj=>?_) ?_) fun ex hex=>?_
  ·unfold AHt;rw [AA2,if_pos Zj,ACw (AA1 hi),ACw (AAq hj),ACw (AA1 hi),ACw (AAq hj)];exact AAh (fun h=>Zn (.inr ⟨rfl,h⟩)) fun h=>Zn (.inl ⟨by rw [ABr Zj],Decidable.not_not.1 h⟩)
  ·unfold AHt;rw [AA2,if_neg Zj]
  ·rcases hex with ⟨rfl,h⟩ | ⟨rfl,h⟩
   ·exact Zn (.inl ⟨by rw [ABr Zj],h⟩)
   ·exact Zn (.inr ⟨rfl,h⟩)
 ·unfold AHu;rw [AAt,if_neg Zj]
 ·rcases hex with ⟨rfl,h⟩ | ⟨rfl,h⟩
  ·exact Zn ⟨fun _=>h,fun _=>rfl⟩
  ·exact Zn ⟨fun e=>(nomatch e),fun e=>absurd e h⟩
def Rng (n:Nat) (q:Int) (T:AAb):Prop:= ∀ i,i < n-> ∀ j,j < n->0<=T i j/\T i j < q
theorem Avf {fuel n:Nat} {T:AAb} {q:Int} (hn:n<=8) (hf:100 < fuel):Ok (iter (fun s=>AJc fuel (tab n n T) q s) fuel 0) fun ex=>(ex= .inr ()/\Rng n q T)∨(ex= .inl false/\¬ Rng n q T):=by
 refine AQq (n:=n) (fun i=> ∀ j,j < n->0<=T i j/\T i j < q) false Zj (fun i hi=>?_) ?_
 ·unfold AJc;rw [AAt,if_pos Zj,ACw (AA1 hi)];refine Zr (AQq (n:=n) (fun j=>0<=T i j/\T i j < q) false Zj (fun j hj=>?_) ?_) fun ex hex=>?_
  ·unfold AL6;rw [AA2,if_pos Zj,ACw (AAq hj)];exact AAh (fun h=>Zn (.inr ⟨rfl,Zj⟩)) fun h=>AAh (fun h2=>Zn (.inr ⟨rfl,Zj⟩)) fun h2=>Zn (.inl ⟨by rw [ABr Zj],Zj⟩)
  ·unfold AL6;rw [AA2,if_neg Zj]
  ·rcases hex with ⟨rfl,h⟩ | ⟨rfl,h⟩
   ·exact Zn (.inl ⟨by rw [ABr Zj],h⟩)
   ·exact Zn (.inr ⟨rfl,h⟩)
 ·unfold AJc;rw [AAt,if_neg Zj]
theorem Avg {fuel n:Nat} {T:AAb} {q:Int} (hn:n<=8) (hf:100 < fuel):Ok (iter (fun s=>AE6 fuel (tab n n T) q s) fuel 0) fun ex=>(ex= .inr ()/\Rng n q T)∨(ex= .inl false/\¬ Rng n q T):=by
 refine AQq (n:=n) (fun i=> ∀ j,j < n->0<=T i j/\T i j < q) false Zj (fun i hi=>?_) ?_
 ·unfold AE6;rw [AAt,if_pos Zj,ACw (AA1 hi)];refine Zr (AQq (n:=n) (fun j=>0<=T i j/\T i j < q) false Zj (fun j hj=>?_) ?_) fun ex hex=>?_
  ·unfold AG1;rw [AA2,if_pos Zj,ACw (AAq hj)];exact AAh (fun h=>Zn (.inr ⟨rfl,Zj⟩)) fun h=>AAh (fun h2=>Zn (.inr ⟨rfl,Zj⟩)) fun h2=>Zn (.inl ⟨by rw [ABr Zj],Zj⟩)
  ·unfold AG1;rw [AA2,if_neg Zj]
  ·rcases hex with ⟨rfl,h⟩ | ⟨rfl,h⟩
   ·exact Zn (.inl ⟨by rw [ABr Zj],h⟩)
   ·exact Zn (.inr ⟨rfl,h⟩)
 ·unfold AE6;rw [AAt,if_neg Zj]
theorem AEz {p:Int} (hp:1<=p) {a b:Nat} (h:a<=b):p ^ a<=p ^ b:=by
 obtain ⟨c,rfl⟩:∃ c,b=a + c:=⟨b - a,Zj⟩;rw [Int.pow_add];have h1:0 < p ^ a:=Int.pow_pos Zj;have h2:0 < p ^ c:=Int.pow_pos Zj;have:=Int.mul_le_mul_of_nonneg_left (show 1<=p ^ c by omega) (Int.le_of_lt h1);omega
theorem Aie {p:Int} (hp:2<=p) {a b:Nat} (h:p ^ a < p ^ b):a < b:=by
 rcases Nat.lt_or_ge a b with h1 | h1
 ·exact h1
 ·have:=AEz (p:=p) Zj h1;omega
theorem AYb {p:Int} {k:Nat} (hp:2<=p) (h:p ^ k<=2147483647):k<=30:=by
 rcases Nat.lt_or_ge 30 k with h1 | h1
 ·exfalso;have h2:=AEz (p:=p) Zj (show 31<=k by omega);have h3:(2:Int) ^ 31<=p ^ 31:=AL3 Zj hp 31;have h5:(2:Int) ^ 31=2147483648:=by decide
  omega
 ·exact h1
theorem Abv {fuel:Nat} {p:Int} {k:Nat} (hp:2<=p) (h:p ^ k<=2147483647) (hf:100 < fuel):AI9 fuel p k=some (p ^ k):=by
 have hk:=AYb hp h;apply ok_eq;unfold AI9;refine Zr (ABa (fun i s=>s=(p ^ i,(i:Int))/\i<=k) k (Q:=(· =p ^ k)) ⟨AA4,Zj⟩ Zj fun i s hi hI=>?_) fun e he=>Zn he;obtain ⟨rfl,hik⟩:=hI;unfold APa;dsimp only;refine AAh (fun h2=>Zn ⟨Zj,?_,Zj⟩) fun h2=>Zn ?_
 ·have h3:=AEz (p:=p) Zj (show i + 1<=k by omega);have h4:0 < p ^ (i + 1):=Int.pow_pos Zj;rw [show p ^ i * p=p ^ (i + 1) from (Int.pow_succ p i).symm,wk Zj,ABr Zj]
 ·obtain rfl:i=k:=by omega
  rfl
theorem Aif {fuel:Nat} {p:Int} {k:Nat} (hp:2<=p) (h:p ^ k<=2147483647) (hf:100 < fuel):AD3 fuel p k=some (p ^ k):=by
 have hk:=AYb hp h;apply ok_eq;unfold AD3;refine Zr (ABa (fun i s=>s=(p ^ i,(i:Int))/\i<=k) k (Q:=(· =p ^ k)) ⟨AA4,Zj⟩ Zj fun i s hi hI=>?_) fun e he=>Zn he;obtain ⟨rfl,hik⟩:=hI;unfold AKp;dsimp only;refine AAh (fun h2=>Zn ⟨Zj,?_,Zj⟩) fun h2=>Zn ?_
 ·have h3:=AEz (p:=p) Zj (show i + 1<=k by omega);have h4:0 < p ^ (i + 1):=Int.pow_pos Zj;rw [show p ^ i * p=p ^ (i + 1) from (Int.pow_succ p i).symm,wk Zj,ABr Zj]
 ·obtain rfl:i=k:=by omega
  rfl
def IsB (p x:Int) (b:AGb):Prop:= ∃ (e:Nat) (u:Int),b=((e:Int),1,u,0,0)/\x=u * p ^ e/\¬ p ∣ u
theorem Apo {p x:Int} {b c:AGb} (hp:2<=p) (hb:IsB p x b) (hc:IsB p x c):b=c:=by
 obtain ⟨e,u,rfl,h1,h2⟩:=hb;obtain ⟨f,v,rfl,h3,h4⟩:=hc;have he:=Aem hp ⟨e,u,rfl,h1,h2⟩ ⟨f,v,rfl,h3,h4⟩;obtain rfl:e=f:=by omega
 have:u=v:=Int.eq_of_mul_eq_mul_right (Int.pow_ne_zero (show p≠0 by omega)) (h1.symm.trans h3);rw [this]
theorem Abw {fuel:Nat} {x p:Int} (hp:2<=p) (Ad:p<=9973) (hx:0 < x) (Ae:x<=2147483647) (hf:100 < fuel):Ok (AJb fuel x p) (IsB p x):=by
 unfold AJb;refine Zr (ABa (fun i s=> ∃ r:Int,s=((i:Int),r)/\0 < r/\x=r * p ^ i) 31 (Q:=fun e=> ∃ (k:Nat) (u:Int),e=((k:Int),u)/\x=u * p ^ k/\¬ p ∣ u) ⟨x,rfl,Zj,AA4⟩ Zj fun i s hi hI=>?_) fun e he=>?_
 ·obtain ⟨r,rfl,hr,hdr⟩:=hI;have hpi:0 < p ^ i:=Int.pow_pos Zj;have hpx:1 * p ^ i<=r * p ^ i:=Int.mul_le_mul_of_nonneg_right Zj Zj;have Af:=AYb (k:=i) hp Zj;have hrd:r * 1<=r * p ^ i:=Int.mul_le_mul_of_nonneg_left Zj Zj;unfold APe;dsimp only;refine AB5 Zj (AAh (fun h=>AB5 Zj ?_) fun h=>Zn ⟨i,r,rfl,hdr,fun h3=>h (Int.tmod_eq_zero_of_dvd h3)⟩);obtain ⟨q,rfl⟩:p ∣ r:=Int.dvd_of_tmod_eq_zero h;have hq:0 < q:=Int.pos_of_mul_pos_right hr Zj;have hqr:1 * q<=p * q:=Int.mul_le_mul_of_nonneg_right Zj Zj;refine Zn ⟨Zj,q,?_,hq,by rw [hdr,Int.pow_succ];grind⟩;rw [Int.mul_tdiv_cancel_left _ Zj,ACk (x:=q) Zj Zj,ABr Zj]
 ·obtain ⟨k,u,rfl,h1,h2⟩:=he;exact Zn ⟨k,u,rfl,h1,h2⟩
def Agu (F:AAb) (r c:Nat) (x:Int):AAb:=ABy F r fun q=>if q=c then x else F r q
theorem Apq (F:AAb) (r c:Nat) (x:Int) (i j:Nat):Agu F r c x i j=if i=r/\j=c then x else F i j:=by
 unfold Agu;rw [ABd];by_cases h:i=r
 ·rw [if_pos h];by_cases h2:j=c
  ·rw [if_pos h2,if_pos ⟨h,h2⟩]
  ·rw [if_neg h2,if_neg (fun e=>h2 e.2),h]
 ·rw [if_neg h,if_neg (fun e=>h e.1)]
theorem AZ9 {n r c:Nat} {F:AAb} {x:Int}:sI (tab n n F) (r:Int) (sI (AB6 n (F r)) (c:Int) x)=tab n n (Agu F r c x):=AWz
def Aw2 (F:AAb) (r:Nat) (a b c:Int):AAb:=Agu (Agu (Agu (Agu F r r a) r (r + 1) b) (r + 1) r b) (r + 1) (r + 1) c
def Abx (p:Int):List AGb->Nat->(AAb)->(AAb)
  | [],_,F=>F
  | b :: l,r,F=>if b.2.1=2 then Abx p l (r + 2) (Aw2 F r (p ^ b.1.toNat * b.2.2.1) (p ^ b.1.toNat * b.2.2.2.1) (p ^ b.1.toNat * b.2.2.2.2)) else Abx p l (r + 1) (Agu F r r (p ^ b.1.toNat * b.2.2.1))
def Aig:List AGb->Nat
  | []=>0
  | b :: l=>b.2.1.toNat + Aig l
def BOk (p:Int) (k:Nat) (b:AGb):Prop:= ∃ e:Nat,b.1=e/\e<=k/\(0<=b.2.2.1/\b.2.2.1 < p ^ (k - e))/\(b.2.1=1∨b.2.1=2/\(0<=b.2.2.2.1/\b.2.2.2.1 < p ^ (k - e))/\0<=b.2.2.2.2/\b.2.2.2.2 < p ^ (k - e))
theorem Aep {p a:Int} {e k:Nat} (hp:2<=p) (hek:e<=k) (hq:p ^ k<=2147483647) (h:0<=a/\a < p ^ (k - e)):Int.tmod (w64 (p ^ e * a)) (p ^ k)=p ^ e * a/\0<=p ^ e * a/\p ^ e * a < p ^ k:=by
 have h1:0 < p ^ e:=Int.pow_pos Zj;have h2:p ^ e * a < p ^ e * p ^ (k - e):=Int.mul_lt_mul_of_pos_left h.2 h1;rw [<- Int.pow_add,show e + (k - e)=k by omega] at h2;have h3:=Int.mul_nonneg (Int.le_of_lt h1) h.1;rw [wk Zj,Int.tmod_eq_emod_of_nonneg h3,Int.emod_eq_of_lt h3 h2];exact ⟨rfl,h3,h2⟩
theorem Avh {fuel n k:Nat} {p:Int} {L:List AGb} (hn:n<=8) (hp:2<=p) (hq:p ^ k<=2147483647) (hL:∀ b∈L,BOk p k b) (hs:Aig L=n) (hll:L.length<=n) (hf:100 < fuel):AGq fuel L n p (p ^ k)=some (tab n n (Abx p L 0 fun _ _=>0)):=by
 have Af:0 < p ^ k:=Int.pow_pos Zj;unfold AGq;rw [if_pos Zj,Int.toNat_natCast,AX9 (n:=n) (fun _ _=>0) Zj (fun i hi=>?_) fun X=>?_]
 ·simp only [Option.bind_some];apply ok_eq;refine Zr (ABa (fun i s=> ∃ (r:Nat) (F:AAb),s=((r:Int),(i:Int),tab n n F)/\r + Aig (L.drop i)=n/\Abx p (L.drop i) r F=Abx p L 0 fun _ _=>0) L.length (Q:=(· =tab n n (Abx p L 0 fun _ _=>0))) ⟨0,fun _ _=>0,rfl,by simpa using hs,rfl⟩ Zj fun i s hi hI=>?_) fun e he=>Zn he;obtain ⟨r,F,rfl,hr,hb⟩:=hI;unfold AJ2;dsimp only;by_cases h:i < L.length
  ·obtain ⟨b,hbi⟩:∃ b,L[i]? =some b:=⟨L[i],List.getElem?_eq_getElem h⟩
   have hdr:L.drop i=b :: L.drop (i + 1):=by
     rw [List.drop_eq_getElem_cons h]
     congr 1
     rw [List.getElem?_eq_getElem h] at hbi
     exact Option.some.inj hbi
   rw [hdr] at hr hb;obtain ⟨e,he,hek,hA,hsz⟩:=hL b (List.mem_of_getElem? hbi);have hpe:p ^ e<=2147483647:=Int.le_trans (AEz Zj hek) hq;have heN:b.1.toNat=e:=by omega
   have e1:=Aep hp hek hq hA;unfold Aig at hr;rw [Abx] at hb;rw [heN] at hb;rw [if_pos Zj,ACw hbi,he,Aif hp hpe hf];simp only [Option.bind_some];have Aa:r < n:=by omega
   rw [ACw (AA1 Aa),if_pos Zj,ACw (AAq Aa),e1.1,AZ9];rcases hsz with hz | ⟨hz,hB,hC⟩
   ·rw [if_neg Zj];simp only [Option.bind_some];rw [if_neg Zj] at hb;refine Zn ⟨h,r + 1,_,?_,Zj,hb⟩;rw [hz,ABr Zj,ABr Zj]
   ·have Ab:r + 1 < n:=by omega
    have e2:=Aep hp hek hq hB;have e3:=Aep hp hek hq hC;rw [if_pos hz,ACw (AA1 Aa),if_pos Zj,ABr Zj,ACw (AAq Ab),e2.1,AZ9,ACw (AA1 Ab),if_pos Zj,ACw (AAq Aa),AZ9,ACw (AA1 Ab),if_pos Zj,ACw (AAq Ab),e3.1,AZ9];simp only [Option.bind_some];rw [if_pos hz] at hb;refine Zn ⟨h,r + 2,_,?_,Zj,hb⟩;rw [hz,ACk (x:=(r:Int) + 2) Zj Zj,ABr Zj];rfl
  ·obtain rfl:i=L.length:=by omega
   rw [if_neg Zj];rw [List.drop_length] at hb;exact Zn (by rw [<- hb];rfl)
 ·unfold AG0;dsimp only;rw [Int.toNat_natCast,List.length_replicate,if_pos Zj,if_pos Zj,ACw (APd hi),AB0,AE4 n (0:Int),ANd,AX8 fun c _=>rfl,ABr Zj]
 ·unfold AG0;dsimp only;rw [Int.toNat_natCast,List.length_replicate,if_neg Zj]
theorem Atg {p:Int}:∀ {L:List AGb} {r:Nat} {F:AAb},(∀ b∈L,b.2.1=1)-> ∀ i j,Abx p L r F i j=if i=j/\r<=i then (match L[i - r]? with | some b=>p ^ b.1.toNat * b.2.2.1 | none=>F i j) else F i j
  | [],r,F,h,i,j=>by simp [Abx]
  | b :: l,r,F,h,i,j=>by
    have hb:=h b AA4;unfold Abx;rw [if_neg Zj,Atg (fun c hc=>h c (by simp [hc]))];rw [Apq]
    by_cases hij:i=j/\r<=i
    · rw [if_pos hij]
      by_cases h2:r + 1<=i
      · rw [if_pos ⟨hij.1,h2⟩,show i - r=(i - (r + 1)) + 1 by omega,List.getElem?_cons_succ,if_neg Zj]
      · obtain rfl:i=r:=by omega
        rw [if_neg Zj,if_pos ⟨rfl,hij.1.symm⟩,Nat.sub_self];rfl
    · rw [if_neg hij,if_neg Zj,if_neg Zj]
def AZb (p:Int) (k:Nat) (b:AGb):Prop:=(0<=b.1/\b.1<=if p=2 then (k:Int) - 3 else (k:Int) - 1)/\
  if b.2.1=1 then (0 < b.2.2.1/\b.2.2.1 < p ^ (k - b.1.toNat))/\¬ p ∣ b.2.2.1/\b.2.2.2.1=0/\b.2.2.2.2=0
  else ((0<=b.2.2.1/\b.2.2.1 < p ^ (k - b.1.toNat))/\(0<=b.2.2.2.1/\b.2.2.2.1 < p ^ (k - b.1.toNat))/\0<=b.2.2.2.2/\b.2.2.2.2 < p ^ (k - b.1.toNat))/\b.2.2.1 % 2=0/\b.2.2.2.1 % 2=1/\b.2.2.2.2 % 2=0
theorem tm2 {x:Int} (h:0<=x):Int.tmod x 2=x % 2:=Int.tmod_eq_emod_of_nonneg h
theorem Apr {fuel k:Nat} {p:Int} {b:AGb} (hp:2<=p) (hq:p ^ k<=2147483647) (hk:1<=k) (Aj:p=2->3<=k) (hf:100 < fuel):Ok (AGp fuel b.1 b.2.1 b.2.2.1 b.2.2.2.1 b.2.2.2.2 p k) fun r=>r=true↔AZb p k b:=by
 have Ak:=AYb hp hq;obtain ⟨e,s,x,y,z⟩:=b;unfold AGp AZb;dsimp only;refine Zr (Q:=(· =if p=2 then (k:Int) - 3 else (k:Int) - 1)) (AAh (fun h=>Zn ?_) fun h=>Zn ?_) fun top ht=>?_
 ·rw [if_pos h,wk Zj]
 ·rw [if_neg h,wk Zj]
 subst ht;have htop:(if p=2 then (k:Int) - 3 else (k:Int) - 1)<=k - 1:=by split <;> omega
 refine Zr (Q:=fun ex=>(ex= .inr ()/\0<=e/\e<=if p=2 then (k:Int) - 3 else (k:Int) - 1)∨(ex= .inl false/\¬ (0<=e/\e<=if p=2 then (k:Int) - 3 else (k:Int) - 1))) (AAh (fun h=>Zn (.inr ⟨rfl,Zj⟩)) fun h=>AAh (fun h2=>Zn (.inr ⟨rfl,Zj⟩)) fun h2=>Zn (.inl ⟨rfl,Zj,Zj⟩)) fun ex hex=>?_;rcases hex with ⟨rfl,h1,h2⟩ | ⟨rfl,h⟩
 ·obtain ⟨e,rfl⟩:∃ e':Nat,e=e':=⟨e.toNat,Zj⟩;have hek:e<=k:=by omega
  have hpk:p ^ (k - e)<=2147483647:=Int.le_trans (AEz Zj Zj) hq;dsimp only;rw [wk Zj,show (k:Int) - (e:Int)=((k - e:Nat):Int) by omega,Int.toNat_natCast];refine Zr (ABc (Aif hp hpk hf)) fun m hm=>?_;subst hm;refine AAh (fun h3=>?_) fun h3=>?_
  ·rw [if_pos h3];refine AAh (fun h4=>AAh (fun h5=>AB5 Zj (AAh (fun h6=>AAh (fun h7=>Zn ?_) fun h7=>Zn ?_) fun h6=>Zn ?_)) fun h5=>Zn ?_) fun h4=>Zn ?_
   ·rw [decide_eq_true_eq];exact ⟨fun h8=>⟨⟨h1,h2⟩,⟨h4,h5⟩,fun h9=>h6 (Int.tmod_eq_zero_of_dvd h9),h7,h8⟩,fun h8=>h8.2.2.2.2⟩
   ·exact ⟨fun h=>(nomatch h),fun h=>absurd h.2.2.2.1 h7⟩
   ·exact ⟨fun h=>(nomatch h),fun h=>absurd (Int.dvd_of_tmod_eq_zero (Decidable.not_not.1 h6)) h.2.2.1⟩
   ·exact ⟨fun h=>(nomatch h),fun h=>absurd h.2.1.2 h5⟩
   ·exact ⟨fun h=>(nomatch h),fun h=>absurd h.2.1.1 h4⟩
  ·rw [if_neg h3];refine AAh (fun h4=>AAh (fun h5=>AAh (fun h6=>AAh (fun h7=>AAh (fun h8=>AAh (fun h9=>?_) fun h9=>Zn ?_) fun h8=>Zn ?_) fun h7=>Zn ?_) fun h6=>Zn ?_) fun h5=>Zn ?_) fun h4=>Zn ?_
   ·rw [tm2 h4,tm2 h6,tm2 h8];refine AAh (fun ha=>AAh (fun hb=>Zn ?_) fun hb=>Zn ?_) fun ha=>Zn ?_
    ·rw [decide_eq_true_eq];exact ⟨fun hc=>⟨⟨h1,h2⟩,⟨⟨h4,h5⟩,⟨h6,h7⟩,h8,h9⟩,ha,hb,hc⟩,fun h=>h.2.2.2.2⟩
    ·exact ⟨fun h=>(nomatch h),fun h=>absurd h.2.2.2.1 hb⟩
    ·exact ⟨fun h=>(nomatch h),fun h=>absurd h.2.2.1 ha⟩
   ·exact ⟨fun h=>(nomatch h),fun h=>absurd h.2.1.2.2.2 h9⟩
   ·exact ⟨fun h=>(nomatch h),fun h=>absurd h.2.1.2.2.1 h8⟩
   ·exact ⟨fun h=>(nomatch h),fun h=>absurd h.2.1.2.1.2 h7⟩
   ·exact ⟨fun h=>(nomatch h),fun h=>absurd h.2.1.2.1.1 h6⟩
   ·exact ⟨fun h=>(nomatch h),fun h=>absurd h.2.1.1.2 h5⟩
   ·exact ⟨fun h=>(nomatch h),fun h=>absurd h.2.1.1.1 h4⟩
 ·exact Zn ⟨fun h=>(nomatch h),fun h2=>absurd h2.1 h⟩
theorem Alx {p:Int} {k:Nat} {b:AGb} (hk:1<=k) (hs:b.2.1=1∨b.2.1=2) (h:AZb p k b):BOk p k b:=by
 obtain ⟨e,s,x,y,z⟩:=b;obtain ⟨⟨h1,h2⟩,h3⟩:=h;dsimp only at h1 h2 h3 hs;obtain ⟨e,rfl⟩:∃ e':Nat,e=e':=⟨e.toNat,Zj⟩;rw [Int.toNat_natCast] at h3;refine ⟨e,rfl,?_,?_⟩
 ·split at h2 <;> omega
 ·by_cases Ab:s=1
  ·rw [if_pos Ab] at h3;exact ⟨⟨Int.le_of_lt h3.1.1,h3.1.2⟩,.inl Ab⟩
  ·rw [if_neg Ab] at h3;exact ⟨h3.1.1,.inr ⟨hs.resolve_left Ab,h3.1.2.1,h3.1.2.2⟩⟩
def Asc (L:List AGb) (i:Nat):Prop:=0 < i-> ∀ b c,L[i]? =some b->L[i - 1]? =some c->c.1<=b.1
def RG (p:Int) (k:Nat) (L:List AGb) (i:Nat):Prop:=(∀ b,L[i]? =some b->AZb p k b)/\Asc L i
def RC (n k:Nat) (p:Int) (A T:AAb) (L:List AGb):Prop:=(∀ i,i < L.length->RG p k L i)/\Rng n (p ^ k) T/\det n T % p≠0/\ ∀ i,i < n-> ∀ j,j < n->ASn n (p ^ k) A T i j=Abx p L 0 (fun _ _=>0) i j
theorem Aly {fuel n k:Nat} {p:Int} {A T:AAb} {L:List AGb} (Ab:1<=n) (hn:n<=8) (hdig:AEy fuel (tab n n A) p=some (k:Int)) (hp:2<=p) (hq:p ^ k<=2147483647) (hk:1<=k) (Ac:p=2->3<=k) (hsz:∀ b∈L,b.2.1=1∨b.2.1=2) (hs:Aig L=n) (hl:L.length<=n) (Ad:p<=2147483647) (hf:100 < fuel):
    Ok (AGs fuel (tab n n A) p (tab n n T) L) fun b=>b=true↔RC n k p A T L:=by
 have Ae:2<=p ^ k:=by
   have:=AEz (p:=p) Zj hk
   rw [Int.pow_one] at this;omega
 unfold AGs RC;refine Zr (ABc hdig) fun x hx=>?_;subst hx;refine Zr (ABc (Aif hp hq hf)) fun q hqq=>?_;subst hqq;refine Zr (AQq (n:=L.length) (RG p k L) false Zj (fun i hi=>?_) ?_) fun ex hex=>?_
 ·obtain ⟨b,hb⟩:∃ b,L[i]? =some b:=⟨L[i],List.getElem?_eq_getElem hi⟩;unfold AG2;rw [if_pos Zj,ACw hb];refine Zr (Apr (b:=b) hp hq hk Ac hf) fun r hr=>AAh (fun h=>Zn (.inr ⟨rfl,fun hg=>?_⟩)) fun h=>?_
  ·have:=hr.2 (hg.1 b hb);rw [this] at h;cases h
  ·have hpb:AZb p k b:=hr.1 (by cases r with | true=>rfl | false=>exact absurd rfl h);have hP:∀ c,L[i]? =some c->AZb p k c:=fun c hc=>by rw [hb] at hc;cases hc;exact hpb
   refine AAh (fun h0=>?_) fun h0=>Zn (.inl ⟨by rw [ABr Zj],hP,fun h1=>by omega⟩);have Ag:i - 1 < L.length:=by omega
   obtain ⟨c,hc⟩:∃ c,L[i - 1]? =some c:=⟨L[i - 1],List.getElem?_eq_getElem Ag⟩;refine AAu hc (by rw [wk Zj];omega) (AAh (fun h2=>Zn (.inr ⟨rfl,fun hg=>?_⟩)) fun h2=>Zn (.inl ⟨by rw [ABr Zj],hP,fun h3 b' c' hb' hc'=>?_⟩))
   ·have:=hg.2 Zj b c hb hc;omega
   ·rw [hb] at hb';rw [hc] at hc';cases hb';cases hc';omega
 ·unfold AG2;rw [if_neg Zj]
 rcases hex with ⟨rfl,hG⟩ | ⟨rfl,hG⟩
 ·refine Zr (Avg hn hf) fun ex hex=>?_;rcases hex with ⟨rfl,hR⟩ | ⟨rfl,hR⟩
  ·refine Zr (ABc (Ave Ab hn hp Ad hf)) fun d hd=>?_;subst hd;refine Zr (ABc (Asi Ab hn Ae hq hf)) fun g hg=>?_;subst hg;dsimp only;refine AAh (fun h=>?_) fun h=>Zn ⟨fun h2=>(nomatch h2),fun h2=>absurd h2.2.2.1 h⟩;rw [AAt];refine Zr (ABc (Avh hn hp hq (fun b hb=>?_) hs hl hf)) fun g hg=>?_
   ·obtain ⟨i,hi⟩:=List.getElem?_of_mem hb;exact Alx hk (hsz b hb) ((hG i (List.getElem?_eq_some_iff.1 hi).1).1 b hi)
   ·subst hg;exact Zr (Asj hn hf) fun r hr=>Zn ⟨fun h2=>⟨hG,hR,h,hr.1 h2⟩,fun h2=>hr.2 h2.2.2.2⟩
  ·exact Zn ⟨fun h=>(nomatch h),fun h=>absurd h.2.1 hR⟩
 ·exact Zn ⟨fun h=>(nomatch h),fun h=>absurd h.1 hG⟩
def JG (p:Int) (n:Nat) (G:AAb) (L:List AGb) (i:Nat):Prop:=(G i i≠0/\ ∀ b,L[i]? =some b->IsB p (G i i) b)/\Asc L i/\ ∀ j,j < n->(j≠i->G i j=0)
def JC (n k:Nat) (p:Int) (A T:AAb) (L:List AGb):Prop:=Rng n (p ^ k) T/\det n T % p≠0/\ ∀ i,i < n->JG p n (ASn n (p ^ k) A T) L i
theorem AZc {n:Nat} {q:Int} {A T:AAb} (hq:2<=q) (i j:Nat):0<=ASn n q A T i j/\ASn n q A T i j < q:=⟨Int.emod_nonneg _ Zj,Int.emod_lt_of_pos _ Zj⟩
theorem Adg {fuel n k:Nat} {p:Int} {A T:AAb} {L:List AGb} (Ah:1<=n) (hn:n<=8) (hp:2<=p) (Ak:p<=9973) (hq:p ^ k<=2147483647) (hk:1<=k) (hl:L.length=n) (hf:2147483648 < fuel):Ok (AMg fuel (tab n n A) p (tab n n T) L (p ^ k)) fun b=>b=true↔JC n k p A T L:=by
 have Ai:2<=p ^ k:=by
   have:=AEz (p:=p) Zj hk
   rw [Int.pow_one] at this;omega
 have Af:100 < fuel:=by omega
 unfold AMg JC;refine Zr (Avf hn Af) fun ex hex=>?_;rcases hex with ⟨rfl,hR⟩ | ⟨rfl,hR⟩
 ·refine Zr (ABc (Avd Ah hn hp Zj hf)) fun d hd=>?_;subst hd;dsimp only;refine AAh (fun h=>Zn ⟨fun h2=>(nomatch h2),fun h2=>absurd h h2.2.1⟩) fun h=>Zr (ABc (Ash Ah hn Ai hq Af)) fun g hg=>?_;subst hg;dsimp only;have hb:∀ i j,0<=ASn n (p ^ k) A T i j/\ASn n (p ^ k) A T i j < p ^ k:=AZc Ai;generalize ASn n (p ^ k) A T=G at *;refine Zr (AQq (n:=n) (JG p n G L) false Zj (fun i hi=>?_) ?_) fun ex hex=>?_
  ·obtain ⟨b,hbi⟩:∃ b,L[i]? =some b:=⟨L[i]'Zj,List.getElem?_eq_getElem _⟩;unfold AL8;rw [AAt,if_pos Zj,ACw (AA1 hi),ACw (AA1 hi),ACw (AAq hi)];refine Zr (Q:=fun ex=>(ex= .inr ()/\G i i≠0/\ ∀ b,L[i]? =some b->IsB p (G i i) b)∨(ex= .inl false/\¬ (G i i≠0/\ ∀ b,L[i]? =some b->IsB p (G i i) b))) (AAh (fun h1=>Zn (.inr ⟨rfl,fun h2=>h2.1 h1⟩)) fun h1=>AAu hbi rfl ?_) fun ex hex=>?_
   ·have:=hb i i;refine Zr (Abw hp Ak Zj Zj Af) fun b0 Aj=>AAh (fun h2=>Zn (.inr ⟨rfl,fun h3=>?_⟩)) fun h2=>Zn (.inl ⟨rfl,h1,fun c hc=>?_⟩)
    ·have h4:(!decide (b=b0))=true:=h2;rw [Apo hp (h3.2 b hbi) Aj] at h4;simp at h4
    ·have h4: ¬ (!decide (b=b0))=true:=h2;rw [hbi] at hc;cases hc;have:b=b0:=by simpa using h4
     rw [this];exact Aj
   ·rcases hex with ⟨rfl,h1,h2⟩ | ⟨rfl,h1⟩
    ·refine Zr (Q:=fun ex=>(ex= .inr ()/\Asc L i)∨(ex= .inl false/\¬ Asc L i)) (AAh (fun h0=>AAu hbi rfl ?_) fun h0=>Zn (.inl ⟨rfl,fun h3=>by omega⟩)) fun ex hex=>?_
     ·obtain ⟨c,hc⟩:∃ c,L[i - 1]? =some c:=⟨L[i - 1]'Zj,List.getElem?_eq_getElem _⟩;refine AAu hc (by rw [wk Zj];omega) (AAh (fun h2=>Zn (.inr ⟨rfl,fun hg=>?_⟩)) fun h2=>Zn (.inl ⟨rfl,fun h3 b' c' hb' hc'=>?_⟩))
      ·have:=hg Zj b c hbi hc;omega
      ·rw [hbi] at hb';rw [hc] at hc';cases hb';cases hc';omega
     ·rcases hex with ⟨rfl,h3⟩ | ⟨rfl,h3⟩
      ·refine Zr (AQq (n:=n) (fun j=>j≠i->G i j=0) false Zj (fun j hj=>?_) ?_) fun ex hex=>?_
       ·unfold AL7;rw [AA2,if_pos Zj,ACw (AA1 hi),ACw (AAq hj)];refine AAh (fun h4=>AAh (fun h5=>Zn (.inr ⟨rfl,fun h6=>h5 (h6 Zj)⟩)) fun h5=>Zn (.inl ⟨by rw [ABr Zj],fun _=>Decidable.not_not.1 h5⟩)) fun h4=>Zn (.inl ⟨by rw [ABr Zj],fun h5=>by omega⟩)
       ·unfold AL7;rw [AA2,if_neg Zj]
       ·rcases hex with ⟨rfl,h4⟩ | ⟨rfl,h4⟩
        ·exact Zn (.inl ⟨by rw [ABr Zj],⟨h1,h2⟩,h3,h4⟩)
        ·exact Zn (.inr ⟨rfl,fun hg=>h4 hg.2.2⟩)
      ·exact Zn (.inr ⟨rfl,fun hg=>h3 hg.2.1⟩)
    ·exact Zn (.inr ⟨rfl,fun hg=>h1 hg.1⟩)
  ·unfold AL8;rw [AAt,if_neg Zj]
  ·rcases hex with ⟨rfl,h1⟩ | ⟨rfl,h1⟩
   ·exact Zn ⟨fun _=>⟨hR,h,h1⟩,fun _=>rfl⟩
   ·exact Zn ⟨fun h=>(nomatch h),fun h=>absurd h.2.2 h1⟩
 ·exact Zn ⟨fun h=>(nomatch h),fun h=>absurd h.1 hR⟩
theorem Alz {n k:Nat} {p:Int} {A T:AAb} {L:List AGb} (hp:3<=p) (hq:p ^ k<=2147483647) (hk:1<=k) (hsz:∀ b∈L,b.2.1=1) (hl:L.length=n):JC n k p A T L↔RC n k p A T L:=by
  have hq2:2<=p ^ k:=by
    have:=AEz (p:=p) Zj hk;rw [Int.pow_one] at this;omega
  have hb:∀ i j,0<=ASn n (p ^ k) A T i j/\ASn n (p ^ k) A T i j < p ^ k:=AZc hq2;have hm:=Atg (p:=p) (r:=0) (F:=fun _ _=>0) hsz;unfold JC RC;generalize ASn n (p ^ k) A T=G at *
  have hget:∀ i,i < n-> ∃ b,L[i]? =some b:=fun i hi=>⟨L[i]'Zj,List.getElem?_eq_getElem _⟩
  constructor
  · rintro ⟨h1,h2,h3⟩
    refine ⟨fun i hi=>⟨fun b hb2=>?_,(h3 i Zj).2.1⟩,h1,h2,fun i hi j hj=>?_⟩
    · obtain ⟨⟨hne,hI⟩,-,-⟩:=h3 i Zj;obtain ⟨e,u,rfl,hx,hu⟩:=hI b hb2;have hbi:=hb i i;have hpe:0 < p ^ e:=Int.pow_pos Zj
      have hu0:0 < u:=by
        rcases Int.lt_or_le 0 u with h | h
        · exact h
        · have:=Int.mul_nonpos_of_nonpos_of_nonneg h (Int.le_of_lt hpe);omega
      have hle:1 * p ^ e<=u * p ^ e:=Int.mul_le_mul_of_nonneg_right Zj Zj;have hek:e < k:=Aie (p:=p) Zj Zj;refine ⟨⟨Zj,by rw [if_neg Zj];show (e:Int)<=_;omega⟩,?_⟩;rw [if_pos rfl];refine ⟨⟨hu0,?_⟩,hu,rfl,rfl⟩;rw [Int.toNat_natCast];show u < p ^ (k - e);have h4:u * p ^ e < p ^ (k - e) * p ^ e:=by rw [<- Int.pow_add,show k - e + e=k by omega];omega
      exact Int.lt_of_mul_lt_mul_right h4 (Int.le_of_lt hpe)
    · rw [hm i j]
      by_cases hij:i=j
      · subst hij;obtain ⟨b,hbi⟩:=hget i hi;obtain ⟨e,u,rfl,hx,hu⟩:=(h3 i hi).1.2 b hbi;rw [if_pos ⟨rfl,Nat.zero_le _⟩,Nat.sub_zero,hbi,hx];show u * p ^ e=p ^ ((e:Int).toNat) * u;rw [Int.toNat_natCast,Int.mul_comm]
      · rw [if_neg (fun h=>hij h.1)];exact (h3 i hi).2.2 j hj (fun h=>hij h.symm)
  · rintro ⟨h1,h2,h3,h4⟩;refine ⟨h2,h3,fun i hi=>?_⟩;obtain ⟨b,hbi⟩:=hget i hi;obtain ⟨hP,hA⟩:=h1 i Zj;have hPb:=hP b hbi;have hs1:=hsz b (List.mem_of_getElem? hbi);obtain ⟨e,s,x,y,z⟩:=b;dsimp only at hs1;subst hs1;obtain ⟨⟨ha,hb2⟩,hc⟩:=hPb;dsimp only at ha hb2 hc;rw [if_pos rfl] at hc;obtain ⟨⟨c1,c2⟩,c3,rfl,rfl⟩:=hc;have hd:=h4 i hi i hi;rw [hm i i,if_pos ⟨rfl,Nat.zero_le _⟩,Nat.sub_zero,hbi] at hd;dsimp only at hd;have hpe:0 < p ^ e.toNat:=Int.pow_pos Zj;have:=Int.mul_pos hpe c1
    refine ⟨⟨Zj,fun c hc=>?_⟩,hA,fun j hj hne=>?_⟩
    · rw [hbi] at hc;cases hc;refine ⟨e.toNat,x,?_,by rw [hd,Int.mul_comm],c3⟩;rw [show ((e.toNat:Nat):Int)=e by omega]
    · rw [h4 i hi j hj,hm i j,if_neg (fun h=>hne h.1.symm)]
end Go.Proofs.YtdkldlbgcfpglaaGreatDoor
namespace Go.Proofs.YtdkldlbgcfpglaaGreatDoor
open Go Go.QF
structure Eli (n K:Nat) (p:Int) (H T G:AAb):Prop where
  c:Car n K p H T G
  d:Eqm (p ^ K) (det n T * det n T) 1
theorem AYc {n:Nat} {m:Int} {A A' B B':AAb} {i j:Nat} (hA:∀ k,k < n->Eqm m (A i k) (A' i k)) (hB:∀ k,k < n->Eqm m (B k j) (B' k j)):Eqm m (ACv n A B i j) (ACv n A' B' i j):=Eqm.psum fun k hk=>(hA k hk).mul (hB k hk)
theorem Eli.step {n K:Nat} {p:Int} {H T G E T' G':AAb} (S:Eli n K p H T G) (hE:det n E * det n E=1) (hT:∀ i j,i < n->j < n->Eqm (p ^ K) (T' i j) (ACv n T E i j)) (hG:∀ i j,i < n->j < n->Eqm (p ^ K) (G' i j) (ACv n (trF E) (ACv n G E) i j)):Eli n K p H T' G':=by
 refine ⟨fun i j hi hj=>?_,?_⟩
 ·have h1:Eqm (p ^ K) (ACv n (trF T') (ACv n H T') i j) (ACv n (trF (ACv n T E)) (ACv n H (ACv n T E)) i j):=AYc (fun k hk=>hT k i hk hi) fun k hk=>AYc (fun l hl=>Eqm.refl _ _) fun l hl=>hT l j hl hj;refine h1.trans (Eqm.trans (Eqm.of_eq ?_) ((AYc (fun k hk=>Eqm.refl _ _) fun k hk=>AYc (fun l hl=>S.c k l hk hl) fun l hl=>Eqm.refl _ _).trans (hG i j hi hj).symm));rw [AOd (fun k hk=>AZ8 i k) (fun k hk=>rfl),AOc];refine AOd (fun _ _=>rfl) fun k hk=>?_;rw [AOc];refine AOd (fun _ _=>rfl) fun l hl=>?_;rw [AOc]
 ·have h1:Eqm (p ^ K) (det n T') (det n T * det n E):=by rw [<- AUh];exact AV6 hT
  refine (h1.mul h1).trans (Eqm.trans (Eqm.of_eq ?_) S.d);rw [show det n T * det n E * (det n T * det n E)=det n T * det n T * (det n E * det n E) by grind,hE,Int.mul_one]
theorem Avi {n K:Nat} {p:Int} {H G:AAb} (hG:∀ i j,i < n->j < n->Eqm (p ^ K) (G i j) (H i j)):Eli n K p H dl G:=by
 refine ⟨fun i j hi hj=>?_,by rw [AYy];exact Eqm.refl _ _⟩
 ·refine Eqm.trans (Eqm.of_eq ?_) (hG i j hi hj).symm;exact (Ajz (n:=n) (A:=H) i j hi hj).symm
def Aih (j k:Nat) (c:Int):AAb:=ABy dl k fun x=>dl k x + c * dl j x
theorem Aps (j k:Nat) (c:Int) (a b:Nat):Aih j k c a b=dl a b + (if a=k then c * dl j b else 0):=by
 unfold Aih;rw [ABd];by_cases h:a=k
 ·subst h;rw [if_pos rfl,if_pos rfl]
 ·rw [if_neg h,if_neg h];simp
theorem Apt {n j k:Nat} {c:Int} (hj:j < n) (hk:k < n) (hne:k≠j):det n (Aih j k c) * det n (Aih j k c)=1:=by
 unfold Aih;rw [ALp hk hj hne,AYy];rfl
theorem AYd {n j k:Nat} {c:Int} {T:AAb} {a b:Nat} (hk:k < n) (hb:b < n):ACv n T (Aih j k c) a b=T a b + (if b=j then c * T a k else 0):=by
 unfold ACv
 rw [ABb (g:=fun l=>T a l * dl l b + (if l=k then T a k * (c * dl j b) else 0)) fun l _=>by
   rw [Aps];by_cases h:l=k
   · subst h;rw [if_pos rfl,if_pos rfl];grind
   · rw [if_neg h,if_neg h];simp,AM6,Ahu hb,APt hk fun l _ hne=>if_neg hne,if_pos rfl]
 unfold dl;by_cases h:b=j
 ·subst h;rw [if_pos rfl,if_pos rfl];grind
 ·rw [if_neg h,if_neg fun h2=>h h2.symm];simp
theorem Asm {n j k:Nat} {c:Int} {M:AAb} {a b:Nat} (hk:k < n) (ha:a < n):ACv n (trF (Aih j k c)) M a b=M a b + (if a=j then c * M k b else 0):=by
 have:=AYd (T:=trF M) (j:=j) (c:=c) (a:=b) hk ha;rw [<- show trF (trF M)=M from rfl,<- AZ8];exact this
theorem Eli.add {n K:Nat} {p:Int} {H T G T' G':AAb} {j k:Nat} {c:Int} (S:Eli n K p H T G) (hj:j < n) (hk:k < n) (hne:k≠j) (hT:∀ a b,a < n->b < n->Eqm (p ^ K) (T' a b) (T a b + if b=j then c * T a k else 0)) (hG:∀ a b,a < n->b < n->Eqm (p ^ K) (G' a b) (G a b + (if b=j then c * G a k else 0) + if a=j then c * (G k b + if b=j then c * G k k else 0) else 0)):Eli n K p H T' G':=
  S.step (Apt hj hk hne) (fun a b ha hb=>by rw [AYd hk hb];exact hT a b ha hb) fun a b ha hb=>by
    rw [Asm hk ha,AYd hk hb,AYd hk hb]
    exact hG a b ha hb
def sw2 (i j a:Nat):Nat:=if a=j then i else if a=i then j else a
theorem AW8 {n i j a:Nat} (hi:i < n) (hj:j < n) (ha:a < n):sw2 i j a < n:=by
 unfold sw2;by_cases h1:a=j
 ·rw [if_pos h1];exact hi
 ·rw [if_neg h1];by_cases h2:a=i
  ·rw [if_pos h2];exact hj
  ·rw [if_neg h2];exact ha
theorem Aeq (i j a:Nat):sw2 i j (sw2 i j a)=a:=by
 unfold sw2;by_cases h1:a=j
 ·subst h1;rw [if_pos rfl];by_cases h2:i=a
  ·rw [if_pos h2,h2]
  ·rw [if_neg h2,if_pos rfl]
 ·rw [if_neg h1];by_cases h2:a=i
  ·subst h2;rw [if_pos rfl,if_pos rfl]
  ·rw [if_neg h2,if_neg h1,if_neg h2]
theorem Aer (i j a b:Nat):AEm dl i j a b=dl (sw2 i j a) b:=by
 rw [AJ3];unfold sw2;by_cases h1:a=j
 ·rw [if_pos h1,if_pos h1]
 ·rw [if_neg h1,if_neg h1];by_cases h2:a=i
  ·rw [if_pos h2,if_pos h2]
  ·rw [if_neg h2,if_neg h2]
theorem Asn {n i j:Nat} (hi:i < n) (hj:j < n):det n (AEm dl i j) * det n (AEm dl i j)=1:=by
 by_cases h:i=j
 ·subst h
  rw [AB8 (G:=dl) fun a b _ _=>by
    rw [Aer];unfold sw2;by_cases h:a=i
    · rw [if_pos h,h]
    · rw [if_neg h,if_neg h],AYy];rfl
 ·rw [AP6 hi hj h,AYy];rfl
theorem Aes {n i j:Nat} {T:AAb} {a b:Nat} (hi:i < n) (hj:j < n) (hb:b < n):ACv n T (AEm dl i j) a b=T a (sw2 i j b):=by
 unfold ACv;rw [APt (AW8 hi hj hb) fun k _ hne=>?_]
 ·rw [Aer,Aeq];unfold dl;rw [if_pos rfl];simp
 ·rw [Aer];unfold dl;rw [if_neg fun h=>hne (by rw [<- h,Aeq])];simp
theorem Avj {n i j:Nat} {M:AAb} {a b:Nat} (hi:i < n) (hj:j < n) (ha:a < n):ACv n (trF (AEm dl i j)) M a b=M (sw2 i j a) b:=by
 have:=Aes (T:=trF M) (a:=b) hi hj ha;rw [<- show trF (trF M)=M from rfl,<- AZ8];exact this
theorem Eli.swap {n K:Nat} {p:Int} {H T G T' G':AAb} {i j:Nat} (S:Eli n K p H T G) (hi:i < n) (hj:j < n) (hT:∀ a b,a < n->b < n->T' a b=T a (sw2 i j b)) (hG:∀ a b,a < n->b < n->G' a b=G (sw2 i j a) (sw2 i j b)):Eli n K p H T' G':=
  S.step (Asn hi hj) (fun a b ha hb=>by rw [Aes hi hj hb,hT a b ha hb];exact Eqm.refl _ _) fun a b ha hb=>by
    rw [Avj hi hj ha,Aes hi hj hb,hG a b ha hb];exact Eqm.refl _ _
theorem Eli.sym {n K:Nat} {p:Int} {H T G:AAb} (S:Eli n K p H T G) (hs:∀ i j,i < n->j < n->H i j=H j i) (hG:ATq n (p ^ K) G) {i j:Nat} (hi:i < n) (hj:j < n):G i j=G j i:=by
 refine Acs ?_ (hG i j hi hj) (hG j i hj hi);refine (S.c i j hi hj).symm.trans (Eqm.trans (Eqm.of_eq ?_) (S.c j i hj hi));show psum (fun a=>T a i * psum (fun b=>H a b * T b j) n) n=psum (fun a=>T a j * psum (fun b=>H a b * T b i) n) n;rw [ABb (g:=fun a=>psum (fun b=>T a i * (H a b * T b j)) n) fun a _=>(AF8 _ _ _).symm,AYx,ABb (f:=fun a=>T a j * psum (fun b=>H a b * T b i) n) (g:=fun a=>psum (fun b=>T a j * (H a b * T b i)) n) fun a _=>(AF8 _ _ _).symm];refine ABb fun a ha=>ABb fun b hb=>?_;rw [hs b a hb ha];grind
theorem Eli.det {n K:Nat} {p:Int} {H T G:AAb} (S:Eli n K p H T G):Eqm (p ^ K) (QF.det n G) (QF.det n H):=by
 have h1:Eqm (p ^ K) (QF.det n G) (QF.det n (ACv n (trF T) (ACv n H T))):=AV6 fun i j hi hj=>(S.c i j hi hj).symm;refine h1.trans ?_;rw [AUh,AUh,AQl];refine Eqm.trans (Eqm.of_eq (show QF.det n T * (QF.det n H * QF.det n T)=QF.det n H * (QF.det n T * QF.det n T) by grind)) ?_;have:=(Eqm.refl (p ^ K) (QF.det n H)).mul S.d;rwa [Int.mul_one] at this
theorem Eli.some {n K k:Nat} {p:Int} {H T G:AAb} (S:Eli n K p H T G) (hd: ¬ p ^ K ∣ QF.det n H) (hk:k < n) (hz:∀ j,j < k->G k j=0):∃ j,k<=j/\j < n/\G k j≠0:=by
  refine Classical.byContradiction fun hn=>hd ?_
  have h0:QF.det n G=0:=AUg hk fun j hj=>Classical.byContradiction fun h=>hn ⟨j,by
    rcases Nat.lt_or_ge j k with hl | hl
    · exact absurd (hz j hl) h
    · exact hl,hj,h⟩
  have:=S.det;rw [h0] at this;exact Aek.1 this.symm
theorem Eli.unit {n K:Nat} {p:Int} {H T G:AAb} (S:Eli n K p H T G) (hp:2<=p) (hK:1<=K):QF.det n T % p≠0:=fun h=>by
  have h1:Eqm p (QF.det n T * QF.det n T) 1:=S.d.down ⟨p ^ (K - 1),by rw [<- Int.pow_succ'];congr 1;omega⟩
  have h2:p ∣ (1:Int):=Ar7 h1.symm (Int.dvd_refl p) (Int.dvd_trans (Int.dvd_of_emod_eq_zero h) ⟨_,rfl⟩)
  have:=Int.le_of_dvd Zl h2
  omega
theorem Eli.cong {n K:Nat} {p:Int} {H T G:AAb} (S:Eli n K p H T G) (hG:ATq n (p ^ K) G) (hq:2<=p ^ K) {i j:Nat} (hi:i < n) (hj:j < n):ASn n (p ^ K) H T i j=G i j:=by
 refine Acs ?_ (AZc hq i j) (hG i j hi hj);refine Eqm.trans ?_ (S.c i j hi hj);unfold ASn;refine (Eqm.mod _ _).trans (Eqm.psum fun k hk=>(Eqm.mod _ _).mul ((Eqm.mod _ _).trans (Eqm.psum fun l hl=>(Eqm.mod _ _).mul (Eqm.mod _ _))))
def AQ4 (q:Int) (j l:Nat) (c:Int) (T:AAb):AAb:=fun a b=>if b=j then (T a j + c * T a l) % q else T a b
def Apu (q:Int) (j l:Nat) (c:Int) (G:AAb):AAb:=fun a b=>if a=j then (G j b + c * G l b) % q else G a b
def AW9 (q:Int) (j l:Nat) (c:Int) (G:AAb):AAb:=Apu q j l c (AQ4 q j l c G)
def swC (i j:Nat) (T:AAb):AAb:=fun a b=>T a (sw2 i j b)
def swG (i j:Nat) (G:AAb):AAb:=fun a b=>G (sw2 i j a) (sw2 i j b)
theorem ATs (q:Int) (j l:Nat) (c:Int) (G:AAb) (a b:Nat):AW9 q j l c G a b=if a=j then (if b=j then ((G j j + c * G j l) % q + c * ((G l j + c * G l l) % q)) % q else (G j b + c * G l b) % q) else if b=j then (G a j + c * G a l) % q else G a b:=by
 unfold AW9 Apu AQ4;by_cases h:a=j
 ·rw [if_pos h,if_pos h];by_cases h2:b=j
  ·rw [if_pos h2,if_pos h2,if_pos h2]
  ·rw [if_neg h2,if_neg h2,if_neg h2]
 ·rw [if_neg h,if_neg h]
theorem Aj8 {d q x:Int} (hq:d ∣ q) (hx:d ∣ x):d ∣ x % q:=by
 rw [Int.emod_def];exact Int.dvd_sub hx (Int.dvd_trans hq ⟨_,rfl⟩)
theorem AYe {q:Int} (hq:0 < q) (x:Int):0<=x % q/\x % q < q:=⟨Int.emod_nonneg _ Zj,Int.emod_lt_of_pos _ hq⟩
theorem AWb {n j l:Nat} {q c:Int} {T:AAb} (hq:0 < q) (h:ATq n q T):ATq n q (AQ4 q j l c T):=fun a b ha hb=>by
  unfold AQ4;split
  · exact AYe hq _
  · exact h a b ha hb
theorem Al0 {n j l:Nat} {q c:Int} {G:AAb} (hq:0 < q) (h:ATq n q G):ATq n q (AW9 q j l c G):=fun a b ha hb=>by
  unfold AW9 Apu;split
  · exact AYe hq _
  · exact AWb hq h a b ha hb
structure JS (n K:Nat) (p:Int) (H T G:AAb) (k E:Nat):Prop where
  rt:ATq n (p ^ K) T
  rg:ATq n (p ^ K) G
  e:Eli n K p H T G
  z:∀ i j,i < k->j < n->j≠i->G i j=0
  fl:∀ i j,k<=i->i < n->k<=j->j < n->p ^ E ∣ G i j
theorem JS.add {n K k E j l:Nat} {p c:Int} {H T G:AAb} (S:JS n K p H T G k E) (hq:0 < p ^ K) (hE:E<=K) (hj:k<=j) (hjn:j < n) (hl:k<=l) (hln:l < n) (hne:l≠j):JS n K p H (AQ4 (p ^ K) j l c T) (AW9 (p ^ K) j l c G) k E:=by
 refine ⟨AWb hq S.rt,Al0 hq S.rg,?_,fun a b ha hb hba=>?_,fun a b ha han hb hbn=>?_⟩
 ·exact S.e.add (c:=c) hjn hln hne (fun a b ha hb=>by
    unfold AQ4;by_cases h:b=j
    · subst h;rw [if_pos rfl,if_pos rfl];exact Eqm.mod _ _
    · rw [if_neg h,if_neg h,Int.add_zero];exact Eqm.refl _ _) fun a b ha hb=>by
    rw [ATs]
    by_cases h:a=j
    · subst h;rw [if_pos rfl,if_pos rfl];by_cases h2:b=a
      · subst h2;rw [if_pos rfl,if_pos rfl,if_pos rfl]
        exact (Eqm.mod _ _).trans ((Eqm.mod _ _).add ((Eqm.refl _ _).mul (Eqm.mod _ _)))
      · rw [if_neg h2,if_neg h2,if_neg h2,Int.add_zero,Int.add_zero];exact Eqm.mod _ _
    · rw [if_neg h,if_neg h,Int.add_zero];by_cases h2:b=j
      · subst h2;rw [if_pos rfl,if_pos rfl];exact Eqm.mod _ _
      · rw [if_neg h2,if_neg h2,Int.add_zero];exact Eqm.refl _ _
 ·rw [ATs,if_neg Zj];by_cases h:b=j
  ·subst h;rw [if_pos rfl,S.z a b ha hb hba,S.z a l ha hln Zj];simp
  ·rw [if_neg h];exact S.z a b ha hb hba
 ·have hd:p ^ E ∣ p ^ K:=AIz hE;have key:∀ x y,k<=x->x < n->k<=y->y < n-> ∀ u v,k<=u->u < n->k<=v->v < n->p ^ E ∣ (G x y + c * G u v) % p ^ K:=fun x y h1 h2 h3 h4 u v h5 h6 h7 h8=>Aj8 hd (Int.dvd_add (S.fl x y h1 h2 h3 h4) (Int.dvd_trans (S.fl u v h5 h6 h7 h8) ⟨c,Int.mul_comm _ _⟩));rw [ATs];by_cases h:a=j
  ·rw [if_pos h];by_cases h2:b=j
   ·rw [if_pos h2];exact Aj8 hd (Int.dvd_add (key j j hj hjn hj hjn j l hj hjn hl hln) (Int.dvd_trans (key l j hl hln hj hjn l l hl hln hl hln) ⟨c,Int.mul_comm _ _⟩))
   ·rw [if_neg h2];exact key j b hj hjn hb hbn l b hl hln hb hbn
  ·rw [if_neg h];by_cases h2:b=j
   ·rw [if_pos h2];exact key a j ha han hj hjn a l ha han hl hln
   ·rw [if_neg h2];exact S.fl a b ha han hb hbn
theorem Apv {k i j a:Nat} (hi:k<=i) (hj:k<=j) (ha:k<=a):k<=sw2 i j a:=by
 unfold sw2;by_cases h1:a=j
 ·rw [if_pos h1];exact hi
 ·rw [if_neg h1];by_cases h2:a=i
  ·rw [if_pos h2];exact hj
  ·rw [if_neg h2];exact ha
theorem Aet {i j a:Nat} (hi:a≠i) (hj:a≠j):sw2 i j a=a:=by unfold sw2;rw [if_neg hj,if_neg hi]
theorem JS.swap {n K k E i j:Nat} {p:Int} {H T G:AAb} (S:JS n K p H T G k E) (hi:k<=i) (hin:i < n) (hj:k<=j) (hjn:j < n):JS n K p H (swC i j T) (swG i j G) k E:=by
 refine ⟨(fun a b ha hb=>S.rt a _ ha (AW8 hin hjn hb)),(fun a b ha hb=>S.rg _ _ (AW8 hin hjn ha) (AW8 hin hjn hb)),S.e.swap hin hjn (fun _ _ _ _=>rfl) fun _ _ _ _=>rfl,fun a b ha hb hba=>?_,(fun a b ha han hb hbn=>S.fl _ _ (Apv hi hj ha) (AW8 hin hjn han) (Apv hi hj hb) (AW8 hin hjn hbn))⟩
 ·unfold swG;rw [Aet (a:=a) Zj Zj];exact S.z a _ ha (AW8 hin hjn hb) fun h=>hba (by rw [<- Aeq i j b,h,Aet Zj Zj])
theorem JS.pivot {n K k E i j:Nat} {p u:Int} {H T G:AAb} (S:JS n K p H T G k E) (hs:∀ i j,i < n->j < n->H i j=H j i) (hp:PrI p) (hp2: ¬ p ∣ 2) (hEK:E < K) (hi:k<=i) (hin:i < n) (hj:k<=j) (hjn:j < n) (hne:j≠i) (hu:G i j=u * p ^ E) (hpu: ¬ p ∣ u) (h1:p ^ (E + 1) ∣ G i i) (h2:p ^ (E + 1) ∣ G j j):∃ v,AW9 (p ^ K) i j 1 G i i=v * p ^ E/\¬ p ∣ v:=by
  have hq:0 < p ^ K:=Int.pow_pos (by have:=hp.1;omega);obtain ⟨v,hv⟩:=(S.add (c:=1) hq Zj hi hin hj hjn hne).fl i i hi hin hi hin;refine ⟨v,by rw [hv,Int.mul_comm],fun hd=>?_⟩
  have e1:Eqm (p ^ K) (AW9 (p ^ K) i j 1 G i i) (G i i + 1 * G i j + 1 * (G j i + 1 * G j j)):=by
    rw [ATs,if_pos rfl,if_pos rfl];exact (Eqm.mod _ _).trans ((Eqm.mod _ _).add ((Eqm.refl _ _).mul (Eqm.mod _ _)))
  rw [S.e.sym hs S.rg hjn hin] at e1;have e2:=ASm (e1.down (AIz (p:=p) (show E + 1<=K by omega)));obtain ⟨w,rfl⟩:=hd;have h3:p ^ (E + 1) ∣ AW9 (p ^ K) i j 1 G i i:=⟨w,by rw [hv,Int.pow_succ];grind⟩
  have h4:p ^ (E + 1) ∣ 2 * G i j:=by
    have:2 * G i j=AW9 (p ^ K) i j 1 G i i - (AW9 (p ^ K) i j 1 G i i - (G i i + 1 * G i j + 1 * (G i j + 1 * G j j))) - G i i - G j j:=by omega
    rw [this];exact Int.dvd_sub (Int.dvd_sub (Int.dvd_sub h3 e2) h1) h2
  rw [hu,Int.pow_succ] at h4;obtain ⟨x,hx⟩:=h4;have hpE:p ^ E≠0:=AZ7 hp E;have:p ∣ 2 * u:=⟨x,Int.eq_of_mul_eq_mul_left hpE (by rw [show p ^ E * (2 * u)=2 * (u * p ^ E) by grind,hx];grind)⟩;exact (hp.2 _ _ this).elim hp2 hpu
theorem Aii {K E:Nat} {p x d A v:Int} (hq:0 < p ^ K) (hp:0 < p) (hx:0<=x) (hxd:p ^ E ∣ x) (hd:d=A * p ^ E) (hv:Eqm (p ^ K) (v * A) 1):(x + ((p ^ K - (x / p ^ E * v) % p ^ K) % p ^ K) * d) % p ^ K=0:=by
  have h1:Eqm (p ^ K) ((p ^ K - (x / p ^ E * v) % p ^ K) % p ^ K) (0 - x / p ^ E * v):=(Eqm.mod _ _).trans (Eqm.sub (by unfold Eqm;simp) (Eqm.mod _ _));obtain ⟨y,rfl⟩:=hxd;rw [Int.mul_ediv_cancel_left _ (by have:=Int.pow_pos (n:=p) (m:=E) hp;omega)] at h1 ⊢;refine Eqm.zero (((Eqm.refl _ _).add (h1.mul (Eqm.refl _ d))).trans ?_);rw [hd];refine Eqm.trans (Eqm.of_eq (show p ^ E * y + (0 - y * v) * (A * p ^ E)=p ^ E * y - p ^ E * y * (v * A) by grind)) ?_;refine ((Eqm.refl _ _).sub ((Eqm.refl _ (p ^ E * y)).mul hv)).trans (Eqm.of_eq ?_);omega
theorem JS.next {n K k E:Nat} {p:Int} {H T G:AAb} (S:JS n K p H T G k E) (hs:∀ i j,i < n->j < n->H i j=H j i) (hk:k < n) (hz:∀ j,k < j->j < n->G k j=0):JS n K p H T G (k + 1) E:=by
  refine ⟨S.rt,S.rg,S.e,fun i j hi hj hne=>?_,(fun i j hi hin hj hjn=>S.fl i j Zj hin Zj hjn)⟩
  · rcases Nat.lt_or_ge i k with h | h
    · exact S.z i j h hj hne
    · obtain rfl:i=k:=by omega
      rcases Nat.lt_or_ge i j with h2 | h2
      · exact hz j h2 hj
      · rw [S.e.sym hs S.rg Zj hj];exact S.z j i Zj hk Zj
structure JL (n:Nat) (p:Int) (G:AAb) (L:List AGb) (k E:Nat):Prop where
  len:L.length=k
  bl:∀ i b,L[i]? =some b->G i i≠0/\IsB p (G i i) b/\b.1<=E
  asc:∀ i,Asc L i
theorem JL.keep {n k E:Nat} {p:Int} {G G':AAb} {L:List AGb} (B:JL n p G L k E) (h:∀ i,i < k->G' i i=G i i):JL n p G' L k E:=⟨B.len,fun i b hb=>by
  rw [h i (by rw [<- B.len];exact (List.getElem?_eq_some_iff.1 hb).1)];exact B.bl i b hb,B.asc⟩
theorem JL.push {n k E F:Nat} {p:Int} {G:AAb} {L:List AGb} {b:AGb} (B:JL n p G L k E) (h0:G k k≠0) (hb:IsB p (G k k) b) (hF:b.1=F) (hE:E<=F):JL n p G (L ++ [b]) (k + 1) F:=by
 refine ⟨by simp [B.len],fun i c hc=>?_,fun i hi x y hx hy=>?_⟩
 ·rcases Nat.lt_or_ge i L.length with h | h
  ·rw [List.getElem?_append_left h] at hc;have:=B.bl i c hc;exact ⟨this.1,this.2.1,Zj⟩
  ·rw [List.getElem?_append_right h] at hc
   have h2:i - L.length=0:=by
     refine Classical.byContradiction fun h3=>?_
     rw [List.getElem?_eq_none (by simp;omega)] at hc;cases hc
   rw [h2] at hc;obtain rfl:b=c:=by simpa using hc
   obtain rfl:i=k:=by have:=B.len;omega
   exact ⟨h0,hb,Zj⟩
 ·rcases Nat.lt_or_ge i L.length with h | h
  ·rw [List.getElem?_append_left h] at hx;rw [List.getElem?_append_left Zj] at hy;exact B.asc i hi x y hx hy
  ·rw [List.getElem?_append_right h] at hx
   have h2:i - L.length=0:=by
     refine Classical.byContradiction fun h3=>?_
     rw [List.getElem?_eq_none (by simp;omega)] at hx;cases hx
   rw [h2] at hx;obtain rfl:b=x:=by simpa using hx
   rw [List.getElem?_append_left Zj] at hy;have:=(B.bl _ _ hy).2.2;omega
theorem Awq {n K E:Nat} {p:Int} {H T G:AAb} {L:List AGb} (S:JS n K p H T G n E) (B:JL n p G L n E) (hp:2<=p) (hK:1<=K):JC n K p H T L:=by
  have hq:2<=p ^ K:=by
    have h1:p ^ 1<=p ^ K:=AEz Zj hK;rw [Int.pow_succ,Int.pow_zero,Int.one_mul] at h1;omega
  refine ⟨fun i hi j hj=>S.rt i j hi hj,S.e.unit hp hK,fun i hi=>⟨⟨?_,fun b hb=>?_⟩,B.asc i,fun j hj hne=>?_⟩⟩
  · rw [S.e.cong S.rg hq hi hi];exact (B.bl i _ (List.getElem?_eq_getElem (by rw [B.len];exact hi))).1
  · rw [S.e.cong S.rg hq hi hi];exact (B.bl i b hb).2.1
  · rw [S.e.cong S.rg hq hi hj];exact S.z i j hi hj hne
theorem Aeu:FdT Tryz.prog 80 0 0 2:=⟨_,_,Tryz.underlying80,rfl,rfl,rfl⟩
theorem APg:FdT Tryz.prog 80 1 1 2:=⟨_,_,Tryz.underlying80,rfl,rfl,rfl⟩
theorem AIo:FdT Tryz.prog 80 2 2 25:=⟨_,_,Tryz.underlying80,rfl,rfl,rfl⟩
theorem AUo:FdT Tryz.prog 80 3 3 25:=⟨_,_,Tryz.underlying80,rfl,rfl,rfl⟩
theorem AQr:SlT Tryz.prog 163 25 1:=ASr Tryz.underlying163 Zy
theorem Apw:ZeT Tryz.prog 25 (.slice none 0 0) 24:=ARc Zy
end Go.Proofs.YtdkldlbgcfpglaaGreatDoor
namespace Go.Proofs.YtdkldlbgcfpglaaGreatDoor
open Go Go.QF
set_option maxRecDepth 100000
set_option maxHeartbeats 4000000
def ALl (fuel:Nat) (Ab Aa Ac Ad:Int):Option ((Int × Int × Int × Int) ⊕ ((Int × Int))):=
  (if ¬ Aa=0 then (if Aa≠0 then (some (Sum.inl (Aa,(w64 (Ab - (w64 ((w64 (Int.tdiv Ab Aa)) * Aa)))),Ad,(w64 (Ac - (w64 ((w64 (Int.tdiv Ab Aa)) * Ad))))))) else none) else (some (Sum.inr<| (Ab,Ac))))
def AHl (fuel:Nat) (a1 a2:Int):Option (Int × Bool):=
  ((iter (fun s=>ALl fuel s.1 s.2.1 s.2.2.1 s.2.2.2) fuel (a2,a1,0,1)).bind (fun ((Ac,Ad):Int × Int)=>(if a2≠0 then (if a2≠0 then (some ((Int.tmod (w64 ((Int.tmod Ad a2) + a2)) a2),(decide (Ac=1)))) else none) else none)))
theorem ATt {fuel:Nat} {h:Zv} {a1 a2:Int} {r:(Int × Bool)} (hp:AHl fuel a1 a2=some r):AAw Tryz.prog 145 #[(.int .i64 a1),(.int .i64 a2)] h (fun x h'=>Ext h h'/\x= .tuple #[.int .i64 r.1,.bool r.2]):=by
 unfold AHl at hp;refine cwf (l:=[_,_]) Tryz.func145 rfl rfl (Zo (AAn (AA5 (Zk (Zk (AAn (AA5 (AAn (Zu (Zp (Zt ?_)))))))))));have K0:=Kst.k0 h;refine AG5 1073735616 hp (fun x=>[(6,(.int .i64 x.1)),(7,(.int .i64 x.2.1)),(8,(.int .i64 x.2.2.1)),(9,(.int .i64 x.2.2.2))]) (fun x=>K0.L) K0 ⟨rfl,rfl,rfl,rfl,trivial⟩ ?_;rintro ⟨u9,Aq,Ar,Au⟩ Av h6 y5 K8 Aa Ag;unfold ALl at Aa;refine Zp (Zo (Zk (ACp rfl rfl (Zs (⟨_,rfl,fun Ab=>?_,fun Ab=>?_⟩)))))
 ·refine Zw (q_t (Zt (Zo (Zk (Zk ?_)))));obtain ⟨Ah,Ai⟩:=ifN (AA8 Aa Ab);refine AU5 rfl rfl Ah (AA5 (Zk (Zk (Zk (Zk (AL9 rfl rfl (AFl rfl rfl (AAn (Zu (AAc (Zk (Zk (Zk (Zk (AL9 rfl rfl (AFl rfl rfl (AAn (AAn (AAo (q_b (q_t ?_)))))))))))))))))))));exact ⟨_,(Zm Ai).symm,K8,rfl,rfl,rfl,rfl,trivial⟩
 ·refine AAj (AAk (AAk (ABm (q_t (Zo (Zk (Zk ?_)))))));obtain ⟨Aj,Ak⟩:=ifN (Ag _ (Zm (AA9 Aa Ab)).symm);refine ADk rfl rfl Aj (Zk (AAx rfl rfl (Zk ?_)));obtain ⟨Am,Ao⟩:=ifN Ak;refine ADk rfl rfl Am (Zk (ABx rfl rfl (AAn (Zu (Zx ?_)))));obtain rfl:=Zm Ao;exact ⟨_,ABi,K8.x,rfl⟩
def ANe (fuel:Nat) (Aa:LiI) (Ab Ac:Int):Option ((Int × Int) ⊕ ((Int))):=
  (if Ac < (Aa.length:Int) then none else (some (Sum.inr<| Ab)))
def AHm (fuel:Nat) (Ab:LiI) (Ac Aa:Int):Option ((Int × Int) ⊕ ((Int))):=
  (if Aa < (Ab.length:Int) then ((iter (fun s=>ANe fuel Ab s.1 s.2) fuel (Ac,(w64 (Aa + 1)))).bind (fun (Ad:Int)=>(some (Sum.inl (Ad,(w64 (Aa + 1))))))) else (some (Sum.inr<| Ac)))
def AEk (fuel:Nat) (a5 Ad:Int) (Af:LiA) (Ag Aa:Int) (Ab:LiI):Option ((Int × LiI) ⊕ ((LiI))):=
  (if Aa < (Af.length:Int) then ((gI Ab Ad).bind fun Ae=>((gI Ae Aa).bind fun Ah=>(if a5≠0 then (some (Sum.inl ((w64 (Aa + 1)),(sI Ab Ad (sI Ae Aa (Int.tmod (w64 (Ah * Ag)) a5)))))) else none))) else (some (Sum.inr<| Ab)))
def AMq (fuel:Nat) (Aa Ab:Int):Option ((Int) ⊕ ((Unit))):=
  (if Ab < Aa then none else (some (Sum.inr<| ())))
def AMr (fuel:Nat) (a3 Ae:LiI) (Ab:Int) (Ac:LiI):Option ((Int × LiI) ⊕ ((LiI))):=
  (if Ab < (Ae.length:Int) then ((gI Ac Ab).bind fun Ad=>(if 0<=(a3.length:Int)/\(a3.length:Int)<=(Ad.length:Int) then (if (List.drop (Int.toNat (a3.length:Int)) Ad).length<=100000000 then (some (Sum.inl ((w64 (Ab + 1)),(sI Ac Ab (List.drop (Int.toNat (a3.length:Int)) Ad))))) else none) else none)) else (some (Sum.inr<| Ac)))
def AHn (fuel:Nat) (a5 Aa:Int) (Ab:LiI):Option ((Int × LiI) ⊕ (((LiI × Int)) ⊕ (LiI))):=
  (if 0<=Aa then ((gI Ab Aa).bind fun Ad=>((gI Ad Aa).bind fun Ae=>((AHl fuel Ae a5).bind fun (Af,Ag)=>(if (!Ag)=true then (some (Sum.inr<| Sum.inl <| ([],8))) else ((((iter (fun s=>AEk fuel a5 Aa Ad Af s.1 s.2) fuel (0,Ab)).bind (fun (Ah:LiI)=>(some ( Ah)))):Option (LiI)).bind fun Ai=>((iter (fun s=>AMq fuel Aa s) fuel 0).bind (fun (_:Unit)=>(some (Sum.inl ((w64 (Aa - 1)),Ai)))))))))) else (some (Sum.inr<| Sum.inr <| Ab)))
def ANf (fuel:Nat) (a3 Af:LiI) (Aa:Int) (Ac:LiI):Option ((Int × LiI) ⊕ ((LiI))):=
  (if Aa < (Af.length:Int) then ((gI Ac Aa).bind fun Ad=>(if 0 < Ad.length/\Ad.length<=100000/\0 < (a3.length:Int)/\(a3.length:Int)<=100000 then ((gI (sI Ac Aa (Ad ++ List.replicate (Int.toNat (a3.length:Int)) 0)) Aa).bind fun Ae=>((gI Ae (w64 ((a3.length:Int) + Aa))).bind fun Ag=>(some (Sum.inl ((w64 (Aa + 1)),(sI (sI Ac Aa (Ad ++ List.replicate (Int.toNat (a3.length:Int)) 0)) Aa (sI Ae (w64 ((a3.length:Int) + Aa)) 1))))))) else none)) else (some (Sum.inr<| Ac)))
def AKf (fuel:Nat) (a3:LiI) (a5:Int):Option (LiI × Int):=
  ((AFy fuel a3).bind fun x6=>(if (!x6)=true then (some ([],3)) else ((ABu fuel a5).bind fun Ac=>(if ¬ Ac=0 then (some ([],Ac)) else ((ACt fuel a3 a5).bind fun Ad=>((iter (fun s=>ANf fuel a3 Ad s.1 s.2) fuel (0,Ad)).bind (fun (Ae:LiI)=>(((((some ( a5)):Option (Int)).bind fun Ak=>((iter (fun s=>AHm fuel Ae s.1 s.2) fuel (1,0)).bind (fun (Ah:Int)=>(some ( Ah))))):Option (Int)).bind fun Am=>(((some ( a5)):Option (Int)).bind fun Ao=>((iter (fun s=>AHn fuel a5 s.1 s.2) fuel ((w64 ((a3.length:Int) - 1)),Ae)).bind (fun ex=>match ex with | Sum.inl Ai=>(some Ai) | Sum.inr (Af)=>((iter (fun s=>AMr fuel a3 Af s.1 s.2) fuel (0,Af)).bind (fun (Aj:LiI)=>(some (Aj,0)))))))))))))))
theorem AVs {fuel:Nat} {h:Zv} {Bq:Value} {a3:LiI} {a5:Int} {r:(LiI × Int)} (H2:ACx (cI .i64) h Bq a3) (hp:AKf fuel a3 a5=some r):AAw Tryz.prog 91 #[Bq,(.int .i64 a5)] h (fun x h'=>Ext h h'/\ ∃ (x0:Value) (F0:List Nat) (Cb:List LnA) (Cd:List Value),x= .tuple #[x0,.int .i64 r.2]/\ACy (cI .i64) 60 2 h' F0 Cb Cd x0 r.1/\Sp h' h.size [F0]):=by
 unfold AKf at hp;refine cwf (l:=[_,_]) Tryz.func91 rfl rfl (Zo (AAn (Zu (Zp (Zo (Zk ?_))))));have K0:=Kst.k0 h;obtain ⟨x6,Ce,Bw⟩:=Zq hp;refine ACa K0 (ARw (H2.ext K0.x) Ce) fun Es E9 Bx=>ACr rfl (Zs (⟨_,rfl,fun Ap=>?_,fun Ap=>?_⟩))
 ·refine Zo (AAn (Zu (Zx (AAd ?_))));have Aq:=Kst.anil2 (cI .i64) 60 2 Bx;obtain rfl:=Zm (ifT Bw Ap);exact ⟨_,ABi,Aq.x,_,_,_,_,rfl,(Aq.o2 p0),Aq.s.sel [0] Zl⟩
 ·refine Zw (q_t (Zp (Zo (Zk ?_))));obtain ⟨Eu,Cf,By⟩:=Zq (AFe Bw Ap);refine ACa Bx (AGz Cf) fun Ev Ew Ar=>AA5 (Zk (ACp rfl rfl (Zs (⟨_,rfl,fun Au=>?_,fun Au=>?_⟩))))
  ·refine Zo (Zk (AAn (Zu (Zx (AAd ?_)))));have Av:=Kst.anil2 (cI .i64) 60 2 Ar;obtain rfl:=Zm (AA8 By Au);exact ⟨_,ABi,Av.x,_,_,_,_,rfl,(Av.o2 p0),Av.s.sel [0] Zl⟩
  ·refine Zw (q_t (Zo (Zk (AA6 AAg rfl H2 (AA5 (Zk (Zk ?_)))))));obtain ⟨Cg,Ch,Ci⟩:=Zq (AA9 By Au);refine AM5 Ar (AG7 (H2.ext Ar.x) Ch) fun Cj Ck Cm Af Ey Ez Aw=>Zu (Zp (Zo (Zk (AA6 AAg rfl (Aw.o2 p0).rd (Zk (Zs (Zt (AFo 4503597479887360 (fun x:(Int) × (LiI) × LnA × LnN × LvA=>(x.1,x.2.1)) ((0,Cg,Cj,Ck,Cm):(Int) × (LiI) × LnA × LnN × LvA) Ci (fun x=>[(31,(.int .i64 x.1))]) (fun x=>Aw.L.set 0 (aO2 (cI .i64) 60 2 x.2.2.1 x.2.2.2.1 x.2.2.2.2 Af x.2.1)) Aw ⟨rfl,trivial⟩ ?_))))))));rintro ⟨Cn,Fa,Ai,Aj,Ak⟩ Fb Fc Fd Ac Ax Co;unfold ANf at Ax;refine Zo (AAv rfl rfl (Zs (Zp (⟨_,rfl,fun Ay=>?_,fun Ay=>?_⟩))))
   ·refine Zw (q_t (Zp (Zt (Zo (Zk (AA5 (Zk (Zk (Zk (Zk ?_))))))))));obtain ⟨Fe,Bz,Cp⟩:=Zq (AA8 Ax Ay);refine AB1 AAg AA3 (Ac.o2 p0) Bz fun _ Ff Cq=>Zk ?_;obtain ⟨Cr,Ct⟩:=ifN Cp;refine Aq5 AAi ARe AI0 AAg AA3 (Ac.o2 p0) Cq Bz trivial tt2 rfl rfl (fun _=>rfl) (fun _=>rfl) rfl Zl Cr fun Fg Fh Fi Fj Fk Fl Cu Cv Cw=>Zs (AAc (Zk (Zk ?_)));have B1:=Ac.uo2 p0 Cv Cu Cw;obtain ⟨Fm,B3,Cx⟩:=Zq Ct;refine AB1 AAg AA3 (B1.o2 p0) B3 fun _ Fo Cy=>Zk (Zk (AAx rfl rfl ?_));obtain ⟨Fp,Cz,C0⟩:=Zq Cx;refine ALo (m:=Cn) B1 p0 AAi AAl Cy B3 Cz (fun _=>rfl) fun _ Fq C1=>AAo (q_b (q_t (AAc (AAx rfl rfl (Zk (Zs ?_))))));exact ⟨(_,_,_,_,_),(Zm C0).symm,C1,rfl,trivial⟩
   ·refine AAj (AAk (AAk (ABm (q_t (Zo (Zk (Zk ?_)))))));obtain ⟨C2,C3,C4⟩:=Zq (Co _ (Zm (AA9 Ax Ay)).symm);refine AA0 (K':=(fun xr h'=> ∃ x:(Int),x=C2/\xr=(.int .i64 x)/\Kst h h' (Ac.L))) trivial rfl ?_ fun Fr Ft C5=>?_
    ·refine cwf (l:=[_,_]) Tryz.func123 rfl rfl (Zo (AA5 (Zk ?_)));obtain ⟨C6,C7,C8⟩:=Zq C3;refine AA0 (K':=(fun xr h'=> ∃ x:(Nat) × (Int),x.2=C6/\xr=(.func (.func 171) #[] #[(.pointer (some ⟨x.1,0,none⟩))])/\Kst h h' (aB 2 x.1 [(.int .i64 x.2)] :: Ac.L))) trivial rfl ?_ fun Fu Fv C9=>?_
     ·refine cwf (l:=[_]) Tryz.func144 rfl rfl (Zo (AHb Ac [(.int .i64 a5)] fun Da Fw Fx Db=>AA5 (Amh rfl (Zu (Zx (⟨_,Zz,((Da,a5):(Nat) × (Int)),?_,rfl,?_⟩))))))
      ·exact Zm C7
      ·exact Db
     obtain ⟨⟨Fy,Fz⟩,Dc,rfl,Az⟩:=C9;refine ⟨trivial,?_⟩;subst Dc;refine AA5 (Zu (Zp (Zo (Zk (AA6 AAg rfl (Az.o2 p1).rd (Zk (Zs (Zt (AG5 18889465931478580847040 C8 (fun x=>[(6,(.int .i64 x.1)),(13,(.int .i64 x.2))]) (fun x=>Az.L) Az ⟨rfl,rfl,trivial⟩ ?_)))))))));rintro ⟨Dd,F4⟩ F5 F6 F7 A3 A4 De;unfold AHm at A4;refine Zo (AAv rfl rfl (Zs (Zp (⟨_,rfl,fun A5=>?_,fun A5=>?_⟩))))
     ·refine Zw (q_t (Zp (Zt (Zo (Zk (AA5 (Zk (AAx rfl rfl (Zu (Zt (AG5 9444732965739290165568 (AA8 A4 A5) (fun x=>[(6,(.int .i64 x.1)),(8,(.int .i64 x.2))]) (fun x=>A3.L) A3 ⟨rfl,rfl,trivial⟩ ?_)))))))))));rintro ⟨F8,F9⟩ Ga Gb Gc B4 A6 Df;unfold ANe at A6;refine Zp (Zo (Zk (Zk (AA6 AAg rfl (B4.o2 p1).rd (AAv rfl rfl (Zs (⟨_,rfl,fun A7=>?_,fun A7=>?_⟩)))))))
      ·refine Zw (q_t (Zp ?_));have Dg:=AA8 A6 A7;cases Dg
      ·refine AAj (AAk (AAk (ABm (q_b (q_t (AAc (AAx rfl rfl (Zk (Zs ?_)))))))));exact ⟨_,(Zm (Df _ (Zm (AA9 A6 A7)).symm)).symm,B4,rfl,rfl,trivial⟩
     ·refine AAj (AAk (AAk (ABm (q_t (Zo (Zk (Zu (Zx (⟨_,Zz,(Dd:(Int)),?_,rfl,?_⟩)))))))))
      ·exact Zm (De _ (Zm (AA9 A4 A5)).symm)
      ·exact A3.sel [1] Zl
    obtain ⟨Gd,Dh,rfl,B5⟩:=C5;refine ⟨trivial,?_⟩;subst Dh;refine AId (Zk ?_);obtain ⟨Di,Dj,Dk⟩:=Zq C4;refine AA0 (K':=(fun xr h'=> ∃ x:(Nat) × (Int),x.2=Di/\xr=(.func (.func 171) #[] #[(.pointer (some ⟨x.1,0,none⟩))])/\Kst h h' (aB 2 x.1 [(.int .i64 x.2)] :: B5.L))) trivial rfl ?_ fun Ge Gf Dl=>?_
    ·refine cwf (l:=[_]) Tryz.func144 rfl rfl (Zo (AHb B5 [(.int .i64 a5)] fun Do Gg Gh Dp=>AA5 (Amh rfl (Zu (Zx (⟨_,Zz,((Do,a5):(Nat) × (Int)),?_,rfl,?_⟩))))))
     ·exact Zm Dj
     ·exact Dp
    obtain ⟨⟨Gi,Gj⟩,Dq,rfl,B6⟩:=Dl;refine ⟨trivial,?_⟩;subst Dq;refine Zu (Zp (Zo (Zk (AFl rfl rfl (Zu (Zt (AG5 81129638414606105235036701751344 Dk (fun x=>[(11,(.int .i64 x.1))]) (fun x=>B6.L.set 1 (aO2 (cI .i64) 60 2 Ai Aj Ak Af x.2)) B6 ⟨rfl,trivial⟩ ?_)))))));rintro ⟨A8,Dr⟩ Gk Gl Gm Ag A9 B7;unfold AHn at A9;refine Zp (Zo (Zk (AMn rfl rfl (Zs (⟨_,rfl,fun Ba=>?_,fun Ba=>?_⟩)))))
    ·refine Zw (q_t (Zp (Zt (Zo (Zk (Zk ?_))))));obtain ⟨Gn,Am,Ds⟩:=Zq (AA8 A9 Ba);refine AB1 AAg AA3 (Ag.o2 p1) Am fun _ Gp Dt=>Zk ?_;obtain ⟨Gq,Du,Dv⟩:=Zq Ds;refine AIy (m:=A8) AAi AAl (Ag.o2 p1) Dt Am Du fun _=>(Zk ?_);obtain ⟨⟨Gr,Gt⟩,Dw,Bb⟩:=Zq Dv;dsimp only at Bb;refine ACa Ag (ATt Dw) fun Gu Gv Ad=>Zk (ABl rfl rfl (ABl rfl rfl (AAn (Zu (Zp (Zo (Zk (ACr rfl (Zs (⟨_,rfl,fun Bc=>?_,fun Bc=>?_⟩))))))))))
     ·refine Zo (AAn (Zu (Zx (AAd (ABg (AAd (AAd (ABg (AAd ?_)))))))));have Be:=Kst.anil2 (cI .i64) 60 2 Ad;obtain rfl:=Zm (B7 _ (Zm (ifT Bb Bc)).symm);exact ⟨_,ABi,Be.x,_,_,_,_,rfl,(Be.o2 p0),Be.s.sel [0] Zl⟩
     ·refine Zw (q_t (Zo (Zk (Zk (AB1 AAg AA3 (Ad.o2 p1) Am fun _ Gw Bf=>Zk (Zk ?_))))));obtain ⟨Dx,Dy,Dz⟩:=Zq (AFe Bb Bc);refine AA0 (K':=(fun xr h'=> ∃ x:(LiI),x=Dx/\xr= .tuple #[]/\Kst h h' (Ad.L.set 1 (aO2 (cI .i64) 60 2 Ai Aj Ak Af x)))) trivial rfl ?_ fun Gx Gy D0=>?_
      ·refine cwf (l:=[_,_,_]) Tryz.func146 rfl rfl (Zo (Zk (ABj AAi rfl ((Ad.o2 p1).rowI Bf Am) (Zk (Zs (Zt (AG5 16776384 Dy (fun x=>[(10,(.int .i64 x.1))]) (fun x=>Ad.L.set 1 (aO2 (cI .i64) 60 2 Ai Aj Ak Af x.2)) Ad ⟨rfl,trivial⟩ ?_)))))));rintro ⟨Gz,D1⟩ G3 G4 G5 Bg Bh D2;unfold AEk at Bh;refine Zo (AAv rfl rfl (Zs (Zp (⟨_,rfl,fun Bi=>?_,fun Bi=>?_⟩))))
       ·refine Zw (q_t (Zp (Zt (Zo (Zk ?_)))));obtain ⟨G6,B8,D3⟩:=Zq (AA8 Bh Bi);obtain ⟨G7,B9,D4⟩:=Zq D3;refine AIy (m:=A8) AAi AAl (Bg.o2 p1) Bf B8 B9 fun _=>(AAn (Zu (AAc (Zk (Zk (Zk (Zk (AL9 rfl rfl (Zk ?_)))))))));obtain ⟨D5,D6⟩:=ifN D4;refine ADk rfl rfl D5 (ALo (m:=A8) Bg p1 AAi AAl Bf B8 B9 (fun _=>rfl) fun _ G8 D7=>AAo (q_b (q_t (AAc (AAx rfl rfl (Zk (Zs ?_)))))));exact ⟨_,(Zm D6).symm,D7,rfl,trivial⟩
       ·refine AAj (AAk (AAk (ABm (⟨_,AS4,(D1:(LiI)),?_,rfl,?_⟩))))
        ·exact Zm (D2 _ (Zm (AA9 Bh Bi)).symm)
        ·exact Bg
      obtain ⟨G9,D8,rfl,Ca⟩:=D0;refine ⟨trivial,?_⟩;subst D8;refine AId (Zk (Zk (Zs (Zt (AG5 81129599728980454027655414562816 Dz (fun x=>[(85,(.int .i64 x))]) (fun x=>Ca.L) Ca ⟨rfl,trivial⟩ ?_)))));rintro Hb Hc Hd He D9 Bj Ea;unfold AMq at Bj;refine Zo (AAv rfl rfl (Zs (Zp (⟨_,rfl,fun Bl=>?_,fun Bl=>?_⟩))))
      ·refine Zw (q_t (Zp ?_));have Eb:=AA8 Bj Bl;cases Eb
      ·refine AAj (AAk (AAk (ABm (q_b (q_t (AAc (Zk (AFl rfl rfl (Zu ?_)))))))));exact ⟨_,(Zm (Ea _ (Zm (AA9 Bj Bl)).symm)).symm,D9,rfl,trivial⟩
    ·refine AAj (AAk (AAk (ABm (q_t (Zp (Zo (Zk (AA6 AAg rfl (Ag.o2 p1).rd (Zk (Zs (Zt ?_)))))))))));have Bm:=Ag.sel [1] Zl;dsimp only [AHd,AKw] at Bm;refine AFo 5316587464586005064888445085100834816 (fun x:(Int) × (LiI) × LnA × LnN × LvA=>(x.1,x.2.1)) ((0,Dr,Ai,Aj,Ak):(Int) × (LiI) × LnA × LnN × LvA) (B7 _ (Zm (AA9 A9 Ba)).symm) (fun x=>[(108,(.int .i64 x.1))]) (fun x=>Bm.L.set 0 (aO2 (cI .i64) 60 2 x.2.2.1 x.2.2.2.1 x.2.2.2.2 Af x.2.1)) Bm ⟨rfl,trivial⟩ ?_;rintro ⟨Hf,Hg,Hh,Hj,Hk⟩ Hl Hm Hn Aa Bn Ec;unfold AMr at Bn;refine Zo (AAv rfl rfl (Zs (Zp (⟨_,rfl,fun Bo=>?_,fun Bo=>?_⟩))))
     ·refine Zw (q_t (Zp (Zt (Zo (Zk (Zu (AAc (Zk (Zk (Zk (Zk ?_)))))))))));obtain ⟨Ho,Ae,Ed⟩:=Zq (AA8 Bn Bo);refine AB1 AAg AA3 (Aa.o2 p0) Ae fun _ Hq Bp=>Zk ?_;obtain ⟨Ee,Ef⟩:=ifN Ed;refine Ak4 AAi rfl ((Aa.o2 p0).rowI Bp Ae) ((Aa.o2 p0).rowCap Bp Ae) rfl Ee fun Hr Eg Hs=>?_;obtain ⟨Eh,Ei⟩:=ifN Ef;refine Anu AAi AI0 rfl rfl trivial tt2 rfl rfl (Eg ((Aa.o2 p0).rowI Bp Ae)) Zl Eh fun Ht Hu Hv Ej Ek El=>?_;have Ah:=Aa.no Ek El Ej;refine ADb AAg rfl (Ah.o2 p1) rfl Ae fun Hw Hx Em Hy Hz=>ASg AA3 (Ah.o2 p1) Ae Em rfl rfl (Ah.o p0) (Ah.dj p0 p1 Zl) fun H5 En Eo Ep=>AAo (q_b (q_t (AAc (AAx rfl rfl (Zk (Zs ?_))))));exact ⟨(_,_,_,_,_),(Zm Ei).symm,(Ah.m2 p0 p1 Zl Eo En (fun z hz=> .inl (Ep z hz))).sel [1] Zl,rfl,trivial⟩
     ·refine AAj (AAk (AAk (ABm (q_t (Zo (Zk (AAn (Zu (Zx ?_)))))))));obtain rfl:=Zm (Ec _ (Zm (AA9 Bn Bo)).symm);exact ⟨_,ABi,Aa.x,_,_,_,_,rfl,(Aa.o2 p0),Aa.s.sel [0] Zl⟩
end Go.Proofs.YtdkldlbgcfpglaaGreatDoor
namespace Go.Proofs.YtdkldlbgcfpglaaGreatDoor
open Go Go.QF
set_option maxRecDepth 100000
theorem Aev {fuel:Nat} {x m:Int} (hx:0<=x) (hxm:x < m) (hm:2<=m) (Aa:m<=2147483647) (hf:2147483648 < fuel):Ok (AHl fuel x m) fun r=>(r.2=true->Aah m x r.1)/\(r.2=false->¬ ∃ y,Aah m x y):=by
 unfold AHl;refine Zr (Agh (fun s:Int × Int × Int × Int=>EI m x s.1 s.2.1 s.2.2.1 s.2.2.2) (fun s=>s.2.1.toNat) (Q:=fun e:Int × Int=> ∃ v,EI m x e.1 0 e.2 v) (fun s hE=>?_) (EI.start hx hxm) (by dsimp only;omega)) fun e he=>?_
 ·obtain ⟨a,b,u,v⟩:=s;dsimp only at hE ⊢;have Ad:0<=b:=hE.1;have Ab:0<=a:=hE.2.1;have ham:a<=m:=hE.2.2.1;unfold ALl;refine AAh (fun h=>AB5 h ?_) fun h=>?_
  ·have hbd:=hE.bounds Zj;rw [Int.tdiv_eq_ediv_of_nonneg Ab,ACk (x:=a / b) Zj Zj,ACk (x:=a / b * b) Zj Zj,ACk (x:=a - a / b * b) Zj Zj,ACk (x:=a / b * v) Zj Zj,ACk (x:=u - a / b * v) Zj Zj];have hs:=hE.step Zj;refine Zn ⟨hs,?_⟩;have h2:=Int.emod_lt_of_pos a (b:=b) Zj;rw [Int.emod_def,Int.mul_comm] at h2;have:=hs.1;show (a - a / b * b).toNat < b.toNat;omega
  ·obtain rfl:b=0:=by omega
   exact Zn ⟨v,hE⟩
 ·obtain ⟨v,hE⟩:=he;obtain ⟨a,u⟩:=e;dsimp only at hE ⊢;have hd:=EI.done hm hE;refine AB5 Zj (AB5 Zj (Zn ⟨fun h=>?_,fun h=>?_⟩))
  ·dsimp only at h ⊢;rw [Adf hm Aa];exact hd.2.1 (of_decide_eq_true h)
  ·exact hd.2.2 (of_decide_eq_false h)
theorem Apx {fuel n:Nat} {T:AAb} (Aa:1<=n) (hn:n<=8) (hf:100 < fuel):AFy fuel (tab n n T)=some true:=by
 unfold AFy;rw [AVr Aa hn hf];simp only [Option.bind_some,reduceIte];rw [AUu (AA1 Zj),AA2,AAt,if_pos rfl,decide_eq_true Zj]
theorem ASo {S E:Type} {body:S->Option (S ⊕ E)} {fuel:Nat} {s s':S} (h:body s=some (.inl s')):iter body (fuel + 1) s=iter body fuel s':=by simp [iter,h]
theorem AQa {S E:Type} {body:S->Option (S ⊕ E)} {fuel:Nat} {s:S} {e:E} (h:body s=some (.inr e)):iter body (fuel + 1) s=some e:=by simp [iter,h]
theorem Avk {f:Nat} {x m:Int} (hm:2<=m) (Aa:m<=2147483647) (hg:∃ y,Aah m (x % m) y) (hf:2147483648 < f):∃ v,AKf f [[x]] m=some ([[v]],0)/\Aah m (x % m) v:=by
 obtain ⟨f,rfl⟩:∃ g,f=g + 3:=⟨f - 3,Zj⟩;have Ab:=Int.emod_nonneg x (show m≠0 by omega);have Ac:=Int.emod_lt_of_pos x (show 0 < m by omega);have h0:AFy (f + 3) [[x]]=some true:=Apx (n:=1) (T:=fun _ _=>x) Zj Zj Zj;have h1:ABu (f + 3) m=some 0:=by unfold ABu;rw [if_neg Zj,if_neg Zj]
 have h2:ACt (f + 3) [[x]] m=some [[x % m]]:=Abt (n:=1) (F:=fun _ _=>x) Zj hm Aa Zj;generalize x % m=r at Ab Ac hg h2 ⊢;obtain ⟨⟨v,b⟩,h3,h4,h5⟩:=Aev Ab Ac hm Aa hf
 obtain rfl:b=true:=by
   cases b
   · exact absurd hg (h5 rfl)
   · rfl
 have hv:=h4 rfl;dsimp only at hv;have Ae:=hv.1;have Am:=hv.2.1;have e3:Int.tmod (w64 (1 * v)) m=v:=by rw [Int.one_mul,ACk (x:=v) Zj Zj,Int.tmod_eq_emod_of_nonneg Ae,Int.emod_eq_of_lt Ae Am]
 refine ⟨v,?_,hv⟩
 have a1:iter (fun s:Int × List (List Int)=>ANf (f + 3) [[x]] [[r]] s.1 s.2) (f + 3) (0,[[r]])=some [[r,1]]:=by
   rw [ASo (s':=(1,[[r,1]])) rfl,AQa rfl]
 have a2:iter (fun s:Int × Int=>AHm (f + 3) [[r,1]] s.1 s.2) (f + 3) (1,0)=some 1:=by
   have b5:iter (fun s:Int × Int=>ANe (f + 3) [[r,1]] s.1 s.2) (f + 3) (1,1)=some 1:=AQa rfl
   rw [ASo (s':=(1,1)) ?_,AQa rfl]
   show AHm (f + 3) [[r,1]] 1 0=_
   unfold AHm
   rw [if_pos (by show (0:Int) < ((1:Nat):Int);decide),show w64 (0 + 1)=1 from rfl,b5]
   rfl
 have a3:iter (fun s:Int × List (List Int)=>AHn (f + 3) m s.1 s.2) (f + 3) (0,[[r,1]])=some (Sum.inr [[Int.tmod (w64 (r * v)) m,v]]):=by
   have Af:m≠0:=by omega
   have Av:iter (fun s:Int × List (List Int)=>AEk (f + 3) m 0 [r,1] v s.1 s.2) (f + 3) (0,[[r,1]])=some [[Int.tmod (w64 (r * v)) m,v]]:=by
     rw [ASo (s':=(1,[[Int.tmod (w64 (r * v)) m,1]])) ?_,ASo (s':=(2,[[Int.tmod (w64 (r * v)) m,v]])) ?_,AQa rfl]
     · show AEk (f + 3) m 0 [r,1] v 1 [[Int.tmod (w64 (r * v)) m,1]]=_
       unfold AEk
       rw [if_pos (by show (1:Int) < ((2:Nat):Int);decide)]
       show (if m≠0 then some (Sum.inl ((2:Int),[[Int.tmod (w64 (r * v)) m,Int.tmod (w64 (1 * v)) m]])) else none)=_
       rw [if_pos Af,e3]
     · show AEk (f + 3) m 0 [r,1] v 0 [[r,1]]=_
       unfold AEk
       rw [if_pos (by show (0:Int) < ((2:Nat):Int);decide)]
       show (if m≠0 then some (Sum.inl ((1:Int),[[Int.tmod (w64 (r * v)) m,1]])) else none)=_
       rw [if_pos Af]
   have Aw:iter (fun s:Int=>AMq (f + 3) 0 s) (f + 3) 0=some ():=AQa rfl
   rw [ASo (s':=(-1,[[Int.tmod (w64 (r * v)) m,v]])) ?_,AQa rfl]
   show AHn (f + 3) m 0 [[r,1]]=_
   unfold AHn
   rw [if_pos Zl,show gI [[r,1]] (0:Int)=some [r,1] from rfl]
   simp only [Option.bind_some]
   rw [show gI [r,1] (0:Int)=some r from rfl]
   simp only [Option.bind_some]
   rw [h3]
   simp only [Option.bind_some]
   rw [if_neg Zl,Av]
   simp only [Option.bind_some]
   rw [Aw]
   rfl
 have a4:iter (fun s:Int × List (List Int)=>AMr (f + 3) [[x]] [[Int.tmod (w64 (r * v)) m,v]] s.1 s.2) (f + 3) (0,[[Int.tmod (w64 (r * v)) m,v]])=some [[v]]:=by
   rw [ASo (s':=(1,[[v]])) rfl,AQa rfl]
 unfold AKf;rw [h0];simp only [Option.bind_some];rw [if_neg Zl,h1];simp only [Option.bind_some];rw [if_neg Zl,h2];simp only [Option.bind_some];rw [a1];simp only [Option.bind_some];rw [a2];simp only [Option.bind_some];rw [show w64 (([[x]].length:Nat) - 1:Int)=0 from rfl,a3];simp only [Option.bind_some];rw [a4];rfl
end Go.Proofs.YtdkldlbgcfpglaaGreatDoor
