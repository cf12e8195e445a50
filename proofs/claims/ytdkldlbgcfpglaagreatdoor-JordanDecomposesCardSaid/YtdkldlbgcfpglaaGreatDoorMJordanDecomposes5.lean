/-
  Texts of a proof, joined. Conditions stand in each statement.
-/
import Derived.Lib.SmallJoins
import Derived.Test.YtdkldlbgcfpglaaGreatDoorMJordanDecomposes4
set_option linter.unusedVariables false
set_option linter.unusedSimpArgs false
namespace Go.Proofs.YtdkldlbgcfpglaaGreatDoor
open Go Go.QF
theorem Af5 {S E:Type} {body:S->Option (S ⊕ E)} {Q:E->Prop} (I:S->Prop) (μ:S->Nat) (hs:∀ s,I s->Ok (body s) fun r=>match r with | .inl s'=>I s'/\μ s' < μ s | .inr e=>Q e):∀ {fuel:Nat} {s0:S},I s0->μ s0 < fuel->Ok (iter body fuel s0) Q:=by
  intro fuel;induction fuel with
  | zero=>intro s0 _ h;omega
  | succ f ih=>
    intro s0 h0 hf;obtain ⟨r,hr,hq⟩:=hs s0 h0;cases r with
    | inl s'=>
      obtain ⟨e,he,hQ⟩:=ih hq.1 (by have:=hq.2;omega);exact ⟨e,by simp [iter,hr,he],hQ⟩
    | inr e=>exact ⟨e,by simp [iter,hr],hq⟩
theorem AQt (a:Int):AF6 a=0↔a=0:=by unfold AF6;split <;> (try split) <;> omega
theorem Ajl (a:Int):AF6 a < 0↔a < 0:=by unfold AF6;split <;> (try split) <;> omega
theorem Ao1 {fuel:Nat} {a b:Int} (ha:a.natAbs < ADr) (hb:b.natAbs < ADr) (h0:b≠0):ACp fuel a b=some (a / b):=by
 apply ok_eq;unfold ACp;refine Zq (ABb (a:=(a / b,a % b,true)) (if_pos ⟨ha,hb,h0⟩)) fun x hx=>?_;subst hx;exact Zm rfl
theorem Av8 {fuel:Nat} {a b:Int} (ha:a.natAbs < ADr) (hb:b.natAbs < ADr) (h0:b≠0):ADw fuel a b=some (a % b):=by
 apply ok_eq;unfold ADw;refine Zq (ABb (a:=(a / b,a % b,true)) (if_pos ⟨ha,hb,h0⟩)) fun x hx=>?_;subst hx;exact Zm rfl
theorem Av9 {fuel:Nat} {a b:Int} (ha:a.natAbs < ADr) (hb:b.natAbs < ADr) (h0:b≠0) (hf:ADr < fuel):Ok (AH1 fuel a b) fun g=>0 < g/\g ∣ a/\g ∣ b:=by
 unfold AH1;refine Zq (ABb (a:=(a.natAbs:Int)) rfl) fun x hx=>Zq (ABb (a:=(b.natAbs:Int)) rfl) fun y hy=>?_;subst hx;subst hy;refine Zq (Af5 (fun s:Int × Int=>0<=s.1/\0<=s.2/\s.1.natAbs < ADr/\s.2.natAbs < ADr/\(0 < s.1∨0 < s.2)/\ ∀ d:Int,d ∣ s.1->d ∣ s.2->d ∣ a/\d ∣ b) (fun s=>s.2.natAbs) (Q:=fun g=>0 < g/\g ∣ a/\g ∣ b) (fun s hs=>?_) ⟨Zh,Zh,Zh,Zh,.inr Zh,fun d h1 h2=>⟨Int.dvd_natAbs.1 h1,Int.dvd_natAbs.1 h2⟩⟩ (by dsimp only;omega)) fun g hg=>Zm hg;obtain ⟨u,v⟩:=s;obtain ⟨h1,h2,h3,h4,h5,h6⟩:=hs;unfold ALt;dsimp only at h1 h2 h3 h4 h5 h6 ⊢;refine Zq (ABb (a:=AF6 v) rfl) fun s hs=>?_;subst hs;refine AAj (fun hv=>?_) fun hv=>Zm ?_
 ·have Ab:v≠0:=fun h=>hv ((AQt v).2 h);refine Zq (ABb (Av8 h3 h4 Ab)) fun r hr=>Zm ?_;subst hr;have e1:=Int.emod_nonneg u Ab;have e2:=Int.emod_lt_of_pos u (show 0 < v by omega);refine ⟨⟨h2,e1,h4,Zh,.inl Zh,fun d d1 d2=>h6 d ?_ d1⟩,Zh⟩;have:=Int.dvd_add d2 (Int.dvd_trans d1 ⟨u / v,rfl⟩);rwa [Int.emod_add_mul_ediv] at this
 ·have Ab:v=0:=by
    rcases Decidable.em (AF6 v=0) with h | h
    · exact (AQt v).1 h
    · exact absurd h hv
  subst Ab;exact ⟨Zh,h6 u (Int.dvd_refl u) ⟨0,AA3⟩⟩
def FrE (n d n' d':Int):Prop:=0 < d'/\n' * d=n * d'/\n'.natAbs<=n.natAbs/\d'.natAbs<=d.natAbs
theorem As2 {fuel:Nat} {a b:Int} (ha:a.natAbs < ADr) (hb:b.natAbs < ADr) (h0:b≠0) (hf:ADr < fuel):Ok (AGp fuel a b) fun r=>r.2=true/\FrE a b r.1.1 r.1.2:=by
 unfold AGp;refine Zq (ABb (a:=AF6 b) rfl) fun s hs=>?_;subst hs;refine AAj (fun h=>absurd ((AQt b).1 h) h0) fun _=>Zq (Q:=fun e:Int × Int=>0 < e.2/\e.1 * b=a * e.2/\e.1.natAbs=a.natAbs/\e.2.natAbs=b.natAbs) (Zq (ABb (a:=AF6 b) rfl) fun s hs=>?_) fun e he=>?_
 ·subst hs;refine AAj (fun h=>?_) fun h=>Zm ⟨?_,rfl,rfl,rfl⟩
  ·have:=(Ajl b).1 h;refine Zq (ABb (a:= -a) rfl) fun x hx=>Zq (ABb (a:= -b) rfl) fun y hy=>Zm ?_;subst hx;subst hy;exact ⟨by dsimp only;omega,by dsimp only;grind,by dsimp only;omega,by dsimp only;omega⟩
  ·have: ¬ b < 0:=fun h2=>h ((Ajl b).2 h2);dsimp only;omega
 ·obtain ⟨u,v⟩:=e;obtain ⟨h1,h2,h3,h4⟩:=he;dsimp only at h1 h2 h3 h4 ⊢;refine Zq (Av9 (a:=u) (b:=v) Zh Zh Zh hf) fun g hg=>?_;obtain ⟨g1,⟨u',rfl⟩,⟨v',rfl⟩⟩:=hg;have gn:g≠0:=by omega
  have hv':0 < v':=Int.pos_of_mul_pos_right h1 g1;have e1:(g * u').natAbs=g.natAbs * u'.natAbs:=Int.natAbs_mul _ _;have e2:(g * v').natAbs=g.natAbs * v'.natAbs:=Int.natAbs_mul _ _;have g2:1<=g.natAbs:=by omega
  have m1:=Nat.mul_le_mul_right u'.natAbs g2;have m2:=Nat.mul_le_mul_right v'.natAbs g2;have m3:=Nat.mul_le_mul_left g.natAbs (show 1<=v'.natAbs by omega);refine Zq (ABb (Ao1 Zh Zh gn)) fun x hx=>Zq (ABb (Ao1 Zh Zh gn)) fun y hy=>Zm ⟨rfl,?_⟩;subst hx;subst hy;rw [Int.mul_ediv_cancel_left _ gn,Int.mul_ediv_cancel_left _ gn];refine ⟨hv',?_,by dsimp only;omega,by dsimp only;omega⟩;have:g * (u' * b)=g * (a * v'):=by grind
  exact Int.eq_of_mul_eq_mul_left gn this
theorem Ad6 {fuel:Nat} {a b:Int} (ha:a.natAbs < ADr) (hb:b.natAbs < ADr) (h0:b≠0) (hf:ADr < fuel):Ok (ACc fuel a b) fun r=>FrE a b r.1 r.2:=by
 unfold ACc;refine Zq (As2 ha hb h0 hf) fun r hr=>?_;obtain ⟨⟨x,y⟩,c⟩:=r;obtain ⟨h1,h2⟩:=hr;dsimp only at h1 h2 ⊢;subst h1;exact AAj (fun h=>absurd h Zk) fun _=>Zm h2
theorem Auj {fuel:Nat} {a b:Int} (ha:a.natAbs < ADr) (hb:b.natAbs < ADr) (h0:b≠0) (hf:ADr < fuel):Ok (AFm fuel a b) fun r=>FrE a b r.1 r.2:=by
 unfold AFm;exact Zq (Ad6 ha hb h0 hf) fun r hr=>Zm hr
theorem Af6 {N D N' D':Int} (hD:0 < D) (hD':0 < D') (h:N * D'=N' * D):N / D=N' / D':=by
 rw [<- Int.mul_ediv_mul_of_pos_left N D hD',h,Int.mul_comm D D',Int.mul_ediv_mul_of_pos_left N' D' hD]
theorem Auk {fuel:Nat} {a b:Int} (hab:4 * (a.natAbs + b.natAbs) < ADr) (h0:0 < b) (hf:ADr < fuel):Ok (AFz fuel a b) fun r=>r=(2 * a + b) / (2 * b):=by
 have Ag:(1:Int).natAbs < ADr:=by
   have:(1:Int).natAbs=1:=rfl
   omega
 have Ah:(2:Int).natAbs < ADr:=by
   have:(2:Int).natAbs=2:=rfl
   omega
 unfold AFz;refine Zq (Q:=(· =(1,2))) ?_ fun hh he=>?_
 ·unfold AJ0;exact Zq (Q:=(· =1)) ⟨1,if_pos Zh,rfl⟩ fun x hx=>Zq (Q:=(· =2)) ⟨2,if_pos Zh,rfl⟩ fun y hy=>Zm (by rw [hx,hy])
 subst he;dsimp only;refine Zq (Q:=fun r=>0 < r.2/\r.1 * (2 * b)=(2 * a + b) * r.2/\r.1.natAbs < ADr/\r.2.natAbs < ADr) ?_ fun r hr=>?_
 ·unfold AKt;refine Zq (Ad6 Zh Zh Zh hf) fun x hx=>Zq (Ad6 (a:=1) (b:=2) Ag Ah Zh hf) fun y hy=>?_;obtain ⟨x1,x2⟩:=x;obtain ⟨y1,y2⟩:=y;obtain ⟨a1,a2,a3,a4⟩:=hx;obtain ⟨b1,b2,b3,b4⟩:=hy;dsimp only at *;obtain rfl:y2=2:=by omega
  obtain rfl:y1=1:=by omega
  refine Zq (ABb (a:=x1 * 2) (if_pos (by have:(2:Int).natAbs=2:=rfl;rw [this];omega))) fun u hu=>Zq (ABb (a:=1 * x2) (if_pos (by have:(1:Int).natAbs=1:=rfl;rw [this];omega))) fun v hv=>?_;subst hu;subst hv;refine Zq (ABb (a:=x1 * 2 + 1 * x2) (if_pos ⟨Zh,Zh⟩)) fun w hw=>Zq (ABb (a:=x2 * 2) (if_pos (by have:(2:Int).natAbs=2:=rfl;rw [this];omega))) fun z hz=>?_;subst hw;subst hz;refine Zq (As2 Zh Zh Zh hf) fun r hr=>Zm ?_;obtain ⟨⟨r1,r2⟩,c⟩:=r;obtain ⟨-,c1,c2,c3,c4⟩:=hr;dsimp only at *;refine ⟨c1,?_,Zh,Zh⟩;have h1:x2 * (r1 * (2 * b))=x2 * ((2 * a + b) * r2):=by grind
  exact Int.eq_of_mul_eq_mul_left (show x2≠0 by omega) h1
 ·obtain ⟨r1,r2⟩:=r;obtain ⟨h1,h2,h3,h4⟩:=hr;dsimp only at *;unfold AI9;refine Zq (Q:=fun r=>r=(2 * a + b) / (2 * b)) (Zq (Ad6 h3 h4 Zh hf) fun x hx=>?_) fun z hz=>Zm hz;obtain ⟨x1,x2⟩:=x;obtain ⟨a1,a2,a3,a4⟩:=hx;dsimp only at *;refine Zq (ABb (Ao1 Zh Zh Zh)) fun q hq=>Zm ?_;subst hq;refine Af6 a1 Zh ?_;have h5:r2 * (x1 * (2 * b))=r2 * ((2 * a + b) * x2):=by grind
  exact Int.eq_of_mul_eq_mul_left (show r2≠0 by omega) h5
end Go.Proofs.YtdkldlbgcfpglaaGreatDoor
namespace Go.Proofs.YtdkldlbgcfpglaaGreatDoor
open Go Go.QF
set_option maxRecDepth 100000
theorem Af7:64 * (dBd AGr (8 + 1) * dBd AGr (8 + 1)) < ADr:=by decide
theorem Af8 {fuel n j:Nat} {F:Z1} (hn:n<=8) (hj:j + 1 < n) (hb:∀ i j,i < n->j < n->(F i j).natAbs<=AGr) (hf:100 < fuel):Ok (AEq fuel (tab n n F) (AB3 n fun a=>det (a + 1) F) ((j + 1:Nat):Int)) fun r=>r=true↔LvF F j:=by
 show Ok _ fun r:Bool=>r=true↔3 * (det (j + 1) F * det (j + 1) F)<=4 * (det j F * det (j + 2) F + Mn j F (j + 1) j * Mn j F (j + 1) j);unfold AEq;have w1:w64 (((j + 1:Nat):Int) - 1)=(j:Int):=by rw [wk Zh];omega
 have w2:w64 (((j + 1:Nat):Int) + 1)=((j + 2:Nat):Int):=by rw [wk Zh];omega
 rw [w1,w2];have hD:=Af7;have bl:(Mn j F (j + 1) j).natAbs<=dBd AGr (8 + 1):=Abc hn Zh Zh Zh hb;have b0:(det j F).natAbs<=dBd AGr (8 + 1):=AVh hn Zh hb;have b1:(det (j + 1) F).natAbs<=dBd AGr (8 + 1):=AVh hn Zh hb;have b2:(det (j + 2) F).natAbs<=dBd AGr (8 + 1):=AVh hn Zh hb;have p1:=Nat.mul_le_mul b0 b2;have p2:=Nat.mul_le_mul bl bl;have p3:=Nat.mul_le_mul b1 b1;have e1:=Int.natAbs_mul (det j F) (det (j + 2) F);have e2:=Int.natAbs_mul (Mn j F (j + 1) j) (Mn j F (j + 1) j);have e3:=Int.natAbs_mul (det (j + 1) F) (det (j + 1) F);refine Zq (ABb (Abb hn Zh Zh hb hf)) fun l hl=>?_;subst hl;refine Zq (Q:=(· =4)) ⟨4,if_pos Zh,rfl⟩ fun x hx=>?_;subst hx;refine Zq (ABb (AV0 Zh hn)) fun x hx=>Zq (ABb (AV0 Zh hn)) fun y hy=>?_;subst hx;subst hy;refine Zq (ABb (a:=det j F * det (j + 2) F) (if_pos Zh)) fun x hx=>Zq (ABb (a:=Mn j F (j + 1) j * Mn j F (j + 1) j) (if_pos Zh)) fun y hy=>?_;subst hx;subst hy;generalize det j F * det (j + 2) F=P at *;generalize Mn j F (j + 1) j * Mn j F (j + 1) j=L at *;refine Zq (ABb (a:=P + L) (if_pos Zh)) fun x hx=>Zq (ABb (a:=4 * x) (if_pos (by have:(4:Int).natAbs=4:=rfl;rw [this];omega))) fun y hy=>?_;subst hx;subst hy;refine Zq (Q:=(· =3)) ⟨3,if_pos Zh,rfl⟩ fun x hx=>?_;subst hx;refine Zq (ABb (AV0 Zh hn)) fun x hx=>Zq (ABb (AV0 Zh hn)) fun y hy=>?_;subst hx;subst hy;refine Zq (ABb (a:=det (j + 1) F * det (j + 1) F) (if_pos Zh)) fun x hx=>?_;subst hx;generalize det (j + 1) F * det (j + 1) F=S at *;refine Zq (ABb (a:=3 * S) (if_pos (by have:(3:Int).natAbs=3:=rfl;rw [this];omega))) fun x hx=>Zq (ABb (a:=AS5 (4 * (P + L)) x) rfl) fun c hc=>Zm ?_;subst hx;subst hc;rw [decide_eq_true_iff];unfold AS5;split <;> (try split) <;> omega
def ATd (A:Z1) (i j:Nat):Int:= -((2 * Mn j A i j + det (j + 1) A) / (2 * det (j + 1) A))
def AWv (A:Z1) (i j:Nat):Z1:=ABv dl j fun q=>if q=i then ATd A i j else dl j q
def ARk (A:Z1) (i:Nat):Prop:= ∀ r l,l < r->r < i->SzF A r l
def ATe (A:Z1) (i:Nat):Prop:= ∀ r,r + 1 < i->LvF A r
def Ao2 (n:Nat) (A:Z1) (r:List (List Int) × Bool):Prop:=
  (r=([],false)/\ARk A n/\ATe A n)∨
  (∃ i j,j < i/\i < n/\¬ SzF A i j/\ARk A i/\(∀ l,l < i->j < l->SzF A i l)/\ATe A i/\r=(tab n n (AWv A i j),true))∨
  ∃ j,j + 1 < n/\¬ LvF A j/\ARk A (j + 2)/\ATe A (j + 1)/\r=(tab n n (AEh dl (j + 1) j),true)
theorem Aul {fuel n:Nat} {A:Z1} (Ai:1<=n) (hn:n<=8) (hp:ANs n A) (hb:∀ i j,i < n->j < n->(A i j).natAbs<=AGr) (hf:ADr < fuel):Ok (AHc fuel (tab n n A)) (Ao2 n A):=by
 have Ac:100 < fuel:=Nat.lt_of_le_of_lt Zk hf;have hD:=Af7;unfold AHc;refine Zq (ABb (AYx Ai hn hb Ac)) fun x hx=>?_;subst hx;dsimp only;rw [AAp];refine Zq (ABb (Ajk Ai Zh Ac)) fun x hx=>?_;subst hx;dsimp only;refine Zq (AA9 (fun i s=>s=(((i:Nat):Int),tab n n dl)/\i<=n/\ARk A i/\ATe A i) n (Q:=fun ex=>match ex with | .inl r=>Ao2 n A r | .inr _=>ARk A n/\ATe A n) ⟨rfl,Nat.zero_le _,fun r l h1 h2=>by omega,fun r h=>by omega⟩ Zh fun i s hi hI=>?_) fun ex hex=>?_
 ·obtain ⟨rfl,hin,hsz,hlv⟩:=hI;unfold AK6;dsimp only;rw [AAp];refine AAj (fun h=>?_) (fun h=>Zm ?_)
  ·have hi':i < n:=by omega
   refine Zq (AA9 (fun k s=>s=((i:Int) - 1 - k,tab n n dl)/\k<=i/\ ∀ l,l < i->i<=l + k->SzF A i l) i (Q:=fun ex=>match ex with | .inl r=>Ao2 n A r | .inr e=>e=tab n n dl/\ ∀ l,l < i->SzF A i l) ⟨by rw [wk Zh];simp,Nat.zero_le _,fun l h1 h2=>by omega⟩ Zh fun k s hk hK=>?_) fun ex hex=>?_
   ·obtain ⟨rfl,hki,hz⟩:=hK;unfold AK5;dsimp only;refine AAj (fun h2=>?_) (fun h2=>Zm ⟨rfl,fun l hl=>hz l hl Zh⟩);obtain ⟨j,hj⟩:∃ j:Nat,(i:Int) - 1 - k=j:=⟨i - 1 - k,Zh⟩;rw [hj];have hji:j < i:=by omega
    refine Zq (ABb (Ajf hn hi' Zh hb Ac)) fun b Ag=>?_;subst Ag;refine AAj (fun h3=>?_) (fun h3=>Zm ⟨Zh,?_,Zh,fun l h4 h5=>?_⟩)
    ·have hbad: ¬ SzF A i j:=fun h=>by rw [<- AZx] at h;simp [h] at h3
     refine AAs (AAz Zh) rfl (Zq (ABb (Abb hn hi' Zh hb Ac)) fun l hl=>?_);subst hl;rw [show w64 ((j:Int) + 1)=((j + 1:Nat):Int) by rw [wk Zh];omega];refine Zq (ABb (AV0 Zh hn)) fun d hd=>?_;subst hd;have bl:(Mn j A i j).natAbs<=dBd AGr (8 + 1):=Abc hn hi' Zh Zh hb;have b1:(det (j + 1) A).natAbs<=dBd AGr (8 + 1):=AVh hn Zh hb;have hd:=hp (j + 1) Zh;have hDD:dBd AGr (8 + 1)<=dBd AGr (8 + 1) * dBd AGr (8 + 1):=Nat.le_mul_of_pos_left _ Zh;refine Zq (Auj Zh Zh Zh hf) fun q hq=>?_;obtain ⟨x,y⟩:=q;obtain ⟨q1,q2,q3,q4⟩:=hq;dsimp only at q1 q2 q3 q4 ⊢;refine Zq (Auk Zh q1 hf) fun m hm=>Zq (ABb (a:= -m) rfl) fun c hc=>?_
     have Ap:c=ATd A i j:=by
       rw [hc,hm]
       unfold ATd
       congr 1
       refine Af6 Zh Zh ?_
       grind
     clear hm hc;refine AAs (AAq hi') rfl (Zm (.inr (.inl ⟨i,j,hji,hi',hbad,hsz,fun l h4 h5=>hz l h4 Zh,hlv,?_⟩)));rw [ABx,ABx,ADz,Ap,show (AB3 n fun q=>if q=i then ATd A i j else dl j q)=(List.range n).map fun q=>if q=i then ATd A i j else dl j q from rfl,AKy];rfl
    ·rw [wk Zh];refine congrArg (fun z=>(z,tab n n dl)) ?_;omega
    ·have hgood:SzF A i j:=by rw [<- AZx];simpa using h3
     rcases Nat.lt_or_ge (l + k) i with h6 | h6
     ·obtain rfl:l=j:=by omega
      exact hgood
     ·exact hz l h4 h6
   ·cases ex with
    | inl r=>exact Zm hex
    | inr e=>
      obtain ⟨rfl,hzi⟩:=hex
      have hsz':ARk A (i + 1):=fun r l h1 h2=>by
        rcases Nat.lt_or_ge r i with h3 | h3
        · exact hsz r l h1 h3
        · obtain rfl:r=i:=by omega
          exact hzi l h1
      dsimp only
      have nx:w64 ((i:Int) + 1)=((i + 1:Nat):Int):=by rw [wk Zh];omega
      refine AAj (fun h4=>?_) (fun h4=>Zm ⟨Zh,by rw [nx],Zh,hsz',fun r hr=>by omega⟩)
      obtain ⟨j,rfl⟩:∃ j,i=j + 1:=⟨i - 1,Zh⟩
      refine Zq (Af8 hn hi' hb Ac) fun b Ag=>?_
      refine AAj (fun h5=>?_) (fun h5=>Zm ⟨Zh,by rw [nx],Zh,hsz',fun r hr=>?_⟩)
      · have hbad: ¬ LvF A j:=fun h=>by rw [Ag.2 h] at h5;cases h5
        rw [show w64 (((j + 1:Nat):Int) - 1)=(j:Int) by rw [wk Zh];omega]
        refine AAs (AAz Zh) rfl (AAs (AAz hi') rfl (Zm (.inr (.inr ⟨j,hi',hbad,hsz',hlv,?_⟩))))
        rw [ABx,ABx,show AB3 n (dl j)=(List.range n).map (dl j) from rfl,show AB3 n (dl (j + 1))=(List.range n).map (dl (j + 1)) from rfl,AKy,AKy]
        rfl
      · have hgood:LvF A j:=Ag.1 (by simpa using h5)
        rcases Nat.lt_or_ge r j with h6 | h6
        · exact hlv r Zh
        · obtain rfl:r=j:=by omega
          exact hgood
  ·obtain rfl:i=n:=by omega
   exact ⟨hsz,hlv⟩
 ·cases ex with
  | inl r=>exact Zm hex
  | inr u=>exact Zm (.inl ⟨rfl,hex⟩)
end Go.Proofs.YtdkldlbgcfpglaaGreatDoor
namespace Go.QF
open Go
def PrI (p:Int):Prop:=2<=p/\ ∀ x y:Int,p ∣ x * y->p ∣ x∨p ∣ y
theorem PrI.ne {p:Int} (hp:PrI p):p≠0:=by have:=hp.1;omega
theorem AIt {p:Int} {a b:Nat} (h:a<=b):p ^ a ∣ p ^ b:=⟨p ^ (b - a),by rw [<- Int.pow_add];congr 1;omega⟩
theorem Art {m x y d:Int} (h:Eqm m x y) (hd:d ∣ m) (hy:d ∣ y):d ∣ x:=by
 have h1:m ∣ x - y:=Int.dvd_of_emod_eq_zero (Int.emod_eq_emod_iff_emod_sub_eq_zero.1 h);have h2:=Int.dvd_add (Int.dvd_trans hd h1) hy;rwa [show x - y + y=x by omega] at h2
theorem AWw {m x y:Int} (h:m ∣ x - y):Eqm m x y:=Int.emod_eq_emod_iff_emod_sub_eq_zero.2 (Int.emod_eq_zero_of_dvd h)
theorem ASb {m x y:Int} (h:Eqm m x y):m ∣ x - y:=Int.dvd_of_emod_eq_zero (Int.emod_eq_emod_iff_emod_sub_eq_zero.1 h)
theorem Eqm.down {m d x y:Int} (h:Eqm m x y) (hd:d ∣ m):Eqm d x y:=AWw (Int.dvd_trans hd (ASb h))
theorem Ad7 {m x:Int}:Eqm m x 0↔m ∣ x:=⟨fun h=>by simpa using ASb h,fun h=>AWw (by simpa using h)⟩
def Car (n K:Nat) (p:Int) (D S D':Z1):Prop:= ∀ i j,i < n->j < n->Eqm (p ^ K) (ACq n (trF S) (ACq n D S) i j) (D' i j)
theorem Af9 (c:Int) (f:Nat->Int) (n:Nat):c * psum f n=psum (fun i=>c * f i) n:=(AF1 c f n).symm
theorem Aht (c:Int) (f:Nat->Int) (n:Nat):psum f n * c=psum (fun i=>f i * c) n:=by
 rw [Int.mul_comm,Af9];exact ABa fun k _=>Int.mul_comm _ _
section
variable {n K:Nat} {p:Int} {e f:Nat->Nat} {a b D D' S:Z1}
theorem AZy (hp:PrI p) (m:Nat):p ^ m≠0:=Int.pow_ne_zero hp.ne
theorem AN1 {A B C:Z1} (i j:Nat):ACq n (ACq n A B) C i j=ACq n A (ACq n B C) i j:=by
 unfold ACq;rw [ABa (g:=fun k=>psum (fun l=>A i l * B l k * C k j) n) fun k _=>Aht _ _ _,AYn]
 exact ABa fun l _=>by
   rw [Af9]
   exact ABa fun k _=>by grind
end
end Go.QF
namespace Go.Proofs.YtdkldlbgcfpglaaGreatDoor
open Go Go.QF
set_option maxRecDepth 100000
theorem Ao3 {S E:Type} {body:S->Option (S ⊕ E)} {Q:E->Prop} (I:Nat->S->Prop) (hs:∀ k s,I k s->Ok (body s) fun r=>match r with | .inl s'=> ∃ k',k' < k/\I k' s' | .inr e=>Q e):∀ {fuel k:Nat} {s0:S},I k s0->k < fuel->Ok (iter body fuel s0) Q:=by
  intro fuel;induction fuel with
  | zero=>intro k s0 _ h;omega
  | succ f ih=>
    intro k s0 h0 hf;obtain ⟨r,hr,hq⟩:=hs k s0 h0;cases r with
    | inl s'=>
      obtain ⟨k',h1,h2⟩:=hq;obtain ⟨e,he,hQ⟩:=ih h2 Zh;exact ⟨e,by simp [iter,hr,he],hQ⟩
    | inr e=>exact ⟨e,by simp [iter,hr],hq⟩
theorem Aga {n i j s:Nat} {A:Z1} (hj:j < i) (hi:i < n) (hs:s < n) (X:Nat->Int):psum (fun k=>X k * AWv A i j k s) n=X s + if s=i then ATd A i j * X j else 0:=by
 have h1:∀ k,X k * AWv A i j k s=X k * dl k s + (if k=j then (if s=i then ATd A i j * X j else 0) else 0):=fun k=>by
   unfold AWv
   rw [ABc]
   split
   · next h=>
     subst h
     split
     · next h2=>subst h2;unfold dl;rw [if_neg Zh];grind
     · simp
   · simp
 rw [ABa fun k _=>h1 k,AMw,Adr X hs,APj (a:=j) Zh fun k _ hk=>if_neg hk,if_pos rfl]
theorem Agb {n i j r s:Nat} {A:Z1} (hj:j < i) (hi:i < n) (hr:r < n) (hs:s < n):ACq n (ACq n (trF (AWv A i j)) A) (AWv A i j) r s=AXt A i j (ATd A i j) r s:=by
 have h2:∀ k,ACq n (trF (AWv A i j)) A r k=A r k + if r=i then ATd A i j * A j k else 0:=fun k=>by
   show psum (fun l=>AWv A i j l r * A l k) n=_
   rw [ABa (g:=fun l=>A l k * AWv A i j l r) fun l _=>Int.mul_comm _ _]
   exact Aga hj hi hr fun l=>A l k
 show psum (fun k=>ACq n (trF (AWv A i j)) A r k * AWv A i j k s) n=_;rw [Aga hj hi hs fun k=>ACq n (trF (AWv A i j)) A r k];rw [h2,h2,AZw];split <;> split <;> first | (subst_vars;grind) | grind
theorem Ad8 (j k s:Nat):AEh dl (j + 1) j k s=dl (tau j k) s:=by
 rw [AJv];unfold tau;split
 ·next h=>subst h;rfl
 ·split <;> rfl
theorem Ajm (j k:Nat):tau j (tau j k)=k:=by unfold tau;split <;> (try split) <;> (try split) <;> omega
theorem Aun {j k n:Nat} (hj:j + 1 < n) (hk:k < n):tau j k < n:=by unfold tau;split <;> (try split) <;> omega
theorem Ajn {n j s:Nat} (hj:j + 1 < n) (hs:s < n) (X:Nat->Int):psum (fun k=>X k * AEh dl (j + 1) j k s) n=X (tau j s):=by
 rw [APj (a:=tau j s) (Aun hj hs) fun k hk hne=>?_]
 ·rw [Ad8,Ajm];unfold dl;rw [if_pos rfl];simp
 ·rw [Ad8];unfold dl;rw [if_neg (fun h=>hne (by rw [<- h,Ajm]))];simp
theorem Ajo {n j r s:Nat} {A:Z1} (hj:j + 1 < n) (hr:r < n) (hs:s < n):ACq n (ACq n (trF (AEh dl (j + 1) j)) A) (AEh dl (j + 1) j) r s=swA A j r s:=by
 show psum (fun k=>ACq n (trF (AEh dl (j + 1) j)) A r k * AEh dl (j + 1) j k s) n=_;rw [Ajn hj hs fun k=>ACq n (trF (AEh dl (j + 1) j)) A r k];show psum (fun l=>AEh dl (j + 1) j l r * A l (tau j s)) n=_;rw [ABa (g:=fun l=>A l (tau j s) * AEh dl (j + 1) j l r) fun l _=>Int.mul_comm _ _];exact Ajn hj hr fun l=>A l (tau j s)
theorem AN2 {n:Nat} {A A' B B':Z1} {i j:Nat} (hA:∀ k,k < n->A i k=A' i k) (hB:∀ k,k < n->B k j=B' k j):ACq n A B i j=ACq n A' B' i j:=ABa fun k hk=>by rw [hA k hk,hB k hk]
theorem AZz {n:Nat} {T U:Z1} (i j:Nat):trF (ACq n T U) i j=ACq n (trF U) (trF T) i j:=ABa fun k _=>Int.mul_comm _ _
def Ahu (n:Nat) (A0 T A:Z1):Prop:= ∀ i j,i < n->j < n->A i j=ACq n (trF T) (ACq n A0 T) i j
theorem Acx {n:Nat} {A0 T A U B:Z1} (H:Ahu n A0 T A) (K:∀ i j,i < n->j < n->ACq n (ACq n (trF U) A) U i j=B i j):Ahu n A0 (ACq n T U) B:=fun i j hi hj=>by
  rw [<- K i j hi hj,AN1]
  have h1:ACq n (trF U) (ACq n A U) i j=ACq n (trF U) (ACq n (trF T) (ACq n A0 (ACq n T U))) i j:=by
    refine AN2 (fun _ _=>rfl) fun k hk=>?_;rw [AN2 (A':=ACq n (trF T) (ACq n A0 T)) (fun l hl=>H k l hk hl) (fun _ _=>rfl),AN1];refine AN2 (fun _ _=>rfl) fun l hl=>?_;rw [AN1]
  rw [h1,<- AN1];exact AN2 (fun k _=>(AZz i k).symm) fun _ _=>rfl
theorem Ajp {n:Nat} {A:Z1}:Ahu n A dl A:=fun i j hi hj=>by
  show _=psum (fun k=>dl k i * ACq n A dl k j) n
  rw [ABa (g:=fun k=>ACq n A dl k j * dl k i) fun k _=>Int.mul_comm _ _,Adr (fun k=>ACq n A dl k j) hi]
  exact (Ahh hj).symm
def dm9:Int:=9 ^ 8
def Aru:Int:=2 ^ 97
theorem Arv {n i t:Nat} {A:Z1} (hn:n<=8) (h:Ad3 n dm9 A i t):∀ k,k < n->A k k<=Aru:=fun k hk=>by
  by_cases e:k=i
  · subst e
    have h1:=Acv (p:=(2 ^ 7 * (2 * dm9)) * (2 ^ 7 * (2 * dm9))) (q:=1) h.sym h.pos h.hi h.dm Zk Zk (fun l hl=>by
      have h2:=h.lamb l hl;have h3:(2:Int) ^ t * (2 * dm9)<=2 ^ 7 * (2 * dm9):=Int.mul_le_mul_of_nonneg_right (AXv (by have:=h.ht;omega)) Zk;have h4:=h.pos (l + 1) (by have:=h.hi;omega);have h5:=Int.mul_le_mul_of_nonneg_right h3 (Int.le_of_lt h4);have h6:=AVg (x:=Mn l A k l) (y:=2 ^ 7 * (2 * dm9) * det (l + 1) A) Zh Zh;rw [Int.one_mul];refine Int.le_trans h6 (Int.le_of_eq ?_);grind) k 0 Zh
    rw [AOy,show det 0 A=1 from rfl,Int.one_mul] at h1
    have h7:(1 + (k:Int) * ((2 ^ 7 * (2 * dm9)) * (2 ^ 7 * (2 * dm9)))) * (dm9 * 1)<=(1 + 7 * ((2 ^ 7 * (2 * dm9)) * (2 ^ 7 * (2 * dm9)))) * (dm9 * 1):=by
      refine Int.mul_le_mul_of_nonneg_right ?_ Zk;have:=Int.mul_le_mul_of_nonneg_right (show (k:Int)<=7 by omega) (show (0:Int)<=(2 ^ 7 * (2 * dm9)) * (2 ^ 7 * (2 * dm9)) by decide);omega
    exact Int.le_trans h1 (Int.le_trans h7 Zk)
  · exact Int.le_trans (h.rows k hk e) Zk
theorem Agc {n:Nat} {A:Z1} {B:Int} (hs:AL7 n A) (hp:ANs n A) (hB:∀ k,k < n->A k k<=B) {i j:Nat} (hi:i < n) (hj:j < n): -B<=A i j/\A i j<=B:=by
 have h1:=AYu (k:=0) hs hp (Nat.zero_le _) hi hj;simp only [AOy] at h1;have p1:=AYv (k:=0) hs hp (Nat.zero_le _) hi;have p2:=AYv (k:=0) hs hp (Nat.zero_le _) hj;simp only [AOy] at p1 p2;have h2:=Int.mul_le_mul (hB i hi) (hB j hj) p2 (Int.le_trans p1 (hB i hi));exact Af0 (Int.le_trans p1 (hB i hi)) (Int.le_trans h1 h2)
theorem Ajq {n:Nat} {A:Z1} {B:Int} (hs:AL7 n A) (hp:ANs n A) (hB:∀ k,k < n->A k k<=B) {i j:Nat} (hi:i < n) (hj:j < n):(A i j).natAbs<=B.natAbs:=by
 have:=Agc hs hp hB hi hj;omega
def Acy:Nat:=(2 ^ 240) ^ 5
theorem Agd:16 * (Acy * Acy) < ADr:=by decide
def Acz:Nat:=(2 ^ 220) ^ 5
theorem Awa {n:Nat} {A0 A T:Z1} (hn:n<=8) (hE:∀ i j,(A0 i j).natAbs<=2 ^ 40) (hs:AL7 n A0) (hp:ANs n A0) (H:Ahu n A0 T A) (hB:∀ k,k < n->A k k<=Aru) {k s:Nat} (hk:k < n) (hs2:s < n):(T k s).natAbs<=Acz:=by
  have h1:=Arn hs hp (fun r=>T r s) hk
  have h2:bil n 0 A0 (fun r=>T r s) (fun r=>T r s)=A s s:=by
    rw [H s s hs2 hs2];show _=psum (fun i=>T i s * psum (fun j=>A0 i j * T j s) n) n;unfold bil;refine ABa fun i _=>?_;rw [<- AF1];exact ABa fun j _=>by rw [AOy];grind
  rw [h2] at h1
  have h3:(Aa9 n A0 k k).natAbs<=dBd (2 ^ 40) 9:=by
    refine Nat.le_trans (AXm (m:=2 ^ 40) fun i j=>?_) (AOz Zk Zh);rw [ABc]
    split
    · unfold dl;split <;> decide
    · exact hE i j
  have h4:Aa9 n A0 k k * A s s<=(dBd (2 ^ 40) 9:Nat) * Aru:=by
    have p0:0<=A s s:=by
      have:A s s=bil n 0 A0 (fun r=>T r s) (fun r=>T r s):=h2.symm;rw [this];exact ARj hs hp _ n 0 Zh
    have b1:Aa9 n A0 k k<=(dBd (2 ^ 40) 9:Nat):=by omega
    have b2:=Int.mul_le_mul_of_nonneg_right b1 p0;have b3:=Int.mul_le_mul_of_nonneg_left (hB s hs2) (show (0:Int)<=(dBd (2 ^ 40) 9:Nat) by omega);omega
  have h5:((dBd (2 ^ 40) 9:Nat):Int) * Aru<=(Acz:Int) * (Acz:Int):=by decide
  have h6:=Af0 (x:=T k s) (y:=(Acz:Int)) Zh (Int.le_trans (Int.le_trans h1 h4) h5);omega
structure Abe (n:Nat) (A:Z1):Prop where
  sym:AL7 n A
  pos:ANs n A
  sz:ARk A n
  lv:ATe A n
  dt:det n A<=10000
structure RSt (n:Nat) (A0 A T:Z1) (i t:Nat):Prop where
  inv:Ad3 n dm9 A i t
  car:Ahu n A0 T A
  dt:det n A=det n A0
def Awq (n:Nat) (A0:Z1) (k:Nat) (s:List (List Int) × List (List Int)):Prop:=
  ∃ A T i t,RSt n A0 A T i t/\s=(tab n n A,tab n n T)/\k=(Af4 n A).toNat * 128 + (128 - (16 * i + t))
theorem Ajr {n:Nat} {A:Z1} (hp:ANs n A):0<=Af4 n A:=by
 have:∀ m,m<=n + 1->0<=psum (fun k=>det k A) m:=fun m=>by
   induction m with
   | zero=>intro _;exact Int.le_refl _
   | succ m ih=>intro h;have h1:=ih Zh;have h2:=hp m Zh;simp only [psum];omega
 exact this _ (Nat.le_refl _)
theorem Arw {n:Nat} {A:Z1} (hd:∀ k,k<=n->det k A<=dm9):Af4 n A<=(n + 1:Nat) * dm9:=by
 have:∀ m,m<=n + 1->psum (fun k=>det k A) m<=(m:Nat) * dm9:=fun m=>by
   induction m with
   | zero=>intro _;simp [psum]
   | succ m ih=>intro h;have h1:=ih Zh;have h2:=hd m Zh;simp only [psum];rw [Int.natCast_add,Int.add_mul];omega
 exact this _ (Nat.le_refl _)
theorem Alb {n i j:Nat} {A:Z1} (hn:n<=8) (hj:j < i) (hi:i < n) (hp:ANs n A) (hb:∀ i j,i < n->j < n->(A i j).natAbs<=AGr):(ATd A i j).natAbs<=3 * dBd AGr 9:=by
 have b1:(Mn j A i j).natAbs<=dBd AGr 9:=Abc hn hi Zh Zh hb;have b2:(det (j + 1) A).natAbs<=dBd AGr 9:=AVh hn Zh hb;have hd:=hp (j + 1) Zh;unfold ATd;rw [Int.natAbs_neg];have:=Int.natAbs_ediv_le_natAbs (2 * Mn j A i j + det (j + 1) A) (2 * det (j + 1) A);omega
theorem Alc {fuel n:Nat} {A0:Z1} (Ac:1<=n) (hn:n<=8) (hs:AL7 n A0) (hp:ANs n A0) (hE:∀ i j,(A0 i j).natAbs<=2 ^ 40) (hD:∀ k,k<=n->det k A0<=dm9) (hr:∀ k,k < n->A0 k k<=3 * dm9) (hdt:det n A0<=10000) (hf:ADr < fuel):
    Ok (AGe fuel (tab n n A0)) fun r=> ∃ A T,r=(tab n n A,tab n n T,0)/\Abe n A/\Ahu n A0 T A/\det n A=det n A0/\ ∀ k,k < n->A k k<=3 * dm9:=by
 have Ad:100 < fuel:=Nat.lt_of_le_of_lt Zk hf;have Av:100000000 < fuel:=Nat.lt_of_le_of_lt Zk hf;have Ak:∀ i j,i < n->j < n->(A0 i j).natAbs<=AGr:=fun i j _ _=>Nat.le_trans (hE i j) Zk;unfold AGe;refine Zq (AWu Ac hn Ak Ad) fun v hv=>?_;have Ap:=hv.2 ⟨hs,hp⟩;subst Ap;refine AAj (fun h=>absurd rfl h) fun _=>Zq (ABb (Ajj hn Ak Ad)) fun b hb=>?_;subst hb;refine AAj (fun h=>by simp [hdt] at h) fun _=>?_;refine Zq (ABb (Adu (A:=tab n n A0) (by rw [AAp];omega) (fun z hz=>by rw [AU4 z hz];omega) (by rw [AAp];omega))) fun x hx=>?_;subst hx;rw [AAp];refine Zq (ABb (Ajk Ac Zh Ad)) fun x hx=>?_;subst hx;dsimp only;refine Zq (Ao3 (Awq n A0) (Q:=fun r=> ∃ A T,r=(tab n n A,tab n n T,0)/\Abe n A/\Ahu n A0 T A/\det n A=det n A0/\ ∀ k,k < n->A k k<=3 * dm9) (fun k s hI=>?_) (k:=(Af4 n A0).toNat * 128 + 128) ⟨A0,dl,0,0,⟨Aba Ac hs hp hD hr,Ajp,rfl⟩,rfl,rfl⟩ ?_) fun r hr=>Zm hr
 ·obtain ⟨A,T,i,t,R,rfl,rfl⟩:=hI;have L:=R.inv;have hbd:=Arv hn L;have hb:∀ i j,i < n->j < n->(A i j).natAbs<=AGr:=fun i j hi hj=>Nat.le_trans (Ajq L.sym L.pos hbd hi hj) Zk;have hT:∀ k s,k < n->s < n->(T k s).natAbs<=Acz:=fun k s hk Ab=>Awa hn hE hs hp R.car hbd hk Ab;have hTD:Acz<=Acy:=by decide
  have hMD:AGr<=Acy:=by decide
  unfold AJq;refine Zq (Aul Ac hn L.pos hb hf) fun r hr=>?_
  have prod:∀ {U:Z1},(∀ i j,i < n->j < n->(U i j).natAbs<=3 * dBd AGr 9)->(ADi fuel (tab n n A) (tab n n U)=some (tab n n (ACq n (ACq n (trF U) A) U))/\AB9 fuel (tab n n T) (tab n n U)=some (tab n n (ACq n T U))):=fun {U} hU=>by
    have Am:∀ i j,i < n->j < n->(U i j).natAbs<=Acy:=fun i j hi hj=>Nat.le_trans (hU i j hi hj) Zk
    refine ⟨Ars Ac Zh Agd (fun i j hi hj=>Nat.le_trans (hb i j hi hj) hMD) Am (fun i j hi hj=>?_) Ad,?_⟩
    · have h1:=psum_abs (f:=fun l=>U l i) (g:=fun l=>A l j) (D:=3 * dBd AGr 9) n fun l hl=>⟨hU l i hl hi,Nat.le_trans (hb l j hl hj) Zk⟩
      have h2:n * ((3 * dBd AGr 9) * (3 * dBd AGr 9))<=8 * ((3 * dBd AGr 9) * (3 * dBd AGr 9)):=Nat.mul_le_mul_right _ hn
      have h3:(ACq n (trF U) A i j).natAbs=(psum (fun l=>U l i * A l j) n).natAbs:=rfl
      have h4:∀ l,l < n->(U l i).natAbs<=3 * dBd AGr 9/\(A l j).natAbs<=AGr:=fun l hl=>⟨hU l i hl hi,hb l j hl hj⟩
      have h5:(psum (fun l=>U l i * A l j) n).natAbs<=n * (3 * dBd AGr 9 * AGr):=by
        refine QF.psum_abs fun l hl=>?_
        rw [Int.natAbs_mul]
        exact Nat.mul_le_mul (h4 l hl).1 (h4 l hl).2
      have h6:n * (3 * dBd AGr 9 * AGr)<=8 * (3 * dBd AGr 9 * AGr):=Nat.mul_le_mul_right _ hn
      have h7:8 * (3 * dBd AGr 9 * AGr)<=Acy:=by decide
      rw [h3]
      exact Nat.le_trans h5 (Nat.le_trans h6 h7)
    · unfold AB9
      rw [Ao0 Ac Zh Agd (fun i j hi hj=>Nat.le_trans (hT i j hi hj) hTD) Am Ad]
      rfl
  rcases hr with ⟨rfl,hsz,hlv⟩ | ⟨i',j,hji,hi',hbad,hsz,hzi,hlv,rfl⟩ | ⟨j,hj,hbad,hsz,hlv,rfl⟩
  ·dsimp only;refine AAj (fun _=>?_) (fun h=>absurd rfl h);have hrest:=AVz hn L fun l hl=>hsz i l hl L.hi;refine Zq (ABb (Av7 Ac Zh (fun i j hi hj=>Nat.lt_of_le_of_lt (Ajq L.sym L.pos hrest hi hj) Zk) Ad)) fun x hx=>Zm ?_;subst hx;exact ⟨A,T,rfl,⟨L.sym,L.pos,hsz,hlv,by rw [R.dt];exact hdt⟩,R.car,R.dt,hrest⟩
  ·dsimp only;refine AAj (fun h=>absurd h Zk) fun _=>?_
   have hU:∀ r s,r < n->s < n->(AWv A i' j r s).natAbs<=3 * dBd AGr 9:=fun r s hr Ab=>by
     have hdl:∀ a b,(dl a b).natAbs<=3 * dBd AGr 9:=fun a b=>by unfold dl;split <;> decide
     unfold AWv
     rw [ABc]
     split
     · split
       · exact Alb hn hji hi' L.pos hb
       · exact hdl _ _
     · exact hdl _ _
   obtain ⟨e1,e2⟩:=prod hU;refine Zq (ABb e1) fun x hx=>Zq (ABb e2) fun y hy=>Zm ?_;subst hx;subst hy;obtain ⟨L2,hm⟩:=Ak9 hn L hi' hji hbad hsz hzi hlv;have hsum:Af4 n (AXt A i' j (ATd A i' j))=Af4 n A:=ABa fun k _=>APq hji;refine ⟨_,?_,AXt A i' j (ATd A i' j),ACq n T (AWv A i' j),i',i' - j,⟨L2,Acx R.car fun r s hr Ab=>Agb hji hi' hr Ab,by rw [APq hji];exact R.dt⟩,?_,rfl⟩
   ·rw [hsum];have:=L.hi;have:=L.ht;omega
   ·rw [AO4 fun r s hr Ab=>Agb hji hi' hr Ab]
  ·dsimp only;refine AAj (fun h=>absurd h Zk) fun _=>?_
   have hU:∀ r s,r < n->s < n->(AEh dl (j + 1) j r s).natAbs<=3 * dBd AGr 9:=fun r s hr Ab=>by
     rw [Ad8];unfold dl;split <;> decide
   obtain ⟨e1,e2⟩:=prod hU;refine Zq (ABb e1) fun x hx=>Zq (ABb e2) fun y hy=>Zm ?_;subst hx;subst hy;obtain ⟨L2,hm⟩:=Ala hn L hj hbad (fun r l h1 h2=>hsz r l h1 Zh) fun r hr=>hlv r Zh;refine ⟨_,?_,swA A j,ACq n T (AEh dl (j + 1) j),0,0,⟨L2,Acx R.car fun r s hr Ab=>Ajo hj hr Ab,by rw [Ajc Zh];exact R.dt⟩,?_,rfl⟩
   ·have h1:=Ajr L.pos;have h2:=Ajr L2.pos;have:=L.hi;have:=L.ht;omega
   ·rw [AO4 fun r s hr Ab=>Ajo hj hr Ab]
 ·have h1:=Arw hD;have h2:((n + 1:Nat):Int) * dm9<=9 * dm9:=Int.mul_le_mul_of_nonneg_right Zh Zk;have h3:(9 * dm9)=387420489:=by decide
  have h4:387420489 * 128 + 128 < ADr:=by decide
  omega
def part (n i:Nat) (G:Z1):List (List Int):=AB3 n fun r=>if r < i then AB3 n (G r) else []
theorem AJ4 {n i r:Nat} {G:Z1} (hr:r < i) (hn:r < n):(part n i G)[r]? =some (AB3 n (G r)):=by
 unfold part;rw [AAq hn,if_pos hr]
theorem AO5 {n i:Nat} {G:Z1} (hn:i < n):(part n i G)[i]? =some []:=by
 unfold part;rw [AAq hn,if_neg (Nat.lt_irrefl i)]
theorem AL8 {n i r:Nat} {G:Z1} {g:Nat->Int} (hr:r < i):(part n i G).set r (AB3 n g)=part n i (ABv G r g):=by
 unfold part;rw [ADz];refine ABn fun k _=>?_;by_cases h:k=r
 ·subst h;rw [if_pos rfl,if_pos hr,ABr]
 ·rw [if_neg h,ADy _ _ h]
theorem AM3 {n i:Nat} {G:Z1} {g:Nat->Int}:(part n i G).set i (AB3 n g)=part n (i + 1) (ABv G i g):=by
 unfold part;rw [ADz];refine ABn fun k _=>?_;by_cases h:k=i
 ·subst h;rw [if_pos rfl,if_pos Zh,ABr]
 ·rw [if_neg h,ADy _ _ h];by_cases h2:k < i
  ·rw [if_pos h2,if_pos Zh]
  ·rw [if_neg h2,if_neg Zh]
theorem AOe (n:Nat) (G:Z1):part n n G=tab n n G:=by
 unfold part;rw [APv];exact ABn fun k hk=>if_pos hk
theorem AOf (n:Nat) (G:Z1):List.replicate n ([]:List Int)=part n 0 G:=by
 rw [AE1];exact ABn fun k _=>(if_neg Zh).symm
theorem AWx {L:List Int} {q:Nat} (hq:q < 4611686018427387904):Ok (if (L.length:Int)<=((q:Nat):Int) then (some ((0:Int),((q:Nat):Int))) else ((gI L (w64 ((w64 (((q:Nat):Int) + 1)) - 1))).bind fun x=>(some ((w64 x),(w64 (((q:Nat):Int) + 1)))))) fun e=> ∃ p:Nat,e.2=(p:Int)/\p<=q + 1:=by
  refine AAj (fun h=>Zm ⟨q,rfl,Zh⟩) fun h=>?_;have hl:q < L.length:=by omega
  refine AAs (n:=q) (List.getElem?_eq_getElem hl) (by rw [ACe (x:=(q:Int) + 1) Zh Zh,wk Zh];omega) (Zm ⟨q + 1,?_,Zh⟩);rw [ACe (x:=(q:Int) + 1) Zh Zh];omega
theorem AUj (x:Int) (m:Nat) (hm:0 < m):0<=Int.tmod (w64 (IntKind.wrap .u8 x)) (m:Int)/\Int.tmod (w64 (IntKind.wrap .u8 x)) (m:Int) < m:=by
 have h1:IntKind.wrap .u8 x=x % 256:=by rw [IntKind.wrap_u8]
 rw [h1];have a1:=Int.emod_nonneg x (show (256:Int)≠0 by decide);have a2:=Int.emod_lt_of_pos x (show (0:Int) < 256 by decide);rw [wk Zh,Int.tmod_eq_emod_of_nonneg a1];exact ⟨Int.emod_nonneg _ Zh,Int.emod_lt_of_pos _ Zh⟩
def dgF (f:Nat->Int) (r c:Nat):Int:=if c=r then f r else 0
theorem Awb {fuel N q0:Nat} {a1 Ac:Int} {L:List Int} (hN:w64 (1 + (Int.tmod (w64 a1) Ac))=(N:Int)) (Af:N<=8) (Ag:q0<=1000) (hf:100 < fuel):
    Ok (iter (fun s=>AEr fuel a1 L Ac s.1 s.2.1 s.2.2) fuel (0,(q0:Int),(List.replicate (Int.toNat (w64 (1 + (Int.tmod (w64 a1) Ac)))) ([]:List Int)))) fun e=> ∃ (q:Nat) (f:Nat->Int),e=((q:Int),tab N N (dgF f))/\q<=q0 + N/\ ∀ r,r < N->1<=f r/\f r<=6:=by
 refine AA9 (fun i s=> ∃ (q:Nat) (f:Nat->Int),s=(((i:Nat):Int),(q:Int),part N i (dgF f))/\i<=N/\q<=q0 + i/\ ∀ r,r < i->1<=f r/\f r<=6) N ⟨q0,fun _=>0,by rw [hN,Int.toNat_natCast,AOf N (dgF fun _=>0)];rfl,Zh,Zh,fun r hr=>by omega⟩ Zh fun i s hi hI=>?_;obtain ⟨q,f,rfl,hiN,hq,Ad⟩:=hI;unfold AEr;dsimp only;rw [List.length_replicate,hN,Int.toNat_natCast];refine AAj (fun h=>AB5 Zh ?_) (fun h=>Zm ?_)
 ·have hi':i < N:=by omega
  refine AAs (AO5 hi') rfl ?_;rw [ABx,AE1 N (0:Int),AM3];refine AAs (AJ4 Zh hi') rfl ?_;rw [ABr];refine Zq (Q:=fun e:Int × Int=>0<=e.1/\e.1 < 6/\ ∃ p:Nat,e.2=(p:Int)/\p<=q + 1) (Zq (AWx (L:=L) (q:=q) Zh) fun e he=>?_) fun e he=>AAs (AAq hi') rfl (Zm ⟨Zh,?_⟩)
  ·exact Zm ⟨(AUj _ 6 Zk).1,(AUj _ 6 Zk).2,he⟩
  ·obtain ⟨h1,h2,p,h3,h4⟩:=he;refine ⟨p,fun r=>if r=i then 1 + e.1 else f r,?_,Zh,Zh,fun r hr=>?_⟩
   ·rw [ACe (x:=(i:Int) + 1) Zh Zh,ACe (x:=1 + e.1) Zh Zh,h3,ABx,ABx,ADz,AL8 Zh];refine congrArg (fun z=>(((i + 1:Nat):Int),(p:Int),z)) (ABn fun r hr=>?_);split
    ·refine ABn fun c hc=>?_;rw [ABc];unfold dgF;dsimp only;split
     ·next h=>subst h;rfl
     ·next h=>rw [ABc,if_neg h]
    ·rfl
   ·dsimp only;split
    ·omega
    ·exact Ad r Zh
 ·obtain rfl:i=N:=by omega
  exact ⟨q,f,by rw [AOe],Zh,Ad⟩
theorem Auo {fuel N q0:Nat} {a1 Ac:Int} {L:List Int} (hN:w64 (1 + (Int.tmod (w64 a1) Ac))=(N:Int)) (Af:N<=8) (Ag:q0<=1000) (hf:100 < fuel):
    Ok (iter (fun s=>AD8 fuel a1 L Ac s.1 s.2.1 s.2.2) fuel (0,(q0:Int),(List.replicate (Int.toNat (w64 (1 + (Int.tmod (w64 a1) Ac)))) ([]:List Int)))) fun e=> ∃ (q:Nat) (f:Nat->Int),e=((q:Int),tab N N (dgF f))/\q<=q0 + N/\ ∀ r,r < N->1<=f r/\f r<=9:=by
 refine AA9 (fun i s=> ∃ (q:Nat) (f:Nat->Int),s=(((i:Nat):Int),(q:Int),part N i (dgF f))/\i<=N/\q<=q0 + i/\ ∀ r,r < i->1<=f r/\f r<=9) N ⟨q0,fun _=>0,by rw [hN,Int.toNat_natCast,AOf N (dgF fun _=>0)];rfl,Zh,Zh,fun r hr=>by omega⟩ Zh fun i s hi hI=>?_;obtain ⟨q,f,rfl,hiN,hq,Ad⟩:=hI;unfold AD8;dsimp only;rw [List.length_replicate,hN,Int.toNat_natCast];refine AAj (fun h=>AB5 Zh ?_) (fun h=>Zm ?_)
 ·have hi':i < N:=by omega
  refine AAs (AO5 hi') rfl ?_;rw [ABx,AE1 N (0:Int),AM3];refine AAs (AJ4 Zh hi') rfl ?_;rw [ABr];refine Zq (Q:=fun e:Int × Int=>0<=e.1/\e.1 < 9/\ ∃ p:Nat,e.2=(p:Int)/\p<=q + 1) (Zq (AWx (L:=L) (q:=q) Zh) fun e he=>?_) fun e he=>AAs (AAq hi') rfl (Zm ⟨Zh,?_⟩)
  ·exact Zm ⟨(AUj _ 9 Zk).1,(AUj _ 9 Zk).2,he⟩
  ·obtain ⟨h1,h2,p,h3,h4⟩:=he;refine ⟨p,fun r=>if r=i then 1 + e.1 else f r,?_,Zh,Zh,fun r hr=>?_⟩
   ·rw [ACe (x:=(i:Int) + 1) Zh Zh,ACe (x:=1 + e.1) Zh Zh,h3,ABx,ABx,ADz,AL8 Zh];refine congrArg (fun z=>(((i + 1:Nat):Int),(p:Int),z)) (ABn fun r hr=>?_);split
    ·refine ABn fun c hc=>?_;rw [ABc];unfold dgF;dsimp only;split
     ·next h=>subst h;rfl
     ·next h=>rw [ABc,if_neg h]
    ·rfl
   ·dsimp only;split
    ·omega
    ·exact Ad r Zh
 ·obtain rfl:i=N:=by omega
  exact ⟨q,f,by rw [AOe],Zh,Ad⟩
theorem Aup {fuel N q0:Nat} {a1 Ac:Int} {L:List Int} (hN:w64 (1 + (Int.tmod (w64 a1) Ac))=(N:Int)) (Af:N<=8) (Ag:q0<=1000) (hf:100 < fuel):
    Ok (iter (fun s=>AD9 fuel a1 L Ac s.1 s.2.1 s.2.2) fuel (0,(q0:Int),(List.replicate (Int.toNat (w64 (1 + (Int.tmod (w64 a1) Ac)))) ([]:List Int)))) fun e=> ∃ (q:Nat) (f:Nat->Int),e=((q:Int),tab N N (dgF f))/\q<=q0 + N/\ ∀ r,r < N->1<=f r/\f r<=1:=by
 refine AA9 (fun i s=> ∃ (q:Nat) (f:Nat->Int),s=(((i:Nat):Int),(q:Int),part N i (dgF f))/\i<=N/\q<=q0 + i/\ ∀ r,r < i->1<=f r/\f r<=1) N ⟨q0,fun _=>0,by rw [hN,Int.toNat_natCast,AOf N (dgF fun _=>0)];rfl,Zh,Zh,fun r hr=>by omega⟩ Zh fun i s hi hI=>?_;obtain ⟨q,f,rfl,hiN,hq,Ad⟩:=hI;unfold AD9;dsimp only;rw [List.length_replicate,hN,Int.toNat_natCast];refine AAj (fun h=>AB5 Zh ?_) (fun h=>Zm ?_)
 ·have hi':i < N:=by omega
  refine AAs (AO5 hi') rfl ?_;rw [ABx,AE1 N (0:Int),AM3];refine AAs (AJ4 Zh hi') rfl ?_;rw [ABr];refine Zq (Q:=fun e:Int × Int=>0<=e.1/\e.1 < 1/\ ∃ p:Nat,e.2=(p:Int)/\p<=q + 1) (Zq (AWx (L:=L) (q:=q) Zh) fun e he=>?_) fun e he=>AAs (AAq hi') rfl (Zm ⟨Zh,?_⟩)
  ·exact Zm ⟨(AUj _ 1 Zk).1,(AUj _ 1 Zk).2,he⟩
  ·obtain ⟨h1,h2,p,h3,h4⟩:=he;refine ⟨p,fun r=>if r=i then 1 + e.1 else f r,?_,Zh,Zh,fun r hr=>?_⟩
   ·rw [ACe (x:=(i:Int) + 1) Zh Zh,ACe (x:=1 + e.1) Zh Zh,h3,ABx,ABx,ADz,AL8 Zh];refine congrArg (fun z=>(((i + 1:Nat):Int),(p:Int),z)) (ABn fun r hr=>?_);split
    ·refine ABn fun c hc=>?_;rw [ABc];unfold dgF;dsimp only;split
     ·next h=>subst h;rfl
     ·next h=>rw [ABc,if_neg h]
    ·rfl
   ·dsimp only;split
    ·omega
    ·exact Ad r Zh
 ·obtain rfl:i=N:=by omega
  exact ⟨q,f,by rw [AOe],Zh,Ad⟩
theorem Auq {fuel N q0:Nat} {a1 Ac:Int} {L:List Int} (hN:w64 (1 + (Int.tmod (w64 a1) Ac))=(N:Int)) (Af:N<=8) (Ag:q0<=1000) (hf:100 < fuel):
    Ok (iter (fun s=>AEa fuel a1 L Ac s.1 s.2.1 s.2.2) fuel (0,(q0:Int),(List.replicate (Int.toNat (w64 (1 + (Int.tmod (w64 a1) Ac)))) ([]:List Int)))) fun e=> ∃ (q:Nat) (f:Nat->Int),e=((q:Int),tab N N (dgF f))/\q<=q0 + N/\ ∀ r,r < N->1<=f r/\f r<=2:=by
 refine AA9 (fun i s=> ∃ (q:Nat) (f:Nat->Int),s=(((i:Nat):Int),(q:Int),part N i (dgF f))/\i<=N/\q<=q0 + i/\ ∀ r,r < i->1<=f r/\f r<=2) N ⟨q0,fun _=>0,by rw [hN,Int.toNat_natCast,AOf N (dgF fun _=>0)];rfl,Zh,Zh,fun r hr=>by omega⟩ Zh fun i s hi hI=>?_;obtain ⟨q,f,rfl,hiN,hq,Ad⟩:=hI;unfold AEa;dsimp only;rw [List.length_replicate,hN,Int.toNat_natCast];refine AAj (fun h=>AB5 Zh ?_) (fun h=>Zm ?_)
 ·have hi':i < N:=by omega
  refine AAs (AO5 hi') rfl ?_;rw [ABx,AE1 N (0:Int),AM3];refine AAs (AJ4 Zh hi') rfl ?_;rw [ABr];refine Zq (Q:=fun e:Int × Int=>0<=e.1/\e.1 < 2/\ ∃ p:Nat,e.2=(p:Int)/\p<=q + 1) (Zq (AWx (L:=L) (q:=q) Zh) fun e he=>?_) fun e he=>AAs (AAq hi') rfl (Zm ⟨Zh,?_⟩)
  ·exact Zm ⟨(AUj _ 2 Zk).1,(AUj _ 2 Zk).2,he⟩
  ·obtain ⟨h1,h2,p,h3,h4⟩:=he;refine ⟨p,fun r=>if r=i then 1 + e.1 else f r,?_,Zh,Zh,fun r hr=>?_⟩
   ·rw [ACe (x:=(i:Int) + 1) Zh Zh,ACe (x:=1 + e.1) Zh Zh,h3,ABx,ABx,ADz,AL8 Zh];refine congrArg (fun z=>(((i + 1:Nat):Int),(p:Int),z)) (ABn fun r hr=>?_);split
    ·refine ABn fun c hc=>?_;rw [ABc];unfold dgF;dsimp only;split
     ·next h=>subst h;rfl
     ·next h=>rw [ABc,if_neg h]
    ·rfl
   ·dsimp only;split
    ·omega
    ·exact Ad r Zh
 ·obtain rfl:i=N:=by omega
  exact ⟨q,f,by rw [AOe],Zh,Ad⟩
theorem Aur {fuel N q0:Nat} {L:List Int} {F0:Z1} (Ag:N<=8) (Ah:q0<=1000) (Ad:∀ i j,i < N->j < N->(F0 i j).natAbs<=9) (hf:100 < fuel):
    Ok (iter (fun s=>AEs fuel L (tab N N F0) s.1 s.2.1 s.2.2) fuel (0,(q0:Int),tab N N F0)) fun e=> ∃ (q:Nat) (F:Z1),e=((q:Int),tab N N F)/\q<=q0 + 8 * N/\ ∀ i j,i < N->j < N->(F i j).natAbs<=9:=by
 refine AA9 (fun i s=> ∃ (q:Nat) (F:Z1),s=(((i:Nat):Int),(q:Int),tab N N F)/\i<=N/\q<=q0 + 8 * i/\ ∀ i j,i < N->j < N->(F i j).natAbs<=9) N ⟨q0,F0,rfl,Zh,Zh,Ad⟩ Zh fun i s hi hI=>?_;obtain ⟨q,F,rfl,hiN,hq,hF⟩:=hI;unfold AEs;dsimp only;rw [AAp];refine AAj (fun h=>?_) (fun h=>Zm ⟨q,F,rfl,Zh,hF⟩);have hi':i < N:=by omega
 refine Zq (AA9 (fun j s=> ∃ (p:Nat) (F:Z1),s=(((j:Nat):Int),(p:Int),tab N N F)/\j<=i/\p<=q + j/\ ∀ i j,i < N->j < N->(F i j).natAbs<=9) i (Q:=fun e=> ∃ (p:Nat) (F:Z1),e=((p:Int),tab N N F)/\p<=q + i/\ ∀ i j,i < N->j < N->(F i j).natAbs<=9) ⟨q,F,rfl,Zh,Zh,hF⟩ Zh fun j s hj hJ=>?_) fun e he=>?_
 ·obtain ⟨p,F,rfl,hji,hp,hF⟩:=hJ;unfold AG5;dsimp only;refine AAj (fun h=>?_) (fun h=>Zm ⟨p,F,rfl,Zh,hF⟩);have hj':j < i:=by omega
  refine AAs (AAz hi') rfl (Zq (AWx (L:=L) (q:=p) Zh) fun e he=>AAs (AAq Zh) rfl ?_);obtain ⟨p2,h3,h4⟩:=he;rw [ABx,ABx,ADz,show (AB3 N fun c=>if c=j then Int.tmod e.1 3 else F i c)=(List.range N).map fun c=>if c=j then Int.tmod e.1 3 else F i c from rfl,AKy];refine AAs (AAz Zh) rfl (AAs (AAz hi') rfl (AAs (AAq Zh) rfl (AAs (AAq hi') rfl (Zm ⟨Zh,p2,?_⟩))));generalize Af:(ABv F i fun c=>if c=j then Int.tmod e.1 3 else F i c)=F1
  have hv:(Int.tmod e.1 3).natAbs<=9:=by
    have:=Int.natAbs_tmod e.1 3
    have h5:e.1.natAbs % (3:Int).natAbs < 3:=Nat.mod_lt _ Zk
    omega
  have hF1b:∀ i j,i < N->j < N->(F1 i j).natAbs<=9:=fun a b ha hb=>by
    subst Af
    rw [ABc]
    split
    · split
      · exact hv
      · exact hF i b hi' hb
    · exact hF a b ha hb
  refine ⟨ABv F1 j fun c=>if c=i then F1 i j else F1 j c,?_,Zh,Zh,fun a b ha hb=>?_⟩
  ·rw [wk Zh,h3,ABx,ABx,ADz,show (AB3 N fun c=>if c=i then F1 i j else F1 j c)=(List.range N).map fun c=>if c=i then F1 i j else F1 j c from rfl,AKy];rfl
  ·rw [ABc];split
   ·split
    ·exact hF1b i j hi' Zh
    ·exact hF1b j b Zh hb
   ·exact hF1b a b ha hb
 ·obtain ⟨p,F,rfl,hp,hF⟩:=he;exact Zm ⟨Zh,p,F,by rw [wk Zh];rfl,Zh,Zh,hF⟩
theorem Ajs {fuel N:Nat} {b:Bool} (Ag:1<=N) (Ah:N<=8) (hf:100 < fuel):Ok (AFy fuel (N:Int) b) fun e=> ∃ F,e=tab N N F/\ ∀ i j,i < N->j < N->(F i j).natAbs<=2:=by
 unfold AFy;refine AB5 Zh ?_;rw [Int.toNat_natCast];refine Zq (AA9 (fun i s=> ∃ G:Z1,s=(((i:Nat):Int),part N i G)/\i<=N/\ ∀ r c,(G r c).natAbs<=2) N (Q:=fun e=> ∃ F,e=tab N N F/\ ∀ i j,i < N->j < N->(F i j).natAbs<=2) ⟨fun _ _=>0,by rw [AOf N fun _ _=>0];rfl,Zh,fun _ _=>Nat.zero_le _⟩ Zh fun i s hi hI=>?_) fun e he=>Zm he;obtain ⟨G,rfl,hiN,hG⟩:=hI;unfold AK4;dsimp only;rw [List.length_replicate,Int.toNat_natCast];refine AAj (fun h=>AB5 Zh ?_) (fun h=>Zm ?_)
 ·have hi':i < N:=by omega
  refine AAs (AO5 hi') rfl ?_;rw [ABx,AE1 N (0:Int),AM3];refine AAs (AJ4 Zh hi') rfl ?_;rw [ABr];refine AAs (AAq hi') rfl ?_;rw [ABx,ABx,ADz,AL8 Zh]
  have Ab:∀ r c,(ABv (ABv G i fun x=>0) i (fun c=>if c=i then 2 else 0) r c).natAbs<=2:=fun r c=>by
    rw [ABc]
    split
    · split <;> decide
    · rw [ABc]
      split
      · decide
      · exact hG r c
  generalize (ABv (ABv G i fun x=>0) i fun c=>if c=i then 2 else 0)=G1 at Ab;have wi:w64 ((i:Int) + 1)=((i + 1:Nat):Int):=by rw [wk Zh];omega
  refine Zq (Q:=fun k=>k=(i:Int) - 1∨k=(i:Int) - 2) ?_ fun k hk=>?_
  ·have w1:w64 ((i:Int) - 1)=(i:Int) - 1:=wk Zh;have w2:w64 ((i:Int) - 2)=(i:Int) - 2:=wk Zh;rw [w1,w2];exact AAj (fun _=>AAj (fun _=>AAj (fun _=>Zm (.inr rfl)) fun _=>Zm (.inl rfl)) fun _=>Zm (.inl rfl)) fun _=>Zm (.inl rfl)
  ·refine AAj (fun h=>?_) (fun h=>Zm ⟨Zh,G1,by rw [wi],Zh,Ab⟩);obtain ⟨k,rfl⟩:∃ q:Nat,k=q:=⟨k.toNat,Zh⟩;have hki:k < i:=by omega
   refine AAs (AJ4 Zh hi') rfl (AAs (AJ4 Zh Zh) rfl (AAs (AAq Zh) rfl ?_));rw [ABx,ABx,ADz,AL8 Zh]
   have Ac:∀ r c,(ABv G1 i (fun c=>if c=k then -1 else G1 i c) r c).natAbs<=2:=fun r c=>by
     rw [ABc]
     split
     · split
       · decide
       · exact Ab i c
     · exact Ab r c
   generalize (ABv G1 i fun c=>if c=k then -1 else G1 i c)=G2 at Ac;refine AAs (AJ4 Zh Zh) rfl (AAs (AAq hi') rfl (Zm ⟨Zh,ABv G2 k fun c=>if c=i then -1 else G2 k c,?_,Zh,fun r c=>?_⟩))
   ·rw [wi,ABx,ABx,ADz,AL8 Zh]
   ·rw [ABc];split
    ·split
     ·decide
     ·exact Ac k c
    ·exact Ac r c
 ·obtain rfl:i=N:=by omega
  exact ⟨G,AOe _ _,fun a b _ _=>hG a b⟩
theorem Age {n B:Nat} {F:Z1} (hB:B < 9223372036854775808) (h:∀ i j,i < n->j < n->(F i j).natAbs<=B):∀ z∈tab n n F,∀ x∈z,-9223372036854775808<=x/\x<=9223372036854775807:=fun z hz x hx=>by
  obtain ⟨i,hi⟩:=List.getElem?_of_mem hz
  have hin:i < n:=by have:=(List.getElem?_eq_some_iff.1 hi).1;rwa [AAp] at this
  rw [AAz hin] at hi
  cases hi
  obtain ⟨j,hj⟩:=List.getElem?_of_mem hx
  have hjn:j < n:=by have:=(List.getElem?_eq_some_iff.1 hj).1;rwa [AA1] at this
  rw [AAq hjn] at hj
  cases hj
  have:=h i j hin hjn
  omega
theorem Arx {n:Nat} {F:Z1} (hn:1<=n) (Aa:n<=16):okM (tab n n F)=true:=by
 have hc:AM6 (tab n n F)=n:=Amc hn;unfold okM;rw [decide_eq_true_iff,AAp,hc];exact ⟨hn,Aa,fun z hz=>by rw [AU4 z hz];exact ⟨hn,Aa,rfl⟩⟩
theorem Ahv {fuel n:Nat} {F:Z1} (hn:1<=n) (Aa:n<=16) (h:∀ i j,i < n->j < n->(F i j).natAbs<=9223372036854775807) (hf:17 < fuel):ADm fuel (tab n n F)=some (tab n n F):=by
 rw [Asy (Age Zk h) hf,if_pos (Arx hn Aa)]
theorem Aus {fuel n:Nat} {F:Z1} (Ab:1<=n) (hn:n<=8) (hb:∀ i j,i < n->j < n->(F i j).natAbs<=1000000) (hf:100 < fuel):Ok (AH0 fuel (tab n n F)) fun r=>r=true↔AL7 n F/\ANs n F/\det n F<=10000:=by
 have Ac:∀ i j,i < n->j < n->(F i j).natAbs<=AGr:=fun i j hi hj=>Nat.le_trans (hb i j hi hj) Zk;unfold AH0;refine Zq (ABb (Ahv Ab Zh (fun i j hi hj=>Nat.le_trans (hb i j hi hj) Zk) Zh)) fun x hx=>?_;subst hx;refine Zq (AWu Ab hn Ac hf) fun v hv=>AAj (fun h=>?_) fun h=>Zm (Iff.intro (fun h2=>nomatch h2) fun h2=>absurd (hv.2 ⟨h2.1,h2.2.1⟩) h);have h1:=hv.1 h;refine Zq (ABb (AXo hn Ac Zh)) fun d hd=>Zq (Q:=(· =10000)) ⟨10000,if_pos Zh,rfl⟩ fun t ht=>Zq (ABb (a:=AS5 d t) rfl) fun c hc=>Zm ?_;subst hd;subst ht;subst hc;rw [decide_eq_true_iff,Ad5];exact ⟨fun h2=>⟨h1.1,h1.2,h2⟩,fun h2=>h2.2.2⟩
theorem Aut {n:Nat} {f:Nat->Int} (hn:n<=8) (h:∀ r,r < n->1<=f r/\f r<=2):AL7 n (dgF f)/\ANs n (dgF f)/\det n (dgF f)<=10000:=by
 have hd:∀ k,k<=n->det k (dgF f)=AGt f k:=fun k hk=>by
   rw [AS8 (F:=dgF f) (fun c i hc hci hi=>by unfold dgF;rw [if_neg Zh])]
   exact AY7 fun i _=>by unfold dgF;rw [if_pos rfl]
 have hb:∀ k,k<=n->0 < AGt f k/\AGt f k<=2 ^ k:=fun k=>by
   induction k with
   | zero=>intro _;simp [AGt]
   | succ k ih=>
     intro hk
     have h1:=ih Zh
     have h2:=h k Zh
     simp only [AGt]
     refine ⟨Int.mul_pos h1.1 Zh,?_⟩
     rw [Int.pow_succ]
     exact Int.mul_le_mul h1.2 h2.2 Zh (Int.le_of_lt (AXu k))
 refine ⟨fun i j hi hj=>?_,fun k hk=>by rw [hd k hk];exact (hb k hk).1,?_⟩
 ·unfold dgF;split
  ·next h=>subst h;rw [if_pos rfl]
  ·next h=>rw [if_neg (fun h2=>h h2.symm)]
 ·rw [hd n (Nat.le_refl n)];have:=(hb n (Nat.le_refl n)).2;have h2:=AXv hn;omega
structure Awc (n:Nat) (A:Z1):Prop where
  n1:1<=n
  n8:n<=8
  sym:AL7 n A
  pos:ANs n A
  bd:∀ i j,i < n->j < n->(A i j).natAbs<=9
  dt:det n A<=10000
theorem Ajt {n m:Nat} {f:Nat->Int} (h:∀ r,r < n->1<=f r/\f r<=(m:Int)):∀ i j,i < n->j < n->(dgF f i j).natAbs<=m:=fun i j hi hj=>by
  unfold dgF
  have:=h i hi
  split <;> omega
theorem Auu {fuel:Nat} {a1 a2 most:Int} {L L2:List Int} (h1:0<=a1/\a1 < 256) (hm:1<=most/\most<=8) (hf:100 < fuel):Ok (AD0 fuel a1 a2 L L2 most) fun r=> ∃ n A,r=tab n n A/\Awc n A/\(n:Int)=1 + Int.tmod a1 most:=by
 have t1:=Int.emod_nonneg a1 (show most≠0 by omega);have t2:=Int.emod_lt_of_pos a1 (show 0 < most by omega);have t3:Int.tmod a1 most=a1 % most:=Int.tmod_eq_emod_of_nonneg h1.1
 have hN:w64 (1 + Int.tmod (w64 a1) most)=((1 + a1 % most).toNat:Int):=by
   rw [ACe (x:=a1) Zh Zh,t3,wk Zh];omega
 generalize hNN:(1 + a1 % most).toNat=N at hN;have Ae:1<=N:=by omega
 have Ab:N<=8:=by omega
 unfold AD0;refine AB5 Zh (Zq (Q:=fun e=> ∃ (q:Nat) (F:Z1),e=(tab N N F,(q:Int))/\q<=200/\ ∀ i j,i < N->j < N->(F i j).natAbs<=9) (Zq (Q:=fun _=>True) ?_ fun k _=>AAj (fun _=>?_) fun _=>AAj (fun _=>?_) fun _=>AAj (fun _=>?_) fun _=>AAj (fun _=>?_) fun _=>?_) fun e he=>?_)
 ·exact AAj (fun _=>Zm trivial) fun _=>AAj (fun _=>Zm trivial) fun _=>AAj (fun _=>Zm trivial) fun _=>Zm trivial
 ·refine Zq (Q:=fun e=> ∃ (q:Nat) (F:Z1),e=(tab N N F,(q:Int))/\q<=200/\ ∀ i j,i < N->j < N->(F i j).natAbs<=9) (Zq (Q:=fun e=> ∃ (q:Nat) (f:Nat->Int),e=(tab N N (dgF f),(q:Int))/\q<=8/\ ∀ r,r < N->1<=f r/\f r<=6) (AB5 (by rw [hN];omega) (Zq (Awb (q0:=0) (L:=L) hN Ab Zh hf) fun e he=>Zm ?_)) fun e he=>?_) fun e he=>Zm he
  ·obtain ⟨q,f,rfl,h2,h3⟩:=he;exact ⟨q,f,rfl,Zh,h3⟩
  ·obtain ⟨q,f,rfl,h2,h3⟩:=he;refine Zq (Aur (L:=L) (q0:=q) Ab Zh (fun i j hi hj=>Nat.le_trans (Ajt (m:=6) h3 i j hi hj) Zk) hf) fun e he=>Zm ?_;obtain ⟨q,F,rfl,h4,h5⟩:=he;exact ⟨q,F,rfl,Zh,h5⟩
 ·rw [hN];refine Zq (Ajs Ae Ab hf) fun F hF=>?_;obtain ⟨F,rfl,hF⟩:=hF;refine AAs (n:=0) (AAz Zh) rfl (AAs (n:=0) (AAq Zh) rfl (Zq (Q:=fun e:Int × Int=>0<=e.1/\e.1 < 3/\ ∃ p:Nat,e.2=(p:Int)/\p<=0 + 1) (Zq (AWx (L:=L) (q:=0) Zh) fun e he=>Zm ⟨(AUj _ 3 Zk).1,(AUj _ 3 Zk).2,he⟩) fun e he=>Zm ?_));obtain ⟨c1,c2,p,c3,c4⟩:=he;have c5:=hF 0 0 Zh Zh;refine ⟨p,ABv F 0 fun c=>if c=0 then F 0 0 + e.1 else F 0 c,?_,Zh,fun i j hi hj=>?_⟩
  ·rw [c3,wk Zh];refine congrArg (fun z=>(z,(p:Int))) ?_;show (tab N N F).set 0 ((AB3 N (F 0)).set 0 (F 0 0 + e.1))=_;rw [ADz];exact AKy
  ·rw [ABc];split
   ·split
    ·omega
    ·have:=hF 0 j Zh hj;omega
   ·have:=hF i j hi hj;omega
 ·rw [hN];refine Zq (Ajs Ae Ab hf) fun F hF=>?_;obtain ⟨F,rfl,hF⟩:=hF;have w1:w64 ((N:Int) - 1)=((N - 1:Nat):Int):=by rw [wk Zh];omega
  rw [w1];refine AAs (AAz Zh) rfl (AAs (AAq Zh) rfl (Zq (Q:=fun e:Int × Int=>0<=e.1/\e.1 < 2/\ ∃ p:Nat,e.2=(p:Int)/\p<=0 + 1) (Zq (AWx (L:=L) (q:=0) Zh) fun e he=>Zm ⟨(AUj _ 2 Zk).1,(AUj _ 2 Zk).2,he⟩) fun e he=>Zm ?_));obtain ⟨c1,c2,p,c3,c4⟩:=he;have c5:=hF (N - 1) (N - 1) Zh Zh;refine ⟨p,ABv F (N - 1) fun c=>if c=N - 1 then F (N - 1) (N - 1) + e.1 else F (N - 1) c,?_,Zh,fun i j hi hj=>?_⟩
  ·rw [c3,wk Zh,ABx,ABx];refine congrArg (fun z=>(z,(p:Int))) ?_;rw [ADz];exact AKy
  ·rw [ABc];split
   ·split
    ·omega
    ·have:=hF (N - 1) j Zh hj;omega
   ·have:=hF i j hi hj;omega
 ·refine Zq (Q:=fun e=> ∃ (q:Nat) (F:Z1),e=(tab N N F,(q:Int))/\q<=200/\ ∀ i j,i < N->j < N->(F i j).natAbs<=9) (AB5 (by rw [hN];omega) (Zq (Auo (q0:=0) (L:=L) hN Ab Zh hf) fun e he=>Zm ?_)) fun e he=>Zm he;obtain ⟨q,f,rfl,h2,h3⟩:=he;exact ⟨q,dgF f,rfl,Zh,fun i j hi hj=>Ajt (m:=9) h3 i j hi hj⟩
 ·refine Zq (Q:=fun e=> ∃ (q:Nat) (F:Z1),e=(tab N N F,(q:Int))/\q<=200/\ ∀ i j,i < N->j < N->(F i j).natAbs<=9) (AB5 (by rw [hN];omega) (Zq (Aup (q0:=0) (L:=L) hN Ab Zh hf) fun e he=>Zm ?_)) fun e he=>Zm he;obtain ⟨q,f,rfl,h2,h3⟩:=he;exact ⟨q,dgF f,rfl,Zh,fun i j hi hj=>Nat.le_trans (Ajt (m:=1) h3 i j hi hj) Zk⟩
 ·obtain ⟨q,F,rfl,h2,h3⟩:=he;dsimp only;refine Zq (Aus Ae Ab (fun i j hi hj=>Nat.le_trans (h3 i j hi hj) Zk) hf) fun b hb=>AAj (fun hn=>?_) fun hn=>Zm ?_
  ·refine Zq (Q:=fun e=> ∃ f:Nat->Int,e.1=tab N N (dgF f)/\ ∀ r,r < N->1<=f r/\f r<=2) (AB5 (by rw [hN];omega) (Zq (Auq (q0:=q) (L:=L) hN Ab Zh hf) fun e he=>Zm ?_)) fun e he=>Zm ?_
   ·obtain ⟨q,f,rfl,h4,h5⟩:=he;exact ⟨f,rfl,h5⟩
   ·obtain ⟨f,h4,h5⟩:=he;obtain ⟨d1,d2,d3⟩:=Aut Ab h5;exact ⟨N,dgF f,h4,⟨Ae,Ab,d1,d2,fun i j hi hj=>Nat.le_trans (Ajt (m:=2) h5 i j hi hj) Zk,d3⟩,by rw [t3];omega⟩
  ·have hg:AL7 N F/\ANs N F/\det N F<=10000:=hb.1 (by simpa using hn);exact ⟨N,F,rfl,⟨Ae,Ab,hg.1,hg.2.1,h3,hg.2.2⟩,by rw [t3];omega⟩
theorem Auv {fuel:Nat} {a1 a2 most:Int} {L L2:List Int} (h1:0<=a1/\a1 < 256) (hm:1<=most/\most<=8) (hf:ADr < fuel):Ok (AD1 fuel a1 a2 L L2 most) fun r=> ∃ n A,r=tab n n A/\1<=n/\(n:Int)<=most/\Abe n A/\ ∀ k,k < n->A k k<=3 * dm9:=by
  have hf2:100 < fuel:=Nat.lt_of_le_of_lt Zk hf;unfold AD1;refine Zq (Auu h1 hm hf2) fun g hg=>?_;obtain ⟨n,A,rfl,G,hn⟩:=hg;have t2:=Int.emod_lt_of_pos a1 (show 0 < most by omega);have t3:Int.tmod a1 most=a1 % most:=Int.tmod_eq_emod_of_nonneg h1.1
  let A0:Z1:=fun i j=>if i < n/\j < n then A i j else 0
  have hA0:∀ i j,i < n->j < n->A0 i j=A i j:=fun i j hi hj=>if_pos ⟨hi,hj⟩;have e:tab n n A=tab n n A0:=AO4 fun i j hi hj=>(hA0 i j hi hj).symm;refine Zq (ABb (Ahv G.n1 (by have:=G.n8;omega) (fun i j hi hj=>Nat.le_trans (G.bd i j hi hj) Zk) Zh)) fun x hx=>?_;subst hx;rw [e];have hp:ANs n A0:=fun k hk=>by rw [AB0 fun i j hi hj=>hA0 i j Zh Zh];exact G.pos k hk
  have hs:AL7 n A0:=fun i j hi hj=>by rw [hA0 i j hi hj,hA0 j i hj hi];exact G.sym i j hi hj
  have hE:∀ i j,(A0 i j).natAbs<=9:=fun i j=>by
    show (if i < n/\j < n then A i j else 0).natAbs<=9
    split
    · next h=>exact G.bd i j h.1 h.2
    · decide
  have hh:=Aor hs hp (B:=9) Zk (fun i hi=>by have:=hE i i;omega)
  refine Zq (Alc G.n1 G.n8 hs hp (fun i j=>Nat.le_trans (hE i j) Zk) (fun k hk=>?_) (fun k hk=>?_) ?_ hf) fun r hr=>Zm ?_
  · have h2:=hh k hk
    have h3:(9:Int) ^ k<=9 ^ 8:=by
      have:=Nat.pow_le_pow_right (show 0 < 9 by omega) (show k<=8 by have:=G.n8;omega);have e2:∀ t:Nat,(9:Int) ^ t=((9 ^ t:Nat):Int):=fun t=>by simp
      rw [e2,e2];omega
    exact Int.le_trans h2 h3
  · have:=hE k k;have:(3 * dm9)=129140163:=by decide
    omega
  · rw [AB0 hA0];exact G.dt
  · obtain ⟨A',T,rfl,R,-,-,hd⟩:=hr;exact ⟨n,A',rfl,G.n1,by rw [hn,t3];omega,R,hd⟩
theorem Ao4 {A:Z1} {k:Nat} (h1:LvF A k) (h2:SzF A (k + 1) k) (hp:0 < det (k + 1) A):det (k + 1) A * det (k + 1) A<=2 * (det k A * det (k + 2) A):=by
 unfold LvF at h1;unfold SzF at h2;have h3:(2 * Mn k A (k + 1) k) * (2 * Mn k A (k + 1) k)<=det (k + 1) A * det (k + 1) A:=AVg Zh h2.2;have h4:(2 * Mn k A (k + 1) k) * (2 * Mn k A (k + 1) k)=4 * (Mn k A (k + 1) k * Mn k A (k + 1) k):=by grind
 omega
theorem ALx {x y:Int} (h0:0<=x) (h:x<=y):∀ k:Nat,x ^ k<=y ^ k
  | 0=>by simp
  | k + 1=>by
    rw [Int.pow_succ,Int.pow_succ]
    exact Int.mul_le_mul (ALx h0 h k) h h0 (Int.le_trans (Int.pow_nonneg h0) (ALx h0 h k))
def tri:Nat->Nat
  | 0=>0
  | k + 1=>tri k + (k + 1)
theorem Ahw {n:Nat} {A:Z1} (hp:ANs n A) (hs:ARk A n) (hl:ATe A n):∀ k,k + 1<=n->det k A ^ (k + 1)<=det (k + 1) A ^ k * 2 ^ tri k:=by
  intro k;induction k with
  | zero=>intro _;simp [det,tri]
  | succ k ih=>
    intro hk;have ih:=ih Zh;have p0:=hp k Zh;have p1:=hp (k + 1) Zh;have p2:=hp (k + 2) Zh;have h1:=Ao4 (hl k Zh) (hs (k + 1) k Zh Zh) p1;generalize det k A=a at *
    generalize det (k + 1) A=b at *
    generalize det (k + 2) A=c at *
    have h2:(b * b) ^ (k + 1)<=(2 * (a * c)) ^ (k + 1):=ALx (Int.le_of_lt (Int.mul_pos p1 p1)) h1 _;rw [Int.mul_pow,Int.mul_pow,Int.mul_pow] at h2;have h3:a ^ (k + 1) * c ^ (k + 1)<=b ^ k * 2 ^ tri k * c ^ (k + 1):=Int.mul_le_mul_of_nonneg_right ih (Int.le_of_lt (Int.pow_pos p2));have h4:2 ^ (k + 1) * (a ^ (k + 1) * c ^ (k + 1))<=2 ^ (k + 1) * (b ^ k * 2 ^ tri k * c ^ (k + 1)):=Int.mul_le_mul_of_nonneg_left h3 (Int.le_of_lt (AXu _));have h5:=Int.le_trans h2 h4;have e1:b ^ (k + 1) * b ^ (k + 1)=b ^ k * b ^ (k + 1 + 1):=by rw [Int.pow_succ b k,Int.pow_succ b (k + 1),Int.pow_succ b k];grind
    have e2:(2:Int) ^ (k + 1) * (b ^ k * 2 ^ tri k * c ^ (k + 1))=b ^ k * (c ^ (k + 1) * 2 ^ tri (k + 1)):=by
      have:(2:Int) ^ tri (k + 1)=2 ^ tri k * 2 ^ (k + 1):=by rw [<- Int.pow_add];rfl
      rw [this];grind
    rw [e1,e2] at h5;exact Int.le_of_mul_le_mul_left h5 (Int.pow_pos p1)
def dU:Nat->Int
  | 8=>10000
  | 7=>35777
  | 6=>64000
  | 5=>57243
  | 4=>25600
  | _=>10000
theorem Awd (k:Nat):dU k<=64000:=by unfold dU;split <;> omega
theorem As3 (k:Nat):10000<=dU k:=by unfold dU;split <;> omega
theorem Ary:∀ k,k < 8->dU (k + 1) ^ k * 2 ^ tri k < (dU k + 1) ^ (k + 1):=by decide
theorem Ald {n:Nat} {A:Z1} (hn:n<=8) (hp:ANs n A) (hs:ARk A n) (hl:ATe A n) (hd:det n A<=10000):∀ m k,k + m=n->det k A<=dU k:=by
 intro m
 induction m with
 | zero=>
     intro k hk;obtain rfl:k=n:=by omega
     exact Int.le_trans hd (As3 _)
 | succ m ih=>
   intro k hk
   have h1:=ih (k + 1) Zh
   have h2:=Ahw hp hs hl k Zh
   have p0:=hp k Zh
   have p1:=hp (k + 1) Zh
   rcases Int.lt_or_le (dU k) (det k A) with h | h
   · exfalso
     have h3:(dU k + 1) ^ (k + 1)<=det k A ^ (k + 1):=ALx (by have:=As3 k;omega) Zh _
     have h4:det (k + 1) A ^ k * 2 ^ tri k<=dU (k + 1) ^ k * 2 ^ tri k:=Int.mul_le_mul_of_nonneg_right (ALx (Int.le_of_lt p1) h1 k) (Int.le_of_lt (AXu _))
     have h5:=Ary k Zh
     omega
   · exact h
theorem AXw {n:Nat} {A:Z1} (hn:n<=8) (R:Abe n A) {k:Nat} (hk:k<=n):0 < det k A/\det k A<=64000:=
  ⟨R.pos k hk,Int.le_trans (Ald hn R.pos R.sz R.lv R.dt (n - k) k Zh) (Awd k)⟩
theorem AXx {n:Nat} {A:Z1} (hn:n<=8) (R:Abe n A) {i j:Nat} (hi:i < n) (hj:j < n): -192000<=A i j/\A i j<=192000:=
  Agc R.sym R.pos (fun k hk=>Af1 (Dm:=64000) hn R.sym R.pos hk (fun k hk=>(AXw hn R hk).2) fun l hl=>R.sz k l hl hk) hi hj
structure RB (n:Nat) (A:Z1) (k:Nat):Prop where
  pos:∀ j,k < j->j<=n->0 < det j A
  lt:∀ j,k < j->j < n->det j A < 65536
  sz:∀ l i,k<=l->l < i->i < n->SzF A i l
  lv:∀ l,k<=l->l + 1 < n->LvF A l
  dt:det n A<=10000
theorem Auw {A F:Z1} {m k:Nat} (h0:0 < det k A) (hF:∀ i j,i < m + 1->j < m + 1->F i j=Mn k A (k + i) (k + j)) {i j:Nat} (hi:i < m) (hj:j < m):ARt F (det k A) i j=Mn (k + 1) A (k + 1 + i) (k + 1 + j):=by
 unfold ARt;rw [hF 0 0 Zh Zh,hF (i + 1) (j + 1) Zh Zh,hF (i + 1) 0 Zh Zh,hF 0 (j + 1) Zh Zh,Nat.add_zero,AVw Zh,Int.mul_tdiv_cancel_left _ Zh];rw [show k + (i + 1)=k + 1 + i by omega,show k + (j + 1)=k + 1 + j by omega]
theorem Agf {n:Nat} {A:Z1}:∀ (m k:Nat) (F:Z1),k + m=n->1<=m->0 < det k A->(∀ i j,i < m->j < m->F i j=Mn k A (k + i) (k + j))->(AQd m F (det k A)=true↔RB n A k):=by
 intro m
 induction m with
 | zero=>intro k F _ h;omega
 | succ m ih=>
   intro k F hk _ h0 hF
   have Ad:F 0 0=det (k + 1) A:=by rw [hF 0 0 Zh Zh];exact AKu k A
   cases m with
   | zero=>
     obtain rfl:k + 1=n:=hk
     show decide (0 < F 0 0/\F 0 0<=10000)=true↔_
     rw [decide_eq_true_iff,Ad]
     exact ⟨fun h=>⟨fun j h1 h2=>by
       obtain rfl:j=k + 1:=by omega
       exact h.1,fun j h1 h2=>by omega,fun l i h1 h2 h3=>by omega,fun l h1 h2=>by omega,h.2⟩,fun h=>⟨h.pos (k + 1) Zh (Nat.le_refl _),h.dt⟩⟩
   | succ m=>
     have hN:∀ i j,i < m + 1->j < m + 1->ARt F (det k A) i j=Mn (k + 1) A (k + 1 + i) (k + 1 + j):=fun i j hi hj=>Auw h0 hF hi hj
     have hS:AQc (m + 1 + 1) F↔(0 < det (k + 1) A/\det (k + 1) A < 65536)/\ ∀ i,k < i->i < n->SzF A i k:=by
       unfold AQc
       rw [Ad]
       refine and_congr_right fun _=>⟨fun h i h1 h2=>?_,fun h i h1 h2=>?_⟩
       · have h3:=h (i - k) Zh Zh
         rw [hF (i - k) 0 Zh Zh,show k + (i - k)=i by omega] at h3
         unfold SzF
         simp only [Nat.add_zero] at h3
         omega
       · have h3:=h (k + i) Zh Zh
         unfold SzF at h3
         rw [hF i 0 h2 Zh,Nat.add_zero]
         omega
     have hL:AV8 F (det k A)↔LvF A k:=by
       unfold AV8 LvF
       rw [Ad,hN 0 0 Zh Zh,Nat.add_zero,AKu (k + 1) A,hF 1 0 Zh Zh,Nat.add_zero]
       have e:3 * det (k + 1) A * det (k + 1) A=3 * (det (k + 1) A * det (k + 1) A):=by grind
       rw [e]
       exact Iff.rfl
     show (decide (AQc (m + 1 + 1) F) && (decide (AV8 F (det k A)) && AQd (m + 1) (ARt F (det k A)) (F 0 0)))=true↔_
     rw [Bool.and_eq_true,Bool.and_eq_true,decide_eq_true_iff,decide_eq_true_iff,hS,hL,Ad]
     constructor
     · rintro ⟨⟨⟨h1,h2⟩,h3⟩,h4,h5⟩
       have R:=(ih (k + 1) _ Zh Zh h1 hN).1 h5
       refine ⟨fun j a b=>?_,fun j a b=>?_,fun l i a b c=>?_,fun l a b=>?_,R.dt⟩
       · by_cases e:j=k + 1
         · subst e;exact h1
         · exact R.pos j Zh b
       · by_cases e:j=k + 1
         · subst e;exact h2
         · exact R.lt j Zh b
       · by_cases e:l=k
         · subst e;exact h3 i b c
         · exact R.sz l i Zh b c
       · by_cases e:l=k
         · subst e;exact h4
         · exact R.lv l Zh b
     · intro R
       have h1:=R.pos (k + 1) Zh Zh
       exact ⟨⟨⟨h1,R.lt (k + 1) Zh Zh⟩,fun i a b=>R.sz k i (Nat.le_refl k) a b⟩,R.lv k (Nat.le_refl k) Zh,(ih (k + 1) _ Zh Zh h1 hN).2 ⟨fun j a b=>R.pos j Zh b,fun j a b=>R.lt j Zh b,fun l i a b c=>R.sz l i Zh b c,fun l a b=>R.lv l Zh b,R.dt⟩⟩
def AWz (M:List (List Int)):Prop:=(1<=M.length/\M.length<=8)/\(∀ z∈M,z.length=M.length)/\Abe M.length (ent M)
theorem ATf (M:List (List Int)):isRed M=true↔AWz M:=by
 unfold isRed;rw [Bool.and_eq_true];constructor
 ·rintro ⟨h1,h2⟩;have S:=Aa6 h1;have R:=(Agf (A:=ent M) (n:=M.length) M.length 0 (ent M) Zh S.1.1 (by simp [det]) fun i j _ _=>by rw [AOy,Nat.zero_add,Nat.zero_add]).1 (by simpa [det] using h2);refine ⟨S.1,S.2.1,fun i j hi hj=>(S.2.2 i j hi hj).1,fun k hk=>?_,fun r l h3 h4=>R.sz l r (Nat.zero_le _) h3 h4,fun l hl=>R.lv l (Nat.zero_le _) hl,R.dt⟩;rcases Nat.eq_zero_or_pos k with h | h
  ·subst h;simp [det]
  ·exact R.pos k h hk
 ·rintro ⟨h1,h2,R⟩;refine ⟨(AG6 ⟨h1,h2,fun i j hi hj=>⟨R.sym i j hi hj,?_,?_⟩⟩).symm,?_⟩
  ·have:=AXx h1.2 R hi hj;omega
  ·have:=AXx h1.2 R hi hj;omega
  ·have h3:=(Agf (A:=ent M) (n:=M.length) M.length 0 (ent M) Zh h1.1 (by simp [det]) fun i j _ _=>by rw [AOy,Nat.zero_add,Nat.zero_add]).2 ⟨fun j _ hj=>R.pos j hj,fun j _ hj=>by have:=AXw h1.2 R (k:=j) Zh;omega,fun l i _ a b=>R.sz i l a b,fun l _ hl=>R.lv l hl,R.dt⟩;simpa [det] using h3
theorem Ahx {fuel r c:Nat} {F:Z1} (hr:1<=r) (Ad:r<=16) (hc:1<=c) (Ae:c<=16) (hf:100 < fuel):AB4 fuel (tab r c F)=some ((r:Int),(c:Int),true):=by
 apply ok_eq;unfold AB4;rw [AAp];refine Zq (Q:=fun ex=>match ex with | .inl _=>False | .inr _=>True) (AAj (fun h=>by omega) fun h=>AAj (fun h2=>by omega) fun h2=>Zm trivial) fun ex hex=>?_
 cases ex with
 | inl e=>exact hex.elim
 | inr u=>
   dsimp only
   refine Zq (AA9 (fun i (s:Int)=>s=i) r (Q:=fun ex=>match ex with | .inl _=>False | .inr _=>True) rfl Zh fun i s hi hI=>?_) fun ex hex=>?_
   · subst hI
     unfold AFk
     rw [AAp]
     refine AAj (fun h=>AAs (AAz Zh) rfl ?_) fun h=>Zm trivial
     rw [AA1]
     refine AAj (fun h2=>by omega) fun h2=>AAj (fun h3=>by omega) fun h3=>AAs (n:=0) (AAz Zh) rfl (AAj (fun h4=>?_) fun h4=>Zm ⟨Zh,wk Zh⟩)
     rw [AA1] at h4;omega
   · cases ex with
     | inl e=>exact hex.elim
     | inr u=>exact AAs (n:=0) (AAz Zh) rfl (Zm (by rw [AA1]))
theorem Ale {fuel n:Nat} {F:Z1} (Ah:1<=n) (hn:n<=8) (hb:∀ i j,i < n->j < n->(F i j).natAbs<=AGr) (hf:100 < fuel):Ok (AF0 fuel (tab n n F)) fun r=>r=true↔ARk F n/\ATe F n:=by
 unfold AF0;refine Zq (ABb (AYx Ah hn hb hf)) fun x hx=>?_;subst hx;dsimp only;refine Zq (AA9 (fun i s=>s=((i:Nat):Int)/\i<=n/\ARk F i/\ATe F i) n (Q:=fun ex=>match ex with | .inl e=>e=false/\¬ (ARk F n/\ATe F n) | .inr _=>ARk F n/\ATe F n) ⟨rfl,Nat.zero_le _,fun r l h1 h2=>by omega,fun r h=>by omega⟩ Zh fun i s hi hI=>?_) fun ex hex=>?_
 ·obtain ⟨rfl,hin,hsz,hlv⟩:=hI;unfold AI2;rw [AAp];refine AAj (fun h=>?_) (fun h=>Zm ?_)
  ·have hi':i < n:=by omega
   refine Zq (AA9 (fun k s=>s=((k:Nat):Int)/\k<=i/\ ∀ l,l < k->SzF F i l) i (Q:=fun ex=>match ex with | .inl e=>e=false/\¬ (ARk F n/\ATe F n) | .inr _=> ∀ l,l < i->SzF F i l) ⟨rfl,Nat.zero_le _,fun l h1=>by omega⟩ Zh fun k s hk hK=>?_) fun ex hex=>?_
   ·obtain ⟨rfl,hki,hz⟩:=hK;unfold AI1;refine AAj (fun h2=>?_) (fun h2=>Zm ?_)
    ·have hki':k < i:=by omega
     refine Zq (ABb (Ajf hn hi' Zh hb hf)) fun b Ad=>?_;subst Ad;refine AAj (fun h3=>Zm ⟨rfl,fun h4=>?_⟩) (fun h3=>Zm ⟨Zh,by rw [wk Zh];omega,Zh,fun l hl=>?_⟩)
     ·have:=h4.1 i k hki' hi';rw [<- AZx] at this;simp [this] at h3
     ·have hgood:SzF F i k:=by rw [<- AZx];simpa using h3
      rcases Nat.lt_or_ge l k with h6 | h6
      ·exact hz l h6
      ·obtain rfl:l=k:=by omega
       exact hgood
    ·obtain rfl:k=i:=by omega
     exact hz
   ·cases ex with
    | inl r=>exact Zm hex
    | inr e=>
      have hsz':ARk F (i + 1):=fun r l h1 h2=>by
        rcases Nat.lt_or_ge r i with h3 | h3
        · exact hsz r l h1 h3
        · obtain rfl:r=i:=by omega
          exact hex l h1
      dsimp only
      have nx:w64 ((i:Int) + 1)=((i + 1:Nat):Int):=by rw [wk Zh];omega
      refine AAj (fun h4=>?_) (fun h4=>Zm ⟨Zh,nx,Zh,hsz',fun r hr=>by omega⟩)
      obtain ⟨j,rfl⟩:∃ j,i=j + 1:=⟨i - 1,Zh⟩
      refine Zq (Af8 hn hi' hb hf) fun b Ad=>?_
      refine AAj (fun h5=>Zm ⟨rfl,fun h6=>?_⟩) (fun h5=>Zm ⟨Zh,nx,Zh,hsz',fun r hr=>?_⟩)
      · rw [Ad.2 (h6.2 j hi')] at h5;cases h5
      · have hgood:LvF F j:=Ad.1 (by simpa using h5)
        rcases Nat.lt_or_ge r j with h6 | h6
        · exact hlv r Zh
        · obtain rfl:r=j:=by omega
          exact hgood
  ·obtain rfl:i=n:=by omega
   exact ⟨hsz,hlv⟩
 ·cases ex with
  | inl r=>exact Zm (Iff.intro (fun h=>by rw [hex.1] at h;cases h) fun h=>absurd h hex.2)
  | inr u=>exact Zm ⟨fun _=>hex,fun _=>rfl⟩
def Arz (M:List (List Int)):Prop:= ∀ z∈M,∀ x∈z,-9223372036854775808<=x/\x<=9223372036854775807
theorem Ahy {fuel:Nat} {M:List (List Int)} (hM:Arz M) (hf:100 < fuel):ADj fuel M=some (isRed M):=by
 have key:Ok (ADj fuel M) fun r=>r=true↔AWz M:=by
   unfold ADj
   refine Zq (ABb (AY8 hM Zh)) fun x hx=>?_
   subst hx
   by_cases hk:okM M=true
   · rw [if_pos hk]
     dsimp only
     have Ag:=hk
     unfold okM at Ag
     rw [decide_eq_true_iff] at Ag
     obtain ⟨a1,a2,a3⟩:=Ag
     have hne:∃ z,M[0]? =some z:=⟨M[0],List.getElem?_eq_getElem Zh⟩
     obtain ⟨z,hz⟩:=hne
     have hc:AM6 M=z.length:=AQy hz
     have Aj:=a3 z (List.mem_of_getElem? hz)
     have hT:M=tab M.length (AM6 M) (ent M):=AYe fun z hz=>(a3 z hz).2.2
     refine AAj (fun _=>?_) fun h=>absurd rfl h
     by_cases hsq:AM6 M=M.length/\M.length<=8
     · have Ai:M=tab M.length M.length (ent M):=by rw [hsq.1] at hT;exact hT
       have hb:∀ i j,i < M.length->j < M.length->(ent M i j).natAbs<=AGr:=fun i j hi hj=>by
         have hl:M[i].length=M.length:=by rw [(a3 _ (List.getElem_mem hi)).2.2];exact hsq.1
         rw [Amb hi Zh]
         have h1:=hM _ (List.getElem_mem hi) _ (List.getElem_mem (show j < M[i].length by omega))
         have h2:(9223372036854775808:Nat)<=AGr:=by decide
         omega
       have hR:AWz M↔Abe M.length (ent M):=⟨fun h=>h.2.2,fun h=>⟨⟨a1,hsq.2⟩,fun z hz=>by rw [(a3 z hz).2.2];exact hsq.1,h⟩⟩
       rw [hR]
       generalize hF:ent M=F at *
       generalize hL:M.length=n at *
       rw [Ai]
       refine Zq (AWu a1 hsq.2 hb hf) fun v hv=>AAj (fun h=>?_) fun h=>Zm ⟨fun h2=>(nomatch h2),fun h2=>absurd (hv.2 ⟨h2.sym,h2.pos⟩) h⟩
       have h1:=hv.1 h
       refine Zq (ABb (Ajj hsq.2 hb hf)) fun b Ad=>?_
       subst Ad
       refine AAj (fun h2=>?_) fun h2=>Zm ⟨fun h3=>(nomatch h3),fun h3=>absurd (decide_eq_true h3.dt) h2⟩
       refine Zq (Ale a1 hsq.2 hb hf) fun b Ad=>Zm ⟨fun h3=>?_,fun h3=>Ad.2 ⟨h3.sz,h3.lv⟩⟩
       exact ⟨h1.1,h1.2,(Ad.1 h3).1,(Ad.1 h3).2,of_decide_eq_true h2⟩
     · have hnr: ¬ AWz M:=fun h=>hsq ⟨by rw [hc];exact h.2.1 z (List.mem_of_getElem? hz),h.1.2⟩
       refine Zq (Q:=fun v=>v=3) ?_ fun v hv=>AAj (fun h=>by omega) fun _=>Zm ⟨fun h=>(nomatch h),fun h=>absurd h hnr⟩
       unfold ACj
       refine Zq (Q:=fun e=>e.2=false∨(8:Int) < e.1) ?_ fun e he=>?_
       · unfold ADn
         rw [hT]
         refine Zq (ABb (Ahx a1 a2 Zh Zh hf)) fun x hx=>?_
         subst hx
         dsimp only
         refine AAj (fun h=>absurd h Zk) fun _=>AAj (fun h=>Zm (.inl rfl)) fun h=>Zm (.inr ?_)
         have h2:M.length=AM6 M:=by omega
         dsimp only
         by_cases h3:M.length<=8
         · exact absurd ⟨h2.symm,h3⟩ hsq
         · omega
       · obtain ⟨e1,e2⟩:=e
         dsimp only at he ⊢
         refine AAj (fun h=>Zm rfl) fun h=>AAj (fun _=>Zm rfl) fun h2=>?_
         rcases he with rfl | he
         · exact absurd rfl h
         · exact absurd he h2
   · rw [if_neg hk]
     refine AAj (fun h=>(nomatch h)) fun _=>Zm ⟨fun h=>(nomatch h),fun h=>absurd ?_ hk⟩
     obtain ⟨h1,h2,_⟩:=h
     unfold okM
     rw [decide_eq_true_iff]
     have hc:AM6 M=M.length:=by rw [AQy (List.getElem?_eq_getElem (show 0 < M.length by omega))];exact h2 _ (List.getElem_mem _)
     exact ⟨Zh,Zh,fun z hz=>by rw [h2 z hz,hc];exact ⟨Zh,Zh,rfl⟩⟩
 obtain ⟨r,h1,h2⟩:=key;rw [h1];congr 1;rw [<- ATf] at h2;cases r <;> cases h:isRed M <;> simp_all
end Go.Proofs.YtdkldlbgcfpglaaGreatDoor
namespace Go.Proofs.YtdkldlbgcfpglaaGreatDoor
open Go Go.QF
open Go.ChangeShapes Go.WideShapes Go.ChangeAt Go.RowKit
set_option maxRecDepth 100000
theorem Alf:Tryz.prog.cellsOf 24=4:=by kernel_rfl
theorem Ao5 {H:Type} {enc:TypeId × Value->H} {W:World} {r:Reach} {b0:Nat} {v:Value} {d:DataW H} {p:List MemPlace} (hv:Value.okWide Tryz.prog W r b0 24 v) (h:DataW.Trod enc Tryz.prog W 0 (fun _=>true) true 24 v d p):
    ∃ (g k:Int) (lv bv:Value) (Z Y:List Int),v= .agg #[.int .u8 g,.int .u8 k,lv,bv]/\SlC (cI .i8) W.heap lv Z/\SlC (cI .i8) W.heap bv Y/\(0<=g/\g < 256)/\(0<=k/\k < 256)/\(∀ z∈Z,-128<=z/\z<=127)/\ ∀ z∈Y,-128<=z/\z<=127:=by
  obtain ⟨cs,rfl,hsz⟩:=okWide_struct Tryz.underlying24 hv;rw [Alf] at hsz;obtain ⟨l⟩:=cs
  match l,hsz with
  | [c0,c1,c2,c3],_=>
    obtain ⟨fuel,hf⟩:=h;obtain ⟨y0,y1,y2,y3,n,_,_,h0,h1,h2,h3⟩:=Joins.trod_struct4 Tryz.underlying24 hf;simp [Value.cells,Amo,Amp] at h0 h1 h2 h3;obtain ⟨x0,e0,_,w0⟩:=DataW.trod_int Tryz.underlying5 h0;obtain ⟨x1,e1,_,w1⟩:=DataW.trod_int Tryz.underlying5 h1;simp at e0 e1;subst e0;subst e1;have b0:=wf_u8 w0;have b1:=wf_u8 w1;obtain ⟨Z,HZ,hZ⟩:=Amq h2;obtain ⟨Y,HY,hY⟩:=Amq h3;exact ⟨x0,x1,c2,c3,Z,Y,rfl,Aoi HZ,Aoi HY,Zh,Zh,hZ,hY⟩
end Go.Proofs.YtdkldlbgcfpglaaGreatDoor
namespace Go.Proofs.YtdkldlbgcfpglaaGreatDoor
open Go Go.QF
set_option maxRecDepth 100000
theorem Aju {n k:Nat} {A:Z1} (hn:n<=8) (R:Abe n A) (hk:k<=n) {i j:Nat} (hi:i < n) (hj:j < n):(Mn k A i j).natAbs<=12288000000:=by
 have h1:=AYu R.sym R.pos hk hi hj
 have b:∀ i,i < n->Mn k A i i<=12288000000:=fun i hi=>by
   have h2:=Aoq R.sym R.pos hi k hk
   have h3:=AXw hn R hk
   have h4:=AXx hn R hi hi
   have h5:det k A * A i i<=det k A * 192000:=Int.mul_le_mul_of_nonneg_left h4.2 Zh
   omega
 have p:=fun i (hi:i < n)=>AYv R.sym R.pos hk hi;have h2:=Int.mul_le_mul (b i hi) (b j hj) (p j hj) Zh;have:=Af0 (x:=Mn k A i j) (y:=12288000000) Zh (Int.le_trans h1 h2);omega
theorem Aux {fuel n:Nat} {A:Z1} (Ag:1<=n) (hn:n<=8) (R:Abe n A) (hf:100 < fuel):AHe fuel (tab n n A)=some (det n A):=by
 apply ok_eq;unfold AHe;rw [AAp];refine AB5 Zh ?_;rw [Int.toNat_natCast];refine Zq (AA9 (fun i s=>s=(((i:Nat):Int),part n i A)/\i<=n) n (Q:=(· =tab n n A)) ⟨by rw [AOf n A];rfl,Nat.zero_le _⟩ Zh fun i s hi hI=>?_) fun e he=>?_
 ·obtain ⟨rfl,hin⟩:=hI;unfold ALd;dsimp only;rw [AAp];refine AAj (fun h=>AAs (AAz Zh) rfl (AB5 Zh (AAs (AO5 Zh) rfl ?_))) (fun h=>Zm ?_)
  ·have hi':i < n:=by omega
   rw [Int.toNat_natCast,ABx,AE1 n (0:Int),AM3];refine AAs (AJ4 Zh hi') rfl (AB5 (by rw [AA1,AA1];exact ⟨rfl,Ag⟩) (Zm ⟨hi',?_,Zh⟩));rw [wk Zh,ABx,AL8 Zh,ANa,AOb];refine congrArg (fun z=>(z,part n (i + 1) A)) ?_;omega
  ·obtain rfl:i=n:=by omega
   exact AOe _ _
 subst he;refine Zq (Q:=(· =1)) ⟨1,if_pos Zh,rfl⟩ fun one h1=>?_;subst h1;refine Zq (AA9 (fun k s=> ∃ G,s=(false,((k:Int),tab n n G,det k A))/\k<=n/\ ∀ r c,k<=r->r < n->k<=c->c < n->G r c=Mn k A r c) n (Q:=fun ex=>match ex with | .inl e=>False | .inr (neg,last)=>neg=false/\last=det n A) ⟨A,rfl,Nat.zero_le _,fun r c _ _ _ _=>(AOy A r c).symm⟩ Zh fun k s hk hI=>?_) fun ex hex=>?_
 ·obtain ⟨G,rfl,hkn,hG⟩:=hI;unfold ALc;dsimp only;rw [AAp];refine AAj (fun h=>?_) (fun h=>Zm ⟨rfl,?_⟩)
  ·have hk':k < n:=by omega
   have hGk:G k k=det (k + 1) A:=by rw [hG k k Zh hk' Zh hk',AKu]
   have hpos:0 < det (k + 1) A:=R.pos (k + 1) Zh;have hlast:=AXw hn R (k:=k) Zh;refine Zq (Q:=(· =(k:Int))) (Zq (AA9 (fun _ s=>s=(k:Int)) 0 (Q:=(· =(k:Int))) rfl Zh fun i s hi hI=>?_) fun e he=>Zm he) fun e he=>?_
   ·subst hI;unfold AK9;rw [AAp];refine Zq (Q:=fun ex=>match ex with | .inl _=>False | .inr _=>True) (AAj (fun h2=>AAs (AAz hk') rfl (AAs (AAq hk') rfl (Zq (ABb (a:=AF6 (G k k)) rfl) fun sg hsg=>AAj (fun h3=>?_) fun h3=>Zm trivial))) fun h2=>absurd h h2) fun ex hex=>?_
    ·exfalso;rw [hsg] at h3;have:=(AQt _).1 h3;omega
    ·cases ex with
     | inl u=>exact hex.elim
     | inr u=>exact Zm rfl
   ·subst he;refine AAj (fun h2=>by omega) fun _=>Zq (Q:=(· =(false,tab n n G))) (AAj (fun h2=>absurd rfl h2) fun _=>Zm rfl) fun r hr=>?_;subst hr;dsimp only;refine AAs (AAz hk') rfl (AAs (AAq hk') rfl ?_);rw [wk Zh]
    have hq:∀ r c,k < r->r < n->k < c->c < n->bQ k G (det k A) r c=Mn (k + 1) A r c:=fun r c h1 h2 h3 h4=>by
      unfold bQ
      rw [hGk,hG r c Zh h2 Zh h4,hG r k Zh h2 Zh hk',hG k c Zh hk' Zh h4,<- AKu k A,AVw Zh,Int.mul_ediv_cancel_left _ Zh]
    have habs:∀ r c,k<=r->r < n->k<=c->c < n->(G r c).natAbs<=12288000000:=fun r c h1 h2 h3 h4=>by rw [hG r c h1 h2 h3 h4];exact Aju hn R Zh h2 h4
    refine Zq (AA9 (fun i s=>s=(((k + 1 + i:Nat):Int),tab n n (bF k G (det k A) (k + 1 + i) (k + 1)))/\k + 1 + i<=n) (n - (k + 1)) (Q:=(· =tab n n (bF k G (det k A) n (k + 1)))) ⟨by rw [Nat.add_zero,Aa0];simp,Zh⟩ Zh fun i s hi hI=>?_) fun a3 Ah=>?_
    ·obtain ⟨rfl,hin⟩:=hI;unfold ALb;dsimp only;rw [AAp];obtain ⟨q,hqe⟩:∃ q,k + 1 + i=q:=⟨_,rfl⟩;rw [hqe] at hin ⊢;refine AAj (fun h3=>?_) (fun h3=>Zm ?_)
     ·have hqn:q < n:=by omega
      rw [wk Zh];refine Zq (AA9 (fun j s=>s=(((k + 1 + j:Nat):Int),tab n n (bF k G (det k A) q (k + 1 + j)))/\k + 1 + j<=n) (n - (k + 1)) (Q:=(· =tab n n (bF k G (det k A) q n))) ⟨AA3,Zh⟩ Zh fun j s hj hJ=>?_) fun a4 Ai=>Zm ?_
      ·obtain ⟨rfl,hjn⟩:=hJ;unfold ALa;dsimp only;rw [AAp];obtain ⟨c,hc⟩:∃ c,k + 1 + j=c:=⟨_,rfl⟩;rw [hc] at hjn ⊢;refine AAj (fun h4=>?_) (fun h4=>Zm ?_)
       ·have hcn:c < n:=by omega
        have a1:=habs k k Zh hk' Zh hk';have a2:=habs q c Zh hqn Zh hcn;have a3:=habs q k Zh hqn Zh hk';have a4:=habs k c Zh hk' Zh hcn;have m1:=Nat.mul_le_mul a1 a2;have m2:=Nat.mul_le_mul a3 a4;have hB:12288000000 * 12288000000 < ADr:=by decide
        refine AAs (AAz hqn) rfl (AAs (AAq hcn) rfl ?_);rw [An9];refine Zq (ABb (a:=G k k * G q c) (if_pos Zh)) fun x1 Am=>AAs (AAq hk') rfl (AAs (AAz hk') rfl (AAs (AAq hcn) rfl ?_));subst Am;rw [An8,Aa1];refine Zq (ABb (a:=G q k * G k c) (if_pos Zh)) fun x2 Ao=>?_;subst Ao;refine Zq (ABb (a:=G k k * G q c - G q k * G k c) (if_pos ⟨by rw [Int.natAbs_mul];omega,by rw [Int.natAbs_mul];omega⟩)) fun x3 Ap=>?_;subst Ap
        have hnum:G k k * G q c - G q k * G k c=det k A * Mn (k + 1) A q c:=by
          rw [hGk,hG q c Zh hqn Zh hcn,hG q k Zh hqn Zh hk',hG k c Zh hk' Zh hcn,<- AKu k A,AVw Zh]
        have m3:(det k A * Mn (k + 1) A q c).natAbs<=64000 * 12288000000:=by
          rw [Int.natAbs_mul]
          exact Nat.mul_le_mul Zh (Aju hn R Zh hqn hcn)
        refine Zq (Q:=fun x=>x.1=bQ k G (det k A) q c) ⟨_,if_pos ⟨by rw [hnum];omega,Zh,Zh⟩,rfl⟩ fun x4 Aq=>Zm ⟨Zh,?_,Zh⟩;rw [Aq,wk Zh,AWr,Ahk k G (det k A) Zh Zh];congr 1
        ·omega
        ·rw [<- Nat.add_assoc,hc]
       ·obtain rfl:c=n:=by omega
        rfl
      ·subst Ai;refine ⟨Zh,?_,Zh⟩;rw [wk Zh];congr 1
       ·omega
       ·refine AM7 fun r c hr hc=>?_;rw [Ahj k n G (det k A) q hc,<- Nat.add_assoc,hqe]
     ·obtain rfl:q=n:=by omega
      rfl
    ·subst Ah;refine Zm ⟨hk',bF k G (det k A) n (k + 1),?_,Zh,fun r c h1 h2 h3 h4=>?_⟩
     ·rw [hGk];rfl
     ·have:bF k G (det k A) n (k + 1) r c=bQ k G (det k A) r c:=by unfold bF;rw [if_pos Zh]
      rw [this];exact hq r c Zh h2 Zh h4
  ·obtain rfl:k=n:=by omega
   rfl
 ·match ex,hex with
  | .inl e,hex=>exact hex.elim
  | .inr (neg,last),hex=>
    obtain ⟨rfl,rfl⟩:=hex
    dsimp only
    exact AAj (fun h=>nomatch h) fun _=>Zm rfl
theorem Agg {fuel n:Nat} {F:Z1} (hn:1<=n) (Ab:n<=16) (hf:100 < fuel):AHd fuel (tab n n F)=some ((n:Int),(n:Int),true)/\AGf fuel (tab n n F)=some ((n:Int),(n:Int),true):=by
 constructor <;>
 ·apply ok_eq;first | unfold AHd | unfold AGf
  rw [AAp];refine Zq (Q:=fun ex=>match ex with | .inl _=>False | .inr _=>True) (AAj (fun h=>by omega) fun h=>AAj (fun h2=>by omega) fun h2=>Zm trivial) fun ex hex=>?_
  cases ex with
  | inl e=>exact hex.elim
  | inr u=>
    dsimp only
    refine AAs (n:=0) (AAz Zh) rfl ?_
    rw [AA1]
    refine Zq (Q:=fun ex=>match ex with | .inl _=>False | .inr _=>True) (AAj (fun h=>by omega) fun h=>AAj (fun h2=>by omega) fun h2=>Zm trivial) fun ex hex=>?_
    cases ex with
    | inl e=>exact hex.elim
    | inr u=>
      dsimp only
      refine Zq (AA9 (fun i (s:Int)=>s=i) n (Q:=fun ex=>match ex with | .inl _=>False | .inr _=>True) rfl Zh fun i s hi hI=>?_) fun ex hex=>?_
      · subst hI
        first | unfold AK8 | unfold AJr
        rw [AAp]
        refine AAj (fun h=>AAs (AAz Zh) rfl ?_) fun h=>Zm trivial
        rw [AA1,AA1]
        exact AAj (fun h2=>absurd rfl h2) fun _=>Zm ⟨Zh,wk Zh⟩
      · cases ex with
        | inl e=>exact hex.elim
        | inr u=>exact Zm rfl
theorem Ar0 {fuel n:Nat} {F:Z1} (hn:1<=n) (Ac:n<=16) (hb:∀ i j,i < n->j < n->(F i j).natAbs<=9223372036854775807) (hf:100 < fuel):AJ2 fuel (tab n n F)=some (tab n n F,true):=by
 apply ok_eq;unfold AJ2;refine Zq (ABb (Agg hn Ac hf).1) fun x hx=>?_;subst hx;dsimp only;refine AAj (fun h=>nomatch h) fun _=>Zq (Q:=(· =tab n n F)) (AB5 Zh ?_) fun e he=>Zm (by rw [he]);rw [Int.toNat_natCast];refine Zq (AA9 (fun i s=>s=(((i:Nat):Int),part n i F)/\i<=n) n (Q:=(· =tab n n F)) ⟨by rw [AOf n F];rfl,Nat.zero_le _⟩ Zh fun i s hi hI=>?_) fun e he=>Zm he;obtain ⟨rfl,hin⟩:=hI;unfold AMy;dsimp only;rw [List.length_replicate,Int.toNat_natCast];refine AAj (fun h=>AB5 Zh (AAs (AO5 Zh) rfl ?_)) (fun h=>Zm ?_)
 ·have hi':i < n:=by omega
  rw [ABx,AE1 n (0:Int),AM3];refine AAs (AJ4 Zh hi') rfl ?_;rw [ABr];refine Zq (AA9 (fun j s=>s=(((j:Nat):Int),part n (i + 1) (ABv F i fun c=>if c < j then F i c else 0))/\j<=n) n (Q:=(· =part n (i + 1) F)) ⟨?_,Nat.zero_le _⟩ Zh fun j s hj hJ=>?_) fun e he=>Zm ⟨hi',?_,Zh⟩
  ·refine congrArg (fun z=>((0:Int),z)) ?_;unfold part;refine ABn fun r hr=>?_;split
   ·exact ABn fun c hc=>by rw [ABc,ABc];split <;> simp
   ·rfl
  ·obtain ⟨rfl,hjn⟩:=hJ;unfold AMx;dsimp only;rw [AA1];refine AAj (fun h=>?_) (fun h=>Zm ?_)
   ·have hj':j < n:=by omega
    refine AAs (AJ4 Zh hi') rfl ?_;rw [ABr];have:=hb i j hi' hj';refine Zq (Q:=(· =F i j)) (AAs (AAz hi') rfl (AAs (AAq hj') rfl (Zq (Q:=(· =F i j)) ⟨_,if_pos Zh,rfl⟩ fun x hx=>Zm hx))) fun x hx=>?_;subst hx;refine AAs (AAq hj') rfl (Zm ⟨Zh,?_,Zh⟩);rw [wk Zh,ABx,ABx,ADz,AL8 Zh,ANa];refine congrArg (fun z=>(((j + 1:Nat):Int),z)) ?_;congr 1;unfold ABv;funext r;split
    ·funext c;by_cases h1:c=j
     ·subst h1;rw [if_pos rfl,if_pos Zh]
     ·rw [if_neg h1];by_cases h2:c < j
      ·rw [if_pos h2,if_pos Zh]
      ·rw [if_neg h2,if_neg Zh]
    ·rfl
   ·obtain rfl:j=n:=by omega
    unfold part;refine ABn fun r hr=>?_;split
    ·refine ABn fun c hc=>?_;rw [ABc];split
     ·next h=>subst h;first | rfl | rw [if_pos hc]
     ·rfl
    ·rfl
  ·rw [he,wk Zh];rfl
 ·obtain rfl:i=n:=by omega
  exact AOe _ _
def Abu (d p e:Int):Prop:= ∃ (k:Nat) (r:Int),e=k/\d=r * p ^ k/\¬ p ∣ r
theorem Ad9 {d p a b:Int} (hp:2<=p) (ha:Abu d p a) (hb:Abu d p b):a=b:=by
 have key:∀ (k l:Nat) (r s:Int),k < l->r * p ^ k=s * p ^ l->p ∣ r:=fun k l r s hkl h=>by
   obtain ⟨m,rfl⟩:∃ m,l=k + 1 + m:=⟨l - k - 1,Zh⟩
   rw [Int.pow_add,Int.pow_add,Int.pow_one] at h
   have h1:p ^ k * r=p ^ k * (p * (s * p ^ m)):=by grind
   exact ⟨_,Int.eq_of_mul_eq_mul_left (Int.pow_ne_zero Zh) h1⟩
 obtain ⟨k,r,rfl,h1,h2⟩:=ha;obtain ⟨l,s,rfl,h3,h4⟩:=hb;rcases Nat.lt_trichotomy k l with h | h | h
 ·exact absurd (key k l r s h (by rw [<- h1,<- h3])) h2
 ·rw [h]
 ·exact absurd (key l k s r h (by rw [<- h1,<- h3])) h4
theorem AV1 {p r d:Int} {k:Nat} (hp:2<=p) (hr:0 < r) (hd:d<=10000) (h:d=r * p ^ k):k<=13:=by
 rcases Nat.lt_or_ge 13 k with h1 | h1
 ·exfalso;have h2:(2:Int) ^ 14<=2 ^ k:=AXv h1;have h3:(2:Int) ^ k<=p ^ k:=ALx Zh hp k;have h4:1 * p ^ k<=r * p ^ k:=Int.mul_le_mul_of_nonneg_right Zh Zh;have h5:(2:Int) ^ 14=16384:=by decide
  omega
 ·exact h1
theorem Auy {fuel:Nat} {d p:Int} (Ac:1<=d) (hd:d<=10000) (hp:2<=p) (Ad:p<=9973) (hf:100 < fuel):Ok (AFo fuel d p) (Abu d p):=by
 unfold AFo;refine Zq (AA9 (fun i s=> ∃ r:Int,s=(r,(i:Int))/\0 < r/\d=r * p ^ i) 14 (Q:=Abu d p) ⟨d,rfl,Zh,AA3⟩ Zh fun i s hi hI=>?_) fun e he=>Zm he;obtain ⟨r,rfl,hr,hdr⟩:=hI;have Ae:=AV1 hp hr hd hdr
 have hrd:r<=d:=by
   have h1:r * 1<=r * p ^ i:=Int.mul_le_mul_of_nonneg_left (Int.pow_pos Zh) Zh
   omega
 unfold AIf;dsimp only;refine Zq (Q:=fun ex=>match ex with | .inl _=>p ∣ r | .inr _=> ¬ p ∣ r) (AAj (fun h=>AB5 Zh (AAj (fun h2=>Zm ?_) fun h2=>Zm ?_)) fun h=>by omega) fun ex hex=>?_
 ·exact Int.dvd_of_tmod_eq_zero h2
 ·exact fun h3=>h2 (Int.tmod_eq_zero_of_dvd h3)
 ·cases ex with
  | inl u=>
    obtain ⟨q,rfl⟩:p ∣ r:=hex
    have hq:0 < q:=Int.pos_of_mul_pos_right hr Zh
    have hqr:1 * q<=p * q:=Int.mul_le_mul_of_nonneg_right Zh Zh
    refine AB5 Zh (Zm ⟨Zh,q,?_,hq,by rw [hdr,Int.pow_succ];grind⟩)
    rw [Int.mul_tdiv_cancel_left _ Zh,ACe (x:=q) Zh Zh,wk Zh]
    rfl
  | inr u=>exact Zm ⟨i,r,rfl,hdr,hex⟩
def pwL (p:Int) (m:Nat):List Int:=AB3 m fun i=>p ^ (2 ^ i)
theorem Ao6 {fuel:Nat} {a b:Int} (ha:a.natAbs < 18446744073709551616) (hb:b.natAbs < 18446744073709551616) (h0:b≠0):AVc fuel a b=some (a / b,a % b,true):=if_pos ⟨ha,hb,h0⟩
theorem Auz {fuel:Nat} {d p:Int} (Am:1<=d) (hd:d<=10000) (hp:Pr p) (Ag:p<=9973) (hf:100 < fuel):Ok (AJ3 fuel d p) fun r=>Abu d p r.1:=by
 have Ae:2<=p:=hp.1;have pw:∀ k:Nat,0 < p ^ k:=fun k=>Int.pow_pos Zh;unfold AJ3;refine Zq (ABb (a:=AKw p) rfl) fun b hb=>?_;rw [<- AW7 Zh hp] at hb;subst hb;refine AAj (fun h=>nomatch h) fun _=>Zq (ABb (a:=AF6 d) rfl) fun s hs=>?_;subst hs;refine AAj (fun h=>absurd ((AQt d).1 h) Zh) fun _=>Zq (ABb (a:=d) rfl) fun x hx=>Zq (Q:=(· =p)) ⟨p,if_pos Zh,rfl⟩ fun y hy=>?_;subst hx;subst hy;refine Zq (AA9 (fun j s=> ∃ r:Int,s=(pwL y (j + 1),r,((2 ^ j - 1:Nat):Int))/\0 < r/\x=r * y ^ (2 ^ j - 1)) 5 (Q:=fun e=> ∃ (j:Nat) (r:Int),e=(pwL y (j + 1),r,((2 ^ j - 1:Nat):Int))/\0 < r/\x=r * y ^ (2 ^ j - 1)/\¬ y ^ (2 ^ j) ∣ r/\j<=4) ⟨x,?_,Zh,AA3⟩ Zh fun j s hj hI=>?_) fun e he=>?_
 ·refine congrArg (fun l=>(l,x,(0:Int))) ?_;show [y]=[y ^ 1];rw [Int.pow_one]
 ·obtain ⟨r,rfl,hr,hxr⟩:=hI;have Ao:=AV1 Ae hr hd hxr
  have Af:j<=3:=by
    rcases Nat.lt_or_ge 3 j with h | h
    · exfalso
      have:=Nat.pow_le_pow_right (show 0 < 2 by omega) h
      omega
    · exact h
  have hrx:r<=x:=by
    have h1:r * 1<=r * y ^ (2 ^ j - 1):=Int.mul_le_mul_of_nonneg_left (pw _) Zh
    omega
  have hjp:1<=2 ^ j:=Nat.one_le_two_pow
  have Ap:2 ^ j<=8:=by
    have:=Nat.pow_le_pow_right (show 0 < 2 by omega) Af
    omega
  have hyb:y ^ (2 ^ j)<=10000 * 9973:=by
    have e1:y ^ (2 ^ j)=y ^ (2 ^ j - 1) * y:=by rw [<- Int.pow_succ];congr 1;omega
    have h2:1 * y ^ (2 ^ j - 1)<=r * y ^ (2 ^ j - 1):=Int.mul_le_mul_of_nonneg_right Zh (Int.le_of_lt (pw _))
    rw [e1]
    exact Int.mul_le_mul Zh Ag Zh Zh
  have Ad:=pw (2 ^ j);unfold AM0;dsimp only;have hl:(pwL y (j + 1)).length=j + 1:=AA1 _ _;rw [hl,ACe (x:=((j + 1:Nat):Int) - 1) Zh Zh];refine AAs (n:=j) (AAq Zh) Zh (AB5 Zh ?_);rw [show (((j + 1:Nat):Int) - 1).toNat=j by omega,show (1:Int) * 2 ^ j=((2 ^ j:Nat):Int) by simp,ACe (x:=((2 ^ j:Nat):Int)) Zh Zh];refine Zq (Q:=fun e:Bool × Int × Int=>if y ^ (2 ^ j) ∣ r then e=(true,r / y ^ (2 ^ j),((2 ^ (j + 1) - 1:Nat):Int)) else e=(false,r,((2 ^ j - 1:Nat):Int))) (Zq (ABb (Ao6 (fuel:=fuel) (a:=r) (b:=y ^ (2 ^ j)) Zh Zh Zh)) fun q hq=>Zq (ABb (a:=AF6 q.2.1) rfl) fun s hs=>?_) fun e he=>?_
  ·subst hq;subst hs;dsimp only;refine AAj (fun h=>Zm ?_) fun h=>Zm ?_
   ·have hnd: ¬ y ^ (2 ^ j) ∣ r:=fun h2=>h ((AQt _).2 (Int.emod_eq_zero_of_dvd h2));rw [if_neg hnd]
   ·have hdv:y ^ (2 ^ j) ∣ r:=Int.dvd_of_emod_eq_zero ((AQt _).1 (Classical.not_not.1 h));rw [if_pos hdv,wk Zh,Nat.pow_succ];refine congrArg (fun z=>(true,r / y ^ (2 ^ j),z)) ?_;omega
  ·by_cases hdv:y ^ (2 ^ j) ∣ r
   ·rw [if_pos hdv] at he;subst he;dsimp only;refine AAj (fun _=>?_) fun h=>absurd rfl h;obtain ⟨q,rfl⟩:=hdv;have Ah:0 < q:=Int.pos_of_mul_pos_right hr Ad;have hqm:y ^ (2 ^ j) * 1<=y ^ (2 ^ j) * q:=Int.mul_le_mul_of_nonneg_left Zh Zh;have hB:10000 * 10000 < ADr:=by decide
    have m1:(y ^ (2 ^ j)).natAbs * (y ^ (2 ^ j)).natAbs<=10000 * 10000:=Nat.mul_le_mul Zh Zh;refine Zq (ABb (a:=y ^ (2 ^ j) * y ^ (2 ^ j)) (if_pos Zh)) fun z hz=>AB5 Zh (Zm ⟨Zh,q,?_,Ah,?_⟩)
    ·subst hz;rw [Int.mul_ediv_cancel_left _ Zh];refine congrArg (fun l=>(l,q,((2 ^ (j + 1) - 1:Nat):Int))) ?_;have e1:y ^ (2 ^ j) * y ^ (2 ^ j)=y ^ (2 ^ (j + 1)):=by rw [<- Int.pow_add,Nat.pow_succ];congr 1;omega
     rw [e1];exact AOa (j + 1) fun i=>y ^ (2 ^ i)
    ·rw [hxr];have e1:y ^ (2 ^ (j + 1) - 1)=y ^ (2 ^ j) * y ^ (2 ^ j - 1):=by rw [<- Int.pow_add,Nat.pow_succ];congr 1;omega
     rw [e1];grind
   ·rw [if_neg hdv] at he;subst he;exact AAj (fun h=>nomatch h) fun _=>Zm ⟨j,r,rfl,hr,hxr,hdv,Zh⟩
 ·obtain ⟨j,r,rfl,hr,hxr,hnd,Af⟩:=he;dsimp only
  have hY:∀ q,q < j->y ^ (2 ^ q)<=10000:=fun q hq=>by
    have h0:=Nat.pow_le_pow_right (show 0 < 2 by omega) (show q + 1<=j by omega)
    have h1:=Nat.one_le_two_pow (n:=q)
    rw [Nat.pow_succ] at h0
    have e1:y ^ (2 ^ j - 1)=y ^ (2 ^ q) * y ^ (2 ^ j - 1 - 2 ^ q):=by rw [<- Int.pow_add];congr 1;omega
    have h2:y ^ (2 ^ q) * 1<=y ^ (2 ^ q) * y ^ (2 ^ j - 1 - 2 ^ q):=Int.mul_le_mul_of_nonneg_left (pw _) (Int.le_of_lt (pw _))
    have h3:1 * y ^ (2 ^ j - 1)<=r * y ^ (2 ^ j - 1):=Int.mul_le_mul_of_nonneg_right Zh (Int.le_of_lt (pw _))
    omega
  have hl:(pwL y (j + 1)).length=j + 1:=AA1 _ _;rw [hl,ACe (x:=((j + 1:Nat):Int) - 2) Zh Zh];refine Zq (AA9 (fun i s=> ∃ (r:Int) (k:Nat),s=((j:Int) - 1 - i,r,(k:Int))/\i<=j/\0 < r/\x=r * y ^ k/\¬ y ^ (2 ^ (j - i)) ∣ r) j (Q:=fun e=> ∃ (r:Int) (k:Nat),e=(r,(k:Int))/\x=r * y ^ k/\¬ y ∣ r) ⟨r,2 ^ j - 1,by refine congrArg (fun z=>(z,r,((2 ^ j - 1:Nat):Int))) ?_;omega,Zh,hr,hxr,by rw [Nat.sub_zero];exact hnd⟩ Zh fun i s hi hI=>?_) fun e he=>?_
  ·obtain ⟨r,k,rfl,hij,hr,hxr,hnd⟩:=hI;have Au:=AV1 Ae hr hd hxr
   have hrx:r<=x:=by
     have h1:r * 1<=r * y ^ k:=Int.mul_le_mul_of_nonneg_left (pw _) Zh
     omega
   unfold AMz;dsimp only;refine AAj (fun h=>?_) (fun h=>Zm ⟨r,k,rfl,hxr,?_⟩)
   ·obtain ⟨q,hq⟩:∃ q:Nat,(j:Int) - 1 - i=q:=⟨j - 1 - i,Zh⟩;rw [hq];have hqj:q < j + 1:=by omega
    have Aj:q<=3:=by omega
    have Av:1<=2 ^ q:=Nat.one_le_two_pow;have Aw:2 ^ q<=8:=by have:=Nat.pow_le_pow_right (show 0 < 2 by omega) Aj;omega
    have hyb:=hY q Zh;have Ad:=pw (2 ^ q);have hsmall:y ^ (2 ^ q) ∣ r->y ^ (2 ^ q)<=r:=fun h=>Int.le_of_dvd hr h;refine AAs (n:=q) (AAq hqj) rfl (AB5 Zh ?_);rw [Int.toNat_natCast,show (1:Int) * 2 ^ q=((2 ^ q:Nat):Int) by simp,ACe (x:=((2 ^ q:Nat):Int)) Zh Zh];refine Zq (Q:=fun e:Bool × Int × Int=>if y ^ (2 ^ q) ∣ r then e=(true,r / y ^ (2 ^ q),((k + 2 ^ q:Nat):Int)) else e=(false,r,(k:Int))) (Zq (ABb (Ao6 (fuel:=fuel) (a:=r) (b:=y ^ (2 ^ q)) Zh Zh Zh)) fun t ht=>Zq (ABb (a:=AF6 t.2.1) rfl) fun s hs=>?_) fun e he=>?_
    ·subst ht;subst hs;dsimp only;refine AAj (fun h=>Zm ?_) fun h=>Zm ?_
     ·have hnd: ¬ y ^ (2 ^ q) ∣ r:=fun h2=>h ((AQt _).2 (Int.emod_eq_zero_of_dvd h2));rw [if_neg hnd]
     ·have hdv:y ^ (2 ^ q) ∣ r:=Int.dvd_of_emod_eq_zero ((AQt _).1 (Classical.not_not.1 h));rw [if_pos hdv,wk Zh];refine congrArg (fun z=>(true,r / y ^ (2 ^ q),z)) ?_;omega
    ·rw [ACe (x:=(q:Int) - 1) Zh Zh];by_cases hdv:y ^ (2 ^ q) ∣ r
     ·rw [if_pos hdv] at he;subst he;obtain ⟨w,rfl⟩:=hdv;have Ak:0 < w:=Int.pos_of_mul_pos_right hr Ad;refine Zm ⟨Zh,w,k + 2 ^ q,?_,Zh,Ak,?_,?_⟩
      ·rw [Int.mul_ediv_cancel_left _ Zh];refine congrArg (fun z=>(z,w,((k + 2 ^ q:Nat):Int))) ?_;omega
      ·rw [hxr,Int.pow_add];grind
      ·rw [show j - (i + 1)=q by omega];rintro ⟨u,rfl⟩;refine hnd ⟨u,?_⟩;rw [show j - i=q + 1 by omega,Nat.pow_succ,Nat.mul_two,Int.pow_add];grind
     ·rw [if_neg hdv] at he;subst he;refine Zm ⟨Zh,r,k,?_,Zh,hr,hxr,by rw [show j - (i + 1)=q by omega];exact hdv⟩;refine congrArg (fun z=>(z,r,(k:Int))) ?_;omega
   ·have:j - i=0:=by omega
    rw [this,Nat.pow_zero,Int.pow_one] at hnd;exact hnd
  ·obtain ⟨r,k,rfl,h1,h2⟩:=he;exact Zm ⟨k,r,rfl,h1,h2⟩
theorem AVi {M:List (List Int)} (R:AWz M):M=tab M.length M.length (ent M):=AYe R.2.1
theorem Ar1 {n:Nat} {A:Z1} (Ab:1<=n) (hn:n<=8) (R:Abe n A):AWz (tab n n A):=by
 refine ⟨by rw [AAp];exact ⟨Ab,hn⟩,fun z hz=>by rw [AAp];exact AU4 z hz,?_⟩;rw [AAp];have e:∀ i j,i < n->j < n->ent (tab n n A) i j=A i j:=fun i j hi hj=>Aie hi hj;have hd:∀ k,k<=n->det k (ent (tab n n A))=det k A:=fun k hk=>AB0 fun i j hi hj=>e i j Zh Zh
 have hm:∀ k i j,k<=n->i < n->j < n->Mn k (ent (tab n n A)) i j=Mn k A i j:=fun k i j hk hi hj=>by
   unfold Mn
   exact AB0 fun a b ha hb=>e _ _ (AO3 hk hi) (AO3 hk hj)
 refine ⟨fun i j hi hj=>by rw [e i j hi hj,e j i hj hi];exact R.sym i j hi hj,fun k hk=>by rw [hd k hk];exact R.pos k hk,fun r l h1 h2=>?_,fun r hr=>?_,by rw [hd n (Nat.le_refl n)];exact R.dt⟩
 ·have:=R.sz r l h1 h2;unfold SzF at this ⊢;rw [hd _ Zh,hm _ _ _ Zh h2 Zh];exact this
 ·have:=R.lv r hr;unfold LvF at this ⊢;rw [hd _ Zh,hd _ Zh,hd _ Zh,hm _ _ _ Zh hr Zh];exact this
theorem Ao7 {n:Nat} {A:Z1} (hn:n<=8) (R:Abe n A):Arz (tab n n A):=Age (B:=192000) Zk fun i j hi hj=>by have:=AXx hn R hi hj;omega
theorem Abf {M:List (List Int)} (R:AWz M):1<=det M.length (ent M)/\det M.length (ent M)<=10000:=⟨by have:=R.2.2.pos _ (Nat.le_refl _);omega,R.2.2.dt⟩
theorem Ajv {M:List (List Int)} (R:AWz M) {i j:Nat} (hi:i < M.length) (hj:j < M.length):(ent M i j).natAbs<=192000:=by have:=AXx R.1.2 R.2.2 hi hj;omega
theorem Alg {fuel:Nat} {M:List (List Int)} (R:AWz M) (hf:100 < fuel):AH3 fuel M=some (det M.length (ent M)):=by
 apply ok_eq;obtain ⟨v1,v2⟩:=Abf R;have hT:=AVi R;have h1:=R.1;unfold AH3;generalize hF:ent M=F at *;generalize hL:M.length=n at *;have hb:∀ i j,i < n->j < n->(F i j).natAbs<=192000:=fun i j hi hj=>by subst hF;subst hL;exact Ajv R hi hj
 rw [hT];refine Zq (ABb (Ahv h1.1 Zh (fun i j hi hj=>Nat.le_trans (hb i j hi hj) Zk) Zh)) fun x hx=>?_;subst hx;refine Zq (ABb (AXo h1.2 (fun i j hi hj=>Nat.le_trans (hb i j hi hj) Zk) Zh)) fun y hy=>?_;subst hy;refine Zq (ABb (a:=(det n F,true)) (if_pos Zh)) fun z hz=>Zm ?_;rw [hz]
theorem Au0 {d p v:Int} (Ab:1<=d) (hd:d<=10000) (hp:2<=p) (h:Abu d p v):0<=v/\v<=13:=by
 obtain ⟨k,r,rfl,h1,h2⟩:=h
 have hr:0 < r:=by
   have hpk:0 < p ^ k:=Int.pow_pos Zh
   rcases Int.lt_or_le 0 r with h | h
   · exact h
   · have:=Int.mul_nonpos_of_nonpos_of_nonneg h (Int.le_of_lt hpk);omega
 have:=AV1 hp hr hd h1;omega
theorem AYz {fuel:Nat} {M:List (List Int)} {p:Int} (R:AWz M) (hp:Pr p) (hp2:p<=9973) (hf:100 < fuel):∃ v,Abu (det M.length (ent M)) p v/\(0<=v/\v<=13)/\ACw fuel M p=some (if p=2 then v + 3 else v + 1)/\AEt fuel M p=some (if p=2 then v + 3 else v + 1):=by
  obtain ⟨v1,v2⟩:=Abf R;obtain ⟨⟨v,r0,e0⟩,hv1,hv⟩:=Auz v1 v2 hp hp2 hf;dsimp only at hv;have hvb:=Au0 v1 v2 hp.1 hv
  refine ⟨v,hv,hvb,?_,?_⟩
  · apply ok_eq;have hT:=AVi R;have h1:=R.1;have RF:=R.2.2;unfold ACw;generalize hF:ent M=F at *
    generalize hL:M.length=n at *
    have hb:∀ i j,i < n->j < n->(F i j).natAbs<=192000:=fun i j hi hj=>by subst hF;subst hL;exact Ajv R hi hj
    rw [hT];refine Zq (ABb (Ar0 h1.1 Zh (fun i j hi hj=>Nat.le_trans (hb i j hi hj) Zk) hf)) fun x hx=>?_;subst hx;dsimp only
    refine Zq (Q:=(· =(det n F,true))) ?_ fun y hy=>?_
    · unfold AQq;refine Zq (ABb (Agg h1.1 Zh hf).2) fun x hx=>?_;subst hx;dsimp only;exact AAj (fun h=>nomatch h) fun _=>AAj (fun h=>absurd rfl h) fun _=>Zq (ABb (Aux h1.1 h1.2 RF hf)) fun z hz=>Zm (by rw [hz])
    · subst hy;dsimp only;refine Zq (ABb hv1) fun z hz=>?_;subst hz;dsimp only
      refine AAj (fun h=>Zm ?_) fun h=>Zm ?_
      · rw [if_pos h,wk Zh]
      · rw [if_neg h,wk Zh]
  · apply ok_eq;unfold AEt;refine Zq (ABb (Alg R hf)) fun d hd=>?_;subst hd;refine Zq (Auy v1 v2 hp.1 hp2 hf) fun w hw=>?_;obtain rfl:=Ad9 hp.1 hv hw
    refine AAj (fun h=>Zm ?_) fun h=>Zm ?_
    · rw [if_pos h,wk Zh]
    · rw [if_neg h,wk Zh]
theorem Aid (a:Int) (m:Nat) (ha:0<=a) (hm:0 < m):∃ q:Nat,Int.tmod a (m:Int)=q/\q < m:=by
 rw [Int.tmod_eq_emod_of_nonneg ha];have h1:=Int.emod_nonneg a (show (m:Int)≠0 by omega);have h2:=Int.emod_lt_of_pos a (show (0:Int) < m by omega);exact ⟨(a % m).toNat,Zh,Zh⟩
end Go.Proofs.YtdkldlbgcfpglaaGreatDoor
namespace Go.Proofs.YtdkldlbgcfpglaaGreatDoor
open Go Go.QF
set_option maxRecDepth 100000
set_option maxHeartbeats 4000000
def ALy (fuel:Nat) (a3:LiI) (Ab:Int):Option ((Int) ⊕ ((Bool) ⊕ (Unit))):=
  (if Ab < (a3.length:Int) then ((gI a3 Ab).bind fun Ac=>((gI a3 0).bind fun Ad=>(if ¬ (Ac.length:Int)=(Ad.length:Int) then (some (Sum.inr<| Sum.inl <| false)) else (some (Sum.inl (w64 (Ab + 1))))))) else (some (Sum.inr<| Sum.inr <| ())))
def AFt (fuel:Nat) (a3:LiI):Option Bool:=
  (((if (a3.length:Int) < 1 then (some (Sum.inl <| false)) else (if 16 < (a3.length:Int) then (some (Sum.inl <| false)) else ((gI a3 0).bind fun Ab=>(if (Ab.length:Int) < 1 then (some (Sum.inl <| false)) else (if 16 < (Ab.length:Int) then (some (Sum.inl <| false)) else (some (Sum.inr <| ()))))))):Option ((Bool) ⊕ (Unit))).bind (fun ex=>match ex with | Sum.inl Ac=>(some Ac) | Sum.inr (_)=>((iter (fun s=>ALy fuel a3 s) fuel 0).bind (fun ex=>match ex with | Sum.inl Ad=>(some Ad) | Sum.inr (_)=>(some true)))))
theorem ALz {fuel:Nat} {h:Zu} {Ao:Value} {a3:LiI} {r:Bool} (H2:AC5 (cI .i64) h Ao a3) (hp:AFt fuel a3=some r):AAv Tryz.prog 85 #[Ao] h (fun x h'=>Ext h h'/\x= .bool r):=by
 unfold AFt at hp;refine cwf (l:=[_]) Tryz.func85 rfl rfl (Zn (Zt ?_));have K0:=Kst.k0 h;obtain ⟨Az,Ap,Ac⟩:=Zp hp;refine AKb 134217700 (fun x:Unit=>[]) (fun x h'=>(Sum.inr <| ())=Az/\Kst h h' (K0.L)) ?_ ?_
 ·refine Zn (Zj (AA8 AAf rfl H2 (AAu rfl rfl (Zj ?_))));by_cases Af:(a3.length:Int) < 1
  ·rw [decide_eq_true Af];refine ADe 8 true (Z4 rfl (Zj (ADq 13 true (Z4 rfl (Zj (ADq 20 true (Z4 rfl (Zr (AAr rfl (Zn (Zt ?_)))))))))));obtain rfl:=Zl (ifT Ap Af);refine Zw (AAc ?_);obtain rfl:=Zl Ac;exact ⟨_,Zy,K0.x,rfl⟩
  ·have Aq:=ifF Ap Af;rw [decide_eq_false Af];refine AAb 8 false (Zj (AAb 8 false (AA8 AAf rfl H2 (AAb 8 false (AGb rfl rfl (Zz rfl (Zj ?_)))))));by_cases Ag:16 < (a3.length:Int)
   ·rw [decide_eq_true Ag];refine ADq 13 true (Z4 rfl (Zj (ADq 20 true (Z4 rfl (Zr (AAr rfl (Zn (Zt ?_))))))));obtain rfl:=Zl (ifT Aq Ag);refine Zw (AAc ?_);obtain rfl:=Zl Ac;exact ⟨_,Zy,K0.x,rfl⟩
   ·rw [decide_eq_false Ag];refine AAb 13 false (Zj (AAb 13 false ?_));obtain ⟨A3,Ar,Au⟩:=Zp (ifF Aq Ag);refine AS2 AAf rfl H2 rfl Ar fun Bf Bg Bh A4 A5=>AAb 13 false (AA7 AA2 rfl (AAx A4 K0.x) (AAb 13 false (ABm AAg rfl A5 (AAb 13 false (AAu rfl rfl (Zz rfl (Zj ?_)))))));by_cases Ah:(A3.length:Int) < 1
    ·rw [decide_eq_true Ah];refine ADq 20 true (Z4 rfl (Zr (AAr rfl (Zn (Zt ?_)))));obtain rfl:=Zl (ifT Au Ah);refine Zw (AAc ?_);obtain rfl:=Zl Ac;exact ⟨_,Zy,K0.x,rfl⟩
    ·have Av:=ifF Au Ah;rw [decide_eq_false Ah];refine AAb 20 false (Zj (AAb 20 false (AS2 AAf rfl H2 rfl Ar fun Bi Bj Bl A6 A7=>AAb 20 false (AA7 AA2 rfl (AAx A6 K0.x) (AAb 20 false (ABm AAg rfl A7 (AAb 20 false (AGb rfl rfl (Zz rfl (Zr (⟨_,rfl,fun Ai=>?_,fun Ai=>?_⟩)))))))))))
     ·refine Zn (Zt ?_);obtain rfl:=Zl (AA5 Av Ai);refine Zw (AAc ?_);obtain rfl:=Zl Ac;exact ⟨_,Zy,K0.x,rfl⟩
     ·refine Zv (q_t ?_);exact ⟨(():Unit),⟨Zl (AA6 Av Ai),K0⟩,trivial⟩
 rintro ⟨⟩ Bm Bn ⟨A8,Aw⟩;subst A8;refine Zo (Zn (Zj (AA8 AAf rfl H2 (Zj (Zr (Zs (AG4 2198486384660 Ac (fun x=>[(29,(.int .i64 x))]) (fun x=>Aw.L) Aw ⟨rfl,trivial⟩ ?_)))))));rintro Bo Bp Bq Br Ad Aj Ax;unfold ALy at Aj;refine Zn (AAu rfl rfl (Zr (Zo (⟨_,rfl,fun Ak=>?_,fun Ak=>?_⟩))))
 ·refine Zv (q_t (Zo (Zs (Zn ?_))));obtain ⟨Bt,A9,Ba⟩:=Zp (AA5 Aj Ak);refine AGs AAf AA2 H2 Ad.x A9 fun _ Bu Bb=>AA4 (Zj (ABm AAg rfl Bb (Zj ?_)));obtain ⟨Bv,Bc,Ay⟩:=Zp Ba;refine AGs AAf AA2 H2 Ad.x Bc fun _ Bw Be=>ABm AAg rfl Be (ACk rfl rfl (Zr (⟨_,rfl,fun Am=>?_,fun Am=>?_⟩)))
  ·refine Zn (Zt (Zw (ABi (AAc (AAc (ABi (AAc ?_)))))));obtain rfl:=Zl (Ax _ (Zl (AA5 Ay Am)).symm);exact ⟨_,Zy,Ad.x,rfl⟩
  ·refine Zv (q_b (q_t (AAa (AA0 rfl rfl (Zj (Zr ?_))))));exact ⟨_,(Zl (AA6 Ay Am)).symm,Ad,rfl,trivial⟩
 ·refine AAh (AAi (AAi (ABj (q_t (Zn (Zt (Zw ?_)))))));obtain rfl:=Zl (Ax _ (Zl (AA6 Aj Ak)).symm);exact ⟨_,Zy,Ad.x,rfl⟩
def AFu (fuel:Nat) (a3:LiI):Option Bool:=
  ((AFt fuel a3).bind fun x5=>(if x5=true then ((gI a3 0).bind fun Ac=>(if (a3.length:Int)=(Ac.length:Int) then (some (decide ((a3.length:Int)<=8))) else (some false))) else (some false)))
theorem ARl {fuel:Nat} {h:Zu} {Ae:Value} {a3:LiI} {r:Bool} (H2:AC5 (cI .i64) h Ae a3) (hp:AFu fuel a3=some r):AAv Tryz.prog 122 #[Ae] h (fun x h'=>Ext h h'/\x= .bool r):=by
 unfold AFu at hp;refine cwf (l:=[_]) Tryz.func122 rfl rfl (Zn (AA4 (Zj ?_)));have K0:=Kst.k0 h;obtain ⟨x5,Ak,Ag⟩:=Zp hp;refine ACl K0 (ALz (H2.ext K0.x) Ak) fun h9 E8 Ab=>Zj ?_;cases Ah:x5
 ·refine ADq 5 false (AGz 5 false (Zz rfl (Zj (ADe 14 false (Zz rfl (Zt (Zw ?_)))))));obtain rfl:=Zl (AF9 Ag Ah);exact ⟨_,Zy,Ab.x,rfl⟩
 ·refine AAb 5 true (Zj (AAb 5 true (AA8 AAf rfl H2 (AAb 5 true (Zj (AAb 5 true ?_))))));obtain ⟨Am,Ao,Ai⟩:=Zp (ifT Ag Ah);refine AS2 AAf rfl H2 rfl Ao fun Av Aw Ax Ap Aq=>AAb 5 true (AA7 AA2 rfl (AAx Ap Ab.x) (AAb 5 true (ABm AAg rfl Aq (AAb 5 true (AB2 rfl rfl (Z4 rfl (Zj ?_)))))));by_cases Ac:(a3.length:Int)=(Am.length:Int)
  ·rw [decide_eq_true Ac];refine AAb 14 true (Zj (AAb 14 true (AA8 AAf rfl H2 (AAb 14 true (AWp rfl rfl (Z4 rfl (Zt (Zw ?_))))))));obtain rfl:=Zl (ifT Ai Ac);exact ⟨_,Zy,Ab.x,rfl⟩
  ·rw [decide_eq_false Ac];refine ADe 14 false (Zz rfl (Zt (Zw ?_)));obtain rfl:=Zl (ifF Ai Ac);exact ⟨_,Zy,Ab.x,rfl⟩
def ABs (fuel:Nat) (a1:Int):Option Int:=
  (if a1 < 2 then (some 1) else (if 2147483647 < a1 then (some 1) else (some 0)))
theorem AGv {fuel:Nat} {h:Zu} {a1 r:Int} (hp:ABs fuel a1=some r):AAv Tryz.prog 86 #[(.int .i64 a1)] h (fun x h'=>Ext h h'/\x= .int .i64 r):=by
 unfold ABs at hp;refine cwf (l:=[_]) Tryz.func86 rfl rfl (Zn (Zt (Zo (Zn (Zj (AAu rfl rfl (Zj ?_)))))));have K0:=Kst.k0 h;by_cases Aa:a1 < 2
 ·rw [decide_eq_true Aa];refine AGz 5 true (Z4 rfl (Zr (AAr rfl (Zn (Zt (Zw (AAc ?_)))))));obtain rfl:=Zl (ifT hp Aa);exact ⟨_,Zy,K0.x,rfl⟩
 ·have Ae:=ifF hp Aa;rw [decide_eq_false Aa];refine AAb 5 false (Zj (AAb 5 false (AGb rfl rfl (Zz rfl (Zr (⟨_,rfl,fun Ad=>?_,fun Ad=>?_⟩))))))
  ·refine Zn (Zt (Zw (AAc ?_)));obtain rfl:=Zl (AA5 Ae Ad);exact ⟨_,Zy,K0.x,rfl⟩
  ·refine Zv (q_t (Zn (Zt (Zw ?_))));obtain rfl:=Zl (AA6 Ae Ad);exact ⟨_,Zy,K0.x,rfl⟩
def AJb (fuel:Nat) (a5 Ad:Int) (Ae:LiA) (Ab:Int) (Ac:LiI):Option ((Int × LiI) ⊕ ((LiI))):=
  (if Ab < (Ae.length:Int) then ((gI Ae Ab).bind fun Ag=>((gI Ac Ad).bind fun Af=>(if a5≠0 then (if a5≠0 then ((gI Af Ab).bind fun Ah=>(some (Sum.inl ((w64 (Ab + 1)),(sI Ac Ad (sI Af Ab (Int.tmod (w64 ((Int.tmod Ag a5) + a5)) a5))))))) else none) else none))) else (some (Sum.inr<| Ac)))
def AJc (fuel:Nat) (a3:LiI) (a5 Aa:Int) (Ac:LiI):Option ((Int × LiI) ⊕ ((LiI))):=
  (if Aa < (a3.length:Int) then ((gI a3 Aa).bind fun Ab=>(if 0<=(Ab.length:Int)/\(Ab.length:Int)<=100000000 then ((gI Ac Aa).bind fun Ag=>((iter (fun s=>AJb fuel a5 Aa Ab s.1 s.2) fuel (0,(sI Ac Aa (List.replicate (Int.toNat (Ab.length:Int)) (0:Int))))).bind (fun (Af:LiI)=>(some (Sum.inl ((w64 (Aa + 1)),Af)))))) else none)) else (some (Sum.inr<| Ac)))
def ACo (fuel:Nat) (a3:LiI) (a5:Int):Option LiI:=
  (if 0<=(a3.length:Int)/\(a3.length:Int)<=100000000 then ((iter (fun s=>AJc fuel a3 a5 s.1 s.2) fuel (0,(List.replicate (Int.toNat (a3.length:Int)) ([]:List Int)))).bind (fun (Ac:LiI)=>(some Ac))) else none)
theorem AG1 {fuel:Nat} {h:Zu} {Ao:Value} {a3:LiI} {a5:Int} {r:LiI} (H2:AC5 (cI .i64) h Ao a3) (hp:ACo fuel a3 a5=some r):AAv Tryz.prog 87 #[Ao,(.int .i64 a5)] h (fun x h'=>Ext h h'/\ ∃ (x0:Value) (F0:List Nat) (A3:List LnA) (A4:List Value),x=x0/\ACs (cI .i64) 60 2 h' F0 A3 A4 x0 r/\Sp h' h.size [F0]):=by
 unfold ACo at hp;refine cwf (l:=[_,_]) Tryz.func87 rfl rfl (Zn (AA4 (Zj (AA8 AAf rfl H2 ?_))));obtain ⟨A5,A6⟩:=ifN hp;refine AR7 (cI .i64) 2 AAf AMd rfl trivial tt2 rfl rfl Zk A5 fun A7 A8 A9 Au Ce Ba E8 S9=>Zt (Zo (Zn (Zj (AA8 AAf rfl H2 (Zj (Zr (Zs ?_)))))));have Av:=(Kst.k0 h).no2 E8 S9 Ba;refine AFj 281474976678848 (fun x:(Int) × (LiI) × LnA × LnN × LvA=>(x.1,x.2.1)) ((0,(List.replicate (Int.toNat (a3.length:Int)) ([]:List Int)),A7,A8,A9):(Int) × (LiI) × LnA × LnN × LvA) A6 (fun x=>[(15,(.int .i64 x.1))]) (fun x=>Av.L.set 0 (aO2 (cI .i64) 60 2 x.2.2.1 x.2.2.2.1 x.2.2.2.2 Au x.2.1)) Av ⟨rfl,trivial⟩ ?_;rintro ⟨Aa,Be,Cf,Aw,Bf⟩ Cg Ch Ci Ab Ag Bg;unfold AJc at Ag;refine Zn (AAu rfl rfl (Zr (Zo (⟨_,rfl,fun Ah=>?_,fun Ah=>?_⟩))))
 ·refine Zv (q_t (Zo (Zs (Zn (Zj ?_)))));obtain ⟨Bh,Bi,Bj⟩:=Zp (AA5 Ag Ah);refine AGs AAf AA2 H2 Ab.x Bi fun _ Cj Ai=>AAl (AA4 (Zj (Zj (Zj (ABm AAg rfl Ai ?_)))));obtain ⟨Bl,Bm⟩:=ifN Bj;refine AP6 (c:=(cI .i64)) (a:=0) AAg AIu rfl rfl (fun _=>rfl) rfl trivial tt2 rfl rfl Zk Bl fun Ax Bn Ck Bo Bp Bq Br=>?_;have Ac:=Ab.no Bp (AE5 Bq Br) Bo;obtain ⟨Cm,Ay,Bt⟩:=Zp Bm;refine AC2 AAf rfl (Ac.o2 p1) rfl Ay fun Bu Cn Bv Co Cp=>AR6 AA2 (Ac.o2 p1) Ay Bv rfl rfl (Ac.o p0) (Ac.dj p0 p1 Zk) fun Cq Bw Bx By=>AH7 (Zj (ABm AAg rfl Ai (Zj (Zr (Zs ?_)))));have Aj:=(Ac.m2 p0 p1 Zk Bx Bw (fun z hz=> .inl (By z hz))).sel [1] Zk;dsimp only [AHa,AKo] at Aj;refine AFj 140737219920640 (fun x:(Int) × (LiI) × LnA × LnN × LvA=>(x.1,x.2.1)) ((0,(sI Be Aa (List.replicate (Int.toNat (Bh.length:Int)) (0:Int))),(Bu :: (Aw.set (Int.toNat Aa) [Ax]).flatten),(Aw.set (Int.toNat Aa) [Ax]),(Bf.set (Int.toNat Aa) Bn)):(Int) × (LiI) × LnA × LnN × LvA) Bt (fun x=>[(28,(.int .i64 x.1))]) (fun x=>Aj.L.set 0 (aO2 (cI .i64) 60 2 x.2.2.1 x.2.2.2.1 x.2.2.2.2 Au x.2.1)) Aj ⟨rfl,trivial⟩ ?_;rintro ⟨Cr,Ct,Cu,Cv,Cw⟩ Cx Cy Cz Ad Ak Bz;unfold AJb at Ak;refine Zn (AAu rfl rfl (Zr (Zo (⟨_,rfl,fun Am=>?_,fun Am=>?_⟩))))
  ·refine Zv (q_t (Zo (Zs (Zn (Zj ?_)))));obtain ⟨C0,B1,B3⟩:=Zp (AA5 Ak Am);refine AUi AAg AAk Ai Ad.x B1 fun _=>(AAl (Zt (AF8 (Zj (Zj ?_)))));obtain ⟨C1,Az,B4⟩:=Zp B3;refine ABy AAf AA2 (Ad.o2 p0) Az fun _ C2 B5=>Zj (Zj (Zj ?_));obtain ⟨B6,B7⟩:=ifN B4;refine ADc rfl rfl B6 (Zj (AA0 rfl rfl (Zj ?_)));obtain ⟨B8,B9⟩:=ifN B7;refine ADc rfl rfl B8 ?_;obtain ⟨C3,Ca,Cb⟩:=Zp B9;refine ALj (m:=Aa) Ad p0 AAg AAk B5 Az Ca (fun _=>rfl) fun _ C4 Cd=>AAn (q_b (q_t (AAa (AA0 rfl rfl (Zj (Zr ?_))))));exact ⟨(_,_,_,_,_),(Zl Cb).symm,Cd,rfl,trivial⟩
  ·refine AAh (AAi (AAi (ABj (q_b (q_t (AAa (AA0 rfl rfl (Zj (Zr ?_)))))))));exact ⟨(_,_,_,_,_),(Zl (Bz _ (Zl (AA6 Ak Am)).symm)).symm,Ad,rfl,trivial⟩
 ·refine AAh (AAi (AAi (ABj (q_t (Zn (Zj (Zt (Zw ?_))))))));obtain rfl:=Zl (Bg _ (Zl (AA6 Ag Ah)).symm);exact ⟨_,Zy,Ab.x,_,_,_,_,rfl,(Ab.o2 p0),Ab.s.sel [0] Zk⟩
def AIg (fuel:Nat) (a3:LiI) (Ab Aa:Int) (Ac:LiI):Option ((Int × LiI) ⊕ ((LiI))):=
  (if Aa < (a3.length:Int) then ((gI a3 Aa).bind fun Af=>((gI Ac Ab).bind fun Ae=>((gI Af Ab).bind fun Ag=>((gI Ae Aa).bind fun Ah=>(some (Sum.inl ((w64 (Aa + 1)),(sI Ac Ab (sI Ae Aa Ag))))))))) else (some (Sum.inr<| Ac)))
def AIh (fuel:Nat) (a3:LiI) (x5:LiA) (Aa:Int) (Ac:LiI):Option ((Int × LiI) ⊕ ((LiI))):=
  (if Aa < ((List.replicate (Int.toNat (x5.length:Int)) ([]:List Int)).length:Int) then (if 0<=(a3.length:Int)/\(a3.length:Int)<=100000000 then ((gI Ac Aa).bind fun Af=>((iter (fun s=>AIg fuel a3 Aa s.1 s.2) fuel (0,(sI Ac Aa (List.replicate (Int.toNat (a3.length:Int)) (0:Int))))).bind (fun (Ae:LiI)=>(some (Sum.inl ((w64 (Aa + 1)),Ae)))))) else none) else (some (Sum.inr<| Ac)))
def AH5 (fuel:Nat) (a3:LiI):Option LiI:=
  ((gI a3 0).bind fun x5=>(if 0<=(x5.length:Int)/\(x5.length:Int)<=100000000 then ((iter (fun s=>AIh fuel a3 x5 s.1 s.2) fuel (0,(List.replicate (Int.toNat (x5.length:Int)) ([]:List Int)))).bind (fun (Ac:LiI)=>(some Ac))) else none))
theorem AUd {fuel:Nat} {h:Zu} {Ao:Value} {a3 r:LiI} (H2:AC5 (cI .i64) h Ao a3) (hp:AH5 fuel a3=some r):AAv Tryz.prog 125 #[Ao] h (fun x h'=>Ext h h'/\ ∃ (x0:Value) (F0:List Nat) (Az:List LnA) (A3:List Value),x=x0/\ACs (cI .i64) 60 2 h' F0 Az A3 x0 r/\Sp h' h.size [F0]):=by
 unfold AH5 at hp;refine cwf (l:=[_]) Tryz.func125 rfl rfl (Zn (AA4 (Zj ?_)));have K0:=Kst.k0 h;obtain ⟨x5,A5,A6⟩:=Zp hp;refine AGs AAf AA2 H2 K0.x A5 fun _ r8 H9=>ABm AAg rfl H9 ?_;obtain ⟨A8,A9⟩:=ifN A6;refine AR7 (cI .i64) 2 AAf AMd rfl trivial tt2 rfl rfl Zk A8 fun Ba Bb Bc Au Ce Be Bf Bg=>Zt (Zo (Zn (Zj ?_)));have Ag:=K0.no2 Bf Bg Be;refine AA8 AAf rfl (Ag.o2 p0).rd (Zj (Zr (Zs (AFj 4398046494832 (fun x:(Int) × (LiI) × LnA × LnN × LvA=>(x.1,x.2.1)) ((0,(List.replicate (Int.toNat (x5.length:Int)) ([]:List Int)),Ba,Bb,Bc):(Int) × (LiI) × LnA × LnN × LvA) A9 (fun x=>[(14,(.int .i64 x.1))]) (fun x=>Ag.L.set 0 (aO2 (cI .i64) 60 2 x.2.2.1 x.2.2.2.1 x.2.2.2.2 Au x.2.1)) Ag ⟨rfl,trivial⟩ ?_))));rintro ⟨Aa,Bh,Cf,Av,Bi⟩ Cg Ch Ci Ae Ah Bj;unfold AIh at Ah;refine Zn (AAu rfl rfl (Zr (Zo (⟨_,rfl,fun Ai=>?_,fun Ai=>?_⟩))))
 ·refine Zv (q_t (Zo (Zs (Zn (Zj (AA4 (Zj (Zj (Zj (AA8 AAf rfl H2 ?_))))))))));obtain ⟨Bl,Bm⟩:=ifN (AA5 Ah Ai);refine AP6 (c:=(cI .i64)) (a:=0) AAg AIu rfl rfl (fun _=>rfl) rfl trivial tt2 rfl rfl Zk Bl fun Aw Bn Cj Bo Bp Bq Br=>?_;have Ab:=Ae.no Bp (AE5 Bq Br) Bo;obtain ⟨Ck,Ax,Bt⟩:=Zp Bm;refine AC2 AAf rfl (Ab.o2 p1) rfl Ax fun Bu Cm Bv Cn Co=>AR6 AA2 (Ab.o2 p1) Ax Bv rfl rfl (Ab.o p0) (Ab.dj p0 p1 Zk) fun Cp Bw Bx By=>AH7 (Zj (AA8 AAf rfl H2 (Zj (Zr (Zs ?_)))));have Aj:=(Ab.m2 p0 p1 Zk Bx Bw (fun z hz=> .inl (By z hz))).sel [1] Zk;dsimp only [AHa,AKo] at Aj;refine AFj 2198989701216 (fun x:(Int) × (LiI) × LnA × LnN × LvA=>(x.1,x.2.1)) ((0,(sI Bh Aa (List.replicate (Int.toNat (a3.length:Int)) (0:Int))),(Bu :: (Av.set (Int.toNat Aa) [Aw]).flatten),(Av.set (Int.toNat Aa) [Aw]),(Bi.set (Int.toNat Aa) Bn)):(Int) × (LiI) × LnA × LnN × LvA) Bt (fun x=>[(25,(.int .i64 x.1))]) (fun x=>Aj.L.set 0 (aO2 (cI .i64) 60 2 x.2.2.1 x.2.2.2.1 x.2.2.2.2 Au x.2.1)) Aj ⟨rfl,trivial⟩ ?_;rintro ⟨Cq,Cr,Ct,Cu,Cv⟩ Cw Cx Cy Ac Ak Bz;unfold AIg at Ak;refine Zn (AAu rfl rfl (Zr (Zo (⟨_,rfl,fun Am=>?_,fun Am=>?_⟩))))
  ·refine Zv (q_t (Zo (Zs (Zn (Zj ?_)))));obtain ⟨Cz,B1,B3⟩:=Zp (AA5 Ak Am);refine AGs AAf AA2 H2 Ac.x B1 fun _ C0 B4=>AAl (Zt (AF8 (Zj (Zj ?_))));obtain ⟨C1,Ay,B5⟩:=Zp B3;refine ABy AAf AA2 (Ac.o2 p0) Ay fun _ C2 B6=>Zj (Zj (Zj ?_));obtain ⟨C3,B7,B8⟩:=Zp B5;refine AUi AAg AAk B4 Ac.x B7 fun _=>?_;obtain ⟨C4,B9,Ca⟩:=Zp B8;refine ALj (m:=Aa) Ac p0 AAg AAk B6 Ay B9 (fun _=>rfl) fun _ C5 Cb=>AAn (q_b (q_t (AAa (AA0 rfl rfl (Zj (Zr ?_))))));exact ⟨(_,_,_,_,_),(Zl Ca).symm,Cb,rfl,trivial⟩
  ·refine AAh (AAi (AAi (ABj (q_b (q_t (AAa (AA0 rfl rfl (Zj (Zr ?_)))))))));exact ⟨(_,_,_,_,_),(Zl (Bz _ (Zl (AA6 Ak Am)).symm)).symm,Ac,rfl,trivial⟩
 ·refine AAh (AAi (AAi (ABj (q_t (Zn (Zj (Zt (Zw ?_))))))));obtain rfl:=Zl (Bj _ (Zl (AA6 Ah Ai)).symm);exact ⟨_,Zy,Ae.x,_,_,_,_,rfl,(Ae.o2 p0),Ae.s.sel [0] Zk⟩
def AJ5 (fuel:Nat) (a9 Ad Ag:Int) (Ae:LiA) (Aa:Int) (Ab:LiI):Option ((Int × LiI) ⊕ ((LiI))):=
  (if Aa < (Ae.length:Int) then ((gI Ae Aa).bind fun Ah=>((gI Ab Ad).bind fun Af=>((gI Af Aa).bind fun Ai=>(if a9≠0 then (some (Sum.inl ((w64 (Aa + 1)),(sI Ab Ad (sI Af Aa (Int.tmod (w64 (Ai + (w64 (Ag * Ah)))) a9)))))) else none)))) else (some (Sum.inr<| Ab)))
def AJ6 (fuel:Nat) (a7:LiI) (a9 Af:Int) (Ab:LiA) (Aa:Int) (Ac:LiI):Option ((Int × LiI) ⊕ ((LiI))):=
  (if Aa < (Ab.length:Int) then ((gI Ab Aa).bind fun Ag=>((gI a7 Aa).bind fun Ah=>((iter (fun s=>AJ5 fuel a9 Af Ag Ah s.1 s.2) fuel (0,Ac)).bind (fun (Ai:LiI)=>(some (Sum.inl ((w64 (Aa + 1)),Ai))))))) else (some (Sum.inr<| Ac)))
def AJ7 (fuel:Nat) (a3 a7:LiI) (a9 Aa:Int) (Ab:LiI):Option ((Int × LiI) ⊕ ((LiI))):=
  (if Aa < (a3.length:Int) then ((gI a3 Aa).bind fun Ag=>((gI a7 0).bind fun Ac=>(if 0<=(Ac.length:Int)/\(Ac.length:Int)<=100000000 then ((gI Ab Aa).bind fun Ai=>((iter (fun s=>AJ6 fuel a7 a9 Aa Ag s.1 s.2) fuel (0,(sI Ab Aa (List.replicate (Int.toNat (Ac.length:Int)) (0:Int))))).bind (fun (Ah:LiI)=>(some (Sum.inl ((w64 (Aa + 1)),Ah)))))) else none))) else (some (Sum.inr<| Ab)))
def AHp (fuel:Nat) (a3 a7:LiI) (a9:Int):Option LiI:=
  (if 0<=(a3.length:Int)/\(a3.length:Int)<=100000000 then ((iter (fun s=>AJ7 fuel a3 a7 a9 s.1 s.2) fuel (0,(List.replicate (Int.toNat (a3.length:Int)) ([]:List Int)))).bind (fun (Ad:LiI)=>(some Ad))) else none)
theorem APz {fuel:Nat} {h:Zu} {Au:Value} {a3:LiI} {Av:Value} {a7:LiI} {a9:Int} {r:LiI} (H2:AC5 (cI .i64) h Au a3) (H6:AC5 (cI .i64) h Av a7) (hp:AHp fuel a3 a7 a9=some r):AAv Tryz.prog 124 #[Au,Av,(.int .i64 a9)] h (fun x h'=>Ext h h'/\ ∃ (x0:Value) (F0:List Nat) (Bb:List LnA) (Bc:List Value),x=x0/\ACs (cI .i64) 60 2 h' F0 Bb Bc x0 r/\Sp h' h.size [F0]):=by
 unfold AHp at hp;refine cwf (l:=[_,_,_]) Tryz.func124 rfl rfl (Zn (AA4 (Zj (AA8 AAf rfl H2 ?_))));obtain ⟨Be,Bf⟩:=ifN hp;refine AR7 (cI .i64) 2 AAf AMd rfl trivial tt2 rfl rfl Zk Be fun Bg Bh Bi Ai Cy Bj Bl Bm=>Zt (Zo (Zn (Zj (AA8 AAf rfl H2 (Zj (Zr (Zs ?_)))))));have A4:=(Kst.k0 h).no2 Bl Bm Bj;refine AFj 2361183241434822098688 (fun x:(Int) × (LiI) × LnA × LnN × LvA=>(x.1,x.2.1)) ((0,(List.replicate (Int.toNat (a3.length:Int)) ([]:List Int)),Bg,Bh,Bi):(Int) × (LiI) × LnA × LnN × LvA) Bf (fun x=>[(19,(.int .i64 x.1))]) (fun x=>A4.L.set 0 (aO2 (cI .i64) 60 2 x.2.2.1 x.2.2.2.1 x.2.2.2.2 Ai x.2.1)) A4 ⟨rfl,trivial⟩ ?_;rintro ⟨Aa,Bn,Cz,A5,Bo⟩ C0 C1 C2 Ab Aj Bp;unfold AJ7 at Aj;refine Zn (AAu rfl rfl (Zr (Zo (⟨_,rfl,fun Ak=>?_,fun Ak=>?_⟩))))
 ·refine Zv (q_t (Zo (Zs (Zn (Zj ?_)))));obtain ⟨C3,Bq,Br⟩:=Zp (AA5 Aj Ak);refine AGs AAf AA2 H2 Ab.x Bq fun _ C4 A6=>AAl (AA4 (Zj (Zj (Zj ?_))));obtain ⟨Bt,Bu,Bv⟩:=Zp Br;refine AGs AAf AA2 H6 Ab.x Bu fun _ C5 Bw=>ABm AAg rfl Bw ?_;obtain ⟨Bx,By⟩:=ifN Bv;refine AP6 (c:=(cI .i64)) (a:=0) AAg AIu rfl rfl (fun _=>rfl) rfl trivial tt2 rfl rfl Zk Bx fun A7 Bz C6 B1 B3 B4 B5=>?_;have Ad:=Ab.no B3 (AE5 B4 B5) B1;obtain ⟨C7,A8,B6⟩:=Zp By;refine AC2 AAf rfl (Ad.o2 p1) rfl A8 fun B7 C8 B8 C9 Da=>AR6 AA2 (Ad.o2 p1) A8 B8 rfl rfl (Ad.o p0) (Ad.dj p0 p1 Zk) fun Db B9 Ca Cb=>AH7 (Zj (ABm AAg rfl A6 (Zj (Zr (Zs ?_)))));have Am:=(Ad.m2 p0 p1 Zk Ca B9 (fun z hz=> .inl (Cb z hz))).sel [1] Zk;dsimp only [AHa,AKo] at Am;refine AFj 1180591620700231449600 (fun x:(Int) × (LiI) × LnA × LnN × LvA=>(x.1,x.2.1)) ((0,(sI Bn Aa (List.replicate (Int.toNat (Bt.length:Int)) (0:Int))),(B7 :: (A5.set (Int.toNat Aa) [A7]).flatten),(A5.set (Int.toNat Aa) [A7]),(Bo.set (Int.toNat Aa) Bz)):(Int) × (LiI) × LnA × LnN × LvA) B6 (fun x=>[(34,(.int .i64 x.1))]) (fun x=>Am.L.set 0 (aO2 (cI .i64) 60 2 x.2.2.1 x.2.2.2.1 x.2.2.2.2 Ai x.2.1)) Am ⟨rfl,trivial⟩ ?_;rintro ⟨Dc,Cd,Ce,Cf,Cg⟩ Dd De Df Ae Ao Ch;unfold AJ6 at Ao;refine Zn (AAu rfl rfl (Zr (Zo (⟨_,rfl,fun Ap=>?_,fun Ap=>?_⟩))))
  ·refine Zv (q_t (Zo (Zs (Zn (Zj ?_)))));obtain ⟨Dg,Ci,Cj⟩:=Zp (AA5 Ao Ap);refine AUi AAg AAk A6 Ae.x Ci fun _=>(AAl (AA4 (Zj (Zj ?_))));obtain ⟨Dh,Ck,Cm⟩:=Zp Cj;refine AGs AAf AA2 H6 Ae.x Ck fun _ Di A9=>ABm AAg rfl A9 (Zj (Zr (Zs (AFj 590295792766519619584 (fun x:(Int) × (LiI) × LnA × LnN × LvA=>(x.1,x.2.1)) ((0,Cd,Ce,Cf,Cg):(Int) × (LiI) × LnA × LnN × LvA) Cm (fun x=>[(44,(.int .i64 x.1))]) (fun x=>Ae.L.set 0 (aO2 (cI .i64) 60 2 x.2.2.1 x.2.2.2.1 x.2.2.2.2 Ai x.2.1)) Ae ⟨rfl,trivial⟩ ?_))));rintro ⟨Dj,Dk,Dl,Do,Dp⟩ Dq Dr Ds Ac Aq Cn;unfold AJ5 at Aq;refine Zn (AAu rfl rfl (Zr (Zo (⟨_,rfl,fun Ar=>?_,fun Ar=>?_⟩))))
   ·refine Zv (q_t (Zo (Zs (Zn (Zj ?_)))));obtain ⟨Dt,Co,Cp⟩:=Zp (AA5 Aq Ar);refine AUi AAg AAk A9 Ac.x Co fun _=>(AAl (Zt (AF8 (Zj (Zj ?_)))));obtain ⟨Du,Af,Cq⟩:=Zp Cp;refine ABy AAf AA2 (Ac.o2 p0) Af fun _ Dv Cr=>Zj (Zj (Zj (ABy AAf AA2 (Ac.o2 p0) Af fun _ Dw Ct=>Zj ?_)));obtain ⟨Dx,Ba,Cu⟩:=Zp Cq;refine AIs (m:=Aa) AAg AAk (Ac.o2 p0) Ct Af Ba fun _=>(Zj (Zj (AL3 rfl rfl (AA0 rfl rfl (Zj ?_)))));obtain ⟨Cv,Cw⟩:=ifN Cu;refine ADc rfl rfl Cv (ALj (m:=Aa) Ac p0 AAg AAk Cr Af Ba (fun _=>rfl) fun _ Dy Cx=>AAn (q_b (q_t (AAa (AA0 rfl rfl (Zj (Zr ?_)))))));exact ⟨(_,_,_,_,_),(Zl Cw).symm,Cx,rfl,trivial⟩
   ·refine AAh (AAi (AAi (ABj (q_b (q_t (AAa (AA0 rfl rfl (Zj (Zr ?_)))))))));exact ⟨(_,_,_,_,_),(Zl (Cn _ (Zl (AA6 Aq Ar)).symm)).symm,Ac,rfl,trivial⟩
  ·refine AAh (AAi (AAi (ABj (q_b (q_t (AAa (AA0 rfl rfl (Zj (Zr ?_)))))))));exact ⟨(_,_,_,_,_),(Zl (Ch _ (Zl (AA6 Ao Ap)).symm)).symm,Ae,rfl,trivial⟩
 ·refine AAh (AAi (AAi (ABj (q_t (Zn (Zj (Zt (Zw ?_))))))));obtain rfl:=Zl (Bp _ (Zl (AA6 Aj Ak)).symm);exact ⟨_,Zy,Ab.x,_,_,_,_,rfl,(Ab.o2 p0),Ab.s.sel [0] Zk⟩
def AI4 (fuel:Nat) (a3:LiI) (a5:Int):Option (LiI × Int):=
  ((AFt fuel a3).bind fun x6=>(if (!x6)=true then (some ([],3)) else ((ABs fuel a5).bind fun Ac=>(if ¬ Ac=0 then (some ([],Ac)) else ((ACo fuel a3 a5).bind fun Ae=>(some (Ae,0)))))))
theorem AUo {fuel:Nat} {h:Zu} {Ag:Value} {a3:LiI} {a5:Int} {r:(LiI × Int)} (H2:AC5 (cI .i64) h Ag a3) (hp:AI4 fuel a3 a5=some r):AAv Tryz.prog 45 #[Ag,(.int .i64 a5)] h (fun x h'=>Ext h h'/\ ∃ (x0:Value) (F0:List Nat) (Au:List LnA) (Av:List Value),x= .tuple #[x0,.int .i64 r.2]/\ACs (cI .i64) 60 2 h' F0 Au Av x0 r.1/\Sp h' h.size [F0]):=by
 unfold AI4 at hp;refine cwf (l:=[_,_]) Tryz.func45 rfl rfl (Zn (AAl (Zt (Zo (Zn (Zj ?_))))));have K0:=Kst.k0 h;obtain ⟨x6,Aw,Ap⟩:=Zp hp;refine ACl K0 (ALz (H2.ext K0.x) Aw) fun A4 E9 Aq=>ACt rfl (Zr (⟨_,rfl,fun Aa=>?_,fun Aa=>?_⟩))
 ·refine Zn (AAl (Zt (Zw (AAc ?_))));have Ab:=Kst.anil2 (cI .i64) 60 2 Aq;obtain rfl:=Zl (ifT Ap Aa);exact ⟨_,ABf,Ab.x,_,_,_,_,rfl,(Ab.o2 p0),Ab.s.sel [0] Zk⟩
 ·refine Zv (q_t (Zo (Zn (Zj ?_))));obtain ⟨A6,Ax,Ar⟩:=Zp (AF9 Ap Aa);refine ACl Aq (AGv Ax) fun A7 A8 Ac=>AA4 (Zj (ACk rfl rfl (Zr (⟨_,rfl,fun Ad=>?_,fun Ad=>?_⟩))))
  ·refine Zn (Zj (AAl (Zt (Zw (AAc ?_)))));have Ae:=Kst.anil2 (cI .i64) 60 2 Ac;obtain rfl:=Zl (AA5 Ar Ad);exact ⟨_,ABf,Ae.x,_,_,_,_,rfl,(Ae.o2 p0),Ae.s.sel [0] Zk⟩
  ·refine Zv (q_t (Zn (Zj (Zj ?_))));obtain ⟨A9,Ay,Az⟩:=Zp (AA6 Ar Ad);refine AMv Ac (AG1 (H2.ext Ac.x) Ay) fun Ba Bb Bc Be Bf Bg Af=>AAl (Zt (Zw ?_));obtain rfl:=Zl Az;exact ⟨_,ABf,Af.x,_,_,_,_,rfl,(Af.o2 p0),Af.s.sel [0] Zk⟩
def AHg (fuel:Nat) (a3 a7:LiI) (a9:Int):Option (LiI × Int):=
  ((((AFt fuel a3).bind fun Af=>(if (!Af)=true then (some (Sum.inl <| ([],3))) else ((AFt fuel a7).bind fun Ag=>(if (!Ag)=true then (some (Sum.inl <| ([],3))) else ((gI a3 0).bind fun Ah=>(if ¬ (a3.length:Int)=(Ah.length:Int) then (some (Sum.inl <| ([],3))) else (if ¬ (a7.length:Int)=(a3.length:Int) then (some (Sum.inl <| ([],3))) else (some (Sum.inr <| ()))))))))):Option (((LiI × Int)) ⊕ (Unit))).bind (fun ex=>match ex with | Sum.inl Ai=>(some Ai) | Sum.inr (_)=>((ABs fuel a9).bind fun Ad=>(if ¬ Ad=0 then (some ([],Ad)) else ((ACo fuel a7 a9).bind fun Ae=>((AH5 fuel Ae).bind fun Aj=>((ACo fuel a3 a9).bind fun Ak=>((AHp fuel Ak Ae a9).bind fun Am=>((AHp fuel Aj Am a9).bind fun Ao=>(some (Ao,0)))))))))))
theorem ATg {fuel:Nat} {h:Zu} {Ax:Value} {a3:LiI} {Ay:Value} {a7:LiI} {a9:Int} {r:(LiI × Int)} (H2:AC5 (cI .i64) h Ax a3) (H6:AC5 (cI .i64) h Ay a7) (hp:AHg fuel a3 a7 a9=some r):AAv Tryz.prog 75 #[Ax,Ay,(.int .i64 a9)] h (fun x h'=>Ext h h'/\ ∃ (x0:Value) (F0:List Nat) (Bg:List LnA) (Bh:List Value),x= .tuple #[x0,.int .i64 r.2]/\ACs (cI .i64) 60 2 h' F0 Bg Bh x0 r.1/\Sp h' h.size [F0]):=by
 unfold AHg at hp;refine cwf (l:=[_,_,_]) Tryz.func75 rfl rfl (Zn (AAl (Zt ?_)));have K0:=Kst.k0 h;obtain ⟨Bi,Bj,Ab⟩:=Zp hp;refine AKb 17179868352 (fun x:Unit=>[]) (fun x h'=>(Sum.inr <| ())=Bi/\Kst h h' (K0.L)) ?_ ?_
 ·refine Zn (Zj ?_);obtain ⟨Bl,Bm,A6⟩:=Zp Bj;refine ACl K0 (ALz (H2.ext K0.x) Bm) fun B9 Ca Ah=>ACt rfl (Zj ?_);cases A7:(!Bl)
  ·refine AAb 13 false (Zj (AAb 13 false ?_));obtain ⟨Bn,Bo,A8⟩:=Zp (AF9 A6 A7);refine ACl Ah (ALz (H6.ext Ah.x) Bo) fun Cb Cd Ac=>AAb 13 false (ACt rfl (Zz rfl (Zj ?_)));cases A9:(!Bn)
   ·refine AAb 18 false (Zj (AAb 18 false (AA8 AAf rfl H2 (AAb 18 false (Zj (AAb 18 false ?_))))));obtain ⟨Bp,Bq,Ba⟩:=Zp (AF9 A8 A9);refine AS2 AAf rfl H2 rfl Bq fun Ce Cf Cg Br Bt=>AAb 18 false (AA7 AA2 rfl (AAx Br Ac.x) (AAb 18 false (ABm AAg rfl Bt (AAb 18 false (ACk rfl rfl (Zz rfl (Zj ?_)))))));by_cases Ad: ¬ (a3.length:Int)=(Bp.length:Int)
    ·rw [decide_eq_true Ad];refine ADq 27 true (Z4 rfl (Zr (AAr rfl (Zn (AAl (Zt ?_))))));obtain rfl:=Zl (ifT Ba Ad);refine Zw (AAc ?_);have Ai:=Kst.anil2 (cI .i64) 60 2 Ac;obtain rfl:=Zl Ab;exact ⟨_,ABf,Ai.x,_,_,_,_,rfl,(Ai.o2 p0),Ai.s.sel [0] Zk⟩
    ·have Bb:=ifF Ba Ad;rw [decide_eq_false Ad];refine AAb 27 false (Zj (AAb 27 false (AA8 AAf rfl H6 (AAb 27 false (Zj (AAb 27 false (AA8 AAf rfl H2 (AAb 27 false (ACk rfl rfl (Zz rfl (Zr (⟨_,rfl,fun Aj=>?_,fun Aj=>?_⟩))))))))))))
     ·refine Zn (AAl (Zt ?_));obtain rfl:=Zl (AA5 Bb Aj);refine Zw (AAc ?_);have Ak:=Kst.anil2 (cI .i64) 60 2 Ac;obtain rfl:=Zl Ab;exact ⟨_,ABf,Ak.x,_,_,_,_,rfl,(Ak.o2 p0),Ak.s.sel [0] Zk⟩
     ·refine Zv (q_t ?_);exact ⟨(():Unit),⟨Zl (AA6 Bb Aj),Ac⟩,trivial⟩
   ·refine ADq 18 true (AGz 18 true (Z4 rfl (Zj (ADq 27 true (Z4 rfl (Zr (AAr rfl (Zn (AAl (Zt ?_))))))))));obtain rfl:=Zl (ifT A8 A9);refine Zw (AAc ?_);have Am:=Kst.anil2 (cI .i64) 60 2 Ac;obtain rfl:=Zl Ab;exact ⟨_,ABf,Am.x,_,_,_,_,rfl,(Am.o2 p0),Am.s.sel [0] Zk⟩
  ·refine ADe 13 true (Z4 rfl (Zj (ADq 18 true (AGz 18 true (Z4 rfl (Zj (ADq 27 true (Z4 rfl (Zr (AAr rfl (Zn (AAl (Zt ?_)))))))))))));obtain rfl:=Zl (ifT A6 A7);refine Zw (AAc ?_);have Ao:=Kst.anil2 (cI .i64) 60 2 Ah;obtain rfl:=Zl Ab;exact ⟨_,ABf,Ao.x,_,_,_,_,rfl,(Ao.o2 p0),Ao.s.sel [0] Zk⟩
 rintro ⟨⟩ Ch Ci ⟨Bu,Bv⟩;subst Bu;refine Zo (Zn (Zj ?_));obtain ⟨Cj,Bw,Bc⟩:=Zp Ab;refine ACl Bv (AGv Bw) fun Ck Cm Ap=>AA4 (Zj (ACk rfl rfl (Zr (⟨_,rfl,fun Aq=>?_,fun Aq=>?_⟩))))
 ·refine Zn (Zj (AAl (Zt (Zw (AAc ?_)))));have Ar:=Kst.anil2 (cI .i64) 60 2 Ap;obtain rfl:=Zl (AA5 Bc Aq);exact ⟨_,ABf,Ar.x,_,_,_,_,rfl,(Ar.o2 p0),Ar.s.sel [0] Zk⟩
 ·refine Zv (q_t (Zn (Zj (Zj ?_))));obtain ⟨Cn,Bx,By⟩:=Zp (AA6 Bc Aq);refine AMv Ap (AG1 (H6.ext Ap.x) Bx) fun Co Cp Cq Cr Ct Cu Be=>AA4 (Zj ?_);obtain ⟨Cv,Bz,B1⟩:=Zp By;refine AMv Be (AUd (Be.o2 p0).rd Bz) fun Cw Cx Cy Cz C0 C1 Bf=>Zj (Zj ?_);obtain ⟨C2,B3,B4⟩:=Zp B1;refine AMv Bf (AG1 (H2.ext Bf.x) B3) fun C3 C4 C5 C6 C7 C8 Au=>Zj (Zj ?_);obtain ⟨C9,B5,B6⟩:=Zp B4;refine AMv Au (APz (Au.o2 p0).rd (Au.o2 p2).rd B5) fun Da Db Dc Dd De Df Av=>Zj ?_;obtain ⟨Dg,B7,B8⟩:=Zp B6;refine AMv Av (APz (Av.o2 p2).rd (Av.o2 p0).rd B7) fun Dh Di Dj Dk Dl Do Aw=>AAl (Zt (Zw ?_));obtain rfl:=Zl B8;exact ⟨_,ABf,Aw.x,_,_,_,_,rfl,(Aw.o2 p0),Aw.s.sel [0] Zk⟩
end Go.Proofs.YtdkldlbgcfpglaaGreatDoor
namespace Go.Proofs.YtdkldlbgcfpglaaGreatDoor
open Go Go.QF
set_option maxRecDepth 100000
theorem ACr {α β:Type} {L:List α} {n:Nat} {x:α} {f:α->Option β} (hx:L[n]? =some x):(gI L (n:Int)).bind f=f x:=by
 unfold gI;rw [if_pos Zh,Int.toNat_natCast,hx];rfl
theorem AUk {α β:Type} {L:List α} {x:α} {f:α->Option β} (hx:L[0]? =some x):(gI L 0).bind f=f x:=ACr (n:=0) hx
theorem ABp {i:Nat} (h:i<=1000000000):w64 ((i:Int) + 1)=((i + 1:Nat):Int):=by rw [wk Zh];omega
theorem Abg {n i r:Nat} {G:Z1} {g g':Nat->Int} (h:∀ c,c < n->g c=g' c):part n i (ABv G r g)=part n i (ABv G r g'):=by
 unfold part;refine ABn fun k _=>?_;split
 ·refine ABn fun c hc=>?_;by_cases hk:k=r
  ·subst hk;rw [ABr,ABr,h c hc]
  ·rw [ADy _ _ hk,ADy _ _ hk]
 ·rfl
theorem AXy {n i:Nat} {F:Z1} {g:Nat->Int} (h:∀ c,c < n->g c=F i c):part n (i + 1) (ABv F i g)=part n (i + 1) F:=by
 rw [Abg h,AOb]
theorem Aea {body:Int × List (List Int)->Option ((Int × List (List Int)) ⊕ List (List Int))} {fuel n i:Nat} {G:Z1} (v:Nat->Int) (hf:n < fuel)
    (hs:∀ (j:Nat) (g:Nat->Int),j < n->g j=G i j->body ((j:Int),part n (i + 1) (ABv G i g))=some (.inl (((j + 1:Nat):Int),part n (i + 1) (ABv G i fun c=>if c=j then v j else g c))))
    (he:∀ X,body ((n:Int),X)=some (.inr X)):iter body fuel (0,part n (i + 1) G)=some (part n (i + 1) (ABv G i v)):=by
  apply ok_eq
  refine AA9 (fun j s=>s=((j:Int),part n (i + 1) (ABv G i fun c=>if c < j then v c else G i c))) n ?_ hf fun j s hj hI=>?_
  · have:(fun c=>if c < 0 then v c else G i c)=G i:=funext fun c=>if_neg Zh;rw [this,AOb];rfl
  · subst hI
    by_cases h:j < n
    · rw [hs j _ h (if_neg Zh)];refine Zm ⟨h,?_⟩;refine congrArg (fun z=>(((j + 1:Nat):Int),part n (i + 1) (ABv G i z))) (funext fun c=>?_)
      by_cases h1:c=j
      · rw [if_pos h1,if_pos Zh,h1]
      · rw [if_neg h1]
        by_cases h2:c < j
        · rw [if_pos h2,if_pos Zh]
        · rw [if_neg h2,if_neg Zh]
    · obtain rfl:j=n:=by omega
      rw [he];exact Zm (Abg fun c hc=>if_pos hc)
theorem AXz {body:Int × List (List Int)->Option ((Int × List (List Int)) ⊕ List (List Int))} {fuel n:Nat} (F:Z1) (hf:n < fuel)
    (hs:∀ i:Nat,i < n->body ((i:Int),part n i F)=some (.inl (((i + 1:Nat):Int),part n (i + 1) F))) (he:∀ X,body ((n:Int),X)=some (.inr X)):iter body fuel (0,List.replicate n ([]:List Int))=some (tab n n F):=by
  apply ok_eq;refine AA9 (fun i s=>s=((i:Int),part n i F)) n (by rw [AOf n F];rfl) hf fun i s hi hI=>?_;subst hI
  by_cases h:i < n
  · rw [hs i h];exact Zm ⟨h,rfl⟩
  · obtain rfl:i=n:=by omega
    rw [he];exact Zm (AOe _ _)
theorem Ac0 {x m:Int} (hm:2<=m) (Ab:m<=2147483647):Int.tmod (w64 (Int.tmod x m + m)) m=x % m:=by
 have h1:=Int.tmod_lt_of_pos x (show 0 < m by omega);have h2:=Int.tmod_lt_of_pos (-x) (show 0 < m by omega);rw [Int.neg_tmod] at h2;rw [wk Zh,Int.tmod_eq_emod_of_nonneg Zh,Int.add_emod_right,Int.tmod_def,Int.sub_mul_emod_self_left]
theorem Abh {fuel n:Nat} {F:Z1} {m:Int} (hn:n<=8) (hm:2<=m) (Aa:m<=2147483647) (hf:100 < fuel):ACo fuel (tab n n F) m=some (tab n n fun i j=>F i j % m):=by
 unfold ACo;rw [AAp,if_pos Zh,Int.toNat_natCast,AXz (n:=n) (fun i j=>F i j % m) Zh (fun i hi=>?_) fun X=>?_]
 ·rfl
 ·unfold AJc;dsimp only;rw [AAp,if_pos Zh,ACr (AAz hi),AA1,if_pos Zh,ACr (AO5 hi),ABx,Int.toNat_natCast,AE1 n (0:Int),AM3,Aea (n:=n) (fun j=>F i j % m) Zh (fun j g hj hg=>?_) fun X=>?_]
  ·dsimp only [Option.bind_some];rw [ANa,AXy fun c _=>rfl,ABp Zh]
  ·unfold AJb;dsimp only;rw [AA1,if_pos Zh,ACr (AAq hj),ACr (AJ4 Zh hi),if_pos Zh,if_pos Zh,ABr,ACr (AAq hj),Ac0 hm Aa,ABx,ABx,ADz,AL8 Zh,ANa,ABp Zh]
  ·unfold AJb;dsimp only;rw [AA1,if_neg Zh]
 ·unfold AJc;dsimp only;rw [AAp,if_neg Zh]
theorem Ao8 {fuel n:Nat} {F:Z1} (Aa:1<=n) (hn:n<=8) (hf:100 < fuel):AH5 fuel (tab n n F)=some (tab n n fun i j=>F j i):=by
 unfold AH5;rw [AUk (AAz Zh),AA1,if_pos Zh,Int.toNat_natCast,AXz (n:=n) (fun i j=>F j i) Zh (fun i hi=>?_) fun X=>?_]
 ·rfl
 ·unfold AIh;dsimp only;rw [AA1,Int.toNat_natCast,List.length_replicate,if_pos Zh,AAp,if_pos Zh,ACr (AO5 hi),ABx,Int.toNat_natCast,AE1 n (0:Int),AM3,Aea (n:=n) (fun j=>F j i) Zh (fun j g hj hg=>?_) fun X=>?_]
  ·dsimp only [Option.bind_some];rw [ANa,AXy fun c _=>rfl,ABp Zh]
  ·unfold AIg;dsimp only;rw [AAp,if_pos Zh,ACr (AAz hj),ACr (AJ4 Zh hi),ACr (AAq hi),ABr,ACr (AAq hj),ABx,ABx,ADz,AL8 Zh,ANa,ABp Zh]
  ·unfold AIg;dsimp only;rw [AAp,if_neg Zh]
 ·unfold AIh;dsimp only;rw [AA1,Int.toNat_natCast,List.length_replicate,if_neg Zh]
def ATh (n:Nat) (m:Int) (F:Z1):Prop:= ∀ i j,i < n->j < n->0<=F i j/\F i j < m
theorem Ahz {m:Int} {f:Nat->Int} {k:Nat} {x y:Int} (hm:2<=m) (Aa:m<=2147483647) (hx:0<=x/\x < m) (hy:0<=y/\y < m) (hf:f k=x * y):Int.tmod (w64 (psum f k % m + (w64 (x * y)))) m=psum f (k + 1) % m:=by
 have h0:=Int.mul_nonneg hx.1 hy.1;have h1:x * y<=2147483646 * 2147483646:=Int.mul_le_mul Zh Zh hy.1 Zh;have h2:=Int.emod_nonneg (psum f k) (show m≠0 by omega);have h3:=Int.emod_lt_of_pos (psum f k) (show 0 < m by omega);rw [ACe (x:=x * y) Zh Zh,wk Zh,Int.tmod_eq_emod_of_nonneg Zh,<- hf,Akc]
theorem Ajw {fuel n:Nat} {F G:Z1} {m:Int} (Ab:1<=n) (hn:n<=8) (hm:2<=m) (Aa:m<=2147483647) (hF:ATh n m F) (hG:ATh n m G) (hf:100 < fuel):AHp fuel (tab n n F) (tab n n G) m=some (tab n n fun i j=>psum (fun k=>F i k * G k j) n % m):=by
 unfold AHp;rw [AAp,if_pos Zh,Int.toNat_natCast,AXz (n:=n) (fun i j=>psum (fun k=>F i k * G k j) n % m) Zh (fun i hi=>?_) fun X=>?_]
 ·rfl
 ·unfold AJ7;dsimp only;rw [AAp,if_pos Zh,ACr (AAz hi),AUk (AAz Zh),AA1,if_pos Zh,ACr (AO5 hi),ABx,Int.toNat_natCast,AE1 n (0:Int),AM3]
  have key:∀ X,iter (fun s=>AJ6 fuel (tab n n G) m i (AB3 n (F i)) s.1 s.2) fuel (0,part n (i + 1) (ABv X i fun _=>0))=some (part n (i + 1) (ABv X i fun j=>psum (fun k=>F i k * G k j) n % m)):=fun X=>by
    apply ok_eq
    refine AA9 (fun k s=>s=((k:Int),part n (i + 1) (ABv X i fun j=>psum (fun k=>F i k * G k j) k % m))) n ?_ Zh fun k s hk hI=>?_
    · refine congrArg (fun z=>((0:Int),part n (i + 1) (ABv X i z))) (funext fun c=>?_)
      show 0=0 % m
      rw [Int.zero_emod]
    · subst hI
      unfold AJ6
      dsimp only
      rw [AA1]
      by_cases h:k < n
      · rw [if_pos Zh,ACr (AAq h),ACr (AAz h),Aea (n:=n) (fun j=>psum (fun k=>F i k * G k j) (k + 1) % m) Zh (fun j g hj hg=>?_) fun X=>?_]
        · dsimp only [Option.bind_some]
          rw [ANa,ABp Zh]
          exact Zm ⟨h,rfl⟩
        · unfold AJ5
          dsimp only
          rw [AA1,if_pos Zh,ACr (AAq hj),ACr (AJ4 Zh hi),ABr,ACr (AAq hj),if_pos Zh,hg,ABr,Ahz (f:=fun k=>F i k * G k j) hm Aa (hF i k hi h) (hG k j h hj) rfl,ABx,ABx,ADz,AL8 Zh,ANa,ABp Zh]
        · unfold AJ5
          dsimp only
          rw [AA1,if_neg Zh]
      · obtain rfl:k=n:=by omega
        rw [if_neg Zh]
        exact Zm rfl
  rw [key];dsimp only [Option.bind_some];rw [AXy fun c _=>rfl,ABp Zh]
 ·unfold AJ7;dsimp only;rw [AAp,if_neg Zh]
end Go.Proofs.YtdkldlbgcfpglaaGreatDoor
namespace Go.Proofs.YtdkldlbgcfpglaaGreatDoor
open Go Go.QF
set_option maxRecDepth 100000
set_option maxHeartbeats 4000000
def ANb (fuel:Nat) (Ac Ad Af:Int) (Ag:LiA) (Ah Ai Aa:Int) (Ab:LiI):Option ((Int × LiI) ⊕ ((LiI))):=
  (if Aa < (Ag.length:Int) then ((gI Ab Af).bind fun Aj=>((gI Aj Aa).bind fun Ak=>((gI Ab Ad).bind fun Ae=>((gI Ae Aa).bind fun Am=>(if Ac≠0 then (some (Sum.inl ((w64 (Aa + 1)),(sI Ab Ad (sI Ae Aa (Int.tmod (w64 (Am + (w64 ((w64 (Ac - (w64 (Int.tdiv Ai Ah)))) * Ak)))) Ac)))))) else none))))) else (some (Sum.inr<| Ab)))
def ANc (fuel:Nat) (Ah Aa Ab Af:Int) (Ac:LiI):Option ((Int × LiI) ⊕ ((Int × LiI))):=
  ((gI Ac Ab).bind fun Ag=>((gI Ag Aa).bind fun Ad=>(if ¬ Ad=0 then ((gI Ac Aa).bind fun Ai=>((gI Ai Aa).bind fun Aj=>(if Ad≠0 then ((((iter (fun s=>ANb fuel Ah Aa Ab Ag Ad Aj s.1 s.2) fuel (0,Ac)).bind (fun (Ak:LiI)=>(some ( Ak)))):Option (LiI)).bind fun Ae=>((gI Ae Ab).bind fun Am=>((gI Ae Aa).bind fun Ao=>(some (Sum.inl ((w64 (0 - Af)),(sI (sI Ae Aa Am) Ab Ao))))))) else none))) else (some (Sum.inr<| (Af,Ac))))))
def APk (fuel:Nat) (Ad Ae Ac Aa:Int) (Ab:LiI):Option ((Int × Int × LiI) ⊕ ((Int × LiI))):=
  (if Aa < (Ab.length:Int) then ((iter (fun s=>ANc fuel Ad Ae Aa s.1 s.2) fuel (Ac,Ab)).bind (fun ((Af,Ag):Int × LiI)=>(some (Sum.inl (Af,(w64 (Aa + 1)),Ag))))) else (some (Sum.inr<| (Ac,Ab))))
def APl (fuel:Nat) (Ad:LiI) (Ae Ab Aa:Int) (Ac:LiI):Option ((Int × Int × LiI) ⊕ ((Int × LiI))):=
  (if Aa < (Ad.length:Int) then ((iter (fun s=>APk fuel Ae Aa s.1 s.2.1 s.2.2) fuel (Ab,(w64 (Aa + 1)),Ac)).bind (fun ((Af,Ag):Int × LiI)=>(some (Sum.inl (Af,(w64 (Aa + 1)),Ag))))) else (some (Sum.inr<| (Ab,Ac))))
def APm (fuel:Nat) (a5:Int) (Ac:LiI) (Ad Ab:Int):Option ((Int × Int) ⊕ ((Int))):=
  (if Ab < (Ac.length:Int) then ((gI Ac Ab).bind fun Ae=>(if a5≠0 then ((gI Ae Ab).bind fun Af=>(if a5≠0 then (some (Sum.inl ((Int.tmod (w64 ((Int.tmod Ad a5) * Af)) a5),(w64 (Ab + 1))))) else none)) else none)) else (some (Sum.inr<| Ad)))
def ANt (fuel:Nat) (a3:LiI) (a5:Int):Option (Int × Int):=
  ((AFu fuel a3).bind fun x6=>(if (!x6)=true then (some (0,3)) else ((ABs fuel a5).bind fun Ac=>(if ¬ Ac=0 then (some (0,Ac)) else ((ACo fuel a3 a5).bind fun Ad=>(((((some ( a5)):Option (Int)).bind fun Af=>((iter (fun s=>APl fuel Ad Af s.1 s.2.1 s.2.2) fuel (1,0,Ad)).bind (fun ((Ag,Ah):Int × LiI)=>(some ( (Ag,Ah)))))):Option (Int × LiI)).bind fun (Ai,Aj)=>((iter (fun s=>APm fuel a5 Aj s.1 s.2) fuel ((w64 (Ai + a5)),0)).bind (fun (Ak:Int)=>(some (Ak,0))))))))))
theorem AY0 {fuel:Nat} {h:Zu} {A8:Value} {a3:LiI} {a5:Int} {r:(Int × Int)} (H2:AC5 (cI .i64) h A8 a3) (hp:ANt fuel a3 a5=some r):AAv Tryz.prog 74 #[A8,(.int .i64 a5)] h (fun x h'=>Ext h h'/\x= .tuple #[.int .i64 r.1,.int .i64 r.2]):=by
 unfold ANt at hp;refine cwf (l:=[_,_]) Tryz.func74 rfl rfl (Zn (AAl (Zt (Zo (Zn (Zj ?_))))));have K0:=Kst.k0 h;obtain ⟨x6,B1,Bc⟩:=Zp hp;refine ACl K0 (ARl (H2.ext K0.x) B1) fun Eb E9 Be=>ACt rfl (Zr (⟨_,rfl,fun Aj=>?_,fun Aj=>?_⟩))
 ·refine Zn (AAl (Zt (Zw (AAc ?_))));obtain rfl:=Zl (ifT Bc Aj);exact ⟨_,ABf,Be.x,rfl⟩
 ·refine Zv (q_t (Zo (Zn (Zj ?_))));obtain ⟨Ed,B3,Bf⟩:=Zp (AF9 Bc Aj);refine ACl Be (AGv B3) fun Ee Ef Ak=>AA4 (Zj (ACk rfl rfl (Zr (⟨_,rfl,fun Am=>?_,fun Am=>?_⟩))))
  ·refine Zn (Zj (AAl (Zt (Zw (AAc ?_)))));obtain rfl:=Zl (AA5 Bf Am);exact ⟨_,ABf,Ak.x,rfl⟩
  ·refine Zv (q_t (Zn (Zj (Zj ?_))));obtain ⟨B4,B5,B6⟩:=Zp (AA6 Bf Am);refine AMv Ak (AG1 (H2.ext Ak.x) B5) fun B7 B8 B9 Ab Eg Eh Ao=>AA4 (Zj (Zj ?_));obtain ⟨Ca,Cb,Cd⟩:=Zp B6;refine AAy (K':=(fun xr h'=> ∃ x:(Int) × (LiI) × LnA × LnN × LvA,(x.1,x.2.1)=Ca/\xr=(.int .i64 x.1)/\Kst h h' (Ao.L.set 0 (aO2 (cI .i64) 60 2 x.2.2.1 x.2.2.2.1 x.2.2.2.2 Ab x.2.1)))) trivial rfl ?_ fun Ei Ej Ce=>?_
   ·refine cwf (l:=[_,_]) Tryz.func123 rfl rfl (Zn (AA4 (Zj ?_)));obtain ⟨Cf,Cg,Ch⟩:=Zp Cb;refine AAy (K':=(fun xr h'=> ∃ x:(Nat) × (Int),x.2=Cf/\xr=(.func (.func 171) #[] #[(.pointer (some ⟨x.1,0,none⟩))])/\Kst h h' (aB 2 x.1 [(.int .i64 x.2)] :: Ao.L))) trivial rfl ?_ fun Ek El Ci=>?_
    ·refine cwf (l:=[_]) Tryz.func144 rfl rfl (Zn (AG8 Ao [(.int .i64 a5)] fun Cj Em En Ck=>AA4 (Al6 rfl (Zt (Zw (⟨_,Zy,((Cj,a5):(Nat) × (Int)),?_,rfl,?_⟩))))))
     ·exact Zl Cg
     ·exact Ck
    obtain ⟨⟨Cm,Eo⟩,Cn,rfl,Ap⟩:=Ci;refine ⟨trivial,?_⟩;subst Cn;refine AA4 (Zt (Zo (Zn (Zj (AA8 AAf rfl (Ap.o2 p1).rd (Zj (Zr (Zs (AFj 18889465931478580847040 (fun x:(Int) × (Int) × (LiI) × LnA × LnN × LvA=>(x.1,x.2.1,x.2.2.1)) ((1,0,B4,B7,B8,B9):(Int) × (Int) × (LiI) × LnA × LnN × LvA) Ch (fun x=>[(6,(.int .i64 x.1)),(13,(.int .i64 x.2.1))]) (fun x=>Ap.L.set 1 (aO2 (cI .i64) 60 2 x.2.2.2.1 x.2.2.2.2.1 x.2.2.2.2.2 Ab x.2.2.1)) Ap ⟨rfl,rfl,trivial⟩ ?_)))))))));rintro ⟨Bg,Af,Bh,Bi,Bj,Bl⟩ Ep Er Es Aq Ar Co;unfold APl at Ar;refine Zn (AAu rfl rfl (Zr (Zo (⟨_,rfl,fun Au=>?_,fun Au=>?_⟩))))
    ·refine Zv (q_t (Zo (Zs (Zn (Zj (AA4 (Zj (AA0 rfl rfl (Zt (Zs (AFj 9444732965739290165568 (fun x:(Int) × (Int) × (LiI) × LnA × LnN × LvA=>(x.1,x.2.1,x.2.2.1)) ((Bg,(w64 (Af + 1)),Bh,Bi,Bj,Bl):(Int) × (Int) × (LiI) × LnA × LnN × LvA) (AA5 Ar Au) (fun x=>[(6,(.int .i64 x.1)),(8,(.int .i64 x.2.1))]) (fun x=>Aq.L.set 1 (aO2 (cI .i64) 60 2 x.2.2.2.1 x.2.2.2.2.1 x.2.2.2.2.2 Ab x.2.2.1)) Aq ⟨rfl,rfl,trivial⟩ ?_)))))))))));rintro ⟨Cp,Av,Cq,Cr,Ct,Cu⟩ Et Eu Ev Ag Aw Cv;unfold APk at Aw;refine Zo (Zn (Zj (Zj (AA8 AAf rfl (Ag.o2 p1).rd (AAu rfl rfl (Zr (⟨_,rfl,fun Ax=>?_,fun Ax=>?_⟩)))))))
     ·refine Zv (q_t (Zo (Zs (Zs (AFj 9444732965739273650240 (fun x:(Int) × (LiI) × LnA × LnN × LvA=>(x.1,x.2.1)) ((Cp,Cq,Cr,Ct,Cu):(Int) × (LiI) × LnA × LnN × LvA) (AA5 Aw Ax) (fun x=>[(6,(.int .i64 x.1))]) (fun x=>Ag.L.set 1 (aO2 (cI .i64) 60 2 x.2.2.1 x.2.2.2.1 x.2.2.2.2 Ab x.2.1)) Ag ⟨rfl,trivial⟩ ?_)))));rintro ⟨Ew,Ey,Bm,Bn,Bo⟩ Ez Fa Fb Aa Bp Cw;unfold ANc at Bp;refine Zo (Zn (Zj (Zj ?_)));obtain ⟨Fc,Ac,Cx⟩:=Zp Bp;refine ABy AAf AA2 (Aa.o2 p1) Ac fun _ Fd Cy=>Zj ?_;obtain ⟨Cz,Bq,Br⟩:=Zp Cx;refine AIs (m:=Av) AAg AAk (Aa.o2 p1) Cy Ac Bq fun _=>(ACk rfl rfl (Zr (⟨_,rfl,fun Ay=>?_,fun Ay=>?_⟩)))
      ·refine Zv (q_t (Zs (Zo (AF8 (Zj (Zj (Zj ?_)))))));obtain ⟨Fe,Az,C0⟩:=Zp (AA5 Br Ay);refine ABy AAf AA2 (Aa.o2 p1) Az fun _ C1 Bt=>Zj (Zj (ABy AAf AA2 (Aa.o2 p1) Ac fun _ C2 Bu=>Zj (Zj (ABy AAf AA2 (Aa.o2 p1) Az fun _ Ff C3=>Zj ?_))));obtain ⟨C4,C5,C6⟩:=Zp C0;refine AIs (m:=Af) AAg AAk (Aa.o2 p1) C3 Az C5 fun _=>(Zj (Zj (ABy AAf AA2 (Aa.o2 p1) Ac fun _ Fg C7=>Zj (AIs (m:=Av) AAg AAk (Aa.o2 p1) C7 Ac Bq fun _=>?_))));obtain ⟨C8,C9⟩:=ifN C6;refine AUx rfl rfl C8 ?_;obtain ⟨Da,Db,Dc⟩:=Zp C9;refine AZk (l:=[C1,C2,(.int .i64 (w64 (Int.tdiv C4 Cz)))]) (cl:=[(.pointer (some ⟨Cm,0,none⟩))]) (K':=(fun xr h'=> ∃ x:(LiI),x=Da/\xr= .tuple #[]/\Kst h h' (Aa.L.set 1 (aO2 (cI .i64) 60 2 Bm Bn Bo Ab x)))) trivial rfl rfl ?_ fun Fh Fi Dd=>?_
       ·refine cwf (l:=[_,_,_,_]) Tryz.func171 rfl rfl (Zn (Zj (ABm AAg rfl ((Aa.o2 p1).rowI Bu Ac) (Zj (Zr (Zs (AG4 4294965632 Db (fun x=>[(11,(.int .i64 x.1))]) (fun x=>Aa.L.set 1 (aO2 (cI .i64) 60 2 Bm Bn Bo Ab x.2)) Aa ⟨rfl,trivial⟩ ?_)))))));rintro ⟨Fj,De⟩ Fk Fl Fm Ad A3 Df;unfold ANb at A3;refine Zn (AAu rfl rfl (Zr (Zo (⟨_,rfl,fun A4=>?_,fun A4=>?_⟩))))
        ·refine Zv (q_t (Zo (Zs (Zn (Zj ?_)))));obtain ⟨Fo,Dg,Dh⟩:=Zp (AA5 A3 A4);obtain ⟨Fp,Di,Dj⟩:=Zp Dh;refine AIs (m:=Av) AAg AAk (Ad.o2 p1) Bu Dg Di fun _=>(AAl (Zt (AF8 (Zj (Zj (Zj (Zj ?_)))))));obtain ⟨Fq,Bv,Dk⟩:=Zp Dj;obtain ⟨Fr,Bw,Dl⟩:=Zp Dk;refine AIs (m:=Af) AAg AAk (Ad.o2 p1) Bt Bv Bw fun _=>AA7 AAk rfl ((Ad.b p0).cell (i:=0) rfl) (Zj (AFg rfl rfl (Zj (AL3 rfl rfl (AA0 rfl rfl (AA7 AAk rfl ((Ad.b p0).cell (i:=0) rfl) ?_))))));obtain ⟨Do,Dp⟩:=ifN Dl;refine ADc rfl rfl Do (ALj (m:=Af) Ad p1 AAg AAk Bt Bv Bw (fun _=>rfl) fun _ Ft Dq=>AAn (q_b (q_t (AAa (AA0 rfl rfl (Zj (Zr ?_)))))));exact ⟨_,(Zl Dp).symm,Dq,rfl,trivial⟩
        ·refine AAh (AAi (AAi (ABj (⟨_,ASt,(De:(LiI)),?_,rfl,?_⟩))))
         ·exact Zl (Df _ (Zl (AA6 A3 A4)).symm)
         ·exact Ad
       obtain ⟨Fu,Dr,rfl,Ah⟩:=Dd;refine ⟨trivial,?_⟩;subst Dr;refine Zr (Zo (AF8 (Zj (Zj (Zj (Zj (Zj (Zj ?_))))))));obtain ⟨Fv,Bx,Ds⟩:=Zp Dc;refine ABy AAf AA2 (Ah.o2 p1) Bx fun _ Fw Dt=>Zj (Zj ?_);obtain ⟨Fx,By,Du⟩:=Zp Ds;refine ABy AAf AA2 (Ah.o2 p1) By fun _ Fy Dv=>ARd AAf AA2 (Ah.o2 p1) Dv Dt By Bx rfl rfl (fun _=>rfl) (fun _=>rfl) (fun _=>rfl) (fun _ _=>rfl) fun Fz F4 F5 F6 F7 F8 Dw Dx Dy=>Zr (AAa (Zj (AV9 rfl (AAl (AAn (q_b (q_t ?_)))))));exact ⟨(_,_,_,_,_),(Zl Du).symm,(Ah.uo2 p1 Dx Dw Dy),rfl,trivial⟩
      ·refine AAh (AAi (AAi (ABj (q_b (q_t (AAa (Zj (AA0 rfl rfl (Zt ?_)))))))));exact ⟨(_,_,_,_,_,_),(Zl (Cw _ (Zl (AA6 Br Ay)).symm)).symm,Aa,rfl,rfl,trivial⟩
     ·refine AAh (AAi (AAi (ABj (q_b (q_t (AAa (AA0 rfl rfl (Zj (Zr ?_)))))))));exact ⟨(_,_,_,_,_,_),(Zl (Cv _ (Zl (AA6 Aw Ax)).symm)).symm,Ag,rfl,rfl,trivial⟩
    ·refine AAh (AAi (AAi (ABj (q_t (Zn (Zj (Zt (Zw (⟨_,Zy,((Bg,Bh,Bi,Bj,Bl):(Int) × (LiI) × LnA × LnN × LvA),?_,rfl,?_⟩)))))))))
     ·exact Zl (Co _ (Zl (AA6 Ar Au)).symm)
     ·exact Aq.sel [1] Zk
   obtain ⟨⟨F9,Ga,Gb,Gc,Gd⟩,Dz,rfl,A5⟩:=Ce;refine ⟨trivial,?_⟩;subst Dz;refine Zj (AA0 rfl rfl (Zt (Zo (Zn (Zj (AA8 AAf rfl (A5.o2 p0).rd (Zj (Zr (Zs (AG4 35183835219712 Cd (fun x=>[(8,(.int .i64 x.1)),(29,(.int .i64 x.2))]) (fun x=>A5.L) A5 ⟨rfl,rfl,trivial⟩ ?_))))))))));rintro ⟨Ge,D0⟩ Gf Gg Gh Ai A6 D1;unfold APm at A6;refine Zn (AAu rfl rfl (Zr (Zo (⟨_,rfl,fun A7=>?_,fun A7=>?_⟩))))
   ·refine Zv (q_t (Zo (Zs (Zn (Zj ?_)))));obtain ⟨Gi,Bz,D2⟩:=Zp (AA5 A6 A7);refine ABy AAf AA2 (Ai.o2 p0) Bz fun _ Gj D3=>AAl (Zt (AF8 (Zj (Zj ?_))));obtain ⟨D4,D5⟩:=ifN D2;refine ADc rfl rfl D4 (Zj (Zj ?_));obtain ⟨Gk,D6,D7⟩:=Zp D5;refine AIs (m:=D0) AAg AAk (Ai.o2 p0) D3 Bz D6 fun _=>(AL3 rfl rfl (Zj ?_));obtain ⟨D8,D9⟩:=ifN D7;refine ADc rfl rfl D8 (AAl (AAn (q_b (q_t (AAa (AA0 rfl rfl (Zj (Zr ?_))))))));exact ⟨_,(Zl D9).symm,Ai,rfl,rfl,trivial⟩
   ·refine AAh (AAi (AAi (ABj (q_t (Zn (Zj (AAl (Zt (Zw ?_)))))))));obtain rfl:=Zl (D1 _ (Zl (AA6 A6 A7)).symm);exact ⟨_,ABf,Ai.x,rfl⟩
end Go.Proofs.YtdkldlbgcfpglaaGreatDoor
namespace Go.Proofs.YtdkldlbgcfpglaaGreatDoor
open Go Go.QF
set_option maxRecDepth 100000
theorem Ao9 {E:Type} {body:Int->Option (Int ⊕ E)} {fuel n:Nat} {e:E} (hf:n < fuel) (hs:∀ i:Nat,i < n->body (i:Int)=some (.inl ((i + 1:Nat):Int))) (he:body (n:Int)=some (.inr e)):iter body fuel 0=some e:=by
 apply ok_eq;refine AA9 (fun i s=>s=(i:Int)) n rfl hf fun i s hi hI=>?_;subst hI;by_cases h:i < n
 ·rw [hs i h];exact Zm ⟨h,rfl⟩
 ·obtain rfl:i=n:=by omega
  rw [he];exact Zm rfl
theorem AVj {fuel n:Nat} {F:Z1} (Aa:1<=n) (hn:n<=8) (hf:100 < fuel):AFt fuel (tab n n F)=some true:=by
 unfold AFt;rw [AAp,if_neg Zh,if_neg Zh,AUk (AAz Zh),AA1,if_neg Zh,if_neg Zh];simp only [Option.bind_some];rw [Ao9 (n:=n) (e:= .inr ()) Zh (fun i hi=>?_) ?_]
 ·rfl
 ·unfold ALy;rw [AAp,if_neg Zh]
 ·unfold ALy;rw [AAp,if_pos Zh,ACr (AAz hi),AUk (AAz Zh),AA1,AA1,if_neg (fun h=>h rfl),ABp Zh]
theorem AV2 {n j:Nat} {g:Nat->Int} {x:Int}:sI (AB3 n g) (j:Int) x=AB3 n fun c=>if c=j then x else g c:=by rw [ABx,ADz]
theorem AG9 {n i:Nat} {F:Z1} {g:Nat->Int}:sI (tab n n F) (i:Int) (AB3 n g)=tab n n (ABv F i g):=by
 rw [ABx];exact AKy
theorem AX0 {n r:Nat} {F:Z1} {g g':Nat->Int} (h:∀ c,c < n->g c=g' c):tab n n (ABv F r g)=tab n n (ABv F r g'):=AM7 fun i j _ hj=>by
  rw [ABc,ABc,h j hj]
structure Abv (n:Nat) (m:Int) (A F:Z1) (s:Int) (c:Nat):Prop where
  sg:s=1∨s= -1
  bd:Bd n n m F
  z:Zc n F c
  d:Eqm m (det n F) (s * det n A)
theorem Ar2 {m a b x y:Int} (hm:2<=m) (Ab:m<=2147483647) (ha:0<=a/\a < m) (hb:0 < b/\b < m) (hx:0<=x/\x < m) (hy:0<=y/\y < m):Int.tmod (w64 (x + (w64 ((w64 (m - (w64 (Int.tdiv a b)))) * y)))) m=(x + (m - a / b) * y) % m:=by
 have hq:=Ath ha.1 ha.2 hb.1;have h1:Int.tdiv a b=a / b:=Int.tdiv_eq_ediv_of_nonneg ha.1;have h0:0<=(m - a / b) * y:=Int.mul_nonneg Zh hy.1;have h2:(m - a / b) * y<=2147483647 * 2147483647:=Int.mul_le_mul Zh Zh hy.1 Zh;rw [h1,ACe (x:=a / b) Zh Zh,ACe (x:=m - a / b) Zh Zh,ACe (x:=(m - a / b) * y) Zh Zh,wk Zh,Int.tmod_eq_emod_of_nonneg Zh]
theorem Ar3 {fuel n c i:Nat} {m:Int} {F:Z1} (hn:n<=8) (hm:2<=m) (Ac:m<=2147483647) (hc:c < n) (hi:i < n) (hne:c≠i) (hB:Bd n n m F) (h0:F i c≠0) (hf:100 < fuel):
    iter (fun s=>ANb fuel m c i (AB3 n (F i)) (F i c) (F c c) s.1 s.2) fuel (0,tab n n F)=some (tab n n (ABv F c fun x=>(F c x + (m - F c c / F i c) * F i x) % m)):=by
 apply ok_eq;refine AA9 (fun j s=>s=((j:Int),tab n n (ABv F c fun x=>if x < j then (F c x + (m - F c c / F i c) * F i x) % m else F c x))) n ?_ Zh fun j s hj hI=>?_
 ·have:(fun x=>if x < 0 then (F c x + (m - F c c / F i c) * F i x) % m else F c x)=F c:=funext fun x=>if_neg Zh;rw [this,AOb];rfl
 ·subst hI;unfold ANb;dsimp only;rw [AA1];by_cases h:j < n
  ·have b1:=hB c c hc hc;have b2:=hB i c hi hc;rw [if_pos Zh,ACr (AAz hi),ADy _ _ (Ne.symm hne),ACr (AAq h),ACr (AAz hc),ABr,ACr (AAq h),if_pos Zh,if_neg Zh,Ar2 hm Ac (hB c c hc hc) ⟨Zh,b2.2⟩ (hB c j hc h) (hB i j hi h),AV2,AG9,ANa,ABp Zh];refine Zm ⟨h,congrArg (fun z=>(((j + 1:Nat):Int),tab n n (ABv F c z))) (funext fun x=>?_)⟩;by_cases h1:x=j
   ·rw [if_pos h1,if_pos Zh,h1]
   ·rw [if_neg h1];by_cases h2:x < j
    ·rw [if_pos h2,if_pos Zh]
    ·rw [if_neg h2,if_neg Zh]
  ·obtain rfl:j=n:=by omega
   rw [if_neg Zh];exact Zm (AX0 fun x hx=>if_pos hx)
theorem Alh {n c i:Nat} {m s:Int} {A F:Z1} (hm:2<=m) (hc:c < n) (hi:i < n) (hci:c < i) (H:Abv n m A F s c) (q:Int):Abv n m A (AS1 F c i q m) (-s) c:=by
 have h1:=(Eqm.refl m 0).sub H.d;rw [Int.zero_sub,Int.zero_sub] at h1;refine ⟨by rcases H.sg with h | h <;> rw [h] <;> simp,Ap1 Zh H.bd hc hi,Ap2 H.z hci hi,(Ak3 hc hi Zh).trans ?_⟩;rw [Int.neg_mul];exact h1
theorem Ah0 {fuel n c i:Nat} {m s:Int} {A F:Z1} (hn:n<=8) (hm:2<=m) (Ab:m<=2147483647) (hc:c < n) (hi:i < n) (hci:c < i) (H:Abv n m A F s c) (hZ:Zi F c i) (hf:2147483648 < fuel):
    Ok (iter (fun s=>ANc fuel m c i s.1 s.2) fuel (s,tab n n F)) fun e=> ∃ s' F',e=(s',tab n n F')/\Abv n m A F' s' c/\Zi F' c i/\F' i c=0:=by
 refine AA9 (fun k st=> ∃ s' F',st=(s',tab n n F')/\Abv n m A F' s' c/\Zi F' c i/\F' i c + k<=m) m.toNat ⟨s,F,rfl,H,hZ,by have:=H.bd i c hi hc;omega⟩ Zh fun k st hk hI=>?_;obtain ⟨s',F',rfl,H',hZ',hk'⟩:=hI;have hB:=H'.bd;have b2:=hB i c hi hc;unfold ANc;dsimp only;rw [ACr (AAz hi),ACr (AAq hc)];refine AAj (fun h=>?_) fun h=>Zm ⟨s',F',rfl,H',hZ',Decidable.not_not.1 h⟩;rw [ACr (AAz hc),ACr (AAq hc),if_pos h,Ar3 hn hm Ab hc hi Zh hB h Zh];simp only [Option.bind_some]
 have e1:∀ g,sI (sI (tab n n (ABv F' c g)) (c:Int) (AB3 n (F' i))) (i:Int) (AB3 n g)=tab n n (AEh (ABv F' c g) c i):=fun g=>by
   rw [AG9,AG9]
   unfold AEh
   rw [ABr,ADy _ _ (show i≠c by omega)]
 have b1:=hB c c hc hc;rw [ACr (AAz hi),ADy _ _ (show i≠c by omega),ACr (AAz hc),ABr,e1,ACe (by rcases H'.sg with h | h <;> omega) (by rcases H'.sg with h | h <;> omega),Int.zero_sub];refine Zm ⟨Zh,-s',_,rfl,Alh hm hc hi hci H' _,Ap3 hZ',?_⟩;show AS1 F' c i (F' c c / F' i c) m i c + ((k + 1:Nat):Int)<=m;rw [Aih];dsimp only;rw [Ap4 b1.1 b1.2 Zh b2.2];have:=Int.emod_lt_of_pos (F' c c) (show 0 < F' i c by omega);omega
theorem Au1 {fuel n:Nat} {T:Z1} {m:Int} (Af:1<=n) (hn:n<=8) (hm:2<=m) (Ad:m<=2147483647) (hf:2147483648 < fuel):ANt fuel (tab n n T) m=some (det n T % m,0):=by
 unfold ANt
 have h0:AFu fuel (tab n n T)=some true:=by
   unfold AFu
   rw [AVj Af hn Zh]
   simp only [Option.bind_some,reduceIte]
   rw [AUk (AAz Zh),AA1,AAp,if_pos rfl,decide_eq_true Zh]
 have h1:ABs fuel m=some 0:=by unfold ABs;rw [if_neg Zh,if_neg Zh]
 rw [h0];simp only [Option.bind_some];rw [if_neg Zk,h1];simp only [Option.bind_some];rw [if_neg Zk,Abh hn hm Ad Zh];simp only [Option.bind_some];apply ok_eq;generalize hA:(fun i j=>T i j % m)=A;have hAd:Eqm m (det n A) (det n T):=by subst hA;exact AVy fun i j _ _=>Eqm.mod _ _
 have hAb:Bd n n m A:=by subst hA;exact fun i j _ _=>⟨Int.emod_nonneg _ Zh,Int.emod_lt_of_pos _ Zh⟩
 refine Zq (Q:=fun e:Int × List (List Int)=> ∃ F,e.2=tab n n F/\Abv n m A F e.1 n) (Zq (AA9 (fun c st=> ∃ s F,st=(s,(c:Int),tab n n F)/\c<=n/\Abv n m A F s c) n (Q:=fun e:Int × List (List Int)=> ∃ F,e.2=tab n n F/\Abv n m A F e.1 n) ⟨1,A,rfl,Nat.zero_le _,.inl rfl,hAb,fun c' i h=>absurd h (Nat.not_lt_zero _),by rw [Int.one_mul];exact Eqm.refl _ _⟩ Zh fun c st hc hI=>?_) fun e he=>Zm he) fun e he=>?_
 ·obtain ⟨s,F,rfl,hcn,H⟩:=hI;unfold APl;dsimp only;rw [AAp];refine AAj (fun h=>?_) fun h=>Zm ⟨F,rfl,(show c=n by omega) ▸ H⟩;have hc':c < n:=by omega
  rw [ABp Zh];refine Zq (AA9 (fun k st=> ∃ s F,st=(s,((c + 1 + k:Nat):Int),tab n n F)/\c + 1 + k<=n/\Abv n m A F s c/\Zi F c (c + 1 + k)) (n - (c + 1)) (Q:=fun e:Int × List (List Int)=> ∃ F,e.2=tab n n F/\Abv n m A F e.1 (c + 1)) ⟨s,F,rfl,Zh,H,fun k h1 h2=>by omega⟩ Zh fun k st hk hI=>?_) fun e he=>?_
  ·obtain ⟨s',F',rfl,hkn,H',hZ'⟩:=hI;unfold APk;dsimp only;rw [AAp];refine AAj (fun h2=>Zq (Ah0 hn hm Ad hc' Zh Zh H' hZ' hf) fun e he=>?_) fun h2=>Zm ⟨F',rfl,H'.sg,H'.bd,Aij H'.z ((show c + 1 + k=n by omega) ▸ hZ'),H'.d⟩;obtain ⟨s2,F2,rfl,H2,Aj,h3⟩:=he;exact Zm ⟨Zh,s2,F2,by rw [ABp Zh];rfl,Zh,H2,Aii Aj h3⟩
  ·obtain ⟨e1,e2⟩:=e;obtain ⟨F',h2,H'⟩:=he;dsimp only at h2 H';subst h2;exact Zm ⟨Zh,e1,F',rfl,Zh,H'⟩
 ·obtain ⟨s,M⟩:=e;obtain ⟨F,h2,H⟩:=he;dsimp only at h2 H;subst h2;dsimp only;rw [ACe (by rcases H.sg with h | h <;> omega) (by rcases H.sg with h | h <;> omega)];refine Zq (AA9 (fun k st=>st=(ATq F m s k,(k:Int))/\k<=n) n (Q:=(· =ATq F m s n)) ⟨rfl,Nat.zero_le _⟩ Zh fun k st hk hI=>?_) fun e he=>Zm ?_
  ·obtain ⟨rfl,hkn⟩:=hI;unfold APm;dsimp only;rw [AAp];by_cases h:k < n
   ·have hd:=Ap5 (F:=F) (m:=m) (s:=s) hm H.sg k;have hb:=H.bd k k h h;have h3:=Int.emod_nonneg (ATq F m s k) (show m≠0 by omega);have h4:=Int.emod_lt_of_pos (ATq F m s k) (show 0 < m by omega);have h5:=Int.mul_nonneg h3 hb.1;have h6:ATq F m s k % m * F k k<=2147483647 * 2147483647:=Int.mul_le_mul Zh Zh hb.1 Zh;rw [if_pos Zh,ACr (AAz h),if_pos Zh,ACr (AAq h),if_pos Zh,Int.tmod_eq_emod_of_nonneg hd.1,ACe (x:=ATq F m s k % m * F k k) Zh Zh,Int.tmod_eq_emod_of_nonneg h5,ABp Zh];exact Zm ⟨h,rfl,Zh⟩
   ·obtain rfl:k=n:=by omega
    rw [if_neg Zh];exact Zm rfl
  ·subst he
   have h3:Eqm m (ATq F m s n) (det n T):=by
     refine (Aom _).trans ?_
     rw [<- AS8 H.z]
     refine ((Eqm.refl m s).mul H.d).trans (Eqm.trans (Eqm.of_eq ?_) hAd)
     rcases H.sg with h | h <;> rw [h] <;> grind
   have h4:0<=ATq F m s n/\ATq F m s n < m:=by
     obtain ⟨k,rfl⟩:∃ k,n=k + 1:=⟨n - 1,Zh⟩
     unfold ATq
     exact ⟨Int.emod_nonneg _ Zh,Int.emod_lt_of_pos _ Zh⟩
   unfold Eqm at h3;rw [<- h3,Int.emod_eq_of_lt h4.1 h4.2]
end Go.Proofs.YtdkldlbgcfpglaaGreatDoor
namespace Go.Proofs.YtdkldlbgcfpglaaGreatDoor
open Go Go.QF
set_option maxRecDepth 100000
set_option maxHeartbeats 4000000
def AO6 (fuel:Nat) (a2 Ac Ab:Int):Option ((Int × Int) ⊕ ((Int × Int))):=
  (if a2≠0 then (if (Int.tmod Ab a2)=0 then (if a2≠0 then (some (Sum.inl ((w64 (Ac + 1)),(w64 (Int.tdiv Ab a2))))) else none) else (some (Sum.inr<| (Ac,Ab)))) else none)
def AI5 (fuel:Nat) (a1 a2:Int):Option AF5:=
  ((iter (fun s=>AO6 fuel a2 s.1 s.2) fuel (0,a1)).bind (fun ((Ac,Ad):Int × Int)=>(some (Ac,1,Ad,0,0))))
theorem AO7 {fuel:Nat} {h:Zu} {a1 a2:Int} {r:AF5} (hp:AI5 fuel a1 a2=some r):AAv Tryz.prog 76 #[(.int .i64 a1),(.int .i64 a2)] h (fun x h'=>Ext h h'/\x= .agg #[.int .i64 r.1,.int .i64 r.2.1,.int .i64 r.2.2.1,.int .i64 r.2.2.2.1,.int .i64 r.2.2.2.2]):=by
 unfold AI5 at hp;refine cwf (l:=[_,_]) Tryz.func76 rfl rfl (Zn (AC1 (Kst.k0 h) [(.int .i64 0),(.int .i64 0),(.int .i64 0),(.int .i64 0),(.int .i64 0)] AQ8 fun b3 h4 E6 K9=>AH7 (Zj (ADl (v:=(.agg #[(.int .i64 0),(.int .i64 1),(.int .i64 a1),(.int .i64 0),(.int .i64 0)])) (fun _=>by kernel_rfl) (AC1 K9 [(.int .i64 0),(.int .i64 0),(.int .i64 0),(.int .i64 0),(.int .i64 0)] AQ8 fun Ap Ba Bb Ah=>AB8 [(.int .i64 0),(.int .i64 1),(.int .i64 a1),(.int .i64 0),(.int .i64 0)] AKz rfl rfl rfl rfl (by simp [isOne]) (Ah.b p0) fun Bc Aq Ar=>Zr (Zo ?_))))));refine Zs ?_;have Ai:=Ah.sb p0 Ar Aq rfl;refine AG4 4194048 hp (fun x=>[]) (fun x=>Ai.L.set 0 (aB 59 Ap [(.int .i64 x.1),(.int .i64 1),(.int .i64 x.2),(.int .i64 0),(.int .i64 0)])) Ai trivial ?_;rintro ⟨Ad,Ae⟩ Be Bf Bg Aa Aj Au;unfold AO6 at Aj;refine Zo (Zn (ADa AM9 AAk (Aa.b p0) 2 rfl (Zj ?_)));obtain ⟨Av,Ak⟩:=ifN Aj;refine ADc rfl rfl Av (AB2 rfl rfl (Zr (⟨_,rfl,fun Af=>?_,fun Af=>?_⟩)))
 ·refine Zv (q_t (Zs (Zn (ADa AM9 AAk (Aa.b p0) 2 rfl (Zj ?_)))));obtain ⟨Aw,Ax⟩:=ifN (AA5 Ak Af);refine AUx rfl rfl Aw (ACh AM9 rfl (AQh [(.int .i64 Ad),(.int .i64 1),(.int .i64 (w64 (Int.tdiv Ae a2))),(.int .i64 0),(.int .i64 0)] AAk rfl rfl rfl (Aa.b p0) (Nat.le_of_ble_eq_true rfl) rfl fun Bh Ay Az=>Zr (AAa ?_)));have Ag:=Aa.sb p0 Az Ay rfl;refine ADa AHl ABt (Ag.b p0) 0 rfl (AA0 rfl rfl (ACh AHl rfl (AQh [(.int .i64 (w64 (Ad + 1))),(.int .i64 1),(.int .i64 (w64 (Int.tdiv Ae a2))),(.int .i64 0),(.int .i64 0)] ABt rfl rfl rfl (Ag.b p0) (Nat.le_of_ble_eq_true rfl) rfl fun Bi A3 A4=>AAn (q_b (q_t ?_)))));exact ⟨_,(Zl Ax).symm,(Ag.sb p0 A4 A3 rfl),trivial⟩
 ·refine AAh (AAi (AAi (ABj (q_t (Zn (ANd [(.int .i64 Ad),(.int .i64 1),(.int .i64 Ae),(.int .i64 0),(.int .i64 0)] AKz rfl rfl (Aa.b p0).agg (AB8 [(.int .i64 Ad),(.int .i64 1),(.int .i64 Ae),(.int .i64 0),(.int .i64 0)] AKz rfl rfl rfl rfl (by simp [isOne]) (Aa.b p1) fun Bj A5 A6=>Zr (Zw ?_))))))));have Am:=Aa.sb p1 A6 A5 rfl;obtain rfl:=Zl (Au _ (Zl (AA6 Ak Af)).symm);exact ⟨_,ACb AKz rfl rfl (Am.b p1),Am.x,rfl⟩
def AL0 (fuel:Nat) (Ad:Int) (Ab:LiA) (Aa:Int):Option ((Int) ⊕ ((Bool) ⊕ (Unit))):=
  (if Aa < (Ab.length:Int) then ((gI Ab Aa).bind fun Ac=>(if Ac < 0 then (some (Sum.inr<| Sum.inl <| false)) else (if Ad<=Ac then (some (Sum.inr<| Sum.inl <| false)) else (some (Sum.inl (w64 (Aa + 1))))))) else (some (Sum.inr<| Sum.inr <| ())))
def AL1 (fuel:Nat) (Ac:LiI) (Ab:Int) (Ad:LiA) (Aa:Int):Option ((Int) ⊕ ((Bool) ⊕ (Unit))):=
  (if Aa < (Ad.length:Int) then ((gI Ac Ab).bind fun Ae=>((gI Ae Aa).bind fun Af=>(if ¬ Aa=Ab then (if ¬ Af=0 then (some (Sum.inr<| Sum.inl <| false)) else (some (Sum.inl (w64 (Aa + 1))))) else (some (Sum.inl (w64 (Aa + 1))))))) else (some (Sum.inr<| Sum.inr <| ())))
def AL2 (fuel:Nat) (a5:Int) (Ae:(List AF5)) (Ad:LiI) (Aa:Int):Option ((Int) ⊕ ((Bool) ⊕ (Unit))):=
  (if Aa < (Ad.length:Int) then ((gI Ad Aa).bind fun Ah=>((((gI Ad Aa).bind fun Ai=>((gI Ai Aa).bind fun Af=>(if Af=0 then (some (Sum.inl <| false)) else ((gI Ae Aa).bind fun Ab=>((AI5 fuel Af a5).bind fun Ac=>(if (!(decide ((Ab.1,Ab.2.1,Ab.2.2.1,Ab.2.2.2.1,Ab.2.2.2.2)=(Ac.1,Ac.2.1,Ac.2.2.1,Ac.2.2.2.1,Ac.2.2.2.2))))=true then (some (Sum.inl <| false)) else (some (Sum.inr <| ())))))))):Option ((Bool) ⊕ (Unit))).bind (fun ex=>match ex with | Sum.inl Aj=>(some (Sum.inr<| Sum.inl <| Aj)) | Sum.inr (_)=>(((if 0 < Aa then ((gI Ae Aa).bind fun Ak=>((gI Ae (w64 (Aa - 1))).bind fun Am=>(if Ak.1 < Am.1 then (some (Sum.inl <| false)) else (some (Sum.inr <| ()))))) else (some (Sum.inr <| ()))):Option ((Bool) ⊕ (Unit))).bind (fun ex=>match ex with | Sum.inl Ao=>(some (Sum.inr<| Sum.inl <| Ao)) | Sum.inr (_)=>((iter (fun s=>AL1 fuel Ad Aa Ah s) fuel 0).bind (fun ex=>match ex with | Sum.inl Ap=>(some (Sum.inr<| Sum.inl <| Ap)) | Sum.inr (_)=>(some (Sum.inl (w64 (Aa + 1))))))))))) else (some (Sum.inr<| Sum.inr <| ())))
def AI6 (fuel:Nat) (a8:LiI) (Ac Aa:Int):Option ((Int) ⊕ ((Bool) ⊕ (Unit))):=
  (if Aa < (a8.length:Int) then ((gI a8 Aa).bind fun Ad=>((iter (fun s=>AL0 fuel Ac Ad s) fuel 0).bind (fun ex=>match ex with | Sum.inl Ae=>(some (Sum.inr<| Sum.inl <| Ae)) | Sum.inr (_)=>(some (Sum.inl (w64 (Aa + 1))))))) else (some (Sum.inr<| Sum.inr <| ())))
def AL9 (fuel:Nat) (a3:LiI) (a5:Int) (a8:LiI) (Ae:(List AF5)) (Ac:Int):Option Bool:=
  ((iter (fun s=>AI6 fuel a8 Ac s) fuel 0).bind (fun ex=>match ex with | Sum.inl Af=>(some Af) | Sum.inr (_)=>((ANt fuel a8 a5).bind fun (Ag,Aj)=>(if Ag=0 then (some false) else ((AHg fuel a3 a8 Ac).bind fun (Ah,Ak)=>((iter (fun s=>AL2 fuel a5 Ae Ah s) fuel 0).bind (fun ex=>match ex with | Sum.inl Ai=>(some Ai) | Sum.inr (_)=>(some true))))))))
theorem AW0 {fuel:Nat} {h:Zu} {Bp:Value} {a3:LiI} {a5:Int} {Aw:Value} {a8:LiI} {Ax:Value} {Bt:(List AF5)} {Bu:Int} {r:Bool} (H2:AC5 (cI .i64) h Bp a3) (H7:AC5 (cI .i64) h Aw a8) (Ay:SlC AOr h Ax Bt) (hp:AL9 fuel a3 a5 a8 Bt Bu=some r):AAv Tryz.prog 38 #[Bp,(.agg #[(.int .i64 a5),Aw,Ax]),(.int .i64 Bu)] h (fun x h'=>Ext h h'/\x= .bool r):=by
 unfold AL9 at hp;refine cwf (l:=[_,_,_]) Tryz.func38 rfl rfl (Zn (AG8 (Kst.k0 h) [(.int .i64 a5),Aw,Ax] fun Dj Dk Dl Az=>Zt (Zo (Zn (ADa AOt AEz (Az.b p0) 1 rfl (AA8 AAf rfl H7 (Zj (Zr (Zs (AG4 2199019062592 hp (fun x=>[(22,(.int .i64 x))]) (fun x=>Az.L) Az ⟨rfl,trivial⟩ ?_))))))))));rintro Do Dp Dq Dr Ac A3 A4;unfold AI6 at A3;refine Zn (AAu rfl rfl (Zr (Zo (⟨_,rfl,fun A5=>?_,fun A5=>?_⟩))))
 ·refine Zv (q_t (Zo (Zs (Zn ?_))));obtain ⟨Ds,Cd,Ce⟩:=Zp (AA5 A3 A5);refine AGs AAf AA2 H7 Ac.x Cd fun _ Dt Bv=>AA4 (Zj (ABm AAg rfl Bv (Zj (Zr (Zs (AG4 1099243193408 Ce (fun x=>[(28,(.int .i64 x))]) (fun x=>Ac.L) Ac ⟨rfl,trivial⟩ ?_))))));rintro Du Dv Dw Dx Ae A6 A7;unfold AL0 at A6;refine Zn (AAu rfl rfl (Zr (Zo (⟨_,rfl,fun A8=>?_,fun A8=>?_⟩))))
  ·refine Zv (q_t (Zo (Zs (Zn ?_))));obtain ⟨Cf,Cg,Bw⟩:=Zp (AA5 A6 A8);refine AUi AAg AAk Bv Ae.x Cg fun _=>(AA4 (Zj (AAu rfl rfl (Zj ?_))));by_cases Ak:Cf < 0
   ·rw [decide_eq_true Ak];refine ADe 34 true (Z4 rfl (Zr (AAr rfl (Zn (Zt (Zw (ABi (AAc (AAc (ABi (ABi (AAc (AAc (ABi (AAc ?_)))))))))))))));obtain rfl:=Zl (A4 _ (Zl (A7 _ (Zl (ifT Bw Ak)).symm)).symm);exact ⟨_,Zy,Ae.x,rfl⟩
   ·have Bx:=ifF Bw Ak;rw [decide_eq_false Ak];refine AAb 34 false (Zj (AAb 34 false (Zj (AAb 34 false (AMf rfl rfl (Zz rfl (Zr (⟨_,rfl,fun A9=>?_,fun A9=>?_⟩))))))))
    ·refine Zn (Zt (Zw (ABi (AAc (AAc (ABi (ABi (AAc (AAc (ABi (AAc ?_)))))))))));obtain rfl:=Zl (A4 _ (Zl (A7 _ (Zl (AA5 Bx A9)).symm)).symm);exact ⟨_,Zy,Ae.x,rfl⟩
    ·refine Zv (q_b (q_t (AAa (AA0 rfl rfl (Zj (Zr ?_))))));exact ⟨_,(Zl (AA6 Bx A9)).symm,Ae,rfl,trivial⟩
  ·refine AAh (AAi (AAi (ABj (q_b (q_t (AAa (AA0 rfl rfl (Zj (Zr ?_)))))))));exact ⟨_,(Zl (A7 _ (Zl (AA6 A6 A8)).symm)).symm,Ae,rfl,trivial⟩
 ·refine AAh (AAi (AAi (ABj (q_t (Zo (Zn (ADa AOt AEz (Ac.b p0) 1 rfl (ADa AKq AAk (Ac.b p0) 0 rfl ?_))))))));obtain ⟨⟨Dy,Dz⟩,Ch,Ba⟩:=Zp (A4 _ (Zl (AA6 A3 A5)).symm);dsimp only at Ba;refine ACl Ac (AY0 (H7.ext Ac.x) Ch) fun D0 D1 Af=>Zj (ABl rfl rfl (ABl rfl rfl (AAl (AA4 (Zj (AB2 rfl rfl (Zr (⟨_,rfl,fun Bb=>?_,fun Bb=>?_⟩))))))))
  ·refine Zn (Zt (Zw (AAc ?_)));obtain rfl:=Zl (AA5 Ba Bb);exact ⟨_,Zy,Af.x,rfl⟩
  ·refine Zv (q_t (Zn (Zj (ADa AOt AEz (Af.b p0) 1 rfl (Zj ?_)))));obtain ⟨⟨D2,D3⟩,Ci,By⟩:=Zp (AA6 Ba Bb);dsimp only at By;refine ANz rfl (ATg (H2.ext Af.x) (H7.ext Af.x) Ci) fun D4 D5 Cj Ck=>?_;obtain ⟨D6,D7,D8,D9,rfl,Cm,Cn⟩:=Ck;refine Zj (ABl rfl rfl (ABl rfl rfl (AAl (Zt (Zo (Zn (Zj ?_)))))));have Bc:=Af.no2 Cj Cn Cm;refine AA8 AAf rfl (Bc.o2 p0).rd (Zj (Zr (Zs (AG4 1329227995784915870597964051067142208 By (fun x=>[(61,(.int .i64 x))]) (fun x=>Bc.L) Bc ⟨rfl,trivial⟩ ?_))));rintro Ag Ea Be Eb Aa Bf Ah;unfold AL2 at Bf;refine Zn (AAu rfl rfl (Zr (Zo (⟨_,rfl,fun Bg=>?_,fun Bg=>?_⟩))))
   ·refine Zv (q_t (Zo (Zs (Zn (Zj ?_)))));obtain ⟨Ec,Bz,Co⟩:=Zp (AA5 Bf Bg);refine ABy AAf AA2 (Aa.o2 p0) Bz fun _ Ed Am=>AAl (Zt ?_);obtain ⟨Cp,Cq,Bh⟩:=Zp Co;refine AKb 77371178668359972342988864 (fun x:Unit=>[]) (fun x h'=>(Sum.inr <| ())=Cp/\Kst h h' (Aa.L)) ?_ ?_
    ·refine Zo (ACd (fun h'=>UpT [] Be h') Zx ?_);have Ad:UpT [] Be Be:=UpT.start all_nil;refine Zj (Zj ?_);obtain ⟨Ee,Ao,Cr⟩:=Zp Cq;obtain ⟨Ct,Ap,B1⟩:=Zp Cr;refine AE6 (m:=Ag) AAg rfl (Aa.o2 p0) Am Ao rfl Ap fun Ef Cu=>?_;obtain ⟨Eg,Cv,Cw⟩:=(Aa.o2 p0).cells Cu Ao Ap;obtain rfl:=Cv;refine ACf AAk rfl Ad (fun h' hb=>AAx (Cw 0 _ rfl) hb.ext) (AB2 rfl rfl (Zj ?_));by_cases Aq:Ct=0
     ·rw [decide_eq_true Aq];refine ADq 71 true (ADq 71 true (ADe 71 true (Z4 rfl (Zr (AAr rfl (Zn (Zt ?_)))))));obtain rfl:=Zl (ifT B1 Aq);refine Zw (AAc (ABi (AAc (AAc (ABi (AAc ?_))))));obtain rfl:=Zl (Ah _ (Zl Bh).symm);exact ⟨_,Zy,Aa.x,rfl⟩
     ·rw [decide_eq_false Aq];refine AAb 71 false (ACh AKr rfl (AAb 71 false (ACf AQj rfl Ad (fun h' hb=>((Aa.b p1).ext hb.ext).cell (i:=2) rfl) (AAb 71 false (Zj (AAb 71 false ?_))))));obtain ⟨Eh,Cx,Cy⟩:=Zp (ifF B1 Aq);refine AIw (c:=AOr) AN5 rfl Ay rfl Cx fun Ei Ej Ek Cz C0=>?_;obtain rfl:=Cz;refine AAb 71 false (AQ7 (c:=AOr) (h0:=h) AKz rfl rfl Ad (fun h' hb j u hu=>AAx (C0 j u hu) (Aa.x.trans hb.ext)) (AAb 71 false (Zj (AAb 71 false (Zj (AAb 71 false (AE6 (m:=Ag) AAg rfl (Aa.o2 p0) Am Ao rfl Ap fun El C1=>AAb 71 false ?_)))))));obtain ⟨Em,C2,C3⟩:=(Aa.o2 p0).cells C1 Ao Ap;obtain rfl:=C2;refine ACf AAk rfl Ad (fun h' hb=>AAx (C3 0 _ rfl) hb.ext) (AAb 71 false (ACh AKq rfl (AAb 71 false (ACf AAk rfl Ad (fun h' hb=>((Aa.b p1).ext hb.ext).cell (i:=0) rfl) (AAb 71 false ?_)))));obtain ⟨En,C4,B3⟩:=Zp Cy;refine Aaw Aa Ad (AO7 C4) fun Eo Ep B4 Er=>AAb 71 false (Asq Zx rfl rfl (Avy _ _ _ _ _ _ _ _ _ _) (Zz rfl (Zr (⟨_,rfl,fun Bi=>?_,fun Bi=>?_⟩))))
      ·refine Zn (Zt ?_);obtain rfl:=Zl (ifT B3 Bi);refine Zw (AAc (ABi (AAc (AAc (ABi (AAc ?_))))));obtain rfl:=Zl (Ah _ (Zl Bh).symm);exact ⟨_,Zy,B4.x,rfl⟩
      ·refine Zv (q_t ?_);exact ⟨(():Unit),⟨Zl (AF9 B3 Bi),B4⟩,trivial⟩
    rintro ⟨⟩ Es Et ⟨C5,Ab⟩;subst C5;obtain ⟨C6,B5,B6⟩:=Zp Bh;refine AKb 20282332232399215087680070090816 (fun x:Unit=>[]) (fun x h'=>(Sum.inr <| ())=C6/\Kst h h' (Ab.L)) ?_ ?_
    ·refine Zo (AF8 (Zj (AGb rfl rfl (Zj ?_))));by_cases Ar:0 < Ag
     ·rw [decide_eq_true Ar];refine AAb 88 true (ACh AKr rfl (AAb 88 true (AA7 AQj rfl ((Ab.b p1).cell (i:=2) rfl) (AAb 88 true (Zj (AAb 88 true ?_))))));obtain ⟨Eu,C7,C8⟩:=Zp (ifT B5 Ar);refine AIw (c:=AOr) AN5 rfl Ay rfl C7 fun Ev Ew Ey C9 Da=>?_;obtain rfl:=C9;refine AAb 88 true (ACh AHl rfl (AAb 88 true (AA7 ABt rfl (AAx (Da 0 _ rfl) Ab.x) (AAb 88 true (ACh AKr rfl (AAb 88 true (AA7 AQj rfl ((Ab.b p1).cell (i:=2) rfl) (AAb 88 true (Zj (AAb 88 true (AFg rfl rfl (AAb 88 true ?_))))))))))));obtain ⟨Ez,Db,B7⟩:=Zp C8;refine AIw (c:=AOr) AN5 rfl Ay rfl Db fun Fa Fb Fc Dc Dd=>?_;obtain rfl:=Dc;refine AAb 88 true (ACh AHl rfl (AAb 88 true (AA7 ABt rfl (AAx (Dd 0 _ rfl) Ab.x) (AAb 88 true (AAu rfl rfl (Z4 rfl (Zr (⟨_,rfl,fun Bj=>?_,fun Bj=>?_⟩))))))))
      ·refine Zn (Zt ?_);obtain rfl:=Zl (AA5 B7 Bj);refine Zw (AAc (ABi (AAc (AAc (ABi (AAc ?_))))));obtain rfl:=Zl (Ah _ (Zl B6).symm);exact ⟨_,Zy,Ab.x,rfl⟩
      ·refine Zv (q_t ?_);exact ⟨(():Unit),⟨Zl (AA6 B7 Bj),Ab⟩,trivial⟩
     ·rw [decide_eq_false Ar];refine ADq 88 false (ADq 88 false (ADb 88 false (Zz rfl (Zr (AAw rfl (Zv (q_t ?_)))))));exact ⟨(():Unit),⟨Zl (ifF B5 Ar),Ab⟩,trivial⟩
    rintro ⟨⟩ Fd Fe ⟨De,Bl⟩;subst De;refine Zn (Zj (ABm AAg rfl ((Bl.o2 p0).rowI Am Bz) (Zj (Zr (Zs (AG4 664532868254043329770207741135421504 B6 (fun x=>[(106,(.int .i64 x))]) (fun x=>Bl.L) Bl ⟨rfl,trivial⟩ ?_))))));rintro Df Ff Fg Fh Ai Bm B8;unfold AL1 at Bm;refine Zn (AAu rfl rfl (Zr (Zo (⟨_,rfl,fun Bn=>?_,fun Bn=>?_⟩))))
    ·refine Zv (q_t (Zo (Zs (Zn (Zj ?_)))));obtain ⟨Fi,Dg,Dh⟩:=Zp (AA5 Bm Bn);obtain ⟨Fj,Di,B9⟩:=Zp Dh;refine AIs (m:=Ag) AAg AAk (Ai.o2 p0) Am Dg Di fun _=>(AAl (AA4 (Zj (Zj (ACk rfl rfl (Zj ?_))))));by_cases Au: ¬ Df=Ag
     ·have Ca:=ifT B9 Au;rw [decide_eq_true Au];refine AAb 114 true (Zj (AAb 114 true (ACk rfl rfl (Z4 rfl (Zr (⟨_,rfl,fun Bo=>?_,fun Bo=>?_⟩))))))
      ·refine Zn (Zt (Zw (ABi (AAc (AAc (ABi (ABi (AAc (AAc (ABi (AAc ?_)))))))))));obtain rfl:=Zl (Ah _ (Zl (B8 _ (Zl (AA5 Ca Bo)).symm)).symm);exact ⟨_,Zy,Ai.x,rfl⟩
      ·refine Zv (q_b (q_t (AAa (AA0 rfl rfl (Zj (Zr ?_))))));exact ⟨_,(Zl (AA6 Ca Bo)).symm,Ai,rfl,trivial⟩
     ·rw [decide_eq_false Au];refine AGz 114 false (Zz rfl (Zr (AAw rfl (Zv (q_b (q_t (AAa (AA0 rfl rfl (Zj (Zr ?_))))))))));exact ⟨_,(Zl (ifF B9 Au)).symm,Ai,rfl,trivial⟩
    ·refine AAh (AAi (AAi (ABj (q_b (q_t (AAa (AA0 rfl rfl (Zj (Zr ?_)))))))));exact ⟨_,(Zl (B8 _ (Zl (AA6 Bm Bn)).symm)).symm,Ai,rfl,trivial⟩
   ·refine AAh (AAi (AAi (ABj (q_t (Zn (Zt (Zw ?_)))))));obtain rfl:=Zl (Ah _ (Zl (AA6 Bf Bg)).symm);exact ⟨_,Zy,Aa.x,rfl⟩
noncomputable def AI7 (fuel:Nat) (a3 a8:LiI) (Aa:Int):Option ((Int) ⊕ ((Int) ⊕ (Unit))):=
  (if Aa < (a8.length:Int) then ((gI a8 Aa).bind fun Ad=>(if ¬ (Ad.length:Int)=(a3.length:Int) then (some (Sum.inr<| Sum.inl <| 3)) else (some (Sum.inl (w64 (Aa + 1)))))) else (some (Sum.inr<| Sum.inr <| ())))
noncomputable def AEf (fuel:Nat) (a3:LiI) (a5:Int) (a8:LiI) (Ad:(List AF5)):Option Int:=
  ((AOd fuel a3).bind fun Ae=>(if (!Ae)=true then (some 6) else ((ALv fuel a5).bind fun Af=>(if (!Af)=true then (some 20) else (((if ¬ (a8.length:Int)=(a3.length:Int) then (some (Sum.inl <| 3)) else (if ¬ (Ad.length:Int)=(a3.length:Int) then (some (Sum.inl <| 3)) else (some (Sum.inr <| ())))):Option ((Int) ⊕ (Unit))).bind (fun ex=>match ex with | Sum.inl Ag=>(some Ag) | Sum.inr (_)=>((iter (fun s=>AI7 fuel a3 a8 s) fuel 0).bind (fun ex=>match ex with | Sum.inl Ah=>(some Ah) | Sum.inr (_)=>((ACw fuel a3 a5).bind fun Ai=>((AI3 fuel a5 Ai).bind fun Aj=>((AL9 fuel a3 a5 a8 Ad Aj).bind fun Ak=>(if (!Ak)=true then (some 10) else (some 0)))))))))))))
theorem ARm {fuel:Nat} {h:Zu} {A4:Value} {a3:LiI} {a5:Int} {Ad:Value} {a8:LiI} {Ae:Value} {A5:(List AF5)} {r:Int} (H2:AC5 (cI .i64) h A4 a3) (H7:AC5 (cI .i64) h Ad a8) (A6:SlC AOr h Ae A5) (HO:AU3 h) (hp:AEf fuel a3 a5 a8 A5=some r):AAv Tryz.prog 11 #[A4,(.agg #[(.int .i64 a5),Ad,Ae])] h (fun x h'=>Ext h h'/\x= .int .i64 r):=by
 unfold AEf at hp;refine cwf (l:=[_,_]) Tryz.func11 rfl rfl (Zn (AG8 (Kst.k0 h) [(.int .i64 a5),Ad,Ae] fun Bx By Bz A7=>Zt (Zo (Zn (Zj ?_)))));obtain ⟨B1,Bh,A8⟩:=Zp hp;refine ACl A7 (AWs (H2.ext A7.x) Bh) fun B3 B4 Ah=>ACt rfl (Zr (⟨_,rfl,fun Ap=>?_,fun Ap=>?_⟩))
 ·refine Zn (Zt (Zw (AAc ?_)));obtain rfl:=Zl (ifT A8 Ap);exact ⟨_,Zy,Ah.x,rfl⟩
 ·refine Zv (q_t (Zo (Zn (ADa AKq AAk (Ah.b p0) 0 rfl ?_))));obtain ⟨B5,Bi,A9⟩:=Zp (AF9 A8 Ap);refine ACl Ah (ASa (HO.ext Ah.x) Bi) fun B6 B7 Ab=>ACt rfl (Zr (⟨_,rfl,fun Aq=>?_,fun Aq=>?_⟩))
  ·refine Zn (Zt (Zw (AAc ?_)));obtain rfl:=Zl (ifT A9 Aq);exact ⟨_,Zy,Ab.x,rfl⟩
  ·refine Zv (q_t (Zn (Zj (AA8 AAf rfl H2 (Zt ?_)))));obtain ⟨Bj,Ba,Ar⟩:=Zp (AF9 A9 Aq);refine AKb 536739856 (fun x:Unit=>[]) (fun x h'=>(Sum.inr <| ())=Bj/\Kst h h' (Ab.L)) ?_ ?_
   ·refine Zn (ADa AOt AEz (Ab.b p0) 1 rfl (AA8 AAf rfl H7 (Zj (ACk rfl rfl (Zj ?_)))));by_cases Ai: ¬ (a8.length:Int)=(a3.length:Int)
    ·rw [decide_eq_true Ai];refine ADq 22 true (Z4 rfl (Zr (AAr rfl (Zn (Zt ?_)))));obtain rfl:=Zl (ifT Ba Ai);refine Zw (AAc ?_);obtain rfl:=Zl Ar;exact ⟨_,Zy,Ab.x,rfl⟩
    ·have Bb:=ifF Ba Ai;rw [decide_eq_false Ai];refine AAb 22 false (ACh AKr rfl (AAb 22 false (AA7 AQj rfl ((Ab.b p0).cell (i:=2) rfl) (AAb 22 false (ABm AN5 rfl A6 (AAb 22 false (Zj (AAb 22 false (ACk rfl rfl (Zz rfl (Zr (⟨_,rfl,fun Au=>?_,fun Au=>?_⟩))))))))))))
     ·refine Zn (Zt ?_);obtain rfl:=Zl (AA5 Bb Au);refine Zw (AAc ?_);obtain rfl:=Zl Ar;exact ⟨_,Zy,Ab.x,rfl⟩
     ·refine Zv (q_t ?_);exact ⟨(():Unit),⟨Zl (AA6 Bb Au),Ab⟩,trivial⟩
   rintro ⟨⟩ B8 B9 ⟨Bl,Av⟩;subst Bl;refine Zo (Zn (ADa AOt AEz (Av.b p0) 1 rfl (AA8 AAf rfl H7 (Zj (Zr (Zs (AG4 2194728288400 Ar (fun x=>[(32,(.int .i64 x))]) (fun x=>Av.L) Av ⟨rfl,trivial⟩ ?_)))))));rintro Ca Cb Aw Cd Aa Ax Bc;unfold AI7 at Ax;refine Zn (AAu rfl rfl (Zr (Zo (⟨_,rfl,fun Ay=>?_,fun Ay=>?_⟩))))
   ·refine Zv (q_t (Zo (Zs (Zn ?_))));obtain ⟨Ce,Bm,Be⟩:=Zp (AA5 Ax Ay);refine AGs AAf AA2 H7 Aa.x Bm fun _ Cf Bn=>AA4 (Zj (ABm AAg rfl Bn (Zj (ACk rfl rfl (Zr (⟨_,rfl,fun Az=>?_,fun Az=>?_⟩))))))
    ·refine Zn (Zt (Zw (ABi (AAc (AAc (ABi (AAc ?_)))))));obtain rfl:=Zl (Bc _ (Zl (AA5 Be Az)).symm);exact ⟨_,Zy,Aa.x,rfl⟩
    ·refine Zv (q_b (q_t (AAa (AA0 rfl rfl (Zj (Zr ?_))))));exact ⟨_,(Zl (AA6 Be Az)).symm,Aa,rfl,trivial⟩
   ·refine AAh (AAi (AAi (ABj (q_t (Zo (Zo (ACd (fun h'=>UpT [] Aw h') Zx ?_)))))));have Aj:UpT [] Aw Aw:=UpT.start all_nil;refine Zj (AH6 [(.int .i64 a5),Ad,Ae] ANl rfl rfl Aj (fun h' hb=>((Aa.b p0).ext hb.ext).agg) (ACh AKq rfl (ACf AAk rfl Aj (fun h' hb=>((Aa.b p0).ext hb.ext).cell (i:=0) rfl) (Zj (ACh AKq rfl (ACf AAk rfl Aj (fun h' hb=>((Aa.b p0).ext hb.ext).cell (i:=0) rfl) ?_))))));obtain ⟨Cg,Bo,Bp⟩:=Zp (Bc _ (Zl (AA6 Ax Ay)).symm);refine Aaw Aa Aj (AJa (H2.ext Aa.x) (HO.ext Aa.x) Bo) fun Ch Ci Bq Br=>?_;obtain ⟨Cj,Bt,Bu⟩:=Zp Bp;refine Aaw Bq Br (AO2 Bt) fun Ck Cm Ak Bv=>?_;obtain ⟨Cn,Bw,Bf⟩:=Zp Bu;refine Aaw Ak Bv (AW0 (H2.ext Ak.x) (H7.ext Ak.x) (A6.ext Ak.x) Bw) fun Co Cp Bg Cq=>ACt rfl (Zr (⟨_,rfl,fun A3=>?_,fun A3=>?_⟩))
    ·refine Zn (Zt (Zw (AAc ?_)));obtain rfl:=Zl (ifT Bf A3);exact ⟨_,Zy,Bg.x,rfl⟩
    ·refine Zv (q_t (Zn (Zt (Zw ?_))));obtain rfl:=Zl (AF9 Bf A3);exact ⟨_,Zy,Bg.x,rfl⟩
def AGk (fuel:Nat) (a1 a2 a3 a4 a5 a6 a7:Int):Option Bool:=
  (((if a6=2 then (some ( (w64 (a7 - 3)))) else (some ( (w64 (a7 - 1))))):Option ((Int))).bind (fun (Ai:Int)=>(((if a1 < 0 then (some (Sum.inl <| false)) else (if Ai < a1 then (some (Sum.inl <| false)) else (some (Sum.inr <| ())))):Option ((Bool) ⊕ (Unit))).bind (fun ex=>match ex with | Sum.inl Aj=>(some Aj) | Sum.inr (_)=>((ADx fuel a6 (w64 (a7 - a1))).bind fun Ae=>(if a2=1 then (if 0 < a3 then (if a3 < Ae then (if a6≠0 then (if ¬ (Int.tmod a3 a6)=0 then (if a4=0 then (some (decide (a5=0))) else (some false)) else (some false)) else none) else (some false)) else (some false)) else (if 0<=a3 then (if a3 < Ae then (if 0<=a4 then (if a4 < Ae then (if 0<=a5 then (if a5 < Ae then (if (Int.tmod a3 2)=0 then (if (Int.tmod a4 2)=1 then (some (decide ((Int.tmod a5 2)=0))) else (some false)) else (some false)) else (some false)) else (some false)) else (some false)) else (some false)) else (some false)) else (some false))))))))
theorem ARw {fuel:Nat} {h:Zu} {a1 a2 a3 a4 a5 a6 a7:Int} {r:Bool} (hp:AGk fuel a1 a2 a3 a4 a5 a6 a7=some r):AAv Tryz.prog 80 #[(.agg #[(.int .i64 a1),(.int .i64 a2),(.int .i64 a3),(.int .i64 a4),(.int .i64 a5)]),(.int .i64 a6),(.int .i64 a7)] h (fun x h'=>Ext h h'/\x= .bool r):=by
 unfold AGk at hp;refine cwf (l:=[_,_,_]) Tryz.func80 rfl rfl (Zn (AG8 (Kst.k0 h) [(.int .i64 a1),(.int .i64 a2),(.int .i64 a3),(.int .i64 a4),(.int .i64 a5)] fun b8 h9 B4 A4=>AA4 (Zj (AFg rfl rfl (Zt ?_)))));obtain ⟨Bt,A9,Bu⟩:=Zp hp;refine AKb 30848 (fun x:(Int)=>[(7,(.int .i64 x))]) (fun x h'=>( x)=Bt/\Kst h h' (A4.L)) ?_ ?_
 ·refine Zn (Zj (AB2 rfl rfl (Zr (⟨_,rfl,fun A5=>?_,fun A5=>?_⟩))))
  ·refine AAa (Zj (AFg rfl rfl (Zt ?_)));exact ⟨((w64 (a7 - 3)):(Int)),⟨Zl (AA5 A9 A5),A4⟩,rfl,trivial⟩
  ·refine Zv (q_t ?_);exact ⟨((w64 (a7 - 1)):(Int)),⟨Zl (AA6 A9 A5),A4⟩,rfl,trivial⟩
 rintro B5 B6 B7 ⟨Bv,Ad⟩;subst Bv;obtain ⟨Bw,Ba,A6⟩:=Zp Bu;refine AKb 16744512 (fun x:Unit=>[]) (fun x h'=>(Sum.inr <| ())=Bw/\Kst h h' (Ad.L)) ?_ ?_
 ·refine Zn (ADa AHl ABt (Ad.b p0) 0 rfl (AAu rfl rfl (Zj ?_)));by_cases Ah:a1 < 0
  ·rw [decide_eq_true Ah];refine ADb 18 true (Z4 rfl (Zr (AAr rfl (Zn (Zt ?_)))));obtain rfl:=Zl (ifT Ba Ah);refine Zw (AAc ?_);obtain rfl:=Zl A6;exact ⟨_,Zy,Ad.x,rfl⟩
  ·have Bb:=ifF Ba Ah;rw [decide_eq_false Ah];refine AAb 18 false (ACh AHl rfl (AAb 18 false (AA7 ABt rfl ((Ad.b p0).cell (i:=0) rfl) (AAb 18 false (Zj (AAb 18 false (AGb rfl rfl (Zz rfl (Zr (⟨_,rfl,fun A7=>?_,fun A7=>?_⟩))))))))))
   ·refine Zn (Zt ?_);obtain rfl:=Zl (AA5 Bb A7);refine Zw (AAc ?_);obtain rfl:=Zl A6;exact ⟨_,Zy,Ad.x,rfl⟩
   ·refine Zv (q_t ?_);exact ⟨(():Unit),⟨Zl (AA6 Bb A7),Ad⟩,trivial⟩
 rintro ⟨⟩ B8 B9 ⟨Bx,Bc⟩;subst Bx;refine Zn (Zj (Zj (ADa AHl ABt (Bc.b p0) 0 rfl (AFg rfl rfl ?_))));obtain ⟨Ai,By,Be⟩:=Zp A6;refine ACl Bc (AKi By) fun Ca Cb Aa=>Zt (Zo (Zn (ADa AXf ABt (Aa.b p0) 1 rfl (AB2 rfl rfl (Zr (⟨_,rfl,fun A8=>?_,fun A8=>?_⟩))))))
 ·refine Zn (ADa AM9 AAk (Aa.b p0) 2 rfl (AGb rfl rfl (Zj ?_)));have Bf:=AA5 Be A8;by_cases Aj:0 < a3
  ·have Bg:=ifT Bf Aj;rw [decide_eq_true Aj];refine AAb 36 true (ACh AM9 rfl (AAb 36 true (AA7 AAk rfl ((Aa.b p0).cell (i:=2) rfl) (AAb 36 true (Zj (AAb 36 true (AAu rfl rfl (Z4 rfl (Zj ?_)))))))));by_cases Ak:a3 < Ai
   ·rw [decide_eq_true Ak];refine AAb 42 true (ACh AM9 rfl (AAb 42 true (AA7 AAk rfl ((Aa.b p0).cell (i:=2) rfl) (AAb 42 true (Zj (AAb 42 true ?_))))));obtain ⟨Bz,Bh⟩:=ifN (ifT Bg Ak);refine ADc rfl rfl Bz (AAb 42 true (ACk rfl rfl (Z4 rfl (Zj ?_))));by_cases Am: ¬ (Int.tmod a3 a6)=0
    ·have Bi:=ifT Bh Am;rw [decide_eq_true Am];refine AAb 49 true (ACh ATt rfl (AAb 49 true (AA7 AAk rfl ((Aa.b p0).cell (i:=3) rfl) (AAb 49 true (AB2 rfl rfl (Z4 rfl (Zj ?_)))))));by_cases Ao:a4=0
     ·rw [decide_eq_true Ao];refine AAb 54 true (ACh AVr rfl (AAb 54 true (AA7 AAk rfl ((Aa.b p0).cell (i:=4) rfl) (AAb 54 true (AB2 rfl rfl (Z4 rfl (Zt (Zw (AAc ?_)))))))));obtain rfl:=Zl (ifT Bi Ao);exact ⟨_,Zy,Aa.x,rfl⟩
     ·rw [decide_eq_false Ao];refine ADe 54 false (Zz rfl (Zt (Zw (AAc ?_))));obtain rfl:=Zl (ifF Bi Ao);exact ⟨_,Zy,Aa.x,rfl⟩
    ·rw [decide_eq_false Am];refine ADe 49 false (Zz rfl (Zj (ADe 54 false (Zz rfl (Zt (Zw (AAc ?_)))))));obtain rfl:=Zl (ifF Bh Am);exact ⟨_,Zy,Aa.x,rfl⟩
   ·rw [decide_eq_false Ak];refine ADq 42 false (Zz rfl (Zj (ADe 49 false (Zz rfl (Zj (ADe 54 false (Zz rfl (Zt (Zw (AAc ?_))))))))));obtain rfl:=Zl (ifF Bg Ak);exact ⟨_,Zy,Aa.x,rfl⟩
  ·rw [decide_eq_false Aj];refine ADb 36 false (Zz rfl (Zj (ADq 42 false (Zz rfl (Zj (ADe 49 false (Zz rfl (Zj (ADe 54 false (Zz rfl (Zt (Zw (AAc ?_)))))))))))));obtain rfl:=Zl (ifF Bf Aj);exact ⟨_,Zy,Aa.x,rfl⟩
 ·refine Zv (q_t (Zn (ADa AM9 AAk (Aa.b p0) 2 rfl (AMf rfl rfl (Zj ?_)))));have Bj:=AA6 Be A8;by_cases Ap:0<=a3
  ·have Bl:=ifT Bj Ap;rw [decide_eq_true Ap];refine AAb 62 true (ACh AM9 rfl (AAb 62 true (AA7 AAk rfl ((Aa.b p0).cell (i:=2) rfl) (AAb 62 true (Zj (AAb 62 true (AAu rfl rfl (Z4 rfl (Zj ?_)))))))));by_cases Aq:a3 < Ai
   ·have Bm:=ifT Bl Aq;rw [decide_eq_true Aq];refine AAb 68 true (ACh ATt rfl (AAb 68 true (AA7 AAk rfl ((Aa.b p0).cell (i:=3) rfl) (AAb 68 true (AMf rfl rfl (Z4 rfl (Zj ?_)))))));by_cases Ar:0<=a4
    ·have Bn:=ifT Bm Ar;rw [decide_eq_true Ar];refine AAb 73 true (ACh ATt rfl (AAb 73 true (AA7 AAk rfl ((Aa.b p0).cell (i:=3) rfl) (AAb 73 true (Zj (AAb 73 true (AAu rfl rfl (Z4 rfl (Zj ?_)))))))));by_cases Au:a4 < Ai
     ·have Bo:=ifT Bn Au;rw [decide_eq_true Au];refine AAb 79 true (ACh AVr rfl (AAb 79 true (AA7 AAk rfl ((Aa.b p0).cell (i:=4) rfl) (AAb 79 true (AMf rfl rfl (Z4 rfl (Zj ?_)))))));by_cases Av:0<=a5
      ·have Bp:=ifT Bo Av;rw [decide_eq_true Av];refine AAb 84 true (ACh AVr rfl (AAb 84 true (AA7 AAk rfl ((Aa.b p0).cell (i:=4) rfl) (AAb 84 true (Zj (AAb 84 true (AAu rfl rfl (Z4 rfl (Zj ?_)))))))));by_cases Aw:a5 < Ai
       ·have Bq:=ifT Bp Aw;rw [decide_eq_true Aw];refine AAb 90 true (ACh AM9 rfl (AAb 90 true (AA7 AAk rfl ((Aa.b p0).cell (i:=2) rfl) (AAb 90 true (ADc rfl rfl Zk (AAb 90 true (AB2 rfl rfl (Z4 rfl (Zj ?_)))))))));by_cases Ax:(Int.tmod a3 2)=0
        ·have Br:=ifT Bq Ax;rw [decide_eq_true Ax];refine AAb 96 true (ACh ATt rfl (AAb 96 true (AA7 AAk rfl ((Aa.b p0).cell (i:=3) rfl) (AAb 96 true (ADc rfl rfl Zk (AAb 96 true (AB2 rfl rfl (Z4 rfl (Zj ?_)))))))));by_cases Ay:(Int.tmod a4 2)=1
         ·rw [decide_eq_true Ay];refine AAb 102 true (ACh AVr rfl (AAb 102 true (AA7 AAk rfl ((Aa.b p0).cell (i:=4) rfl) (AAb 102 true (ADc rfl rfl Zk (AAb 102 true (AB2 rfl rfl (Z4 rfl (Zt (Zw ?_))))))))));obtain rfl:=Zl (ifT Br Ay);exact ⟨_,Zy,Aa.x,rfl⟩
         ·rw [decide_eq_false Ay];refine ADb 102 false (Zz rfl (Zt (Zw ?_)));obtain rfl:=Zl (ifF Br Ay);exact ⟨_,Zy,Aa.x,rfl⟩
        ·rw [decide_eq_false Ax];refine ADb 96 false (Zz rfl (Zj (ADb 102 false (Zz rfl (Zt (Zw ?_))))));obtain rfl:=Zl (ifF Bq Ax);exact ⟨_,Zy,Aa.x,rfl⟩
       ·rw [decide_eq_false Aw];refine ADb 90 false (Zz rfl (Zj (ADb 96 false (Zz rfl (Zj (ADb 102 false (Zz rfl (Zt (Zw ?_)))))))));obtain rfl:=Zl (ifF Bp Aw);exact ⟨_,Zy,Aa.x,rfl⟩
      ·rw [decide_eq_false Av];refine ADb 84 false (Zz rfl (Zj (ADb 90 false (Zz rfl (Zj (ADb 96 false (Zz rfl (Zj (ADb 102 false (Zz rfl (Zt (Zw ?_))))))))))));obtain rfl:=Zl (ifF Bo Av);exact ⟨_,Zy,Aa.x,rfl⟩
     ·rw [decide_eq_false Au];refine ADe 79 false (Zz rfl (Zj (ADb 84 false (Zz rfl (Zj (ADb 90 false (Zz rfl (Zj (ADb 96 false (Zz rfl (Zj (ADb 102 false (Zz rfl (Zt (Zw ?_)))))))))))))));obtain rfl:=Zl (ifF Bn Au);exact ⟨_,Zy,Aa.x,rfl⟩
    ·rw [decide_eq_false Ar];refine ADb 73 false (Zz rfl (Zj (ADe 79 false (Zz rfl (Zj (ADb 84 false (Zz rfl (Zj (ADb 90 false (Zz rfl (Zj (ADb 96 false (Zz rfl (Zj (ADb 102 false (Zz rfl (Zt (Zw ?_))))))))))))))))));obtain rfl:=Zl (ifF Bm Ar);exact ⟨_,Zy,Aa.x,rfl⟩
   ·rw [decide_eq_false Aq];refine ADe 68 false (Zz rfl (Zj (ADb 73 false (Zz rfl (Zj (ADe 79 false (Zz rfl (Zj (ADb 84 false (Zz rfl (Zj (ADb 90 false (Zz rfl (Zj (ADb 96 false (Zz rfl (Zj (ADb 102 false (Zz rfl (Zt (Zw ?_)))))))))))))))))))));obtain rfl:=Zl (ifF Bl Aq);exact ⟨_,Zy,Aa.x,rfl⟩
  ·rw [decide_eq_false Ap];refine ADb 62 false (Zz rfl (Zj (ADe 68 false (Zz rfl (Zj (ADb 73 false (Zz rfl (Zj (ADe 79 false (Zz rfl (Zj (ADb 84 false (Zz rfl (Zj (ADb 90 false (Zz rfl (Zj (ADb 96 false (Zz rfl (Zj (ADb 102 false (Zz rfl (Zt (Zw ?_))))))))))))))))))))))));obtain rfl:=Zl (ifF Bj Ap);exact ⟨_,Zy,Aa.x,rfl⟩
def AJu (fuel:Nat) (a3:(List AF5)) (a6 a7 Aa Ah:Int) (Ae:LiI):Option ((Int × Int × LiI) ⊕ ((LiI))):=
  (if Ah < (a3.length:Int) then ((gI a3 Ah).bind fun Ac=>((ADx fuel a6 Ac.1).bind fun Ad=>((gI Ae Aa).bind fun Af=>(if a7≠0 then ((gI Af Aa).bind fun Ap=>(((if Ac.2.1=2 then ((gI (sI Ae Aa (sI Af Aa (Int.tmod (w64 (Ad * Ac.2.2.1)) a7))) Aa).bind fun Ag=>(if a7≠0 then ((gI Ag (w64 (Aa + 1))).bind fun Aq=>((gI (sI (sI Ae Aa (sI Af Aa (Int.tmod (w64 (Ad * Ac.2.2.1)) a7))) Aa (sI Ag (w64 (Aa + 1)) (Int.tmod (w64 (Ad * Ac.2.2.2.1)) a7))) (w64 (Aa + 1))).bind fun Ai=>(if a7≠0 then ((gI Ai Aa).bind fun Ar=>((gI (sI (sI (sI Ae Aa (sI Af Aa (Int.tmod (w64 (Ad * Ac.2.2.1)) a7))) Aa (sI Ag (w64 (Aa + 1)) (Int.tmod (w64 (Ad * Ac.2.2.2.1)) a7))) (w64 (Aa + 1)) (sI Ai Aa (Int.tmod (w64 (Ad * Ac.2.2.2.1)) a7))) (w64 (Aa + 1))).bind fun Ak=>(if a7≠0 then ((gI Ak (w64 (Aa + 1))).bind fun Au=>(some ( (sI (sI (sI (sI Ae Aa (sI Af Aa (Int.tmod (w64 (Ad * Ac.2.2.1)) a7))) Aa (sI Ag (w64 (Aa + 1)) (Int.tmod (w64 (Ad * Ac.2.2.2.1)) a7))) (w64 (Aa + 1)) (sI Ai Aa (Int.tmod (w64 (Ad * Ac.2.2.2.1)) a7))) (w64 (Aa + 1)) (sI Ak (w64 (Aa + 1)) (Int.tmod (w64 (Ad * Ac.2.2.2.2)) a7)))))) else none))) else none))) else none)) else (some ( (sI Ae Aa (sI Af Aa (Int.tmod (w64 (Ad * Ac.2.2.1)) a7)))))):Option ((LiI))).bind (fun (Ao:LiI)=>(some (Sum.inl ((w64 (Aa + Ac.2.1)),(w64 (Ah + 1)),Ao)))))) else none)))) else (some (Sum.inr<| Ae)))
def AGw (fuel:Nat) (a5 Ab:Int) (Ac:LiI):Option ((Int × LiI) ⊕ ((LiI))):=
  (if Ab < ((List.replicate (Int.toNat a5) ([]:List Int)).length:Int) then (if 0<=a5/\a5<=100000000 then ((gI Ac Ab).bind fun Ad=>(some (Sum.inl ((w64 (Ab + 1)),(sI Ac Ab (List.replicate (Int.toNat a5) (0:Int))))))) else none) else (some (Sum.inr<| Ac)))
def AGl (fuel:Nat) (a3:(List AF5)) (a5 a6 a7:Int):Option LiI:=
  (if 0<=a5/\a5<=100000000 then ((iter (fun s=>AGw fuel a5 s.1 s.2) fuel (0,(List.replicate (Int.toNat a5) ([]:List Int)))).bind (fun (Ae:LiI)=>((iter (fun s=>AJu fuel a3 a6 a7 s.1 s.2.1 s.2.2) fuel (0,0,Ae)).bind (fun (Af:LiI)=>(some Af))))) else none)
theorem ARx {fuel:Nat} {h:Zu} {Ax:Value} {a3:(List AF5)} {a5 a6 a7:Int} {r:LiI} (H2:SlC AOr h Ax a3) (hp:AGl fuel a3 a5 a6 a7=some r):AAv Tryz.prog 84 #[Ax,(.int .i64 a5),(.int .i64 a6),(.int .i64 a7)] h (fun x h'=>Ext h h'/\ ∃ (x0:Value) (F0:List Nat) (Bm:List LnA) (Bn:List Value),x=x0/\ACs (cI .i64) 60 2 h' F0 Bm Bn x0 r/\Sp h' h.size [F0]):=by
 unfold AGl at hp;refine cwf (l:=[_,_,_,_]) Tryz.func84 rfl rfl (Zn (AA4 (Zj ?_)));obtain ⟨Bo,Bp⟩:=ifN hp;refine AR7 (cI .i64) 2 AAf AMd rfl trivial tt2 rfl rfl Zk Bo fun Bq Br Bt Ai Do Bu Bv Bw=>Zt (Zo (Zn (Zj ?_)));have Aj:=(Kst.k0 h).no2 Bv Bw Bu;refine AA8 AAf rfl (Aj.o2 p0).rd (Zj (Zr (Zs (AFj 267912192 (fun x:(Int) × (LiI) × LnA × LnN × LvA=>(x.1,x.2.1)) ((0,(List.replicate (Int.toNat a5) ([]:List Int)),Bq,Br,Bt):(Int) × (LiI) × LnA × LnN × LvA) Bp (fun x=>[(19,(.int .i64 x.1))]) (fun x=>Aj.L.set 0 (aO2 (cI .i64) 60 2 x.2.2.1 x.2.2.2.1 x.2.2.2.2 Ai x.2.1)) Aj ⟨rfl,trivial⟩ ?_))));rintro ⟨Dp,Bx,By,Bz,B1⟩ Dq Dr Ds Ak Am B3;unfold AGw at Am;refine Zn (AAu rfl rfl (Zr (Zo (⟨_,rfl,fun Ao=>?_,fun Ao=>?_⟩))))
 ·refine Zv (q_t (Zo (Zs (Zn (Zj (Zt (AAa (Zj (Zj (Zj ?_))))))))));obtain ⟨B4,B5⟩:=ifN (AA5 Am Ao);refine AP6 (c:=(cI .i64)) (a:=0) AAg AIu rfl rfl (fun _=>rfl) rfl trivial tt2 rfl rfl Zk B4 fun Dt Du Dv B6 B7 B8 B9=>?_;have Ae:=Ak.no B7 (AE5 B8 B9) B6;obtain ⟨Dw,A6,Ca⟩:=Zp B5;refine AC2 AAf rfl (Ae.o2 p1) rfl A6 fun Dx Dy Cb Dz D0=>AR6 AA2 (Ae.o2 p1) A6 Cb rfl rfl (Ae.o p0) (Ae.dj p0 p1 Zk) fun D1 Cd Ce Cf=>AAn (q_b (q_t (AAa (AA0 rfl rfl (Zj (Zr ?_))))));exact ⟨(_,_,_,_,_),(Zl Ca).symm,(Ae.m2 p0 p1 Zk Ce Cd (fun z hz=> .inl (Cf z hz))).sel [1] Zk,rfl,trivial⟩
 ·refine AAh (AAi (AAi (ABj (q_t (Zn (Zt (Zo (Zn (Zj (ABm AN5 rfl H2 (Zj (Zr (Zs (AFj 316912650057057350373102086144 (fun x:(Int) × (Int) × (LiI) × LnA × LnN × LvA=>(x.1,x.2.1,x.2.2.1)) ((0,0,Bx,By,Bz,B1):(Int) × (Int) × (LiI) × LnA × LnN × LvA) (B3 _ (Zl (AA6 Am Ao)).symm) (fun x=>[(11,(.int .i64 x.1)),(30,(.int .i64 x.2.1))]) (fun x=>Ak.L.set 0 (aO2 (cI .i64) 60 2 x.2.2.2.1 x.2.2.2.2.1 x.2.2.2.2.2 Ai x.2.2.1)) Ak ⟨rfl,rfl,trivial⟩ ?_))))))))))))));rintro ⟨Aa,D2,A7,A8,A9,Ba⟩ D3 D4 D5 Af Ap Cg;unfold AJu at Ap;refine Zn (AAu rfl rfl (Zr (Zo (⟨_,rfl,fun Aq=>?_,fun Aq=>?_⟩))))
  ·refine Zv (q_t (Zo (Zs (Zn ?_))));obtain ⟨Ab,Ch,Ci⟩:=Zp (AA5 Ap Aq);refine AIw (c:=AOr) AN5 rfl H2 rfl Ch fun D6 D7 D8 Cj Ck=>?_;obtain rfl:=Cj;refine AN4 (c:=AOr) AKz rfl rfl (fun j u hu=>(AAx (Ck j u hu) Af.x)) (AC1 Af [(.int .i64 0),(.int .i64 0),(.int .i64 0),(.int .i64 0),(.int .i64 0)] AQ8 fun D9 Ea Eb Bb=>AB8 [(.int .i64 Ab.1),(.int .i64 Ab.2.1),(.int .i64 Ab.2.2.1),(.int .i64 Ab.2.2.2.1),(.int .i64 Ab.2.2.2.2)] AKz rfl rfl rfl rfl (by simp [isOne]) (Bb.b p0) fun Ec Cm Cn=>AH7 ?_);have Bc:=Bb.sb p0 Cn Cm rfl;refine Zj (ADa AHl ABt (Bc.b p0) 0 rfl ?_);obtain ⟨Ag,Co,Cp⟩:=Zp Ci;refine ACl Bc (AKi Co) fun Ed Ee Ar=>Zt (Zo (AF8 (Zj (Zj ?_))));obtain ⟨Be,Bf,Cq⟩:=Zp Cp;refine ABy AAf AA2 (Ar.o2 p1) Bf fun _ Ef Cr=>Zj (Zj (ADa AM9 AAk (Ar.b p0) 2 rfl (AL3 rfl rfl (Zj ?_))));obtain ⟨Ct,Cu⟩:=ifN Cq;refine ADc rfl rfl Ct ?_;obtain ⟨Eg,Cv,Cw⟩:=Zp Cu;refine ALj (m:=Aa) Ar p1 AAg AAk Cr Bf Cv (fun _=>rfl) fun _ Eh Ad=>Zr ?_;obtain ⟨Cx,Bg,Cy⟩:=Zp Cw;refine AKb 9903520314281916299286151168 (fun x:(LiI) × LnA × LnN × LvA=>[]) (fun x h'=>( x.1)=Cx/\Kst h h' (Ad.L.set 1 (aO2 (cI .i64) 60 2 x.2.1 x.2.2.1 x.2.2.2 Ai x.1))) ?_ ?_
   ·refine Zn (ADa AXf ABt (Ad.b p0) 1 rfl (AB2 rfl rfl (Zr (⟨_,rfl,fun Au=>?_,fun Au=>?_⟩))))
    ·refine Zo (AF8 (Zj (Zj ?_)));obtain ⟨Cz,Bh,C0⟩:=Zp (AA5 Bg Au);refine ABy AAf AA2 (Ad.o2 p1) Bh fun _ Ei C1=>Zj (AA0 rfl rfl (Zj (ADa ATt AAk (Ad.b p0) 3 rfl (AL3 rfl rfl (Zj ?_)))));obtain ⟨C2,C3⟩:=ifN C0;refine ADc rfl rfl C2 ?_;obtain ⟨Ej,C4,C5⟩:=Zp C3;refine ALj (m:=Aa) Ad p1 AAg AAk C1 Bh C4 (fun _=>rfl) fun _ Ek Av=>Zr (Zo (AF8 (Zj (Zj (AA0 rfl rfl ?_)))));obtain ⟨C6,Bi,C7⟩:=Zp C5;refine ABy AAf AA2 (Av.o2 p1) Bi fun _ El C8=>Zj (Zj (ADa ATt AAk (Av.b p0) 3 rfl (AL3 rfl rfl (Zj ?_))));obtain ⟨C9,Da⟩:=ifN C7;refine ADc rfl rfl C9 ?_;obtain ⟨Em,Db,Dc⟩:=Zp Da;refine ALj (m:=(w64 (Aa + 1))) Av p1 AAg AAk C8 Bi Db (fun _=>rfl) fun _ En Aw=>Zr (AF8 (Zj (Zj (AA0 rfl rfl ?_))));obtain ⟨Dd,Bj,De⟩:=Zp Dc;refine ABy AAf AA2 (Aw.o2 p1) Bj fun _ Eo Df=>Zj (AA0 rfl rfl (Zj (ADa AVr AAk (Aw.b p0) 4 rfl (AL3 rfl rfl (Zj ?_)))));obtain ⟨Dg,Dh⟩:=ifN De;refine ADc rfl rfl Dg ?_;obtain ⟨Ep,Di,Dj⟩:=Zp Dh;refine ALj (m:=(w64 (Aa + 1))) Aw p1 AAg AAk Df Bj Di (fun _=>rfl) fun _ Er Dk=>Zr ?_;exact ⟨(((sI (sI (sI (sI A7 Aa (sI Be Aa (Int.tmod (w64 (Ag * Ab.2.2.1)) a7))) Aa (sI Cz (w64 (Aa + 1)) (Int.tmod (w64 (Ag * Ab.2.2.2.1)) a7))) (w64 (Aa + 1)) (sI C6 Aa (Int.tmod (w64 (Ag * Ab.2.2.2.1)) a7))) (w64 (Aa + 1)) (sI Dd (w64 (Aa + 1)) (Int.tmod (w64 (Ag * Ab.2.2.2.2)) a7))),A8,A9,Ba):(LiI) × LnA × LnN × LvA),⟨Zl Dj,Dk⟩,trivial⟩
    ·refine Zv (q_t ?_);exact ⟨(((sI A7 Aa (sI Be Aa (Int.tmod (w64 (Ag * Ab.2.2.1)) a7))),A8,A9,Ba):(LiI) × LnA × LnN × LvA),⟨Zl (AA6 Bg Au),Ad⟩,trivial⟩
   rintro ⟨Es,Et,Eu,Ev⟩ Ew Ey ⟨Dl,Bl⟩;subst Dl;refine AAa (Zj (ADa AXf ABt (Bl.b p0) 1 rfl (AA0 rfl rfl (AAl (AAn (q_b (q_t (AAa (AA0 rfl rfl (Zj (Zr ?_)))))))))));exact ⟨(_,_,_,_,_,_),(Zl Cy).symm,Bl.sel [1] Zk,rfl,rfl,trivial⟩
  ·refine AAh (AAi (AAi (ABj (q_t (Zn (Zj (Zt (Zw ?_))))))));obtain rfl:=Zl (Cg _ (Zl (AA6 Ap Aq)).symm);exact ⟨_,Zy,Af.x,_,_,_,_,rfl,(Af.o2 p0),Af.s.sel [0] Zk⟩
def AGm (fuel:Nat) (a3:LiI) (Ab:Int):Option ((Int) ⊕ ((Bool) ⊕ (Unit))):=
  (if Ab < (a3.length:Int) then ((gI a3 Ab).bind fun Ac=>(if ¬ (Ac.length:Int)=(a3.length:Int) then (some (Sum.inr<| Sum.inl <| false)) else (some (Sum.inl (w64 (Ab + 1)))))) else (some (Sum.inr<| Sum.inr <| ())))
def AF3 (fuel:Nat) (a3:LiI):Option Bool:=
  ((iter (fun s=>AGm fuel a3 s) fuel 0).bind (fun ex=>match ex with | Sum.inl Ab=>(some Ab) | Sum.inr (_)=>(some true)))
theorem ARn {fuel:Nat} {h:Zu} {Af:Value} {a3:LiI} {r:Bool} (H2:AC5 (cI .i64) h Af a3) (hp:AF3 fuel a3=some r):AAv Tryz.prog 41 #[Af] h (fun x h'=>Ext h h'/\x= .bool r):=by
 unfold AF3 at hp;refine cwf (l:=[_]) Tryz.func41 rfl rfl (Zn (Zt (Zo (Zn (Zj (AA8 AAf rfl H2 (Zj (Zr (Zs ?_)))))))));have K0:=Kst.k0 h;refine AG4 130964 hp (fun x=>[(7,(.int .i64 x))]) (fun x=>K0.L) K0 ⟨rfl,trivial⟩ ?_;rintro Ao Ap h8 y7 Aa Ac Ai;unfold AGm at Ac;refine Zn (AAu rfl rfl (Zr (Zo (⟨_,rfl,fun Ad=>?_,fun Ad=>?_⟩))))
 ·refine Zv (q_t (Zo (Zs (Zn ?_))));obtain ⟨Au,Ak,Aj⟩:=Zp (AA5 Ac Ad);refine AGs AAf AA2 H2 Aa.x Ak fun _ Av Am=>AA4 (Zj (ABm AAg rfl Am (Zj (AA8 AAf rfl H2 (ACk rfl rfl (Zr (⟨_,rfl,fun Ae=>?_,fun Ae=>?_⟩)))))))
  ·refine Zn (Zt (Zw (ABi (AAc (AAc (ABi (AAc ?_)))))));obtain rfl:=Zl (Ai _ (Zl (AA5 Aj Ae)).symm);exact ⟨_,Zy,Aa.x,rfl⟩
  ·refine Zv (q_b (q_t (AAa (AA0 rfl rfl (Zj (Zr ?_))))));exact ⟨_,(Zl (AA6 Aj Ae)).symm,Aa,rfl,trivial⟩
 ·refine AAh (AAi (AAi (ABj (q_t (Zn (Zt (Zw ?_)))))));obtain rfl:=Zl (Ai _ (Zl (AA6 Ac Ad)).symm);exact ⟨_,Zy,Aa.x,rfl⟩
def AGx (fuel:Nat) (Ad:Int) (Ab:LiA) (Aa:Int):Option ((Int) ⊕ ((Bool) ⊕ (Unit))):=
  (if Aa < (Ab.length:Int) then ((gI Ab Aa).bind fun Ac=>(if Ac < 0 then (some (Sum.inr<| Sum.inl <| false)) else (if Ad<=Ac then (some (Sum.inr<| Sum.inl <| false)) else (some (Sum.inl (w64 (Aa + 1))))))) else (some (Sum.inr<| Sum.inr <| ())))
def AE3 (fuel:Nat) (a8:LiI) (Ac Aa:Int):Option ((Int) ⊕ ((Bool) ⊕ (Unit))):=
  (if Aa < (a8.length:Int) then ((gI a8 Aa).bind fun Ad=>((iter (fun s=>AGx fuel Ac Ad s) fuel 0).bind (fun ex=>match ex with | Sum.inl Ae=>(some (Sum.inr<| Sum.inl <| Ae)) | Sum.inr (_)=>(some (Sum.inl (w64 (Aa + 1))))))) else (some (Sum.inr<| Sum.inr <| ())))
def AGy (fuel:Nat) (a5:Int) (Ac:(List AF5)) (Ae Aa:Int):Option ((Int) ⊕ ((Bool) ⊕ (Unit))):=
  (if Aa < (Ac.length:Int) then ((gI Ac Aa).bind fun Ab=>((AGk fuel Ab.1 Ab.2.1 Ab.2.2.1 Ab.2.2.2.1 Ab.2.2.2.2 a5 Ae).bind fun Af=>(if (!Af)=true then (some (Sum.inr<| Sum.inl <| false)) else (if 0 < Aa then ((gI Ac (w64 (Aa - 1))).bind fun Ag=>(if Ab.1 < Ag.1 then (some (Sum.inr<| Sum.inl <| false)) else (some (Sum.inl (w64 (Aa + 1)))))) else (some (Sum.inl (w64 (Aa + 1)))))))) else (some (Sum.inr<| Sum.inr <| ())))
def AGn (fuel:Nat) (a3:LiI) (a5:Int) (a8:LiI) (Ae:(List AF5)):Option Bool:=
  ((AEt fuel a3 a5).bind fun Af=>((ADx fuel a5 Af).bind fun Ad=>((iter (fun s=>AGy fuel a5 Ae Af s) fuel 0).bind (fun ex=>match ex with | Sum.inl Ag=>(some Ag) | Sum.inr (_)=>((iter (fun s=>AE3 fuel a8 Ad s) fuel 0).bind (fun ex=>match ex with | Sum.inl Ah=>(some Ah) | Sum.inr (_)=>((AGq fuel a8 a5).bind fun (Ai,Ao)=>((AEd fuel a3 a8 Ad).bind fun (Aj,Ap)=>(if ¬ Ai=0 then ((AGl fuel Ae (a3.length:Int) a5 Ad).bind fun Ak=>((AHf fuel Aj Ak).bind fun Am=>(some Am))) else (some false))))))))))
theorem ARy {fuel:Nat} {h:Zu} {Be:Value} {a3:LiI} {a5:Int} {Ap:Value} {a8:LiI} {Aq:Value} {Bh:(List AF5)} {r:Bool} (H2:AC5 (cI .i64) h Be a3) (H7:AC5 (cI .i64) h Ap a8) (Ah:SlC AOr h Aq Bh) (hp:AGn fuel a3 a5 a8 Bh=some r):AAv Tryz.prog 42 #[Be,(.agg #[(.int .i64 a5),Ap,Aq])] h (fun x h'=>Ext h h'/\x= .bool r):=by
 unfold AGn at hp;refine cwf (l:=[_,_]) Tryz.func42 rfl rfl (Zn (AG8 (Kst.k0 h) [(.int .i64 a5),Ap,Aq] fun Cv Cw Cx Au=>AA4 (Zj (ADa AKq AAk (Au.b p0) 0 rfl ?_))));obtain ⟨Cy,Bu,Bv⟩:=Zp hp;refine ACl Au (ARu (H2.ext Au.x) Bu) fun Cz C0 Bi=>AA4 (ADa AKq AAk (Bi.b p0) 0 rfl (Zj ?_));obtain ⟨C1,Bw,Bx⟩:=Zp Bv;refine ACl Bi (AKi Bw) fun C2 C3 Av=>Zt (Zo (Zn (ADa AKr AQj (Av.b p0) 2 rfl (ABm AN5 rfl Ah (Zj (Zr (Zs (AG4 72057593769492880 Bx (fun x=>[(28,(.int .i64 x))]) (fun x=>Av.L) Av ⟨rfl,trivial⟩ ?_))))))));rintro By C4 C5 C6 Ad Aw Ax;unfold AGy at Aw;refine Zn (AAu rfl rfl (Zr (Zo (⟨_,rfl,fun Ay=>?_,fun Ay=>?_⟩))))
 ·refine Zv (q_t (Zo (Zs (Zn (Zj ?_)))));obtain ⟨Aa,Bz,B1⟩:=Zp (AA5 Aw Ay);refine AIw (c:=AOr) AN5 rfl Ah rfl Bz fun C7 C8 C9 B3 B4=>?_;obtain rfl:=B3;refine AN4 (c:=AOr) AKz rfl rfl (fun j u hu=>(AAx (B4 j u hu) Ad.x)) (AC1 Ad [(.int .i64 0),(.int .i64 0),(.int .i64 0),(.int .i64 0),(.int .i64 0)] AQ8 fun Da Db Dc Bj=>AAl (AB8 [(.int .i64 Aa.1),(.int .i64 Aa.2.1),(.int .i64 Aa.2.2.1),(.int .i64 Aa.2.2.2.1),(.int .i64 Aa.2.2.2.2)] AKz rfl rfl rfl rfl (by simp [isOne]) (Bj.b p0) fun Dd B5 B6=>Zr (Zo (AF8 ?_))));have Az:=Bj.sb p0 B6 B5 rfl;refine ANd [(.int .i64 Aa.1),(.int .i64 Aa.2.1),(.int .i64 Aa.2.2.1),(.int .i64 Aa.2.2.2.1),(.int .i64 Aa.2.2.2.2)] AKz rfl rfl (Az.b p0).agg (ADa AKq AAk (Az.b p1) 0 rfl (Zj ?_));obtain ⟨B7,B8,Bl⟩:=Zp B1;refine ACl Az (ARw B8) fun De Df Ab=>ACt rfl (Zj ?_);cases Bm:(!B7)
  ·refine AAb 39 false (Zj (AAb 39 false (AGb rfl rfl (AAb 39 false (Zj ?_)))));have Bn:=AF9 Bl Bm;by_cases Ai:0 < By
   ·rw [decide_eq_true Ai];refine AAb 42 true (ACh AHl rfl (AAb 42 true (AA7 ABt rfl ((Ab.b p0).cell (i:=0) rfl) (AAb 42 true (ACh AKr rfl (AAb 42 true (AA7 AQj rfl ((Ab.b p1).cell (i:=2) rfl) (AAb 42 true (Zj (AAb 42 true (AFg rfl rfl (AAb 42 true ?_))))))))))));obtain ⟨Dg,B9,Bo⟩:=Zp (ifT Bn Ai);refine AIw (c:=AOr) AN5 rfl Ah rfl B9 fun Dh Di Dj Ca Cb=>?_;obtain rfl:=Ca;refine AAb 42 true (ACh AHl rfl (AAb 42 true (AA7 ABt rfl (AAx (Cb 0 _ rfl) Ab.x) (AAb 42 true (AAu rfl rfl (AAb 39 false (Z4 rfl (Zz rfl (Zr (⟨_,rfl,fun A3=>?_,fun A3=>?_⟩))))))))))
    ·refine Zn (Zt (Zw (ABi (AAc (AAc (ABi (AAc ?_)))))));obtain rfl:=Zl (Ax _ (Zl (AA5 Bo A3)).symm);exact ⟨_,Zy,Ab.x,rfl⟩
    ·refine Zv (q_b (q_t (AAa (AA0 rfl rfl (Zj (Zr ?_))))));exact ⟨_,(Zl (AA6 Bo A3)).symm,Ab.sel [1] Zk,rfl,trivial⟩
   ·rw [decide_eq_false Ai];refine ADq 42 false (ADq 42 false (AAb 39 false (Zz rfl (Zz rfl (Zr (AAw rfl (Zv (q_b (q_t (AAa (AA0 rfl rfl (Zj (Zr ?_)))))))))))));exact ⟨_,(Zl (ifF Bn Ai)).symm,Ab.sel [1] Zk,rfl,trivial⟩
  ·refine ADe 39 true (APn 42 Zx rfl (APn 42 Zx rfl (APn 42 Zx rfl (APn 42 Zx rfl (APn 42 Zx rfl (APn 42 Zx rfl (APn 42 Zx rfl (APn 42 Zx rfl (APn 42 Zx rfl (APn 42 Zx rfl (AU2 39 true (Z4 rfl (Zr (AAr rfl (Zn (Zt (Zw (ABi (AAc (AAc (ABi (AAc ?_))))))))))))))))))))));obtain rfl:=Zl (Ax _ (Zl (ifT Bl Bm)).symm);exact ⟨_,Zy,Ab.x,rfl⟩
 ·refine AAh (AAi (AAi (ABj (q_t (Zo (Zn (ADa AOt AEz (Ad.b p0) 1 rfl (AA8 AAf rfl H7 (Zj (Zr (Zs (AG4 302230878442904990258192 (Ax _ (Zl (AA6 Aw Ay)).symm) (fun x=>[(59,(.int .i64 x))]) (fun x=>Ad.L) Ad ⟨rfl,trivial⟩ ?_))))))))))));rintro Dk Dl Do Dp Ac A4 A5;unfold AE3 at A4;refine Zn (AAu rfl rfl (Zr (Zo (⟨_,rfl,fun A6=>?_,fun A6=>?_⟩))))
  ·refine Zv (q_t (Zo (Zs (Zn ?_))));obtain ⟨Dq,Cd,Ce⟩:=Zp (AA5 A4 A6);refine AGs AAf AA2 H7 Ac.x Cd fun _ Dr Bp=>AA4 (Zj (ABm AAg rfl Bp (Zj (Zr (Zs (AG4 151078833963681227739152 Ce (fun x=>[(65,(.int .i64 x))]) (fun x=>Ac.L) Ac ⟨rfl,trivial⟩ ?_))))));rintro Ds Dt Du Dv Ae A7 A8;unfold AGx at A7;refine Zn (AAu rfl rfl (Zr (Zo (⟨_,rfl,fun A9=>?_,fun A9=>?_⟩))))
   ·refine Zv (q_t (Zo (Zs (Zn ?_))));obtain ⟨Cf,Cg,Bq⟩:=Zp (AA5 A7 A9);refine AUi AAg AAk Bp Ae.x Cg fun _=>(AA4 (Zj (AAu rfl rfl (Zj ?_))));by_cases Aj:Cf < 0
    ·rw [decide_eq_true Aj];refine ADe 71 true (Z4 rfl (Zr (AAr rfl (Zn (Zt (Zw (ABi (AAc (AAc (ABi (ABi (AAc (AAc (ABi (AAc ?_)))))))))))))));obtain rfl:=Zl (A5 _ (Zl (A8 _ (Zl (ifT Bq Aj)).symm)).symm);exact ⟨_,Zy,Ae.x,rfl⟩
    ·have Br:=ifF Bq Aj;rw [decide_eq_false Aj];refine AAb 71 false (Zj (AAb 71 false (Zj (AAb 71 false (AMf rfl rfl (Zz rfl (Zr (⟨_,rfl,fun Ba=>?_,fun Ba=>?_⟩))))))))
     ·refine Zn (Zt (Zw (ABi (AAc (AAc (ABi (ABi (AAc (AAc (ABi (AAc ?_)))))))))));obtain rfl:=Zl (A5 _ (Zl (A8 _ (Zl (AA5 Br Ba)).symm)).symm);exact ⟨_,Zy,Ae.x,rfl⟩
     ·refine Zv (q_b (q_t (AAa (AA0 rfl rfl (Zj (Zr ?_))))));exact ⟨_,(Zl (AA6 Br Ba)).symm,Ae,rfl,trivial⟩
   ·refine AAh (AAi (AAi (ABj (q_b (q_t (AAa (AA0 rfl rfl (Zj (Zr ?_)))))))));exact ⟨_,(Zl (A8 _ (Zl (AA6 A7 A9)).symm)).symm,Ae,rfl,trivial⟩
  ·refine AAh (AAi (AAi (ABj (q_t (Zn (ADa AOt AEz (Ac.b p0) 1 rfl (ADa AKq AAk (Ac.b p0) 0 rfl ?_)))))));obtain ⟨⟨Ch,Dw⟩,Ci,Bt⟩:=Zp (A5 _ (Zl (AA6 A4 A6)).symm);dsimp only at Bt;refine ACl Ac (AUc (H7.ext Ac.x) Ci) fun Dx Dy Ak=>Zj (ABl rfl rfl (ABl rfl rfl (AAl (AA4 (Zj (ADa AOt AEz (Ak.b p0) 1 rfl (Zj ?_)))))));obtain ⟨⟨Dz,D0⟩,Cj,Bb⟩:=Zp Bt;dsimp only at Bb;refine ANz rfl (APy (H2.ext Ak.x) (H7.ext Ak.x) Cj) fun D1 D2 Ck Cm=>?_;obtain ⟨D3,D4,D5,D6,rfl,Cn,Co⟩:=Cm;refine Zj (ABl rfl rfl (ABl rfl rfl (AAl (AA4 (Zj (ACk rfl rfl (Zj ?_)))))));have Af:=Ak.no2 Ck Co Cn;by_cases Am: ¬ Ch=0
   ·rw [decide_eq_true Am];refine AAb 96 true (Zj (AAb 96 true (ACh AKr rfl (AAb 96 true (AA7 AQj rfl ((Af.b p1).cell (i:=2) rfl) (AAb 96 true (Zj (AAb 96 true (AA8 AAf rfl H2 (AAb 96 true (ACh AKq rfl (AAb 96 true (AA7 AAk rfl ((Af.b p1).cell (i:=0) rfl) (AAb 96 true (Zj (AAb 96 true ?_))))))))))))))));obtain ⟨D7,Cp,Cq⟩:=Zp (ifT Bb Am);refine AMv Af (ARx (Ah.ext Af.x) Cp) fun D8 D9 Ea Eb Ec Ed Bc=>AAb 96 true ?_;obtain ⟨Ee,Cr,Ct⟩:=Zp Cq;refine ACl Bc (ATc (Bc.o2 p1).rd (Bc.o2 p0).rd Cr) fun Ef Eg Cu=>Z4 rfl (Zt (Zw ?_));obtain rfl:=Zl Ct;exact ⟨_,Zy,Cu.x,rfl⟩
   ·rw [decide_eq_false Am];refine ADq 96 false (ADq 96 false (Zz rfl (Zt (Zw ?_))));obtain rfl:=Zl (ifF Bb Am);exact ⟨_,Zy,Af.x,rfl⟩
noncomputable def AE4 (fuel:Nat) (Ab:(List AF5)) (Aa:Int):Option ((Int) ⊕ ((Int) ⊕ (Unit))):=
  (if Aa < (Ab.length:Int) then ((gI Ab Aa).bind fun Ac=>(if ¬ Ac.2.1=1 then (some (Sum.inr<| Sum.inl <| 10)) else (some (Sum.inl (w64 (Aa + 1)))))) else (some (Sum.inr<| Sum.inr <| ())))
noncomputable def AEu (fuel:Nat) (a3:LiI) (a5:Int) (a8:LiI) (Ac:(List AF5)):Option Int:=
  ((ADj fuel a3).bind fun Ae=>(if (!Ae)=true then (some 6) else ((Ady fuel a5).bind fun Af=>(if (!Af)=true then (some 20) else (((if ¬ (a8.length:Int)=(a3.length:Int) then (some (Sum.inl <| 3)) else (if ¬ (Ac.length:Int)=(a3.length:Int) then (some (Sum.inl <| 3)) else ((AF3 fuel a8).bind fun Ag=>(if (!Ag)=true then (some (Sum.inl <| 3)) else (some (Sum.inr <| ())))))):Option ((Int) ⊕ (Unit))).bind (fun ex=>match ex with | Sum.inl Ah=>(some Ah) | Sum.inr (_)=>((iter (fun s=>AE4 fuel Ac s) fuel 0).bind (fun ex=>match ex with | Sum.inl Ai=>(some Ai) | Sum.inr (_)=>((AGn fuel a3 a5 a8 Ac).bind fun Aj=>(if (!Aj)=true then (some 10) else (some 0)))))))))))
theorem ARz {fuel:Nat} {h:Zu} {A6:Value} {a3:LiI} {a5:Int} {Af:Value} {a8:LiI} {Ag:Value} {Ap:(List AF5)} {r:Int} (H2:AC5 (cI .i64) h A6 a3) (H7:AC5 (cI .i64) h Af a8) (Ai:SlC AOr h Ag Ap) (hp:AEu fuel a3 a5 a8 Ap=some r):AAv Tryz.prog 12 #[A6,(.agg #[(.int .i64 a5),Af,Ag])] h (fun x h'=>Ext h h'/\x= .int .i64 r):=by
 unfold AEu at hp;refine cwf (l:=[_,_]) Tryz.func12 rfl rfl (Zn (AG8 (Kst.k0 h) [(.int .i64 a5),Af,Ag] fun Bx By Bz A7=>Zt (Zo (Zn (Zj ?_)))));obtain ⟨B1,Bl,A8⟩:=Zp hp;refine ACl A7 (AQa (H2.ext A7.x) Bl) fun B3 B4 Ar=>ACt rfl (Zr (⟨_,rfl,fun Au=>?_,fun Au=>?_⟩))
 ·refine Zn (Zt (Zw (AAc ?_)));obtain rfl:=Zl (ifT A8 Au);exact ⟨_,Zy,Ar.x,rfl⟩
 ·refine Zv (q_t (Zo (Zn (ADa AKq AAk (Ar.b p0) 0 rfl ?_))));obtain ⟨B5,Bm,A9⟩:=Zp (AF9 A8 Au);refine ACl Ar (Aol Bm) fun B6 B7 Aa=>ACt rfl (Zr (⟨_,rfl,fun Av=>?_,fun Av=>?_⟩))
  ·refine Zn (Zt (Zw (AAc ?_)));obtain rfl:=Zl (ifT A9 Av);exact ⟨_,Zy,Aa.x,rfl⟩
  ·refine Zv (q_t ?_);obtain ⟨Bn,Ba,Aj⟩:=Zp (AF9 A9 Av);refine AKb 17179852816 (fun x:Unit=>[]) (fun x h'=>(Sum.inr <| ())=Bn/\Kst h h' (Aa.L)) ?_ ?_
   ·refine Zn (ADa AOt AEz (Aa.b p0) 1 rfl (AA8 AAf rfl H7 (Zj (AA8 AAf rfl H2 (ACk rfl rfl (Zj ?_))))));by_cases Ak: ¬ (a8.length:Int)=(a3.length:Int)
    ·rw [decide_eq_true Ak];refine ADq 20 true (AU2 20 true (Z4 rfl (Zj (ADb 28 true (Z4 rfl (Zr (AAr rfl (Zn (Zt ?_)))))))));obtain rfl:=Zl (ifT Ba Ak);refine Zw (AAc ?_);obtain rfl:=Zl Aj;exact ⟨_,Zy,Aa.x,rfl⟩
    ·have Bb:=ifF Ba Ak;rw [decide_eq_false Ak];refine AAb 20 false (ACh AKr rfl (AAb 20 false (AA7 AQj rfl ((Aa.b p0).cell (i:=2) rfl) (AAb 20 false (ABm AN5 rfl Ai (AAb 20 false (Zj (AAb 20 false (AA8 AAf rfl H2 (AAb 20 false (ACk rfl rfl (Zz rfl (Zj ?_)))))))))))));by_cases Am: ¬ (Ap.length:Int)=(a3.length:Int)
     ·rw [decide_eq_true Am];refine ADb 28 true (Z4 rfl (Zr (AAr rfl (Zn (Zt ?_)))));obtain rfl:=Zl (ifT Bb Am);refine Zw (AAc ?_);obtain rfl:=Zl Aj;exact ⟨_,Zy,Aa.x,rfl⟩
     ·rw [decide_eq_false Am];refine AAb 28 false (ACh AOt rfl (AAb 28 false (AA7 AEz rfl ((Aa.b p0).cell (i:=1) rfl) (AAb 28 false ?_))));obtain ⟨B8,Bo,Bc⟩:=Zp (ifF Bb Am);refine ACl Aa (ARn (H7.ext Aa.x) Bo) fun B9 Ca Be=>AAb 28 false (ACt rfl (Zz rfl (Zr (⟨_,rfl,fun Aw=>?_,fun Aw=>?_⟩))))
      ·refine Zn (Zt ?_);obtain rfl:=Zl (ifT Bc Aw);refine Zw (AAc ?_);obtain rfl:=Zl Aj;exact ⟨_,Zy,Be.x,rfl⟩
      ·refine Zv (q_t ?_);exact ⟨(():Unit),⟨Zl (AF9 Bc Aw),Be⟩,trivial⟩
   rintro ⟨⟩ Cb Cd ⟨Bp,Ax⟩;subst Bp;refine Zo (Zn (ADa AKr AQj (Ax.b p0) 2 rfl (ABm AN5 rfl Ai (Zj (Zr (Zs (AG4 35046933135440 Aj (fun x=>[(37,(.int .i64 x))]) (fun x=>Ax.L) Ax ⟨rfl,trivial⟩ ?_)))))));rintro Ce Cf Cg Ch Ab Ay Bf;unfold AE4 at Ay;refine Zn (AAu rfl rfl (Zr (Zo (⟨_,rfl,fun Az=>?_,fun Az=>?_⟩))))
   ·refine Zv (q_t (Zo (Zs (Zn ?_))));obtain ⟨Ac,Bq,Bg⟩:=Zp (AA5 Ay Az);refine AIw (c:=AOr) AN5 rfl Ai rfl Bq fun Ci Cj Ck Br Bt=>?_;obtain rfl:=Br;refine AN4 (c:=AOr) AKz rfl rfl (fun j u hu=>(AAx (Bt j u hu) Ab.x)) (AC1 Ab [(.int .i64 0),(.int .i64 0),(.int .i64 0),(.int .i64 0),(.int .i64 0)] AQ8 fun Cm Cn Co Bh=>AB8 [(.int .i64 Ac.1),(.int .i64 Ac.2.1),(.int .i64 Ac.2.2.1),(.int .i64 Ac.2.2.2.1),(.int .i64 Ac.2.2.2.2)] AKz rfl rfl rfl rfl (by simp [isOne]) (Bh.b p0) fun Cp Bu Bv=>AH7 ?_);have A3:=Bh.sb p0 Bv Bu rfl;refine ADa AXf ABt (A3.b p0) 1 rfl (ACk rfl rfl (Zr (⟨_,rfl,fun A4=>?_,fun A4=>?_⟩)))
    ·refine Zn (Zt (Zw (ABi (AAc (AAc (ABi (AAc ?_)))))));obtain rfl:=Zl (Bf _ (Zl (AA5 Bg A4)).symm);exact ⟨_,Zy,A3.x,rfl⟩
    ·refine Zv (q_b (q_t (AAa (AA0 rfl rfl (Zj (Zr ?_))))));exact ⟨_,(Zl (AA6 Bg A4)).symm,A3.sel [1] Zk,rfl,trivial⟩
   ·refine AAh (AAi (AAi (ABj (q_t (Zo (Zn (Zj (ANd [(.int .i64 a5),Af,Ag] ANl rfl rfl (Ab.b p0).agg ?_))))))));obtain ⟨Cq,Bw,Bi⟩:=Zp (Bf _ (Zl (AA6 Ay Az)).symm);refine ACl Ab (ARy (H2.ext Ab.x) (H7.ext Ab.x) (Ai.ext Ab.x) Bw) fun Cr Ct Bj=>ACt rfl (Zr (⟨_,rfl,fun A5=>?_,fun A5=>?_⟩))
    ·refine Zn (Zt (Zw (AAc ?_)));obtain rfl:=Zl (ifT Bi A5);exact ⟨_,Zy,Bj.x,rfl⟩
    ·refine Zv (q_t (Zn (Zt (Zw ?_))));obtain rfl:=Zl (AF9 Bi A5);exact ⟨_,Zy,Bj.x,rfl⟩
def AMo (fuel:Nat) (a3 a7:(List AQn)) (Ac:Int):Option ((Int) ⊕ ((Bool) ⊕ (Unit))):=
  (if Ac < (a3.length:Int) then ((gI a3 Ac).bind fun Aa=>((gI a7 Ac).bind fun Ab=>(if (!(decide ((Aa.1,Aa.2.1,Aa.2.2.1,Aa.2.2.2.1,Aa.2.2.2.2)=(Ab.1,Ab.2.1,Ab.2.2.1,Ab.2.2.2.1,Ab.2.2.2.2))))=true then (some (Sum.inr<| Sum.inl <| false)) else (some (Sum.inl (w64 (Ac + 1))))))) else (some (Sum.inr<| Sum.inr <| ())))
def AKl (fuel:Nat) (a3 a7:(List AQn)):Option Bool:=
  (if ¬ (a3.length:Int)=(a7.length:Int) then (some false) else ((iter (fun s=>AMo fuel a3 a7 s) fuel 0).bind (fun ex=>match ex with | Sum.inl Ac=>(some Ac) | Sum.inr (_)=>(some true))))
theorem AQu {fuel:Nat} {h:Zu} {Ah:Value} {a3:(List AQn)} {Aj:Value} {a7:(List AQn)} {r:Bool} (H2:SlC AP5 h Ah a3) (H6:SlC AP5 h Aj a7) (hp:AKl fuel a3 a7=some r):AAv Tryz.prog 44 #[Ah,Aj] h (fun x h'=>Ext h h'/\x= .bool r):=by
 unfold AKl at hp;refine cwf (l:=[_,_]) Tryz.func44 rfl rfl (Zn (Zt (Zo (Zn (Zj (ABm AWc rfl H2 (Zj (ABm AWc rfl H6 (ACk rfl rfl (Zr ?_))))))))));have K0:=Kst.k0 h;refine ⟨_,rfl,fun Ad=>?_,fun Ad=>?_⟩
 ·refine Zn (Zt (Zw (AAc ?_)));obtain rfl:=Zl (AA5 hp Ad);exact ⟨_,Zy,K0.x,rfl⟩
 ·refine Zv (q_t (Zo (Zn (Zj (ABm AWc rfl H2 (Zj (Zr (Zs (AG4 67100720 (AA6 hp Ad) (fun x=>[(13,(.int .i64 x))]) (fun x=>K0.L) K0 ⟨rfl,trivial⟩ ?_)))))))));rintro Az A3 A4 A5 Aa Ae Ao;unfold AMo at Ae;refine Zn (AAu rfl rfl (Zr (Zo (⟨_,rfl,fun Af=>?_,fun Af=>?_⟩))))
  ·refine Zv (q_t (Zo (Zs (Zn (Zj (Zt (Zo (AF8 (Zj (Zj ?_))))))))));obtain ⟨A6,Aq,Ar⟩:=Zp (AA5 Ae Af);refine AIw (c:=AP5) AWc rfl H2 rfl Aq fun A7 A8 A9 Au Av=>?_;obtain rfl:=Au;refine AN4 (c:=AP5) Am9 rfl rfl (fun j u hu=>(AAx (Av j u hu) Aa.x)) (Zj (Zj ?_));obtain ⟨Ba,Aw,Ap⟩:=Zp Ar;refine AIw (c:=AP5) AWc rfl H6 rfl Aw fun Bb Bc Be Ax Ay=>?_;obtain rfl:=Ax;refine AN4 (c:=AP5) Am9 rfl rfl (fun j u hu=>(AAx (Ay j u hu) Aa.x)) (Asq Zx rfl rfl (Avz _ _ _ _ _ _ _ _ _ _) (Zr (⟨_,rfl,fun Ag=>?_,fun Ag=>?_⟩)))
   ·refine Zn (Zt (Zw (ABi (AAc (AAc (ABi (AAc ?_)))))));obtain rfl:=Zl (Ao _ (Zl (ifT Ap Ag)).symm);exact ⟨_,Zy,Aa.x,rfl⟩
   ·refine Zv (q_b (q_t (AAa (AA0 rfl rfl (Zj (Zr ?_))))));exact ⟨_,(Zl (AF9 Ap Ag)).symm,Aa,rfl,trivial⟩
  ·refine AAh (AAi (AAi (ABj (q_t (Zn (Zt (Zw ?_)))))));obtain rfl:=Zl (Ao _ (Zl (AA6 Ae Af)).symm);exact ⟨_,Zy,Aa.x,rfl⟩
end Go.Proofs.YtdkldlbgcfpglaaGreatDoor
namespace Go.Proofs.YtdkldlbgcfpglaaGreatDoor
open Go Go.QF
set_option maxRecDepth 100000
theorem AQf {E:Type} {body:Int->Option (Int ⊕ (E ⊕ Unit))} {fuel n:Nat} (good:Nat->Prop) (bad:E) (hf:n < fuel) (hs:∀ i:Nat,i < n->Ok (body (i:Int)) fun r=>(r= .inl ((i + 1:Nat):Int)/\good i)∨(r= .inr (.inl bad)/\¬ good i)) (he:body (n:Int)=some (.inr (.inr ()))):
    Ok (iter body fuel 0) fun ex=>(ex= .inr ()/\ ∀ i,i < n->good i)∨(ex= .inl bad/\¬ ∀ i,i < n->good i):=by
  refine AA9 (fun i s=>s=(i:Int)/\ ∀ j,j < i->good j) n ⟨rfl,fun j hj=>absurd hj (Nat.not_lt_zero j)⟩ hf fun i s hi hI=>?_;obtain ⟨rfl,hI⟩:=hI
  by_cases h:i < n
  · refine Aq0 (hs i h) fun r hr=>?_
    rcases hr with ⟨rfl,hg⟩ | ⟨rfl,hg⟩
    · exact ⟨h,rfl,fun j hj=>(Nat.lt_succ_iff_lt_or_eq.1 hj).elim (hI j) fun e=>e ▸ hg⟩
    · exact .inr ⟨rfl,fun hall=>hg (hall i h)⟩
  · obtain rfl:i=n:=by omega
    rw [he];exact Zm (.inl ⟨rfl,hI⟩)
theorem Aeb {α:Type} {body:List α × Int->Option ((List α × Int) ⊕ List α)} {fuel n:Nat} (f:Nat->α) (hf:n < fuel) (hs:∀ i:Nat,i < n->body (AB3 i f,(i:Int))=some (.inl (AB3 i f ++ [f i],((i + 1:Nat):Int)))) (he:∀ X,body (X,(n:Int))=some (.inr X)):iter body fuel ([],0)=some (AB3 n f):=by
  apply ok_eq;refine AA9 (fun i s=>s=(AB3 i f,(i:Int))) n rfl hf fun i s hi hI=>?_;subst hI
  by_cases h:i < n
  · rw [hs i h,AOa];exact Zm ⟨h,rfl⟩
  · obtain rfl:i=n:=by omega
    rw [he];exact Zm rfl
theorem Apa {body:Int × List Int->Option ((Int × List Int) ⊕ List Int)} {fuel n:Nat} {g0:Nat->Int} (v:Nat->Int) (hf:n < fuel)
    (hs:∀ (j:Nat) (g:Nat->Int),j < n->g j=g0 j->body ((j:Int),AB3 n g)=some (.inl (((j + 1:Nat):Int),AB3 n fun c=>if c=j then v j else g c)))
    (he:∀ X,body ((n:Int),X)=some (.inr X)):iter body fuel (0,AB3 n g0)=some (AB3 n v):=by
  apply ok_eq
  refine AA9 (fun j s=>s=((j:Int),AB3 n fun c=>if c < j then v c else g0 c)) n ?_ hf fun j s hj hI=>?_
  · exact congrArg (fun z=>((0:Int),AB3 n z)) (funext fun c=>(if_neg Zh).symm)
  · subst hI
    by_cases h:j < n
    · rw [hs j _ h (if_neg Zh)];refine Zm ⟨h,?_⟩;refine congrArg (fun z=>(((j + 1:Nat):Int),AB3 n z)) (funext fun c=>?_)
      by_cases h1:c=j
      · rw [if_pos h1,if_pos Zh,h1]
      · rw [if_neg h1]
        by_cases h2:c < j
        · rw [if_pos h2,if_pos Zh]
        · rw [if_neg h2,if_neg Zh]
    · obtain rfl:j=n:=by omega
      rw [he];exact Zm (ABn fun c hc=>if_pos hc)
def ASc (n:Nat) (q:Int) (A T:Z1):Z1:=fun i j=>psum (fun k=>T k i % q * (psum (fun l=>A k l % q * (T l j % q)) n % q)) n % q
theorem ATi (n:Nat) {q:Int} (hq:2<=q) (F:Z1):ATh n q fun i j=>F i j % q:=fun i j _ _=>⟨Int.emod_nonneg _ Zh,Int.emod_lt_of_pos _ Zh⟩
theorem Ar4 {fuel n:Nat} {A T:Z1} {q:Int} (Aa:1<=n) (hn:n<=8) (hq:2<=q) (Ab:q<=2147483647) (hf:100 < fuel):AHg fuel (tab n n A) (tab n n T) q=some (tab n n (ASc n q A T),0):=by
 unfold AHg;have h1:ABs fuel q=some 0:=by unfold ABs;rw [if_neg Zh,if_neg Zh]
 rw [AVj Aa hn hf,AVj Aa hn hf];simp only [Option.bind_some];rw [if_neg Zk,AUk (AAz Zh),AA1,AAp,AAp,if_neg Zk,if_neg (fun h=>h rfl),if_neg (fun h=>h rfl)];simp only [Option.bind_some];rw [h1];simp only [Option.bind_some];rw [if_neg Zk,Abh hn hq Ab hf];simp only [Option.bind_some];rw [Ao8 Aa hn hf];simp only [Option.bind_some];rw [Abh hn hq Ab hf];simp only [Option.bind_some];rw [Ajw Aa hn hq Ab (ATi n hq A) (ATi n hq T) hf];simp only [Option.bind_some];rw [Ajw Aa hn hq Ab (fun i j hi hj=>ATi n hq T j i hj hi) (ATi n hq _) hf];rfl
theorem Ali {r c:Nat} {F:Z1} {m:Int}:APt (tab r c F) m=tab r c fun i j=>F i j % m:=by
 simp [APt,tab,Function.comp_def]
theorem Apb {fuel n:Nat} {F:Z1} {m:Int} (hn:n<=8) (hm:2<=m) (Ab:m<=2147483647) (hf:100 < fuel):ACv fuel (tab n n F) m=some (tab n n fun i j=>F i j % m):=by
 rw [Afu Zh Ab (by rw [AAp];omega) (by rw [AAp];omega) (fun z hz=>by
   obtain ⟨i,hi⟩:=List.getElem?_of_mem hz
   have h1:=(List.getElem?_eq_some_iff.1 hi).1
   rw [AAp] at h1
   rw [AAz h1] at hi
   cases hi
   rw [AA1];omega),Ali]
theorem Ajx {fuel n:Nat} {F G:Z1} {m:Int} (Ae:1<=n) (hn:n<=8) (hm:2<=m) (Ab:m<=2147483647) (hf:100 < fuel):AD5 fuel (tab n n F) (tab n n G) m=some (tab n n fun i j=>psum (fun k=>F i k % m * (G k j % m)) n % m):=by
 unfold AD5;rw [Apb hn hm Ab hf];simp only [Option.bind_some];rw [Apb hn hm Ab hf];simp only [Option.bind_some];rw [Aeb (n:=n) (fun i=>AB3 n fun j=>psum (fun k=>F i k % m * (G k j % m)) n % m) Zh (fun i hi=>?_) fun X=>?_]
 ·rfl
 ·unfold AGi;dsimp only;rw [AAp,if_pos Zh,AUk (AAz Zh),AA1,if_pos Zh,Int.toNat_natCast,AE1 n (0:Int),Apa (n:=n) (fun j=>psum (fun k=>F i k % m * (G k j % m)) n % m) Zh (fun j g hj hg=>?_) fun X=>?_]
  ·simp only [Option.bind_some];rw [AA1,if_pos Zh,ABp Zh]
  ·unfold AGh;dsimp only;rw [AA1,Int.toNat_natCast,List.length_replicate,if_pos Zh]
   have key:iter (fun s=>AGg fuel m (tab n n fun i j=>F i j % m) (tab n n fun i j=>G i j % m) i j s.1 s.2) fuel (0,AB3 n g)=some (AB3 n fun c=>if c=j then psum (fun k=>F i k % m * (G k j % m)) n % m else g c):=by
     apply ok_eq
     refine AA9 (fun k s=>s=((k:Int),AB3 n fun c=>if c=j then psum (fun k=>F i k % m * (G k j % m)) k % m else g c)) n ?_ Zh fun k s hk hI=>?_
     · refine congrArg (fun z=>((0:Int),AB3 n z)) (funext fun c=>?_)
       split
       · next h=>subst h;rw [hg];show 0=0 % m;rw [Int.zero_emod]
       · rfl
     · subst hI
       unfold AGg
       dsimp only
       rw [AAp]
       by_cases h:k < n
       · have b1:=ATi n hm F i k hi h
         have b2:=ATi n hm G k j h hj
         dsimp only at b1 b2
         have b0:=Int.mul_nonneg b1.1 b2.1
         have b3:F i k % m * (G k j % m)<=2147483646 * 2147483646:=Int.mul_le_mul Zh Zh b2.1 Zh
         have b4:=Int.emod_nonneg (F i k % m * (G k j % m)) (show m≠0 by omega)
         have b5:=Int.emod_lt_of_pos (F i k % m * (G k j % m)) (show 0 < m by omega)
         have b6:=Int.emod_nonneg (psum (fun k=>F i k % m * (G k j % m)) k) (show m≠0 by omega)
         have b7:=Int.emod_lt_of_pos (psum (fun k=>F i k % m * (G k j % m)) k) (show 0 < m by omega)
         rw [if_pos Zh,ACr (AAq hj),ACr (AAz hi),ACr (AAq h),ACr (AAz h),ACr (AAq hj),if_pos Zh,if_pos Zh,if_pos rfl,ACe (x:=F i k % m * (G k j % m)) Zh Zh,Int.tmod_eq_emod_of_nonneg b0,ACe (x:=psum (fun k=>F i k % m * (G k j % m)) k % m + F i k % m * (G k j % m) % m) Zh Zh,Int.tmod_eq_emod_of_nonneg Zh,Agu (f:=fun k=>F i k % m * (G k j % m)),ABx,ADz,ABp Zh]
         refine Zm ⟨h,congrArg (fun z=>(((k + 1:Nat):Int),AB3 n z)) (funext fun c=>?_)⟩
         by_cases hc:c=j
         · rw [if_pos hc,if_pos hc]
         · rw [if_neg hc,if_neg hc,if_neg hc]
       · obtain rfl:k=n:=by omega
         rw [if_neg Zh];exact Zm rfl
   rw [key];simp only [Option.bind_some];rw [ABp Zh]
  ·unfold AGh;dsimp only;rw [AA1,Int.toNat_natCast,List.length_replicate,if_neg Zh]
 ·unfold AGi;dsimp only;rw [AAp,if_neg Zh]
theorem Apc {fuel n:Nat} {F:Z1} (Aa:1<=n) (hn:n<=8) (hf:100 < fuel):AE2 fuel (tab n n F)=some (tab n n fun i j=>F j i):=by
 unfold AE2;rw [AUk (AAz Zh),Aeb (n:=n) (fun i=>AB3 n fun j=>F j i) Zh (fun i hi=>?_) fun X=>?_]
 ·rfl
 ·unfold AFs;dsimp only;rw [AA1,if_pos Zh,Aeb (n:=n) (fun j=>F j i) Zh (fun j hj=>?_) fun X=>?_]
  ·simp only [Option.bind_some];rw [AA1,if_pos Zh,ABp Zh]
  ·unfold AFr;dsimp only;rw [AAp,if_pos Zh,ACr (AAz hj),ACr (AAq hi),AA1,if_pos Zh,ABp Zh]
  ·unfold AFr;dsimp only;rw [AAp,if_neg Zh]
 ·unfold AFs;dsimp only;rw [AA1,if_neg Zh]
theorem Abi {n:Nat} {F:Z1} (Ab:1<=n) (hn:n<=8):Aab (tab n n F):=by
 have hc:AM6 (tab n n F)=n:=by rw [AQy (AAz (show 0 < n by omega)),AA1]
 refine ⟨⟨by rw [AAp];omega,by rw [AAp];omega,Zh,Zh,fun z hz=>?_⟩,by rw [AAp,hc],by rw [AAp];omega⟩;obtain ⟨i,hi⟩:=List.getElem?_of_mem hz;have h1:=(List.getElem?_eq_some_iff.1 hi).1;rw [AAp] at h1;rw [AAz h1] at hi;cases hi;rw [AA1,hc]
theorem Ar5 {fuel n:Nat} {A T:Z1} {q:Int} (Aa:1<=n) (hn:n<=8) (hq:2<=q) (Ab:q<=2147483647) (hf:100 < fuel):AEd fuel (tab n n A) (tab n n T) q=some (tab n n (ASc n q A T),0):=by
 unfold AEd
 have hv:∀ F,AC3 fuel (tab n n F)=some true:=fun F=>by
   rw [Ajb Zh]
   exact congrArg some (decide_eq_true (Abi Aa hn).1)
 have h1:AZf q=true:=by unfold AZf;rw [decide_eq_true_eq];exact ⟨hq,Ab⟩
 rw [hv,hv];simp only [Option.bind_some];rw [if_neg Zk,AUk (AAz Zh),AA1,AAp,AAp,if_neg Zk,if_neg (fun h=>h rfl),if_neg (fun h=>h rfl)];simp only [Option.bind_some];rw [Acs,h1];simp only [Option.bind_some];rw [if_neg Zk,Apc Aa hn hf];simp only [Option.bind_some];rw [Ajx Aa hn hq Ab hf];simp only [Option.bind_some];rw [Ajx Aa hn hq Ab hf];simp only [Option.bind_some,Int.emod_emod];rfl
theorem Au2 {fuel n:Nat} {T:Z1} {p:Int} (Ab:1<=n) (hn:n<=8) (hp:2<=p) (Ac:p<=2147483647) (hf:100 < fuel):AGq fuel (tab n n T) p=some (det n T % p,0):=by
 have hs:=Abi (F:=T) Ab hn;rw [Aoo Zh ⟨by rw [AAp];omega,fun z hz=>by have h2:=hs.1.2.2.2.2 z hz;have:=hs.1.2.2.2.1;omega⟩];have h1:AOn (tab n n T)=true:=decide_eq_true hs;have h2:AZf p=true:=by unfold AZf;rw [decide_eq_true_eq];exact ⟨hp,Ac⟩
 unfold Aub Auc;rw [h1,h2,AAp];refine congrArg (fun z=>some (z,(0:Int))) ?_;exact AVy fun i j hi hj=>by rw [Aie hi hj];rfl
theorem Ar6 {fuel n:Nat} {F G:Z1} (hn:n<=8) (hf:100 < fuel):Ok (AHf fuel (tab n n F) (tab n n G)) fun b=>b=true↔ ∀ i,i < n-> ∀ j,j < n->F i j=G i j:=by
 unfold AHf;rw [AAp,AAp,if_neg (fun h=>h rfl)];refine Zq (AQf (n:=n) (fun i=> ∀ j,j < n->F i j=G i j) false Zh (fun i hi=>?_) ?_) fun ex hex=>?_
 ·unfold AHo;rw [AAp,if_pos Zh,ACr (AAz hi),ACr (AAz hi),AA1,AA1,if_neg (fun h=>h rfl)];refine Zq (AQf (n:=n) (fun j=>F i j=G i j) false Zh (fun j hj=>?_) ?_) fun ex hex=>?_
  ·unfold AHn;rw [AA1,if_pos Zh,ACr (AAz hi),ACr (AAq hj),ACr (AAz hi),ACr (AAq hj)];exact AAj (fun h=>Zm (.inr ⟨rfl,h⟩)) fun h=>Zm (.inl ⟨by rw [ABp Zh],Decidable.not_not.1 h⟩)
  ·unfold AHn;rw [AA1,if_neg Zh]
  ·rcases hex with ⟨rfl,h⟩ | ⟨rfl,h⟩
   ·exact Zm (.inl ⟨by rw [ABp Zh],h⟩)
   ·exact Zm (.inr ⟨rfl,h⟩)
 ·unfold AHo;rw [AAp,if_neg Zh]
 ·rcases hex with ⟨rfl,h⟩ | ⟨rfl,h⟩
  ·exact Zm ⟨fun _=>h,fun _=>rfl⟩
  ·exact Zm ⟨fun e=>(nomatch e),fun e=>absurd e h⟩
def Rng (n:Nat) (q:Int) (T:Z1):Prop:= ∀ i,i < n-> ∀ j,j < n->0<=T i j/\T i j < q
theorem Au3 {fuel n:Nat} {T:Z1} {q:Int} (hn:n<=8) (hf:100 < fuel):Ok (iter (fun s=>AI6 fuel (tab n n T) q s) fuel 0) fun ex=>(ex= .inr ()/\Rng n q T)∨(ex= .inl false/\¬ Rng n q T):=by
 refine AQf (n:=n) (fun i=> ∀ j,j < n->0<=T i j/\T i j < q) false Zh (fun i hi=>?_) ?_
 ·unfold AI6;rw [AAp,if_pos Zh,ACr (AAz hi)];refine Zq (AQf (n:=n) (fun j=>0<=T i j/\T i j < q) false Zh (fun j hj=>?_) ?_) fun ex hex=>?_
  ·unfold AL0;rw [AA1,if_pos Zh,ACr (AAq hj)];exact AAj (fun h=>Zm (.inr ⟨rfl,Zh⟩)) fun h=>AAj (fun h2=>Zm (.inr ⟨rfl,Zh⟩)) fun h2=>Zm (.inl ⟨by rw [ABp Zh],Zh⟩)
  ·unfold AL0;rw [AA1,if_neg Zh]
  ·rcases hex with ⟨rfl,h⟩ | ⟨rfl,h⟩
   ·exact Zm (.inl ⟨by rw [ABp Zh],h⟩)
   ·exact Zm (.inr ⟨rfl,h⟩)
 ·unfold AI6;rw [AAp,if_neg Zh]
theorem Au4 {fuel n:Nat} {T:Z1} {q:Int} (hn:n<=8) (hf:100 < fuel):Ok (iter (fun s=>AE3 fuel (tab n n T) q s) fuel 0) fun ex=>(ex= .inr ()/\Rng n q T)∨(ex= .inl false/\¬ Rng n q T):=by
 refine AQf (n:=n) (fun i=> ∀ j,j < n->0<=T i j/\T i j < q) false Zh (fun i hi=>?_) ?_
 ·unfold AE3;rw [AAp,if_pos Zh,ACr (AAz hi)];refine Zq (AQf (n:=n) (fun j=>0<=T i j/\T i j < q) false Zh (fun j hj=>?_) ?_) fun ex hex=>?_
  ·unfold AGx;rw [AA1,if_pos Zh,ACr (AAq hj)];exact AAj (fun h=>Zm (.inr ⟨rfl,Zh⟩)) fun h=>AAj (fun h2=>Zm (.inr ⟨rfl,Zh⟩)) fun h2=>Zm (.inl ⟨by rw [ABp Zh],Zh⟩)
  ·unfold AGx;rw [AA1,if_neg Zh]
  ·rcases hex with ⟨rfl,h⟩ | ⟨rfl,h⟩
   ·exact Zm (.inl ⟨by rw [ABp Zh],h⟩)
   ·exact Zm (.inr ⟨rfl,h⟩)
 ·unfold AE3;rw [AAp,if_neg Zh]
theorem AEv {p:Int} (hp:1<=p) {a b:Nat} (h:a<=b):p ^ a<=p ^ b:=by
 obtain ⟨c,rfl⟩:∃ c,b=a + c:=⟨b - a,Zh⟩;rw [Int.pow_add];have h1:0 < p ^ a:=Int.pow_pos Zh;have h2:0 < p ^ c:=Int.pow_pos Zh;have:=Int.mul_le_mul_of_nonneg_left (show 1<=p ^ c by omega) (Int.le_of_lt h1);omega
theorem Ah1 {p:Int} (hp:2<=p) {a b:Nat} (h:p ^ a < p ^ b):a < b:=by
 rcases Nat.lt_or_ge a b with h1 | h1
 ·exact h1
 ·have:=AEv (p:=p) Zh h1;omega
theorem AX1 {p:Int} {k:Nat} (hp:2<=p) (h:p ^ k<=2147483647):k<=30:=by
 rcases Nat.lt_or_ge 30 k with h1 | h1
 ·exfalso;have h2:=AEv (p:=p) Zh (show 31<=k by omega);have h3:(2:Int) ^ 31<=p ^ 31:=ALx Zh hp 31;have h5:(2:Int) ^ 31=2147483648:=by decide
  omega
 ·exact h1
theorem Abj {fuel:Nat} {p:Int} {k:Nat} (hp:2<=p) (h:p ^ k<=2147483647) (hf:100 < fuel):AI3 fuel p k=some (p ^ k):=by
 have hk:=AX1 hp h;apply ok_eq;unfold AI3;refine Zq (AA9 (fun i s=>s=(p ^ i,(i:Int))/\i<=k) k (Q:=(· =p ^ k)) ⟨AA3,Zh⟩ Zh fun i s hi hI=>?_) fun e he=>Zm he;obtain ⟨rfl,hik⟩:=hI;unfold AO1;dsimp only;refine AAj (fun h2=>Zm ⟨Zh,?_,Zh⟩) fun h2=>Zm ?_
 ·have h3:=AEv (p:=p) Zh (show i + 1<=k by omega);have h4:0 < p ^ (i + 1):=Int.pow_pos Zh;rw [show p ^ i * p=p ^ (i + 1) from (Int.pow_succ p i).symm,wk Zh,ABp Zh]
 ·obtain rfl:i=k:=by omega
  rfl
theorem Ah2 {fuel:Nat} {p:Int} {k:Nat} (hp:2<=p) (h:p ^ k<=2147483647) (hf:100 < fuel):ADx fuel p k=some (p ^ k):=by
 have hk:=AX1 hp h;apply ok_eq;unfold ADx;refine Zq (AA9 (fun i s=>s=(p ^ i,(i:Int))/\i<=k) k (Q:=(· =p ^ k)) ⟨AA3,Zh⟩ Zh fun i s hi hI=>?_) fun e he=>Zm he;obtain ⟨rfl,hik⟩:=hI;unfold AKh;dsimp only;refine AAj (fun h2=>Zm ⟨Zh,?_,Zh⟩) fun h2=>Zm ?_
 ·have h3:=AEv (p:=p) Zh (show i + 1<=k by omega);have h4:0 < p ^ (i + 1):=Int.pow_pos Zh;rw [show p ^ i * p=p ^ (i + 1) from (Int.pow_succ p i).symm,wk Zh,ABp Zh]
 ·obtain rfl:i=k:=by omega
  rfl
def IsB (p x:Int) (b:AF5):Prop:= ∃ (e:Nat) (u:Int),b=((e:Int),1,u,0,0)/\x=u * p ^ e/\¬ p ∣ u
theorem Apd {p x:Int} {b c:AF5} (hp:2<=p) (hb:IsB p x b) (hc:IsB p x c):b=c:=by
 obtain ⟨e,u,rfl,h1,h2⟩:=hb;obtain ⟨f,v,rfl,h3,h4⟩:=hc;have he:=Ad9 hp ⟨e,u,rfl,h1,h2⟩ ⟨f,v,rfl,h3,h4⟩;obtain rfl:e=f:=by omega
 have:u=v:=Int.eq_of_mul_eq_mul_right (Int.pow_ne_zero (show p≠0 by omega)) (h1.symm.trans h3);rw [this]
theorem Abk {fuel:Nat} {x p:Int} (hp:2<=p) (Ad:p<=9973) (hx:0 < x) (Ae:x<=2147483647) (hf:100 < fuel):Ok (AI5 fuel x p) (IsB p x):=by
 unfold AI5;refine Zq (AA9 (fun i s=> ∃ r:Int,s=((i:Int),r)/\0 < r/\x=r * p ^ i) 31 (Q:=fun e=> ∃ (k:Nat) (u:Int),e=((k:Int),u)/\x=u * p ^ k/\¬ p ∣ u) ⟨x,rfl,Zh,AA3⟩ Zh fun i s hi hI=>?_) fun e he=>?_
 ·obtain ⟨r,rfl,hr,hdr⟩:=hI;have hpi:0 < p ^ i:=Int.pow_pos Zh;have hpx:1 * p ^ i<=r * p ^ i:=Int.mul_le_mul_of_nonneg_right Zh Zh;have Af:=AX1 (k:=i) hp Zh;have hrd:r * 1<=r * p ^ i:=Int.mul_le_mul_of_nonneg_left Zh Zh;unfold AO6;dsimp only;refine AB5 Zh (AAj (fun h=>AB5 Zh ?_) fun h=>Zm ⟨i,r,rfl,hdr,fun h3=>h (Int.tmod_eq_zero_of_dvd h3)⟩);obtain ⟨q,rfl⟩:p ∣ r:=Int.dvd_of_tmod_eq_zero h;have hq:0 < q:=Int.pos_of_mul_pos_right hr Zh;have hqr:1 * q<=p * q:=Int.mul_le_mul_of_nonneg_right Zh Zh;refine Zm ⟨Zh,q,?_,hq,by rw [hdr,Int.pow_succ];grind⟩;rw [Int.mul_tdiv_cancel_left _ Zh,ACe (x:=q) Zh Zh,ABp Zh]
 ·obtain ⟨k,u,rfl,h1,h2⟩:=he;exact Zm ⟨k,u,rfl,h1,h2⟩
def Agh (F:Z1) (r c:Nat) (x:Int):Z1:=ABv F r fun q=>if q=c then x else F r q
theorem Ape (F:Z1) (r c:Nat) (x:Int) (i j:Nat):Agh F r c x i j=if i=r/\j=c then x else F i j:=by
 unfold Agh;rw [ABc];by_cases h:i=r
 ·rw [if_pos h];by_cases h2:j=c
  ·rw [if_pos h2,if_pos ⟨h,h2⟩]
  ·rw [if_neg h2,if_neg (fun e=>h2 e.2),h]
 ·rw [if_neg h,if_neg (fun e=>h e.1)]
theorem AZ0 {n r c:Nat} {F:Z1} {x:Int}:sI (tab n n F) (r:Int) (sI (AB3 n (F r)) (c:Int) x)=tab n n (Agh F r c x):=AWr
def Awr (F:Z1) (r:Nat) (a b c:Int):Z1:=Agh (Agh (Agh (Agh F r r a) r (r + 1) b) (r + 1) r b) (r + 1) (r + 1) c
def Abl (p:Int):List AF5->Nat->(Z1)->(Z1)
  | [],_,F=>F
  | b :: l,r,F=>if b.2.1=2 then Abl p l (r + 2) (Awr F r (p ^ b.1.toNat * b.2.2.1) (p ^ b.1.toNat * b.2.2.2.1) (p ^ b.1.toNat * b.2.2.2.2)) else Abl p l (r + 1) (Agh F r r (p ^ b.1.toNat * b.2.2.1))
def Ah3:List AF5->Nat
  | []=>0
  | b :: l=>b.2.1.toNat + Ah3 l
def BOk (p:Int) (k:Nat) (b:AF5):Prop:= ∃ e:Nat,b.1=e/\e<=k/\(0<=b.2.2.1/\b.2.2.1 < p ^ (k - e))/\(b.2.1=1∨b.2.1=2/\(0<=b.2.2.2.1/\b.2.2.2.1 < p ^ (k - e))/\0<=b.2.2.2.2/\b.2.2.2.2 < p ^ (k - e))
theorem Aec {p a:Int} {e k:Nat} (hp:2<=p) (hek:e<=k) (hq:p ^ k<=2147483647) (h:0<=a/\a < p ^ (k - e)):Int.tmod (w64 (p ^ e * a)) (p ^ k)=p ^ e * a/\0<=p ^ e * a/\p ^ e * a < p ^ k:=by
 have h1:0 < p ^ e:=Int.pow_pos Zh;have h2:p ^ e * a < p ^ e * p ^ (k - e):=Int.mul_lt_mul_of_pos_left h.2 h1;rw [<- Int.pow_add,show e + (k - e)=k by omega] at h2;have h3:=Int.mul_nonneg (Int.le_of_lt h1) h.1;rw [wk Zh,Int.tmod_eq_emod_of_nonneg h3,Int.emod_eq_of_lt h3 h2];exact ⟨rfl,h3,h2⟩
theorem Au5 {fuel n k:Nat} {p:Int} {L:List AF5} (hn:n<=8) (hp:2<=p) (hq:p ^ k<=2147483647) (hL:∀ b∈L,BOk p k b) (hs:Ah3 L=n) (hll:L.length<=n) (hf:100 < fuel):AGl fuel L n p (p ^ k)=some (tab n n (Abl p L 0 fun _ _=>0)):=by
 have Af:0 < p ^ k:=Int.pow_pos Zh;unfold AGl;rw [if_pos Zh,Int.toNat_natCast,AXz (n:=n) (fun _ _=>0) Zh (fun i hi=>?_) fun X=>?_]
 ·simp only [Option.bind_some];apply ok_eq;refine Zq (AA9 (fun i s=> ∃ (r:Nat) (F:Z1),s=((r:Int),(i:Int),tab n n F)/\r + Ah3 (L.drop i)=n/\Abl p (L.drop i) r F=Abl p L 0 fun _ _=>0) L.length (Q:=(· =tab n n (Abl p L 0 fun _ _=>0))) ⟨0,fun _ _=>0,rfl,by simpa using hs,rfl⟩ Zh fun i s hi hI=>?_) fun e he=>Zm he;obtain ⟨r,F,rfl,hr,hb⟩:=hI;unfold AJu;dsimp only;by_cases h:i < L.length
  ·obtain ⟨b,hbi⟩:∃ b,L[i]? =some b:=⟨L[i],List.getElem?_eq_getElem h⟩
   have hdr:L.drop i=b :: L.drop (i + 1):=by
     rw [List.drop_eq_getElem_cons h]
     congr 1
     rw [List.getElem?_eq_getElem h] at hbi
     exact Option.some.inj hbi
   rw [hdr] at hr hb;obtain ⟨e,he,hek,hA,hsz⟩:=hL b (List.mem_of_getElem? hbi);have hpe:p ^ e<=2147483647:=Int.le_trans (AEv Zh hek) hq;have heN:b.1.toNat=e:=by omega
   have e1:=Aec hp hek hq hA;unfold Ah3 at hr;rw [Abl] at hb;rw [heN] at hb;rw [if_pos Zh,ACr hbi,he,Ah2 hp hpe hf];simp only [Option.bind_some];have Aa:r < n:=by omega
   rw [ACr (AAz Aa),if_pos Zh,ACr (AAq Aa),e1.1,AZ0];rcases hsz with hz | ⟨hz,hB,hC⟩
   ·rw [if_neg Zh];simp only [Option.bind_some];rw [if_neg Zh] at hb;refine Zm ⟨h,r + 1,_,?_,Zh,hb⟩;rw [hz,ABp Zh,ABp Zh]
   ·have Ab:r + 1 < n:=by omega
    have e2:=Aec hp hek hq hB;have e3:=Aec hp hek hq hC;rw [if_pos hz,ACr (AAz Aa),if_pos Zh,ABp Zh,ACr (AAq Ab),e2.1,AZ0,ACr (AAz Ab),if_pos Zh,ACr (AAq Aa),AZ0,ACr (AAz Ab),if_pos Zh,ACr (AAq Ab),e3.1,AZ0];simp only [Option.bind_some];rw [if_pos hz] at hb;refine Zm ⟨h,r + 2,_,?_,Zh,hb⟩;rw [hz,ACe (x:=(r:Int) + 2) Zh Zh,ABp Zh];rfl
  ·obtain rfl:i=L.length:=by omega
   rw [if_neg Zh];rw [List.drop_length] at hb;exact Zm (by rw [<- hb];rfl)
 ·unfold AGw;dsimp only;rw [Int.toNat_natCast,List.length_replicate,if_pos Zh,if_pos Zh,ACr (AO5 hi),ABx,AE1 n (0:Int),AM3,AXy fun c _=>rfl,ABp Zh]
 ·unfold AGw;dsimp only;rw [Int.toNat_natCast,List.length_replicate,if_neg Zh]
theorem As4 {p:Int}:∀ {L:List AF5} {r:Nat} {F:Z1},(∀ b∈L,b.2.1=1)-> ∀ i j,Abl p L r F i j=if i=j/\r<=i then (match L[i - r]? with | some b=>p ^ b.1.toNat * b.2.2.1 | none=>F i j) else F i j
  | [],r,F,h,i,j=>by simp [Abl]
  | b :: l,r,F,h,i,j=>by
    have hb:=h b AA3;unfold Abl;rw [if_neg Zh,As4 (fun c hc=>h c (by simp [hc]))];rw [Ape]
    by_cases hij:i=j/\r<=i
    · rw [if_pos hij]
      by_cases h2:r + 1<=i
      · rw [if_pos ⟨hij.1,h2⟩,show i - r=(i - (r + 1)) + 1 by omega,List.getElem?_cons_succ,if_neg Zh]
      · obtain rfl:i=r:=by omega
        rw [if_neg Zh,if_pos ⟨rfl,hij.1.symm⟩,Nat.sub_self];rfl
    · rw [if_neg hij,if_neg Zh,if_neg Zh]
def AY1 (p:Int) (k:Nat) (b:AF5):Prop:=(0<=b.1/\b.1<=if p=2 then (k:Int) - 3 else (k:Int) - 1)/\
  if b.2.1=1 then (0 < b.2.2.1/\b.2.2.1 < p ^ (k - b.1.toNat))/\¬ p ∣ b.2.2.1/\b.2.2.2.1=0/\b.2.2.2.2=0
  else ((0<=b.2.2.1/\b.2.2.1 < p ^ (k - b.1.toNat))/\(0<=b.2.2.2.1/\b.2.2.2.1 < p ^ (k - b.1.toNat))/\0<=b.2.2.2.2/\b.2.2.2.2 < p ^ (k - b.1.toNat))/\b.2.2.1 % 2=0/\b.2.2.2.1 % 2=1/\b.2.2.2.2 % 2=0
theorem tm2 {x:Int} (h:0<=x):Int.tmod x 2=x % 2:=Int.tmod_eq_emod_of_nonneg h
theorem Apf {fuel k:Nat} {p:Int} {b:AF5} (hp:2<=p) (hq:p ^ k<=2147483647) (hk:1<=k) (Aj:p=2->3<=k) (hf:100 < fuel):Ok (AGk fuel b.1 b.2.1 b.2.2.1 b.2.2.2.1 b.2.2.2.2 p k) fun r=>r=true↔AY1 p k b:=by
 have Ak:=AX1 hp hq;obtain ⟨e,s,x,y,z⟩:=b;unfold AGk AY1;dsimp only;refine Zq (Q:=(· =if p=2 then (k:Int) - 3 else (k:Int) - 1)) (AAj (fun h=>Zm ?_) fun h=>Zm ?_) fun top ht=>?_
 ·rw [if_pos h,wk Zh]
 ·rw [if_neg h,wk Zh]
 subst ht;have htop:(if p=2 then (k:Int) - 3 else (k:Int) - 1)<=k - 1:=by split <;> omega
 refine Zq (Q:=fun ex=>(ex= .inr ()/\0<=e/\e<=if p=2 then (k:Int) - 3 else (k:Int) - 1)∨(ex= .inl false/\¬ (0<=e/\e<=if p=2 then (k:Int) - 3 else (k:Int) - 1))) (AAj (fun h=>Zm (.inr ⟨rfl,Zh⟩)) fun h=>AAj (fun h2=>Zm (.inr ⟨rfl,Zh⟩)) fun h2=>Zm (.inl ⟨rfl,Zh,Zh⟩)) fun ex hex=>?_;rcases hex with ⟨rfl,h1,h2⟩ | ⟨rfl,h⟩
 ·obtain ⟨e,rfl⟩:∃ e':Nat,e=e':=⟨e.toNat,Zh⟩;have hek:e<=k:=by omega
  have hpk:p ^ (k - e)<=2147483647:=Int.le_trans (AEv Zh Zh) hq;dsimp only;rw [wk Zh,show (k:Int) - (e:Int)=((k - e:Nat):Int) by omega,Int.toNat_natCast];refine Zq (ABb (Ah2 hp hpk hf)) fun m hm=>?_;subst hm;refine AAj (fun h3=>?_) fun h3=>?_
  ·rw [if_pos h3];refine AAj (fun h4=>AAj (fun h5=>AB5 Zh (AAj (fun h6=>AAj (fun h7=>Zm ?_) fun h7=>Zm ?_) fun h6=>Zm ?_)) fun h5=>Zm ?_) fun h4=>Zm ?_
   ·rw [decide_eq_true_eq];exact ⟨fun h8=>⟨⟨h1,h2⟩,⟨h4,h5⟩,fun h9=>h6 (Int.tmod_eq_zero_of_dvd h9),h7,h8⟩,fun h8=>h8.2.2.2.2⟩
   ·exact ⟨fun h=>(nomatch h),fun h=>absurd h.2.2.2.1 h7⟩
   ·exact ⟨fun h=>(nomatch h),fun h=>absurd (Int.dvd_of_tmod_eq_zero (Decidable.not_not.1 h6)) h.2.2.1⟩
   ·exact ⟨fun h=>(nomatch h),fun h=>absurd h.2.1.2 h5⟩
   ·exact ⟨fun h=>(nomatch h),fun h=>absurd h.2.1.1 h4⟩
  ·rw [if_neg h3];refine AAj (fun h4=>AAj (fun h5=>AAj (fun h6=>AAj (fun h7=>AAj (fun h8=>AAj (fun h9=>?_) fun h9=>Zm ?_) fun h8=>Zm ?_) fun h7=>Zm ?_) fun h6=>Zm ?_) fun h5=>Zm ?_) fun h4=>Zm ?_
   ·rw [tm2 h4,tm2 h6,tm2 h8];refine AAj (fun ha=>AAj (fun hb=>Zm ?_) fun hb=>Zm ?_) fun ha=>Zm ?_
    ·rw [decide_eq_true_eq];exact ⟨fun hc=>⟨⟨h1,h2⟩,⟨⟨h4,h5⟩,⟨h6,h7⟩,h8,h9⟩,ha,hb,hc⟩,fun h=>h.2.2.2.2⟩
    ·exact ⟨fun h=>(nomatch h),fun h=>absurd h.2.2.2.1 hb⟩
    ·exact ⟨fun h=>(nomatch h),fun h=>absurd h.2.2.1 ha⟩
   ·exact ⟨fun h=>(nomatch h),fun h=>absurd h.2.1.2.2.2 h9⟩
   ·exact ⟨fun h=>(nomatch h),fun h=>absurd h.2.1.2.2.1 h8⟩
   ·exact ⟨fun h=>(nomatch h),fun h=>absurd h.2.1.2.1.2 h7⟩
   ·exact ⟨fun h=>(nomatch h),fun h=>absurd h.2.1.2.1.1 h6⟩
   ·exact ⟨fun h=>(nomatch h),fun h=>absurd h.2.1.1.2 h5⟩
   ·exact ⟨fun h=>(nomatch h),fun h=>absurd h.2.1.1.1 h4⟩
 ·exact Zm ⟨fun h=>(nomatch h),fun h2=>absurd h2.1 h⟩
theorem Alj {p:Int} {k:Nat} {b:AF5} (hk:1<=k) (hs:b.2.1=1∨b.2.1=2) (h:AY1 p k b):BOk p k b:=by
 obtain ⟨e,s,x,y,z⟩:=b;obtain ⟨⟨h1,h2⟩,h3⟩:=h;dsimp only at h1 h2 h3 hs;obtain ⟨e,rfl⟩:∃ e':Nat,e=e':=⟨e.toNat,Zh⟩;rw [Int.toNat_natCast] at h3;refine ⟨e,rfl,?_,?_⟩
 ·split at h2 <;> omega
 ·by_cases Ab:s=1
  ·rw [if_pos Ab] at h3;exact ⟨⟨Int.le_of_lt h3.1.1,h3.1.2⟩,.inl Ab⟩
  ·rw [if_neg Ab] at h3;exact ⟨h3.1.1,.inr ⟨hs.resolve_left Ab,h3.1.2.1,h3.1.2.2⟩⟩
def Asc (L:List AF5) (i:Nat):Prop:=0 < i-> ∀ b c,L[i]? =some b->L[i - 1]? =some c->c.1<=b.1
def RG (p:Int) (k:Nat) (L:List AF5) (i:Nat):Prop:=(∀ b,L[i]? =some b->AY1 p k b)/\Asc L i
def RC (n k:Nat) (p:Int) (A T:Z1) (L:List AF5):Prop:=(∀ i,i < L.length->RG p k L i)/\Rng n (p ^ k) T/\det n T % p≠0/\ ∀ i,i < n-> ∀ j,j < n->ASc n (p ^ k) A T i j=Abl p L 0 (fun _ _=>0) i j
theorem Alk {fuel n k:Nat} {p:Int} {A T:Z1} {L:List AF5} (Ab:1<=n) (hn:n<=8) (hdig:AEt fuel (tab n n A) p=some (k:Int)) (hp:2<=p) (hq:p ^ k<=2147483647) (hk:1<=k) (Ac:p=2->3<=k) (hsz:∀ b∈L,b.2.1=1∨b.2.1=2) (hs:Ah3 L=n) (hl:L.length<=n) (Ad:p<=2147483647) (hf:100 < fuel):
    Ok (AGn fuel (tab n n A) p (tab n n T) L) fun b=>b=true↔RC n k p A T L:=by
 have Ae:2<=p ^ k:=by
   have:=AEv (p:=p) Zh hk
   rw [Int.pow_one] at this;omega
 unfold AGn RC;refine Zq (ABb hdig) fun x hx=>?_;subst hx;refine Zq (ABb (Ah2 hp hq hf)) fun q hqq=>?_;subst hqq;refine Zq (AQf (n:=L.length) (RG p k L) false Zh (fun i hi=>?_) ?_) fun ex hex=>?_
 ·obtain ⟨b,hb⟩:∃ b,L[i]? =some b:=⟨L[i],List.getElem?_eq_getElem hi⟩;unfold AGy;rw [if_pos Zh,ACr hb];refine Zq (Apf (b:=b) hp hq hk Ac hf) fun r hr=>AAj (fun h=>Zm (.inr ⟨rfl,fun hg=>?_⟩)) fun h=>?_
  ·have:=hr.2 (hg.1 b hb);rw [this] at h;cases h
  ·have hpb:AY1 p k b:=hr.1 (by cases r with | true=>rfl | false=>exact absurd rfl h);have hP:∀ c,L[i]? =some c->AY1 p k c:=fun c hc=>by rw [hb] at hc;cases hc;exact hpb
   refine AAj (fun h0=>?_) fun h0=>Zm (.inl ⟨by rw [ABp Zh],hP,fun h1=>by omega⟩);have Ag:i - 1 < L.length:=by omega
   obtain ⟨c,hc⟩:∃ c,L[i - 1]? =some c:=⟨L[i - 1],List.getElem?_eq_getElem Ag⟩;refine AAs hc (by rw [wk Zh];omega) (AAj (fun h2=>Zm (.inr ⟨rfl,fun hg=>?_⟩)) fun h2=>Zm (.inl ⟨by rw [ABp Zh],hP,fun h3 b' c' hb' hc'=>?_⟩))
   ·have:=hg.2 Zh b c hb hc;omega
   ·rw [hb] at hb';rw [hc] at hc';cases hb';cases hc';omega
 ·unfold AGy;rw [if_neg Zh]
 rcases hex with ⟨rfl,hG⟩ | ⟨rfl,hG⟩
 ·refine Zq (Au4 hn hf) fun ex hex=>?_;rcases hex with ⟨rfl,hR⟩ | ⟨rfl,hR⟩
  ·refine Zq (ABb (Au2 Ab hn hp Ad hf)) fun d hd=>?_;subst hd;refine Zq (ABb (Ar5 Ab hn Ae hq hf)) fun g hg=>?_;subst hg;dsimp only;refine AAj (fun h=>?_) fun h=>Zm ⟨fun h2=>(nomatch h2),fun h2=>absurd h2.2.2.1 h⟩;rw [AAp];refine Zq (ABb (Au5 hn hp hq (fun b hb=>?_) hs hl hf)) fun g hg=>?_
   ·obtain ⟨i,hi⟩:=List.getElem?_of_mem hb;exact Alj hk (hsz b hb) ((hG i (List.getElem?_eq_some_iff.1 hi).1).1 b hi)
   ·subst hg;exact Zq (Ar6 hn hf) fun r hr=>Zm ⟨fun h2=>⟨hG,hR,h,hr.1 h2⟩,fun h2=>hr.2 h2.2.2.2⟩
  ·exact Zm ⟨fun h=>(nomatch h),fun h=>absurd h.2.1 hR⟩
 ·exact Zm ⟨fun h=>(nomatch h),fun h=>absurd h.1 hG⟩
def JG (p:Int) (n:Nat) (G:Z1) (L:List AF5) (i:Nat):Prop:=(G i i≠0/\ ∀ b,L[i]? =some b->IsB p (G i i) b)/\Asc L i/\ ∀ j,j < n->(j≠i->G i j=0)
def JC (n k:Nat) (p:Int) (A T:Z1) (L:List AF5):Prop:=Rng n (p ^ k) T/\det n T % p≠0/\ ∀ i,i < n->JG p n (ASc n (p ^ k) A T) L i
theorem AY2 {n:Nat} {q:Int} {A T:Z1} (hq:2<=q) (i j:Nat):0<=ASc n q A T i j/\ASc n q A T i j < q:=⟨Int.emod_nonneg _ Zh,Int.emod_lt_of_pos _ Zh⟩
theorem Ac1 {fuel n k:Nat} {p:Int} {A T:Z1} {L:List AF5} (Ah:1<=n) (hn:n<=8) (hp:2<=p) (Ak:p<=9973) (hq:p ^ k<=2147483647) (hk:1<=k) (hl:L.length=n) (hf:2147483648 < fuel):Ok (AL9 fuel (tab n n A) p (tab n n T) L (p ^ k)) fun b=>b=true↔JC n k p A T L:=by
 have Ai:2<=p ^ k:=by
   have:=AEv (p:=p) Zh hk
   rw [Int.pow_one] at this;omega
 have Af:100 < fuel:=by omega
 unfold AL9 JC;refine Zq (Au3 hn Af) fun ex hex=>?_;rcases hex with ⟨rfl,hR⟩ | ⟨rfl,hR⟩
 ·refine Zq (ABb (Au1 Ah hn hp Zh hf)) fun d hd=>?_;subst hd;dsimp only;refine AAj (fun h=>Zm ⟨fun h2=>(nomatch h2),fun h2=>absurd h h2.2.1⟩) fun h=>Zq (ABb (Ar4 Ah hn Ai hq Af)) fun g hg=>?_;subst hg;dsimp only;have hb:∀ i j,0<=ASc n (p ^ k) A T i j/\ASc n (p ^ k) A T i j < p ^ k:=AY2 Ai;generalize ASc n (p ^ k) A T=G at *;refine Zq (AQf (n:=n) (JG p n G L) false Zh (fun i hi=>?_) ?_) fun ex hex=>?_
  ·obtain ⟨b,hbi⟩:∃ b,L[i]? =some b:=⟨L[i]'Zh,List.getElem?_eq_getElem _⟩;unfold AL2;rw [AAp,if_pos Zh,ACr (AAz hi),ACr (AAz hi),ACr (AAq hi)];refine Zq (Q:=fun ex=>(ex= .inr ()/\G i i≠0/\ ∀ b,L[i]? =some b->IsB p (G i i) b)∨(ex= .inl false/\¬ (G i i≠0/\ ∀ b,L[i]? =some b->IsB p (G i i) b))) (AAj (fun h1=>Zm (.inr ⟨rfl,fun h2=>h2.1 h1⟩)) fun h1=>AAs hbi rfl ?_) fun ex hex=>?_
   ·have:=hb i i;refine Zq (Abk hp Ak Zh Zh Af) fun b0 Aj=>AAj (fun h2=>Zm (.inr ⟨rfl,fun h3=>?_⟩)) fun h2=>Zm (.inl ⟨rfl,h1,fun c hc=>?_⟩)
    ·have h4:(!decide (b=b0))=true:=h2;rw [Apd hp (h3.2 b hbi) Aj] at h4;simp at h4
    ·have h4: ¬ (!decide (b=b0))=true:=h2;rw [hbi] at hc;cases hc;have:b=b0:=by simpa using h4
     rw [this];exact Aj
   ·rcases hex with ⟨rfl,h1,h2⟩ | ⟨rfl,h1⟩
    ·refine Zq (Q:=fun ex=>(ex= .inr ()/\Asc L i)∨(ex= .inl false/\¬ Asc L i)) (AAj (fun h0=>AAs hbi rfl ?_) fun h0=>Zm (.inl ⟨rfl,fun h3=>by omega⟩)) fun ex hex=>?_
     ·obtain ⟨c,hc⟩:∃ c,L[i - 1]? =some c:=⟨L[i - 1]'Zh,List.getElem?_eq_getElem _⟩;refine AAs hc (by rw [wk Zh];omega) (AAj (fun h2=>Zm (.inr ⟨rfl,fun hg=>?_⟩)) fun h2=>Zm (.inl ⟨rfl,fun h3 b' c' hb' hc'=>?_⟩))
      ·have:=hg Zh b c hbi hc;omega
      ·rw [hbi] at hb';rw [hc] at hc';cases hb';cases hc';omega
     ·rcases hex with ⟨rfl,h3⟩ | ⟨rfl,h3⟩
      ·refine Zq (AQf (n:=n) (fun j=>j≠i->G i j=0) false Zh (fun j hj=>?_) ?_) fun ex hex=>?_
       ·unfold AL1;rw [AA1,if_pos Zh,ACr (AAz hi),ACr (AAq hj)];refine AAj (fun h4=>AAj (fun h5=>Zm (.inr ⟨rfl,fun h6=>h5 (h6 Zh)⟩)) fun h5=>Zm (.inl ⟨by rw [ABp Zh],fun _=>Decidable.not_not.1 h5⟩)) fun h4=>Zm (.inl ⟨by rw [ABp Zh],fun h5=>by omega⟩)
       ·unfold AL1;rw [AA1,if_neg Zh]
       ·rcases hex with ⟨rfl,h4⟩ | ⟨rfl,h4⟩
        ·exact Zm (.inl ⟨by rw [ABp Zh],⟨h1,h2⟩,h3,h4⟩)
        ·exact Zm (.inr ⟨rfl,fun hg=>h4 hg.2.2⟩)
      ·exact Zm (.inr ⟨rfl,fun hg=>h3 hg.2.1⟩)
    ·exact Zm (.inr ⟨rfl,fun hg=>h1 hg.1⟩)
  ·unfold AL2;rw [AAp,if_neg Zh]
  ·rcases hex with ⟨rfl,h1⟩ | ⟨rfl,h1⟩
   ·exact Zm ⟨fun _=>⟨hR,h,h1⟩,fun _=>rfl⟩
   ·exact Zm ⟨fun h=>(nomatch h),fun h=>absurd h.2.2 h1⟩
 ·exact Zm ⟨fun h=>(nomatch h),fun h=>absurd h.1 hR⟩
theorem Alm {n k:Nat} {p:Int} {A T:Z1} {L:List AF5} (hp:3<=p) (hq:p ^ k<=2147483647) (hk:1<=k) (hsz:∀ b∈L,b.2.1=1) (hl:L.length=n):JC n k p A T L↔RC n k p A T L:=by
  have hq2:2<=p ^ k:=by
    have:=AEv (p:=p) Zh hk;rw [Int.pow_one] at this;omega
  have hb:∀ i j,0<=ASc n (p ^ k) A T i j/\ASc n (p ^ k) A T i j < p ^ k:=AY2 hq2;have hm:=As4 (p:=p) (r:=0) (F:=fun _ _=>0) hsz;unfold JC RC;generalize ASc n (p ^ k) A T=G at *
  have hget:∀ i,i < n-> ∃ b,L[i]? =some b:=fun i hi=>⟨L[i]'Zh,List.getElem?_eq_getElem _⟩
  constructor
  · rintro ⟨h1,h2,h3⟩
    refine ⟨fun i hi=>⟨fun b hb2=>?_,(h3 i Zh).2.1⟩,h1,h2,fun i hi j hj=>?_⟩
    · obtain ⟨⟨hne,hI⟩,-,-⟩:=h3 i Zh;obtain ⟨e,u,rfl,hx,hu⟩:=hI b hb2;have hbi:=hb i i;have hpe:0 < p ^ e:=Int.pow_pos Zh
      have hu0:0 < u:=by
        rcases Int.lt_or_le 0 u with h | h
        · exact h
        · have:=Int.mul_nonpos_of_nonpos_of_nonneg h (Int.le_of_lt hpe);omega
      have hle:1 * p ^ e<=u * p ^ e:=Int.mul_le_mul_of_nonneg_right Zh Zh;have hek:e < k:=Ah1 (p:=p) Zh Zh;refine ⟨⟨Zh,by rw [if_neg Zh];show (e:Int)<=_;omega⟩,?_⟩;rw [if_pos rfl];refine ⟨⟨hu0,?_⟩,hu,rfl,rfl⟩;rw [Int.toNat_natCast];show u < p ^ (k - e);have h4:u * p ^ e < p ^ (k - e) * p ^ e:=by rw [<- Int.pow_add,show k - e + e=k by omega];omega
      exact Int.lt_of_mul_lt_mul_right h4 (Int.le_of_lt hpe)
    · rw [hm i j]
      by_cases hij:i=j
      · subst hij;obtain ⟨b,hbi⟩:=hget i hi;obtain ⟨e,u,rfl,hx,hu⟩:=(h3 i hi).1.2 b hbi;rw [if_pos ⟨rfl,Nat.zero_le _⟩,Nat.sub_zero,hbi,hx];show u * p ^ e=p ^ ((e:Int).toNat) * u;rw [Int.toNat_natCast,Int.mul_comm]
      · rw [if_neg (fun h=>hij h.1)];exact (h3 i hi).2.2 j hj (fun h=>hij h.symm)
  · rintro ⟨h1,h2,h3,h4⟩;refine ⟨h2,h3,fun i hi=>?_⟩;obtain ⟨b,hbi⟩:=hget i hi;obtain ⟨hP,hA⟩:=h1 i Zh;have hPb:=hP b hbi;have hs1:=hsz b (List.mem_of_getElem? hbi);obtain ⟨e,s,x,y,z⟩:=b;dsimp only at hs1;subst hs1;obtain ⟨⟨ha,hb2⟩,hc⟩:=hPb;dsimp only at ha hb2 hc;rw [if_pos rfl] at hc;obtain ⟨⟨c1,c2⟩,c3,rfl,rfl⟩:=hc;have hd:=h4 i hi i hi;rw [hm i i,if_pos ⟨rfl,Nat.zero_le _⟩,Nat.sub_zero,hbi] at hd;dsimp only at hd;have hpe:0 < p ^ e.toNat:=Int.pow_pos Zh;have:=Int.mul_pos hpe c1
    refine ⟨⟨Zh,fun c hc=>?_⟩,hA,fun j hj hne=>?_⟩
    · rw [hbi] at hc;cases hc;refine ⟨e.toNat,x,?_,by rw [hd,Int.mul_comm],c3⟩;rw [show ((e.toNat:Nat):Int)=e by omega]
    · rw [h4 i hi j hj,hm i j,if_neg (fun h=>hne h.1.symm)]
end Go.Proofs.YtdkldlbgcfpglaaGreatDoor
namespace Go.Proofs.YtdkldlbgcfpglaaGreatDoor
open Go Go.QF
structure Eli (n K:Nat) (p:Int) (H T G:Z1):Prop where
  c:Car n K p H T G
  d:Eqm (p ^ K) (det n T * det n T) 1
theorem AX2 {n:Nat} {m:Int} {A A' B B':Z1} {i j:Nat} (hA:∀ k,k < n->Eqm m (A i k) (A' i k)) (hB:∀ k,k < n->Eqm m (B k j) (B' k j)):Eqm m (ACq n A B i j) (ACq n A' B' i j):=Eqm.psum fun k hk=>(hA k hk).mul (hB k hk)
theorem Eli.step {n K:Nat} {p:Int} {H T G E T' G':Z1} (S:Eli n K p H T G) (hE:det n E * det n E=1) (hT:∀ i j,i < n->j < n->Eqm (p ^ K) (T' i j) (ACq n T E i j)) (hG:∀ i j,i < n->j < n->Eqm (p ^ K) (G' i j) (ACq n (trF E) (ACq n G E) i j)):Eli n K p H T' G':=by
 refine ⟨fun i j hi hj=>?_,?_⟩
 ·have h1:Eqm (p ^ K) (ACq n (trF T') (ACq n H T') i j) (ACq n (trF (ACq n T E)) (ACq n H (ACq n T E)) i j):=AX2 (fun k hk=>hT k i hk hi) fun k hk=>AX2 (fun l hl=>Eqm.refl _ _) fun l hl=>hT l j hl hj;refine h1.trans (Eqm.trans (Eqm.of_eq ?_) ((AX2 (fun k hk=>Eqm.refl _ _) fun k hk=>AX2 (fun l hl=>S.c k l hk hl) fun l hl=>Eqm.refl _ _).trans (hG i j hi hj).symm));rw [AN2 (fun k hk=>AZz i k) (fun k hk=>rfl),AN1];refine AN2 (fun _ _=>rfl) fun k hk=>?_;rw [AN1];refine AN2 (fun _ _=>rfl) fun l hl=>?_;rw [AN1]
 ·have h1:Eqm (p ^ K) (det n T') (det n T * det n E):=by rw [<- AT7];exact AVy hT
  refine (h1.mul h1).trans (Eqm.trans (Eqm.of_eq ?_) S.d);rw [show det n T * det n E * (det n T * det n E)=det n T * det n T * (det n E * det n E) by grind,hE,Int.mul_one]
theorem Au6 {n K:Nat} {p:Int} {H G:Z1} (hG:∀ i j,i < n->j < n->Eqm (p ^ K) (G i j) (H i j)):Eli n K p H dl G:=by
 refine ⟨fun i j hi hj=>?_,by rw [AYo];exact Eqm.refl _ _⟩
 ·refine Eqm.trans (Eqm.of_eq ?_) (hG i j hi hj).symm;exact (Ajp (n:=n) (A:=H) i j hi hj).symm
def Ah4 (j k:Nat) (c:Int):Z1:=ABv dl k fun x=>dl k x + c * dl j x
theorem Apg (j k:Nat) (c:Int) (a b:Nat):Ah4 j k c a b=dl a b + (if a=k then c * dl j b else 0):=by
 unfold Ah4;rw [ABc];by_cases h:a=k
 ·subst h;rw [if_pos rfl,if_pos rfl]
 ·rw [if_neg h,if_neg h];simp
theorem Aph {n j k:Nat} {c:Int} (hj:j < n) (hk:k < n) (hne:k≠j):det n (Ah4 j k c) * det n (Ah4 j k c)=1:=by
 unfold Ah4;rw [ALk hk hj hne,AYo];rfl
theorem AX3 {n j k:Nat} {c:Int} {T:Z1} {a b:Nat} (hk:k < n) (hb:b < n):ACq n T (Ah4 j k c) a b=T a b + (if b=j then c * T a k else 0):=by
 unfold ACq
 rw [ABa (g:=fun l=>T a l * dl l b + (if l=k then T a k * (c * dl j b) else 0)) fun l _=>by
   rw [Apg];by_cases h:l=k
   · subst h;rw [if_pos rfl,if_pos rfl];grind
   · rw [if_neg h,if_neg h];simp,AMw,Ahh hb,APj hk fun l _ hne=>if_neg hne,if_pos rfl]
 unfold dl;by_cases h:b=j
 ·subst h;rw [if_pos rfl,if_pos rfl];grind
 ·rw [if_neg h,if_neg fun h2=>h h2.symm];simp
theorem Ar8 {n j k:Nat} {c:Int} {M:Z1} {a b:Nat} (hk:k < n) (ha:a < n):ACq n (trF (Ah4 j k c)) M a b=M a b + (if a=j then c * M k b else 0):=by
 have:=AX3 (T:=trF M) (j:=j) (c:=c) (a:=b) hk ha;rw [<- show trF (trF M)=M from rfl,<- AZz];exact this
theorem Eli.add {n K:Nat} {p:Int} {H T G T' G':Z1} {j k:Nat} {c:Int} (S:Eli n K p H T G) (hj:j < n) (hk:k < n) (hne:k≠j) (hT:∀ a b,a < n->b < n->Eqm (p ^ K) (T' a b) (T a b + if b=j then c * T a k else 0)) (hG:∀ a b,a < n->b < n->Eqm (p ^ K) (G' a b) (G a b + (if b=j then c * G a k else 0) + if a=j then c * (G k b + if b=j then c * G k k else 0) else 0)):Eli n K p H T' G':=
  S.step (Aph hj hk hne) (fun a b ha hb=>by rw [AX3 hk hb];exact hT a b ha hb) fun a b ha hb=>by
    rw [Ar8 hk ha,AX3 hk hb,AX3 hk hb]
    exact hG a b ha hb
def sw2 (i j a:Nat):Nat:=if a=j then i else if a=i then j else a
theorem AW1 {n i j a:Nat} (hi:i < n) (hj:j < n) (ha:a < n):sw2 i j a < n:=by
 unfold sw2;by_cases h1:a=j
 ·rw [if_pos h1];exact hi
 ·rw [if_neg h1];by_cases h2:a=i
  ·rw [if_pos h2];exact hj
  ·rw [if_neg h2];exact ha
theorem Aed (i j a:Nat):sw2 i j (sw2 i j a)=a:=by
 unfold sw2;by_cases h1:a=j
 ·subst h1;rw [if_pos rfl];by_cases h2:i=a
  ·rw [if_pos h2,h2]
  ·rw [if_neg h2,if_pos rfl]
 ·rw [if_neg h1];by_cases h2:a=i
  ·subst h2;rw [if_pos rfl,if_pos rfl]
  ·rw [if_neg h2,if_neg h1,if_neg h2]
theorem Aee (i j a b:Nat):AEh dl i j a b=dl (sw2 i j a) b:=by
 rw [AJv];unfold sw2;by_cases h1:a=j
 ·rw [if_pos h1,if_pos h1]
 ·rw [if_neg h1,if_neg h1];by_cases h2:a=i
  ·rw [if_pos h2,if_pos h2]
  ·rw [if_neg h2,if_neg h2]
theorem Ar9 {n i j:Nat} (hi:i < n) (hj:j < n):det n (AEh dl i j) * det n (AEh dl i j)=1:=by
 by_cases h:i=j
 ·subst h
  rw [AB0 (G:=dl) fun a b _ _=>by
    rw [Aee];unfold sw2;by_cases h:a=i
    · rw [if_pos h,h]
    · rw [if_neg h,if_neg h],AYo];rfl
 ·rw [APw hi hj h,AYo];rfl
theorem Aef {n i j:Nat} {T:Z1} {a b:Nat} (hi:i < n) (hj:j < n) (hb:b < n):ACq n T (AEh dl i j) a b=T a (sw2 i j b):=by
 unfold ACq;rw [APj (AW1 hi hj hb) fun k _ hne=>?_]
 ·rw [Aee,Aed];unfold dl;rw [if_pos rfl];simp
 ·rw [Aee];unfold dl;rw [if_neg fun h=>hne (by rw [<- h,Aed])];simp
theorem Au7 {n i j:Nat} {M:Z1} {a b:Nat} (hi:i < n) (hj:j < n) (ha:a < n):ACq n (trF (AEh dl i j)) M a b=M (sw2 i j a) b:=by
 have:=Aef (T:=trF M) (a:=b) hi hj ha;rw [<- show trF (trF M)=M from rfl,<- AZz];exact this
theorem Eli.swap {n K:Nat} {p:Int} {H T G T' G':Z1} {i j:Nat} (S:Eli n K p H T G) (hi:i < n) (hj:j < n) (hT:∀ a b,a < n->b < n->T' a b=T a (sw2 i j b)) (hG:∀ a b,a < n->b < n->G' a b=G (sw2 i j a) (sw2 i j b)):Eli n K p H T' G':=
  S.step (Ar9 hi hj) (fun a b ha hb=>by rw [Aef hi hj hb,hT a b ha hb];exact Eqm.refl _ _) fun a b ha hb=>by
    rw [Au7 hi hj ha,Aef hi hj hb,hG a b ha hb];exact Eqm.refl _ _
theorem Eli.sym {n K:Nat} {p:Int} {H T G:Z1} (S:Eli n K p H T G) (hs:∀ i j,i < n->j < n->H i j=H j i) (hG:ATh n (p ^ K) G) {i j:Nat} (hi:i < n) (hj:j < n):G i j=G j i:=by
 refine Acf ?_ (hG i j hi hj) (hG j i hj hi);refine (S.c i j hi hj).symm.trans (Eqm.trans (Eqm.of_eq ?_) (S.c j i hj hi));show psum (fun a=>T a i * psum (fun b=>H a b * T b j) n) n=psum (fun a=>T a j * psum (fun b=>H a b * T b i) n) n;rw [ABa (g:=fun a=>psum (fun b=>T a i * (H a b * T b j)) n) fun a _=>(AF1 _ _ _).symm,AYn,ABa (f:=fun a=>T a j * psum (fun b=>H a b * T b i) n) (g:=fun a=>psum (fun b=>T a j * (H a b * T b i)) n) fun a _=>(AF1 _ _ _).symm];refine ABa fun a ha=>ABa fun b hb=>?_;rw [hs b a hb ha];grind
theorem Eli.det {n K:Nat} {p:Int} {H T G:Z1} (S:Eli n K p H T G):Eqm (p ^ K) (QF.det n G) (QF.det n H):=by
 have h1:Eqm (p ^ K) (QF.det n G) (QF.det n (ACq n (trF T) (ACq n H T))):=AVy fun i j hi hj=>(S.c i j hi hj).symm;refine h1.trans ?_;rw [AT7,AT7,AQb];refine Eqm.trans (Eqm.of_eq (show QF.det n T * (QF.det n H * QF.det n T)=QF.det n H * (QF.det n T * QF.det n T) by grind)) ?_;have:=(Eqm.refl (p ^ K) (QF.det n H)).mul S.d;rwa [Int.mul_one] at this
theorem Eli.some {n K k:Nat} {p:Int} {H T G:Z1} (S:Eli n K p H T G) (hd: ¬ p ^ K ∣ QF.det n H) (hk:k < n) (hz:∀ j,j < k->G k j=0):∃ j,k<=j/\j < n/\G k j≠0:=by
  refine Classical.byContradiction fun hn=>hd ?_
  have h0:QF.det n G=0:=AT6 hk fun j hj=>Classical.byContradiction fun h=>hn ⟨j,by
    rcases Nat.lt_or_ge j k with hl | hl
    · exact absurd (hz j hl) h
    · exact hl,hj,h⟩
  have:=S.det;rw [h0] at this;exact Ad7.1 this.symm
theorem Eli.unit {n K:Nat} {p:Int} {H T G:Z1} (S:Eli n K p H T G) (hp:2<=p) (hK:1<=K):QF.det n T % p≠0:=fun h=>by
  have h1:Eqm p (QF.det n T * QF.det n T) 1:=S.d.down ⟨p ^ (K - 1),by rw [<- Int.pow_succ'];congr 1;omega⟩
  have h2:p ∣ (1:Int):=Art h1.symm (Int.dvd_refl p) (Int.dvd_trans (Int.dvd_of_emod_eq_zero h) ⟨_,rfl⟩)
  have:=Int.le_of_dvd Zk h2
  omega
theorem Eli.cong {n K:Nat} {p:Int} {H T G:Z1} (S:Eli n K p H T G) (hG:ATh n (p ^ K) G) (hq:2<=p ^ K) {i j:Nat} (hi:i < n) (hj:j < n):ASc n (p ^ K) H T i j=G i j:=by
 refine Acf ?_ (AY2 hq i j) (hG i j hi hj);refine Eqm.trans ?_ (S.c i j hi hj);unfold ASc;refine (Eqm.mod _ _).trans (Eqm.psum fun k hk=>(Eqm.mod _ _).mul ((Eqm.mod _ _).trans (Eqm.psum fun l hl=>(Eqm.mod _ _).mul (Eqm.mod _ _))))
def AQv (q:Int) (j l:Nat) (c:Int) (T:Z1):Z1:=fun a b=>if b=j then (T a j + c * T a l) % q else T a b
def Api (q:Int) (j l:Nat) (c:Int) (G:Z1):Z1:=fun a b=>if a=j then (G j b + c * G l b) % q else G a b
def AW2 (q:Int) (j l:Nat) (c:Int) (G:Z1):Z1:=Api q j l c (AQv q j l c G)
def swC (i j:Nat) (T:Z1):Z1:=fun a b=>T a (sw2 i j b)
def swG (i j:Nat) (G:Z1):Z1:=fun a b=>G (sw2 i j a) (sw2 i j b)
theorem ATj (q:Int) (j l:Nat) (c:Int) (G:Z1) (a b:Nat):AW2 q j l c G a b=if a=j then (if b=j then ((G j j + c * G j l) % q + c * ((G l j + c * G l l) % q)) % q else (G j b + c * G l b) % q) else if b=j then (G a j + c * G a l) % q else G a b:=by
 unfold AW2 Api AQv;by_cases h:a=j
 ·rw [if_pos h,if_pos h];by_cases h2:b=j
  ·rw [if_pos h2,if_pos h2,if_pos h2]
  ·rw [if_neg h2,if_neg h2,if_neg h2]
 ·rw [if_neg h,if_neg h]
theorem Ajy {d q x:Int} (hq:d ∣ q) (hx:d ∣ x):d ∣ x % q:=by
 rw [Int.emod_def];exact Int.dvd_sub hx (Int.dvd_trans hq ⟨_,rfl⟩)
theorem AX4 {q:Int} (hq:0 < q) (x:Int):0<=x % q/\x % q < q:=⟨Int.emod_nonneg _ Zh,Int.emod_lt_of_pos _ hq⟩
theorem AV3 {n j l:Nat} {q c:Int} {T:Z1} (hq:0 < q) (h:ATh n q T):ATh n q (AQv q j l c T):=fun a b ha hb=>by
  unfold AQv;split
  · exact AX4 hq _
  · exact h a b ha hb
theorem Aln {n j l:Nat} {q c:Int} {G:Z1} (hq:0 < q) (h:ATh n q G):ATh n q (AW2 q j l c G):=fun a b ha hb=>by
  unfold AW2 Api;split
  · exact AX4 hq _
  · exact AV3 hq h a b ha hb
structure JS (n K:Nat) (p:Int) (H T G:Z1) (k E:Nat):Prop where
  rt:ATh n (p ^ K) T
  rg:ATh n (p ^ K) G
  e:Eli n K p H T G
  z:∀ i j,i < k->j < n->j≠i->G i j=0
  fl:∀ i j,k<=i->i < n->k<=j->j < n->p ^ E ∣ G i j
theorem JS.add {n K k E j l:Nat} {p c:Int} {H T G:Z1} (S:JS n K p H T G k E) (hq:0 < p ^ K) (hE:E<=K) (hj:k<=j) (hjn:j < n) (hl:k<=l) (hln:l < n) (hne:l≠j):JS n K p H (AQv (p ^ K) j l c T) (AW2 (p ^ K) j l c G) k E:=by
 refine ⟨AV3 hq S.rt,Aln hq S.rg,?_,fun a b ha hb hba=>?_,fun a b ha han hb hbn=>?_⟩
 ·exact S.e.add (c:=c) hjn hln hne (fun a b ha hb=>by
    unfold AQv;by_cases h:b=j
    · subst h;rw [if_pos rfl,if_pos rfl];exact Eqm.mod _ _
    · rw [if_neg h,if_neg h,Int.add_zero];exact Eqm.refl _ _) fun a b ha hb=>by
    rw [ATj]
    by_cases h:a=j
    · subst h;rw [if_pos rfl,if_pos rfl];by_cases h2:b=a
      · subst h2;rw [if_pos rfl,if_pos rfl,if_pos rfl]
        exact (Eqm.mod _ _).trans ((Eqm.mod _ _).add ((Eqm.refl _ _).mul (Eqm.mod _ _)))
      · rw [if_neg h2,if_neg h2,if_neg h2,Int.add_zero,Int.add_zero];exact Eqm.mod _ _
    · rw [if_neg h,if_neg h,Int.add_zero];by_cases h2:b=j
      · subst h2;rw [if_pos rfl,if_pos rfl];exact Eqm.mod _ _
      · rw [if_neg h2,if_neg h2,Int.add_zero];exact Eqm.refl _ _
 ·rw [ATj,if_neg Zh];by_cases h:b=j
  ·subst h;rw [if_pos rfl,S.z a b ha hb hba,S.z a l ha hln Zh];simp
  ·rw [if_neg h];exact S.z a b ha hb hba
 ·have hd:p ^ E ∣ p ^ K:=AIt hE;have key:∀ x y,k<=x->x < n->k<=y->y < n-> ∀ u v,k<=u->u < n->k<=v->v < n->p ^ E ∣ (G x y + c * G u v) % p ^ K:=fun x y h1 h2 h3 h4 u v h5 h6 h7 h8=>Ajy hd (Int.dvd_add (S.fl x y h1 h2 h3 h4) (Int.dvd_trans (S.fl u v h5 h6 h7 h8) ⟨c,Int.mul_comm _ _⟩));rw [ATj];by_cases h:a=j
  ·rw [if_pos h];by_cases h2:b=j
   ·rw [if_pos h2];exact Ajy hd (Int.dvd_add (key j j hj hjn hj hjn j l hj hjn hl hln) (Int.dvd_trans (key l j hl hln hj hjn l l hl hln hl hln) ⟨c,Int.mul_comm _ _⟩))
   ·rw [if_neg h2];exact key j b hj hjn hb hbn l b hl hln hb hbn
  ·rw [if_neg h];by_cases h2:b=j
   ·rw [if_pos h2];exact key a j ha han hj hjn a l ha han hl hln
   ·rw [if_neg h2];exact S.fl a b ha han hb hbn
theorem Apj {k i j a:Nat} (hi:k<=i) (hj:k<=j) (ha:k<=a):k<=sw2 i j a:=by
 unfold sw2;by_cases h1:a=j
 ·rw [if_pos h1];exact hi
 ·rw [if_neg h1];by_cases h2:a=i
  ·rw [if_pos h2];exact hj
  ·rw [if_neg h2];exact ha
theorem Aeg {i j a:Nat} (hi:a≠i) (hj:a≠j):sw2 i j a=a:=by unfold sw2;rw [if_neg hj,if_neg hi]
theorem JS.swap {n K k E i j:Nat} {p:Int} {H T G:Z1} (S:JS n K p H T G k E) (hi:k<=i) (hin:i < n) (hj:k<=j) (hjn:j < n):JS n K p H (swC i j T) (swG i j G) k E:=by
 refine ⟨(fun a b ha hb=>S.rt a _ ha (AW1 hin hjn hb)),(fun a b ha hb=>S.rg _ _ (AW1 hin hjn ha) (AW1 hin hjn hb)),S.e.swap hin hjn (fun _ _ _ _=>rfl) fun _ _ _ _=>rfl,fun a b ha hb hba=>?_,(fun a b ha han hb hbn=>S.fl _ _ (Apj hi hj ha) (AW1 hin hjn han) (Apj hi hj hb) (AW1 hin hjn hbn))⟩
 ·unfold swG;rw [Aeg (a:=a) Zh Zh];exact S.z a _ ha (AW1 hin hjn hb) fun h=>hba (by rw [<- Aed i j b,h,Aeg Zh Zh])
theorem JS.pivot {n K k E i j:Nat} {p u:Int} {H T G:Z1} (S:JS n K p H T G k E) (hs:∀ i j,i < n->j < n->H i j=H j i) (hp:PrI p) (hp2: ¬ p ∣ 2) (hEK:E < K) (hi:k<=i) (hin:i < n) (hj:k<=j) (hjn:j < n) (hne:j≠i) (hu:G i j=u * p ^ E) (hpu: ¬ p ∣ u) (h1:p ^ (E + 1) ∣ G i i) (h2:p ^ (E + 1) ∣ G j j):∃ v,AW2 (p ^ K) i j 1 G i i=v * p ^ E/\¬ p ∣ v:=by
  have hq:0 < p ^ K:=Int.pow_pos (by have:=hp.1;omega);obtain ⟨v,hv⟩:=(S.add (c:=1) hq Zh hi hin hj hjn hne).fl i i hi hin hi hin;refine ⟨v,by rw [hv,Int.mul_comm],fun hd=>?_⟩
  have e1:Eqm (p ^ K) (AW2 (p ^ K) i j 1 G i i) (G i i + 1 * G i j + 1 * (G j i + 1 * G j j)):=by
    rw [ATj,if_pos rfl,if_pos rfl];exact (Eqm.mod _ _).trans ((Eqm.mod _ _).add ((Eqm.refl _ _).mul (Eqm.mod _ _)))
  rw [S.e.sym hs S.rg hjn hin] at e1;have e2:=ASb (e1.down (AIt (p:=p) (show E + 1<=K by omega)));obtain ⟨w,rfl⟩:=hd;have h3:p ^ (E + 1) ∣ AW2 (p ^ K) i j 1 G i i:=⟨w,by rw [hv,Int.pow_succ];grind⟩
  have h4:p ^ (E + 1) ∣ 2 * G i j:=by
    have:2 * G i j=AW2 (p ^ K) i j 1 G i i - (AW2 (p ^ K) i j 1 G i i - (G i i + 1 * G i j + 1 * (G i j + 1 * G j j))) - G i i - G j j:=by omega
    rw [this];exact Int.dvd_sub (Int.dvd_sub (Int.dvd_sub h3 e2) h1) h2
  rw [hu,Int.pow_succ] at h4;obtain ⟨x,hx⟩:=h4;have hpE:p ^ E≠0:=AZy hp E;have:p ∣ 2 * u:=⟨x,Int.eq_of_mul_eq_mul_left hpE (by rw [show p ^ E * (2 * u)=2 * (u * p ^ E) by grind,hx];grind)⟩;exact (hp.2 _ _ this).elim hp2 hpu
theorem Ah5 {K E:Nat} {p x d A v:Int} (hq:0 < p ^ K) (hp:0 < p) (hx:0<=x) (hxd:p ^ E ∣ x) (hd:d=A * p ^ E) (hv:Eqm (p ^ K) (v * A) 1):(x + ((p ^ K - (x / p ^ E * v) % p ^ K) % p ^ K) * d) % p ^ K=0:=by
  have h1:Eqm (p ^ K) ((p ^ K - (x / p ^ E * v) % p ^ K) % p ^ K) (0 - x / p ^ E * v):=(Eqm.mod _ _).trans (Eqm.sub (by unfold Eqm;simp) (Eqm.mod _ _));obtain ⟨y,rfl⟩:=hxd;rw [Int.mul_ediv_cancel_left _ (by have:=Int.pow_pos (n:=p) (m:=E) hp;omega)] at h1 ⊢;refine Eqm.zero (((Eqm.refl _ _).add (h1.mul (Eqm.refl _ d))).trans ?_);rw [hd];refine Eqm.trans (Eqm.of_eq (show p ^ E * y + (0 - y * v) * (A * p ^ E)=p ^ E * y - p ^ E * y * (v * A) by grind)) ?_;refine ((Eqm.refl _ _).sub ((Eqm.refl _ (p ^ E * y)).mul hv)).trans (Eqm.of_eq ?_);omega
theorem JS.next {n K k E:Nat} {p:Int} {H T G:Z1} (S:JS n K p H T G k E) (hs:∀ i j,i < n->j < n->H i j=H j i) (hk:k < n) (hz:∀ j,k < j->j < n->G k j=0):JS n K p H T G (k + 1) E:=by
  refine ⟨S.rt,S.rg,S.e,fun i j hi hj hne=>?_,(fun i j hi hin hj hjn=>S.fl i j Zh hin Zh hjn)⟩
  · rcases Nat.lt_or_ge i k with h | h
    · exact S.z i j h hj hne
    · obtain rfl:i=k:=by omega
      rcases Nat.lt_or_ge i j with h2 | h2
      · exact hz j h2 hj
      · rw [S.e.sym hs S.rg Zh hj];exact S.z j i Zh hk Zh
structure JL (n:Nat) (p:Int) (G:Z1) (L:List AF5) (k E:Nat):Prop where
  len:L.length=k
  bl:∀ i b,L[i]? =some b->G i i≠0/\IsB p (G i i) b/\b.1<=E
  asc:∀ i,Asc L i
theorem JL.keep {n k E:Nat} {p:Int} {G G':Z1} {L:List AF5} (B:JL n p G L k E) (h:∀ i,i < k->G' i i=G i i):JL n p G' L k E:=⟨B.len,fun i b hb=>by
  rw [h i (by rw [<- B.len];exact (List.getElem?_eq_some_iff.1 hb).1)];exact B.bl i b hb,B.asc⟩
theorem JL.push {n k E F:Nat} {p:Int} {G:Z1} {L:List AF5} {b:AF5} (B:JL n p G L k E) (h0:G k k≠0) (hb:IsB p (G k k) b) (hF:b.1=F) (hE:E<=F):JL n p G (L ++ [b]) (k + 1) F:=by
 refine ⟨by simp [B.len],fun i c hc=>?_,fun i hi x y hx hy=>?_⟩
 ·rcases Nat.lt_or_ge i L.length with h | h
  ·rw [List.getElem?_append_left h] at hc;have:=B.bl i c hc;exact ⟨this.1,this.2.1,Zh⟩
  ·rw [List.getElem?_append_right h] at hc
   have h2:i - L.length=0:=by
     refine Classical.byContradiction fun h3=>?_
     rw [List.getElem?_eq_none (by simp;omega)] at hc;cases hc
   rw [h2] at hc;obtain rfl:b=c:=by simpa using hc
   obtain rfl:i=k:=by have:=B.len;omega
   exact ⟨h0,hb,Zh⟩
 ·rcases Nat.lt_or_ge i L.length with h | h
  ·rw [List.getElem?_append_left h] at hx;rw [List.getElem?_append_left Zh] at hy;exact B.asc i hi x y hx hy
  ·rw [List.getElem?_append_right h] at hx
   have h2:i - L.length=0:=by
     refine Classical.byContradiction fun h3=>?_
     rw [List.getElem?_eq_none (by simp;omega)] at hx;cases hx
   rw [h2] at hx;obtain rfl:b=x:=by simpa using hx
   rw [List.getElem?_append_left Zh] at hy;have:=(B.bl _ _ hy).2.2;omega
theorem Awf {n K E:Nat} {p:Int} {H T G:Z1} {L:List AF5} (S:JS n K p H T G n E) (B:JL n p G L n E) (hp:2<=p) (hK:1<=K):JC n K p H T L:=by
  have hq:2<=p ^ K:=by
    have h1:p ^ 1<=p ^ K:=AEv Zh hK;rw [Int.pow_succ,Int.pow_zero,Int.one_mul] at h1;omega
  refine ⟨fun i hi j hj=>S.rt i j hi hj,S.e.unit hp hK,fun i hi=>⟨⟨?_,fun b hb=>?_⟩,B.asc i,fun j hj hne=>?_⟩⟩
  · rw [S.e.cong S.rg hq hi hi];exact (B.bl i _ (List.getElem?_eq_getElem (by rw [B.len];exact hi))).1
  · rw [S.e.cong S.rg hq hi hi];exact (B.bl i b hb).2.1
  · rw [S.e.cong S.rg hq hi hj];exact S.z i j hi hj hne
theorem Aeh:FdT Tryz.prog 80 0 0 2:=⟨_,_,Tryz.underlying80,rfl,rfl,rfl⟩
theorem AO8:FdT Tryz.prog 80 1 1 2:=⟨_,_,Tryz.underlying80,rfl,rfl,rfl⟩
theorem AIi:FdT Tryz.prog 80 2 2 25:=⟨_,_,Tryz.underlying80,rfl,rfl,rfl⟩
theorem AUe:FdT Tryz.prog 80 3 3 25:=⟨_,_,Tryz.underlying80,rfl,rfl,rfl⟩
theorem AQg:SlT Tryz.prog 163 25 1:=ASg Tryz.underlying163 Zx
theorem Apk:ZeT Tryz.prog 25 (.slice none 0 0) 24:=AQ2 Zx
end Go.Proofs.YtdkldlbgcfpglaaGreatDoor
namespace Go.Proofs.YtdkldlbgcfpglaaGreatDoor
open Go Go.QF
set_option maxRecDepth 100000
set_option maxHeartbeats 4000000
def ALf (fuel:Nat) (Ab Aa Ac Ad:Int):Option ((Int × Int × Int × Int) ⊕ ((Int × Int))):=
  (if ¬ Aa=0 then (if Aa≠0 then (some (Sum.inl (Aa,(w64 (Ab - (w64 ((w64 (Int.tdiv Ab Aa)) * Aa)))),Ad,(w64 (Ac - (w64 ((w64 (Int.tdiv Ab Aa)) * Ad))))))) else none) else (some (Sum.inr<| (Ab,Ac))))
def AHh (fuel:Nat) (a1 a2:Int):Option (Int × Bool):=
  ((iter (fun s=>ALf fuel s.1 s.2.1 s.2.2.1 s.2.2.2) fuel (a2,a1,0,1)).bind (fun ((Ac,Ad):Int × Int)=>(if a2≠0 then (if a2≠0 then (some ((Int.tmod (w64 ((Int.tmod Ad a2) + a2)) a2),(decide (Ac=1)))) else none) else none)))
theorem ATk {fuel:Nat} {h:Zu} {a1 a2:Int} {r:(Int × Bool)} (hp:AHh fuel a1 a2=some r):AAv Tryz.prog 145 #[(.int .i64 a1),(.int .i64 a2)] h (fun x h'=>Ext h h'/\x= .tuple #[.int .i64 r.1,.bool r.2]):=by
 unfold AHh at hp;refine cwf (l:=[_,_]) Tryz.func145 rfl rfl (Zn (AAl (AA4 (Zj (Zj (AAl (AA4 (AAl (Zt (Zo (Zs ?_)))))))))));have K0:=Kst.k0 h;refine AG4 1073735616 hp (fun x=>[(6,(.int .i64 x.1)),(7,(.int .i64 x.2.1)),(8,(.int .i64 x.2.2.1)),(9,(.int .i64 x.2.2.2))]) (fun x=>K0.L) K0 ⟨rfl,rfl,rfl,rfl,trivial⟩ ?_;rintro ⟨u9,Aq,Ar,Au⟩ Av h6 y5 K8 Aa Ag;unfold ALf at Aa;refine Zo (Zn (Zj (ACk rfl rfl (Zr (⟨_,rfl,fun Ab=>?_,fun Ab=>?_⟩)))))
 ·refine Zv (q_t (Zs (Zn (Zj (Zj ?_)))));obtain ⟨Ah,Ai⟩:=ifN (AA5 Aa Ab);refine AUx rfl rfl Ah (AA4 (Zj (Zj (Zj (Zj (AL3 rfl rfl (AFg rfl rfl (AAl (Zt (AAa (Zj (Zj (Zj (Zj (AL3 rfl rfl (AFg rfl rfl (AAl (AAl (AAn (q_b (q_t ?_)))))))))))))))))))));exact ⟨_,(Zl Ai).symm,K8,rfl,rfl,rfl,rfl,trivial⟩
 ·refine AAh (AAi (AAi (ABj (q_t (Zn (Zj (Zj ?_)))))));obtain ⟨Aj,Ak⟩:=ifN (Ag _ (Zl (AA6 Aa Ab)).symm);refine ADc rfl rfl Aj (Zj (AA0 rfl rfl (Zj ?_)));obtain ⟨Am,Ao⟩:=ifN Ak;refine ADc rfl rfl Am (Zj (AB2 rfl rfl (AAl (Zt (Zw ?_)))));obtain rfl:=Zl Ao;exact ⟨_,ABf,K8.x,rfl⟩
def AM4 (fuel:Nat) (Aa:LiI) (Ab Ac:Int):Option ((Int × Int) ⊕ ((Int))):=
  (if Ac < (Aa.length:Int) then none else (some (Sum.inr<| Ab)))
def AHi (fuel:Nat) (Ab:LiI) (Ac Aa:Int):Option ((Int × Int) ⊕ ((Int))):=
  (if Aa < (Ab.length:Int) then ((iter (fun s=>AM4 fuel Ab s.1 s.2) fuel (Ac,(w64 (Aa + 1)))).bind (fun (Ad:Int)=>(some (Sum.inl (Ad,(w64 (Aa + 1))))))) else (some (Sum.inr<| Ac)))
def AEe (fuel:Nat) (a5 Ad:Int) (Af:LiA) (Ag Aa:Int) (Ab:LiI):Option ((Int × LiI) ⊕ ((LiI))):=
  (if Aa < (Af.length:Int) then ((gI Ab Ad).bind fun Ae=>((gI Ae Aa).bind fun Ah=>(if a5≠0 then (some (Sum.inl ((w64 (Aa + 1)),(sI Ab Ad (sI Ae Aa (Int.tmod (w64 (Ah * Ag)) a5)))))) else none))) else (some (Sum.inr<| Ab)))
def AMi (fuel:Nat) (Aa Ab:Int):Option ((Int) ⊕ ((Unit))):=
  (if Ab < Aa then none else (some (Sum.inr<| ())))
def AMj (fuel:Nat) (a3 Ae:LiI) (Ab:Int) (Ac:LiI):Option ((Int × LiI) ⊕ ((LiI))):=
  (if Ab < (Ae.length:Int) then ((gI Ac Ab).bind fun Ad=>(if 0<=(a3.length:Int)/\(a3.length:Int)<=(Ad.length:Int) then (if (List.drop (Int.toNat (a3.length:Int)) Ad).length<=100000000 then (some (Sum.inl ((w64 (Ab + 1)),(sI Ac Ab (List.drop (Int.toNat (a3.length:Int)) Ad))))) else none) else none)) else (some (Sum.inr<| Ac)))
def AHj (fuel:Nat) (a5 Aa:Int) (Ab:LiI):Option ((Int × LiI) ⊕ (((LiI × Int)) ⊕ (LiI))):=
  (if 0<=Aa then ((gI Ab Aa).bind fun Ad=>((gI Ad Aa).bind fun Ae=>((AHh fuel Ae a5).bind fun (Af,Ag)=>(if (!Ag)=true then (some (Sum.inr<| Sum.inl <| ([],8))) else ((((iter (fun s=>AEe fuel a5 Aa Ad Af s.1 s.2) fuel (0,Ab)).bind (fun (Ah:LiI)=>(some ( Ah)))):Option (LiI)).bind fun Ai=>((iter (fun s=>AMi fuel Aa s) fuel 0).bind (fun (_:Unit)=>(some (Sum.inl ((w64 (Aa - 1)),Ai)))))))))) else (some (Sum.inr<| Sum.inr <| Ab)))
def AM5 (fuel:Nat) (a3 Af:LiI) (Aa:Int) (Ac:LiI):Option ((Int × LiI) ⊕ ((LiI))):=
  (if Aa < (Af.length:Int) then ((gI Ac Aa).bind fun Ad=>(if 0 < Ad.length/\Ad.length<=100000/\0 < (a3.length:Int)/\(a3.length:Int)<=100000 then ((gI (sI Ac Aa (Ad ++ List.replicate (Int.toNat (a3.length:Int)) 0)) Aa).bind fun Ae=>((gI Ae (w64 ((a3.length:Int) + Aa))).bind fun Ag=>(some (Sum.inl ((w64 (Aa + 1)),(sI (sI Ac Aa (Ad ++ List.replicate (Int.toNat (a3.length:Int)) 0)) Aa (sI Ae (w64 ((a3.length:Int) + Aa)) 1))))))) else none)) else (some (Sum.inr<| Ac)))
def AJ8 (fuel:Nat) (a3:LiI) (a5:Int):Option (LiI × Int):=
  ((AFu fuel a3).bind fun x6=>(if (!x6)=true then (some ([],3)) else ((ABs fuel a5).bind fun Ac=>(if ¬ Ac=0 then (some ([],Ac)) else ((ACo fuel a3 a5).bind fun Ad=>((iter (fun s=>AM5 fuel a3 Ad s.1 s.2) fuel (0,Ad)).bind (fun (Ae:LiI)=>(((((some ( a5)):Option (Int)).bind fun Ak=>((iter (fun s=>AHi fuel Ae s.1 s.2) fuel (1,0)).bind (fun (Ah:Int)=>(some ( Ah))))):Option (Int)).bind fun Am=>(((some ( a5)):Option (Int)).bind fun Ao=>((iter (fun s=>AHj fuel a5 s.1 s.2) fuel ((w64 ((a3.length:Int) - 1)),Ae)).bind (fun ex=>match ex with | Sum.inl Ai=>(some Ai) | Sum.inr (Af)=>((iter (fun s=>AMj fuel a3 Af s.1 s.2) fuel (0,Af)).bind (fun (Aj:LiI)=>(some (Aj,0)))))))))))))))
theorem AVk {fuel:Nat} {h:Zu} {Bq:Value} {a3:LiI} {a5:Int} {r:(LiI × Int)} (H2:AC5 (cI .i64) h Bq a3) (hp:AJ8 fuel a3 a5=some r):AAv Tryz.prog 91 #[Bq,(.int .i64 a5)] h (fun x h'=>Ext h h'/\ ∃ (x0:Value) (F0:List Nat) (Cb:List LnA) (Cd:List Value),x= .tuple #[x0,.int .i64 r.2]/\ACs (cI .i64) 60 2 h' F0 Cb Cd x0 r.1/\Sp h' h.size [F0]):=by
 unfold AJ8 at hp;refine cwf (l:=[_,_]) Tryz.func91 rfl rfl (Zn (AAl (Zt (Zo (Zn (Zj ?_))))));have K0:=Kst.k0 h;obtain ⟨x6,Ce,Bw⟩:=Zp hp;refine ACl K0 (ARl (H2.ext K0.x) Ce) fun Es E9 Bx=>ACt rfl (Zr (⟨_,rfl,fun Ap=>?_,fun Ap=>?_⟩))
 ·refine Zn (AAl (Zt (Zw (AAc ?_))));have Aq:=Kst.anil2 (cI .i64) 60 2 Bx;obtain rfl:=Zl (ifT Bw Ap);exact ⟨_,ABf,Aq.x,_,_,_,_,rfl,(Aq.o2 p0),Aq.s.sel [0] Zk⟩
 ·refine Zv (q_t (Zo (Zn (Zj ?_))));obtain ⟨Eu,Cf,By⟩:=Zp (AF9 Bw Ap);refine ACl Bx (AGv Cf) fun Ev Ew Ar=>AA4 (Zj (ACk rfl rfl (Zr (⟨_,rfl,fun Au=>?_,fun Au=>?_⟩))))
  ·refine Zn (Zj (AAl (Zt (Zw (AAc ?_)))));have Av:=Kst.anil2 (cI .i64) 60 2 Ar;obtain rfl:=Zl (AA5 By Au);exact ⟨_,ABf,Av.x,_,_,_,_,rfl,(Av.o2 p0),Av.s.sel [0] Zk⟩
  ·refine Zv (q_t (Zn (Zj (AA8 AAf rfl H2 (AA4 (Zj (Zj ?_)))))));obtain ⟨Cg,Ch,Ci⟩:=Zp (AA6 By Au);refine AMv Ar (AG1 (H2.ext Ar.x) Ch) fun Cj Ck Cm Af Ey Ez Aw=>Zt (Zo (Zn (Zj (AA8 AAf rfl (Aw.o2 p0).rd (Zj (Zr (Zs (AFj 4503597479887360 (fun x:(Int) × (LiI) × LnA × LnN × LvA=>(x.1,x.2.1)) ((0,Cg,Cj,Ck,Cm):(Int) × (LiI) × LnA × LnN × LvA) Ci (fun x=>[(31,(.int .i64 x.1))]) (fun x=>Aw.L.set 0 (aO2 (cI .i64) 60 2 x.2.2.1 x.2.2.2.1 x.2.2.2.2 Af x.2.1)) Aw ⟨rfl,trivial⟩ ?_))))))));rintro ⟨Cn,Fa,Ai,Aj,Ak⟩ Fb Fc Fd Ac Ax Co;unfold AM5 at Ax;refine Zn (AAu rfl rfl (Zr (Zo (⟨_,rfl,fun Ay=>?_,fun Ay=>?_⟩))))
   ·refine Zv (q_t (Zo (Zs (Zn (Zj (AA4 (Zj (Zj (Zj (Zj ?_))))))))));obtain ⟨Fe,Bz,Cp⟩:=Zp (AA5 Ax Ay);refine ABy AAf AA2 (Ac.o2 p0) Bz fun _ Ff Cq=>Zj ?_;obtain ⟨Cr,Ct⟩:=ifN Cp;refine Aqt AAg ASi AIu AAf AA2 (Ac.o2 p0) Cq Bz trivial tt2 rfl rfl (fun _=>rfl) (fun _=>rfl) rfl Zk Cr fun Fg Fh Fi Fj Fk Fl Cu Cv Cw=>Zr (AAa (Zj (Zj ?_)));have B1:=Ac.uo2 p0 Cv Cu Cw;obtain ⟨Fm,B3,Cx⟩:=Zp Ct;refine ABy AAf AA2 (B1.o2 p0) B3 fun _ Fo Cy=>Zj (Zj (AA0 rfl rfl ?_));obtain ⟨Fp,Cz,C0⟩:=Zp Cx;refine ALj (m:=Cn) B1 p0 AAg AAk Cy B3 Cz (fun _=>rfl) fun _ Fq C1=>AAn (q_b (q_t (AAa (AA0 rfl rfl (Zj (Zr ?_))))));exact ⟨(_,_,_,_,_),(Zl C0).symm,C1,rfl,trivial⟩
   ·refine AAh (AAi (AAi (ABj (q_t (Zn (Zj (Zj ?_)))))));obtain ⟨C2,C3,C4⟩:=Zp (Co _ (Zl (AA6 Ax Ay)).symm);refine AAy (K':=(fun xr h'=> ∃ x:(Int),x=C2/\xr=(.int .i64 x)/\Kst h h' (Ac.L))) trivial rfl ?_ fun Fr Ft C5=>?_
    ·refine cwf (l:=[_,_]) Tryz.func123 rfl rfl (Zn (AA4 (Zj ?_)));obtain ⟨C6,C7,C8⟩:=Zp C3;refine AAy (K':=(fun xr h'=> ∃ x:(Nat) × (Int),x.2=C6/\xr=(.func (.func 171) #[] #[(.pointer (some ⟨x.1,0,none⟩))])/\Kst h h' (aB 2 x.1 [(.int .i64 x.2)] :: Ac.L))) trivial rfl ?_ fun Fu Fv C9=>?_
     ·refine cwf (l:=[_]) Tryz.func144 rfl rfl (Zn (AG8 Ac [(.int .i64 a5)] fun Da Fw Fx Db=>AA4 (Al6 rfl (Zt (Zw (⟨_,Zy,((Da,a5):(Nat) × (Int)),?_,rfl,?_⟩))))))
      ·exact Zl C7
      ·exact Db
     obtain ⟨⟨Fy,Fz⟩,Dc,rfl,Az⟩:=C9;refine ⟨trivial,?_⟩;subst Dc;refine AA4 (Zt (Zo (Zn (Zj (AA8 AAf rfl (Az.o2 p1).rd (Zj (Zr (Zs (AG4 18889465931478580847040 C8 (fun x=>[(6,(.int .i64 x.1)),(13,(.int .i64 x.2))]) (fun x=>Az.L) Az ⟨rfl,rfl,trivial⟩ ?_)))))))));rintro ⟨Dd,F4⟩ F5 F6 F7 A3 A4 De;unfold AHi at A4;refine Zn (AAu rfl rfl (Zr (Zo (⟨_,rfl,fun A5=>?_,fun A5=>?_⟩))))
     ·refine Zv (q_t (Zo (Zs (Zn (Zj (AA4 (Zj (AA0 rfl rfl (Zt (Zs (AG4 9444732965739290165568 (AA5 A4 A5) (fun x=>[(6,(.int .i64 x.1)),(8,(.int .i64 x.2))]) (fun x=>A3.L) A3 ⟨rfl,rfl,trivial⟩ ?_)))))))))));rintro ⟨F8,F9⟩ Ga Gb Gc B4 A6 Df;unfold AM4 at A6;refine Zo (Zn (Zj (Zj (AA8 AAf rfl (B4.o2 p1).rd (AAu rfl rfl (Zr (⟨_,rfl,fun A7=>?_,fun A7=>?_⟩)))))))
      ·refine Zv (q_t (Zo ?_));have Dg:=AA5 A6 A7;cases Dg
      ·refine AAh (AAi (AAi (ABj (q_b (q_t (AAa (AA0 rfl rfl (Zj (Zr ?_)))))))));exact ⟨_,(Zl (Df _ (Zl (AA6 A6 A7)).symm)).symm,B4,rfl,rfl,trivial⟩
     ·refine AAh (AAi (AAi (ABj (q_t (Zn (Zj (Zt (Zw (⟨_,Zy,(Dd:(Int)),?_,rfl,?_⟩)))))))))
      ·exact Zl (De _ (Zl (AA6 A4 A5)).symm)
      ·exact A3.sel [1] Zk
    obtain ⟨Gd,Dh,rfl,B5⟩:=C5;refine ⟨trivial,?_⟩;subst Dh;refine AH7 (Zj ?_);obtain ⟨Di,Dj,Dk⟩:=Zp C4;refine AAy (K':=(fun xr h'=> ∃ x:(Nat) × (Int),x.2=Di/\xr=(.func (.func 171) #[] #[(.pointer (some ⟨x.1,0,none⟩))])/\Kst h h' (aB 2 x.1 [(.int .i64 x.2)] :: B5.L))) trivial rfl ?_ fun Ge Gf Dl=>?_
    ·refine cwf (l:=[_]) Tryz.func144 rfl rfl (Zn (AG8 B5 [(.int .i64 a5)] fun Do Gg Gh Dp=>AA4 (Al6 rfl (Zt (Zw (⟨_,Zy,((Do,a5):(Nat) × (Int)),?_,rfl,?_⟩))))))
     ·exact Zl Dj
     ·exact Dp
    obtain ⟨⟨Gi,Gj⟩,Dq,rfl,B6⟩:=Dl;refine ⟨trivial,?_⟩;subst Dq;refine Zt (Zo (Zn (Zj (AFg rfl rfl (Zt (Zs (AG4 81129638414606105235036701751344 Dk (fun x=>[(11,(.int .i64 x.1))]) (fun x=>B6.L.set 1 (aO2 (cI .i64) 60 2 Ai Aj Ak Af x.2)) B6 ⟨rfl,trivial⟩ ?_)))))));rintro ⟨A8,Dr⟩ Gk Gl Gm Ag A9 B7;unfold AHj at A9;refine Zo (Zn (Zj (AMf rfl rfl (Zr (⟨_,rfl,fun Ba=>?_,fun Ba=>?_⟩)))))
    ·refine Zv (q_t (Zo (Zs (Zn (Zj (Zj ?_))))));obtain ⟨Gn,Am,Ds⟩:=Zp (AA5 A9 Ba);refine ABy AAf AA2 (Ag.o2 p1) Am fun _ Gp Dt=>Zj ?_;obtain ⟨Gq,Du,Dv⟩:=Zp Ds;refine AIs (m:=A8) AAg AAk (Ag.o2 p1) Dt Am Du fun _=>(Zj ?_);obtain ⟨⟨Gr,Gt⟩,Dw,Bb⟩:=Zp Dv;dsimp only at Bb;refine ACl Ag (ATk Dw) fun Gu Gv Ad=>Zj (ABl rfl rfl (ABl rfl rfl (AAl (Zt (Zo (Zn (Zj (ACt rfl (Zr (⟨_,rfl,fun Bc=>?_,fun Bc=>?_⟩))))))))))
     ·refine Zn (AAl (Zt (Zw (AAc (ABi (AAc (AAc (ABi (AAc ?_)))))))));have Be:=Kst.anil2 (cI .i64) 60 2 Ad;obtain rfl:=Zl (B7 _ (Zl (ifT Bb Bc)).symm);exact ⟨_,ABf,Be.x,_,_,_,_,rfl,(Be.o2 p0),Be.s.sel [0] Zk⟩
     ·refine Zv (q_t (Zn (Zj (Zj (ABy AAf AA2 (Ad.o2 p1) Am fun _ Gw Bf=>Zj (Zj ?_))))));obtain ⟨Dx,Dy,Dz⟩:=Zp (AF9 Bb Bc);refine AAy (K':=(fun xr h'=> ∃ x:(LiI),x=Dx/\xr= .tuple #[]/\Kst h h' (Ad.L.set 1 (aO2 (cI .i64) 60 2 Ai Aj Ak Af x)))) trivial rfl ?_ fun Gx Gy D0=>?_
      ·refine cwf (l:=[_,_,_]) Tryz.func146 rfl rfl (Zn (Zj (ABm AAg rfl ((Ad.o2 p1).rowI Bf Am) (Zj (Zr (Zs (AG4 16776384 Dy (fun x=>[(10,(.int .i64 x.1))]) (fun x=>Ad.L.set 1 (aO2 (cI .i64) 60 2 Ai Aj Ak Af x.2)) Ad ⟨rfl,trivial⟩ ?_)))))));rintro ⟨Gz,D1⟩ G3 G4 G5 Bg Bh D2;unfold AEe at Bh;refine Zn (AAu rfl rfl (Zr (Zo (⟨_,rfl,fun Bi=>?_,fun Bi=>?_⟩))))
       ·refine Zv (q_t (Zo (Zs (Zn (Zj ?_)))));obtain ⟨G6,B8,D3⟩:=Zp (AA5 Bh Bi);obtain ⟨G7,B9,D4⟩:=Zp D3;refine AIs (m:=A8) AAg AAk (Bg.o2 p1) Bf B8 B9 fun _=>(AAl (Zt (AAa (Zj (Zj (Zj (Zj (AL3 rfl rfl (Zj ?_)))))))));obtain ⟨D5,D6⟩:=ifN D4;refine ADc rfl rfl D5 (ALj (m:=A8) Bg p1 AAg AAk Bf B8 B9 (fun _=>rfl) fun _ G8 D7=>AAn (q_b (q_t (AAa (AA0 rfl rfl (Zj (Zr ?_)))))));exact ⟨_,(Zl D6).symm,D7,rfl,trivial⟩
       ·refine AAh (AAi (AAi (ABj (⟨_,ASt,(D1:(LiI)),?_,rfl,?_⟩))))
        ·exact Zl (D2 _ (Zl (AA6 Bh Bi)).symm)
        ·exact Bg
      obtain ⟨G9,D8,rfl,Ca⟩:=D0;refine ⟨trivial,?_⟩;subst D8;refine AH7 (Zj (Zj (Zr (Zs (AG4 81129599728980454027655414562816 Dz (fun x=>[(85,(.int .i64 x))]) (fun x=>Ca.L) Ca ⟨rfl,trivial⟩ ?_)))));rintro Hb Hc Hd He D9 Bj Ea;unfold AMi at Bj;refine Zn (AAu rfl rfl (Zr (Zo (⟨_,rfl,fun Bl=>?_,fun Bl=>?_⟩))))
      ·refine Zv (q_t (Zo ?_));have Eb:=AA5 Bj Bl;cases Eb
      ·refine AAh (AAi (AAi (ABj (q_b (q_t (AAa (Zj (AFg rfl rfl (Zt ?_)))))))));exact ⟨_,(Zl (Ea _ (Zl (AA6 Bj Bl)).symm)).symm,D9,rfl,trivial⟩
    ·refine AAh (AAi (AAi (ABj (q_t (Zo (Zn (Zj (AA8 AAf rfl (Ag.o2 p1).rd (Zj (Zr (Zs ?_)))))))))));have Bm:=Ag.sel [1] Zk;dsimp only [AHa,AKo] at Bm;refine AFj 5316587464586005064888445085100834816 (fun x:(Int) × (LiI) × LnA × LnN × LvA=>(x.1,x.2.1)) ((0,Dr,Ai,Aj,Ak):(Int) × (LiI) × LnA × LnN × LvA) (B7 _ (Zl (AA6 A9 Ba)).symm) (fun x=>[(108,(.int .i64 x.1))]) (fun x=>Bm.L.set 0 (aO2 (cI .i64) 60 2 x.2.2.1 x.2.2.2.1 x.2.2.2.2 Af x.2.1)) Bm ⟨rfl,trivial⟩ ?_;rintro ⟨Hf,Hg,Hh,Hj,Hk⟩ Hl Hm Hn Aa Bn Ec;unfold AMj at Bn;refine Zn (AAu rfl rfl (Zr (Zo (⟨_,rfl,fun Bo=>?_,fun Bo=>?_⟩))))
     ·refine Zv (q_t (Zo (Zs (Zn (Zj (Zt (AAa (Zj (Zj (Zj (Zj ?_)))))))))));obtain ⟨Ho,Ae,Ed⟩:=Zp (AA5 Bn Bo);refine ABy AAf AA2 (Aa.o2 p0) Ae fun _ Hq Bp=>Zj ?_;obtain ⟨Ee,Ef⟩:=ifN Ed;refine Aku AAg rfl ((Aa.o2 p0).rowI Bp Ae) ((Aa.o2 p0).rowCap Bp Ae) rfl Ee fun Hr Eg Hs=>?_;obtain ⟨Eh,Ei⟩:=ifN Ef;refine Ani AAg AIu rfl rfl trivial tt2 rfl rfl (Eg ((Aa.o2 p0).rowI Bp Ae)) Zk Eh fun Ht Hu Hv Ej Ek El=>?_;have Ah:=Aa.no Ek El Ej;refine AC2 AAf rfl (Ah.o2 p1) rfl Ae fun Hw Hx Em Hy Hz=>AR6 AA2 (Ah.o2 p1) Ae Em rfl rfl (Ah.o p0) (Ah.dj p0 p1 Zk) fun H5 En Eo Ep=>AAn (q_b (q_t (AAa (AA0 rfl rfl (Zj (Zr ?_))))));exact ⟨(_,_,_,_,_),(Zl Ei).symm,(Ah.m2 p0 p1 Zk Eo En (fun z hz=> .inl (Ep z hz))).sel [1] Zk,rfl,trivial⟩
     ·refine AAh (AAi (AAi (ABj (q_t (Zn (Zj (AAl (Zt (Zw ?_)))))))));obtain rfl:=Zl (Ec _ (Zl (AA6 Bn Bo)).symm);exact ⟨_,ABf,Aa.x,_,_,_,_,rfl,(Aa.o2 p0),Aa.s.sel [0] Zk⟩
end Go.Proofs.YtdkldlbgcfpglaaGreatDoor
namespace Go.Proofs.YtdkldlbgcfpglaaGreatDoor
open Go Go.QF
set_option maxRecDepth 100000
theorem Aei {fuel:Nat} {x m:Int} (hx:0<=x) (hxm:x < m) (hm:2<=m) (Aa:m<=2147483647) (hf:2147483648 < fuel):Ok (AHh fuel x m) fun r=>(r.2=true->AZ8 m x r.1)/\(r.2=false->¬ ∃ y,AZ8 m x y):=by
 unfold AHh;refine Zq (Af5 (fun s:Int × Int × Int × Int=>EI m x s.1 s.2.1 s.2.2.1 s.2.2.2) (fun s=>s.2.1.toNat) (Q:=fun e:Int × Int=> ∃ v,EI m x e.1 0 e.2 v) (fun s hE=>?_) (EI.start hx hxm) (by dsimp only;omega)) fun e he=>?_
 ·obtain ⟨a,b,u,v⟩:=s;dsimp only at hE ⊢;have Ad:0<=b:=hE.1;have Ab:0<=a:=hE.2.1;have ham:a<=m:=hE.2.2.1;unfold ALf;refine AAj (fun h=>AB5 h ?_) fun h=>?_
  ·have hbd:=hE.bounds Zh;rw [Int.tdiv_eq_ediv_of_nonneg Ab,ACe (x:=a / b) Zh Zh,ACe (x:=a / b * b) Zh Zh,ACe (x:=a - a / b * b) Zh Zh,ACe (x:=a / b * v) Zh Zh,ACe (x:=u - a / b * v) Zh Zh];have hs:=hE.step Zh;refine Zm ⟨hs,?_⟩;have h2:=Int.emod_lt_of_pos a (b:=b) Zh;rw [Int.emod_def,Int.mul_comm] at h2;have:=hs.1;show (a - a / b * b).toNat < b.toNat;omega
  ·obtain rfl:b=0:=by omega
   exact Zm ⟨v,hE⟩
 ·obtain ⟨v,hE⟩:=he;obtain ⟨a,u⟩:=e;dsimp only at hE ⊢;have hd:=EI.done hm hE;refine AB5 Zh (AB5 Zh (Zm ⟨fun h=>?_,fun h=>?_⟩))
  ·dsimp only at h ⊢;rw [Ac0 hm Aa];exact hd.2.1 (of_decide_eq_true h)
  ·exact hd.2.2 (of_decide_eq_false h)
theorem Apl {fuel n:Nat} {T:Z1} (Aa:1<=n) (hn:n<=8) (hf:100 < fuel):AFu fuel (tab n n T)=some true:=by
 unfold AFu;rw [AVj Aa hn hf];simp only [Option.bind_some,reduceIte];rw [AUk (AAz Zh),AA1,AAp,if_pos rfl,decide_eq_true Zh]
theorem ASd {S E:Type} {body:S->Option (S ⊕ E)} {fuel:Nat} {s s':S} (h:body s=some (.inl s')):iter body (fuel + 1) s=iter body fuel s':=by simp [iter,h]
theorem AP0 {S E:Type} {body:S->Option (S ⊕ E)} {fuel:Nat} {s:S} {e:E} (h:body s=some (.inr e)):iter body (fuel + 1) s=some e:=by simp [iter,h]
theorem Au8 {f:Nat} {x m:Int} (hm:2<=m) (Aa:m<=2147483647) (hg:∃ y,AZ8 m (x % m) y) (hf:2147483648 < f):∃ v,AJ8 f [[x]] m=some ([[v]],0)/\AZ8 m (x % m) v:=by
 obtain ⟨f,rfl⟩:∃ g,f=g + 3:=⟨f - 3,Zh⟩;have Ab:=Int.emod_nonneg x (show m≠0 by omega);have Ac:=Int.emod_lt_of_pos x (show 0 < m by omega);have h0:AFu (f + 3) [[x]]=some true:=Apl (n:=1) (T:=fun _ _=>x) Zh Zh Zh;have h1:ABs (f + 3) m=some 0:=by unfold ABs;rw [if_neg Zh,if_neg Zh]
 have h2:ACo (f + 3) [[x]] m=some [[x % m]]:=Abh (n:=1) (F:=fun _ _=>x) Zh hm Aa Zh;generalize x % m=r at Ab Ac hg h2 ⊢;obtain ⟨⟨v,b⟩,h3,h4,h5⟩:=Aei Ab Ac hm Aa hf
 obtain rfl:b=true:=by
   cases b
   · exact absurd hg (h5 rfl)
   · rfl
 have hv:=h4 rfl;dsimp only at hv;have Ae:=hv.1;have Am:=hv.2.1;have e3:Int.tmod (w64 (1 * v)) m=v:=by rw [Int.one_mul,ACe (x:=v) Zh Zh,Int.tmod_eq_emod_of_nonneg Ae,Int.emod_eq_of_lt Ae Am]
 refine ⟨v,?_,hv⟩
 have a1:iter (fun s:Int × List (List Int)=>AM5 (f + 3) [[x]] [[r]] s.1 s.2) (f + 3) (0,[[r]])=some [[r,1]]:=by
   rw [ASd (s':=(1,[[r,1]])) rfl,AP0 rfl]
 have a2:iter (fun s:Int × Int=>AHi (f + 3) [[r,1]] s.1 s.2) (f + 3) (1,0)=some 1:=by
   have b5:iter (fun s:Int × Int=>AM4 (f + 3) [[r,1]] s.1 s.2) (f + 3) (1,1)=some 1:=AP0 rfl
   rw [ASd (s':=(1,1)) ?_,AP0 rfl]
   show AHi (f + 3) [[r,1]] 1 0=_
   unfold AHi
   rw [if_pos (by show (0:Int) < ((1:Nat):Int);decide),show w64 (0 + 1)=1 from rfl,b5]
   rfl
 have a3:iter (fun s:Int × List (List Int)=>AHj (f + 3) m s.1 s.2) (f + 3) (0,[[r,1]])=some (Sum.inr [[Int.tmod (w64 (r * v)) m,v]]):=by
   have Af:m≠0:=by omega
   have Av:iter (fun s:Int × List (List Int)=>AEe (f + 3) m 0 [r,1] v s.1 s.2) (f + 3) (0,[[r,1]])=some [[Int.tmod (w64 (r * v)) m,v]]:=by
     rw [ASd (s':=(1,[[Int.tmod (w64 (r * v)) m,1]])) ?_,ASd (s':=(2,[[Int.tmod (w64 (r * v)) m,v]])) ?_,AP0 rfl]
     · show AEe (f + 3) m 0 [r,1] v 1 [[Int.tmod (w64 (r * v)) m,1]]=_
       unfold AEe
       rw [if_pos (by show (1:Int) < ((2:Nat):Int);decide)]
       show (if m≠0 then some (Sum.inl ((2:Int),[[Int.tmod (w64 (r * v)) m,Int.tmod (w64 (1 * v)) m]])) else none)=_
       rw [if_pos Af,e3]
     · show AEe (f + 3) m 0 [r,1] v 0 [[r,1]]=_
       unfold AEe
       rw [if_pos (by show (0:Int) < ((2:Nat):Int);decide)]
       show (if m≠0 then some (Sum.inl ((1:Int),[[Int.tmod (w64 (r * v)) m,1]])) else none)=_
       rw [if_pos Af]
   have Aw:iter (fun s:Int=>AMi (f + 3) 0 s) (f + 3) 0=some ():=AP0 rfl
   rw [ASd (s':=(-1,[[Int.tmod (w64 (r * v)) m,v]])) ?_,AP0 rfl]
   show AHj (f + 3) m 0 [[r,1]]=_
   unfold AHj
   rw [if_pos Zk,show gI [[r,1]] (0:Int)=some [r,1] from rfl]
   simp only [Option.bind_some]
   rw [show gI [r,1] (0:Int)=some r from rfl]
   simp only [Option.bind_some]
   rw [h3]
   simp only [Option.bind_some]
   rw [if_neg Zk,Av]
   simp only [Option.bind_some]
   rw [Aw]
   rfl
 have a4:iter (fun s:Int × List (List Int)=>AMj (f + 3) [[x]] [[Int.tmod (w64 (r * v)) m,v]] s.1 s.2) (f + 3) (0,[[Int.tmod (w64 (r * v)) m,v]])=some [[v]]:=by
   rw [ASd (s':=(1,[[v]])) rfl,AP0 rfl]
 unfold AJ8;rw [h0];simp only [Option.bind_some];rw [if_neg Zk,h1];simp only [Option.bind_some];rw [if_neg Zk,h2];simp only [Option.bind_some];rw [a1];simp only [Option.bind_some];rw [a2];simp only [Option.bind_some];rw [show w64 (([[x]].length:Nat) - 1:Int)=0 from rfl,a3];simp only [Option.bind_some];rw [a4];rfl
end Go.Proofs.YtdkldlbgcfpglaaGreatDoor
