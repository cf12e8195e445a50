/-
  Texts of a proof, joined. Conditions stand in each statement.
-/
import Derived.Test.YtkakafabeobahaaGreatDoorMDyadicTotals5
set_option linter.unusedVariables false
set_option linter.unusedSimpArgs false
open Go
variable {A S B D D1 T U:Go.QF.ATa} {q y x a t a1 a2 most:Int} {M:List (List Int)} {fuel s P j k K i r:Nat} {v w f:Nat->Int}
namespace Go.Proofs.YtkakafabeobahaaGreatDoor
open Go Go.QF
set_option maxRecDepth 100000
section
variable {fuel n K k E:Nat} {H T G:ATa} {L:List AU1}
theorem DS.move {i:Nat} (S:DS n K H T G L k E) (hi:i < n):∀ (m f:Nat),i=f + m->k<=f->DS n K H (mvC f i T) (mvG f i G) L k E
 | 0,f,h,hf=>by
   obtain rfl:i=f:=h
   rw [A8g,A8f];exact S
 | m + 1,f,h,hf=>by
   have:=(DS.move S hi m (f + 1) AGp AGp).swap hf AGp (show k<=f + 1 by omega) AGp
   rwa [Aze AGp,Azd AGp] at this
theorem A8m {P A v c:Int} (hc:Eqm q c (-y * v)) (hv:Eqm q (v * A) 1):(P * y + c * (P * A)) % q=0:=by
 have one:Eqm q (P * y - P * y * (v * A)) 0:=by
  have:=(Eqm.refl q<|P * y).sub ((Eqm.refl q<|P * y).mul hv)
  grind
 exact Eqm.zero<|((Eqm.refl _ _).add (hc.mul<|Eqm.refl _ _)).trans (Eqm.trans (Eqm.of_eq<|by grind) one)
theorem A8n {A v:Int} (S:DS n K H T G L k E) (hK:K<=30) (hE:E<=K) (hn:n<=8) (hk:k < n) (hD:G k k=2 ^ E * A) (hv:Eqm (2 ^ K) (v * A) 1) (hf:100 < fuel):
 Ok (iter (λs=>Aa6 fuel K (k:Int) E v s.1 s.2.1 s.2.2) fuel (((k + 1:Nat):Int),tab n n G,tab n n T)) λex=> ∃ T' G',ex=(tab n n G',tab n n T')/\DS n K H T' G' L k E/\G' k k=2 ^ E * A/\ ∀ j,k < j->j < n->G' k j=0:=by
 refine AUj (λi s=> ∃ T' G',s=(((k + 1 + i:Nat):Int),tab n n G',tab n n T')/\k + 1 + i<=n/\DS n K H T' G' L k E/\G' k k=2 ^ E * A/\ ∀ j,k < j->j < k + 1 + i->G' k j=0) (n - (k + 1)) ⟨T,G,rfl,AGp,S,hD,λj h1 h2=>by omega⟩ AGp λi s hi hI=>?_;obtain ⟨T',G',rfl,hin,S',hd,hz⟩:=hI;unfold Aa6;dsimp only;rw [AUe];refine AT1 (λh=>?_) λh=>AGy ⟨T',G',rfl,S',hd,λj h1 h2=>hz j h1 AGp⟩;obtain ⟨j,hj⟩:∃ j,j=k + 1 + i:=⟨_,rfl⟩;rw [<- hj] at h hin hz ⊢;have hjn:j < n:=by omega
 obtain ⟨y,hy⟩:=S'.fl k j (Nat.le_refl k) hk AGp hjn;rw [AZy<|AUk hk,AZy<|AT4 hjn,if_pos (show 0<=(E:Int)/\(E:Int)<=64 by omega),hy,Ahl];have hc:mkE K (w64 (0 - y) * v)=some ((-y * v) % 2 ^ K):=mk_val hK<|(((Akn hK _).trans (Eqm.of_eq<|Int.zero_sub y)).mul (Eqm.refl _ v));unfold mkE at hc;rw [hc];simp only [Option.bind_some];obtain ⟨c,hce⟩:∃ c,c=(-y * v) % 2 ^ K:=⟨_,rfl⟩;rw [<- hce,A00 (R:=AXr fuel K (k:Int) (j:Int) c) (RG:=λX s=>Aa3 fuel K (k:Int) (j:Int) c X s.1 s.2) (RT:=λX s=>Aa4 fuel K (k:Int) (j:Int) c X s.1 s.2) (RE:=Aa5 fuel K (k:Int) (j:Int) c) hK hn hjn hk AGp hf (λG T=>by unfold AXr;rfl) (λG T=>by unfold AXr;rfl) (λG T=>by unfold AXr;rfl) (λX r M=>by unfold Aa3;dsimp only;rw [AUe]) (λX r M=>by unfold Aa4;dsimp only;rw [AUe]) λF s M=>by unfold Aa5;rw [AUt]];simp only [Option.bind_some];have S2:=S'.add (c:=c) hE (show k<=j by omega) hjn (Nat.le_refl k) hk AGp
 refine AGy ⟨AGp,_,_,?_,AGp,S2,?_,λj' h1 h2=>?_⟩
 ·rw [hj,AW3 AGp];rfl
 ·rw [Afp,if_neg AGp,if_neg AGp];exact hd
 ·rw [Afp,if_neg AGp]
  by_cases h3:j'=j
  ·rw [if_pos h3,hy,hd];exact A8m (hce ▸ Eqm.mod _ _) hv
  grind
theorem A4r {A B C v:Int} (S:DS n K H T G L k E) (hs:∀ i j,i < n->j < n->H i j=H j i) (hK:K<=30) (hE:E<=K) (hn:n<=8) (hk:k + 1 < n) (hA:G k k=2 ^ E * A) (hB:G k (k + 1)=2 ^ E * B) (hC:G (k + 1) (k + 1)=2 ^ E * C) (hv:Eqm (2 ^ K) (v * (A * C - B * B)) 1) (hf:100 < fuel):
 Ok (iter (λs=>Abd fuel K (k:Int) E (2 ^ E * A) (2 ^ E * B) (2 ^ E * C) v s.1 s.2.1 s.2.2) fuel (((k + 2:Nat):Int),tab n n G,tab n n T)) λex=> ∃ T' G',ex=(tab n n G',tab n n T')/\DS n K H T' G' L k E/\(G' k k=2 ^ E * A/\G' k (k + 1)=2 ^ E * B/\G' (k + 1) (k + 1)=2 ^ E * C)/\ ∀ j,k + 1 < j->j < n->G' k j=0/\G' (k + 1) j=0:=by
 refine AUj (λi s=> ∃ T' G',s=(((k + 2 + i:Nat):Int),tab n n G',tab n n T')/\k + 2 + i<=n/\DS n K H T' G' L k E/\(G' k k=2 ^ E * A/\G' k (k + 1)=2 ^ E * B/\G' (k + 1) (k + 1)=2 ^ E * C)/\ ∀ j,k + 1 < j->j < k + 2 + i->G' k j=0/\G' (k + 1) j=0) (n - (k + 2)) ⟨T,G,rfl,AGp,S,⟨hA,hB,hC⟩,λj h1 h2=>by omega⟩ AGp λi s hi hI=>?_;obtain ⟨T',G',rfl,hin,S',⟨h1,h2,h3⟩,hz⟩:=hI;unfold Abd;dsimp only;rw [AUe];refine AT1 (λh=>?_) λh=>AGy ⟨T',G',rfl,S',⟨h1,h2,h3⟩,λj h1 h2=>hz j h1 AGp⟩;obtain ⟨j,hj⟩:∃ j,j=k + 2 + i:=⟨_,rfl⟩;rw [<- hj] at h hin hz ⊢;have hjn:j < n:=by omega
 have hk0:k < n:=by omega
 have e1:w64 ((k:Int) + 1)=((k + 1:Nat):Int):=AW3 AGp;obtain ⟨x,hx⟩:=S'.fl k j (Nat.le_refl k) hk0 AGp hjn;obtain ⟨y,hy⟩:=S'.fl (k + 1) j AGp hk AGp hjn;have hEE:0<=(E:Int)/\(E:Int)<=64:=by omega
 rw [e1,AZy<|AUk hk0,AZy<|AT4 hjn,if_pos hEE,AZy<|AUk hk,AZy<|AT4 hjn,if_pos hEE,hx,hy,Ahl,Ahl,Ahl,Ahl,Ahl];have sub:∀ a b c d:Int,Eqm (2 ^ K) (w64 (a * b) - w64 (c * d)) (a * b - c * d):=λa b c d=>(Akn hK _).sub (Akn hK _);have hc1:mkE K (w64 (B * y) - w64 (C * x))=some ((B * y - C * x) % 2 ^ K):=mk_val hK<|sub _ _ _ _;have hd1:mkE K (w64 (B * x) - w64 (A * y))=some ((B * x - A * y) % 2 ^ K):=mk_val hK<|sub _ _ _ _;have hc2:mkE K ((B * y - C * x) % 2 ^ K * v)=some ((B * y - C * x) * v % 2 ^ K):=mk_val hK<|(Eqm.mod _ _).mul (Eqm.refl _ v);have hd2:mkE K ((B * x - A * y) % 2 ^ K * v)=some ((B * x - A * y) * v % 2 ^ K):=mk_val hK<|(Eqm.mod _ _).mul (Eqm.refl _ v);unfold mkE at hc1 hd1 hc2 hd2;rw [hc1];simp only [Option.bind_some];rw [hd1];simp only [Option.bind_some];rw [hc2];simp only [Option.bind_some];obtain ⟨c,hce⟩:∃ c,c=(B * y - C * x) * v % 2 ^ K:=⟨_,rfl⟩;obtain ⟨d,hde⟩:∃ d,d=(B * x - A * y) * v % 2 ^ K:=⟨_,rfl⟩;rw [<- hde] at hd2;rw [<- hce,A00 (R:=AXs fuel K (k:Int) (j:Int) c) (RG:=λX s=>Aa7 fuel K (k:Int) (j:Int) c X s.1 s.2) (RT:=λX s=>Aa8 fuel K (k:Int) (j:Int) c X s.1 s.2) (RE:=Aa9 fuel K (k:Int) (j:Int) c) hK hn hjn hk0 AGp hf (λG T=>by unfold AXs;rfl) (λG T=>by unfold AXs;rfl) (λG T=>by unfold AXs;rfl) (λX r M=>by unfold Aa7;dsimp only;rw [AUe]) (λX r M=>by unfold Aa8;dsimp only;rw [AUe]) λF s M=>by unfold Aa9;rw [AUt]];simp only [Option.bind_some];rw [hd2];simp only [Option.bind_some];rw [A00 (R:=AXt fuel K (k:Int) (j:Int) d) (RG:=λX s=>Aba fuel K (k:Int) (j:Int) d X s.1 s.2) (RT:=λX s=>Abb fuel K (k:Int) (j:Int) d X s.1 s.2) (RE:=Abc fuel K (k:Int) (j:Int) d) hK hn hjn hk AGp hf (λG T=>by unfold AXt;rfl) (λG T=>by unfold AXt;rfl) (λG T=>by unfold AXt;rfl) (λX r M=>by unfold Aba;dsimp only;rw [AUe,e1]) (λX r M=>by unfold Abb;dsimp only;rw [AUe,e1]) λF s M=>by unfold Abc;rw [AUt,e1]];simp only [Option.bind_some];have S2:=(S'.add (c:=c) hE (show k<=j by omega) hjn (Nat.le_refl k) hk0 AGp).add (c:=d) hE (show k<=j by omega) hjn (show k<=k + 1 by omega) hk AGp;have keep:∀ a b,a≠j->b≠j->Atw (2 ^ K) j (k + 1) d (Atw (2 ^ K) j k c G') a b=G' a b:=λa b ha hb=>by rw [Afp,if_neg ha,if_neg hb,Afp,if_neg ha,if_neg hb]
 have at':∀ a,a≠j->Atw (2 ^ K) j (k + 1) d (Atw (2 ^ K) j k c G') a j=((G' a j + c * G' a k) % 2 ^ K + d * G' a (k + 1)) % 2 ^ K:=λa ha=>by
  rw [Afp,if_neg ha,if_pos rfl,Afp,if_neg ha,if_pos rfl,Afp,if_neg ha,if_neg AGp]
 refine AGy ⟨AGp,_,_,?_,AGp,S2,⟨?_,?_,?_⟩,λj' h4 h5=>?_⟩
 ·rw [hj,AW3 AGp];rfl
 ·grind
 ·grind
 ·grind
 ·by_cases h6:j'=j
  ·have hsy:G' (k + 1) k=2 ^ E * B:=by rw [S'.e.sym hs S'.rg hk hk0];exact h2
   rw [h6,at' k AGp,at' (k + 1) AGp,hx,hy,h1,h2,h3,hsy];exact A4o (hce ▸ Eqm.mod _ _) (hde ▸ Eqm.mod _ _) hv
  grind
theorem Aw4:∀ {L:List AU1},Apc L->L.length<=Acp L
 | [],_=>Nat.le_refl 0
 | c :: L,h=>by
   have h1:=Aw4 (L:=L) λx hx=>h x<|List.mem_cons_of_mem _ hx
   have h2:=h c AT6
   rw [Ah2,List.length_cons];omega
theorem Aq9: ¬ (2:Int) ∣ x↔x % 2=1:=⟨λh=>by omega,λh h2=>by omega⟩
theorem Aw5 {A:Int} (hEK:E<=K) (h:0<=2 ^ E * A/\(2:Int) ^ E * A < 2 ^ K):0<=A/\A < 2 ^ (K - E):=by
 have h0:(0:Int) < 2 ^ E:=Int.pow_pos AGr;refine ⟨Int.nonneg_of_mul_nonneg_right h.1 h0,Int.lt_of_mul_lt_mul_left ?_<|Int.le_of_lt h0⟩;rw [<- Int.pow_add,show E + (K - E)=K by omega];exact h.2
theorem BBg (hM:M.length=n) (S:DS n K H T G L k E) (B:DL K L k E) (hs:∀ i j,i < n->j < n->H i j=H j i) (hd: ¬ (2:Int) ^ (K - 2) ∣ det n H) (hK3:3<=K) (hK:K<=30) (hn:n<=8) (hk:k < n) (hf:2147483648 < fuel):
 ∃ T' G' L' k' E',AWz fuel M K (k:Int) (tab n n G) (tab n n T) L=some (.inl ((k':Nat),tab n n G',tab n n T',L'))/\k < k'/\k'<=n/\DS n K H T' G' L' k' E'/\DL K L' k' E':=by
 have hP2:Pr 2:=⟨AGp,λd h1 h2=>by omega⟩;have hI:=Aw1 hP2;have hf2:100 < fuel:=by omega
 have hq1:(2:Int) ^ 1<=2 ^ K:=Aej AGr AGp;have hq2:(2:Int) ^ K<=2 ^ 30:=Aej AGr hK;rw [show (2:Int) ^ 30=1073741824 by decide] at hq2;rw [Int.pow_succ,Int.pow_zero,Int.one_mul] at hq1;have hd2: ¬ (2:Int) ^ K ∣ det n H:=λh=>hd<|Int.dvd_trans (AWw AGp) h;obtain ⟨ex,hpv,r,c,F,rfl,hFK,P,hall⟩:=A8l (fuel:=fuel) (n:=n) (k:=k) (K:=K) (G:=G) hK hn S.rg hk (S.some hs hd2 hk) hf2;have S1:=S.low hs hall;obtain ⟨u,hu,hpu⟩:=P.u;have hrk:=P.hr;have hrc:=P.hrc;have hcn:=P.hc;have hrn:r < n:=by omega
 have hEF:=Aw2 hI hu hpu<|S.fl r c P.hr hrn AGp P.hc;have hFb:=S1.bound hs hd AGp hk;have hFF:0<=(F:Int)/\(F:Int)<=64:=by omega
 have hLk:L.length<=8:=by have:=Aw4 B.sz;have:=B.sum;omega
 by_cases hne:r=c
 ·subst hne;have S2:=S1.move (i:=r) hrn (r - k) k AGp<|Nat.le_refl k;have hdk:mvG k r G k k=2 ^ F * u:=by unfold mvG;rw [A0z,hu,Int.mul_comm]
  obtain ⟨v,hv,hvi⟩:=A8b (f:=fuel) (x:=u) (m:=2 ^ K) AGp AGp (Avh hP2 hpu AGp) hf;have hvq:Eqm (2 ^ K) (v * u) 1:=((Eqm.refl _ v).mul (Eqm.mod _ u)).symm.trans hvi.2.2;obtain ⟨ex,hcl,T2,G2,rfl,S3,hd3,hz3⟩:=A8n (fuel:=fuel) S2 hK AGp hn hk hdk hvq hf2;have hub:=Aw5 (E:=F) (K:=K) (A:=u) AGp<|hd3 ▸ S3.rg k k hk hk
  refine ⟨T2,G2,L ++ [((F:Int),1,u,0,0)],k + 1,F,?_,AGp,AGp,S3.next1 hs B.sz B.sum hk hz3 hd3,B.push hEF rfl ⟨⟨AGp,AGp⟩,?_⟩ (m:=1) rfl (.inl rfl)⟩
  ·unfold AWz;rw [hM,if_pos AGp,hpv];simp only [Option.bind_some];rw [if_neg AGp,(Aw3 (fuel:=fuel) (G:=G) (T:=T) hn hrk hrn hf2).2.2];simp only [Option.bind_some];rw [AZy<|AUk hk,AZy<|AT4 hk,if_pos hFF,if_pos trivial,if_pos (show 0<=(K:Int)/\(K:Int)<=64 by omega),hdk,Ahl,Ar8 hK,hv];simp only [Option.bind_some];rw [Atu (x:=[v]) rfl,Atu (x:=v) rfl];simp only [Option.bind_some];rw [AW3 AGp,hcl];simp only [Option.bind_some];rw [if_pos AGp,AW3 AGp]
  grind
 ·have hlt:r < c:=by omega
  have hdg:=P.dg hne;have S2:=(S1.move (i:=c) hcn (c - k) k AGp<|Nat.le_refl k).move (i:=r + 1) AGp (r + 1 - k) k AGp (Nat.le_refl k);obtain ⟨p1,p2,p3⟩:=BBd hrk hlt G;obtain ⟨a,ha⟩:=hdg r hrk hrn;obtain ⟨b,hb⟩:=hdg c AGp hcn;have ha2:G r r=2 ^ F * (2 * a):=by grind
  have hb2:G c c=2 ^ F * (2 * b):=by grind
  rw [ha2] at p1;rw [hu,Int.mul_comm] at p2;rw [hb2] at p3;have hk1:k + 1 < n:=by omega
  have hu1:=Aq9.1 hpu
  have hdet: ¬ (2:Int) ∣ 2 * a * (2 * b) - u * u:=Aq9.2 (by
   have h1:u * u % 2=1:=by rw [Int.mul_emod,hu1];rfl
   grind)
  obtain ⟨D,hD⟩:∃ D,D=(2 * a * (2 * b) - u * u) % 2 ^ K:=⟨_,rfl⟩
  have hDnd: ¬ (2:Int) ∣ D:=λh=>hdet (by
   have h2:Eqm 2 D (2 * a * (2 * b) - u * u):=by rw [hD];exact (Eqm.mod (2 ^ K) _).down ⟨2 ^ (K - 1),by rw [<- Int.pow_succ',show K - 1 + 1=K by omega]⟩
   exact Ap3 h2.symm (Int.dvd_refl _) h)
  obtain ⟨v,hv,hvi⟩:=A8b (f:=fuel) (x:=D) (m:=2 ^ K) AGp AGp (Avh hP2 hDnd AGp) hf
  have hvq:Eqm (2 ^ K) (v * (2 * a * (2 * b) - u * u)) 1:=by
   refine Eqm.trans ?_ hvi.2.2;refine (Eqm.refl _ v).mul ?_;rw [hD];exact ((Eqm.mod _ _).trans (Eqm.mod _ _)).symm
  obtain ⟨ex,hcl,T2,G2,rfl,S3,⟨q1,q2,q3⟩,hz3⟩:=A4r (fuel:=fuel) S2 hs hK AGp hn hk1 p1 p2 p3 hvq hf2;have b1:=Aw5 (E:=F) (K:=K) (A:=2 * a) AGp<|q1 ▸ S3.rg k k hk hk;have b2:=Aw5 (E:=F) (K:=K) (A:=u) AGp<|q2 ▸ S3.rg k (k + 1) hk hk1;have b3:=Aw5 (E:=F) (K:=K) (A:=2 * b) AGp<|q3 ▸ S3.rg (k + 1) (k + 1) hk1 hk1
  refine ⟨T2,G2,L ++ [((F:Int),2,2 * a,u,2 * b)],k + 2,F,?_,AGp,AGp,S3.next2 hs B.sz B.sum hk1 hz3 q1 q2 q3,B.push hEF rfl ⟨⟨AGp,AGp⟩,?_⟩ (m:=2) rfl (.inr rfl)⟩
  ·have hm1:=(Aw3 (fuel:=fuel) (G:=G) (T:=T) hn (show k<=c by omega) hcn hf2).1;have hm2:=(Aw3 (fuel:=fuel) (G:=mvG k c G) (T:=mvC k c T) hn (show k<=r + 1 by omega) (show r + 1 < n by omega) hf2).2.1;have hmk:mkE K (w64 (2 * a * (2 * b)) - w64 (u * u))=some D:=by rw [hD];exact mk_val hK<|(Akn hK _).sub (Akn hK _)
   unfold mkE at hmk;unfold AWz;rw [hM,if_pos AGp,hpv];simp only [Option.bind_some];rw [if_pos AGp,hm1];simp only [Option.bind_some];rw [AW3 AGp,hm2];simp only [Option.bind_some];rw [AZy<|AUk hk,AZy<|AT4 hk,if_pos hFF,if_neg AGr,AW3 AGp,AZy<|AT4 hk1,if_pos hFF,AZy<|AUk hk1,AZy<|AT4 hk1,if_pos hFF,p1,p2,p3,Ahl,Ahl,Ahl,hmk];simp only [Option.bind_some];rw [if_pos (show 0<=(K:Int)/\(K:Int)<=64 by omega),Ar8 hK,hv];simp only [Option.bind_some];rw [Atu (x:=[v]) rfl,Atu (x:=v) rfl];simp only [Option.bind_some];rw [show w64 ((k:Int) + 2)=((k + 2:Nat):Int) by rw [wk AGp];rfl,hcl];simp only [Option.bind_some];rw [if_pos AGp,show w64 ((k:Int) + 2)=((k + 2:Nat):Int) by rw [wk AGp];rfl]
  simp_all
end
theorem A8o {n:Nat} (hM:M.length=n) (hn:n<=8) (hf:100 < fuel):iter (λs=>Ab2 fuel M s.1 s.2) fuel (0,[])=some (tab n n dl):=by
 apply ok_eq;refine AUj (λi s=>s=((i:Int),AV1 i λa=>AV1 n<|dl a)/\i<=n) n ⟨rfl,Nat.zero_le _⟩ AGp λi s hi hI=>?_;obtain ⟨rfl,hin⟩:=hI;unfold Ab2;dsimp only;rw [hM]
 refine AT1 (λh=>?_) λh=>?_
 ·have hi:i < n:=by omega
  rw [if_pos AGp,AUt,if_pos AGp,Int.toNat_natCast,AYv n (0:Int)]
  have hget:(AV1 i (λa=>AV1 n<|dl a) ++ [AV1 n λ_=>(0:Int)])[i]? =some (AV1 n λ_=>(0:Int)):=by
   rw [List.getElem?_append_right (by rw [AUt];omega),AUt,Nat.sub_self];rfl
  rw [AZy hget,AZy<|AT4 hi,Ap8,AW3 AGp];refine AGy ⟨hi,?_,hi⟩;congr 1;rw [AU2,List.set_append,if_neg (by rw [AUt];omega),AUt,Nat.sub_self];show AV1 i (λa=>AV1 n<|dl a) ++ [AV1 n λc=>if c=i then 1 else 0]=_
  have:AV1 n (λc=>if c=i then (1:Int) else 0)=AV1 n (dl i):=AUp λc _=>by
   unfold dl;omega
  rw [this];unfold AV1;rw [List.range_succ,List.map_append];rfl
 ·obtain rfl:i=n:=by omega
  exact AGy rfl
theorem BEy (R:Ars M) (hf:2147483648 < fuel):
 ∃ (K E:Nat) (T G:ATa) (L:List AU1),AYf fuel M=some ((2,tab M.length M.length T,L),0)/\AXe fuel M 2=some ((K:Int),0)/\3<=K/\K<=30/\Awr (det M.length<|ent M) 2 ((K:Int) - 3)/\DS M.length K (ent M) T G L M.length E/\DL K L M.length E:=by
 have hf2:100 < fuel:=by omega
 have hP2:Pr 2:=⟨AGp,λd h1 h2=>by omega⟩;have hI:=Aw1 hP2;obtain ⟨v,hv,hv2,hj,-⟩:=Aq5 (fuel:=fuel) R hP2 AGr hf2;obtain ⟨K,hk,hq,hk1,hk3⟩:=A8i R AGr AGr hv;have hK3:=hk3 rfl;have hK:=A75 (p:=2) AGr hq;rw [hk] at hj;rw [if_pos rfl] at hk;have hn:=R.1.2;have hs:∀ i j,i < M.length->j < M.length->ent M i j=ent M j i:=λi j hi hj=>R.2.2.sym i j hi hj
 have hq1:(2:Int)<=2 ^ K:=by
  have h1:(2:Int) ^ 1<=2 ^ K:=Aej AGr hk1;omega
 have hd: ¬ (2:Int) ^ (K - 2) ∣ det M.length (ent M):=λh=>by
  obtain ⟨e,r,he,h1,h2⟩:=hv;have:=Aw2 (f:=K - 2) hI h1 h2 h;omega
 have hrd:isRed M=true:=(Avd M).2 R
 have hP:AXe fuel M 2=some ((K:Int),0):=by
  unfold AXe Alj;grind
 unfold AYf;rw [hP];simp only [Option.bind_some];rw [if_neg (show ¬ ¬ True from λh=>h trivial),if_pos (show 0<=(K:Int)/\(K:Int)<=64 by omega),Ar8 hK,BEu R hq1 hq hf2];simp only [Option.bind_some];rw [A8o rfl hn hf2];simp only [Option.bind_some]
 have S0:DS M.length K (ent M) dl (λi j=>ent M i j % 2 ^ K) [] 0 0:=⟨λi j _ _=>by
  unfold dl;split <;> omega,λi j _ _=>Ar7 AGp _,BEn λi j _ _=>Eqm.mod _ _,λi j h=>absurd h<|Nat.not_lt_zero i,λi j h=>absurd h<|Nat.not_lt_zero i,λi j _ _ _ _=>⟨ent M i j % 2 ^ K,AGp⟩⟩
 have main:Ok (iter (λs=>AWz fuel M K s.1 s.2.1 s.2.2.1 s.2.2.2) fuel (0,tab M.length M.length λi j=>ent M i j % 2 ^ K,tab M.length M.length dl,[])) λex=> ∃ (E:Nat) (T G:ATa) (L:List AU1),ex=(tab M.length M.length G,tab M.length M.length T,L)/\DS M.length K (ent M) T G L M.length E/\DL K L M.length E:=by
  refine Atr (λs=> ∃ (k E:Nat) (T G:ATa) (L:List AU1),s=((k:Int),tab M.length M.length G,tab M.length M.length T,L)/\k<=M.length/\DS M.length K (ent M) T G L k E/\DL K L k E) (λs=>M.length - s.1.toNat) (λs hI=>?_) ⟨0,0,_,_,_,rfl,Nat.zero_le _,S0,DL.nil⟩ AGp;obtain ⟨k,E,T,G,L,rfl,hin,S,B⟩:=hI;dsimp only
  rcases Nat.lt_or_ge k M.length with h | h
  ·obtain ⟨T',G',L',k',E',h1,h2,h3,h4,h5⟩:=BBg (fuel:=fuel) (M:=M) rfl S B hs hd hK3 hK hn h hf;rw [h1];refine AGy ⟨⟨k',E',T',G',L',rfl,h3,h4,h5⟩,?_⟩;omega
  ·obtain rfl:k=M.length:=by omega
   unfold AWz;rw [if_neg AGp];exact AGy ⟨E,T,G,L,rfl,S,B⟩
 obtain ⟨ex,h1,E,T,G,L,rfl,S,B⟩:=main;grind
end Go.Proofs.YtkakafabeobahaaGreatDoor
namespace Go.Proofs.YtkakafabeobahaaGreatDoor
open Go Go.QF
set_option maxRecDepth 100000
theorem pr2:Pr 2:=⟨AGp,λd h1 h2=>by omega⟩
theorem A8p:isRed [[2,1],[1,2]]=true:=by
 unfold isRed
 rw [<- AZi (M:=[[2,1],[1,2]]) ⟨AGr,AGr,λi j hi hj=>by
  have hi:i < 2:=hi
  have hj:j < 2:=hj
  rcases (by omega:i=0∨i=1) with rfl | rfl <;> rcases (by omega:j=0∨j=1) with rfl | rfl <;> decide⟩]
 decide +kernel
theorem Aw6:AY9 (AXu + 1)=some true:=by
 have Ab:100 < AXu + 1:=Nat.lt_of_le_of_lt AGr<|Nat.lt_succ_self AXu;have R:=(Avd _).1 A8p;have hd:det 2 (ent [[2,1],[1,2]])=3:=by decide +kernel
 obtain ⟨v,h1,h2,h3,h4⟩:=Aq5 (fuel:=AXu + 1) R (p:=2) pr2 AGp Ab;obtain rfl:v=0:=Aws (p:=2) (d:=3) AGp (by grind) ⟨0,3,rfl,AGr,AGr⟩;rw [if_pos rfl] at h3;unfold AY9 Ago AXe Alj;simp only [A8p,h3,Option.bind_some,Bool.not_true,Bool.false_eq_true,reduceIte];decide +kernel
end Go.Proofs.YtkakafabeobahaaGreatDoor
namespace Go.Proofs.YtkakafabeobahaaGreatDoor
open Go Go.QF
set_option maxRecDepth 100000
theorem Anu {c:Prop} [Decidable c] {α:Type} {a b:Option α} {R:α->Prop} (hc:c) (h:Ok a R):Ok (if c then a else b) R:=by grind
end Go.Proofs.YtkakafabeobahaaGreatDoor
namespace Go.Proofs.YtkakafabeobahaaGreatDoor
open Go Go.QF
set_option maxRecDepth 100000
def cS:List AWr->Int
 | []=>1
 | c :: l=>c.2.2.1 * cS l
theorem At0 (l:List AWr) (c:AWr):cS (l ++ [c])=cS l * c.2.2.1:=by
 induction l with
 | nil=>simp [cS]
 | cons a l ih=>simp only [List.cons_append,cS,ih];grind
theorem A02 {b:Int} (ha:a=1∨a= -1) (hb:b=1∨b= -1):(a * b=1∨a * b= -1)/\w64 (a * b)=a * b:=by
 rcases ha with rfl | rfl <;> rcases hb with rfl | rfl <;> decide
def s8 (x:Int):Int:=if x % 8=3∨x % 8=5 then -1 else 1
theorem BCp (x:Int):s8 x=1∨s8 x= -1:=by unfold s8;split <;> simp
def s2L:List AU1->Int
 | []=>1
 | b :: l=>s8 (dB b) * s2L l
theorem BBi (L:List AU1) (b:AU1):s2L (L ++ [b])=s2L L * s8 (dB b):=by
 induction L with
 | nil=>show _ * 1=1 * _;omega
 | cons c L ih=>show _ * s2L (L ++ [b])=_ * s2L L * _;rw [ih,Int.mul_assoc]
theorem Avi:∀ (L:List AU1) (i:Nat),Acp (L.take i)<=Acp L
 | [],i=>by rw [List.take_nil];exact Nat.le_refl _
 | c :: L,0=>Nat.zero_le _
 | c :: L,i + 1=>by
   rw [List.take_succ_cons,Ah2,Ah2]
   have:=Avi L i
   omega
theorem BEz (a:Int):AZt .and .i64 a 7=a % 8:=Azc (k:=3) AGr a
def od (C:List AWr):Prop:= ∃ c∈C,c.1=0/\c.2.2.2.1=true
end Go.Proofs.YtkakafabeobahaaGreatDoor
namespace Go.QF
open Go
set_option maxRecDepth 100000
def chE (t:Int):Int:=((3 ^ (t % 65536).toNat % 65537:Nat):Int)
theorem A4s {a b:Nat} (ha:3 ^ a % 65537=282) (hb:282 ^ b % 65537=1):3 ^ (a * b) % 65537=1:=by rw [Nat.pow_mul,Nat.pow_mod,ha,hb]
theorem BBj (t k:Int):chE (t + 65536 * k)=chE t:=by unfold chE;rw [Int.add_mul_emod_self_left]
theorem Aom {s:Int} (h:Eqm 65536 s t):chE s=chE t:=by unfold chE;rw [show s % 65536=t % 65536 from h]
theorem BBk (r k:Nat) {N:Nat} (h:3 ^ N % 65537=1):3 ^ (r + N * k) % 65537=3 ^ r % 65537:=by
 rw [Nat.pow_add,Nat.pow_mul,Nat.mul_mod,Nat.pow_mod<|3 ^ N,h,Nat.one_pow];simp
theorem Ar9 (s t:Int):Eqm 65537 (chE<|s + t) (chE s * chE t):=by
 have h1:chE s * chE t=(((3 ^ (s % 65536).toNat % 65537) * (3 ^ (t % 65536).toNat % 65537):Nat):Int):=by unfold chE;rw [Int.natCast_mul]
 rw [h1];unfold Eqm chE;have h2:∀ a b:Nat,a % 65537=b % 65537->((a:Nat):Int) % 65537=((b:Nat):Int) % 65537:=λa b h=>by omega
 refine h2 _ _ ?_;rw [<- Nat.mul_mod,<- Nat.pow_add,Nat.mod_mod]
 have h3:∃ k,(s % 65536).toNat + (t % 65536).toNat=((s + t) % 65536).toNat + (256 * 256) * k:=by
  have a1:=Int.emod_nonneg s (show (65536:Int)≠0 by decide)
  have a2:=Int.emod_lt_of_pos s (show (0:Int) < 65536 by decide)
  have b1:=Int.emod_nonneg t (show (65536:Int)≠0 by decide)
  have b2:=Int.emod_lt_of_pos t (show (0:Int) < 65536 by decide)
  by_cases h:s % 65536 + t % 65536 < 65536
  ·exact ⟨0,AGp⟩
  ·exact ⟨1,AGp⟩
 obtain ⟨k,hk⟩:=h3;rw [hk,BBk _ _<|A4s (a:=256) (b:=256) (by decide +kernel)<|by decide +kernel]
theorem Azh:chE 0=1:=by decide +kernel
theorem Azi (hx:x % 2=1):chE (32768 * x)=65536:=by
 rw [Aom (t:=32768) (by show _=_;omega)];decide +kernel
theorem Abe (f:Nat->Int) (a b:Nat):psum f (a + b)=psum f a + psum (λi=>f<|a + i) b:=by
 induction b with
 | zero=>simp [psum]
 | succ b ih=>rw [<- Nat.add_assoc];simp only [psum];rw [ih];omega
theorem Aw7 (f:Nat->Int) (n:Nat):psum f (2 * n)=psum (λi=>f<|2 * i) n + psum (λi=>f<|2 * i + 1) n:=by
 induction n with
 | zero=>rfl
 | succ n ih=>
   rw [show 2 * (n + 1)=2 * n + 1 + 1 by omega]
   simp only [psum];rw [ih];omega
theorem Alx {f:Nat->Int} {N:Nat} (h:∀ i,f (i + N)=f i):∀ k,psum f (k * N)=k * psum f N
 | 0=>by simp [psum]
 | k + 1=>by
   have hk:∀ k i,f (k * N + i)=f i:=λk=>by
    induction k with
    | zero=>intro i;simp
    | succ k ih=>intro i;rw [show (k + 1) * N + i=(k * N + i) + N by rw [Nat.add_mul];omega,h,ih]
   rw [Nat.add_mul,Abe,Alx h k,ATf (f:=λi=>f<|k * N + i) (g:=f) λi _=>hk k i,Nat.one_mul]
   rw [show (((k + 1:Nat)):Int)=(k:Int) + 1 by omega,Int.add_mul,Int.one_mul]
theorem Azj {f:Nat->Int} {N:Nat} (h:∀ i,f (i + N)=f i):∀ s,psum (λi=>f<|i + s) N=psum f N
 | 0=>rfl
 | s + 1=>by
   have h1:psum (λi=>f<|i + s) (1 + N)=f s + psum (λi=>f<|i + (s + 1)) N:=by
    rw [Abe];simp only [psum];rw [ATf (f:=λi=>f<|1 + i + s) (g:=λi=>f<|i + (s + 1)) λi _=>by rw [show 1 + i + s=i + (s + 1) by omega]];simp
   have h2:psum (λi=>f<|i + s) (1 + N)=psum (λi=>f<|i + s) N + f s:=by
    rw [Nat.add_comm 1 N];simp only [psum];rw [show N + s=s + N by omega,h]
   have h3:=Azj h s;omega
theorem Aw8 {m:Int} (hm:m % 2=1) (h:Eqm m x (-x)):Eqm m x 0:=by
 obtain ⟨k,hk⟩:=Afm h;refine Amj.2 ⟨x - m / 2 * k,?_⟩;have h1:m=2 * (m / 2) + 1:=by omega
 generalize m / 2=w at h1 ⊢;subst h1;grind
abbrev gq:Int:=65537
def gz:Int:=4096
def gr:Int:=4080
def sg8 (a:Int):Int:=if a % 8=3∨a % 8=5 then -1 else 1
def gW (m:Nat) (a:Int):Int:=psum (λx=>chE<|2 ^ (16 - m) * a * ((x:Int) * x))<|2 ^ m
theorem AZq {a b c:Nat} (h:a + b=c):(2:Int) ^ c=2 ^ a * 2 ^ b:=by rw [<- Int.pow_add,h]
theorem BBl {m:Nat} (ha:a % 2=1) (h4:4<=m) (Ah:m<=16):Eqm gq (gW m a) (2 * gW (m - 2) a):=by
 obtain ⟨k,rfl⟩:∃ k,m=k + 4:=⟨m - 4,AGp⟩;have hM:2 ^ (k + 4)=2 * 2 ^ (k + 3):=by rw [Nat.pow_succ 2<|k + 3];omega
 have hc:(2:Int) ^ (16 - (k + 4)) * 2 ^ (k + 4)=65536:=by rw [<- Int.pow_add,show 16 - (k + 4) + (k + 4)=16 by omega];decide
 have Ae:(2:Int) ^ (k + 4)=4 * 2 ^ (k + 2):=by rw [AZq (a:=2) (b:=k + 2) AGp];rfl
 have Aa:(2:Int) ^ (k + 2)=4 * 2 ^ k:=by rw [AZq (a:=2) (b:=k) AGp];rfl
 have Ab:(2:Int) ^ (16 - (k + 4 - 2))=4 * 2 ^ (16 - (k + 4)):=by rw [AZq (a:=2) (b:=16 - (k + 4)) AGp];rfl
 generalize hC:(2:Int) ^ (16 - (k + 4))=C at hc Ab;generalize hP:(2:Int) ^ k=P at Aa;have hCP:C * P * 16=65536:=by rw [Ae,Aa] at hc;grind
 unfold gW;rw [hC,Ab,hM,Aw7]
 have he:psum (λi=>chE<|C * a * (((2 * i:Nat):Int) * ((2 * i:Nat):Int))) (2 ^ (k + 3))=2 * psum (λx=>chE<|4 * C * a * ((x:Int) * x)) (2 ^ (k + 4 - 2)):=by
  rw [show 2 ^ (k + 3)=2 * 2 ^ (k + 4 - 2) by rw [show k + 4 - 2=k + 2 by omega,Nat.pow_succ 2<|k + 2];omega]
  have hper:∀ i:Nat,chE (C * a * (((2 * (i + 2 ^ (k + 4 - 2)):Nat):Int) * ((2 * (i + 2 ^ (k + 4 - 2)):Nat):Int)))=chE (C * a * (((2 * i:Nat):Int) * ((2 * i:Nat):Int))):=λi=>by
   refine Aom<|Abp ⟨a * (2 * i + 4 * P),?_⟩
   have:(((2 * (i + 2 ^ (k + 4 - 2)):Nat)):Int)=2 * i + 2 * (4 * P):=by
    rw [show k + 4 - 2=k + 2 by omega];push_cast;rw [Aa];grind
   rw [this]
   push_cast
   rw [<- hCP];grind
  rw [Alx (f:=λi=>chE<|C * a * (((2 * i:Nat):Int) * ((2 * i:Nat):Int))) hper 2]
  rw [ATf (g:=λx=>chE<|4 * C * a * ((x:Int) * x)) λi _=>by rw [show C * a * (((2 * i:Nat):Int) * ((2 * i:Nat):Int))=4 * C * a * ((i:Int) * i) by rw [Int.natCast_mul];grind]]
  rfl
 have ho:Eqm gq (psum (λi=>chE<|C * a * (((2 * i + 1:Nat):Int) * ((2 * i + 1:Nat):Int)))<|2 ^ (k + 3)) 0:=by
  refine Aw8 AGr ?_
  have hper:∀ i:Nat,chE (C * a * (((2 * (i + 2 ^ (k + 3)) + 1:Nat):Int) * ((2 * (i + 2 ^ (k + 3)) + 1:Nat):Int)))=chE (C * a * (((2 * i + 1:Nat):Int) * ((2 * i + 1:Nat):Int))):=λi=>by
   refine Aom<|Abp ⟨a * (2 * (2 * i + 1) + 16 * P),?_⟩
   have:(((2 * (i + 2 ^ (k + 3)) + 1:Nat)):Int)=2 * i + 1 + 16 * P:=by
    push_cast;rw [AZq (a:=3) (b:=k) AGp,hP];grind
   rw [this];push_cast;rw [<- hCP];grind
  have h1:=Azj (f:=λi=>chE<|C * a * (((2 * i + 1:Nat):Int) * ((2 * i + 1:Nat):Int))) hper<|2 ^ (k + 1)
  rw [<- h1]
  have h2:Eqm gq (psum (λi=>chE<|C * a * (((2 * (i + 2 ^ (k + 1)) + 1:Nat):Int) * ((2 * (i + 2 ^ (k + 1)) + 1:Nat):Int)))<|2 ^ (k + 3)) (psum (λi=> -1 * chE (C * a * (((2 * i + 1:Nat):Int) * ((2 * i + 1:Nat):Int))))<|2 ^ (k + 3)):=by
   refine Eqm.psum λi _=>?_
   have:(((2 * (i + 2 ^ (k + 1)) + 1:Nat)):Int)=2 * i + 1 + 4 * P:=by
    push_cast;rw [AZq (a:=1) (b:=k) AGp,hP];grind
   rw [this]
   have e1:Eqm 65536 (C * a * ((2 * (i:Int) + 1 + 4 * P) * (2 * i + 1 + 4 * P))) (32768 * (a * (2 * i + 1)) + C * a * (((2 * i + 1:Nat):Int) * ((2 * i + 1:Nat):Int))):=by
    refine Abp ⟨a * P,?_⟩
    push_cast
    have:(32768:Int)=C * P * 8:=by omega
    rw [this,<- hCP];grind
   rw [Aom e1]
   refine (Ar9 _ _).trans ?_
   rw [Azi (show a * (2 * (i:Int) + 1) % 2=1 by rw [Int.mul_emod,ha];omega)]
   exact Eqm.mul (show (65536:Int) % 65537=(-1) % 65537 by decide)<|Eqm.refl _ _
  rw [AVv] at h2
  refine h2.trans ?_
  rw [h1]
  exact Eqm.of_eq AGp
 rw [he];exact ((Eqm.refl _ _).add ho).trans (Eqm.of_eq AGp)
theorem BBm {m:Nat} {b:Int} (h:a % 8=b % 8) (hm:m<=3):gW m a=gW m b:=by
 unfold gW;refine ATf λx _=>Aom ?_;have h1:(8:Int) ∣ a - b:=Int.dvd_of_emod_eq_zero<|Int.emod_eq_emod_iff_emod_sub_eq_zero.1 h;obtain ⟨z,hz⟩:=h1;refine Abp ⟨2 ^ (3 - m) * z * (x * x),?_⟩
 have:(2:Int) ^ (16 - m) * 8=65536 * 2 ^ (3 - m):=by
  rw [AZq (a:=13) (b:=3 - m) (c:=16 - m) AGp];grind
 grind
theorem Aqc (h:a % 2=1):a % 8=1∨a % 8=3∨a % 8=5∨a % 8=7:=by omega
theorem BBn {m:Nat} (h2:m=2∨m=3) (ha:a % 2=1):Eqm gq (gW m a) (gr ^ (m + 1) * sg8 a ^ (m + 1) * gz ^ (a % 8).toNat):=by
 have key:∀ b:Int,b % 8=b->a % 8=b->Eqm gq (gW m b) (gr ^ (m + 1) * sg8 b ^ (m + 1) * gz ^ b.toNat)->Eqm gq (gW m a) (gr ^ (m + 1) * sg8 a ^ (m + 1) * gz ^ (a % 8).toNat):=λb h1 h2 h3=>by
  rw [BBm (b:=b) AGp AGp]
  have:sg8 a=sg8 b:=by unfold sg8;rw [h2,h1]
  rw [this,h2];exact h3
 rcases Aqc ha with h | h | h | h
 ·exact key 1 rfl h (by rcases h2 with rfl | rfl <;> (unfold Eqm;decide +kernel))
 ·exact key 3 rfl h (by rcases h2 with rfl | rfl <;> (unfold Eqm;decide +kernel))
 ·exact key 5 rfl h (by rcases h2 with rfl | rfl <;> (unfold Eqm;decide +kernel))
 ·exact key 7 rfl h (by rcases h2 with rfl | rfl <;> (unfold Eqm;decide +kernel))
theorem Aw9 (a:Int):sg8 a * sg8 a=1:=by unfold sg8;split <;> rfl
theorem BCq:Eqm gq (gr * gr) 2:=by unfold Eqm;decide
theorem BE0 (ha:a % 2=1):∀ m,2<=m->m<=16->Eqm gq (gW m a) (gr ^ (m + 1) * sg8 a ^ (m + 1) * gz ^ (a % 8).toNat):=by
 intro m
 induction m using Nat.strongRecOn with
 | ind m ih=>
   intro h2 Aa
   rcases Nat.lt_or_ge m 4 with h | h
   ·exact BBn AGp ha
   ·refine (BBl ha h Aa).trans ?_
    refine (Eqm.mul BCq.symm<|ih (m - 2) AGp AGp AGp).trans (Eqm.of_eq ?_)
    obtain ⟨k,rfl⟩:∃ k,m=k + 2:=⟨m - 2,AGp⟩
    rw [show k + 2 - 2=k by omega,show k + 2 + 1=k + 1 + 1 + 1 by omega]
    have e1:gr ^ (k + 1 + 1 + 1)=gr * gr * gr ^ (k + 1):=by rw [Int.pow_succ,Int.pow_succ];grind
    have e2:sg8 a ^ (k + 1 + 1 + 1)=sg8 a ^ (k + 1):=by rw [Int.pow_succ,Int.pow_succ,Int.mul_assoc,Aw9,Int.mul_one]
    rw [e1,e2];grind
end Go.QF
namespace Go.QF
open Go
def vc (x:Int) (v:Nat->Int):Nat->Int
 | 0=>x
 | j + 1=>v j
def VS (P:Nat):Nat->((Nat->Int)->Int)->Int
 | 0,f=>f λ_=>0
 | n + 1,f=>psum (λx=>VS P n λv=>f<|vc (x:Int) v) P
theorem Aly {n:Nat} {f g:(Nat->Int)->Int} (h:∀ v,f v=g v):VS P n f=VS P n g:=by rw [funext h]
theorem Axa (P:Nat):∀ n,VS P n (λ_=>0)=0
 | 0=>rfl
 | n + 1=>by show psum (λx=>VS P n λ_=>0) P=0;rw [Axa P n,Adn]
theorem A8q (P:Nat):∀ (n:Nat) (f g:(Nat->Int)->Int),VS P n (λv=>f v + g v)=VS P n f + VS P n g
 | 0,_,_=>rfl
 | n + 1,f,g=>by
   show psum (λx=>VS P n λv=>f (vc x v) + g (vc x v)) P=_
   rw [ATf (g:=λx=>VS P n (λv=>f<|vc (x:Int) v) + VS P n λv=>g<|vc (x:Int) v) λx _=>A8q P n _ _,Acl]
   rfl
theorem A22 (P n:Nat) (f:Nat->(Nat->Int)->Int):∀ m,VS P n (λv=>psum (λx=>f x v) m)=psum (λx=>VS P n<|f x) m
 | 0=>Axa P n
 | m + 1=>by
   show VS P n (λv=>psum (λx=>f x v) m + f m v)=_
   rw [A8q,A22 P n f m];rfl
theorem A23 (P:Nat):∀ (n m:Nat) (f:(Nat->Int)->(Nat->Int)->Int),VS P n (λv=>VS P m λw=>f v w)=VS P m λw=>VS P n λv=>f v w
 | 0,_,_=>rfl
 | n + 1,m,f=>by
   show psum (λx=>VS P n λv=>VS P m λw=>f (vc x v) w) P=VS P m λw=>psum (λx=>VS P n λv=>f (vc x v) w) P
   rw [A22 P m (λx w=>VS P n λv=>f (vc x v) w) P]
   exact ATf λx _=>A23 P n m λv w=>f (vc x v) w
theorem A03 {P:Nat} {q:Int}:∀ {n:Nat} {f g:(Nat->Int)->Int},(∀ v,Eqm q (f v)<|g v)->Eqm q (VS P n f) (VS P n g)
 | 0,_,_,h=>h _
 | n + 1,_,_,h=>Eqm.psum λx _=>A03 λv=>h _
theorem A04 (P:Nat) (c:Int):∀ (n:Nat) (f:(Nat->Int)->Int),VS P n (λv=>c * f v)=c * VS P n f
 | 0,_=>rfl
 | n + 1,f=>by
   show psum (λx=>VS P n λv=>c * f (vc x v)) P=c * psum _ P
   rw [ATf λx _=>A04 P c n λv=>f<|vc (x:Int) v,AVv]
def vd (P:Nat):Nat->(Nat->Int)->(Nat->Int)->Int
 | 0,_,_=>1
 | n + 1,v,w=>if v 0 % (P:Int)=w 0 % (P:Int) then vd P n (λj=>v<|j + 1) λj=>w (j + 1) else 0
def vEq (P n:Nat) (v w:Nat->Int):Prop:= ∀ j,j < n->Eqm (P:Int) (v j) (w j)
theorem A05 {P:Nat}:∀ {n:Nat} {v w:Nat->Int},vEq P n v w->vd P n v w=1
 | 0,_,_,_=>rfl
 | n + 1,v,w,h=>by
   show (if _ then _ else _)=_
   rw [if_pos<|show v 0 % (P:Int)=_ from h 0 AGp]
   exact A05 λj hj=>h (j + 1) AGp
theorem Axb {P:Nat}:∀ {n:Nat} {v w:Nat->Int},¬ vEq P n v w->vd P n v w=0
 | 0,_,_,h=>absurd (λj hj=>absurd hj<|Nat.not_lt_zero j) h
 | n + 1,v,w,h=>by
   show (if _ then _ else _)=_
   split
   ·next h0=>exact Axb λh1=>h λj hj=>by cases j with | zero=>exact h0 | succ j=>exact h1 j AGp
   ·rfl
theorem BE1 {n:Nat} {x y:Nat->Int} (h:vEq P n v w↔vEq P n x y):vd P n v w=vd P n x y:=by
 by_cases h1:vEq P n v w
 ·rw [A05 h1,A05<|h.1 h1]
 ·rw [Axb h1,Axb λh2=>h1<|h.2 h2]
def Pv (P n:Nat) (f:(Nat->Int)->Int):Prop:= ∀ v w,vEq P n v w->f v=f w
theorem At1 {P:Nat} (hP:0 < P):∀ {n:Nat} {f:(Nat->Int)->Int} (w:Nat->Int),Pv P n f->VS P n (λv=>vd P n v w * f v)=f w
 | 0,f,w,hf=>by
   show 1 * f _=f w
   rw [Int.one_mul];exact hf _ _ λj hj=>absurd hj (Nat.not_lt_zero j)
 | n + 1,f,w,hf=>by
   have h0:(0:Int) < P:=by omega
   have a1:=Int.emod_nonneg (w 0) (show (P:Int)≠0 by omega)
   have a2:=Int.emod_lt_of_pos (w 0) h0
   have a3:(((w 0 % (P:Int)).toNat:Nat):Int) % (P:Int)=w 0 % (P:Int):=by rw [Int.toNat_of_nonneg a1];exact Int.emod_emod_of_dvd _<|Int.dvd_refl _
   show psum (λx=>VS P n λv=>(if (x:Int) % (P:Int)=w 0 % (P:Int) then vd P n v (λj=>w<|j + 1) else 0) * f (vc x v)) P=f w
   rw [Adx (a:=(w 0 % (P:Int)).toNat) AGp λi hi hne=>?_]
   ·rw [Aly λv=>by rw [if_pos a3],At1 hP (f:=λv=>f<|vc ((w 0 % (P:Int)).toNat:Nat) v) (λj=>w<|j + 1) λv v' h=>hf _ _ λj hj=>?_]
    ·refine hf _ _ λj hj=>?_
     cases j with
     | zero=>exact a3
     | succ j=>exact Eqm.refl _ _
    ·cases j with
     | zero=>exact Eqm.refl _ _
     | succ j=>exact h j AGp
   ·rw [Aly (g:=λ_=>0) λv=>?_,Axa]
    rw [if_neg λh=>hne ?_,Int.zero_mul]
    rw [Int.emod_eq_of_lt AGp AGp] at h
    omega
def Aek (n:Nat) (S:ATa) (v:Nat->Int):Nat->Int:=λj=>psum (λk=>S j k * v k) n
theorem At2 {n:Nat} {R:ATa} (h:∀ k,k < n->Eqm q (S j k) (R j k)) (hv:∀ k,k < n->Eqm q (v k) (w k)):Eqm q (Aek n S v j) (Aek n R w j):=Eqm.psum λk hk=>(h k hk).mul (hv k hk)
theorem At3 {n:Nat}:Aek n (AUy n A B) v j=Aek n A (Aek n B v) j:=by
 unfold Aek AUy;rw [ATf (g:=λk=>psum (λl=>A j l * B l k * v k) n) λk _=>Ags _ _ _,Agy];exact ATf λl _=>by rw [Ap4];exact ATf λk _=>by grind
theorem BBo {n:Nat} (hj:j < n):Aek n dl v j=v j:=by
 unfold Aek;rw [Adx hj λl hl hne=>by unfold dl;rw [if_neg λh=>hne h.symm];simp];unfold dl;rw [if_pos rfl];grind
def Inv2 (n P:Nat) (R S:ATa):Prop:= ∀ i j,i < n->j < n->Eqm (P:Int) (AUy n R S i j) (dl i j)
theorem Azk {n:Nat} {R:ATa} (h:Inv2 n P R S) (hw:vEq P n w (Aek n S v)):vEq P n v (Aek n R w):=λj hj=>by
 refine Eqm.symm<|(At2 (S:=R) (R:=R) (λ_ _=>Eqm.refl _ _) hw).trans ?_
 rw [<- At3]
 exact (At2 (λk hk=>h j k hj hk) λ_ _=>Eqm.refl _ _).trans (Eqm.of_eq<|BBo hj)
theorem BE2 {n:Nat} {R:ATa} {f:(Nat->Int)->Int} (hP:0 < P) (h1:Inv2 n P R S) (h2:Inv2 n P S R) (hf:Pv P n f):VS P n (λv=>f<|Aek n S v)=VS P n f:=by
 rw [Aly λv=>(At1 hP (Aek n S v) hf).symm,A23];refine Aly λw=>?_;rw [Aly λv=>by rw [BE1 (P:=P) (n:=n) (v:=w) (w:=Aek n S v) (x:=v) (y:=Aek n R w) ⟨Azk h1,Azk h2⟩]];exact At1 hP (f:=λ_=>f w) (Aek n R w) λ_ _ _=>rfl
theorem A24 {d:Int} (hd:d % 2=1):∀ M:Nat,∃ u:Int,Eqm (2 ^ M) (d * u) 1
 | 0=>⟨0,Abp ⟨-1,AT6⟩⟩
 | M + 1=>by
   obtain ⟨u,hu⟩:=A24 hd M
   obtain ⟨t,ht⟩:=Afm hu
   have h2:(2:Int) ^ (M + 1)=2 * 2 ^ M:=Int.pow_succ' ..
   generalize (2:Int) ^ M=X at ht h2
   rcases (show t % 2=0∨t % 2=1 by omega) with h | h
   ·exact ⟨u,Abp ⟨t / 2,by
     rw [h2,ht];have:t=2 * (t / 2):=by omega
     grind⟩⟩
   ·refine ⟨u + X,Abp ⟨(t + d) / 2,?_⟩⟩
    have:t + d=2 * ((t + d) / 2):=by omega
    rw [h2];grind
theorem BBp {n M:Nat} (hd:det n S % 2=1):∃ R,Inv2 n (2 ^ M) R S/\Inv2 n (2 ^ M) S R:=by
 obtain ⟨u,hu⟩:=A24 hd M;have hq:(((2 ^ M:Nat)):Int)=2 ^ M:=by push_cast;rfl
 refine ⟨λi j=>u * Agi n S i j,λi j hi hj=>?_,λi j hi hj=>?_⟩
 ·have:AUy n (λi j=>u * Agi n S i j) S i j=det n S * u * dl i j:=by
   unfold AUy
   rw [ATf (g:=λk=>u * (Agi n S i k * S k j)) λk _=>Int.mul_assoc _ _ _,AVv,Ays hi hj];grind
  rw [this,hq];exact (hu.mul<|Eqm.refl _ _).trans (Eqm.of_eq<|Int.one_mul _)
 ·have:AUy n S (λi j=>u * Agi n S i j) i j=det n S * u * dl i j:=by
   unfold AUy
   rw [ATf (g:=λk=>u * (S i k * Agi n S k j)) λk _=>by grind,AVv,Aof hi hj];grind
  rw [this,hq];exact (hu.mul<|Eqm.refl _ _).trans (Eqm.of_eq<|Int.one_mul _)
def A06 (n:Nat) (v w:Nat->Int):Int:=psum (λi=>v i * w i) n
def qv (n:Nat) (D:ATa) (v:Nat->Int):Int:=A06 n v<|Aek n D v
theorem BE3 {n:Nat} {y:Nat->Int}:A06 n v (Aek n (trF S) y)=A06 n (Aek n S v) y:=by
 unfold A06 Aek trF;rw [ATf (g:=λi=>psum (λk=>v i * (S k i * y k)) n) λi _=>Ap4 _ _ _,Agy];exact ATf λk _=>by rw [Ags];exact ATf λi _=>by grind
theorem BE4 {n:Nat}:qv n (AUy n (trF S)<|AUy n D S) v=qv n D (Aek n S v):=by
 unfold qv;rw [<- BE3];unfold A06;exact ATf λi _=>by rw [At3];congr 1;unfold Aek;exact ATf λk _=>by rw [show psum (λl=>AUy n D S k l * v l) n=_ from At3];rfl
theorem A8r {n:Nat} (hA:∀ i j,i < n->j < n->Eqm q (A i j) (B i j)) (hv:∀ j,j < n->Eqm q (v j) (w j)):Eqm q (qv n A v) (qv n B w):=Eqm.psum λi hi=>(hv i hi).mul (At2 (λk hk=>hA i k hi hk) hv)
def GSv (M n:Nat) (D:ATa):Int:=VS (2 ^ M) n λv=>chE<|2 ^ (16 - M) * qv n D v
theorem A07 {M:Nat} {s:Int} (hM:M<=16) (h:Eqm (2 ^ M) s t):chE (2 ^ (16 - M) * s)=chE (2 ^ (16 - M) * t):=by
 obtain ⟨z,hz⟩:=Afm h;refine Aom<|Abp ⟨z,?_⟩;rw [<- Int.mul_sub,hz,<- Int.mul_assoc,<- Int.pow_add,show 16 - M + M=16 by omega];rfl
theorem A25 {M n:Nat} {D':ATa} (hM:M<=16) (hd:det n S % 2=1) (H:Car n M 2 D S D'):GSv M n D'=GSv M n D:=by
 obtain ⟨R,h1,h2⟩:=BBp (M:=M) hd;have hq:(((2 ^ M:Nat)):Int)=2 ^ M:=by push_cast;rfl
 unfold GSv;rw [Aly (g:=λv=>chE<|2 ^ (16 - M) * qv n D (Aek n S v)) λv=>?_]
 ·exact BE2 (Nat.pow_pos AGr) h1 h2 (f:=λv=>chE<|2 ^ (16 - M) * qv n D v) λv w h=>A07 hM<|A8r (λ_ _ _ _=>Eqm.refl _ _) λj hj=>hq ▸ h j hj
 ·rw [<- BE4];exact A07 hM<|A8r (λi j hi hj=>(H i j hi hj).symm) λ_ _=>Eqm.refl _ _
end Go.QF
namespace Go.Proofs.YtkakafabeobahaaGreatDoor
open Go Go.QF
def gV (k:Nat) (a b c:Int):Int:=psum (λx=>psum (λy=>chE<|2 ^ (16 - k) * (a * (x:Int) * x + b * x * y + c * (y:Int) * y))<|2 ^ k)<|2 ^ k
theorem Avj {H:Nat} (h:∀ i,Eqm q (f<|H + i)<|-f i):Eqm q (psum f<|2 * H) 0:=by
 rw [show 2 * H=H + H by omega,Abe];have h1:Eqm q (psum (λi=>f<|H + i) H) (psum (λi=> -1 * f i) H):=Eqm.psum λi _=>(h i).trans (Eqm.of_eq AGp);rw [AVv] at h1;exact ((Eqm.refl _ _).add h1).trans (Eqm.of_eq AGp)
theorem A26 {s:Int} (z:Int) (h:s=t + 32768 * z) (hz:z % 2=1):Eqm gq (chE s) (-chE t):=by
 rw [h];refine (Ar9 _ _).trans ?_;rw [Azi hz];exact (Eqm.mul (Eqm.refl _ _)<|show (65536:Int) % 65537=(-1) % 65537 by decide).trans (Eqm.of_eq AGp)
theorem Avk {N:Nat} (h:∀ i,f (i + N)=f i):psum f (2 * N)=2 * psum f N:=Alx h 2
theorem Anv {s:Int} (z:Int) (h:s=t + 65536 * z):chE s=chE t:=by rw [h,BBj]
theorem BBq {b c:Int} (hb:b % 2=1) (hk:2<=k) (Ae:k<=16):Eqm gq (gV k a b c) (4 * gV (k - 2) a b c):=by
 obtain ⟨m,rfl⟩:∃ m,k=m + 2:=⟨k - 2,AGp⟩;have hN:2 ^ (m + 2)=2 * (2 * 2 ^ m):=by rw [Nat.pow_succ,Nat.pow_succ];omega
 have Aa:(2:Int) ^ (16 - (m + 2 - 2))=4 * 2 ^ (16 - (m + 2)):=by rw [AZq (a:=2) (b:=16 - (m + 2)) AGp];rfl
 have hCP:(2:Int) ^ (16 - (m + 2)) * 2 ^ m * 4=65536:=by rw [<- Int.pow_add,show (16 - (m + 2) + m)=14 by omega];rfl
 have hP:(((2 ^ m:Nat)):Int)=2 ^ m:=by push_cast;rfl
 unfold gV;rw [Aa,show m + 2 - 2=m by omega,hN];generalize (2:Int) ^ (16 - (m + 2))=C at *;generalize hQ:(2:Int) ^ m=P at *;generalize 2 ^ m=N at *
 have sx:∀ x y:Nat,y % 2=1->Eqm gq (chE<|C * (a * ((2 * N + x:Nat):Int) * (2 * N + x:Nat) + b * (2 * N + x:Nat) * y + c * (y:Int) * y)) (-chE (C * (a * (x:Int) * x + b * x * y + c * (y:Int) * y))):=λx y hy=>by
  refine A26 (a * (2 * x + 2 * P) + b * y) ?_ (by
   rw [Int.add_emod,Int.mul_emod b,hb];have:((y:Nat):Int) % 2=1:=by omega
   rw [this,show a * (2 * (x:Int) + 2 * P)=2 * (a * (x + P)) by grind];omega)
  push_cast;rw [hP];grind
 have sy:∀ x y:Nat,x % 2=1->Eqm gq (chE<|C * (a * (x:Int) * x + b * x * ((2 * (N + y):Nat):Int) + c * ((2 * (N + y):Nat):Int) * (2 * (N + y):Nat))) (-chE (C * (a * (x:Int) * x + b * x * ((2 * y:Nat):Int) + c * ((2 * y:Nat):Int) * (2 * y:Nat)))):=λx y hx=>by
  refine A26 (c * (4 * y + 2 * P) + b * x) ?_ (by
   rw [Int.add_emod,Int.mul_emod b,hb];have:((x:Nat):Int) % 2=1:=by omega
   rw [this,show c * (4 * (y:Int) + 2 * P)=2 * (c * (2 * y + P)) by grind];omega)
  push_cast;rw [hP];grind
 rw [Agy,Aw7]
 have z1:Eqm gq (psum (λy=>psum (λx=>chE<|C * (a * (x:Int) * x + b * x * ((2 * y + 1:Nat):Int) + c * ((2 * y + 1:Nat):Int) * ((2 * y + 1:Nat):Int)))<|2 * (2 * N))<|2 * N) 0:=
  (Eqm.psum λy _=>Avj λx=>sx x (2 * y + 1) AGp).trans (Eqm.of_eq<|Adn _)
 refine ((Eqm.refl _ _).add z1).trans ?_;rw [Int.add_zero,Agy,Aw7]
 have z2:Eqm gq (psum (λx=>psum (λy=>chE<|C * (a * ((2 * x + 1:Nat):Int) * ((2 * x + 1:Nat):Int) + b * ((2 * x + 1:Nat):Int) * ((2 * y:Nat):Int) + c * ((2 * y:Nat):Int) * ((2 * y:Nat):Int)))<|2 * N)<|2 * N) 0:=
  (Eqm.psum λx _=>Avj λy=>sy (2 * x + 1) y AGp).trans (Eqm.of_eq<|Adn _)
 refine ((Eqm.refl _ _).add z2).trans (Eqm.of_eq ?_);rw [Int.add_zero];have e1:∀ x y:Nat,C * (a * ((2 * x:Nat):Int) * ((2 * x:Nat):Int) + b * ((2 * x:Nat):Int) * ((2 * y:Nat):Int) + c * ((2 * y:Nat):Int) * ((2 * y:Nat):Int))=4 * C * (a * (x:Int) * x + b * x * y + c * (y:Int) * y):=λx y=>by push_cast;grind
 rw [ATf (g:=λx=>2 * psum (λy=>chE<|4 * C * (a * (x:Int) * x + b * x * y + c * (y:Int) * y)) N) λx _=>?_,AVv,Avk λx=>?_]
 ·omega
 ·exact ATf λy _=>Anv (a * (2 * x + P) + b * y) (by push_cast;rw [hP];grind)
 ·rw [ATf λy _=>congrArg chE<|e1 x y];exact Avk λy=>Anv (c * (2 * y + P) + b * x) (by push_cast;rw [hP];grind)
def tS (a c:Int):Int:=if a % 2=1/\c % 2=1 then -1 else 1
theorem BBr {b c:Int} (hb:b % 2=1) (hk:k<=1):Eqm gq (gV k a b c) (2 ^ k * tS a c ^ k):=by
 have red:∀ x y:Int,Eqm 2 x y->chE (2 ^ 15 * x)=chE (2 ^ 15 * y):=λx y h=>A07 (M:=1) AGp h;rcases (show k=0∨k=1 by omega) with rfl | rfl
 ·exact Eqm.of_eq (by unfold gV;simp [psum,Azh])
 ·have e:gV 1 a b c=chE (2 ^ 15 * 0) + chE (2 ^ 15 * c) + (chE (2 ^ 15 * a) + chE (2 ^ 15 * (a + b + c))):=by
   unfold gV;simp [psum]
  rw [e,Int.pow_one,Int.pow_one];unfold tS;have o:chE (2 ^ 15 * 1)=65536:=by decide +kernel
  have z:chE (2 ^ 15 * 0)=1:=by decide +kernel
  rcases (show a % 2=0∨a % 2=1 by omega) with ha | ha <;> rcases (show c % 2=0∨c % 2=1 by omega) with hc | hc
  ·rw [red a 0 (by show _=_;omega),red c 0 (by show _=_;omega),red (a + b + c) 1 (by show _=_;omega),if_neg AGp,o,z];unfold Eqm;decide
  ·rw [red a 0 (by show _=_;omega),red c 1 (by show _=_;omega),red (a + b + c) 0 (by show _=_;omega),if_neg AGp,o,z];unfold Eqm;decide
  ·rw [red a 1 (by show _=_;omega),red c 0 (by show _=_;omega),red (a + b + c) 0 (by show _=_;omega),if_neg AGp,o,z];unfold Eqm;decide
  ·rw [red a 1 (by show _=_;omega),red c 1 (by show _=_;omega),red (a + b + c) 1 (by show _=_;omega),if_pos ⟨ha,hc⟩,o,z];unfold Eqm;decide
theorem BCs (a c:Int):tS a c * tS a c=1:=by unfold tS;split <;> rfl
theorem BE5 {b c:Int} (hb:b % 2=1):∀ k,k<=16->Eqm gq (gV k a b c) (2 ^ k * tS a c ^ k):=by
 intro k
 induction k using Nat.strongRecOn with
 | ind k ih=>
   intro Aa
   rcases Nat.lt_or_ge k 2 with h | h
   ·exact BBr hb AGp
   ·refine (BBq hb h Aa).trans ((Eqm.mul (Eqm.refl _ 4)<|ih (k - 2) AGp AGp).trans (Eqm.of_eq ?_))
    obtain ⟨m,rfl⟩:∃ m,k=m + 2:=⟨k - 2,AGp⟩
    rw [show m + 2 - 2=m by omega,Int.pow_succ,Int.pow_succ,Int.pow_succ<|tS a c,Int.pow_succ<|tS a c]
    have:=BCs a c
    grind
theorem Aj5 {p:Int} {i j:Nat}:∀ {L:List AU1} {r:Nat} {F:ATa},(i < r∨j < r)->Aor p L r F i j=F i j
 | [],_,_,_=>rfl
 | c :: L,r,F,h=>by
   rw [Ach]
   split
   ·rw [Aj5 AGp,Adz,if_neg AGp,if_neg AGp,if_neg AGp,if_neg AGp]
   ·rw [Aj5 AGp,Aan,if_neg AGp]
theorem Amn {p:Int} {s i j:Nat}:∀ {L:List AU1} {r:Nat} {F G:ATa},(∀ i j,F (s + i) (s + j)=G i j)->Aor p L (s + r) F (s + i) (s + j)=Aor p L r G i j
 | [],_,_,_,h=>h i j
 | c :: L,r,F,G,h=>by
   rw [Ach,Ach]
   split
   ·rw [Nat.add_assoc]
    refine Amn λi j=>?_
    rw [Adz,Adz,h];grind
   ·rw [Nat.add_assoc]
    refine Amn λi j=>?_
    rw [Aan,Aan,h];grind
structure Fr (n s:Nat) (D B D1:ATa):Prop where
 hd:∀ i j,i < s->j < s->D i j=B i j
 ur:∀ i j,i < s->D i (s + j)=0
 lo:∀ i j,i < s->D (s + j) i=0
 tl:∀ i j,D (s + i) (s + j)=D1 i j
theorem qv1 {n:Nat} (h:Fr n 1 D B D1) (x:Int) (v:Nat->Int):qv (1 + n) D (vc x v)=B 0 0 * x * x + qv n D1 v:=by
 unfold qv A06;rw [Abe]
 have e0:Aek (1 + n) D (vc x v) 0=B 0 0 * x:=by
  unfold Aek
  rw [Abe,ATf (f:=λi=>D 0 (1 + i) * vc x v (1 + i)) (g:=λ_=>0) λi _=>by rw [h.ur 0 i AGp];simp,Adn]
  show 0 + D 0 0 * x + 0=_
  rw [h.hd 0 0 AGp AGp];omega
 have e1:∀ i,Aek (1 + n) D (vc x v) (1 + i)=Aek n D1 v i:=λi=>by
  unfold Aek
  rw [Abe,ATf (f:=λk=>D (1 + i) (1 + k) * vc x v (1 + k)) (g:=λk=>D1 i k * v k) λk _=>by rw [h.tl,Nat.add_comm 1 k];rfl]
  show 0 + D (1 + i) 0 * x + _=_
  rw [h.lo 0 i AGp];omega
 rw [ATf (f:=λi=>vc x v (1 + i) * Aek (1 + n) D (vc x v) (1 + i)) (g:=λi=>v i * Aek n D1 v i) λi _=>by rw [e1,Nat.add_comm 1 i];rfl];show 0 + x * Aek (1 + n) D (vc x v) 0 + _=_;rw [e0];grind
theorem qv2 {n:Nat} (h:Fr n 2 D B D1) (x y:Int) (v:Nat->Int):qv (2 + n) D (vc x<|vc y v)=B 0 0 * x * x + (B 0 1 + B 1 0) * x * y + B 1 1 * y * y + qv n D1 v:=by
 unfold qv A06;rw [Abe]
 have e0:∀ a,a < 2->Aek (2 + n) D (vc x<|vc y v) a=B a 0 * x + B a 1 * y:=λa ha=>by
  unfold Aek
  rw [Abe,ATf (f:=λi=>D a (2 + i) * vc x (vc y v) (2 + i)) (g:=λ_=>0) λi _=>by rw [h.ur a i ha];simp,Adn]
  show 0 + D a 0 * x + D a 1 * y + 0=_
  rw [h.hd a 0 ha AGp,h.hd a 1 ha AGp];omega
 have e1:∀ i,Aek (2 + n) D (vc x<|vc y v) (2 + i)=Aek n D1 v i:=λi=>by
  unfold Aek
  rw [Abe,ATf (f:=λk=>D (2 + i) (2 + k) * vc x (vc y v) (2 + k)) (g:=λk=>D1 i k * v k) λk _=>by rw [h.tl,Nat.add_comm 2 k];rfl]
  show 0 + D (2 + i) 0 * x + D (2 + i) 1 * y + _=_
  rw [h.lo 0 i AGp,h.lo 1 i AGp];omega
 rw [ATf (f:=λi=>vc x (vc y v) (2 + i) * Aek (2 + n) D (vc x<|vc y v) (2 + i)) (g:=λi=>v i * Aek n D1 v i) λi _=>by rw [e1,Nat.add_comm 2 i];rfl];show 0 + x * Aek (2 + n) D (vc x<|vc y v) 0 + y * Aek (2 + n) D (vc x<|vc y v) 1 + _=_;rw [e0 0 AGp,e0 1 AGp];grind
theorem gs1 {M n:Nat} (h:Fr n 1 D B D1):Eqm gq (GSv M (1 + n) D) (psum (λx=>chE<|2 ^ (16 - M) * (B 0 0 * (x:Int) * x)) (2 ^ M) * GSv M n D1):=by
 rw [Nat.add_comm];show Eqm gq (psum (λx=>VS (2 ^ M) n λv=>chE<|2 ^ (16 - M) * qv (n + 1) D (vc x v))<|2 ^ M) _;rw [Ags];refine Eqm.psum λx _=>?_;rw [show GSv M n D1=VS (2 ^ M) n λv=>chE (2 ^ (16 - M) * qv n D1 v) from rfl,<- A04];refine A03 λv=>?_;rw [Nat.add_comm n 1,qv1 h,Int.mul_add];exact Ar9 _ _
theorem gs2 {M n:Nat} (h:Fr n 2 D B D1):Eqm gq (GSv M (2 + n) D) (psum (λx=>psum (λy=>chE<|2 ^ (16 - M) * (B 0 0 * (x:Int) * x + (B 0 1 + B 1 0) * x * y + B 1 1 * (y:Int) * y))<|2 ^ M) (2 ^ M) * GSv M n D1):=by
 rw [Nat.add_comm];show Eqm gq (psum (λx=>psum (λy=>VS (2 ^ M) n λv=>chE<|2 ^ (16 - M) * qv (n + 2) D (vc x<|vc y v))<|2 ^ M)<|2 ^ M) _;rw [Ags];refine Eqm.psum λx _=>?_;rw [Ags];refine Eqm.psum λy _=>?_;rw [show GSv M n D1=VS (2 ^ M) n λv=>chE (2 ^ (16 - M) * qv n D1 v) from rfl,<- A04];refine A03 λv=>?_;rw [Nat.add_comm n 2,qv2 h,Int.mul_add];exact Ar9 _ _
theorem BE6 {c:AU1} {L:List AU1} (h:c.2.1=1):Fr (Acp L) 1 (bm (c :: L)) (λ_ _=>2 ^ c.1.toNat * c.2.2.1) (bm L):=by
 have e:bm (c :: L)=Aor 2 L (1 + 0) (Aq7 (λ_ _=>0) 0 0<|2 ^ c.1.toNat * c.2.2.1):=by unfold bm;rw [Ach,if_neg AGp]
 rw [e];refine ⟨λi j hi hj=>?_,λi j hi=>?_,λi j hi=>?_,λi j=>Amn λi j=>?_⟩
 ·rw [Aj5 AGp,Aan,if_pos AGp]
 ·rw [Aj5 AGp,Aan,if_neg AGp]
 ·rw [Aj5 AGp,Aan,if_neg AGp]
 ·rw [Aan,if_neg AGp]
theorem BE7 {c:AU1} {L:List AU1} (h:c.2.1=2):Fr (Acp L) 2 (bm (c :: L)) (Aue (λ_ _=>0) 0 (2 ^ c.1.toNat * c.2.2.1) (2 ^ c.1.toNat * c.2.2.2.1)<|2 ^ c.1.toNat * c.2.2.2.2) (bm L):=by
 have e:bm (c :: L)=Aor 2 L (2 + 0) (Aue (λ_ _=>0) 0 (2 ^ c.1.toNat * c.2.2.1) (2 ^ c.1.toNat * c.2.2.2.1)<|2 ^ c.1.toNat * c.2.2.2.2):=by unfold bm;rw [Ach,if_pos h]
 rw [e];refine ⟨λi j hi hj=>?_,λi j hi=>?_,λi j hi=>?_,λi j=>Amn λi j=>?_⟩
 ·rw [Aj5 AGp]
 all_goals (try rw [Aj5 AGp]);rw [Adz,if_neg AGp,if_neg AGp,if_neg AGp,if_neg AGp]
def tB (b:AU1):Nat:=(if b.2.1=1 then (b.2.2.1 % 8).toNat else 0) + if b.1 % 2=1/\sg8 (dB b)= -1 then 4 else 0
def tL:List AU1->Nat
 | []=>0
 | b :: l=>tB b + tL l
theorem gz4:Eqm gq (gz ^ 4) (-1):=by unfold Eqm;decide
theorem BE8 {s:Int} (hs:s * s=1) (e:Nat):Eqm gq (s ^ e) (gz ^ (if e % 2=1/\s= -1 then 4 else 0)):=by
 have h2:∀ m,s ^ (2 * m)=1:=λm=>by rw [Int.pow_mul,show s ^ 2=s * s by grind,hs,Int.one_pow]
 rcases (show e % 2=0∨e % 2=1 by omega) with h | h
 ·rw [if_neg AGp,show e=2 * (e / 2) by omega,h2];exact Eqm.refl _ _
 ·rw [show e=2 * (e / 2) + 1 by omega,Int.pow_succ,h2];by_cases h3:s= -1
  ·rw [if_pos ⟨AGp,h3⟩,h3];exact gz4.symm
  ·rw [if_neg λh=>h3 h.2]
   have:s=1:=by
    have h4:(s - 1) * (s + 1)=0:=by grind
    rcases Int.mul_eq_zero.1 h4 with h | h <;> omega
   rw [this];exact Eqm.refl _ _
theorem A8t (k:Nat):Eqm gq (gr ^ (2 * k)) (2 ^ k):=by
 induction k with
 | zero=>exact Eqm.refl _ _
 | succ k ih=>rw [show 2 * (k + 1)=2 * k + 1 + 1 by omega,Int.pow_succ,Int.pow_succ,Int.pow_succ,Int.mul_assoc];exact ih.mul BCq
theorem A8u {s:Int} (hs:s * s=1) {a b:Nat} (h:a % 2=b % 2):s ^ a=s ^ b:=by
 have h2:∀ m,s ^ (2 * m)=1:=λm=>by rw [Int.pow_mul,show s ^ 2=s * s by grind,hs,Int.one_pow]
 rw [show a=2 * (a / 2) + a % 2 by omega,show b=2 * (b / 2) + b % 2 by omega,Int.pow_add,Int.pow_add,h2,h2,h]
theorem BG4 {M e:Nat} (ha:a % 2=1) (he:e + 3<=M) (hM:M<=16):Eqm gq (psum (λx=>chE<|2 ^ (16 - M) * (2 ^ e * a * (x:Int) * x))<|2 ^ M) (gr ^ (M + 1 + e) * sg8 a ^ (M + 1) * (sg8 a ^ e * gz ^ (a % 8).toNat)):=by
 have h1:psum (λx=>chE<|2 ^ (16 - M) * (2 ^ e * a * (x:Int) * x)) (2 ^ M)=2 ^ e * gW (M - e) a:=by
  unfold gW
  have hc:(2:Int) ^ (16 - (M - e))=2 ^ (16 - M) * 2 ^ e:=AZq AGp
  have hp:(2:Int) ^ (16 - (M - e)) * 2 ^ (M - e)=65536:=by rw [<- Int.pow_add,show 16 - (M - e) + (M - e)=16 by omega];rfl
  have hP:(((2 ^ (M - e):Nat)):Int)=2 ^ (M - e):=by push_cast;rfl
  rw [show 2 ^ M=2 ^ e * 2 ^ (M - e) by rw [<- Nat.pow_add];congr 1;omega]
  rw [ATf (g:=λx=>chE<|2 ^ (16 - (M - e)) * a * ((x:Int) * x)) λx _=>by rw [hc];congr 1;grind]
  rw [Alx (f:=λx=>chE<|2 ^ (16 - (M - e)) * a * ((x:Int) * x)) λi=>Anv (a * (2 * i + 2 ^ (M - e))) ?_]
  ·push_cast;rfl
  ·push_cast;rw [<- hp];grind
 rw [h1];refine ((A8t e).symm.mul (BE0 ha (M - e) AGp AGp)).trans (Eqm.of_eq ?_);rw [show M + 1 + e=2 * e + (M - e + 1) by omega,Int.pow_add,A8u (Aw9 a) (a:=M - e + 1) (b:=M + 1 + e) AGp,Int.pow_add (sg8 a) (M + 1) e];grind
theorem BG5 {M e:Nat} {b c:Int} (hb:b % 2=1) (he:e + 3<=M) (hM:M<=16):Eqm gq (psum (λx=>psum (λy=>chE<|2 ^ (16 - M) * (2 ^ e * (2 * a) * (x:Int) * x + (2 ^ e * b + 2 ^ e * b) * x * y + 2 ^ e * (2 * c) * (y:Int) * y))<|2 ^ M)<|2 ^ M) (gr ^ (2 * (M + 1 + e)) * tS a c ^ (M + 1) * tS a c ^ e):=by
 have h1:psum (λx=>psum (λy=>chE<|2 ^ (16 - M) * (2 ^ e * (2 * a) * (x:Int) * x + (2 ^ e * b + 2 ^ e * b) * x * y + 2 ^ e * (2 * c) * (y:Int) * y))<|2 ^ M) (2 ^ M)=2 ^ (e + 1) * (2 ^ (e + 1) * gV (M - e - 1) a b c):=by
  unfold gV
  have hc:(2:Int) ^ (16 - (M - e - 1))=2 ^ (16 - M) * 2 ^ e * 2:=by rw [AZq (a:=16 - M + e) (b:=1) AGp,Int.pow_add];rfl
  have hp:(2:Int) ^ (16 - (M - e - 1)) * 2 ^ (M - e - 1)=65536:=by rw [<- Int.pow_add,show 16 - (M - e - 1) + (M - e - 1)=16 by omega];rfl
  have hP:(((2 ^ (M - e - 1):Nat)):Int)=2 ^ (M - e - 1):=by push_cast;rfl
  have h2:(((2 ^ (e + 1):Nat)):Int)=2 ^ (e + 1):=by push_cast;rfl
  rw [show 2 ^ M=2 ^ (e + 1) * 2 ^ (M - e - 1) by rw [<- Nat.pow_add];congr 1;omega]
  generalize 2 ^ (M - e - 1)=N at hP ⊢
  generalize (2:Int) ^ (M - e - 1)=P at hp hP
  generalize (2:Int) ^ (16 - (M - e - 1))=C at hc hp ⊢
  rw [ATf (g:=λx=>psum (λy=>chE<|C * (a * (x:Int) * x + b * x * y + c * (y:Int) * y))<|2 ^ (e + 1) * N) λx _=>ATf λy _=>by rw [hc];congr 1;grind]
  rw [ATf (g:=λx=>(2 ^ (e + 1):Nat) * psum (λy=>chE<|C * (a * (x:Int) * x + b * x * y + c * (y:Int) * y)) N) λx _=>Alx (λy=>Anv (c * (2 * y + P) + b * x) (by push_cast;rw [hP,<- hp];grind)) _,AVv,h2]
  congr 1
  rw [Alx (f:=λx=>psum (λy=>chE<|C * (a * (x:Int) * x + b * x * y + c * (y:Int) * y)) N) (λx=>ATf λy _=>Anv (a * (2 * x + P) + b * y) (by push_cast;rw [hP,<- hp];grind)) _,h2]
 rw [h1];refine ((Eqm.refl _ _).mul ((Eqm.refl _ _).mul (BE5 hb (M - e - 1) AGp))).trans ?_;have h3:Eqm gq (gr ^ (2 * (M + 1 + e))) (2 ^ (e + 1) * (2 ^ (e + 1) * 2 ^ (M - e - 1))):=(A8t _).trans (Eqm.of_eq (by rw [<- Int.pow_add,<- Int.pow_add];congr 1;omega));refine Eqm.trans (Eqm.of_eq ?_)<|(h3.symm.mul<|Eqm.refl _<|tS a c ^ (M + 1)).mul (Eqm.refl _<|tS a c ^ e);rw [A8u (BCs a c) (a:=M - e - 1) (b:=M + 1 + e) AGp,Int.pow_add (tS a c) (M + 1) e];grind
theorem BBs {b c:Int} (hb:b % 2=1):sg8 (2 * a * (2 * c) - b * b)=tS a c:=by
 have h1:b * b % 8=1:=by
  rcases Aqc hb with h | h | h | h <;> rw [Int.mul_emod,h] <;> rfl
 have h2:(2 * a * (2 * c) - b * b) % 8=(4 * (a % 2 * (c % 2)) - 1) % 8:=by
  obtain ⟨x,hx⟩:∃ x,a=2 * x + a % 2:=⟨a / 2,AGp⟩
  obtain ⟨y,hy⟩:∃ y,c=2 * y + c % 2:=⟨c / 2,AGp⟩
  have:2 * a * (2 * c)=8 * (2 * x * y + x * (c % 2) + y * (a % 2)) + 4 * (a % 2 * (c % 2)):=by grind
  rw [this];generalize a % 2 * (c % 2)=w;omega
 unfold sg8 tS;rw [h2];rcases (show a % 2=0∨a % 2=1 by omega) with ha | ha <;> rcases (show c % 2=0∨c % 2=1 by omega) with hc | hc <;> rw [ha,hc] <;> decide
theorem A27 {b:Int} (ha:a % 2=1) (hb:b % 2=1):sg8 (a * b)=sg8 a * sg8 b:=by
 unfold sg8;rw [Int.mul_emod];rcases Aqc ha with h | h | h | h <;> rcases Aqc hb with h' | h' | h' | h' <;> rw [h,h'] <;> decide
def BP (M:Nat) (b:AU1):Prop:=(0<=b.1/\b.1 + 3<=M)/\(b.2.1=1/\b.2.2.1 % 2=1∨b.2.1=2/\b.2.2.1 % 2=0/\b.2.2.2.1 % 2=1/\b.2.2.2.2 % 2=0)
theorem BP.odd {M:Nat} {b:AU1} (h:BP M b):dB b % 2=1:=by
 unfold dB;rcases h.2 with ⟨h1,h2⟩ | ⟨h1,h2,h3,h4⟩
 ·rw [if_neg AGp,h2]
 ·rw [if_pos h1,Int.sub_emod,Int.mul_emod,h2,Int.mul_emod b.2.2.2.1,h3,Int.zero_mul];rfl
theorem Axc {M:Nat}:∀ {L:List AU1},(∀ b∈L,BP M b)->uL L % 2=1
 | [],_=>rfl
 | b :: L,h=>by
   show dB b * uL L % 2=1
   rw [Int.mul_emod,(h b AT6).odd,Axc λx hx=>h x<|by simp [hx]];rfl
theorem A28 {n M e o v t u:Nat} {sg su B G X:Int} (hs:Eqm gq (sg ^ e) (gz ^ t)) (hB:Eqm gq B (gr ^ (s * (M + 1 + e)) * sg ^ (M + 1) * (sg ^ e * gz ^ o))) (hX:Eqm gq X (B * G)) (ih:Eqm gq G (gr ^ (n * (M + 1) + v) * su ^ (M + 1) * gz ^ u)):Eqm gq X (gr ^ ((s + n) * (M + 1) + (s * e + v)) * (sg * su) ^ (M + 1) * gz ^ (o + t + u)):=by
 refine (hX.trans<|(hB.trans<|(Eqm.refl _ _).mul (hs.mul<|Eqm.refl _ _)).mul ih).trans (Eqm.of_eq ?_);rw [show (s + n) * (M + 1) + (s * e + v)=s * (M + 1 + e) + (n * (M + 1) + v) by rw [Nat.add_mul,Nat.mul_add s (M + 1) e];omega,Int.pow_add gr,Int.mul_pow,Int.pow_add gz<|o + t,Int.pow_add gz o];grind
theorem BCt {M:Nat} (hM:M<=16):∀ {L:List AU1},(∀ b∈L,BP M b)->Eqm gq (GSv M (Acp L)<|bm L) (gr ^ (Acp L * (M + 1) + vL L) * sg8 (uL L) ^ (M + 1) * gz ^ tL L)
 | [],_=>by
   rw [show Acp [] * (M + 1) + vL []=0 by show 0 * (M + 1) + 0=0;omega,show sg8 (uL [])=1 from rfl,Int.one_pow];show Eqm gq (chE<|2 ^ (16 - M) * 0) 1;rw [Int.mul_zero,Azh];exact Eqm.refl _ _
 | b :: L,h=>by
   have hb:=h b AT6;have hL:∀ x∈L,BP M x:=λx hx=>h x (by simp [hx]);have ih:=BCt hM hL;have hu:sg8 (uL (b :: L))=sg8 (dB b) * sg8 (uL L):=A27 hb.odd<|Axc hL;obtain ⟨⟨h0,h3⟩,hc⟩:=hb;obtain ⟨e,s,a,y,c⟩:=b;obtain ⟨e,rfl⟩:∃ k:Nat,e=k:=⟨e.toNat,AGp⟩;dsimp only at h0 h3 hc;have hsg:=BE8 (Aw9<|dB ((e:Int),s,a,y,c)) e;have hp:(((e:Nat):Int) % 2=1)=(e % 2=1):=propext AGp
   rcases hc with ⟨rfl,h2⟩ | ⟨rfl,h2,h4,h5⟩
   ·have ht:tL (((e:Int),1,a,y,c) :: L)=(a % 8).toNat + (if e % 2=1/\sg8 (dB ((e:Int),1,a,y,c))= -1 then 4 else 0) + tL L:=by
     show tB _ + tL L=_;unfold tB;simp only [hp,if_true]
    rw [hu,ht];exact A28 (s:=1) hsg (by rw [Nat.one_mul];exact BG4 (a:=a) h2 AGp hM) (gs1<|BE6 (c:=((e:Int),1,a,y,c)) rfl) ih
   ·obtain ⟨x,rfl⟩:∃ x,a=2 * x:=⟨a / 2,AGp⟩;obtain ⟨z,rfl⟩:∃ z,c=2 * z:=⟨c / 2,AGp⟩
    have ht:tL (((e:Int),2,2 * x,y,2 * z) :: L)=0 + (if e % 2=1/\sg8 (dB ((e:Int),2,2 * x,y,2 * z))= -1 then 4 else 0) + tL L:=by
     show tB _ + tL L=_;unfold tB;simp [hp]
    have hd:sg8 (dB ((e:Int),2,2 * x,y,2 * z))=tS x z:=BBs h4;rw [hu,ht];refine A28 (s:=2) hsg ?_ (gs2<|BE7 (c:=((e:Int),2,2 * x,y,2 * z)) rfl) ih;rw [hd]
    refine Eqm.trans (Eqm.of_eq ?_)<|(BG5 (a:=x) (c:=z) h4 (e:=e) AGp hM).trans (Eqm.of_eq ?_)
    ·simp [Adz]
    ·rw [Int.mul_assoc,Int.mul_assoc];congr 2;exact (Int.mul_one _).symm
def Axd:List AU1->Int->Int
 | [],_=>0
 | b :: l,e=>(if b.1=e then b.2.1 else 0) + Axd l e
def sgE (sg:AU1->Int):List AU1->Int->Int
 | [],_=>1
 | b :: l,e=>(if b.1=e then sg b else 1) * sgE sg l e
def odE (od:AU1->Prop) (L:List AU1) (e:Int):Prop:= ∃ b∈L,b.1=e/\od b
theorem At4 (b:AU1) (e:Int):∀ L:List AU1,Axd (L ++ [b]) e=Axd L e + if b.1=e then b.2.1 else 0
 | []=>by show _ + 0=0 + _;omega
 | c :: L=>by show _ + Axd (L ++ [b]) e=_ + Axd L e + _;rw [At4 b e L];omega
theorem Axe (sg:AU1->Int) (b:AU1) (e:Int):∀ L:List AU1,sgE sg (L ++ [b]) e=sgE sg L e * if b.1=e then sg b else 1
 | []=>by show _ * 1=1 * _;omega
 | c :: L=>by show _ * sgE sg (L ++ [b]) e=_ * sgE sg L e * _;rw [Axe sg b e L,Int.mul_assoc]
theorem BBu (od:AU1->Prop) (b:AU1) (e:Int) (L:List AU1):odE od (L ++ [b]) e↔odE od L e∨b.1=e/\od b:=by
 unfold odE;simp only [List.mem_append,List.mem_singleton];grind
theorem Avl {e:Int}:∀ {L:List AU1},(∀ b∈L,b.1≠e)->Axd L e=0
 | [],_=>rfl
 | c :: L,h=>by show (if c.1=e then _ else _) + Axd L e=0;rw [if_neg<|h c AT6,Avl λb hb=>h b<|by simp [hb]];rfl
theorem Azl {sg:AU1->Int} {e:Int}:∀ {L:List AU1},(∀ b∈L,b.1≠e)->sgE sg L e=1
 | [],_=>rfl
 | c :: L,h=>by show (if c.1=e then _ else _) * sgE sg L e=1;rw [if_neg<|h c AT6,Azl λb hb=>h b<|by simp [hb]];rfl
structure CSp (sg:AU1->Int) (od:AU1->Prop) (L:List AU1) (C:List AWr):Prop where
 asc:C.Pairwise λa b=>a.1 < b.1
 mem:∀ e,(∃ c∈C,c.1=e)↔ ∃ b∈L,b.1=e
 dim:∀ c∈C,c.2.1=Axd L c.1
 sgn:∀ c∈C,c.2.2.1=sgE sg L c.1
 odd:∀ c∈C,(c.2.2.2.1=true↔odE od L c.1)
theorem CSp.nil {sg:AU1->Int} {od:AU1->Prop}:CSp sg od [] []:=⟨List.Pairwise.nil,λe=>by simp,λc h=>(nomatch h),λc h=>(nomatch h),λc h=>(nomatch h)⟩
structure CRp (sg:AU1->Int) (od:AU1->Prop) (L:List AU1) (e:Int) (l:List AWr) (c:AWr):Prop where
 asc:(l ++ [c]).Pairwise λa b=>a.1 < b.1
 exp:c.1=e
 mem:∀ x,(∃ c∈l,c.1=x)∨x=e↔(∃ b∈L,b.1=x)∨x=e
 dim:∀ d∈l ++ [c],d.2.1=Axd L d.1
 sgn:∀ d∈l ++ [c],d.2.2.1=sgE sg L d.1
 odd:∀ d∈l ++ [c],(d.2.2.2.1=true↔odE od L d.1)
theorem CSp.old {sg:AU1->Int} {od:AU1->Prop} {L:List AU1} {l:List AWr} {c:AWr} (H:CSp sg od L (l ++ [c])):CRp sg od L c.1 l c:=
 ⟨H.asc,rfl,λx=>by have:=H.mem x;simp only [List.mem_append,List.mem_singleton] at this;grind,H.dim,H.sgn,H.odd⟩
theorem CSp.new {sg:AU1->Int} {od:AU1->Prop} {L:List AU1} {l:List AWr} {e:Int} (H:CSp sg od L l) (h:∀ b∈L,b.1 < e):CRp sg od L e l (e,0,1,false,0):=by
 have h1:∀ b∈L,b.1≠e:=λb hb=>by have:=h b hb;omega
 have h2:∀ d∈l,d.1 < e:=λd hd=>by
  obtain ⟨b,hb,he⟩:=(H.mem d.1).1 ⟨d,hd,rfl⟩
  rw [<- he];exact h b hb
 refine ⟨?_,rfl,λx=>by rw [H.mem],λd hd=>?_,λd hd=>?_,λd hd=>?_⟩
 ·rw [List.pairwise_append];exact ⟨H.asc,AT6,λa ha b hb=>by rw [List.mem_singleton.1 hb];exact h2 a ha⟩
 ·rcases List.mem_append.1 hd with h3 | h3
  ·exact H.dim d h3
  ·rw [List.mem_singleton.1 h3];exact (Avl h1).symm
 ·rcases List.mem_append.1 hd with h3 | h3
  ·exact H.sgn d h3
  ·rw [List.mem_singleton.1 h3];exact (Azl h1).symm
 ·rcases List.mem_append.1 hd with h3 | h3
  ·exact H.odd d h3
  ·rw [List.mem_singleton.1 h3];exact ⟨λh=>(nomatch h),λ⟨b,hb,he,_⟩=>absurd he<|h1 b hb⟩
theorem CRp.put {sg:AU1->Int} {od:AU1->Prop} {L:List AU1} {l:List AWr} {c c':AWr} {b:AU1} (H:CRp sg od L b.1 l c) (h1:c'.1=c.1) (h2:c'.2.1=c.2.1 + b.2.1) (h3:c'.2.2.1=c.2.2.1 * sg b) (h4:c'.2.2.2.1=true↔c.2.2.2.1=true∨od b):CSp sg od (L ++ [b]) (l ++ [c']):=by
 have he:=H.exp;obtain ⟨a1,a2,a3⟩:=List.pairwise_append.1 H.asc;have hl:∀ d∈l,d.1≠b.1:=λd hd=>by have:=a3 d hd c AT6;omega
 refine ⟨?_,λx=>?_,λd hd=>?_,λd hd=>?_,λd hd=>?_⟩
 ·rw [List.pairwise_append];exact ⟨a1,AT6,λa ha d hd=>by rw [List.mem_singleton.1 hd,h1];exact a3 a ha c AT6⟩
 ·have:=H.mem x;simp only [List.mem_append,List.mem_singleton];grind
 ·rcases List.mem_append.1 hd with h | h
  ·rw [At4,if_neg λh5=>hl d h h5.symm,H.dim d<|by simp [h]];omega
  ·rw [List.mem_singleton.1 h,h1,he,At4,if_pos rfl,h2,H.dim c AT6,he]
 ·rcases List.mem_append.1 hd with h | h
  ·rw [Axe,if_neg λh5=>hl d h h5.symm,H.sgn d<|by simp [h]];omega
  ·rw [List.mem_singleton.1 h,h1,he,Axe,if_pos rfl,h3,H.sgn c AT6,he]
 ·rw [BBu];rcases List.mem_append.1 hd with h | h
  ·rw [H.odd d<|by simp [h]];exact ⟨.inl,λh5=>h5.resolve_right λh6=>hl d h h6.1.symm⟩
  ·rw [List.mem_singleton.1 h,h1,he,h4,H.odd c AT6,he];simp
def z0 (b:AU1):AU1:=(0,b.2)
theorem A8v {n:Nat} {p:Int} (h:Ai9 n A T B):Car n K p A T B:=λi j hi hj=>Eqm.of_eq (h i j hi hj).symm
theorem BE9 {n:Nat} {p:Int} {H G:ATa} (S:Eli n K p H T G) (hp:PrI p) (hK:1<=K): ¬ p ∣ det n T:=λh=>by
 have h1:p ∣ det n T * det n T:=Int.dvd_trans h ⟨det n T,rfl⟩
 have h2:p ∣ 1:=Ap3 (S.d.down ⟨p ^ (K - 1),by rw [<- Int.pow_succ',show K - 1 + 1=K by omega]⟩).symm (Int.dvd_refl p) h1
 have:=hp.1
 have:=Int.le_of_dvd AGp h2
 omega
end Go.Proofs.YtkakafabeobahaaGreatDoor
namespace Go.Proofs.YtkakafabeobahaaGreatDoor
open Go Go.QF
set_option maxRecDepth 100000
abbrev sD (b:AU1):Int:=s8<|dB b
abbrev oD (b:AU1):Prop:=b.2.1=1
def tc (c:AWr):Int:=c.2.2.2.2 + if c.1 % 2=1/\c.2.2.1= -1 then 4 else 0
def tC:List AWr->Int
 | []=>0
 | c :: l=>tc c + tC l
theorem Ara (c:AWr):∀ l:List AWr,tC (l ++ [c])=tC l + tc c
 | []=>by show _ + 0=0 + _;omega
 | d :: l=>by show _ + tC (l ++ [c])=_ + tC l + _;rw [Ara c l];omega
theorem A8w (b:AU1):∀ L:List AU1,tL (L ++ [b])=tL L + tB b
 | []=>by show _ + 0=0 + _;omega
 | c :: L=>by show _ + tL (L ++ [b])=_ + tL L + _;rw [A8w b L];omega
theorem CSp.le {sg:AU1->Int} {od:AU1->Prop} {L:List AU1} {l:List AWr} {c:AWr} (H:CSp sg od L (l ++ [c])):∀ b∈L,b.1<=c.1:=λb hb=>by
 obtain ⟨d,hd,he⟩:=(H.mem b.1).2 ⟨b,hb,rfl⟩
 rcases List.mem_append.1 hd with h | h
 ·have:=(List.pairwise_append.1 H.asc).2.2 d h c AT6;omega
 ·rw [List.mem_singleton.1 h] at he;omega
structure CRk (L:List AU1) (i:Nat) (e:Int) (D:List AWr):Prop where
 last:∃ l c,D=l ++ [c]/\CRp sD oD (L.take i) e l c
 len:D.length<=i + 1
 ok:∀ c∈D,(0<=c.2.1/\c.2.1<=2 * (i:Int))/\(0<=c.1/\c.1<=60)/\(c.2.2.1=1∨c.2.2.1= -1)/\0<=c.2.2.2.2/\c.2.2.2.2 < 8
 s:cS D=s2L (L.take i)
 t:tC D % 8=(tL (L.take i):Int) % 8
structure BBv (L:List AU1) (i:Nat) (C:List AWr):Prop where
 last:i=0/\C=[]∨ ∃ l c b,C=l ++ [c]/\0 < i/\L[i - 1]? =some b/\c.1=b.1
 len:C.length<=i
 ok:∀ c∈C,(0<=c.2.1/\c.2.1<=2 * (i:Int))/\(0<=c.1/\c.1<=60)/\(c.2.2.1=1∨c.2.2.1= -1)/\0<=c.2.2.2.2/\c.2.2.2.2 < 8
 sp:CSp sD oD (L.take i) C
 s:cS C=s2L (L.take i)
 t:tC C % 8=(tL (L.take i):Int) % 8
theorem BFa {c c':AWr} {b:AU1} (hs:c.2.2.1=1∨c.2.2.1= -1) (he:c.1=b.1) (h1:c'.1=c.1) (h3:c'.2.2.1=c.2.2.1 * sD b) (h4:c'.2.2.2.2 % 8=(c.2.2.2.2 + if b.2.1=1 then b.2.2.1 % 8 else 0) % 8):tc c' % 8=(tc c + (tB b:Int)) % 8:=by
 have e:((tB b:Nat):Int)=(if b.2.1=1 then b.2.2.1 % 8 else 0) + if b.1 % 2=1/\sD b= -1 then 4 else 0:=by
  unfold tB;rw [Int.natCast_add]
  congr 1
  ·split
   ·omega
   ·rfl
  ·show ((if b.1 % 2=1/\sD b= -1 then 4 else 0:Nat):Int)=_;split <;> rfl
 rw [e];unfold tc;rw [h1,he,h3];generalize (if b.2.1=1 then b.2.2.1 % 8 else 0)=w at h4
 by_cases ho:b.1 % 2=1
 ·rcases hs with h | h <;> rcases BCp (dB b) with h5 | h5 <;> (have h5:sD b=_:=h5) <;> rw [h,h5] <;> simp [ho] <;> omega
 ·simp [ho];omega
theorem BFb {n E:Nat} {T:List (List Int)} {L:List AU1} (B:DL K L n E) (hK:K<=30) (A6:1<=n) (hn:n<=8) (hf:100 < fuel):Ok (AVz fuel 2 T L) λr=>r.2=true/\BBv L L.length r.1:=by
 have hl:=Aw4 B.sz;have hsum:=B.sum
 have A7:1<=L.length:=by
  rcases Nat.lt_or_ge 0 L.length with h | h
  ·exact h
  ·have:L=[]:=List.length_eq_zero_iff.1 AGp
   rw [this] at hsum
   have:Acp []=0:=rfl
   omega
 unfold AVz;rw [if_neg AGr,if_neg AGp];simp only [Option.bind_some];refine AG4 (Q:=λex=> ∃ C,ex= .inr C/\BBv L L.length C) (AUj (λi s=> ∃ C,s=(C,(Acp (L.take i):Int),(i:Int))/\i<=L.length/\BBv L i C) L.length ⟨[],rfl,Nat.zero_le _,⟨.inl ⟨rfl,rfl⟩,Nat.le_refl _,λc hc=>(nomatch hc),CSp.nil,rfl,rfl⟩⟩ AGp λi s hi hI=>?_) λex hex=>?_
 ·obtain ⟨C,rfl,hin,H⟩:=hI;unfold Ac1;dsimp only;refine AT1 (λh=>?_) λh=>AGy ⟨C,rfl,by rwa [show L.length=i by omega]⟩;have hi:i < L.length:=by omega
  obtain ⟨b,hbi⟩:∃ b,L[i]? =some b:=⟨L[i],List.getElem?_eq_getElem hi⟩;have htk:L.take (i + 1)=L.take i ++ [b]:=by rw [List.take_add_one,hbi];rfl
  have hbm:b∈L:=List.mem_of_getElem? hbi;have hsz:=B.sz b hbm;obtain ⟨⟨Aw,Ao⟩,hpw⟩:=(B.rg i hi).1 b hbi;have hasc:=(B.rg i hi).2;rw [if_pos rfl] at Ao
  have hbs:Acp (L.take i) + b.2.1.toNat<=8:=by
   have:=Avi L<|i + 1
   rw [htk,Aqb] at this
   omega
  have A8:i<=8:=by omega
  rw [AZy hbi];obtain ⟨e,s,x,y,z⟩:=b;dsimp only at hsz Aw Ao hpw hbs ⊢;obtain ⟨e,rfl⟩:∃ e':Nat,e=e':=⟨e.toNat,AGp⟩;have hprev:∀ c,0 < i->L[i - 1]? =some c->c.1<=(e:Int):=λc h0 hc=>hasc h0 _ _ hbi hc;have Ak:∀ w:Int,Eqm 8 (w64 w) w:=λw=>(Akn (K:=3) AGr w)
  have chk:Ok ((if (e:Int) < 0 then (some<|Sum.inl <| ([],false)) else (if 60 < (e:Int) then (some<|Sum.inl <| ([],false)) else ((AXx fuel e s x y z).bind λw=>(if (!w)=true then (some<|Sum.inl <| ([],false)) else (if (0:Int) < (i:Int) then ((gI L<|w64<|(i:Int) - 1).bind λc=>(if (e:Int) < c.1 then (some<|Sum.inl <| ([],false)) else (some<|Sum.inr <| ()))) else (some<|Sum.inr <| ())))))):Option ((((List AWr) × Bool)) ⊕ (Unit))) λr=>r= .inr ():=by
   rw [if_neg AGp,if_neg AGp]
   refine AG4 BGi λw hw=>?_
   have hwt:w=true:=hw.2 (by
    by_cases h1:s=1
    ·rw [if_pos h1] at hpw ⊢
     exact ⟨Aq9.1 hpw.2.1,hpw.2.2⟩
    ·rw [if_neg h1] at hpw ⊢
     exact ⟨hsz.resolve_left h1,hpw.2⟩)
   rw [hwt]
   refine AT1 (λh=>absurd h AGr) λ_=>AT1 (λh0=>?_) λ_=>AGy rfl
   obtain ⟨c,hc⟩:∃ c,L[i - 1]? =some c:=⟨L[i - 1],List.getElem?_eq_getElem _⟩
   have:=hprev c AGp hc
   rw [show w64 ((i:Int) - 1)=((i - 1:Nat):Int) by rw [wk AGp];omega,AZy hc,if_neg AGp]
   exact AGy rfl
  rw [ok_eq chk];simp only [Option.bind_some];rw [AWm (x:=(Acp (L.take i):Int) + s) AGp AGp,if_neg AGp]
  have hnew (hlt:∀ b∈L.take i,b.1 < (e:Int)):CRk L i e (C ++ [((e:Int),0,1,false,0)]):=by
   refine ⟨⟨C,_,rfl,CSp.new H.sp hlt⟩,by simp;exact H.len,λc hc=>?_,by rw [At0,H.s];simp,by rw [Ara,Int.add_emod,H.t];simp [tc]⟩
   rcases List.mem_append.1 hc with h | h
   ·exact H.ok c h
   ·rw [List.mem_singleton.1 h];dsimp only;exact ⟨AGp,AGp,.inl rfl,AGp,AGp⟩
  have hCl:=H.len
  have key:Ok (if (i:Int)=0 then (if C.length<=100000000 then (some<| (C ++ [((e:Int),0,1,false,0)])) else none) else ((gI L<|w64<|(i:Int) - 1).bind λc=>(if c.1 < (e:Int) then (if C.length<=100000000 then (some<| (C ++ [((e:Int),0,1,false,0)])) else none) else (some<| C))):Option (List AWr)) (CRk L i e):=by
   refine AT1 (λh0=>AVb AGp<|AGy<|hnew λb hb=>?_) λh0=>?_
   ·rw [show i=0 by omega] at hb;exact nomatch hb
   obtain ⟨c,hc⟩:∃ c,L[i - 1]? =some c:=⟨L[i - 1],List.getElem?_eq_getElem _⟩
   have h2:=hprev c AGp hc
   rw [show w64 ((i:Int) - 1)=((i - 1:Nat):Int) by rw [wk AGp];omega,AZy hc]
   obtain ⟨l,d,b',h3,_,h4,h5⟩:=H.last.resolve_left λh=>by omega
   rw [hc] at h4
   cases h4
   have hsp:=H.sp
   rw [h3] at hsp
   refine AT1 (λh1=>AVb AGp<|AGy<|hnew λb hb=>?_) λh1=>AGy ⟨⟨l,d,h3,?_⟩,AGp,H.ok,H.s,H.t⟩
   ·have:=hsp.le b hb;omega
   ·rw [show (e:Int)=d.1 by omega];exact hsp.old
  refine AG4 key λD hD=>?_;obtain ⟨⟨l,c,rfl,hcp⟩,h2,h3,h6,h7⟩:=hD;have Ar:=hcp.exp;have hc:=h3 c AT6;have hll:l.length<=i:=by simp at h2;omega
  have ew:w64 (((l ++ [c]).length:Int) - 1)=(l.length:Int):=by rw [List.length_append,List.length_singleton,wk AGp];omega
  rw [ew];have g1:∀ c:AWr,(l ++ [c])[l.length]? =some c:=λc=>by simp
  have g2:∀ c d:AWr,sI (l ++ [c]) (l.length:Int) d=l ++ [d]:=λc d=>by rw [AU2];simp
  rw [AZy<|g1 c];let O:AWr->Prop:=λc'=>c'.2.2.2.2=(c.2.2.2.2 + if s=1 then x % 8 else 0) % 8
  refine AG4 (Q:=λr=> ∃ c':AWr,r=l ++ [c']/\c'.1=c.1/\c'.2.1=c.2.1 + s/\c'.2.2.1=c.2.2.1 * s8 (dB ((e:Int),s,x,y,z))/\(c'.2.2.2.1=true↔c.2.2.2.1=true∨s=1)/\O c') ?_ λr hr=>?_
  ·refine AG4 (Q:=λr:Int × List AWr=> ∃ c':AWr,r.2=l ++ [c']/\r.1 % 8=dB ((e:Int),s,x,y,z) % 8/\c'.1=c.1/\c'.2.1=c.2.1/\c'.2.2.1=c.2.2.1/\(c'.2.2.2.1=true↔c.2.2.2.1=true∨s=1)/\O c') (AT1 (λh1=>?_) λh1=>AGy ⟨c,rfl,?_,rfl,rfl,rfl,?_,?_⟩) λr hr=>?_
   ·rw [AZy<|g1 c,g2,AZy<|g1 _,g2,BEz,BEz];exact AGy ⟨_,rfl,by unfold dB;rw [if_neg<|show ¬ s=2 by omega],rfl,rfl,rfl,by dsimp only;simp [h1],by show _ % 8=(_ + if s=1 then _ else _) % 8;rw [if_pos h1];exact Ak _⟩
   ·dsimp only;unfold dB;rw [if_pos<|show s=2 by omega];exact (Ak _).trans ((Ak _).sub (Ak _))
   ·simp [h1]
   ·show _=(_ + if s=1 then _ else _) % 8;rw [if_neg h1];omega
   ·obtain ⟨d,e'⟩:=r;obtain ⟨c',q1,q2,q3,q4,q5,q6⟩:=hr;dsimp only at q1 q2 ⊢;subst q1;rw [BEz,q2];refine AG4 (Q:=λr=> ∃ c'':AWr,r=l ++ [c'']/\c''.1=c.1/\c''.2.1=c.2.1/\c''.2.2.1=c.2.2.1 * s8 (dB ((e:Int),s,x,y,z))/\(c''.2.2.2.1=true↔c.2.2.2.1=true∨s=1)/\O c'') ?_ λr hr=>?_
    ·have hneg:w64 (0 - c'.2.2.1)=c'.2.2.1 * -1:=by
      rw [q5];rcases hc.2.2.1 with h | h <;> rw [h] <;> decide
     refine AT1 (λh8=>?_) λh8=>AT1 (λh9=>?_) λh9=>?_
     ·rw [AZy<|g1 c',g2,hneg];exact AGy ⟨_,rfl,q3,q4,by dsimp only;unfold s8;rw [if_pos<|.inl h8,q5],q6⟩
     ·rw [AZy<|g1 c',g2,hneg];exact AGy ⟨_,rfl,q3,q4,by dsimp only;unfold s8;rw [if_pos<|.inr h9,q5],q6⟩
     ·exact AGy ⟨c',rfl,q3,q4,by unfold s8;rw [if_neg AGp,q5,Int.mul_one],q6⟩
    ·obtain ⟨c'',rfl,r1,r2,r3,r4⟩:=hr;rw [AZy<|g1 c'',g2,r2,AWm (x:=c.2.1 + s) AGp AGp];exact AGy ⟨_,rfl,r1,rfl,r3,r4⟩
  ·obtain ⟨c',rfl,q1,q2,q3,q4,q5⟩:=hr;refine AGy ⟨hi,_,?_,hi,⟨.inr ⟨l,c',_,rfl,Nat.succ_pos i,by rw [Nat.add_sub_cancel];exact hbi,by rw [q1,Ar]⟩,by simp;omega,λd hd=>?_,?_,?_,?_⟩⟩
   ·rw [htk,Aqb,AW3 AGp];dsimp only;congr 2;omega
   ·rcases List.mem_append.1 hd with h | h
    ·have:=h3 d (by simp [h]);exact ⟨AGp,this.2⟩
    ·rw [List.mem_singleton.1 h,q1,q2,q3];have q5:c'.2.2.2.2=_ % 8:=q5;exact ⟨AGp,hc.2.1,(A02 hc.2.2.1<|BCp _).1,AGp,AGp⟩
   ·rw [htk];exact hcp.put (b:=((e:Int),s,x,y,z)) q1 q2 q3 q4
   ·rw [htk,BBi,At0,q3,<- h6,At0];grind
   ·rw [htk,A8w,Ara,Int.natCast_add];rw [Ara] at h7;have q5:c'.2.2.2.2=_ % 8:=q5;have:=BFa (b:=((e:Int),s,x,y,z)) hc.2.2.1 Ar q1 q3 (by rw [q5,Int.emod_emod_of_dvd _<|Int.dvd_refl 8]);omega
 ·obtain ⟨C,rfl,hC⟩:=hex;exact AGy ⟨rfl,hC⟩
end Go.Proofs.YtkakafabeobahaaGreatDoor
namespace Go.Proofs.YtkakafabeobahaaGreatDoor
open Go Go.QF
def qF (n:Nat) (A:ATa) (x:Nat->Int):Int:=psum (λi=>x i * psum (λj=>A i j * x j) n) n
def PdF (n:Nat) (A:ATa):Prop:= ∀ x:Nat->Int,(∃ k,k < n/\x k≠0)->0 < qF n A x
theorem A8x {b c:Int} (h:a < b) (e:b=c):a < c:=e ▸ h
theorem sq_pos (h:x≠0):0 < x * x:=by
 rcases Int.lt_or_gt_of_ne h with h | h
 ·have:=Int.mul_pos (show 0 < -x by omega) (show 0 < -x by omega);grind
 ·exact Int.mul_pos h h
theorem BCu {n:Nat} (hs:Ac6 n A) (hp:Afl n A):PdF n A:=λx ⟨k,hk,hx⟩=>by
 have h1:=A2d hs hp x hk
 have h2:bil n 0 A x x=qF n A x:=by
  unfold bil qF;refine ATf λi _=>?_;rw [<- AVv];exact ATf λj _=>by rw [Ae3];grind
 have h3:=Ah1 hs hp x n 0 AGp;have h4:=sq_pos hx;rw [h2] at h1 h3
 rcases Int.lt_or_eq_of_le h3 with h | h
 ·exact h
 ·rw [<- h,Int.mul_zero] at h1;omega
theorem A8y (k:Nat) (B:ATa):Agi (k + 1) B k k=det k B:=by
 show det (k + 1) (AU5 B k<|dl k)=_;rw [Alf (k:=k) (m:=1) λi j h1 h2 h3=>by rw [show i=k by omega,AT7,if_pos rfl];unfold dl;rw [if_neg AGp],AUb (G:=B) λi j hi hj=>by rw [AT7,if_neg AGp]]
 have:det 1 (shF k<|AU5 B k<|dl k)=1:=by
  rw [show (1:Nat)=0 + 1 from rfl,<- Abw,Ae3]
  show AU5 B k (dl k) k k=1
  rw [AT7,if_pos rfl];exact if_pos rfl
 rw [this,Int.mul_one]
theorem At5 {n m:Nat} (h:m<=n) (hz:∀ i,m<=i->i < n->f i=0):psum f n=psum f m:=Ayc h hz
theorem A08 {m:Nat} (h:PdF m B):Afl m B:=λk=>by
 induction k with
 | zero=>intro _;simp [det]
 | succ k ih=>
   intro hk;have h1:=ih AGp
   let y:Nat->Int:=λi=>if i < k + 1 then Agi (k + 1) B i k else 0
   have hy:y k=det k B:=by show (if k < k + 1 then _ else _)=_;rw [if_pos AGp,A8y]
   have h2:=h y ⟨k,AGp,by rw [hy];omega⟩
   have h3:∀ i,i < k + 1->psum (λj=>B i j * y j) m=det (k + 1) B * dl i k:=λi hi=>by
    rw [At5 hk λj h4 _=>by show _ * (if j < k + 1 then _ else _)=0;rw [if_neg AGp,Int.mul_zero],<- Aof hi AGp];exact ATf λj hj=>by show _ * (if j < k + 1 then _ else _)=_;rw [if_pos hj]
   have h4:qF m B y=det k B * det (k + 1) B:=by
    unfold qF;rw [At5 hk λj h4 _=>by show (if j < k + 1 then _ else _) * _=0;rw [if_neg AGp,Int.zero_mul]];rw [ATf (g:=λi=>det (k + 1) B * y i * dl i k) λi hi=>by rw [h3 i hi];grind,Agn (λi=>det (k + 1) B * y i) AGp,hy];grind
   rw [h4] at h2;exact Int.pos_of_mul_pos_right (a:=det k B) h2 h1
theorem A09 {n:Nat} (h:PdF n A) {s:Nat->Nat} (hs:∀ a,a < k->s a < n) (hi:∀ a b,a < k->b < k->s a=s b->a=b):PdF k λa b=>A (s a) (s b):=λy ⟨a0,ha0,hy⟩=>by
 let x:Nat->Int:=λi=>psum (λa=>y a * dl i (s a)) k
 have sel:∀ g:Nat->Int,psum (λi=>x i * g i) n=psum (λa=>y a * g (s a)) k:=λg=>by
  show psum (λi=>psum (λa=>y a * dl i (s a)) k * g i) n=_;rw [ATf (g:=λi=>psum (λa=>y a * g i * dl i (s a)) k) λi _=>by rw [Ags];exact ATf λa _=>by grind,Agy];exact ATf λa ha=>Agn (λi=>y a * g i)<|hs a ha
 have hx:x (s a0)=y a0:=by
  show psum (λa=>y a * dl (s a0) (s a)) k=_;rw [Adx ha0 λa ha hne=>by unfold dl;rw [if_neg λe=>hne<|hi a a0 ha ha0 e.symm];exact Int.mul_zero _];unfold dl;rw [if_pos rfl,Int.mul_one]
 have h1:=h x ⟨s a0,hs a0 ha0,by rw [hx];exact hy⟩;unfold qF at h1 ⊢;rw [sel] at h1;refine A8x h1<|ATf λa ha=>?_;congr 1;rw [ATf (g:=λj=>x j * A (s a) j) λj _=>Int.mul_comm _ _,sel];exact ATf λb _=>Int.mul_comm _ _
theorem A8z {n:Nat} (H:Ai9 n A T B) (hT:∀ x:Nat->Int,(∃ k,k < n/\x k≠0)-> ∃ k,k < n/\psum (λl=>T k l * x l) n≠0) (hA:PdF n A):PdF n B:=λx hx=>by
 have h0:0 < n:=by obtain ⟨k,hk,_⟩:=hx;omega
 have h1:Ai9 n A (AUy n T λi _=>x i) λ_ _=>qF n B x:=Ajd H λi j hi hj=>by rw [AZk];rfl
 exact A8x (hA _<|hT x hx) (h1 0 0 h0 h0).symm
def aE (i j:Nat) (c:Int):ATa:=λk s=>dl k s + if s=i then c * dl k j else 0
def cgA (i j:Nat) (c:Int) (B:ATa):ATa:=λr s=>B r s + (if r=i then c * B j s else 0) + if s=i then c * (B r j + if r=i then c * B j j else 0) else 0
theorem Arb {n:Nat} {c:Int} (hj:j < n) (hs:s < n) (X:Nat->Int):psum (λk=>X k * aE i j c k s) n=X s + if s=i then c * X j else 0:=by
 unfold aE;rw [ATf (g:=λk=>X k * dl k s + (if s=i then c else 0) * (X k * dl k j)) λk _=>by grind,Acl,Agn X hs,AVv,Agn X hj];grind
theorem A80 {n:Nat} {c:Int} (hj:j < n) (hr:r < n) (hs:s < n):AUy n (AUy n (trF<|aE i j c) B) (aE i j c) r s=cgA i j c B r s:=by
 have h2:∀ k,AUy n (trF<|aE i j c) B r k=B r k + if r=i then c * B j k else 0:=λk=>by
  show psum (λl=>aE i j c l r * B l k) n=_
  rw [ATf (g:=λl=>B l k * aE i j c l r) λl _=>Int.mul_comm _ _]
  exact Arb hj hr λl=>B l k
 show psum (λk=>AUy n (trF<|aE i j c) B r k * aE i j c k s) n=_;rw [Arb hj hs λk=>AUy n (trF<|aE i j c) B r k,h2,h2];rfl
theorem A81 {n:Nat} {c:Int} (hi:i < n) (hj:j < n) (hc:i=j->1 + c≠0) (x:Nat->Int):(∃ k,k < n/\x k≠0)-> ∃ k,k < n/\psum (λl=>aE i j c k l * x l) n≠0:=λ⟨k,hk,hx⟩=>by
 have h1:∀ k,k < n->psum (λl=>aE i j c k l * x l) n=x k + if k=j then c * x i else 0:=λk hk=>by
  unfold aE
  rw [ATf (g:=λl=>x l * dl l k + c * dl k j * (x l * dl l i)) λl _=>by unfold dl;grind,Acl,Agn x hk,AVv,Agn x hi]
  unfold dl;grind
 by_cases h0:x i=0
 ·exact ⟨k,hk,by rw [h1 k hk,h0];simpa using hx⟩
 ·refine ⟨i,hi,?_⟩
  rw [h1 i hi]
  by_cases e:i=j
  ·rw [if_pos e]
   have:=Int.mul_ne_zero (hc e) h0
   intro h;apply this;grind
  ·rw [if_neg e];simpa using h0
theorem BFc {n:Nat} {c d:Int} (hj:j < n) (hs:s < n) (h:c + d + (if i=j then c * d else 0)=0):AUy n (aE i j c) (aE i j d) r s=dl r s:=by
 show psum (λk=>aE i j c r k * aE i j d k s) n=_;rw [Arb hj hs λk=>aE i j c r k];unfold aE;by_cases e:i=j
 ·subst e;rw [if_pos rfl] at h;unfold dl;grind
 ·rw [if_neg e] at h;unfold dl;grind
def sx (i j s:Nat):Nat:=if s=i then j else if s=j then i else s
def sxE (i j:Nat):ATa:=λk s=>dl k<|sx i j s
theorem A29 {n:Nat} (hi:i < n) (hj:j < n) (hs:s < n):sx i j s < n:=by unfold sx;grind
theorem A82 (i j s:Nat):sx i j (sx i j s)=s:=by unfold sx;grind
theorem Aqd {n:Nat} (hi:i < n) (hj:j < n) (hs:s < n) (X:Nat->Int):psum (λk=>X k * sxE i j k s) n=X (sx i j s):=Agn X<|A29 hi hj hs
theorem BBw {n:Nat} (hi:i < n) (hj:j < n) (hr:r < n) (hs:s < n):AUy n (AUy n (trF<|sxE i j) B) (sxE i j) r s=B (sx i j r) (sx i j s):=by
 show psum (λk=>AUy n (trF<|sxE i j) B r k * sxE i j k s) n=_;rw [Aqd hi hj hs λk=>AUy n (trF<|sxE i j) B r k];show psum (λl=>sxE i j l r * B l (sx i j s)) n=_;rw [ATf (g:=λl=>B l (sx i j s) * sxE i j l r) λl _=>Int.mul_comm _ _];exact Aqd hi hj hr λl=>B l<|sx i j s
theorem BBx {n:Nat} (hi:i < n) (hj:j < n) (hs:s < n):AUy n (sxE i j) (sxE i j) r s=dl r s:=by
 show psum (λk=>sxE i j r k * sxE i j k s) n=_;rw [Aqd hi hj hs λk=>sxE i j r k];unfold sxE;rw [A82]
theorem Anw {n:Nat} {E F:ATa} (h:∀ r s,r < n->s < n->AUy n E F r s=dl r s):det n E * det n E=1:=by
 have h1:det n E * det n F=1:=by rw [<- Afw,AUb h,Ank]
 have h2:=Int.le_of_dvd AGr (⟨_,h1.symm⟩:det n E ∣ 1);have h3:=Int.le_of_dvd AGr (⟨-det n F,by rw [Int.neg_mul_neg,h1]⟩: -det n E ∣ 1);rcases (show det n E=1∨det n E= -1∨det n E=0 by omega) with h | h | h
 ·rw [h];rfl
 ·rw [h];rfl
 ·rw [h,Int.zero_mul] at h1;exact absurd h1 AGr
def PmB (n:Nat) (D:Int) (A:ATa):Prop:= ∀ (k:Nat) (s:Nat->Nat),k<=n->(∀ a,a < k->s a < n)->det k (λa b=>A (s a)<|s b)<=D
theorem Azn {a:Nat} {c:Int} (p q:Nat->Int) (r:ATa) (ha:a < k):det k (λx y=>if x=a then p y + c * q y else r x y)=det k (λx y=>if x=a then p y else r x y) + c * det k (λx y=>if x=a then q y else r x y):=by
 have e:∀ g:Nat->Int,det k (λx y=>if x=a then g y else r x y)=det k (AU5 r a g):=λg=>AUb λx y _ _=>by rw [AT7]
 rw [e p,e q,e λy=>p y + c * q y,show (λy=>p y + c * q y)=λy=>1 * p y + c * q y by funext y;omega,Akk p q 1 c ha,Int.one_mul]
theorem A83 {a:Nat} {c:Int} (p q:Nat->Int) (r:ATa) (ha:a < k):det k (λx y=>if y=a then p x + c * q x else r x y)=det k (λx y=>if y=a then p x else r x y) + c * det k (λx y=>if y=a then q x else r x y):=by
 rw [<- Acy,<- Acy (λx y=>if y=a then p x else r x y),<- Acy (λx y=>if y=a then q x else r x y)];exact Azn p q (trF r) ha
def upS (s:Nat->Nat) (a u:Nat):Nat->Nat:=λx=>if x=a then u else s x
theorem Avm {a:Nat} {c:Int} {s:Nat->Nat} (ha:a < k) (hsa:s a=i) (hi:∀ x,x < k->x≠a->s x≠i):det k (λx y=>cgA i j c B (s x)<|s y)=det k (λx y=>B (s x)<|s y) + c * det k (λx y=>B (s x)<|upS s a j y) + c * (det k (λx y=>B (upS s a j x)<|s y) + c * det k λx y=>B (upS s a j x)<|upS s a j y):=by
 have h1:∀ t:Nat->Nat,det k (λx y=>B (t x) (s y) + if y=a then c * B (t x) j else 0)=det k (λx y=>B (t x)<|s y) + c * det k λx y=>B (t x) (upS s a j y):=λt=>by
  have:=A83 (c:=c) (λx=>B (t x) i) (λx=>B (t x) j) (λx y=>B (t x)<|s y) ha
  rw [AUb (G:=λx y=>if y=a then B (t x) i + c * B (t x) j else B (t x)<|s y) λx y _ _=>by split <;> grind,this]
  congr 1
  ·exact AUb λx y _ _=>by split <;> grind
  ·congr 1
   exact AUb λx y _ _=>by unfold upS;grind
 have h2:=Azn (c:=c) (λy=>B i (s y) + if y=a then c * B i j else 0) (λy=>B j (s y) + if y=a then c * B j j else 0) (λx y=>B (s x) (s y) + if y=a then c * B (s x) j else 0) ha;rw [AUb (G:=λx y=>if x=a then (B i (s y) + if y=a then c * B i j else 0) + c * (B j (s y) + if y=a then c * B j j else 0) else B (s x) (s y) + if y=a then c * B (s x) j else 0) λx y hx hy=>?_,h2,<- h1 s,<- h1 (upS s a j)]
 ·congr 1
  ·exact AUb λx y _ _=>by grind
  ·congr 1;exact AUb λx y _ _=>by unfold upS;grind
 ·have e1:=hi x hx;have e2:=hi y hy;unfold cgA;grind
theorem A4t {n:Nat} (h:PdF n A) {s:Nat->Nat} (hs:∀ a,a < k->s a < n):0<=det k λa b=>A (s a) (s b):=by
 by_cases hi:∀ a b,a < k->b < k->s a=s b->a=b
 ·exact Int.le_of_lt<|A08 (A09 h hs hi) k<|Nat.le_refl k
 ·have:∃ a b,a < k/\b < k/\s a=s b/\a≠b:=by
   false_or_by_contra;rename_i hc;exact hi λa b h1 h2 h3=>by false_or_by_contra;rename_i h4;exact hc ⟨a,b,h1,h2,h3,h4⟩
  obtain ⟨a,b,h1,h2,h3,h4⟩:=this;rw [Akl h1 h2 h4 λi=>by rw [h3]];exact Int.le_refl 0
theorem BFd {n:Nat} {D c:Int} (hi:i < n) (hj:j < n) (hD:0<=D) (hc: -2<=c/\c<=2) (hp:PdF n (cgA i j (-c) B)) (H:PmB n D B):PmB n (10 * D) (cgA i j c B):=λk s hk hs=>by
 by_cases hin:∀ a b,a < k->b < k->s a=s b->a=b
 ·by_cases hx:∃ a,a < k/\s a=i
  ·obtain ⟨a,ha,hsa⟩:=hx;have h0:∀ x,x < k->x≠a->s x≠i:=λx hx hne e=>hne<|hin x a hx ha (by rw [e,hsa]);have h1:=Avm (j:=j) (c:=c) (B:=B) ha hsa h0;have h2:=Avm (j:=j) (c:= -c) (B:=B) ha hsa h0;have h3:=A4t hp hs;have h4:=H k s hk hs;have h5:=H k (upS s a j) hk λx hx=>(by unfold upS;split <;> first | exact hj | exact hs x hx)
   have h6:c * c<=4:=by
    have:0<=(2 - c) * (2 + c):=Int.mul_nonneg AGp AGp;grind
   have h7:=Int.mul_le_mul_of_nonneg_left h5<|sq_nonneg c;have h8:=Int.mul_le_mul_of_nonneg_right h6 hD;rw [h2] at h3;rw [h1];grind
  ·rw [AUb (G:=λa b=>B (s a)<|s b) λa b ha hb=>by
    have e1:s a≠i:=λe=>hx ⟨a,ha,e⟩;have e2:s b≠i:=λe=>hx ⟨b,hb,e⟩;unfold cgA;rw [if_neg e1,if_neg e2];omega]
   have:=H k s hk hs;omega
 ·have:∃ a b,a < k/\b < k/\s a=s b/\a≠b:=by
   false_or_by_contra;rename_i hc;exact hin λa b h1 h2 h3=>by false_or_by_contra;rename_i h4;exact hc ⟨a,b,h1,h2,h3,h4⟩
  obtain ⟨a,b,h1,h2,h3,h4⟩:=this;rw [Akl h1 h2 h4 λi=>by rw [h3]];omega
theorem BGm {n:Nat} {D:Int} (hi:i < n) (hj:j < n) (H:PmB n D B):PmB n D λr s=>B (sx i j r) (sx i j s):=λk s hk hs=>H k (λa=>sx i j<|s a) hk λa ha=>A29 hi hj<|hs a ha
theorem A84 {n:Nat} (hs:Ac6 n A) (hp:Afl n A) (hn:n<=6) (hb:∀ i,i < n->A i i<=9):PmB n 531441 A:=λk s hk hk2=>by
 by_cases hin:∀ a b,a < k->b < k->s a=s b->a=b
 ·have h1:=Ayu (n:=k) (A:=λa b=>A (s a)<|s b) (λa b ha hb=>hs _ _ (hk2 a ha)<|hk2 b hb) (A08<|A09 (BCu hs hp) hk2 hin) (B:=9) AGr (λa ha=>hb _<|hk2 a ha) k<|Nat.le_refl k
  have h3:(9:Int) ^ k<=9 ^ 6:=by
   have:=Nat.pow_le_pow_right (show 0 < 9 by omega) (show k<=6 by omega);grind
  exact Int.le_trans h1 h3
 ·have:∃ a b,a < k/\b < k/\s a=s b/\a≠b:=by
   false_or_by_contra;rename_i hc;exact hin λa b h1 h2 h3=>by false_or_by_contra;rename_i h4;exact hc ⟨a,b,h1,h2,h3,h4⟩
  obtain ⟨a,b,h1,h2,h3,h4⟩:=this;rw [Akl h1 h2 h4 λi=>by rw [h3]];decide
end Go.Proofs.YtkakafabeobahaaGreatDoor
namespace Go.Proofs.YtkakafabeobahaaGreatDoor
open Go Go.QF
set_option maxRecDepth 100000
theorem BFe {n:Nat} (hn:n<=8) (hf:100 < fuel):Ok (iter (λs=>AYa fuel (n:Int) s.1 s.2) fuel (0,(List.replicate (Int.toNat (n:Int)) ([]:List Int)))) (· =tab n n dl):=by
 refine AUj (λi s=>s=(((i:Nat):Int),part n i dl)/\i<=n) n ⟨by rw [Int.toNat_natCast,Afy n dl];rfl,Nat.zero_le _⟩ AGp λi s hi hI=>?_;obtain ⟨rfl,hin⟩:=hI;unfold AYa;dsimp only;rw [List.length_replicate,Int.toNat_natCast];refine AT1 (λh=>AVb AGp ?_) λh=>AGy (by rw [show i=n by omega,Afx]);have hi':i < n:=by omega
 refine ATz (Aja hi') rfl ?_;rw [AU2,AYv n (0:Int),Ahh];refine ATz (Ady AGp hi') rfl ?_;rw [AVa];refine ATz (AT4 hi') rfl (AGy ⟨AGp,?_,AGp⟩);rw [AW3 AGp,AU2,AU2,AWf,Afn AGp];refine congrArg (λz=>(((i + 1:Nat):Int),z))<|AUp λr hr=>?_;split
 ·refine AUp λc hc=>?_;rw [AT7,AT7];unfold dl;grind
 ·rfl
def nr (i j:Nat) (c:Int) (f:Nat->Int):Nat->Int:=λs=>if i=j then (if c < 0 then (if s=i then -f i else f s) else f s) else if c=0 then f (sx i j s) else if s=i then f i + c * f j else f s
theorem BFf {n:Nat} {e:Int} (hn:n<=8) (hi:i < n) (hj:j < n) (hU:∀ r s,r < n->s < n->(U r s).natAbs<=1000000) (hf:100 < fuel):
 iter (λs=>AX9 fuel (tab n n U) (i:Int) (j:Int) e s.1 s.2) fuel (0,tab n n U)=some (tab n n λr=>nr i j (Int.tmod e 3)<|U r):=by
 apply ok_eq;let V:Nat->ATa:=λr x=>if x < r then nr i j (Int.tmod e 3) (U x) else U x
 refine AUj (λr s=>s=(((r:Nat):Int),tab n n<|V r)/\r<=n) n ⟨rfl,Nat.zero_le _⟩ AGp λr s hr hI=>?_;obtain ⟨rfl,hrn⟩:=hI;unfold AX9;dsimp only;rw [AUe];refine AT1 (λh=>?_) λh=>AGy (Ada λx y hx hy=>by show (if x < r then _ else _:Nat->Int) y=_;rw [if_pos AGp]);have hr':r < n:=by omega
 have hVr:V r r=U r:=if_neg<|Nat.lt_irrefl r;have row:(tab n n<|V r)[r]? =some (AV1 n<|U r):=by rw [<- hVr];exact AUk hr'
 have nx:w64 ((r:Int) + 1)=((r + 1:Nat):Int):=AW3 AGp
 have put:∀ g:Nat->Int,(∀ s,s < n->g s=nr i j (Int.tmod e 3) (U r) s)->(tab n n<|V r).set r (AV1 n g)=tab n n (V<|r + 1):=λg hg=>by
  rw [show AV1 n g=(List.range n).map g from rfl,Adc]
  refine Ada λx y hx hy=>?_
  rw [AT7]
  show _=(if x < r + 1 then _ else _:Nat->Int) y
  split
  ·next h=>subst h;rw [if_pos AGp];exact hg y hy
  ·show (if x < r then _ else _:Nat->Int) y=_;grind
 have bi:=hU r i hr' hi;have bj:=hU r j hr' hj;by_cases hij:i=j
 ·subst hij;rw [if_pos rfl,if_neg<|not_not_intro rfl,if_neg<|not_not_intro rfl];refine AT1 (λhc=>ATz row rfl (ATz (AT4 hi) rfl (AGy ⟨AGp,?_,AGp⟩))) λhc=>AGy ⟨AGp,?_,AGp⟩
  ·rw [nx,AU2,AU2,AWf,put _ λs hs=>?_];unfold nr;rw [if_pos rfl,if_pos hc,wk AGp];split <;> omega
  ·rw [nx,<- put (U r) λs hs=>by unfold nr;rw [if_pos rfl,if_neg hc],show AV1 n (U r)=(List.range n).map (U r) from rfl,Adc];refine congrArg (λz=>(((r + 1:Nat):Int),z))<|Ada λx y hx hy=>?_;rw [AT7];split
   ·next h=>subst h;rw [hVr]
   ·rfl
 ·rw [if_neg (show ¬ (i:Int)=j by omega),if_pos (show ¬ (i:Int)=j by omega),if_pos<|show ¬ (i:Int)=j by omega];refine AT1 (λhc=>?_) λhc=>?_
  ·refine ATz row rfl (ATz (AT4 hj) rfl (ATz (AT4 hi) rfl ?_));rw [AU2,AU2,AWf];refine ATz (x:=AV1 n λc=>if c=i then U r j else U r c) (by rw [List.getElem?_set,if_pos rfl,AUe,if_pos hr']) rfl (ATz (AT4 hj) rfl (AGy ⟨AGp,?_,AGp⟩));rw [nx,AU2,AU2,AWf,List.set_set,put _ λs hs=>?_];unfold nr sx;rw [if_neg hij,if_pos hc];grind
  ·refine ATz row rfl (ATz (AT4 hi) rfl (ATz (AT4 hj) rfl (AGy ⟨AGp,?_,AGp⟩)));have Aa:=Int.tmod_lt_of_pos e (show (0:Int) < 3 by decide);have Ab:=Int.lt_tmod_of_pos e (show (0:Int) < 3 by decide)
   have hm:((Int.tmod e 3) * U r j).natAbs<=2000000:=by
    rw [Int.natAbs_mul]
    exact Nat.mul_le_mul (show (Int.tmod e 3).natAbs<=2 by omega) bj
   rw [nx,AU2,AU2,AWf,put _ λs hs=>?_];unfold nr;rw [if_neg hij,if_neg hc,AWm (x:=Int.tmod e 3 * U r j) AGp AGp,wk AGp]
theorem A85 {n:Nat} (H:Ai9 n A T B) (hs:Ac6 n A):Ac6 n B:=λi j hi hj=>by
 rw [H i j hi hj,H j i hj hi]
 show _=trF (AUy n (trF T)<|AUy n A T) i j
 rw [Aok,<- AZk]
 show _=AUy n (trF<|AUy n A T) T i j
 refine Abq (λk hk=>?_) λ_ _=>rfl
 rw [Aok]
 exact Abq (λ_ _=>rfl) λl hl=>hs l k hl hk
structure UIn (n:Nat) (A U B:ATa) (t:Nat):Prop where
 c:Ai9 n A U B
 d:det n U * det n U=1
 pd:PdF n B
 pm:PmB n (10 ^ t * 531441) B
 bd:∀ r s,r < n->s < n->(U r s).natAbs<=3 ^ t
theorem UIn.grow {n:Nat} {t:Nat} (H:UIn n A U B t):UIn n A U B (t + 1):=
 ⟨H.c,H.d,H.pd,λk s h1 h2=>by have:=H.pm k s h1 h2;have h3:(0:Int) < 10 ^ t:=Int.pow_pos AGr;rw [Int.pow_succ];omega,λr s hr hs=>by have:=H.bd r s hr hs;rw [Nat.pow_succ];omega⟩
theorem UIn.next {n:Nat} {E B':ATa} {t:Nat} (H:UIn n A U B t) (hE:∀ r s,r < n->s < n->AUy n (AUy n (trF E) B) E r s=B' r s) (hd:det n E * det n E=1) (hp:PdF n B') (hm:PmB n (10 ^ (t + 1) * 531441) B') (hb:∀ r s,r < n->s < n->(AUy n U E r s).natAbs<=3 ^ (t + 1)):UIn n A (AUy n U E) B' (t + 1):=
 ⟨Ajd H.c hE,by rw [Afw];have:=H.d;grind,hp,hm,hb⟩
theorem UIn.step {n t:Nat} {c:Int} (H:UIn n A U B t) (hi:i < n) (hj:j < n) (hc: -2<=c/\c<=2):∃ U' B',UIn n A U' B' (t + 1)/\ ∀ r s,r < n->s < n->nr i j c (U r) s=U' r s:=by
 have Ae:(0:Int)<=10 ^ t * 531441:=Int.mul_nonneg (Int.le_of_lt<|Int.pow_pos AGr) AGr
 have add:∀ c' d:Int,-2<=c'/\c'<=2->c' + d + (if i=j then c' * d else 0)=0->(i=j->1 + c'≠0)->(i=j->1 + -c'≠0)->(∀ r,r < n->(U r i + c' * U r j).natAbs<=3 ^ (t + 1))->UIn n A (AUy n U<|aE i j c') (cgA i j c' B) (t + 1):=λc' d h1 h2 h3 h4 h5=>by
  have hcar:∀ c,Ai9 n B (aE i j c) (cgA i j c B):=λc r s hr hs=>by rw [<- A80 hj hr hs,AZk]
  refine H.next (λr s hr hs=>A80 hj hr hs) (Anw λr s hr hs=>BFc hj hs h2) (A8z (hcar c') (A81 hi hj h3) H.pd) (λk s hk hs=>?_) λr s hr hs=>?_
  ·have:=BFd hi hj Ae h1 (A8z (hcar<|-c') (A81 hi hj h4) H.pd) H.pm k s hk hs
   rw [Int.pow_succ];omega
  ·show (psum (λk=>U r k * aE i j c' k s) n).natAbs<=_
   rw [Arb hj hs λk=>U r k]
   have hb:=H.bd r s hr hs
   by_cases e:s=i
   ·rw [if_pos e,e];exact h5 r hr
   ·rw [if_neg e,Nat.pow_succ];omega
 by_cases hij:i=j
 ·subst hij;by_cases h0:c < 0
  ·refine ⟨_,_,add (-2) (-2) AGr (by rw [if_pos rfl];decide) (λ_=>by decide) (λ_=>by decide) λr hr=>?_,λr s hr hs=>?_⟩
   ·have:=H.bd r i hr hi;rw [Nat.pow_succ];omega
   ·show _=psum (λk=>U r k * aE i i (-2) k s) n;rw [Arb hj hs λk=>U r k];unfold nr;rw [if_pos rfl,if_pos h0];grind
  ·exact ⟨U,B,H.grow,λr s hr hs=>by unfold nr;rw [if_pos rfl,if_neg h0]⟩
 ·by_cases h0:c=0
  ·refine ⟨AUy n U<|sxE i j,λr s=>B (sx i j r)<|sx i j s,H.next (λr s hr hs=>BBw hi hj hr hs) (Anw λr s hr hs=>BBx hi hj hs) (A09 H.pd (λa ha=>A29 hi hj ha) λa b _ _ e=>by rw [<- A82 i j a,e,A82]) (λk s hk hs=>?_) λr s hr hs=>?_,λr s hr hs=>?_⟩
   ·have:det k (λa b=>B (sx i j<|s a)<|sx i j<|s b)<=10 ^ t * 531441:=BGm hi hj H.pm k s hk hs;rw [Int.pow_succ];omega
   ·show (psum (λk=>U r k * sxE i j k s) n).natAbs<=_;rw [Aqd hi hj hs λk=>U r k];have:=H.bd r _ hr<|A29 hi hj hs;rw [Nat.pow_succ];omega
   ·show _=psum (λk=>U r k * sxE i j k s) n;rw [Aqd hi hj hs λk=>U r k];unfold nr;rw [if_neg hij,if_pos h0]
  ·refine ⟨_,_,add c (-c) hc (by rw [if_neg hij];omega) (λe=>absurd e hij) (λe=>absurd e hij) λr hr=>?_,λr s hr hs=>?_⟩
   ·have h1:=H.bd r i hr hi;have h2:=H.bd r j hr hj
    have h3:(c * U r j).natAbs<=2 * 3 ^ t:=by
     rw [Int.natAbs_mul]
     exact Nat.mul_le_mul (show c.natAbs<=2 by omega) h2
    rw [Nat.pow_succ];omega
   ·show _=psum (λk=>U r k * aE i j c k s) n;rw [Arb hj hs λk=>U r k];unfold nr;rw [if_neg hij,if_neg h0];grind
theorem A3a {n:Nat} {L:List Int} {q:Nat} (hn:0 < n) (hq:q < 4611686018427387904):Ok ((((if (L.length:Int)<=((q:Nat):Int) then (some ((0:Int),((q:Nat):Int))) else ((gI L<|w64<|(w64<|((q:Nat):Int) + 1) - 1).bind λx=>(some ((w64 x),(w64<|((q:Nat):Int) + 1))))):Option (Int × Int)).bind λ(x,y)=>(if (n:Int)≠0 then (some ((Int.tmod (w64<|IntKind.wrap .u8 x) (n:Int)),y)) else none)):Option (Int × Int)) λe=> ∃ i p:Nat,e=((i:Int),(p:Int))/\i < n/\p<=q + 1:=by
 refine AG4 (Amk hq) λe he=>?_;obtain ⟨x,y⟩:=e;obtain ⟨p,rfl,hp⟩:=he;have h:=Alm x n hn;refine AVb AGp<|AGy ⟨(Int.tmod (w64<|IntKind.wrap .u8 x) (n:Int)).toNat,p,?_,AGp,hp⟩;rw [Int.toNat_of_nonneg h.1]
theorem BGn {n:Nat} {L:List Int} (Ac:1<=n) (hn:n<=6) (hs:Ac6 n A) (hp:Afl n A) (hb:∀ i,i < n->A i i<=9) (hf:100 < fuel):Ok (AXv fuel L (n:Int)) λr=> ∃ U B,r=tab n n U/\UIn n A U B 12:=by
 unfold AXv;refine AVb AGp<|AG4 (BFe AGp hf) λe he=>AG4 (Q:=λr=> ∃ U B,r=tab n n U/\UIn n A U B 12) (AUj (λt s=> ∃ (U B:ATa) (q:Nat),s=(((t:Nat):Int),tab n n U,(q:Int))/\t<=12/\q<=3 * t/\UIn n A U B t) 12 ⟨dl,A,0,by rw [he];rfl,AGp,AGp,⟨Awo,by rw [Ank];rfl,BCu hs hp,λk s hk Aa=>by have:=A84 hs hp hn hb k s hk Aa;simpa using this,λr s _ _=>by unfold dl;split <;> decide⟩⟩ AGp λt s ht hI=>?_) λr hr=>AGy hr;obtain ⟨U,B,q,rfl,Ad,hq,H⟩:=hI
 have fin:UIn n A U B 12:=by
  have:∀ d t,t + d=12->UIn n A U B t->UIn n A U B 12:=λd=>by
   induction d with
   | zero=>intro t h H;rw [<- h];exact H
   | succ d ih=>intro t h H;exact ih (t + 1) AGp H.grow
  exact this (12 - t) t AGp H
 unfold Aae;dsimp only;refine AG4 (Q:=λex=>ex= .inl ()->t < 12) (AT1 (λh=>AT1 (λ_=>AGy λ_=>by omega) λ_=>AGy λh=>(nomatch h)) λ_=>AGy λh=>(nomatch h)) λex hex=>?_
 cases ex with
 | inr u=>exact AGy ⟨U,B,rfl,fin⟩
 | inl u=>
   have ht:=hex rfl
   dsimp only
   refine AG4 (A3a AGp AGp) λe he=>?_
   obtain ⟨i,p,rfl,hi,Ae⟩:=he
   refine AG4 (A3a AGp AGp) λe he=>?_
   obtain ⟨j,p2,rfl,hj,Af⟩:=he
   refine AG4 (Amk AGp) λe he=>?_
   obtain ⟨x,y⟩:=e
   obtain ⟨p3,rfl,Ag⟩:=he
   have h3:3 ^ t<=3 ^ 12:=Nat.pow_le_pow_right AGr AGp
   dsimp only
   refine AG4 (AUm<|BFf AGp hi hj (λr s hr Aa=>Nat.le_trans (H.bd r s hr Aa)<|Nat.le_trans h3 AGr) hf) λe he=>?_
   subst he
   have Ah:=Int.tmod_lt_of_pos x (show (0:Int) < 3 by decide)
   have Ai:=Int.lt_tmod_of_pos x (show (0:Int) < 3 by decide)
   obtain ⟨U',B',H',hU'⟩:=H.step (c:=Int.tmod x 3) hi hj AGp
   refine AGy ⟨AGp,U',B',p3,?_,AGp,AGp,H'⟩
   rw [AW3 AGp,Ada hU']
theorem BBy {L L2:List Int} (h1:0<=a1/\a1 < 256) (hm:1<=most/\most<=8) (hf:100 < fuel):∃ n A,AVq fuel a1 a2 L L2 most=some (tab n n A)/\BCn n A/\(n:Int)<=most/\ ∀ i j,(A i j).natAbs<=9:=by
 obtain ⟨r,e,n,A,rfl,G,hn⟩:=BEh (L:=L) (L2:=L2) (a2:=a2) h1 hm hf;have t2:=Int.emod_lt_of_pos a1 (show 0 < most by omega);have t3:Int.tmod a1 most=a1 % most:=Int.tmod_eq_emod_of_nonneg h1.1;let A0:ATa:=λi j=>if i < n/\j < n then A i j else 0
 have Ab:∀ i j,i < n->j < n->A i j=A0 i j:=λi j hi hj=>(if_pos ⟨hi,hj⟩).symm;refine ⟨n,A0,by rw [e,Ada Ab],⟨G.n1,G.n8,λi j hi hj=>by rw [<- Ab i j hi hj,<- Ab j i hj hi];exact G.sym i j hi hj,λk hk=>by rw [<- AUb λi j hi hj=>Ab i j AGp AGp];exact G.pos k hk,λi j hi hj=>by rw [<- Ab i j hi hj];exact G.bd i j hi hj,by rw [<- AUb Ab];exact G.dt⟩,AGp,λi j=>?_⟩;show (if i < n/\j < n then A i j else 0).natAbs<=9;split
 ·next h=>exact G.bd i j h.1 h.2
 ·decide
theorem BBz {n:Nat} {D:Int} (H:PmB n D B) (hi:i < n):B i i<=D:=by
 have:=H 1 (λ_=>i) AGp λ_ _=>hi;rwa [show (1:Nat)=0 + 1 from rfl,<- Abw,Ae3] at this
structure BGo (n:Nat) (A B T:ATa):Prop where
 a:Aud n A
 b:Aud n B
 c:Ai9 n A T B
 d:det n T * det n T=1
theorem A86 {n:Nat} (H:Ai9 n A T B) (hd:det n T * det n T=1):∃ R,Ai9 n B R A/\det n R * det n R=1:=by
 have h1:∀ i j,i < n->j < n->AUy n T (λr c=>det n T * Agi n T r c) i j=dl i j:=λi j hi hj=>by
  show psum (λk=>T i k * (det n T * Agi n T k j)) n=_
  rw [ATf (g:=λk=>det n T * (T i k * Agi n T k j)) λk _=>by grind,AVv,Aof hi hj,<- Int.mul_assoc,hd,Int.one_mul]
 have h2:∀ i j,i < n->j < n->AUy n (λr c=>det n T * Agi n T r c) T i j=dl i j:=λi j hi hj=>by
  show psum (λk=>det n T * Agi n T i k * T k j) n=_
  rw [ATf (g:=λk=>det n T * (Agi n T i k * T k j)) λk _=>by grind,AVv,Ays hi hj,<- Int.mul_assoc,hd,Int.one_mul]
 refine ⟨λr c=>det n T * Agi n T r c,λi j hi hj=>?_,Anw h2⟩;have h3:=Ajd H (U:=λr c=>det n T * Agi n T r c) (B:=λi j=>AUy n (trF λr c=>det n T * Agi n T r c) (AUy n B λr c=>det n T * Agi n T r c) i j) λi j hi hj=>AZk i j;refine Eq.trans ?_ (h3 i j hi hj).symm;show _=psum (λk=>AUy n T (λr c=>det n T * Agi n T r c) k i * psum (λl=>A k l * AUy n T (λr c=>det n T * Agi n T r c) l j) n) n;rw [ATf (g:=λk=>A k j * dl k i) λk hk=>by rw [h1 k i hk hi,ATf (g:=λl=>A k l * dl l j) λl hl=>by rw [h1 l j hl hj],Agn (A k) hj];exact Int.mul_comm _ _];exact (Agn (λk=>A k j) hi).symm
theorem BFg {L L2:List Int} (h1:0<=a1/\a1 < 256) (hm:1<=most/\most<=6) (hf:AXu < fuel):∃ n A B T,AW2 fuel a1 a2 L L2 most=some (tab n n A)/\AWn fuel a1 a2 L L2 most=some (tab n n B)/\1<=n/\(n:Int)<=most/\BGo n A B T:=by
 have Ag:100 < fuel:=Nat.lt_of_le_of_lt AGr hf;obtain ⟨n,G,e,R,hn,hb⟩:=BBy (L:=L) (L2:=L2) (a2:=a2) h1 (show 1<=most/\most<=8 by omega) Ag;have n1:=R.n1;have n6:n<=6:=by omega
 have hdm:dmN n=2 ^ 59:=if_pos n6;have hof:=Awq (F:=G) n1 AGp (λi j hi hj=>Nat.le_trans (R.bd i j hi hj) AGr) (show 17 < fuel by omega);have hh:=Ayu R.sym R.pos (B:=9) AGr (λi hi=>by have:=R.bd i i hi hi;omega)
 obtain ⟨r,er,A,T1,rfl,RA,cA,dA,-⟩:=Avc n1 R.n8 R.sym R.pos (λi j=>Nat.le_trans (hb i j) AGr) (λk hk=>Int.le_trans (hh k hk) (by
  have h3:(9:Int) ^ k<=9 ^ 8:=by
   have:=Nat.pow_le_pow_right (show 0 < 9 by omega) (show k<=8 by omega)
   grind
  exact Int.le_trans h3 (Aq4 n).1)) (λk hk=>by have:=hb k k;have:=Aq4 n;omega) R.dt hf
 obtain ⟨u,eu,U,B0,rfl,HU⟩:=BGn (L:=L2) n1 n6 R.sym R.pos (λi hi=>by have:=R.bd i i hi hi;omega) Ag;have sB:=A85 HU.c R.sym;have pB:=A08 HU.pd;have hpm:(10:Int) ^ 12 * 531441<=2 ^ 59:=by decide
 have bB:∀ i,i < n->B0 i i<=2 ^ 59:=λi hi=>Int.le_trans (BBz HU.pm hi) hpm;have aB:∀ i j,i < n->j < n->(B0 i j).natAbs<=2 ^ 59:=λi j hi hj=>Nat.le_trans (Awp sB pB bB hi hj) AGr;let B1:ATa:=λi j=>if i < n/\j < n then B0 i j else 0
 have Aa:∀ i j,i < n->j < n->B1 i j=B0 i j:=λi j hi hj=>if_pos ⟨hi,hj⟩
 have raw:AXd fuel a1 a2 L L2 most=some (tab n n B1):=by
  apply ok_eq
  unfold AXd
  rw [e]
  simp only [Option.bind_some]
  rw [hof,AUe]
  simp only [Option.bind_some]
  rw [eu]
  simp only [Option.bind_some]
  have h3:(3:Nat) ^ 12<=2 ^ 100:=by decide
  rw [Awq n1 AGp (λi j hi hj=>Nat.le_trans (HU.bd i j hi hj) AGr) AGp]
  simp only [Option.bind_some]
  rw [A2k (D:=2 ^ 100) n1 AGp AGr (λi j hi hj=>Nat.le_trans (hb i j) AGr) (λi j hi hj=>Nat.le_trans (HU.bd i j hi hj) h3) (λi j hi hj=>?_) Ag]
  ·refine AGy<|Ada λi j hi hj=>?_
   rw [Aa i j hi hj,HU.c i j hi hj,AZk]
  ·have h5:(psum (λl=>U l i * G l j) n).natAbs<=n * (3 ^ 12 * 9):=by
    refine QF.psum_abs λl hl=>?_
    rw [Int.natAbs_mul]
    exact Nat.mul_le_mul (HU.bd l i hl hi)<|hb l j
   have h6:(AUy n (trF U) G i j).natAbs<=n * (3 ^ 12 * 9):=h5
   have h7:n * (3 ^ 12 * 9)<=6 * (3 ^ 12 * 9):=Nat.mul_le_mul_right _ n6
   have h8:6 * (3 ^ 12 * 9)<=2 ^ 100:=by decide
   omega
 have dB:det n B1=det n G:=by rw [AUb Aa,Ap5 HU.c,HU.d,Int.one_mul]
 obtain ⟨r,eo,B,T2,rfl,RB,cB,Am,-⟩:=Avc (A0:=B1) n1 R.n8 (λi j hi hj=>by rw [Aa i j hi hj,Aa j i hj hi];exact sB i j hi hj) (λk hk=>by rw [AUb λi j hi hj=>Aa i j AGp AGp];exact pB k hk) (λi j=>by
  show (if i < n/\j < n then B0 i j else 0).natAbs<=2 ^ 60
  split
  ·next h=>exact Nat.le_trans (aB i j h.1 h.2) AGr
  ·exact Nat.zero_le _) (λk hk=>by rw [hdm,AUb λi j hi hj=>Aa i j AGp AGp];exact Int.le_trans (HU.pm k id hk λa ha=>by show a < n;omega) hpm) (λk hk=>by rw [hdm,Aa k k hk hk];have:=bB k hk;omega) (by rw [dB];exact R.dt) hf
 have posd:∀ {C T:ATa} {X:ATa},Ai9 n X T C->det n C=det n X->0 < det n X->det n T * det n T=1:=λ{C T X} h e0 hx=>by
  have h3:=Ap5 h
  rw [e0] at h3
  have h4:(det n T * det n T - 1) * det n X=0:=by rw [Int.sub_mul,<- h3];omega
  rcases Int.mul_eq_zero.1 h4 with h5 | h5 <;> omega
 have d1:=posd cA dA<|R.pos n<|Nat.le_refl n;have d2:=posd cB Am (by rw [dB];exact R.pos n<|Nat.le_refl n);obtain ⟨S,cS,dS⟩:=A86 cA d1;have comp:∀ {X T C V D:ATa},Ai9 n X T C->Ai9 n C V D->Ai9 n X (AUy n T V) D:=λh h'=>Ajd h λi j hi hj=>by rw [AZk];exact (h' i j hi hj).symm
 have cU:Ai9 n G U B1:=λi j hi hj=>by rw [Aa i j hi hj];exact HU.c i j hi hj
 refine ⟨n,A,B,AUy n (AUy n S U) T2,?_,?_,n1,hn,⟨RA,RB,comp (comp cS cU) cB,?_⟩⟩
 ·unfold AW2;rw [e];simp only [Option.bind_some];rw [hof];simp only [Option.bind_some];rw [er];rfl
 ·unfold AWn;rw [raw];simp only [Option.bind_some];rw [eo];rfl
 ·rw [Afw,Afw];have:=HU.d;grind
end Go.Proofs.YtkakafabeobahaaGreatDoor
namespace Go.Proofs.YtkakafabeobahaaGreatDoor
open Go Go.QF
set_option maxRecDepth 100000
set_option maxHeartbeats 4000000
def Ac2 (fuel:Nat) (a3:List AWr) (Ac Ad Ab:Int):Option ((Int × Int × Int) ⊕ (Int × Int)):=
 if Ab < (a3.length:Int) then (gI a3 Ab).bind λAa=>if Int.tmod Aa.1 2=1 then if Aa.2.2.1=(-1) then some (.inl (w64<|w64 (Ac + Aa.2.2.2.2) + 4,w64<|Ad * Aa.2.2.1,w64<|Ab + 1)) else some (.inl (w64<|Ac + Aa.2.2.2.2,w64<|Ad * Aa.2.2.1,w64<|Ab + 1)) else some (.inl (w64<|Ac + Aa.2.2.2.2,w64<|Ad * Aa.2.2.1,w64<|Ab + 1)) else some<|.inr (Ac,Ad)
def AW0 (fuel:Nat) (a3:List AWr):Option (Int × Int):=
 (iter (λs=>Ac2 fuel a3 s.1 s.2.1 s.2.2) fuel (0,1,0)).bind (λ((Ab,Ac):Int × Int)=>some (Int.tmod Ab 8,Ac))
theorem Agj {h:AG0} {Ah:Value} {a3:(List AWr)} {r:(Int × Int)} (H2:SlC Agf h Ah a3) (hp:AW0 fuel a3=some r):AT3 Tryz.prog 28 #[Ah] h (λx h'=>Ext h h'/\x= .tuple #[.int .i64 r.1,.int .i64 r.2]):=by
 unfold AW0 at hp;refine cwf (l:=[_]) Tryz.func28 rfl rfl (AGt<|ATu<|AT5<|ATu<|AG1<|AGv<|AGt<|AGq<|AUv Ajo rfl H2 (AGq<|AGx<|AGw ?_));have K0:=Kst.k0 h;refine AZm 17179868336 hp (λx=>[(4,(.int .i64 x.1)),(5,(.int .i64 x.2.1)),(10,(.int .i64 x.2.2))]) (λx=>K0.L) K0 ⟨rfl,rfl,rfl,trivial⟩ ?_;rintro ⟨Ay,Az,A3⟩ A4 h8 y7 Ad Ae Aq;unfold Ac2 at Ae;refine AGt<|ATy rfl rfl (AGx<|AGv<|⟨_,rfl,λAf=>?_,λAf=>?_⟩)
 ·refine AG5<|q_t<|AGv<|AGw<|AGt ?_;obtain ⟨Ab,Ar,Am⟩:=AGu<|AT9 Ae Af;refine Ab4 (c:=Agf) Ajo rfl H2 rfl Ar λA7 A8 A9 Au Av=>?_;obtain rfl:=Au;refine Agg (c:=Agf) Aqn rfl rfl (λj u hu=>(ATv (Av j u hu) Ad.x)) (AV7 Ad [(.int .i64 0),(.int .i64 0),(.int .i64 0),(.bool false),(.int .i64 0)] Asx λBa Bb Bc Ao=>AVe [(.int .i64 Ab.1),(.int .i64 Ab.2.1),(.int .i64 Ab.2.2.1),(.bool Ab.2.2.2.1),(.int .i64 Ab.2.2.2.2)] Aqn rfl rfl rfl rfl (by simp [isOne]) (Ao.b p0) λBe Aw Ax=>AZr ?_);have Aa:=Ao.sb p0 Ax Aw rfl;refine AGq<|AU9 Avx AT8 (Aa.b p0) 4 rfl (ATn rfl rfl (AT5<|AGq<|AU9 An4 AT8 (Aa.b p0) 2 rfl (AZ4 rfl rfl (AT5<|AU9 A1o AT8 (Aa.b p0) 0 rfl (Aex rfl rfl AGr (AV3 rfl rfl (AGq ?_)))))));by_cases Ac:(Int.tmod Ab.1 2)=1
  ·have Ap:=ifT Am Ac;rw [decide_eq_true Ac];refine ATx 26 true<|AVg An4 rfl (ATx 26 true<|AT2 AT8 rfl ((Aa.b p0).cell (i:=2) rfl) (ATx 26 true<|AV3 rfl rfl (ATp rfl (AGx<|⟨_,rfl,λAg=>?_,λAg=>?_⟩))))
   ·refine ATd<|AGq<|ATn rfl rfl (ATu<|ATr<|q_b<|q_t<|ATd<|ATn rfl rfl (AGq<|AGx ?_));exact ⟨_,(AGs<|AT9 Ap Ag).symm,Aa.sel [] AGr,rfl,rfl,rfl,trivial⟩
   ·refine AG5<|q_b<|q_t<|ATd<|ATn rfl rfl (AGq<|AGx ?_);exact ⟨_,(AGs<|AUa Ap Ag).symm,Aa.sel [] AGr,rfl,rfl,rfl,trivial⟩
  ·rw [decide_eq_false Ac];refine AYn 26 false<|ATs rfl (AGx<|ATw rfl (AG5<|q_b<|q_t<|ATd<|ATn rfl rfl (AGq<|AGx ?_)));exact ⟨_,(AGs<|ifF Am Ac).symm,Aa.sel [] AGr,rfl,rfl,rfl,trivial⟩
 ·refine ATj<|ATk<|ATk<|AUh<|q_t<|AGt<|AGq<|Aex rfl rfl AGr (AGq<|ATu<|AG1<|AG6 ?_);obtain rfl:=AGs<|Aq _ (AGs<|AUa Ae Af).symm;exact ⟨_,AU0,Ad.x,rfl⟩
noncomputable def AYc (fuel:Nat) (a1 a2:Int) (a5 a9:LiA):Option Bool:=
 (AW2 fuel a1 a2 a5 a9 6).bind λAh=>(AYf fuel Ah).bind λ(Aa,Av)=>(AWn fuel a1 a2 a5 a9 6).bind λAi=>(AYf fuel Ai).bind λ(Ab,Aw)=>(AVz fuel Aa.1 Aa.2.1 Aa.2.2).bind λ(Ag,Aj)=>(AVz fuel Ab.1 Ab.2.1 Ab.2.2).bind λ(Ak,Am)=>(AW0 fuel Ag).bind λ(Ao,Ap)=>(AW0 fuel Ak).bind λ(Aq,Ar)=>if Aj=true then if Am=true then if 0 < (Ag.length:Int) then if Ao=Aq then if Ap=Ar then (AY9 fuel).bind λAu=>some Au else some false else some false else some false else some false else some false
theorem Aho {h:AG0} {Ad:Value} {a5:LiA} {Ae:Value} {a9:LiA} {r:Bool} (H4:SlC (cI .i8) h Ad a5) (H8:SlC (cI .i8) h Ae a9) (HO:Aoo h) (hp:AYc fuel a1 a2 a5 a9=some r):AT3 Tryz.prog 8 #[(.agg #[(.int .u8 a1),(.int .u8 a2),Ad,Ae])] h (λx h'=>Ext h h'/\x= .bool r):=by
 unfold AYc at hp;refine cwf (l:=[_]) Tryz.func8 rfl rfl (AGt<|AY5 (Kst.k0 h) [(.int .u8 a1),(.int .u8 a2),Ad,Ae] λDa Db Dc Af=>AT5<|Abh [(.int .u8 a1),(.int .u8 a2),Ad,Ae] Atd rfl rfl (Af.b p0).agg ?_);obtain ⟨Dd,Bp,Bq⟩:=AGu hp;refine Ahw Af (Ahz (H4.ext Af.x) (H8.ext Af.x) Bp) λDe Df Dg Dh Di Dj Au=>?_;obtain ⟨⟨Ag,Dk⟩,Br,A8⟩:=AGu Bq;dsimp only at A8;refine Aes rfl (Ahs (Au.o2 p0).rd (HO.ext Au.x) Br) λDl Do Bt Bu=>?_;obtain ⟨Av,Aw,Bv,Bw,Bx,By,rfl,Bz,B3,B4⟩:=Bu;have A9:=Au.n Bt [aO2 (cI .i64) 61 2 Bv Bw Bx Av Ag.2.1,aO Ala 60 By Aw Ag.2.2] B4 ⟨Bz,B3,trivial⟩;simp only [List.cons_append,List.nil_append] at A9;refine AGq<|AUf rfl rfl (AUf rfl rfl (AV7 A9 [(.int .i64 0),(.slice none 0 0),(.slice none 0 0)] Asw λDp Dq Dr Ah=>AVe [(.int .i64 Ag.1),Av,Aw] Af6 rfl rfl rfl rfl (AY4 rfl (AY4 (Ah.o2 p1).isOne<|AY4 (Ah.o p2).isOne Akj)) (Ah.b p0) λDs B5 B6=>AT5 ?_));have Ai:=Ah.sb p0 B6 B5 rfl;refine Abh [(.int .u8 a1),(.int .u8 a2),Ad,Ae] Atd rfl rfl (Ai.b p4).agg ?_;obtain ⟨Dt,B7,B8⟩:=AGu A8;refine Ahw Ai (Ahn (H4.ext Ai.x) (H8.ext Ai.x) B7) λDu Dv Dw Dx Dy Dz Ax=>?_;obtain ⟨⟨Aj,D0⟩,B9,Ba⟩:=AGu B8;dsimp only at Ba;refine Aes rfl (Ahs (Ax.o2 p0).rd (HO.ext Ax.x) B9) λD2 D3 Ca Cb=>?_;obtain ⟨Ay,Az,Cd,Ce,Cf,Cg,rfl,Ch,Ci,Cj⟩:=Cb;have Bb:=Ax.n Ca [aO2 (cI .i64) 61 2 Cd Ce Cf Ay Aj.2.1,aO Ala 60 Cg Az Aj.2.2] Cj ⟨Ch,Ci,trivial⟩;simp only [List.cons_append,List.nil_append] at Bb;refine AGq<|AUf rfl rfl (AUf rfl rfl (AV7 Bb [(.int .i64 0),(.slice none 0 0),(.slice none 0 0)] Asw λD4 D5 D6 Ak=>AVe [(.int .i64 Aj.1),Ay,Az] Af6 rfl rfl rfl rfl (AY4 rfl (AY4 (Ak.o2 p1).isOne<|AY4 (Ak.o p2).isOne Akj)) (Ak.b p0) λD7 Ck Cm=>AT5 ?_));have Am:=Ak.sb p0 Cm Ck rfl;refine Abh [(.int .i64 Ag.1),Av,Aw] Af6 rfl rfl (Am.b p4).agg ?_;obtain ⟨⟨Cn,Co⟩,Cp,Bc⟩:=AGu Ba;dsimp only at Bc;refine Aes rfl (AZp (Am.o2 p5).rd (Am.o p6).rd Cp) λD8 D9 Cq Cr=>?_;obtain ⟨Ea,Eb,rfl,Ct,Cu⟩:=Cr;refine AGq<|AUf rfl rfl (AUf rfl rfl (ATu<|AT5 ?_));have Ao:=Am.no Cq Cu Ct;refine Abh [(.int .i64 Aj.1),Ay,Az] Af6 rfl rfl (Ao.b p1).agg ?_;obtain ⟨⟨Ec,Cv⟩,Cw,Be⟩:=AGu Bc;dsimp only at Be;refine Aes rfl (AZp (Ao.o2 p2).rd (Ao.o p3).rd Cw) λEd Ee Cx Cy=>?_;obtain ⟨Ef,Eg,rfl,Cz,C0⟩:=Cy;refine AGq<|AUf rfl rfl (AUf rfl rfl (ATu<|AT5<|AGq ?_));have Bf:=Ao.no Cx C0 Cz;obtain ⟨⟨C1,C2⟩,C3,Bg⟩:=AGu Be;dsimp only at Bg;refine AYe Bf (Agj (Bf.o p1).rd C3) λEh Ei Bh=>AGq<|AUf rfl rfl (AUf rfl rfl (ATu<|AT5<|AGq ?_));obtain ⟨⟨C4,C5⟩,C6,A3⟩:=AGu Bg;dsimp only at A3;refine AYe Bh (Agj (Bh.o p0).rd C6) λEj Ek Aa=>AGq<|AUf rfl rfl (AUf rfl rfl (ATu<|AT5<|AGq<|AGq ?_));cases Bi:Co
 ·refine Apk 48 false<|ATs rfl (AGq<|AYn 51 false<|ATs rfl (AGq<|AYn 56 false<|ATs rfl (AGq<|AYn 61 false<|ATs rfl (AGq<|Apk 66 false<|ATs rfl (AG1<|AG6 ?_)))));obtain rfl:=AGs<|Abk A3 Bi;exact ⟨_,AS9,Aa.x,rfl⟩
 ·refine ATx 48 true<|AGq<|ATp rfl (AGq ?_);have Bj:=ifT A3 Bi;cases Bl:Cv
  ·refine AYn 51 false<|ATs rfl (AGq<|AYn 56 false<|ATs rfl (AGq<|AYn 61 false<|ATs rfl (AGq<|Apk 66 false<|ATs rfl (AG1<|AG6 ?_))));obtain rfl:=AGs<|Abk Bj Bl;exact ⟨_,AS9,Aa.x,rfl⟩
  ·refine ATx 51 true<|AGq<|ATx 51 true<|AUv Ajo rfl (Aa.o p1).rd (ATx 51 true<|AZb rfl rfl (ATp rfl (AGq ?_)));have Bm:=ifT Bj Bl;by_cases Ap:0 < (Cn.length:Int)
   ·have Bn:=ifT Bm Ap;rw [decide_eq_true Ap];refine ATx 56 true<|AGq<|ATx 56 true<|AGq<|ATx 56 true<|AV3 rfl rfl (ATp rfl (AGq ?_));by_cases Aq:C1=C4
    ·have Bo:=ifT Bn Aq;rw [decide_eq_true Aq];refine ATx 61 true<|AGq<|ATx 61 true<|AGq<|ATx 61 true<|AV3 rfl rfl (ATp rfl (AGq ?_));by_cases Ar:C2=C5
     ·rw [decide_eq_true Ar];refine ATx 66 true ?_;obtain ⟨El,C7,C8⟩:=AGu<|ifT Bo Ar;refine AYe Aa (Ak4 (HO.ext Aa.x) C7) λEm En C9=>ATp rfl (AG1<|AG6 ?_);obtain rfl:=AGs C8;exact ⟨_,AS9,C9.x,rfl⟩
     ·rw [decide_eq_false Ar];refine Apk 66 false<|ATs rfl (AG1<|AG6 ?_);obtain rfl:=AGs<|ifF Bo Ar;exact ⟨_,AS9,Aa.x,rfl⟩
    ·rw [decide_eq_false Aq];refine AYn 61 false<|ATs rfl (AGq<|Apk 66 false<|ATs rfl (AG1<|AG6 ?_));obtain rfl:=AGs<|ifF Bn Aq;exact ⟨_,AS9,Aa.x,rfl⟩
   ·rw [decide_eq_false Ap];refine AYn 56 false<|ATs rfl (AGq<|AYn 61 false<|ATs rfl (AGq<|Apk 66 false<|ATs rfl (AG1<|AG6 ?_)));obtain rfl:=AGs<|ifF Bm Ap;exact ⟨_,AS9,Aa.x,rfl⟩
end Go.Proofs.YtkakafabeobahaaGreatDoor
namespace Go.Proofs.YtkakafabeobahaaGreatDoor
open Go Go.QF
set_option maxRecDepth 100000
theorem BB0 {C:List AWr} (hC:∀ c∈C,(0<=c.1/\c.1<=60)/\(c.2.2.1=1∨c.2.2.1= -1)/\0<=c.2.2.2.2/\c.2.2.2.2 < 8) (hl:C.length<=8) (hf:100 < fuel):AW0 fuel C=some (tC C % 8,cS C):=by
 apply ok_eq;unfold AW0;refine AG4 (Q:=λe=>e=(tC C,cS C)/\0<=tC C) (AUj (λi s=>s=(tC<|C.take i,cS<|C.take i,(i:Int))/\i<=C.length/\(0<=tC (C.take i)/\tC (C.take i)<=16 * i)/\(cS (C.take i)=1∨cS (C.take i)= -1)) C.length ⟨rfl,Nat.zero_le _,by simp [tC],by simp [cS]⟩ AGp λi s hi hI=>?_) λe he=>?_
 ·obtain ⟨rfl,hin,hN,hS⟩:=hI;unfold Ac2;dsimp only;refine AT1 (λh=>?_) λh=>?_
  ·have hi:i < C.length:=by omega
   have hg:=List.getElem?_eq_getElem hi;obtain ⟨c,hc⟩:∃ c,c=C[i]:=⟨_,rfl⟩;rw [<- hc] at hg;obtain ⟨h1,h2,h3⟩:=hC c<|hc ▸ List.getElem_mem hi;have ht:C.take (i + 1)=C.take i ++ [c]:=by rw [List.take_add_one,hg];rfl
   have fin:∀ x:Int,x=tc c->0<=x/\x<=16->i < C.length/\(w64<|tC (C.take i) + x,w64<|cS (C.take i) * c.2.2.1,w64<|(i:Int) + 1)=(tC<|C.take<|i + 1,cS<|C.take<|i + 1,((i + 1:Nat):Int))/\i + 1<=C.length/\(0<=tC (C.take<|i + 1)/\tC (C.take<|i + 1)<=16 * ((i + 1:Nat):Int))/\(cS (C.take<|i + 1)=1∨cS (C.take<|i + 1)= -1):=λx hx hb=>by
    rw [AWm (x:=tC (C.take i) + x) AGp AGp,(A02 hS h2).2,AW3 AGp]
    refine ⟨hi,?_,hi,?_,?_⟩
    ·rw [ht,Ara,At0,hx]
    ·rw [ht,Ara,<- hx];omega
    ·rw [ht,At0];exact (A02 hS h2).1
   rw [AZy hg,Int.tmod_eq_emod_of_nonneg h1.1];refine AT1 (λho=>AT1 (λhs=>?_) λhs=>?_) λho=>?_
   ·have:=fin (c.2.2.2.2 + 4) (by unfold tc;rw [if_pos ⟨ho,hs⟩]) AGp;rw [AWm (x:=tC (C.take i) + c.2.2.2.2) AGp AGp,Int.add_assoc];exact AGy this
   ·exact AGy<|fin _ (by unfold tc;rw [if_neg λh=>hs h.2,Int.add_zero]) AGp
   ·exact AGy<|fin _ (by unfold tc;rw [if_neg λh=>ho h.1,Int.add_zero]) AGp
  ·obtain rfl:i=C.length:=by omega
   rw [List.take_length] at hN ⊢;exact AGy ⟨rfl,hN.1⟩
 ·obtain ⟨rfl,h0⟩:=he;dsimp only;rw [Int.tmod_eq_emod_of_nonneg h0];exact AGy rfl
theorem A87 (m:Nat):Eqm gq (gz ^ m) (gz ^ (m % 8)):=by
 have h:∀ k,Eqm gq (gz ^ (8 * k)) 1:=λk=>by
  induction k with
  | zero=>exact Eqm.refl _ _
  | succ k ih=>rw [Nat.mul_succ,Int.pow_add];exact ih.mul (show Eqm gq (gz ^ 8) 1 by unfold Eqm;decide)
 have e:gz ^ m=gz ^ (8 * (m / 8)) * gz ^ (m % 8):=by rw [<- Int.pow_add,Nat.div_add_mod]
 rw [e];exact ((h _).mul (Eqm.refl _ _)).trans (Eqm.of_eq<|Int.one_mul _)
theorem BFh {a b:Nat} (h:Eqm gq (gz ^ a) (gz ^ b)):a % 8=b % 8:=by
 have h1:=((A87 a).symm.trans h).trans (A87 b);have h2:∀ x,x < 8-> ∀ y,y < 8->gz ^ x % gq=gz ^ y % gq->x=y:=by decide
 exact h2 _ (Nat.mod_lt _ AGr) _ (Nat.mod_lt _ AGr) h1
theorem A4u {X m:Nat} {s:Int} (hs:s * s=1) (h:Eqm gq (gr ^ X * s ^ m * x) (gr ^ X * s ^ m * y)):Eqm gq x y:=by
 have h1:∀ k,Eqm gq ((2040 * gr) ^ k) 1:=λk=>by
  induction k with
  | zero=>exact Eqm.refl _ _
  | succ k ih=>rw [Int.pow_succ];exact ih.mul (show Eqm gq (2040 * gr) 1 by unfold Eqm;decide)
 have h2:s ^ m * s ^ m=1:=by rw [<- Int.mul_pow,hs,Int.one_pow]
 have h3:=(Eqm.refl gq<|2040 ^ X * s ^ m).mul h
 have e:∀ z,2040 ^ X * s ^ m * (gr ^ X * s ^ m * z)=(2040 * gr) ^ X * z:=λz=>by
  rw [Int.mul_pow,show 2040 ^ X * s ^ m * (gr ^ X * s ^ m * z)=2040 ^ X * gr ^ X * (s ^ m * s ^ m) * z by grind,h2,Int.mul_one]
 rw [e,e] at h3;have e1:∀ z,Eqm gq ((2040 * gr) ^ X * z) z:=λz=>((h1 X).mul (Eqm.refl _ z)).trans (Eqm.of_eq<|Int.one_mul z);exact ((e1 x).symm.trans h3).trans (e1 y)
structure Azo (M:List (List Int)) (K:Nat) (T G:ATa) (L:List AU1) (C:List AWr):Prop where
 e:Eli M.length K 2 (ent M) T G
 w:∀ i j,i < M.length->j < M.length->G i j=bm L i j
 sz:Apc L
 bp:∀ b∈L,BP K b
 asc:∀ i,i < L.length->Asc L i
 sum:Acp L=M.length
 len:L.length<=8
 c:BBv L L.length C
theorem A88 (R:Ars M) (hf:2147483648 < fuel) {v:Nat} {r:Int} (hd:det M.length (ent M)=r * 2 ^ v) (hr: ¬ (2:Int) ∣ r):∃ T G L C,AYf fuel M=some ((2,tab M.length M.length T,L),0)/\AVz fuel 2 (tab M.length M.length T) L=some (C,true)/\Azo M (v + 3) T G L C:=by
 have Ab:100 < fuel:=by omega
 obtain ⟨K,E,T,G,L,e1,e2,e3,e4,hv,S,B⟩:=BEy R hf;have hKv:=Aws AGp hv ⟨v,r,rfl,hd,hr⟩;obtain rfl:K=v + 3:=by omega
 obtain ⟨⟨C,ok⟩,ec,hok,H⟩:=BFb (T:=tab M.length M.length T) B e4 R.1.1 R.1.2 Ab;dsimp only at hok;subst hok;have hl:=Aw4 B.sz;have hsum:=B.sum;have:=R.1.2;refine ⟨T,G,L,C,e1,ec,S.e,S.w,B.sz,λb hb=>?_,λi hi=>(B.rg i hi).2,B.sum,AGp,H⟩;obtain ⟨i,hi⟩:=List.getElem?_of_mem hb;obtain ⟨⟨p1,p2⟩,p3⟩:=(B.rg i (List.getElem?_eq_some_iff.1 hi).1).1 b hi;rw [if_pos rfl] at p2;refine ⟨⟨p1,AGp⟩,?_⟩;by_cases h1:b.2.1=1
 ·rw [if_pos h1] at p3;exact .inl ⟨h1,Aq9.1 p3.2.1⟩
 ·rw [if_neg h1] at p3;exact .inr ⟨(B.sz b hb).resolve_left h1,p3.2⟩
theorem A1a {M:Nat}:∀ {L:List AU1},(∀ b∈L,BP M b)->s2L L=sg8 (uL L)
 | [],_=>rfl
 | b :: l,h=>by
   have ih:=A1a (L:=l) λx hx=>h x (by simp [hx])
   show sg8 (dB b) * s2L l=sg8 (dB b * uL l)
   rw [ih,A27 (h b AT6).odd<|Axc λx hx=>h x<|by simp [hx]]
theorem A89 (h:x % 8=y % 8):sg8 x=sg8 y:=by unfold sg8;rw [h]
theorem Azo.totals {M':List (List Int)} {v:Nat} {r:Int} {G T' G':ATa} {L L':List AU1} {C C':List AWr} (D:Azo M (v + 3) T G L C) (D':Azo M' (v + 3) T' G' L' C') (hv:v<=13) (hr:r % 2=1) (hd:det M.length (ent M)=r * 2 ^ v) (hn:M'.length=M.length) (hU:Ai9 M.length (ent M) U (ent M')) (hu:det M.length U * det M.length U=1):tC C % 8=tC C' % 8/\cS C=cS C':=by
 have hP:PrI 2:=Aw1 ⟨AGp,λd h1 h2=>by omega⟩
 have one:∀ {M:List (List Int)} {T G:ATa} {L:List AU1} {C:List AWr},Azo M (v + 3) T G L C->det M.length (ent M)=r * 2 ^ v->vL L=v/\uL L % 8=r % 8/\Eqm gq (GSv (v + 3) M.length<|ent M) (gr ^ (M.length * (v + 3 + 1) + vL L) * sg8 (uL L) ^ (v + 3 + 1) * gz ^ tL L):=λ{M T G L C} D hd=>by
  have h1:det M.length G=2 ^ vL L * uL L:=by
   rw [<- A8j L.length rfl D.sz λb hb=>(D.bp b hb).1.1,D.sum]
   exact AUb λi j hi hj=>D.w i j hi hj
  obtain ⟨w1,w2⟩:=BBf (K:=v + 3) (v:=v) (V:=vL L) (U:=uL L) rfl hd hr (Axc D.bp) (h1 ▸ D.e.det)
  refine ⟨w1,w2,?_⟩
  have h2:=BCt (M:=v + 3) AGp D.bp
  rw [D.sum] at h2
  rwa [A25 AGp (Aq9.1<|BE9 D.e hP AGp) λi j hi hj=>(D.e.c i j hi hj).trans (Eqm.of_eq<|D.w i j hi hj)] at h2
 have hd':det M'.length (ent M')=r * 2 ^ v:=by rw [hn,Ap5 hU,hu,Int.one_mul,hd]
 obtain ⟨a1,a2,a3⟩:=one D hd;obtain ⟨b1,b2,b3⟩:=one D' hd'
 have hodd:det M.length U % 2=1:=by
  have:det M.length U * det M.length U % 2=1:=by rw [hu];rfl
  rw [Int.mul_emod] at this
  rcases (show det M.length U % 2=0∨det M.length U % 2=1 by omega) with h | h
  ·rw [h] at this;exact absurd this AGr
  ·exact h
 have hsg:sg8 (uL L')=sg8 (uL L):=A89 (by rw [a2,b2]);rw [hn,A25 AGp hodd<|A8v hU,b1,hsg] at b3;rw [a1] at a3;have h8:=BFh<|A4u (Aw9 _)<|a3.symm.trans b3;have t1:=D.c.t;have t2:=D'.c.t;have s1:=D.c.s;have s2:=D'.c.s;rw [List.take_length] at t1 t2 s1 s2;exact ⟨AGp,by rw [s1,s2,A1a D.bp,A1a D'.bp,hsg]⟩
theorem A9a (R:Ars M):∃ (v:Nat) (r:Int),v<=13/\det M.length (ent M)=r * 2 ^ v/\¬ (2:Int) ∣ r:=by
 obtain ⟨d1,d2⟩:=Ap7 R;obtain ⟨v,hv,Ae,-⟩:=Aq5 (fuel:=101) R (show Pr 2 from ⟨AGp,λd h1 h2=>by omega⟩) AGr AGr;obtain ⟨w,r,hw,h1,h2⟩:=hv;exact ⟨w,r,AGp,h1,h2⟩
theorem Azo.ne {G:ATa} {L:List AU1} {C:List AWr} (D:Azo M K T G L C) (h1:1<=M.length):0 < C.length:=by
 have hs:=D.sum
 cases hL:L with
 | nil=>rw [hL] at hs;have:Acp []=0:=rfl;omega
 | cons b l=>
   have h:=D.c.sp
   rw [List.take_length] at h
   obtain ⟨c,hc,-⟩:=(h.mem b.1).2 ⟨b,by rw [hL];simp,rfl⟩
   exact List.length_pos_of_mem hc
theorem Aqe {g kd:Int} {Z Y:List Int} (hg:0<=g/\g < 256):AYc (AXu + 1) g kd Z Y=some true:=by
 have hf:AXu < AXu + 1:=Nat.lt_succ_self _;have Ac:100 < AXu + 1:=Nat.lt_of_le_of_lt AGr hf;have Aa:2147483648 < AXu + 1:=Nat.lt_of_le_of_lt AGr hf;apply ok_eq;unfold AYc;obtain ⟨n,A,B,S,eF,eO,n1,n6,P⟩:=BFg (L:=Z) (L2:=Y) (a2:=kd) hg (show (1:Int)<=6/\(6:Int)<=6 by decide) hf;have RA:=A2w n1 AGp P.a;have RB:=A2w n1 AGp P.b;have hl:∀ A,(tab n n A).length=n:=λA=>AUe _ _ _;obtain ⟨v,r,hv,hd,hr⟩:=A9a RA
 have hc:Ai9 (tab n n A).length (ent<|tab n n A) S (ent<|tab n n B):=by
  rw [hl]
  intro i j hi hj
  rw [Avq hi hj,P.c i j hi hj]
  exact Abq (λ_ _=>rfl) λk hk=>Abq (λl hl=>(Avq hk hl).symm) λ_ _=>rfl
 have hS:det (tab n n A).length S * det (tab n n A).length S=1:=by rw [hl];exact P.d
 have hlen:(tab n n B).length=(tab n n A).length:=by rw [hl,hl]
 have hd':det (tab n n B).length (ent<|tab n n B)=r * 2 ^ v:=by rw [hlen,Ap5 hc,hS,Int.one_mul,hd]
 obtain ⟨T,G,L,C,e1,e2,D⟩:=A88 RA Aa hd hr;obtain ⟨T',G',L',C',e1',e2',D'⟩:=A88 RB Aa hd' hr;obtain ⟨q1,q2⟩:=D.totals D' hv (Aq9.1 hr) hd hlen hc hS;have hpos:=D.ne RA.1.1;have tot:∀ {M T G L C},Azo M (v + 3) T G L C->AW0 (AXu + 1) C=some (tC C % 8,cS C):=λ{M T G L C} D=>BB0 (λc hc=>(D.c.ok c hc).2) (Nat.le_trans D.c.len D.len) Ac;rw [eF];simp only [Option.bind_some];rw [e1];simp only [Option.bind_some];rw [eO];simp only [Option.bind_some];rw [e1'];simp only [Option.bind_some];rw [e2];simp only [Option.bind_some];rw [e2'];simp only [Option.bind_some];rw [tot D];simp only [Option.bind_some];rw [tot D'];simp only [Option.bind_some];refine Anu (by first | exact trivial | rfl)<|Anu (by first | exact trivial | rfl)<|Anu AGp<|Anu q1<|Anu q2 ?_;rw [Aw6];exact AGy rfl
end Go.Proofs.YtkakafabeobahaaGreatDoor
