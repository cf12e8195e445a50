/-
  Texts of a proof, joined. Conditions stand in each statement.
-/
import Derived.Test.YtiegjkmfpcgjjaaGreatDoorMLineLines5
set_option linter.unusedVariables false
set_option linter.unusedSimpArgs false
namespace Go.Proofs.YtiegjkmfpcgjjaaGreatDoor
open Go Go.QF
set_option maxRecDepth 100000
def AXf:List Int->Int
  | []=>0
  | x :: l=>x + AXf l
theorem Amy {l t:List Int} (h:l.Perm t):AXf l=AXf t:=by
 induction h with
 | nil=>rfl
 | cons x _ ih=>simp only [AXf];rw [ih]
 | swap x y l=>simp only [AXf];omega
 | trans _ _ Aa Ab=>exact Aa.trans Ab
theorem Agz:∀ l t:List Int,AXf (l ++ t)=AXf l + AXf t
  | [],t=>by simp [AXf]
  | x :: l,t=>by show x + AXf (l ++ t)=x + AXf l + AXf t;rw [Agz l t];omega
theorem AXg (f:Nat->Int):∀ n,psum f n=AXf ((List.range n).map f)
  | 0=>rfl
  | n + 1=>by
    rw [List.range_succ,List.map_append,Agz,<- AXg f n]
    show psum f n + f n=psum f n + (f n + 0)
    omega
theorem AXy {P:Nat} (hp:OPr (P:Int)) {g:Int->Int} (hg:∀ y z,y % (P:Int)=z % (P:Int)->g y=g z) {a:Int} (ha:a % (P:Int)≠0):psum (fun x=>g (a * (x:Nat))) P=psum (fun x=>g (x:Nat)) P:=by
  have h3:=hp.three;have hr:=Int.emod_nonneg a (show (P:Int)≠0 by omega);have hr2:=Int.emod_lt_of_pos a (show (0:Int) < P by omega);have hb:∀ x:Nat,0<=a * (x:Int) % (P:Int)/\a * (x:Int) % (P:Int) < P:=fun x=>⟨Int.emod_nonneg _ (by omega),Int.emod_lt_of_pos _ (by omega)⟩
  have hperm:((List.range P).map fun x:Nat=>(a * (x:Int) % (P:Int)).toNat).Perm (List.range P):=by
    refine AXl _ _ ?_ ?_ (by simp)
    · rw [List.nodup_iff_pairwise_ne,List.pairwise_map,List.pairwise_iff_getElem];intro i j hi hj hij he;rw [List.getElem_range,List.getElem_range] at he;rw [List.length_range] at hi hj;have h1:=hb i;have h2:=hb j;have he2:a * (i:Int) % (P:Int)=a * (j:Int) % (P:Int):=by omega
      have e1:(i:Int) * (a % (P:Int)) % (P:Int)=(j:Int) * (a % (P:Int)) % (P:Int):=by
        have q1:Eqm (P:Int) ((i:Int) * (a % (P:Int))) ((i:Int) * a):=(Eqm.refl _ _).mul (Eqm.mod _ a);have q2:Eqm (P:Int) ((j:Int) * (a % (P:Int))) ((j:Int) * a):=(Eqm.refl _ _).mul (Eqm.mod _ a);rw [Int.mul_comm a,Int.mul_comm a] at he2;exact q1.trans ((show Eqm (P:Int) _ _ from he2).trans q2.symm)
      have:=cancel hp.1 (by omega) hr2 e1;rw [Int.emod_eq_of_lt (by omega) (by omega),Int.emod_eq_of_lt (by omega) (by omega)] at this;omega
    · intro y hy;obtain ⟨x,_,rfl⟩:=List.mem_map.1 hy;have:=hb x;exact List.mem_range.2 (by omega)
  rw [AXg,AXg,<- Amy (hperm.map fun x:Nat=>g (x:Int)),List.map_map];congr 1;refine List.map_congr_left fun x _=>hg _ _ ?_;show a * (x:Int) % (P:Int)=(((a * (x:Int) % (P:Int)).toNat:Nat):Int) % (P:Int);have:=hb x;rw [Int.toNat_of_nonneg this.1,Int.emod_emod]
theorem Aar {P:Nat} (hp:OPr (P:Int)) {a:Int} (ha:a % (P:Int)≠0):∃ u:Int,Eqm (P:Int) (a * u) 1/\u % (P:Int)≠0/\lg P u=lg P a:=by
 have h3:=hp.three;have hr:=Int.emod_nonneg a (show (P:Int)≠0 by omega);have Ac:=Int.emod_lt_of_pos a (show (0:Int) < P by omega);obtain ⟨u,hu⟩:=AVq hp.1 (x:=a % (P:Int)) (by omega) Ac
 have Aa:Eqm (P:Int) (a * u) 1:=by
   have:=((Eqm.refl (P:Int) u).mul (Eqm.mod (P:Int) a)).symm.trans hu.2.2
   rwa [Int.mul_comm] at this
 have h1:(1:Int) % (P:Int)=1:=Int.emod_eq_of_lt (by omega) (by omega)
 have hune:u % (P:Int)≠0:=fun hh=>by
   have h2:a * u % (P:Int)=0:=by rw [Int.mul_emod,hh,Int.mul_zero,Int.zero_emod]
   have h4:a * u % (P:Int)=1 % (P:Int):=Aa
   omega
 refine ⟨u,Aa,hune,?_⟩;have hl:lg P (a * u)=lg P 1:=AKe hp Aa;have Ae:lg P (1:Int)=1:=by unfold lg;rw [Int.one_pow,h1];simp
 rw [AM0 hp,Ae] at hl;rcases AXv hp ha with h | h <;> rcases AXv hp hune with h2 | h2 <;> rw [h,h2] at hl ⊢ <;> revert hl <;> decide
def AYr:List Nat:=[3,5,7,11,13,17,19,23,29,31,37,41,43,47,53,59,61,67,71,73,79,83,89,97,101,103,107,109,113,127,131,137,139,149,151,157,163,167,173,179,181,191,193,197,199,211,223,227,229,233,239,241,251]
def pw (P h:Nat) (a:Nat):Nat:=a ^ h % P
def sqm (P:Nat):Nat->Nat
  | 0=>0
  | x + 1=>sqm P x ||| 2 ^ (x * x % P)
theorem Ak6 {P c:Nat}:∀ {n},(sqm P n).testBit c=true-> ∃ x,x < n/\x * x % P=c
  | 0,h=>by simp [sqm] at h
  | n + 1,h=>by
    unfold sqm at h
    rw [Nat.testBit_or,Bool.or_eq_true,Nat.testBit_two_pow] at h
    rcases h with h | h
    · obtain ⟨x,hx,he⟩:=Ak6 h;exact ⟨x,by omega,he⟩
    · exact ⟨n,by omega,of_decide_eq_true h⟩
def Ayv (P m:Nat):Bool:=(List.range P).all fun c=> !(pw P ((P - 1) / 2) c == 1) || m.testBit c
def Ai2 (P:Nat):Bool:=Ayv P (sqm P P)
theorem Aq7:AYr.all Ai2=true:=by decide +kernel
def lgZ (P a:Nat):Int:=if pw P ((P - 1) / 2) a=0 then 0 else if pw P ((P - 1) / 2) a=1 then 1 else -1
theorem AT0 {P:Nat} (hP:1<=P) (a:Nat):lg P (a:Int)=lgZ P a:=by
 have hh:(((P:Int) - 1) / 2).toNat=(P - 1) / 2:=by omega
 unfold lg lgZ;rw [hh];have:(a:Int) ^ ((P - 1) / 2) % (P:Int)=((pw P ((P - 1) / 2) a:Nat):Int):=by unfold pw;rw [Int.natCast_emod,Int.natCast_pow]
 rw [this];by_cases h0:pw P ((P - 1) / 2) a=0
 ·rw [if_pos (by omega),if_pos h0]
 ·rw [if_neg (by omega),if_neg h0];by_cases h1:pw P ((P - 1) / 2) a=1
  ·rw [if_pos (by omega),if_pos h1]
  ·rw [if_neg (by omega),if_neg h1]
theorem Aq8 {P c:Nat} (h:Ai2 P=true) (hc:c < P) (hl:lgZ P c=1):∃ x,x < P/\x * x % P=c:=by
 have h1:=List.all_eq_true.1 h c (List.mem_range.2 hc)
 have hpw:pw P ((P - 1) / 2) c=1:=by
   unfold lgZ at hl
   by_cases h0:pw P ((P - 1) / 2) c=0
   · rw [if_pos h0] at hl;cases hl
   · rw [if_neg h0] at hl
     by_cases h1:pw P ((P - 1) / 2) c=1
     · exact h1
     · rw [if_neg h1] at hl;cases hl
 rw [hpw] at h1;exact Ak6 h1
theorem Aas {P x c:Nat} (h:x * x % P=c):Eqm (P:Int) ((x:Int) * x) c:=by
 subst h;unfold Eqm;rw [Int.natCast_emod,Int.natCast_mul,Int.emod_emod]
theorem Aq9 {P c:Nat} (hp:OPr (P:Int)) (h:Ai2 P=true) (hc:c < P):psum (fun x=>if x * x % P=c then 1 else 0) P=1 + lgZ P c:=by
 have h3:=hp.three;have h2:=hp.2;have hne:∀ x:Nat,0 < x->x < P->(x:Int) % (P:Int)≠0:=fun x h0 h1=>by rw [Int.emod_eq_of_lt (by omega) (by omega)];omega
 by_cases h0:c=0
 ·subst h0;have hl:lgZ P 0=0:=by rw [<- AT0 (by omega)];exact ALo hp (by simp)
  rw [hl];obtain ⟨Q,rfl⟩:∃ Q,P=Q + 1:=⟨P - 1,by omega⟩
  rw [AK0,ABv (g:=fun _=>(0:Int)) (fun x hx=>if_neg fun hh=>by
    have:=Aas hh
    exact AXw hp (hne (x + 1) (by omega) (by omega)) (hne (x + 1) (by omega) (by omega)) (Eqm.zero this)),AKd]
  simp
 ·have hcne:=hne c (by omega) hc;rcases AXv hp hcne with hl | hl
  ·have Aa:lgZ P c=1:=by rw [<- AT0 (by omega),hl]
   rw [Aa];obtain ⟨k,hk,hkc⟩:=Aq8 h hc Aa;have Aj:k≠0:=fun hh=>by subst hh;simp at hkc;omega
   have hs:(P - k) * (P - k) % P=c:=by
     have e:Eqm (P:Int) (((P - k:Nat):Int) * ((P - k:Nat):Int)) ((k:Int) * k):=by
       rw [Int.natCast_sub (by omega)]
       have q:Eqm (P:Int) ((P:Int) - k) (0 - k):=Eqm.sub (by show (P:Int) % P=0 % P;simp) (Eqm.refl _ _)
       exact (q.mul q).trans (Eqm.of_eq (by grind))
     have e2:Eqm (P:Int) (((P - k:Nat):Int) * ((P - k:Nat):Int)) c:=e.trans (Aas hkc)
     unfold Eqm at e2
     rw [<- Int.natCast_mul,<- Int.natCast_emod,<- Int.natCast_emod,Nat.mod_eq_of_lt hc] at e2
     omega
   rw [AZ0 (r:=k) (s:=P - k) hk (by omega) (by omega) (fun x hx h4 h5=>if_neg fun hh=>by
     have e:=(Aas hh).sub (Aas hkc)
     have e1:(x:Int) * x - (k:Int) * k=((x:Int) - k) * ((x:Int) + k):=by grind
     rw [e1,Int.sub_self] at e
     refine AXw hp ?_ ?_ (Eqm.zero e)
     · intro hz
       obtain ⟨q,hq⟩:=Int.dvd_of_emod_eq_zero hz
       have: -1 < q:=Int.lt_of_mul_lt_mul_left (a:=(P:Int)) (by omega) (by omega)
       have:q < 1:=Int.lt_of_mul_lt_mul_left (a:=(P:Int)) (by omega) (by omega)
       obtain rfl:q=0:=by omega
       omega
     · intro hz
       obtain ⟨q,hq⟩:=Int.dvd_of_emod_eq_zero hz
       have:0 < q:=Int.lt_of_mul_lt_mul_left (a:=(P:Int)) (by omega) (by omega)
       have:q < 2:=Int.lt_of_mul_lt_mul_left (a:=(P:Int)) (by omega) (by omega)
       obtain rfl:q=1:=by omega
       omega),if_pos hkc,if_pos hs]
  ·have Aa:lgZ P c= -1:=by rw [<- AT0 (by omega),hl]
   rw [Aa,ABv (g:=fun _=>(0:Int)) (fun x hx=>if_neg fun hh=>by
     have e:=AKe hp (Aas hh)
     rw [AM0 hp,hl] at e
     by_cases Ae:(x:Int) % (P:Int)=0
     · rw [ALo hp Ae] at e;omega
     · rcases AXv hp Ae with h4 | h4 <;> rw [h4] at e <;> omega),AKd]
   rfl
theorem Ax9 {P:Nat} (hP:1<=P) (c:Int):∃ d:Nat,d < P/\(d:Int)=c % (P:Int):=by
 have h1:=Int.emod_nonneg c (show (P:Int)≠0 by omega);have h2:=Int.emod_lt_of_pos c (show (0:Int) < P by omega);exact ⟨(c % (P:Int)).toNat,by omega,by omega⟩
theorem Aya {P:Nat} (hp:OPr (P:Int)) (h:Ai2 P=true):E1 P:=by
 intro a c ha;have h3:=hp.three;obtain ⟨u,hu,hune,hul⟩:=Aar hp ha;obtain ⟨d,hd,hde⟩:=Ax9 (P:=P) (by omega) (u * c)
 have hl:lg P (a * c)=lgZ P d:=by
   rw [<- AT0 (by omega),hde,Adv hp,AM0 hp,AM0 hp,hul]
 rw [hl,<- Aq9 hp h hd];refine ABv fun x _=>?_;unfold Ind
 have hiff:((c - a * (x:Int) * (x:Int)) % (P:Int)=0)↔x * x % P=d:=by
   have e1:(x * x % P=d)↔Eqm (P:Int) ((x:Int) * x) (u * c):=by
     unfold Eqm
     rw [<- hde]
     have:(x:Int) * x % (P:Int)=((x * x % P:Nat):Int):=by rw [Int.natCast_emod,Int.natCast_mul]
     rw [this];omega
   rw [e1]
   constructor
   · intro h0
     have h0:Eqm (P:Int) (c - a * (x:Int) * (x:Int)) 0:=h0.trans (Int.zero_emod _).symm
     have h4:=(Eqm.refl (P:Int) u).mul h0
     have h5:Eqm (P:Int) (u * (c - a * (x:Int) * (x:Int)) + (a * u) * ((x:Int) * x)) (u * 0 + 1 * ((x:Int) * x)):=h4.add (hu.mul (Eqm.refl _ _))
     have e2:u * (c - a * (x:Int) * (x:Int)) + (a * u) * ((x:Int) * x)=u * c:=by grind
     rw [e2] at h5
     have e3:u * 0 + 1 * ((x:Int) * x)=(x:Int) * x:=by omega
     rw [e3] at h5
     exact h5.symm
   · intro h0
     have h4:=((Eqm.refl (P:Int) c).sub ((Eqm.refl (P:Int) a).mul h0))
     have h5:Eqm (P:Int) (c - a * (u * c)) 0:=by
       have:=(Eqm.refl (P:Int) c).sub (hu.mul (Eqm.refl (P:Int) c))
       have e2:c - a * u * c=c - a * (u * c):=by grind
       rw [e2] at this
       refine this.trans (Eqm.of_eq (by omega))
     have h6:=h4.trans h5
     have e3:c - a * ((x:Int) * x)=c - a * (x:Int) * (x:Int):=by grind
     rw [e3] at h6
     exact Eqm.zero h6
 by_cases h0:x * x % P=d
 ·rw [if_pos (hiff.2 h0),if_pos h0]
 ·rw [if_neg (fun hh=>h0 (hiff.1 hh)),if_neg h0]
def uS (P b:Nat):Nat->Int
  | 0=>0
  | x + 1=>uS P b x + lgZ P ((1 + (P - b * (x * x) % P)) % P)
def At9 (P:Nat):Bool:=uS P 1 P == -lgZ P (P - 1) && (List.range P).any fun g=>lgZ P g == -1 && uS P g P == -lgZ P (P - g)
theorem Ara:AYr.all At9=true:=by decide +kernel
def Us (P:Nat) (b:Int):Int:=psum (fun x=>lg P (1 - b * (x:Nat) * (x:Nat))) P
theorem Au4 {P:Nat} (hp:OPr (P:Int)) (b:Nat):Us P b=uS P b P:=by
 have h3:=hp.three
 have:∀ n,psum (fun x=>lg P (1 - (b:Int) * (x:Nat) * (x:Nat))) n=uS P b n:=by
   intro n
   induction n with
   | zero=>rfl
   | succ n ih=>
     show psum _ n + lg P (1 - (b:Int) * (n:Nat) * (n:Nat))=uS P b n + lgZ P ((1 + (P - b * (n * n) % P)) % P)
     rw [ih,<- AT0 (by omega)]
     congr 1
     refine AKe hp ?_
     have hlt:=Nat.mod_lt (b * (n * n)) (show P > 0 by omega)
     rw [Int.natCast_emod,Int.emod_emod,Int.natCast_add,Int.natCast_sub (by omega),Int.natCast_emod]
     have q:Eqm (P:Int) (((1:Nat):Int) + ((P:Int) - ((b * (n * n):Nat):Int) % (P:Int))) (1 + (0 - (b:Int) * n * n)):=by
       refine (Eqm.refl _ (1:Int)).add (Eqm.sub ?_ ((Eqm.mod _ _).trans (Eqm.of_eq (by rw [Int.natCast_mul,Int.natCast_mul,Int.mul_assoc]))))
       show (P:Int) % P=0 % P
       simp
     have e:1 + (0 - (b:Int) * n * n)=1 - (b:Int) * n * n:=by omega
     rw [e] at q
     exact q.symm
 exact this P
theorem Arb {P:Nat} (hp:OPr (P:Int)) {b d:Int} (h:Eqm (P:Int) b d):Us P b=Us P d:=ABv fun x _=>AKe hp ((Eqm.refl _ 1).sub ((h.mul (Eqm.refl _ _)).mul (Eqm.refl _ _)))
theorem Au5 {P:Nat} (hp:OPr (P:Int)) {b k:Int} (hk:k % (P:Int)≠0):Us P (b * (k * k))=Us P b:=by
 unfold Us
 rw [<- AXy hp (g:=fun y=>lg P (1 - b * y * y)) (fun y z h=>by
   have h:Eqm (P:Int) y z:=h
   exact AKe hp ((Eqm.refl _ 1).sub (((Eqm.refl _ b).mul h).mul h))) hk]
 exact ABv fun x _=>by congr 1;grind
theorem Au6 {P:Nat} (hp:OPr (P:Int)) (h:Ai2 P=true) {b:Int} (hl:lg P b=1):∃ k:Int,k % (P:Int)≠0/\Eqm (P:Int) (k * k) b:=by
 have h3:=hp.three;obtain ⟨d,hd,hde⟩:=Ax9 (P:=P) (by omega) b;have h1:lgZ P d=1:=by rw [<- AT0 (by omega),hde,Adv hp,hl]
 obtain ⟨x,hx,he⟩:=Aq8 h hd h1
 have e:Eqm (P:Int) ((x:Int) * x) b:=by
   unfold Eqm
   rw [<- hde,<- he,Int.natCast_emod,Int.natCast_mul]
 refine ⟨x,fun hh=>?_,e⟩;have e2:Eqm (P:Int) ((x:Int) * x) 0:=(((show Eqm (P:Int) (x:Int) 0 from hh.trans (Int.zero_emod _).symm)).mul (Eqm.refl _ (x:Int))).trans (Eqm.of_eq (by simp));have:=ALo hp (Eqm.zero (e.symm.trans e2));omega
theorem Aua {P:Nat} (hp:OPr (P:Int)) (h1:Ai2 P=true) (h2:At9 P=true) {b:Int} (hb:b % (P:Int)≠0):Us P b= -lg P (-b):=by
 have h3:=hp.three;unfold At9 at h2;rw [Bool.and_eq_true,List.any_eq_true] at h2;obtain ⟨Ab,g,hg,Ae⟩:=h2;rw [Bool.and_eq_true] at Ae;obtain ⟨hgl,hgu⟩:=Ae;have Ab:=eq_of_beq Ab;have hgl:=eq_of_beq hgl;have hgu:=eq_of_beq hgu;have hgP:=List.mem_range.1 hg;have hneg:∀ d:Int,lg P (-d)=lg P (-1) * lg P d:=fun d=>by rw [<- AM0 hp];congr 1;omega
 have hm:∀ g:Nat,g<=P->lgZ P (P - g)=lg P (-(g:Int)):=fun g hg=>by
   rw [<- AT0 (by omega)]
   refine AKe hp ?_
   rw [Int.natCast_sub hg]
   have:Eqm (P:Int) ((P:Int) - g) (0 - g):=Eqm.sub (by show (P:Int) % P=0 % P;simp) (Eqm.refl _ _)
   rw [Int.zero_sub] at this
   exact this
 rcases AXv hp hb with hl | hl
 ·obtain ⟨k,hk,hkb⟩:=Au6 hp h1 hl;rw [<- Arb hp (show Eqm (P:Int) (1 * (k * k)) b by rw [Int.one_mul];exact hkb),Au5 hp hk,hneg,hl];have:=Au4 hp 1;rw [Ab,hm 1 (by omega)] at this;rw [Int.mul_one];exact this
 ·have Ac:lg P (g:Int)= -1:=by rw [AT0 (by omega),hgl]
  have hgne:(g:Int) % (P:Int)≠0:=fun hh=>by rw [ALo hp hh] at Ac;omega
  obtain ⟨u,hu,hune,hul⟩:=Aar hp hgne;obtain ⟨k,hk,hkb⟩:=Au6 hp h1 (b:=u * b) (by rw [AM0 hp,hul,hl,Ac];decide)
  have e:Eqm (P:Int) ((g:Int) * (k * k)) b:=by
    refine ((Eqm.refl _ (g:Int)).mul hkb).trans ?_
    have:=hu.mul (Eqm.refl _ b)
    rw [Int.mul_assoc,Int.one_mul] at this
    exact this
  rw [<- Arb hp e,Au5 hp hk,hneg,hl,Au4 hp,hgu,hm g (by omega),hneg,Ac]
theorem Ayb {P:Nat} (hp:OPr (P:Int)) (h1:Ai2 P=true) (h2:At9 P=true):E2 P:=by
 intro a c ha;have h3:=hp.three;by_cases hc:c % (P:Int)=0
 ·have e:Ind P c=1:=if_pos hc
  rw [e,ABv (g:=fun x:Nat=>lg P (-a) * (lg P (x:Int) * lg P (x:Int))) (fun x _=>by
    rw [<- AM0 hp,<- AM0 hp]
    have:=(show Eqm (P:Int) c 0 from hc.trans (Int.zero_emod _).symm).sub (Eqm.refl _ (a * (x:Int) * (x:Int)))
    have e2:0 - a * (x:Int) * (x:Int)= -a * ((x:Int) * x):=by grind
    rw [e2] at this
    exact AKe hp this),ADf]
  congr 1;obtain ⟨Q,rfl⟩:∃ Q,P=Q + 1:=⟨P - 1,by omega⟩
  rw [AK0,ABv (g:=fun _=>(1:Int)) (fun x hx=>by
    have hne:(((x + 1:Nat)):Int) % ((Q + 1:Nat):Int)≠0:=by rw [Int.emod_eq_of_lt (by omega) (by omega)];omega
    rcases AXv hp hne with h | h <;> rw [h] <;> rfl),AQg,ALo hp (a:=((0:Nat):Int)) (by simp)]
  omega
 ·have e:Ind P c=0:=if_neg hc;obtain ⟨u,hu,hune,hul⟩:=Aar hp hc
  rw [e,ABv (g:=fun x:Nat=>lg P c * lg P (1 - (a * u) * (x:Int) * (x:Int))) (fun x _=>by
    rw [<- AM0 hp]
    have:=(Eqm.refl (P:Int) c).sub (hu.mul (Eqm.refl _ (a * (x:Int) * (x:Int))))
    refine AKe hp ?_
    have e1:c - c * u * (a * (x:Int) * (x:Int))=c * (1 - a * u * (x:Int) * (x:Int)):=by grind
    have e2:c - 1 * (a * (x:Int) * (x:Int))=c - a * (x:Int) * (x:Int):=by omega
    rw [e1,e2] at this
    exact this.symm),ADf]
  show lg P c * Us P (a * u)=_;rw [Aua hp h1 h2 (AXw hp ha hune)];have e3:lg P (-(a * u))=lg P (-a) * lg P c:=by rw [<- hul,<- AM0 hp];congr 1;grind
  rw [e3];rcases AXv hp hc with h | h <;> rw [h] <;> omega
end Go.Proofs.YtiegjkmfpcgjjaaGreatDoor
namespace Go.Proofs.YtiegjkmfpcgjjaaGreatDoor
open Go Go.QF
set_option maxRecDepth 100000
def dg (n P i c:Nat):Nat:=i / P ^ (n - 1 - c) % P
def AIf (n P i:Nat):List Int:=ADz n fun c=>((dg n P i c:Nat):Int)
theorem ASx {n P i j:Nat} (hP:2<=P) (hj:j<=n) (h:∀ c,n - j<=c->c < n->dg n P i c=P - 1):i % P ^ j=P ^ j - 1:=by
 induction j with
 | zero=>simp [Nat.mod_one]
 | succ j ih=>
   have h1:=ih (by omega) fun c h1 h2=>h c (by omega) h2
   have h2:=h (n - (j + 1)) (by omega) (by omega)
   unfold dg at h2
   rw [show n - 1 - (n - (j + 1))=j by omega] at h2
   have hpos:0 < P ^ j:=Nat.pow_pos (by omega)
   rw [Nat.pow_succ,Nat.mod_mul,h1,h2]
   have:P ^ j * (P - 1) + P ^ j=P ^ j * P:=by
     rw [<- Nat.mul_succ,show (P - 1).succ=P by omega]
   omega
theorem AXz {n P i j:Nat} (hP:2<=P) (hj:j < n) (h:∀ c,n - j<=c->c < n->dg n P i c=P - 1) (hx:dg n P i (n - 1 - j)≠P - 1) (c:Nat) (hc:c < n):dg n P (i + 1) c=if n - j<=c then 0 else if c=n - 1 - j then dg n P i c + 1 else dg n P i c:=by
 have hl:=ASx hP (Nat.le_of_lt hj) h;have hpos:0 < P ^ j:=Nat.pow_pos (by omega);have hdm:=Nat.div_add_mod i (P ^ j);have hi:i + 1=P ^ j * (i / P ^ j + 1):=by rw [Nat.mul_succ];omega
 have Ac:i / P ^ j % P≠P - 1:=by unfold dg at hx;rwa [show n - 1 - (n - 1 - j)=j by omega] at hx
 generalize hq:i / P ^ j=q at hi Ac;unfold dg;by_cases h1:n - j<=c
 ·rw [if_pos h1];obtain ⟨e,he⟩:∃ e,j=(n - 1 - c) + 1 + e:=⟨j - (n - 1 - c) - 1,by omega⟩
  have h2:P ^ j=P ^ (n - 1 - c) * (P * P ^ e):=by
    conv=>lhs;rw [he]
    rw [Nat.pow_add,Nat.pow_succ,Nat.mul_assoc]
  rw [hi,h2,Nat.mul_assoc,Nat.mul_div_cancel_left _ (Nat.pow_pos (by omega)),Nat.mul_assoc,Nat.mul_mod_right]
 ·rw [if_neg h1];obtain ⟨k,hk⟩:∃ k,n - 1 - c=j + k:=⟨n - 1 - c - j,by omega⟩;rw [hk,Nat.pow_add,<- Nat.div_div_eq_div_mul,<- Nat.div_div_eq_div_mul,hi,Nat.mul_div_cancel_left _ hpos,hq];have hqm:=Nat.div_add_mod q P;have hql:=Nat.mod_lt q (show P > 0 by omega);by_cases h2:c=n - 1 - j
  ·rw [if_pos h2];obtain rfl:k=0:=by omega
   simp only [Nat.pow_zero,Nat.div_one];rw [Nat.add_mod,Nat.mod_eq_of_lt (show 1 < P by omega),Nat.mod_eq_of_lt (by omega)]
  ·rw [if_neg h2];obtain ⟨k',rfl⟩:∃ k',k=k' + 1:=⟨k - 1,by omega⟩
   have h3:(q + 1) / P=q / P:=by
     refine Nat.div_eq_of_lt_le ?_ ?_
     · rw [Nat.mul_comm];omega
     · rw [Nat.mul_comm,Nat.mul_succ];omega
   rw [Nat.pow_succ,Nat.mul_comm,<- Nat.div_div_eq_div_mul,<- Nat.div_div_eq_div_mul,h3]
theorem Arc {n P i c:Nat} (hP:2<=P):dg n P i c < P:=Nat.mod_lt _ (by omega)
theorem Ak7 {n P c:Nat}:dg n P 0 c=0:=by simp [dg]
theorem Ayc {fuel:Nat} {M:List (List Int)} {P:Nat} (R:AVf M) (hp:3<=P) (hp2:P<=9973) (hq:P ^ M.length<=65536) (hf:2147483648 < fuel):AIe fuel M (P:Int)=some (((List.range (P ^ M.length)).map (AIf M.length P)).filter (APo M P)):=by
  have h8:=R.1.2;have h1n:=R.1.1;apply ok_eq;unfold AIe;refine AEe (by omega) (ABo (Q:=fun e=>e=((List.range (P ^ M.length)).map (AIf M.length P)).filter (APo M P)) ?_ fun e he=>ABi he);generalize hn:M.length=n at *
  have hcar:∀ i,i<=P ^ n->(((List.range i).map (AIf n P)).filter (APo M P)).length<=65536:=fun i hi=>by
    have:=List.length_filter_le (APo M P) ((List.range i).map (AIf n P));rw [List.length_map,List.length_range] at this;omega
  refine ACv (fun i s=>s=(((List.range i).map (AIf n P)).filter (APo M P),AIf n P i)/\i < P ^ n) (P ^ n) ⟨?_,Nat.pow_pos (by omega)⟩ (by omega) fun i s hi hI=>?_
  · refine Prod.ext rfl ?_;show List.replicate ((n:Int)).toNat (0:Int)=AIf n P 0;rw [Int.toNat_natCast,AHq];exact ACu fun c _=>by rw [Ak7];rfl
  · obtain ⟨rfl,hin⟩:=hI
    have hfil:((List.range (i + 1)).map (AIf n P)).filter (APo M P)=((List.range i).map (AIf n P)).filter (APo M P) ++ (if APo M P (AIf n P i)=true then [AIf n P i] else []):=by
      rw [List.range_succ,List.map_append,List.filter_append];congr 1
      by_cases h:APo M P (AIf n P i)=true
      · simp [h]
      · simp [h]
    unfold AKy;dsimp only;rw [Ad9 R (by omega) (by omega) (by omega)];simp only [Option.bind_some]
    refine ABo (Q:=fun e=>e=((List.range (i + 1)).map (AIf n P)).filter (APo M P)) ?_ fun e he=>?_
    · have hl:(AIf n P i).length=n:=ADb ..;refine AB3 (fun h=>?_) fun h=>ABi (by rw [hfil,if_neg h,List.append_nil]);rw [if_pos (by omega),if_pos (by have:=hcar i (by omega);omega)];exact ABi (by rw [hfil,if_pos h])
    · subst he;have hl:(AIf n P i).length=n:=ADb ..;rw [hl]
      refine ABo (Q:=fun e:Int × List Int=>(e.1= -1/\i + 1=P ^ n)∨ ∃ j:Nat,j < n/\e.1=((n - 1 - j:Nat):Int)/\(∀ c,n - j<=c->c < n->dg n P i c=P - 1)/\dg n P i (n - 1 - j)≠P - 1/\e.2=ADz n fun c=>if n - j<=c then 0 else ((dg n P i c:Nat):Int)) (ABo (ACv (fun j s=>s=((n:Int) - 1 - j,ADz n fun c=>if n - j<=c then 0 else ((dg n P i c:Nat):Int))/\j<=n/\ ∀ c,n - j<=c->c < n->dg n P i c=P - 1) n ⟨?_,Nat.zero_le _,fun c h1 h2=>by omega⟩ (by omega) fun j s hj hI=>?_) fun e he=>ABi he) fun e he=>?_
      · refine Prod.ext ?_ (ACu fun c hc=>by rw [if_neg (by omega)]);show w64 ((n:Int) - 1)=(n:Int) - 1 - ((0:Nat):Int);rw [wk (by omega)];omega
      · obtain ⟨rfl,hjn,hall⟩:=hI;unfold AKx;dsimp only
        refine ABo (Q:=fun ex=>(ex= .inl ()/\j < n/\dg n P i (n - 1 - j)=P - 1)∨(ex= .inr ()/\(j=n∨dg n P i (n - 1 - j)≠P - 1))) ?_ fun ex hex=>?_
        · refine AB3 (fun h=>?_) fun h=>ABi (.inr ⟨rfl,.inl (by omega)⟩);have hj2:n - 1 - j < n:=by omega
          refine AB7 (n:=n - 1 - j) (ACn hj2) (by omega) ?_;have e1:(if n - j<=n - 1 - j then (0:Int) else ((dg n P i (n - 1 - j):Nat):Int))=((dg n P i (n - 1 - j):Nat):Int):=if_neg (by omega);rw [e1,AE5 (x:=(P:Int) - 1) (by omega) (by omega)];refine AB3 (fun h3=>ABi (.inl ⟨rfl,by omega,by omega⟩)) fun h3=>ABi (.inr ⟨rfl,.inr fun h4=>h3 (by omega)⟩)
        · rcases hex with ⟨rfl,h3,h4⟩ | ⟨rfl,h3⟩
          · have hj2:n - 1 - j < n:=by omega
            dsimp only
            refine AB7 (n:=n - 1 - j) (ACn hj2) (by omega) (ABi ⟨h3,?_,by omega,fun c h5 h6=>?_⟩)
            · rw [show (n:Int) - 1 - (j:Int)=((n - 1 - j:Nat):Int) by omega,ADy,AEz]
              refine Prod.ext ?_ (ACu fun c hc=>?_)
              · show w64 (((n - 1 - j:Nat):Int) - 1)=(n:Int) - 1 - ((j + 1:Nat):Int);rw [wk (by omega)];omega
              · by_cases h7:c=n - 1 - j
                · rw [if_pos h7,if_pos (by omega)]
                · rw [if_neg h7]
                  by_cases h8:n - j<=c
                  · rw [if_pos h8,if_pos (by omega)]
                  · rw [if_neg h8,if_neg (by omega)]
            · rcases Nat.lt_or_ge c (n - j) with h7 | h7
              · obtain rfl:c=n - 1 - j:=by omega
                exact h4
              · exact hall c h7 h6
          · refine ABi ?_
            by_cases hjn2:j=n
            · subst hjn2;refine .inl ⟨by dsimp only;omega,?_⟩;have hl2:=ASx (n:=j) (P:=P) (i:=i) (by omega) (Nat.le_refl _) hall;rw [Nat.mod_eq_of_lt hin] at hl2;omega
            · exact .inr ⟨j,by omega,by dsimp only;omega,hall,h3.resolve_left hjn2,rfl⟩
      · obtain ⟨x,W⟩:=e
        rcases he with ⟨h3,h4⟩ | ⟨j,hjn,h3,hall,hne,h4⟩
        · dsimp only at h3 ⊢;subst h3;rw [if_pos (by decide)];exact ABi (by rw [h4])
        · dsimp only at h3 h4 ⊢;subst h3;subst h4;rw [if_neg (by omega)];have hj2:n - 1 - j < n:=by omega
          refine AB7 (ACn hj2) rfl (ABi ?_);have e1:(if n - j<=n - 1 - j then (0:Int) else ((dg n P i (n - 1 - j):Nat):Int))=((dg n P i (n - 1 - j):Nat):Int):=if_neg (by omega);rw [e1];have hlt:=Arc (n:=n) (i:=i) (c:=n - 1 - j) (show 2<=P by omega)
          have hsucc:AIf n P (i + 1)=sI (ADz n fun c=>if n - j<=c then 0 else ((dg n P i c:Nat):Int)) ((n - 1 - j:Nat):Int) (w64 (((dg n P i (n - 1 - j):Nat):Int) + 1)):=by
            rw [wk (by omega),ADy,AEz];refine ACu fun c hc=>?_;rw [AXz (by omega) hjn hall hne c hc]
            by_cases h7:c=n - 1 - j
            · subst h7;rw [if_neg (by omega),if_pos rfl,if_pos rfl];rfl
            · rw [if_neg h7,if_neg h7]
              by_cases h8:n - j<=c
              · rw [if_pos h8,if_pos h8];rfl
              · rw [if_neg h8,if_neg h8]
          have hi1:i + 1 < P ^ n:=by
            refine Nat.lt_of_le_of_ne (by omega) fun hh=>?_
            have:i % P ^ (j + 1)=P ^ (j + 1) - 1:=by
              obtain ⟨e,he⟩:∃ e,n=(j + 1) + e:=⟨n - (j + 1),by omega⟩
              have hpw:P ^ n=P ^ (j + 1) * P ^ e:=by
                conv=>lhs;rw [he]
                exact Nat.pow_add ..
              have hp1:0 < P ^ (j + 1):=Nat.pow_pos (by omega);have hp2:0 < P ^ e:=Nat.pow_pos (by omega)
              have:i=P ^ (j + 1) * (P ^ e - 1) + (P ^ (j + 1) - 1):=by
                have:P ^ (j + 1) * (P ^ e - 1) + P ^ (j + 1)=P ^ (j + 1) * P ^ e:=by
                  rw [<- Nat.mul_succ,show (P ^ e - 1).succ=P ^ e by omega]
                omega
              rw [this,Nat.mul_add_mod,Nat.mod_eq_of_lt (by omega)]
            have hlow:=ASx (n:=n) (P:=P) (i:=i) (j:=j) (by omega) (by omega) hall;have hpos:0 < P ^ j:=Nat.pow_pos (by omega);rw [Nat.pow_succ,Nat.mod_mul,hlow] at this;have hd:dg n P i (n - 1 - j)=i / P ^ j % P:=by unfold dg;rw [show n - 1 - (n - 1 - j)=j by omega]
            rw [<- hd] at this
            have h9:P ^ j * (P - 1) + P ^ j=P ^ j * P:=by
              rw [<- Nat.mul_succ,show (P - 1).succ=P by omega]
            exact hne (Nat.eq_of_mul_eq_mul_left hpos (by omega))
          exact ⟨hin,by rw [<- hsucc],hi1⟩
end Go.Proofs.YtiegjkmfpcgjjaaGreatDoor
namespace Go.Proofs.YtiegjkmfpcgjjaaGreatDoor
open Go Go.QF
def Aec (a:Int) (v:Nat->Int):Nat->Int:=fun j=>a * v j
theorem AXh (a x:Int) (v:Nat->Int):Aec a (AD6 x v)=AD6 (a * x) (Aec a v):=by
 funext j;cases j <;> rfl
theorem Ag0 {P:Nat} (hp:OPr (P:Int)) {a:Int} (ha:a % (P:Int)≠0):∀ (n:Nat) (f:(Nat->Int)->Int),Aiz P f->SS P n (fun v=>f (Aec a v))=SS P n f
  | 0,f,hf=>congrArg f (by funext j;exact Int.mul_zero a)
  | n + 1,f,hf=>by
    show psum (fun x=>SS P n fun v=>f (Aec a (AD6 (x:Int) v))) P=psum (fun x=>SS P n fun v=>f (AD6 (x:Int) v)) P
    rw [ABv (g:=fun x:Nat=>SS P n fun v=>f (AD6 (a * (x:Int)) v)) (fun x _=>by
      rw [<- Ag0 hp ha n (fun v=>f (AD6 (a * (x:Int)) v)) (ARy hf _)]
      exact ANp fun v=>by rw [AXh])]
    exact AXy hp (g:=fun y=>SS P n fun v=>f (AD6 y v)) (fun y z h=>ANp fun v=>hf _ _ fun j=>by cases j with | zero=>exact h | succ j=>rfl) ha
def Lam (P:Nat):Nat->((Nat->Int)->Int)->Int
  | 0,_=>0
  | n + 1,f=>SS P n (fun v=>f (AD6 1 v)) + Lam P n fun v=>f (AD6 0 v)
theorem Ai3 {P:Nat} (hp:OPr (P:Int)):∀ (n:Nat) (f:(Nat->Int)->Int),Aiz P f->(∀ a v,a % (P:Int)≠0->f (Aec a v)=f v)->SS P n f=f (fun _=>0) + ((P:Int) - 1) * Lam P n f
  | 0,f,_,_=>by show f _=f _ + ((P:Int) - 1) * 0;omega
  | n + 1,f,hf,hh=>by
    have h3:=hp.three
    show psum (fun x=>SS P n fun v=>f (AD6 (x:Int) v)) P=_
    obtain ⟨Q,rfl⟩:∃ Q,P=Q + 1:=⟨P - 1,by omega⟩
    rw [AK0,ABv (g:=fun _:Nat=>SS (Q + 1) n fun v=>f (AD6 1 v)) (fun x hx=>by
      have hne:(((x + 1:Nat)):Int) % ((Q + 1:Nat):Int)≠0:=by rw [Int.emod_eq_of_lt (by omega) (by omega)];omega
      rw [<- Ag0 hp hne n (fun v=>f (AD6 (((x + 1:Nat)):Int) v)) (ARy hf _)]
      refine ANp fun v=>?_
      have:=hh (((x + 1:Nat)):Int) (AD6 1 v) hne
      rw [AXh,Int.mul_one] at this
      exact this),AQg]
    have ih:=Ai3 hp n (fun v=>f (AD6 ((0:Nat):Int) v)) (ARy hf _) (fun a v ha=>by
      have:=hh a (AD6 ((0:Nat):Int) v) ha
      rwa [AXh,show a * ((0:Nat):Int)=((0:Nat):Int) by simp] at this)
    rw [ih]
    have e0:AD6 ((0:Nat):Int) (fun _=>0)=fun _=>(0:Int):=by funext j;cases j <;> rfl
    rw [e0]
    show f _ + (((Q + 1:Nat):Int) - 1) * Lam (Q + 1) n (fun v=>f (AD6 0 v)) + _=f _ + (((Q + 1:Nat):Int) - 1) * (SS (Q + 1) n (fun v=>f (AD6 1 v)) + Lam (Q + 1) n fun v=>f (AD6 0 v))
    rw [Int.mul_add,show (((Q + 1:Nat):Int) - 1)=(Q:Int) by omega]
    omega
theorem Amz {α:Type} (n:Nat) (f:Nat->α):ADz (n + 1) f=f 0 :: ADz n fun c=>f (c + 1):=by
 unfold ADz;rw [List.range_succ_eq_map,List.map_cons,List.map_map];rfl
theorem ARz {n P x k:Nat} (hP:2<=P) (hx:x < P) (hk:k < P ^ n):AIf (n + 1) P (x * P ^ n + k)=(x:Int) :: AIf n P k:=by
 have hpos:0 < P ^ n:=Nat.pow_pos (by omega);unfold AIf;rw [Amz];congr 1
 ·show ((dg (n + 1) P (x * P ^ n + k) 0:Nat):Int)=_;unfold dg;rw [show n + 1 - 1 - 0=n by omega,Nat.mul_comm x,Nat.mul_add_div hpos,Nat.div_eq_of_lt hk,Nat.add_zero,Nat.mod_eq_of_lt hx]
 ·refine ACu fun c hc=>?_;unfold dg;rw [show n + 1 - 1 - (c + 1)=n - 1 - c by omega]
  have Aa:P ^ n=P ^ (n - 1 - c) * (P * P ^ c):=by
    conv=>lhs;rw [show n=n - 1 - c + 1 + c by omega]
    rw [Nat.pow_add,Nat.pow_succ,Nat.mul_assoc]
  have Ab:0 < P ^ (n - 1 - c):=Nat.pow_pos (by omega);have e:x * P ^ n + k=P ^ (n - 1 - c) * (P * (x * P ^ c)) + k:=by rw [Aa];congr 1;simp only [Nat.mul_left_comm,Nat.mul_comm,Nat.mul_assoc]
  rw [e,Nat.mul_add_div Ab,Nat.mul_add_mod]
theorem Aed (x:Int) (V:List Int):vF (x :: V)=AD6 x (vF V):=by
 funext j;cases j <;> rfl
theorem Aw1:vF []=fun _=>0:=by funext j;rfl
theorem Aci (f:Nat->Int) (a:Nat):∀ b,psum f (a + b)=psum f a + psum (fun i=>f (a + i)) b
  | 0=>by show psum f a=psum f a + 0;omega
  | b + 1=>by
    show psum f (a + b) + f (a + b)=psum f a + (psum (fun i=>f (a + i)) b + f (a + b))
    rw [Aci f a b];omega
theorem AVj (f:Nat->Int) (m:Nat):∀ k,psum f (k * m)=psum (fun x=>psum (fun i=>f (x * m + i)) m) k
  | 0=>by rw [Nat.zero_mul];rfl
  | k + 1=>by
    rw [Nat.succ_mul,Aci,AVj f m k];rfl
theorem Ag1 {P:Nat} (hP:2<=P):∀ (n:Nat) (f:(Nat->Int)->Int),psum (fun k=>f (vF (AIf n P k))) (P ^ n)=SS P n f
  | 0,f=>by
    show 0 + f (vF [])=f _
    rw [Aw1,Int.zero_add]
  | n + 1,f=>by
    rw [Nat.pow_succ,Nat.mul_comm,AVj]
    refine ABv fun x hx=>?_
    rw [<- Ag1 hP n]
    exact ABv fun k hk=>by rw [ARz hP hx hk,Aed]
theorem Acj {P:Nat} (hP:2<=P):∀ (n:Nat) (f:(Nat->Int)->Int),psum (fun k=>if AMq (AIf n P k)=1 then f (vF (AIf n P k)) else 0) (P ^ n)=Lam P n f
  | 0,f=>by
    show 0 + (if AMq []=1 then f (vF []) else 0)=0
    rw [if_neg (by decide)];rfl
  | n + 1,f=>by
    rw [Nat.pow_succ,Nat.mul_comm,AVj,AZ0 (r:=0) (s:=1) (by omega) (by omega) (by omega) (fun x hx h0 h1=>by
      rw [ABv (g:=fun _=>(0:Int)) (fun k hk=>by
        rw [ARz hP hx hk]
        show (if (if (x:Int)=0 then _ else (x:Int))=1 then _ else (0:Int))=0
        rw [if_neg (show ¬ (x:Int)=0 by omega),if_neg (show ¬ (x:Int)=1 by omega)]),AKd])]
    show _=SS P n (fun v=>f (AD6 1 v)) + Lam P n fun v=>f (AD6 0 v)
    rw [<- Ag1 hP,<- Acj hP,Int.add_comm]
    congr 1
    · exact ABv fun k hk=>by
        rw [ARz hP (by omega) hk,Aed]
        exact if_pos rfl
    · exact ABv fun k hk=>by
        rw [ARz hP (by omega) hk,Aed]
        rfl
theorem AX0 {α:Type} (p:α->Bool) (g:Nat->α):∀ N,((((List.range N).map g).filter p).length:Int)=psum (fun k=>if p (g k)=true then 1 else 0) N
  | 0=>rfl
  | N + 1=>by
    rw [List.range_succ,List.map_append,List.filter_append,List.length_append,Int.natCast_add,AX0 p g N]
    show _ + _=psum _ N + _
    congr 1
    by_cases h:p (g N)=true
    · simp [h]
    · simp [h]
def zF (P n:Nat) (A:Nat->Nat->Int) (v:Nat->Int):Int:=if Qf n A v % (P:Int)=0 then 1 else 0
theorem Ak8 {P n:Nat} {A:Nat->Nat->Int} (hp:OPr (P:Int)) (a:Int) (v:Nat->Int) (ha:a % (P:Int)≠0):zF P n A (Aec a v)=zF P n A v:=by
 have e:Qf n A (Aec a v)=a * a * Qf n A v:=by
   unfold Qf
   rw [<- ADf]
   refine ABv fun i _=>?_
   have:nqI n A (Aec a v) i=a * nqI n A v i:=by
     unfold nqI
     rw [<- ADf]
     exact ABv fun j _=>by show A i j * (a * v j)=_;rw [Int.mul_left_comm]
   rw [this]
   show a * nqI n A v i * (a * v i)=_
   grind
 unfold zF
 have hiff:(Qf n A (Aec a v) % (P:Int)=0)↔Qf n A v % (P:Int)=0:=by
   rw [e]
   constructor
   · intro h
     refine Classical.byContradiction fun hh=>AXw hp (AXw hp ha ha) hh h
   · intro h
     rw [Int.mul_emod,h,Int.mul_zero,Int.zero_emod]
 by_cases h:Qf n A v % (P:Int)=0
 ·rw [if_pos h,if_pos (hiff.2 h)]
 ·rw [if_neg h,if_neg (fun hh=>h (hiff.1 hh))]
theorem Ayd (P n:Nat) (A:Nat->Nat->Int):SS P n (zF P n A)=Zc' P n A 0:=ANp fun v=>by unfold zF;rw [Int.sub_zero]
theorem Ard (P n:Nat) (A:Nat->Nat->Int):Aiz P (zF P n A):=fun v w h=>by
  have:Eqm (P:Int) (Qf n A v) (Qf n A w):=Aq4 (fun _ _ _ _=>Eqm.refl _ _) h
  have this:Qf n A v % (P:Int)=Qf n A w % (P:Int):=this
  unfold zF;simp only [this]
theorem Ak9 (P n:Nat) (A:Nat->Nat->Int):zF P n A (fun _=>0)=1:=by
 unfold zF;have:Qf n A (fun _=>0)=0:=by unfold Qf;rw [ABv (g:=fun _=>(0:Int)) (fun i _=>by simp),AKd]
 rw [this,if_pos (by simp)]
def NL (P n:Nat) (A:Nat->Nat->Int):Int:=Lam P n (zF P n A)
theorem Aw2 {P:Nat} (hp:OPr (P:Int)) (h1:E1 P) (h2:E2 P) {n m:Nat} {A:Nat->Nat->Int} (hA:∀ a b,a < n->b < n->A a b=A b a) (hd:det n A % (P:Int)≠0) (hn:n=2 * m + 1):((P:Int) - 1) * NL P n A=(P:Int) ^ (2 * m) - 1:=by
 have h:=(Aaq hp h1 h2 n A hA hd).2 m hn 0;have h4:=Ai3 hp n (zF P n A) (Ard P n A) (fun a v=>Ak8 hp a v);rw [Ayd,h,Ak9,Int.mul_zero,ALo hp (Int.zero_emod _),Int.mul_zero] at h4;unfold NL;omega
theorem Aub {P:Nat} (hp:OPr (P:Int)) (h1:E1 P) (h2:E2 P) {n m:Nat} {A:Nat->Nat->Int} (hA:∀ a b,a < n->b < n->A a b=A b a) (hd:det n A % (P:Int)≠0) (hn:n=2 * (m + 1)):((P:Int) - 1) * NL P n A=((P:Int) ^ (m + 1) - lg P ((-1) ^ (m + 1) * det n A)) * ((P:Int) ^ m + lg P ((-1) ^ (m + 1) * det n A)):=by
 have h3:=hp.three;have h:=(Aaq hp h1 h2 n A hA hd).1 (m + 1) hn 0;have h4:=Ai3 hp n (zF P n A) (Ard P n A) (fun a v=>Ak8 hp a v);rw [Ayd,Ak9] at h4
 have hne:(-1:Int) ^ (m + 1) * det n A % (P:Int)≠0:=by
   refine AXw hp ?_ hd
   have hpm:∀ k:Nat,(-1:Int) ^ k=1∨(-1:Int) ^ k= -1:=by
     intro k
     induction k with
     | zero=>left;rfl
     | succ k ih=>rcases ih with h | h <;> rw [Int.pow_succ,h] <;> simp
   rcases hpm (m + 1) with h | h <;> rw [h]
   · rw [Int.emod_eq_of_lt (by omega) (by omega)];decide
   · rw [show (-1:Int)=(P - 1) + P * (-1) by omega,Int.add_mul_emod_self_left,Int.emod_eq_of_lt (by omega) (by omega)];omega
 have hI:Ind P 0=1:=by unfold Ind;simp
 rw [hI,h4] at h;unfold NL
 have hsq:lg P ((-1) ^ (m + 1) * det n A) * lg P ((-1) ^ (m + 1) * det n A)=1:=by
   rcases AXv hp hne with h | h <;> rw [h] <;> rfl
 generalize lg P ((-1) ^ (m + 1) * det n A)=χ at h hsq ⊢;generalize Lam P n (zF P n A)=L at h ⊢;refine Int.eq_of_mul_eq_mul_left (a:=(P:Int)) (by omega) ?_
 have e2:(P:Int) ^ (2 * (m + 1))=(P:Int) ^ m * P * ((P:Int) ^ m * P):=by
   rw [show 2 * (m + 1)=(m + 1) + (m + 1) by omega,Int.pow_add,Int.pow_succ]
 rw [e2,Int.pow_succ] at h;rw [Int.pow_succ];generalize (P:Int) ^ m=Y at h ⊢;have e3:(P:Int) * ((Y * P - χ) * (Y + χ))=Y * P * (Y * P) + χ * (Y * P) * P - χ * (Y * P) - P * (χ * χ):=by grind
 rw [e3,hsq];have e4:(P:Int) * (1 + ((P:Int) - 1) * L)=P + P * (((P:Int) - 1) * L):=by rw [Int.mul_add];omega
 rw [e4] at h;have e5:χ * (Y * (P:Int)) * (P * 1 - 1)=χ * (Y * P) * P - χ * (Y * P):=by grind
 rw [e5] at h;omega
end Go.Proofs.YtiegjkmfpcgjjaaGreatDoor
namespace Go.Proofs.YtiegjkmfpcgjjaaGreatDoor
open Go Go.QF
set_option maxRecDepth 100000
def Are (fuel:Nat) (a3:List (List Int)) (a5:Int):Option (Int × Int):=(if (Int.tmod (a3.length:Int) 2)=1 then ((AHi fuel a5 (w64 (2 * (w64 (Int.tdiv (a3.length:Int) 2))))).bind fun x18=>(if (w64 (a5 - 1))≠0 then (some ((w64 (Int.tdiv (w64 (x18 - 1)) (w64 (a5 - 1)))),0)) else none)) else ((AHh fuel a3 a5).bind fun (x26,x27)=>(((if (Int.tmod (w64 (Int.tdiv (a3.length:Int) 2)) 2)=1 then (some ( (w64 (0 - x26)))) else (some ( x26))):Option ((Int))).bind (fun (e40:Int)=>((AGp fuel e40 a5).bind fun (x41,x42)=>((AHi fuel a5 (w64 (Int.tdiv (a3.length:Int) 2))).bind fun x49=>((AHi fuel a5 (w64 ((w64 (Int.tdiv (a3.length:Int) 2)) - 1))).bind fun x56=>(if (w64 (a5 - 1))≠0 then (some ((w64 (Int.tdiv (w64 ((w64 (x49 - x41)) * (w64 (x56 + x41)))) (w64 (a5 - 1)))),0)) else none))))))))
theorem Aat (fuel:Nat) (M:List (List Int)) (p:Int):AF3 fuel M p=(AHc fuel M p).bind fun x=>if ¬ x=0 then some (0,x) else Are fuel M p:=rfl
theorem Ala {s:Int} (h:s=1∨s= -1):w64 (0 - s)= -s/\(-s=1∨ -s= -1):=by rcases h with rfl | rfl <;> decide
theorem Arf {fuel:Nat} {a n T:Int} (hT:Aaa T 1 a n) (ha:0<=a) (Am:a<=2147483647) (Ao:n<=2147483647) (hf:2147483648 < fuel):ALz fuel a n=some T:=by
 apply ok_eq;unfold ALz;have Az:=Af0 hT;refine ABo (Q:=fun e:Int × Int=>T=if e.1=1 then e.2 else 0) (Aai (fun s:Int × Int × Int=>Aaa T s.2.2 s.1 s.2.1/\0<=s.1/\s.1<=2147483647/\s.2.1<=2147483647/\(s.2.2=1∨s.2.2= -1)) (fun s=>s.1.toNat) (fun s hI=>?_) ⟨hT,ha,Am,Ao,.inl rfl⟩ (by show a.toNat < fuel;omega)) fun e he=>?_
 ·obtain ⟨a,n,s⟩:=s;obtain ⟨h1,h2,h3,h4,h5⟩:=hI;have hn:=Af0 h1;unfold ANl;dsimp only at h1 h2 h3 h4 h5 hn ⊢;refine AB3 (fun h0=>?_) fun h0=>ABi ?_
  ·refine ABo (Q:=fun e:Int × Int=>Aaa T e.2 e.1 n/\0 < e.1/\e.1<=a/\e.1 % 2=1/\(e.2=1∨e.2= -1)) (Aai (fun s:Int × Int=>Aaa T s.2 s.1 n/\0 < s.1/\s.1<=a/\(s.2=1∨s.2= -1)) (fun s=>s.1.toNat) (fun s hI=>?_) ⟨h1,by omega,Int.le_refl _,h5⟩ (by show a.toNat < fuel;omega)) fun e he=>?_
   ·obtain ⟨b,t⟩:=s;obtain ⟨g1,g2,g3,g4⟩:=hI;dsimp only at g1 g2 g3 g4;unfold ANk;have Au:Int.tmod b 2=b % 2:=Int.tmod_eq_emod_of_nonneg (by omega);have Av:Int.tmod n 8=n % 8:=Int.tmod_eq_emod_of_nonneg (by omega);have Aw:w64 (Int.tdiv b 2)=b / 2:=by rw [Int.tdiv_eq_ediv_of_nonneg (by omega),wk (by omega)]
    obtain ⟨hw,hpm⟩:=Ala g4;rw [Au,Av,Aw,hw];refine AB3 (fun q1=>?_) fun q1=>ABi ⟨g1,g2,g3,by dsimp only;omega,g4⟩;have hh:=Ame g1 q1;refine AB3 (fun q2=>ABi ?_) fun q2=>AB3 (fun q3=>ABi ?_) fun q3=>ABi ?_
    ·rw [if_pos (.inl q2)] at hh;exact ⟨⟨hh,by dsimp only;omega,by dsimp only;omega,hpm⟩,by dsimp only;omega⟩
    ·rw [if_pos (.inr q3)] at hh;exact ⟨⟨hh,by dsimp only;omega,by dsimp only;omega,hpm⟩,by dsimp only;omega⟩
    ·rw [if_neg (by omega)] at hh;exact ⟨⟨hh,by dsimp only;omega,by dsimp only;omega,g4⟩,by dsimp only;omega⟩
   ·obtain ⟨b,t⟩:=e;obtain ⟨g1,g2,g3,g4,g5⟩:=he;dsimp only at g1 g2 g3 g4 g5 ⊢;have Ax:Int.tmod b 4=b % 4:=Int.tmod_eq_emod_of_nonneg (by omega);have Ay:Int.tmod n 4=n % 4:=Int.tmod_eq_emod_of_nonneg (by omega);have hnb:Int.tmod n b=n % b:=Int.tmod_eq_emod_of_nonneg (by omega);obtain ⟨hw,hpm⟩:=Ala g5;rw [Ax,Ay,hnb,hw];have hs:=Amf g1 g2 g4;refine ABo (Q:=fun e=>e=if b % 4=3/\n % 4=3 then -t else t) (AB3 (fun q1=>AB3 (fun q2=>ABi (by rw [if_pos ⟨q1,q2⟩])) fun q2=>ABi (by rw [if_neg (fun hh=>q2 hh.2)])) fun q1=>ABi (by rw [if_neg (fun hh=>q1 hh.1)])) fun e he=>?_;rw [<- he] at hs;have hr:=Int.emod_nonneg n (show b≠0 by omega);have A3:=Int.emod_lt_of_pos n g2;refine AEe (by omega) (ABi ⟨⟨hs,hr,by dsimp only;omega,by dsimp only;omega,?_⟩,by dsimp only;omega⟩);dsimp only;rw [he];split
    ·exact hpm
    ·exact g5
  ·have h0:a=0:=by omega
   subst h0;exact Apt h1
 ·obtain ⟨n,s⟩:=e;dsimp only at he ⊢;refine AB3 (fun h=>ABi ?_) fun h=>ABi ?_
  ·rw [he,if_neg h]
  ·rw [he,if_pos (by omega)]
theorem Arh {fuel:Nat} {a p:Int} (hp:OPr p) (Aa:p<=2147483647) (ha: -2147483647<=a) (Ab:a<=2147483647) (hf:2147483648 < fuel):AGp fuel a p=some (lg p a,0):=by
 have h3:=hp.three;have h2:=hp.2;unfold AGp;rw [if_neg (by omega),if_neg (by omega),if_neg (by omega),if_neg (by omega)];simp only [Option.bind_some];rw [if_neg (show ¬ p=0 by omega),if_neg (show ¬ p < 0 by omega)];simp only [Option.bind_some]
 have hit:iter (fun s:Int × Int=>AJs fuel a s.1 s.2) fuel (p,1)=some (Sum.inr (p,1)):=by
   apply ok_eq
   refine ACv (fun i s=>s=(p,1)/\i=0) 0 ⟨rfl,rfl⟩ (by omega) fun i s hi hI=>?_
   obtain ⟨rfl,rfl⟩:=hI
   unfold AJs
   rw [Int.tmod_eq_emod_of_nonneg (a:=p) (by omega)]
   exact AB3 (fun h=>by have h:p % 2=0:=h;omega) fun h=>ABi rfl
 rw [hit];simp only [Option.bind_some]
 have hres:AJn fuel a p=some (a % p):=by
   unfold AJn
   rw [if_pos (by omega),if_pos (by omega)]
   rw [Acg (by omega) (by omega)]
 rw [hres];simp only [Option.bind_some];have hr:=Int.emod_nonneg a (show p≠0 by omega);have Ae:=Int.emod_lt_of_pos a (show 0 < p by omega);rw [Arf (Aih hp) hr (by omega) Aa hf,Adv hp];simp only [Option.bind_some];congr 2;unfold lg;split
 ·decide
 ·split <;> decide
theorem Aee {fuel k:Nat} {p:Int} (hp:1<=p) (Aa:p ^ k<=9223372036854775807) (hk:k<=100) (hf:100 < fuel):AHi fuel p (k:Int)=some (p ^ k):=by
 apply ok_eq;unfold AHi;refine ABo (Q:=fun e=>e=p ^ k) (ACv (fun i s=>s=(p ^ i,(i:Int))/\i<=k) k ⟨by simp,Nat.zero_le _⟩ (by omega) fun i s hi hI=>?_) fun e he=>ABi he;obtain ⟨rfl,h2⟩:=hI;unfold AO3;refine AB3 (fun h=>?_) fun h=>ABi ?_
 ·have h:(i:Int) < k:=h;have hs:p ^ i * p=p ^ (i + 1):=(Int.pow_succ p i).symm;have:=AWe hp (show i + 1<=k by omega);have hpos:0 < p ^ (i + 1):=Int.pow_pos (by omega);refine ABi ⟨by omega,?_,by omega⟩;show (w64 (p ^ i * p),w64 ((i:Int) + 1))=_;rw [AGo (by omega),hs,wk (by omega)]
 ·have h: ¬ (i:Int) < k:=h;obtain rfl:i=k:=by omega
  rfl
theorem Aw3 {P:Nat} (hp:OPr (P:Int)) (h:P<=256):P∈AYr:=by
 have h3:=hp.three;have hall:(List.range 257).all (fun q=>q < 3 || AYr.contains q || (List.range q).any fun c=>decide (2<=c) && q % c == 0)=true:=by decide +kernel
 have:=List.all_eq_true.1 hall P (List.mem_range.2 (by omega));rw [Bool.or_eq_true,Bool.or_eq_true] at this;rcases this with (h1 | h1) | h1
 ·have:=of_decide_eq_true h1;omega
 ·exact List.contains_iff_mem.1 h1
 ·rw [List.any_eq_true] at h1;obtain ⟨c,hc,hcc⟩:=h1;rw [Bool.and_eq_true] at hcc;have Ac:=List.mem_range.1 hc;have Ad:=of_decide_eq_true hcc.1;have Ae:=eq_of_beq hcc.2;exact absurd (by omega:(P:Int) % (c:Int)=0) (hp.1.2 c (by omega) (by omega))
theorem E12 {P:Nat} (hp:OPr (P:Int)) (h:P<=256):E1 P/\E2 P:=by
 have hm:=Aw3 hp h;have h1:=List.all_eq_true.1 Aq7 P hm;have h2:=List.all_eq_true.1 Ara P hm;exact ⟨Aya hp h1,Ayb hp h1 h2⟩
theorem Ag2 (k:Nat):(-1:Int) ^ k=if k % 2=1 then -1 else 1:=by
 induction k with
 | zero=>rfl
 | succ k ih=>
   rw [Int.pow_succ,ih]
   by_cases h:k % 2=1
   · rw [if_pos h,if_neg (by omega)];rfl
   · rw [if_neg h,if_pos (by omega)];rfl
theorem Auc {p:Int} (h:2 < p) (hp:Pr p):OPr p:=⟨hp,by have:=hp.2 2 (by decide) (by omega);omega⟩
theorem Aw4 {P:Nat} {A:Nat->Nat->Int} (hd:A 0 0 % (P:Int)≠0):NL P 1 A=0:=by
 show SS P 0 (fun v=>zF P 1 A (AD6 1 v)) + 0=0;show zF P 1 A (AD6 1 fun _=>0) + 0=0;unfold zF;have:Qf 1 A (AD6 1 fun _=>0)=A 0 0:=by simp [Qf,nqI,psum,AD6]
 rw [this,if_neg hd];rfl
theorem Aud {fuel:Nat} {M:List (List Int)} {P:Nat} (R:AVf M) (ho:ARa (P:Int)=true) (hd:det M.length (ent M) % (P:Int)≠0) (hq:P ^ M.length<=65536) (hf:2147483648 < fuel):Are fuel M (P:Int)=some (NL P M.length (ent M),0):=by
 have hb:=ASu ho;have hpo:=Akc ho;have hp:=Auc hpo.1 hpo.2.2;have h8:=R.1.2;have h1n:=R.1.1;have hA:∀ a b,a < M.length->b < M.length->ent M a b=ent M b a:=R.2.2.sym;have hMt:=ATy R
 have hdet:AHh fuel M (P:Int)=some (det M.length (ent M) % (P:Int),0):=by
   conv=>lhs;rw [hMt]
   exact Aqu h1n h8 (by omega) (by omega) hf
 unfold Are;rw [hdet];generalize M.length=n at *;have Ag:Int.tmod (n:Int) 2=(n:Int) % 2:=Int.tmod_eq_emod_of_nonneg (by omega);have Ah:w64 (Int.tdiv (n:Int) 2)=((n / 2:Nat):Int):=by rw [Int.tdiv_eq_ediv_of_nonneg (by omega),wk (by omega)];omega
 have Ai:w64 ((P:Int) - 1)=(P:Int) - 1:=wk (by omega);rw [Ag,Ah,Ai]
 have hqi:∀ k,k<=n->(P:Int) ^ k<=65536:=fun k hk=>by
   have h1:=Nat.pow_le_pow_right (show 0 < P by omega) hk
   have:((P ^ k:Nat):Int)<=65536:=by omega
   rwa [Int.natCast_pow] at this
 have Ab:∀ k:Nat,0 < (P:Int) ^ k:=fun k=>Int.pow_pos (by omega)
 have Ae:2<=n->P<=256:=fun h2=>by
   have h1:=Nat.pow_le_pow_right (show 0 < P by omega) h2
   refine Classical.byContradiction fun hh=>?_
   have h5:257 * 257<=P * P:=Nat.mul_le_mul (by omega) (by omega)
   rw [Nat.pow_two] at h1
   omega
 by_cases hpar:(n:Int) % 2=1
 ·rw [if_pos hpar];have Ak:w64 (2 * ((n / 2:Nat):Int))=((2 * (n / 2):Nat):Int):=by rw [wk (by omega)];omega
  rw [Ak,Aee (by omega) (by have:=hqi (2 * (n / 2)) (by omega);omega) (by omega) (by omega)];simp only [Option.bind_some];rw [if_pos (by omega)];have h1:=hqi (2 * (n / 2)) (by omega);have h0:=Ab (2 * (n / 2))
  have hNL:((P:Int) - 1) * NL P n (ent M)=(P:Int) ^ (2 * (n / 2)) - 1:=by
    by_cases Am:n=1
    · subst Am
      have:det 1 (ent M)=ent M 0 0:=by simp [det,psum,sg]
      rw [this] at hd
      rw [Aw4 hd];simp
    · obtain ⟨e1,e2⟩:=E12 hp (Ae (by omega))
      exact Aw2 hp e1 e2 hA hd (by omega)
  rw [AE5 (x:=(P:Int) ^ (2 * (n / 2)) - 1) (by omega) (by omega),<- hNL,Int.mul_tdiv_cancel_left _ (by omega)]
  have hle:0<=NL P n (ent M)/\NL P n (ent M)<=65536:=by
    constructor
    · refine Classical.byContradiction fun hh=>?_
      have:((P:Int) - 1) * NL P n (ent M) < 0:=Int.mul_neg_of_pos_of_neg (by omega) (by omega)
      omega
    · refine Classical.byContradiction fun hh=>?_
      have:1 * NL P n (ent M)<=((P:Int) - 1) * NL P n (ent M):=Int.mul_le_mul_of_nonneg_right (by omega) (by omega)
      omega
  rw [wk (by omega)]
 ·rw [if_neg hpar];simp only [Option.bind_some];obtain ⟨m,rfl⟩:∃ m,n=2 * (m + 1):=⟨n / 2 - 1,by omega⟩;have hdv:2 * (m + 1) / 2=m + 1:=by omega
  rw [hdv];obtain ⟨e1,e2⟩:=E12 hp (Ae (by omega));have hNL:=Aub hp e1 e2 hA hd rfl;have hr:=Int.emod_nonneg (det (2 * (m + 1)) (ent M)) (show (P:Int)≠0 by omega);have Au:=Int.emod_lt_of_pos (det (2 * (m + 1)) (ent M)) (show (0:Int) < P by omega);have Ao:Int.tmod (((m + 1:Nat)):Int) 2=((m + 1:Nat):Int) % 2:=Int.tmod_eq_emod_of_nonneg (by omega)
  have hk:∀ e:Int,(if Int.tmod (((m + 1:Nat)):Int) 2=1 then (some (w64 (0 - det (2 * (m + 1)) (ent M) % (P:Int)))) else some (det (2 * (m + 1)) (ent M) % (P:Int)))=some e->AGp fuel e (P:Int)=some (lg P ((-1) ^ (m + 1) * det (2 * (m + 1)) (ent M)),0):=fun e he=>by
    rw [Ao,Ag2] at *
    by_cases h:(m + 1) % 2=1
    · rw [if_pos (by omega)] at he
      rw [if_pos h]
      have he:=Option.some.inj he
      rw [wk (by omega)] at he
      subst he
      rw [Arh hp (by omega) (by omega) (by omega) hf]
      congr 2
      refine AKe hp ?_
      have:=(Eqm.refl (P:Int) 0).sub (Eqm.mod (P:Int) (det (2 * (m + 1)) (ent M)))
      refine this.trans (Eqm.of_eq (by omega))
    · rw [if_neg (by omega)] at he
      rw [if_neg h]
      have he:=Option.some.inj he
      subst he
      rw [Arh hp (by omega) (by omega) (by omega) hf,Adv hp,Int.one_mul]
  obtain ⟨e,he⟩:∃ e:Int,(if Int.tmod (((m + 1:Nat)):Int) 2=1 then (some (w64 (0 - det (2 * (m + 1)) (ent M) % (P:Int)))) else some (det (2 * (m + 1)) (ent M) % (P:Int)))=some e:=by
    by_cases h:Int.tmod (((m + 1:Nat)):Int) 2=1
    · exact ⟨_,if_pos h⟩
    · exact ⟨_,if_neg h⟩
  rw [he];simp only [Option.bind_some];rw [hk e he];simp only [Option.bind_some];have Ap:w64 (((m + 1:Nat):Int) - 1)=(m:Int):=by rw [wk (by omega)];omega
  rw [Ap,Aee (by omega) (by have:=hqi (m + 1) (by omega);omega) (by omega) (by omega)];simp only [Option.bind_some];rw [Aee (by omega) (by have:=hqi m (by omega);omega) (by omega) (by omega)];simp only [Option.bind_some];rw [if_pos (by omega)]
  have hl: -1<=lg P ((-1) ^ (m + 1) * det (2 * (m + 1)) (ent M))/\lg P ((-1) ^ (m + 1) * det (2 * (m + 1)) (ent M))<=1:=by
    unfold lg
    split
    · omega
    · split <;> omega
  generalize lg P ((-1) ^ (m + 1) * det (2 * (m + 1)) (ent M))=χ at hl hNL;have g1:=hqi (m + 1) (by omega);have g2:=hqi m (by omega);have g3:=Ab (m + 1);have g4:=Ab m
  have hprod:0<=((P:Int) ^ (m + 1) - χ) * ((P:Int) ^ m + χ)/\((P:Int) ^ (m + 1) - χ) * ((P:Int) ^ m + χ)<=65537 * 65537:=by
    constructor
    · exact Int.mul_nonneg (by omega) (by omega)
    · exact Int.mul_le_mul (by omega) (by omega) (by omega) (by omega)
  rw [AE5 (x:=(P:Int) ^ (m + 1) - χ) (by omega) (by omega),AE5 (x:=(P:Int) ^ m + χ) (by omega) (by omega),AE5 (x:=((P:Int) ^ (m + 1) - χ) * ((P:Int) ^ m + χ)) (by omega) (by omega),<- hNL,Int.mul_tdiv_cancel_left _ (by omega)]
  have hle:0<=NL P (2 * (m + 1)) (ent M)/\NL P (2 * (m + 1)) (ent M)<=65537 * 65537:=by
    constructor
    · refine Classical.byContradiction fun hh=>?_
      have:((P:Int) - 1) * NL P (2 * (m + 1)) (ent M) < 0:=Int.mul_neg_of_pos_of_neg (by omega) (by omega)
      omega
    · refine Classical.byContradiction fun hh=>?_
      have:1 * NL P (2 * (m + 1)) (ent M)<=((P:Int) - 1) * NL P (2 * (m + 1)) (ent M):=Int.mul_le_mul_of_nonneg_right (by omega) (by omega)
      omega
  rw [wk (by omega)]
noncomputable def Ack (M:List (List Int)) (P:Nat):List (List Int):=((List.range (P ^ M.length)).map (AIf M.length P)).filter (APo M P)
theorem Alb {n P i:Nat} (hP:2<=P):InR (P:Int) (AIf n P i):=fun x hx=>by
  obtain ⟨c,_,rfl⟩:=List.mem_map.1 hx
  have:=Arc (n:=n) (i:=i) (c:=c) hP
  omega
theorem Am0 {M:List (List Int)} {P:Nat} (hP:2<=P):((Ack M P).length:Int)=NL P M.length (ent M):=by
 unfold Ack NL;rw [AX0,<- Acj hP];refine ABv fun k _=>?_
 have hiff:(APo M P (AIf M.length P k)=true)↔AMq (AIf M.length P k)=1/\Qf M.length (ent M) (vF (AIf M.length P k)) % (P:Int)=0:=by
   constructor
   · intro h
     have:=Ak0 h
     exact ⟨this.2.2.1,this.2.2.2⟩
   · rintro ⟨h1,h2⟩
     exact (Aiy ⟨ADb ..,Alb hP,h1,h2⟩).symm
 unfold zF;by_cases h:AMq (AIf M.length P k)=1
 ·by_cases h2:Qf M.length (ent M) (vF (AIf M.length P k)) % (P:Int)=0
  ·rw [if_pos (hiff.2 ⟨h,h2⟩),if_pos h,if_pos h2]
  ·rw [if_neg (fun hh=>h2 (hiff.1 hh).2),if_pos h,if_neg h2]
 ·rw [if_neg (fun hh=>h (hiff.1 hh).1),if_neg h]
theorem AXi {P:Nat} (hP:2<=P):∀ {n k e:Nat},e < n->P ^ e<=k->k < P ^ (e + 1)->AMq (AIf n P k)=((k / P ^ e:Nat):Int)
  | 0,k,e,h,_,_=>absurd h (Nat.not_lt_zero _)
  | n + 1,k,e,h,h1,h2=>by
    have hpos:0 < P ^ n:=Nat.pow_pos (by omega);have hle:P ^ (e + 1)<=P ^ (n + 1):=Nat.pow_le_pow_right (by omega) (by omega);have hk:k=k / P ^ n * P ^ n + k % P ^ n:=by rw [Nat.mul_comm];exact (Nat.div_add_mod k (P ^ n)).symm
    have hx:k / P ^ n < P:=by
      have e5:P ^ n * P=P ^ (n + 1):=rfl;exact Nat.div_lt_of_lt_mul (by rw [e5];exact Nat.lt_of_lt_of_le h2 hle)
    have hm:=Nat.mod_lt k hpos
    have e1:AIf (n + 1) P k=((k / P ^ n:Nat):Int) :: AIf n P (k % P ^ n):=by
      conv=>lhs;rw [hk]
      exact ARz hP hx hm
    rw [e1];show (if ((k / P ^ n:Nat):Int)=0 then AMq (AIf n P (k % P ^ n)) else ((k / P ^ n:Nat):Int))=_
    by_cases he:e=n
    · subst he;have:1<=k / P ^ e:=(Nat.le_div_iff_mul_le hpos).2 (by omega);rw [if_neg (by omega)]
    · have h3:P ^ (e + 1)<=P ^ n:=Nat.pow_le_pow_right (by omega) (by omega);have h4:k / P ^ n=0:=Nat.div_eq_of_lt (by omega);rw [h4,if_pos (show ((0:Nat):Int)=0 from rfl),Nat.mod_eq_of_lt (by omega)];exact AXi hP (by omega) h1 h2
theorem Ai4 (n P:Nat):AMq (AIf n P 0)=0:=by
 have h:∀ L:List Int,(∀ x∈L,x=0)->AMq L=0:=by
   intro L
   induction L with
   | nil=>intro _;rfl
   | cons y L ih=>intro hw;show (if y=0 then AMq L else y)=0;rw [if_pos (hw y (List.mem_cons_self ..))];exact ih fun x hx=>hw x (List.mem_cons_of_mem _ hx)
 refine h _ fun x hx=>?_;obtain ⟨c,_,rfl⟩:=List.mem_map.1 hx;rw [Ak7];rfl
theorem Aau {α:Type} (p:α->Bool) (g:Nat->α) (a:Nat):∀ d,(∀ k,a<=k->k < a + d->p (g k)=false)->((List.range (a + d)).map g).filter p=((List.range a).map g).filter p
  | 0,_=>rfl
  | d + 1,h=>by
    rw [show a + (d + 1)=a + d + 1 by omega,List.range_succ,List.map_append,List.filter_append,Aau p g a d (fun k h1 h2=>h k h1 (by omega))]
    have:=h (a + d) (by omega) (by omega)
    simp [this]
noncomputable def APi (M:List (List Int)) (P k:Nat):List (List Int):=((List.range k).map (AIf M.length P)).filter (APo M P)
theorem Aav (M:List (List Int)) (P k:Nat):APi M P (k + 1)=APi M P k ++ (if APo M P (AIf M.length P k)=true then [AIf M.length P k] else []):=by
 unfold APi;rw [List.range_succ,List.map_append,List.filter_append];congr 1;by_cases h:APo M P (AIf M.length P k)=true
 ·simp [h]
 ·simp [h]
theorem Am1 (M:List (List Int)) (P:Nat):APi M P 1=[]:=by
 have h:APo M P (AIf M.length P 0)=false:=(AVh fun hh=>by have:=hh.2.2.1;rw [Ai4] at this;cases this).symm;have:=Aav M P 0;rw [h] at this;rw [this];rfl
theorem Am2 {M:List (List Int)} {P e:Nat} (hP:2<=P) (he:e < M.length):APi M P (P ^ (e + 1))=APi M P (2 * P ^ e):=by
 have hle:2 * P ^ e<=P ^ (e + 1):=by rw [Nat.pow_succ,Nat.mul_comm];exact Nat.mul_le_mul_left _ hP
 have hpos:0 < P ^ e:=Nat.pow_pos (by omega);unfold APi;rw [show P ^ (e + 1)=2 * P ^ e + (P ^ (e + 1) - 2 * P ^ e) by omega];refine Aau _ _ _ _ fun k h1 h2=>(AVh fun hh=>?_).symm;have h3:=hh.2.2.1;rw [AXi hP he (by omega) (by omega)] at h3;have:2<=k / P ^ e:=(Nat.le_div_iff_mul_le hpos).2 h1;omega
theorem Acl (M:List (List Int)) (P k:Nat):(APi M P k).length<=k:=by
 unfold APi;have:=List.length_filter_le (APo M P) ((List.range k).map (AIf M.length P));rw [List.length_map,List.length_range] at this;exact this
theorem Aue {fuel:Nat} {M:List (List Int)} {P:Nat} (R:AVf M) (ho:ARa (P:Int)=true) (hd:det M.length (ent M) % (P:Int)≠0) (hq:P ^ M.length<=65536) (hf:2147483648 < fuel):AE8 fuel M (P:Int)=some (Ack M P,0):=by
 have hb:=ASu ho;have h8:=R.1.2;have h1n:=R.1.1
 have hqi: ¬ 65536 < (P:Int) ^ M.length:=by
   have:((P ^ M.length:Nat):Int)<=65536:=by omega
   rw [Int.natCast_pow] at this;omega
 have hck:ASt M (P:Int) true=0:=by
   unfold ASt
   rw [if_pos ((APu M).2 R),if_pos ⟨ho,hd⟩,if_neg (fun hh=>hqi hh.2)]
 apply ok_eq;unfold AE8;rw [ASv hf,hck];simp only [Option.bind_some];rw [if_neg (by decide),Awy R (by omega) (by omega) (by omega)];simp only [Option.bind_some];refine ABo (Q:=fun e=>e=Ack M P) (ABo (ACv (fun e s=>s=((M.length:Int) - 1 - e,APi M P (P ^ e))/\e<=M.length) M.length (Q:=fun e=>e=Ack M P) ⟨?_,Nat.zero_le _⟩ (by omega) fun e s he hI=>?_) fun e he=>ABi he) fun e he=>ABi (by rw [he])
 ·rw [Nat.pow_zero,Am1,wk (by omega)];refine Prod.ext ?_ rfl;show (M.length:Int) - 1=(M.length:Int) - 1 - ((0:Nat):Int);omega
 ·obtain ⟨rfl,hen⟩:=hI;unfold AO8;dsimp only;refine AB3 (fun h=>?_) fun h=>?_
  ·have Am:e < M.length:=by omega
   have hep:P ^ (e + 1)<=65536:=Nat.le_trans (Nat.pow_le_pow_right (by omega) (by omega)) hq;have hpos:0 < P ^ e:=Nat.pow_pos (by omega);have h2e:2 * P ^ e<=P ^ (e + 1):=by rw [Nat.pow_succ,Nat.mul_comm];exact Nat.mul_le_mul_left _ (by omega)
   refine AEe (by omega) ?_;have e3:List.replicate (Int.toNat (M.length:Int)) (0:Int)=ADz M.length fun _=>0:=AHq M.length 0;rw [e3];refine AB7 (n:=M.length - 1 - e) (ACn (by omega)) (by omega) ?_
   have hst:sI (ADz M.length fun _=>(0:Int)) ((M.length:Int) - 1 - (e:Int)) 1=AIf M.length P (P ^ e):=by
     rw [show (M.length:Int) - 1 - (e:Int)=((M.length - 1 - e:Nat):Int) by omega,ADy,AEz]
     refine ACu fun c hc=>?_
     unfold dg
     by_cases h1:c=M.length - 1 - e
     · rw [if_pos h1,show M.length - 1 - c=e by omega,Nat.div_self hpos,Nat.mod_eq_of_lt (by omega)];rfl
     · rw [if_neg h1]
       rcases Nat.lt_or_ge e (M.length - 1 - c) with h2 | h2
       · have:P ^ e < P ^ (M.length - 1 - c):=Nat.pow_lt_pow_right (by omega) h2
         rw [Nat.div_eq_of_lt this,Nat.zero_mod];rfl
       · obtain ⟨d,hdd⟩:∃ d,e=(M.length - 1 - c) + 1 + d:=⟨e - (M.length - 1 - c) - 1,by omega⟩
         have h4:P ^ e=P ^ (M.length - 1 - c) * (P * P ^ d):=by
           conv=>lhs;rw [hdd]
           rw [Nat.pow_add,Nat.pow_succ,Nat.mul_assoc]
         rw [h4,Nat.mul_div_cancel_left _ (Nat.pow_pos (by omega)),Nat.mul_mod_right];rfl
   rw [hst];refine ABo (Q:=fun r=>r=APi M P (P ^ (e + 1))) (ACv (fun j s=>s=(APi M P (P ^ e + j),AIf M.length P (P ^ e + j))/\j < P ^ e) (P ^ e) ⟨rfl,hpos⟩ (by omega) fun j s hj hI=>?_) fun r hr=>ABi ⟨by omega,?_,by omega⟩
   ·obtain ⟨rfl,hje⟩:=hI;unfold AO7;dsimp only;generalize hi:P ^ e + j=i;have Aq:P ^ e<=i:=by omega
    have Ar:i < 2 * P ^ e:=by omega
    have hl:(AIf M.length P i).length=M.length:=ADb ..;have hr:=Alb (n:=M.length) (i:=i) (show 2<=P by omega)
    have hlead:AMq (AIf M.length P i)=1:=by
      rw [AXi (by omega) Am Aq (by omega)]
      have:i / P ^ e=1:=Nat.div_eq_of_lt_le (by omega) (by omega)
      rw [this];rfl
    have hV:AIf M.length P i=ADz M.length (vF (AIf M.length P i)):=by
      have:=(Akz (AIf M.length P i)).symm
      rwa [hl] at this
    have hn:AKk fuel (tab M.length M.length fun i j=>ent M i j % (P:Int)) (AIf M.length P i) (P:Int)=some (nq M.length (ent M) (vF (AIf M.length P i)) (P:Int)):=by
      conv=>lhs;rw [hV]
      exact At4 h8 (by omega) (by omega) (fun c hc=>by have:=Ax6 hr (i:=c) (by omega);omega) (by omega)
    rw [hn];simp only [Option.bind_some];have hcar:=Acl M P i;refine ABo (Q:=fun r=>r=APi M P (i + 1)) ?_ fun r Ai=>?_
    ·rw [Aav];refine AB3 (fun h0=>?_) fun h0=>ABi ?_
     ·unfold AKi;rw [if_pos (by omega)];simp only [Option.bind_some];rw [if_pos (by omega),<- Aiy ⟨hl,hr,hlead,h0⟩];exact ABi rfl
     ·rw [<- AVh fun hh=>h0 hh.2.2.2];simp
    ·subst Ai;refine ABo (Q:=fun r:Int × List Int=> ∃ k:Nat,k<=e/\r.1=((M.length - 1 - k:Nat):Int)/\(∀ c,M.length - k<=c->c < M.length->dg M.length P i c=P - 1)/\(k=e∨dg M.length P i (M.length - 1 - k)≠P - 1)/\r.2=ADz M.length fun c=>if M.length - k<=c then 0 else ((dg M.length P i c:Nat):Int)) (ABo (ACv (fun k s=>s=((M.length:Int) - 1 - k,ADz M.length fun c=>if M.length - k<=c then 0 else ((dg M.length P i c:Nat):Int))/\k<=e/\ ∀ c,M.length - k<=c->c < M.length->dg M.length P i c=P - 1) e ⟨?_,Nat.zero_le _,fun c h1 h2=>by omega⟩ (by omega) fun k s hk hI=>?_) fun r hr=>ABi hr) fun r Ai=>?_
     ·refine Prod.ext ?_ (ACu fun c hc=>by rw [if_neg (by omega)]);show w64 ((M.length:Int) - 1)=(M.length:Int) - 1 - ((0:Nat):Int);rw [wk (by omega)];omega
     ·obtain ⟨rfl,hke,hall⟩:=hI;unfold AO6;dsimp only;refine ABo (Q:=fun ex=>(ex= .inl ()/\k < e/\dg M.length P i (M.length - 1 - k)=P - 1)∨(ex= .inr ()/\(k=e∨dg M.length P i (M.length - 1 - k)≠P - 1))) ?_ fun ex hex=>?_
      ·refine AB3 (fun h=>?_) fun h=>ABi (.inr ⟨rfl,.inl (by omega)⟩);have Ae:M.length - 1 - k < M.length:=by omega
       refine AB7 (n:=M.length - 1 - k) (ACn Ae) (by omega) ?_;have e1:(if M.length - k<=M.length - 1 - k then (0:Int) else ((dg M.length P i (M.length - 1 - k):Nat):Int))=((dg M.length P i (M.length - 1 - k):Nat):Int):=if_neg (by omega);rw [e1,AE5 (x:=(P:Int) - 1) (by omega) (by omega)];refine AB3 (fun h3=>ABi (.inl ⟨rfl,by omega,by omega⟩)) fun h3=>ABi (.inr ⟨rfl,.inr fun h4=>h3 (by omega)⟩)
      ·rcases hex with ⟨rfl,h3,h4⟩ | ⟨rfl,h3⟩
       ·have Ae:M.length - 1 - k < M.length:=by omega
        dsimp only;refine AB7 (n:=M.length - 1 - k) (ACn Ae) (by omega) (ABi ⟨h3,?_,by omega,fun c h5 h6=>?_⟩)
        ·rw [show (M.length:Int) - 1 - (k:Int)=((M.length - 1 - k:Nat):Int) by omega,ADy,AEz];refine Prod.ext ?_ (ACu fun c hc=>?_)
         ·show w64 (((M.length - 1 - k:Nat):Int) - 1)=(M.length:Int) - 1 - ((k + 1:Nat):Int);rw [wk (by omega)];omega
         ·by_cases h7:c=M.length - 1 - k
          ·rw [if_pos h7,if_pos (by omega)]
          ·rw [if_neg h7];by_cases h8:M.length - k<=c
           ·rw [if_pos h8,if_pos (by omega)]
           ·rw [if_neg h8,if_neg (by omega)]
        ·rcases Nat.lt_or_ge c (M.length - k) with h7 | h7
         ·obtain rfl:c=M.length - 1 - k:=by omega
          exact h4
         ·exact hall c h7 h6
       ·exact ABi ⟨k,hke,by dsimp only;omega,hall,h3,rfl⟩
     ·obtain ⟨x,W⟩:=r;obtain ⟨k,hke,h3,hall,hne,h4⟩:=Ai;dsimp only at h3 h4 ⊢;subst h3;subst h4;have hlow:=ASx (n:=M.length) (P:=P) (i:=i) (j:=k) (by omega) (by omega) hall;refine AB3 (fun h5=>ABi ?_) fun h5=>?_
      ·obtain rfl:k=e:=by omega
       have hm:i % P ^ k=i - P ^ k:=by
         conv=>lhs;rw [show i=P ^ k * 1 + (i - P ^ k) by omega]
         rw [Nat.mul_add_mod,Nat.mod_eq_of_lt (by omega)]
       show APi M P (i + 1)=APi M P (P ^ (k + 1));rw [Am2 (by omega) Am,show i + 1=2 * P ^ k by omega]
      ·have Au:k < e:=by omega
       have hne:=hne.resolve_left (by omega);have Ae:M.length - 1 - k < M.length:=by omega
       refine AB7 (ACn Ae) rfl (ABi ?_);have e1:(if M.length - k<=M.length - 1 - k then (0:Int) else ((dg M.length P i (M.length - 1 - k):Nat):Int))=((dg M.length P i (M.length - 1 - k):Nat):Int):=if_neg (by omega);rw [e1];have hlt:=Arc (n:=M.length) (i:=i) (c:=M.length - 1 - k) (show 2<=P by omega);have hsd:=AXz (n:=M.length) (P:=P) (i:=i) (j:=k) (by omega) (by omega) hall hne
       have hsucc:AIf M.length P (i + 1)=sI (ADz M.length fun c=>if M.length - k<=c then 0 else ((dg M.length P i c:Nat):Int)) ((M.length - 1 - k:Nat):Int) (w64 (((dg M.length P i (M.length - 1 - k):Nat):Int) + 1)):=by
         rw [wk (by omega),ADy,AEz]
         refine ACu fun c hc=>?_
         rw [hsd c hc]
         by_cases h7:c=M.length - 1 - k
         · subst h7
           rw [if_neg (by omega),if_pos rfl,if_pos rfl];rfl
         · rw [if_neg h7,if_neg h7]
           by_cases h8:M.length - k<=c
           · rw [if_pos h8,if_pos h8];rfl
           · rw [if_neg h8,if_neg h8]
       have hlast:i + 1 < 2 * P ^ e:=by
         refine Nat.lt_of_le_of_ne (by omega) fun hh=>?_
         have h6:=hsd (M.length - 1 - k) Ae
         rw [if_neg (by omega),if_pos rfl,hh] at h6
         unfold dg at h6
         rw [show M.length - 1 - (M.length - 1 - k)=k by omega] at h6
         obtain ⟨d,hdd⟩:∃ d,e=k + 1 + d:=⟨e - k - 1,by omega⟩
         have h7:2 * P ^ e=P ^ k * (P * (2 * P ^ d)):=by
           conv=>lhs;rw [hdd]
           rw [Nat.pow_add,Nat.pow_succ]
           simp only [Nat.mul_left_comm,Nat.mul_comm,Nat.mul_assoc]
         rw [h7,Nat.mul_div_cancel_left _ (Nat.pow_pos (by omega)),Nat.mul_mod_right] at h6
         omega
       exact ⟨hje,by rw [<- hsucc,show P ^ e + (j + 1)=i + 1 by omega],by omega⟩
   ·rw [hr];refine Prod.ext ?_ rfl;show w64 ((M.length:Int) - 1 - (e:Int) - 1)=(M.length:Int) - 1 - ((e + 1:Nat):Int);rw [wk (by omega)];omega
  ·obtain rfl:e=M.length:=by omega
   exact ABi rfl
end Go.Proofs.YtiegjkmfpcgjjaaGreatDoor
namespace Go.Proofs.YtiegjkmfpcgjjaaGreatDoor
open Go Go.QF
set_option maxRecDepth 100000
set_option maxHeartbeats 4000000
noncomputable def AG0 (fuel:Nat) (a3:LiI) (a5 a6:Int) (a9 Aq:LiA) (Ai Aj:Int) (Ak Ar:Bool):Option Bool:=
  ((AG5 fuel a3).bind fun Au=>(if Au=true then ((ADm fuel).bind fun Av=>(some Av)) else (if Ar=true then ((AE7 fuel a5 a6 a9 Aq 5).bind fun Ab=>((AFx fuel Ai Aj Ak).bind fun Ac=>((AGu fuel Ab Ac).bind fun Aw=>(if (!Aw)=true then ((ADm fuel).bind fun Ax=>(some Ax)) else ((AE8 fuel Ab Ac).bind fun (Ay,Az)=>((AEc fuel Ab Ac).bind fun (Ae,Af)=>((AJu fuel Ab Ac).bind fun (A3,A4)=>((AF3 fuel Ab Ac).bind fun (A5,A6)=>(if Az=Af then (if A4=Af then (if A6=Af then (if A3=(Ae.length:Int) then (if A5=(Ae.length:Int) then ((AEn fuel Ay Ae).bind fun A7=>(if A7=true then ((ADm fuel).bind fun A8=>(some A8)) else (some false))) else (some false)) else (some false)) else (some false)) else (some false)) else (some false)))))))))) else ((AFx fuel Ai Aj Ak).bind fun Ad=>((AGu fuel a3 Ad).bind fun A9=>(if (!A9)=true then ((ADm fuel).bind fun Ba=>(some Ba)) else ((AE8 fuel a3 Ad).bind fun (Bb,Bc)=>((AEc fuel a3 Ad).bind fun (Ag,Ah)=>((AJu fuel a3 Ad).bind fun (Be,Bf)=>((AF3 fuel a3 Ad).bind fun (Bg,Bh)=>(if Bc=Ah then (if Bf=Ah then (if Bh=Ah then (if Be=(Ag.length:Int) then (if Bg=(Ag.length:Int) then ((AEn fuel Bb Ag).bind fun Bi=>(if Bi=true then ((ADm fuel).bind fun Bj=>(some Bj)) else (some false))) else (some false)) else (some false)) else (some false)) else (some false)) else (some false))))))))))))
theorem AO9 {fuel:Nat} {h:ABj} {Bg:Value} {a3:LiI} {a5 a6:Int} {Ai:Value} {a9:LiA} {Aj:Value} {Bj:LiA} {Bl Bm:Int} {Bn Bo r:Bool} (H2:AFo (cI .i64) h Bg a3) (H8:SlC (cI .i8) h Ai a9) (Cn:SlC (cI .i8) h Aj Bj) (HO:AU4 h) (hp:AG0 fuel a3 a5 a6 a9 Bj Bl Bm Bn Bo=some r):ACa Tryz.prog 5 #[Bg,(.agg #[(.int .u8 a5),(.int .u8 a6),Ai,Aj]),(.int .u8 Bl),(.int .i64 Bm),(.bool Bn),(.bool Bo)] h (fun x h'=>Ext h h'/\x= .bool r):=by
 unfold AG0 at hp;refine cwf (l:=[_,_,_,_,_,_]) Tryz.func5 rfl rfl (ABl (AIj [(.int .u8 a5),(.int .u8 a6),Ai,Aj] trivial tt2 rfl rfl fun Fr Ft Co Cp Cq=>ABq (ABn (ABl (Wl ?_)))));have Bp:=(Kst.k0 h).nb Cp Cq Co;obtain ⟨Fu,Cr,Bq⟩:=ABm hp;refine ACw rfl (ARe (H2.ext Bp.x) Cr) fun Fv Fw Ct Cu=>?_;subst Cu;refine ABp ?_;have Ac:=Bp.e Ct;refine ⟨_,rfl,fun Ay=>?_,fun Ay=>?_⟩
 ·refine ABl ?_;obtain ⟨Fx,Cv,Cw⟩:=ABm (ifT Bq Ay);refine ACw rfl (AF4 (HO.ext Ac.x) Cv) fun Fy Fz Cx Cy=>?_;subst Cy;refine ABq (ABs (AB2 ?_));obtain rfl:=ABk Cw;exact ⟨_,ABu,(Ac.e Cx).x,rfl⟩
 ·refine ABt (q_t (ABn (ABl (Wl (ABp ?_)))));have Br:=AJc Bq Ay;refine ⟨_,rfl,fun Az=>?_,fun Az=>?_⟩
  ·refine ABy (AHm [(.int .u8 a5),(.int .u8 a6),Ai,Aj] Aph rfl rfl (Ac.b p0).agg ?_);obtain ⟨F4,Cz,C0⟩:=ABm (ifT Br Az);refine ACw rfl (AN4 (H8.ext Ac.x) (Cn.ext Ac.x) Cz) fun F5 F6 C1 C2=>?_;obtain ⟨F7,F8,F9,Ga,rfl,C3,C4⟩:=C2;refine ACr (Wl (Wl (Wl ?_)));obtain ⟨Gb,C5,C6⟩:=ABm C0;refine ACw rfl (AMp C5) fun Gc Gd C7 C8=>?_;subst C8;refine ABq (ABn (ABl (Wl (Wl ?_))));have Bt:=(Ac.no2 C1 C4 C3).e C7;obtain ⟨Ge,C9,Bu⟩:=ABm C6;refine ACw rfl (ANo (Bt.o2 p0).rd C9) fun Gf Gg Da Db=>?_;subst Db;refine AF9 rfl (ABp ?_);have Ae:=Bt.e Da;refine ⟨_,rfl,fun A3=>?_,fun A3=>?_⟩
   ·refine ABl ?_;obtain ⟨Gh,Dc,Dd⟩:=ABm (ifT Bu A3);refine ACw rfl (AF4 (HO.ext Ae.x) Dc) fun Gi Gj De Df=>?_;subst Df;refine ABq (ABs (AB2 ?_));obtain rfl:=ABk Dd;exact ⟨_,ABu,(Ae.e De).x,rfl⟩
   ·refine ABt (q_t (ABl (Wl (Wl ?_))));obtain ⟨⟨Gk,Dg⟩,Dh,Bv⟩:=ABm (AJc Bu A3);dsimp only at Bv;refine ACw rfl (AMt (Ae.o2 p0).rd (HO.ext Ae.x) Dh) fun Gl Gm Di Dj=>?_;obtain ⟨Gn,Gp,Gq,Gr,rfl,Dk,Dl⟩:=Dj;refine Wl (AC4 rfl rfl (AC4 rfl rfl (ACg (ACr (Wl (Wl ?_))))));have Bw:=Ae.no2 Di Dl Dk;obtain ⟨⟨Bx,A4⟩,Dn,By⟩:=ABm Bv;dsimp only at By;refine ACw rfl (AMo (Bw.o2 p1).rd Dn) fun Gt Gu Do Dp=>?_;obtain ⟨Gv,Gw,Gx,Gy,rfl,Dq,Dr⟩:=Dp;refine Wl (AC4 rfl rfl (AC4 rfl rfl (ACg (ACr (Wl (Wl ?_))))));have A5:=Bw.no2 Do Dr Dq;obtain ⟨⟨Ds,Dt⟩,Du,Bz⟩:=ABm By;dsimp only at Bz;refine ACw rfl (AS7 (A5.o2 p2).rd (HO.ext A5.x) Du) fun Gz G3 Dv Dw=>?_;subst Dw;refine Wl (AC4 rfl rfl (AC4 rfl rfl (ACg (ACr (Wl (Wl ?_))))));have A6:=A5.e Dv;obtain ⟨⟨Dx,Dy⟩,Dz,A7⟩:=ABm Bz;dsimp only at A7;refine ACw rfl (ANm (A6.o2 p2).rd (HO.ext A6.x) Dz) fun G4 G5 D0 D1=>?_;subst D1;refine Wl (AC4 rfl rfl (AC4 rfl rfl (ACg (ACr (Wl (Wl (ADk rfl rfl (Wl ?_))))))));have Aa:=A6.e D0;by_cases Ak:Dg=A4
    ·have B1:=ifT A7 Ak;rw [decide_eq_true Ak];refine ACb 64 true (Wl (ACb 64 true (Wl (ACb 64 true (ADk rfl rfl (ABz rfl (Wl ?_)))))));by_cases Am:Dt=A4
     ·have B2:=ifT B1 Am;rw [decide_eq_true Am];refine ACb 69 true (Wl (ACb 69 true (Wl (ACb 69 true (ADk rfl rfl (ABz rfl (Wl ?_)))))));by_cases Ao:Dy=A4
      ·have B3:=ifT B2 Ao;rw [decide_eq_true Ao];refine ACb 74 true (Wl (ACb 74 true (Wl (ACb 74 true (ADh AB4 rfl (Aa.o2 p0).rd (ACb 74 true (ADk rfl rfl (ABz rfl (Wl ?_)))))))));by_cases Ap:Ds=(Bx.length:Int)
       ·have B4:=ifT B3 Ap;rw [decide_eq_true Ap];refine ACb 80 true (Wl (ACb 80 true (Wl (ACb 80 true (ADh AB4 rfl (Aa.o2 p0).rd (ACb 80 true (ADk rfl rfl (ABz rfl (Wl ?_)))))))));by_cases Aq:Dx=(Bx.length:Int)
        ·rw [decide_eq_true Aq];refine ACb 86 true (Wl (ACb 86 true (Wl (ACb 86 true ?_))));obtain ⟨D2,D3,B5⟩:=ABm (ifT B4 Aq);refine ACw rfl (AKh (Aa.o2 p1).rd (Aa.o2 p0).rd D3) fun G6 G7 D4 D5=>?_;subst D5;refine ABz rfl (Wl ?_);have A8:=Aa.e D4;cases B6:D2
         ·refine AS0 91 false (ABw rfl (ABq (ABs ?_)));obtain rfl:=ABk (AJc B5 B6);exact ⟨_,ABu,A8.x,rfl⟩
         ·refine ACb 91 true ?_;obtain ⟨G8,D6,D7⟩:=ABm (ifT B5 B6);refine ACw rfl (AF4 (HO.ext A8.x) D6) fun G9 Hb D8 D9=>?_;subst D9;refine ABz rfl (ABq (ABs ?_));obtain rfl:=ABk D7;exact ⟨_,ABu,(A8.e D8).x,rfl⟩
        ·rw [decide_eq_false Aq];refine AG1 86 false (ABw rfl (Wl (AS0 91 false (ABw rfl (ABq (ABs ?_))))));obtain rfl:=ABk (ifF B4 Aq);exact ⟨_,ABu,Aa.x,rfl⟩
       ·rw [decide_eq_false Ap];refine AJa 80 false (ABw rfl (Wl (AG1 86 false (ABw rfl (Wl (AS0 91 false (ABw rfl (ABq (ABs ?_)))))))));obtain rfl:=ABk (ifF B3 Ap);exact ⟨_,ABu,Aa.x,rfl⟩
      ·rw [decide_eq_false Ao];refine AJa 74 false (ABw rfl (Wl (AJa 80 false (ABw rfl (Wl (AG1 86 false (ABw rfl (Wl (AS0 91 false (ABw rfl (ABq (ABs ?_))))))))))));obtain rfl:=ABk (ifF B2 Ao);exact ⟨_,ABu,Aa.x,rfl⟩
     ·rw [decide_eq_false Am];refine AG1 69 false (ABw rfl (Wl (AJa 74 false (ABw rfl (Wl (AJa 80 false (ABw rfl (Wl (AG1 86 false (ABw rfl (Wl (AS0 91 false (ABw rfl (ABq (ABs ?_)))))))))))))));obtain rfl:=ABk (ifF B1 Am);exact ⟨_,ABu,Aa.x,rfl⟩
    ·rw [decide_eq_false Ak];refine AG1 64 false (ABw rfl (Wl (AG1 69 false (ABw rfl (Wl (AJa 74 false (ABw rfl (Wl (AJa 80 false (ABw rfl (Wl (AG1 86 false (ABw rfl (Wl (AS0 91 false (ABw rfl (ABq (ABs ?_))))))))))))))))));obtain rfl:=ABk (ifF A7 Ak);exact ⟨_,ABu,Aa.x,rfl⟩
  ·refine ABt (q_t (ABl (Wl (Wl (Wl ?_)))));obtain ⟨Hc,Ea,Eb⟩:=ABm (AJc Br Az);refine ACw rfl (AMp Ea) fun Hd He Ec Ed=>?_;subst Ed;refine ABq (ABn (ABl (Wl (Wl ?_))));have B7:=Ac.e Ec;obtain ⟨Hf,Ee,B8⟩:=ABm Eb;refine ACw rfl (ANo (H2.ext B7.x) Ee) fun Hg Hh Ef Eg=>?_;subst Eg;refine AF9 rfl (ABp ?_);have Af:=B7.e Ef;refine ⟨_,rfl,fun A9=>?_,fun A9=>?_⟩
   ·refine ABl ?_;obtain ⟨Hj,Eh,Ei⟩:=ABm (ifT B8 A9);refine ACw rfl (AF4 (HO.ext Af.x) Eh) fun Hk Hl Ej Ek=>?_;subst Ek;refine ABq (ABs (AB2 ?_));obtain rfl:=ABk Ei;exact ⟨_,ABu,(Af.e Ej).x,rfl⟩
   ·refine ABt (q_t (ABl (Wl (Wl ?_))));obtain ⟨⟨Hm,El⟩,Em,B9⟩:=ABm (AJc B8 A9);dsimp only at B9;refine ACw rfl (AMt (H2.ext Af.x) (HO.ext Af.x) Em) fun Hn Ho En Eo=>?_;obtain ⟨Hq,Hr,Hs,Ht,rfl,Ep,Er⟩:=Eo;refine Wl (AC4 rfl rfl (AC4 rfl rfl (ACg (ACr (Wl (Wl ?_))))));have Ca:=Af.no2 En Er Ep;obtain ⟨⟨Cb,Ba⟩,Es,Cd⟩:=ABm B9;dsimp only at Cd;refine ACw rfl (AMo (H2.ext Ca.x) Es) fun Hu Hv Et Eu=>?_;obtain ⟨Hw,Hx,Hy,Hz,rfl,Ev,Ew⟩:=Eu;refine Wl (AC4 rfl rfl (AC4 rfl rfl (ACg (ACr (Wl (Wl ?_))))));have Bb:=Ca.no2 Et Ew Ev;obtain ⟨⟨Ey,Ez⟩,Fa,Ce⟩:=ABm Cd;dsimp only at Ce;refine ACw rfl (AS7 (H2.ext Bb.x) (HO.ext Bb.x) Fa) fun H5 H9 Fb Fc=>?_;subst Fc;refine Wl (AC4 rfl rfl (AC4 rfl rfl (ACg (ACr (Wl (Wl ?_))))));have Bc:=Bb.e Fb;obtain ⟨⟨Fd,Fe⟩,Ff,Be⟩:=ABm Ce;dsimp only at Be;refine ACw rfl (ANm (H2.ext Bc.x) (HO.ext Bc.x) Ff) fun Ia Ib Fg Fh=>?_;subst Fh;refine Wl (AC4 rfl rfl (AC4 rfl rfl (ACg (ACr (Wl (Wl (ADk rfl rfl (Wl ?_))))))));have Ab:=Bc.e Fg;by_cases Ar:El=Ba
    ·have Cf:=ifT Be Ar;rw [decide_eq_true Ar];refine ACb 64 true (Wl (ACb 64 true (Wl (ACb 64 true (ADk rfl rfl (ABz rfl (Wl ?_)))))));by_cases Au:Ez=Ba
     ·have Cg:=ifT Cf Au;rw [decide_eq_true Au];refine ACb 69 true (Wl (ACb 69 true (Wl (ACb 69 true (ADk rfl rfl (ABz rfl (Wl ?_)))))));by_cases Av:Fe=Ba
      ·have Ch:=ifT Cg Av;rw [decide_eq_true Av];refine ACb 74 true (Wl (ACb 74 true (Wl (ACb 74 true (ADh AB4 rfl (Ab.o2 p0).rd (ACb 74 true (ADk rfl rfl (ABz rfl (Wl ?_)))))))));by_cases Aw:Ey=(Cb.length:Int)
       ·have Ci:=ifT Ch Aw;rw [decide_eq_true Aw];refine ACb 80 true (Wl (ACb 80 true (Wl (ACb 80 true (ADh AB4 rfl (Ab.o2 p0).rd (ACb 80 true (ADk rfl rfl (ABz rfl (Wl ?_)))))))));by_cases Ax:Fd=(Cb.length:Int)
        ·rw [decide_eq_true Ax];refine ACb 86 true (Wl (ACb 86 true (Wl (ACb 86 true ?_))));obtain ⟨Fi,Fj,Cj⟩:=ABm (ifT Ci Ax);refine ACw rfl (AKh (Ab.o2 p1).rd (Ab.o2 p0).rd Fj) fun Ic Id Fk Fl=>?_;subst Fl;refine ABz rfl (Wl ?_);have Bf:=Ab.e Fk;cases Ck:Fi
         ·refine AS0 91 false (ABw rfl (ABq (ABs ?_)));obtain rfl:=ABk (AJc Cj Ck);exact ⟨_,ABu,Bf.x,rfl⟩
         ·refine ACb 91 true ?_;obtain ⟨Ie,Fm,Fo⟩:=ABm (ifT Cj Ck);refine ACw rfl (AF4 (HO.ext Bf.x) Fm) fun If Ih Fp Fq=>?_;subst Fq;refine ABz rfl (ABq (ABs ?_));obtain rfl:=ABk Fo;exact ⟨_,ABu,(Bf.e Fp).x,rfl⟩
        ·rw [decide_eq_false Ax];refine AG1 86 false (ABw rfl (Wl (AS0 91 false (ABw rfl (ABq (ABs ?_))))));obtain rfl:=ABk (ifF Ci Ax);exact ⟨_,ABu,Ab.x,rfl⟩
       ·rw [decide_eq_false Aw];refine AJa 80 false (ABw rfl (Wl (AG1 86 false (ABw rfl (Wl (AS0 91 false (ABw rfl (ABq (ABs ?_)))))))));obtain rfl:=ABk (ifF Ch Aw);exact ⟨_,ABu,Ab.x,rfl⟩
      ·rw [decide_eq_false Av];refine AJa 74 false (ABw rfl (Wl (AJa 80 false (ABw rfl (Wl (AG1 86 false (ABw rfl (Wl (AS0 91 false (ABw rfl (ABq (ABs ?_))))))))))));obtain rfl:=ABk (ifF Cg Av);exact ⟨_,ABu,Ab.x,rfl⟩
     ·rw [decide_eq_false Au];refine AG1 69 false (ABw rfl (Wl (AJa 74 false (ABw rfl (Wl (AJa 80 false (ABw rfl (Wl (AG1 86 false (ABw rfl (Wl (AS0 91 false (ABw rfl (ABq (ABs ?_)))))))))))))));obtain rfl:=ABk (ifF Cf Au);exact ⟨_,ABu,Ab.x,rfl⟩
    ·rw [decide_eq_false Ar];refine AG1 64 false (ABw rfl (Wl (AG1 69 false (ABw rfl (Wl (AJa 74 false (ABw rfl (Wl (AJa 80 false (ABw rfl (Wl (AG1 86 false (ABw rfl (Wl (AS0 91 false (ABw rfl (ABq (ABs ?_))))))))))))))))));obtain rfl:=ABk (ifF Be Ar);exact ⟨_,ABu,Ab.x,rfl⟩
end Go.Proofs.YtiegjkmfpcgjjaaGreatDoor
namespace Go.Proofs.YtiegjkmfpcgjjaaGreatDoor
open Go Go.QF
set_option maxRecDepth 100000
theorem Acm {fuel:Nat} {k raw:Int} {wild:Bool} (hk:0<=k/\k < 256):Ok (AFx fuel k raw wild) fun _=>True:=by
 unfold AFx;refine AB3 (fun _=>ABi trivial) fun _=>ABo (Q:=fun _=>True) ?_ fun _ _=>ABi trivial;unfold AI6;refine AEe (by decide) ?_;obtain ⟨q,h1,h2⟩:=AQo (w64 k) 20 (by rw [wk (by omega)];exact hk.1) (by decide);exact AB7 (n:=q) (List.getElem?_eq_getElem (by exact h2)) h1 (ABi trivial)
end Go.Proofs.YtiegjkmfpcgjjaaGreatDoor
namespace Go.Proofs.YtiegjkmfpcgjjaaGreatDoor
open Go Go.QF
set_option maxRecDepth 100000
theorem Ag3 {fuel:Nat} {M:List (List Int)} (hf:100 < fuel):Ok (AG5 fuel M) fun l=>l=true∨M.length<=12:=by
 unfold AG5;refine AB3 (fun _=>ABi (.inl rfl)) fun h=>ABo (Aww (n:=M.length) (fun i=> ∀ z,M[i]? =some z->¬ 12 < z.length) true (by omega) (fun i hi=>?_) ?_) fun ex hex=>?_
 ·obtain ⟨z,hz⟩:∃ z,M[i]? =some z:=⟨M[i],List.getElem?_eq_getElem hi⟩;unfold AHl;rw [if_pos (by omega),ARc hz];exact AB3 (fun h=>ABi (.inr ⟨rfl,fun h2=>h2 z hz (by omega)⟩)) fun h=>ABi (.inl ⟨by rw [AGo (by omega)],fun y hy=>by rw [hz] at hy;cases hy;omega⟩)
 ·unfold AHl;rw [if_neg (by omega)]
 ·rcases hex with ⟨rfl,_⟩ | ⟨rfl,_⟩ <;> exact ABi (.inr (by omega))
theorem Alc {fuel:Nat} {M:List (List Int)} {p:Int} (hl:M.length<=12) (hf:100 < fuel):Ok (AGu fuel M p) fun _=>True:=by
 unfold AGu;refine ABo (Q:=fun _=>True) (ACv (fun i s=>s.2=(i:Int)/\i<=M.length) M.length ⟨rfl,Nat.zero_le _⟩ (by omega) fun i s hi hI=>?_) fun e _=>ABi trivial;obtain ⟨a,b⟩:=s;obtain ⟨h1,h2⟩:=hI;dsimp only at h1;subst h1;unfold AKz;dsimp only;have hw:w64 ((i:Int) + 1)=((i + 1:Nat):Int):=AGo (by omega);exact AB3 (fun h=>AB3 (fun _=>AB3 (fun _=>ABi ⟨by omega,hw,by omega⟩) fun _=>ABi ⟨by omega,hw,by omega⟩) fun _=>ABi ⟨by omega,hw,by omega⟩) fun h=>ABi trivial
theorem Auf {fuel:Nat} {L:List (List Int)} (hl:L.length<=100000000) (hr:∀ V∈L,V.length<=100000000) (hf:2147483648 < fuel):Ok (AEn fuel L L) (· =true):=by
 unfold AEn;rw [if_neg (fun h=>h rfl)];refine ABo (Q:=fun ex=>ex= .inr ()) (ACv (fun i s=>s=(i:Int)/\i<=L.length) L.length ⟨rfl,by omega⟩ (by omega) fun i s hi hI=>?_) fun ex hex=>by subst hex;exact ABi rfl
 obtain ⟨rfl,h1⟩:=hI;unfold AKg;refine AB3 (fun h=>?_) fun h=>ABi rfl;have Aa:i < L.length:=by omega
 have hm:=hr _ (List.getElem_mem Aa);have hg:=List.getElem?_eq_getElem Aa;generalize L[i]=W at hm hg;refine AB7 hg rfl (AB7 hg rfl ?_);rw [if_neg (fun h=>h rfl)];refine ABo (Q:=fun ex=>ex= .inr ()) (ACv (fun j s=>s=(j:Int)/\j<=W.length) W.length ⟨rfl,by omega⟩ (by omega) fun j s hj hJ=>?_) fun ex hex=>by subst hex;exact ABi ⟨by omega,AGo (by omega),by omega⟩
 obtain ⟨rfl,h2⟩:=hJ;unfold AKf;refine AB3 (fun h=>?_) fun h=>ABi rfl;have Ab:j < W.length:=by omega
 refine AB7 hg rfl (AB7 (List.getElem?_eq_getElem Ab) rfl (AB7 hg rfl (AB7 (List.getElem?_eq_getElem Ab) rfl ?_)));rw [if_neg (fun h=>h rfl)];exact ABi ⟨by omega,AGo (by omega),by omega⟩
theorem Am3 {fuel:Nat} {M:List (List Int)} {p:Int} (hM:Agn M) (hf:2147483648 < fuel):∃ (L:List (List Int)) (c:Int),AE8 fuel M p=some (L,c)/\AEc fuel M p=some (L,c)/\AJu fuel M p=some ((L.length:Int),c)/\AF3 fuel M p=some ((L.length:Int),c)/\L.length<=100000000/\ ∀ V∈L,V.length<=100000000:=by
  by_cases hc:ASt M p true=0
  · have hall:AVf M/\ARa p=true/\det M.length (ent M) % p≠0/\¬ 65536 < p ^ M.length:=by
      unfold ASt at hc
      by_cases hr:isRed M=true
      · rw [if_pos hr] at hc
        by_cases hg:ARa p=true/\det M.length (ent M) % p≠0
        · rw [if_pos hg] at hc
          by_cases hl:65536 < p ^ M.length
          · rw [if_pos ⟨rfl,hl⟩] at hc;cases hc
          · exact ⟨(APu M).1 hr,hg.1,hg.2,hl⟩
        · rw [if_neg hg] at hc;cases hc
      · rw [if_neg hr] at hc;cases hc
    obtain ⟨R,ho,hd,hq⟩:=hall;have hb:=ASu ho;obtain ⟨P,rfl⟩:∃ P:Nat,p=(P:Int):=⟨p.toNat,by omega⟩
    have hq2:P ^ M.length<=65536:=by
      have:((P ^ M.length:Nat):Int)<=65536:=by rw [Int.natCast_pow];omega
      omega
    have h1:=Aue R ho hd hq2 hf;have hlen:=Am0 (M:=M) (P:=P) (by omega);have hl:=Acl M P (P ^ M.length)
    refine ⟨Ack M P,0,h1,?_,?_,?_,by show (APi M P (P ^ M.length)).length<=_;omega,fun V hV=>?_⟩
    · unfold AEc;rw [Agx hM (by omega),hc];simp only [Option.bind_some];rw [if_neg (by decide),Ayc R (by omega) (by omega) hq2 hf];rfl
    · unfold AJu;rw [h1];rfl
    · rw [Aat,ASv hf,hc];simp only [Option.bind_some];rw [if_neg (by decide),Aud R ho hd hq2 hf,hlen]
    · have:=Ak0 (List.mem_filter.1 hV).2;have h8:=R.1.2;rw [this.1];omega
  · refine ⟨[],ASt M p true,?_,?_,?_,?_,by decide,fun V hV=>by cases hV⟩
    · unfold AE8;rw [ASv hf];simp only [Option.bind_some];rw [if_pos hc]
    · unfold AEc;rw [Agx hM (by omega)];simp only [Option.bind_some];rw [if_pos hc]
    · unfold AJu AE8;rw [ASv hf];simp only [Option.bind_some];rw [if_pos hc];rfl
    · rw [Aat,ASv hf];simp only [Option.bind_some];rw [if_pos hc];rfl
theorem Aaw {g kd k raw:Int} {Z Y:List Int} {M:List (List Int)} {wild made:Bool} (hg:0<=g/\g < 256) (hk:0<=k/\k < 256) (hM:Agn M):AG0 (AEk + 1) M g kd Z Y k raw wild made=some true:=by
 have hf:AEk < AEk + 1:=Nat.lt_succ_self _;have Aa:100 < AEk + 1:=Nat.lt_of_le_of_lt (by decide) hf;have Ad:2147483648 < AEk + 1:=Nat.lt_of_le_of_lt (by decide) hf;apply ok_eq;unfold AG0;have aw:Ok (ADm (AEk + 1)) (· =true):=⟨true,Ad8,rfl⟩;refine ABo (Ag3 Aa) fun l hl=>AB3 (fun _=>ABo aw fun x hx=>ABi hx) fun Ae=>?_;have hlen:M.length<=12:=by rcases hl with h | h;exact absurd h Ae;exact h
 have key:∀ (M:List (List Int)) (p:Int),Agn M->Ok ((AE8 (AEk + 1) M p).bind fun (Af,Ag)=>((AEc (AEk + 1) M p).bind fun (Ab,Ac)=>((AJu (AEk + 1) M p).bind fun (Ah,Ai)=>((AF3 (AEk + 1) M p).bind fun (Aj,Ak)=>(if Ag=Ac then (if Ai=Ac then (if Ak=Ac then (if Ah=(Ab.length:Int) then (if Aj=(Ab.length:Int) then ((AEn (AEk + 1) Af Ab).bind fun Am=>(if Am=true then ((ADm (AEk + 1)).bind fun Ao=>(some Ao)) else (some false))) else (some false)) else (some false)) else (some false)) else (some false)) else (some false)))))) (· =true):=fun M p hM=>by
   obtain ⟨L,c,e1,e2,e3,e4,e5,e6⟩:=Am3 (p:=p) hM Ad
   rw [e1,e2,e3,e4]
   simp only [Option.bind_some,if_true]
   refine ABo (Auf e5 e6 Ad) fun b hb=>?_
   subst hb
   rw [if_pos rfl]
   exact ABo aw fun x hx=>ABi hx
 refine AB3 (fun _=>ABo (Awq hg (by decide) hf) fun h hh=>?_) fun _=>ABo (Acm hk) fun p _=>ABo (Alc hlen Aa) fun b _=>AB3 (fun _=>ABo aw fun x hx=>ABi hx) fun _=>key M p hM;obtain ⟨n,A,rfl,h1,h2,R,-⟩:=hh;have hA:=Aqn (by omega) R;exact ABo (Acm hk) fun p _=>ABo (Alc (by rw [ADg];omega) Aa) fun b _=>AB3 (fun _=>ABo aw fun x hx=>ABi hx) fun _=>key _ p hA
end Go.Proofs.YtiegjkmfpcgjjaaGreatDoor
