/-
  Texts of a proof, joined. Conditions stand in each statement.
-/
import Derived.Test.YtkakafabeobahaaGreatDoorMDyadicShape5
set_option linter.unusedVariables false
set_option linter.unusedSimpArgs false
open Go
variable {G T A B U:Go.QF.ATa} {p a x v D a1 a2 most:Int} {M:List (List Int)} {C:List Go.QF.AWo} {K i j r s E fuel k t:Nat}
namespace Go.Proofs.YtkakafabeobahaaGreatDoor
open Go Go.QF
set_option maxRecDepth 100000
theorem Akk (hK:K<=30) (z:Int):Eqm (2 ^ K) (w64 z) z:=by
 have h1:Eqm ((2:Int) ^ 64) (w64 z) z:=by
  show w64 z % 2 ^ 64=z % 2 ^ 64
  show IntKind.i64.wrap z % 2 ^ 64=z % 2 ^ 64
  rw [IntKind.wrap_i64];omega
 exact h1.down<|AWd AGp
abbrev mkE (K:Nat) (z:Int):Option Int:=if 0<=(K:Int)/\(K:Int)<=64 then some (AZw .and .i64 (w64 z)<|w64<|(w64<|1 * 2 ^ Int.toNat (K:Int)) - 1) else none
theorem mk_val (hK:K<=30) {z y:Int} (h:Eqm (2 ^ K) z y):mkE K z=some (y % 2 ^ K):=by
 have h1:(2:Int) ^ K<=2 ^ 30:=Aei AGr hK;have h2:0 < (2:Int) ^ K:=Int.pow_pos AGr;have h3:(2:Int) ^ 30=1073741824:=by decide
 unfold mkE;rw [if_pos AGp,Ar0 hK,AW1 (x:=(2:Int) ^ K - 1) AGp AGp,Ay9 hK];exact congrArg some<|(Akk hK z).trans h
theorem BFj (hK:K<=30) (x c y:Int):Eqm (2 ^ K) (x + w64 (c * y)) (x + c * y):=(Eqm.refl _ x).add (Akk hK _)
section
variable {fuel n K:Nat}
theorem A4e {c:Int} {M:ATa} (hK:K<=30) (hi:i < n) (hj:j < n) (hr:r < n) (hn:n<=8):
 ((gI (tab n n M) (r:Int)).bind λx=>(gI x (i:Int)).bind λy=>(gI x (j:Int)).bind λz=>(mkE K<|y + w64 (c * z)).bind λe=>some<|Sum.inl (β:=List<|List Int) (w64<|(r:Int) + 1,sI (tab n n M) (r:Int)<|sI x (i:Int) e))=some (.inl (((r + 1:Nat):Int),tab n n<|AU4 M r λb=>if b=i then (M r i + c * M r j) % 2 ^ K else M r b)):=by
 rw [AZs<|AUl hr,AZs<|AT4 hi,AZs<|AT4 hj,mk_val hK<|BFj hK _ _ _];simp only [Option.bind_some];rw [Ap1,Abt,AW3 AGp]
theorem A4f {l:Nat} {c:Int} {M:ATa} (hK:K<=30) (hj:j < n) (hl:l < n) (hs:s < n) (hn:n<=8):
 ((gI (tab n n M) (l:Int)).bind λx=>(gI x (s:Int)).bind λy=>(gI (tab n n M) (j:Int)).bind λz=>(gI z (s:Int)).bind λw=>(mkE K<|w + w64 (c * y)).bind λe=>some<|Sum.inl (β:=List<|List Int) (w64<|(s:Int) + 1,sI (tab n n M) (j:Int)<|sI z (s:Int) e))=some (.inl (((s + 1:Nat):Int),tab n n<|AU4 M j λb=>if b=s then (M j s + c * M l s) % 2 ^ K else M j b)):=by
 rw [AZs<|AUl hl,AZs<|AT4 hs,AZs<|AUl hj,AZs<|AT4 hs,mk_val hK<|BFj hK _ _ _];simp only [Option.bind_some];rw [Ap1,Abt,AW3 AGp]
theorem A0y {c:Int} {R:Int->List (List Int)->List (List Int)->Option ((Int × List (List Int) × List (List Int)) ⊕ (List (List Int) × List (List Int)))} {RG RT:List (List Int)->Int × List (List Int)->Option ((Int × List (List Int)) ⊕ List (List Int))} {RE:List Int->Int->List (List Int)->Option ((Int × List (List Int)) ⊕ List (List Int))} (hK:K<=30) (hn:n<=8) (hi:i < n) (hj:j < n) (hne:j≠i) (hf:100 < fuel)
 (r0:∀ G T,R 0 (tab n n G) T=(iter (RG<|tab n n G) fuel (0,tab n n G)).bind λe=>some<|Sum.inl (1,e,T)) (r1:∀ G T,R 1 G (tab n n T)=(iter (RT<|tab n n T) fuel (0,tab n n T)).bind λe=>some<|Sum.inl (2,G,e)) (r2:∀ G T,R 2 G T=some (.inr (G,T)))
 (rg:∀ (X:ATa) (r:Int) M,RG (tab n n X) (r,M)=if r < n then (gI M r).bind λx=>(gI x (i:Int)).bind λy=>(gI x (j:Int)).bind λz=>(mkE K<|y + w64 (c * z)).bind λe=>some (Sum.inl (w64<|r + 1,sI M r<|sI x (i:Int) e)) else some<|.inr M)
 (rt:∀ (X:ATa) (r:Int) M,RT (tab n n X) (r,M)=if r < n then (gI M r).bind λx=>(gI x (i:Int)).bind λy=>(gI x (j:Int)).bind λz=>(mkE K<|y + w64 (c * z)).bind λe=>some (Sum.inl (w64<|r + 1,sI M r<|sI x (i:Int) e)) else some<|.inr M)
 (re:∀ (F:Nat->Int) (s:Int) M,RE (AV0 n F) s M=if s < n then (gI M (j:Int)).bind λx=>(gI x s).bind λy=>(gI M (i:Int)).bind λz=>(gI z s).bind λw=>(mkE K<|w + w64 (c * y)).bind λe=>some (Sum.inl (w64<|s + 1,sI M (i:Int)<|sI z s e)) else some<|.inr M):
 ((iter (λs=>R s.1 s.2.1 s.2.2) fuel (0,tab n n G,tab n n T)).bind (λ((e1,e2):List (List Int) × List (List Int))=>(gI e1 (j:Int)).bind λx=>(iter (λs=>RE x s.1 s.2) fuel (0,e1)).bind λe=>some (e,e2)))=some (tab n n<|Atn (2 ^ K) i j c G,tab n n<|Ao7 (2 ^ K) i j c T):=by
 have Ah8:∀ (B:Int × List (List Int)->Option ((Int × List (List Int)) ⊕ List (List Int))) (G:ATa),(∀ (r:Int) M,B (r,M)=if r < n then (gI M r).bind λx=>(gI x (i:Int)).bind λy=>(gI x (j:Int)).bind λz=>(mkE K<|y + w64 (c * z)).bind λe=>some (Sum.inl (w64<|r + 1,sI M r<|sI x (i:Int) e)) else some<|.inr M)->iter B fuel (0,tab n n G)=some (tab n n<|Ao7 (2 ^ K) i j c G):=λB G hB=>A2s (G':=Ao7 (2 ^ K) i j c G) AGp (λr M hr hM=>by rw [hB,if_pos AGp,A4e hK hi hj hr hn,A71 hM]) λX=>by grind
 rw [A73 (fuel:=fuel) (g':=tab n n<|Ao7 (2 ^ K) i j c G) (t':=tab n n<|Ao7 (2 ^ K) i j c T) AGp (by grind) (by grind)<|by grind];simp only [Option.bind_some];rw [AZs<|AUl hj];unfold Atn;rw [BAv (j:=i) (g:=λb=>(Ao7 (2 ^ K) i j c G i b + c * Ao7 (2 ^ K) i j c G j b) % 2 ^ K) AGp (λs M hs hM hMs=>by dsimp only;rw [re,if_pos AGp,A4f hK hi hj hs hn,hMs,hM j s hne]) (λX=>by grind),BAw];rfl
theorem Aww {c:Nat} {R:Int->List (List Int)->List (List Int)->Option ((Int × List (List Int) × List (List Int)) ⊕ (List (List Int) × List (List Int)))} {RG RT:List (List Int)->Int × List (List Int)->Option ((Int × List (List Int)) ⊕ List (List Int))} (hn:n<=8) (hc:c + 1 < n) (hf:100 < fuel)
 (r0:∀ G T,R 0 (tab n n G) T=(iter (RG<|tab n n G) fuel (0,tab n n G)).bind λe=>some<|Sum.inl (1,e,T)) (r1:∀ G T,R 1 G (tab n n T)=(iter (RT<|tab n n T) fuel (0,tab n n T)).bind λe=>some<|Sum.inl (2,G,e)) (r2:∀ G T,R 2 G T=some (.inr (G,T)))
 (rg:∀ (X:ATa) (r:Int) M,RG (tab n n X) (r,M)=if r < n then (gI M r).bind λx=>(gI x ((c + 1:Nat):Int)).bind λy=>(gI x (c:Int)).bind λz=>(gI (sI M r<|sI x (c:Int) y) r).bind λu=>(gI u ((c + 1:Nat):Int)).bind λw=>some (Sum.inl (w64<|r + 1,sI (sI M r<|sI x (c:Int) y) r<|sI u ((c + 1:Nat):Int) z)) else some<|.inr M)
 (rt:∀ (X:ATa) (r:Int) M,RT (tab n n X) (r,M)=if r < n then (gI M r).bind λx=>(gI x ((c + 1:Nat):Int)).bind λy=>(gI x (c:Int)).bind λz=>(gI (sI M r<|sI x (c:Int) y) r).bind λu=>(gI u ((c + 1:Nat):Int)).bind λw=>some (Sum.inl (w64<|r + 1,sI (sI M r<|sI x (c:Int) y) r<|sI u ((c + 1:Nat):Int) z)) else some<|.inr M):
 iter (λs=>R s.1 s.2.1 s.2.2) fuel (0,sI (sI (tab n n G) (c:Int)<|AV0 n<|G<|c + 1) ((c + 1:Nat):Int)<|AV0 n<|G c,tab n n T)=some (tab n n<|swG c (c + 1) G,tab n n<|swC c (c + 1) T):=by
 have e0:sI (sI (tab n n G) (c:Int)<|AV0 n<|G<|c + 1) ((c + 1:Nat):Int) (AV0 n<|G c)=tab n n λa b=>G (sw2 c (c + 1) a) b:=by
  rw [Abt,Abt];refine Agk λa b _ _=>?_;rw [AT6,AT6];unfold sw2;grind
 have Ah8:∀ (B:Int × List (List Int)->Option ((Int × List (List Int)) ⊕ List (List Int))) (G:ATa),(∀ (r:Int) M,B (r,M)=if r < n then (gI M r).bind λx=>(gI x ((c + 1:Nat):Int)).bind λy=>(gI x (c:Int)).bind λz=>(gI (sI M r<|sI x (c:Int) y) r).bind λu=>(gI u ((c + 1:Nat):Int)).bind λw=>some (Sum.inl (w64<|r + 1,sI (sI M r<|sI x (c:Int) y) r<|sI u ((c + 1:Nat):Int) z)) else some<|.inr M)->iter B fuel (0,tab n n G)=some (tab n n<|swC c (c + 1) G):=λB G hB=>A2s (G':=swC c (c + 1) G) AGp (λr M hr hM=>by
  rw [hB,if_pos AGp,A72 hc AGp hr hn];congr 3;exact Ay8 λb _=>by rw [hM];rfl) λX=>by grind
 rw [e0];exact A73 AGp (by dsimp only;rw [r0,Ah8 (RG _) _<|rg _];rfl) (by grind) (by grind)
theorem Awx {f:Nat} {R:Int->List (List Int)->List (List Int)->Option ((Int × List (List Int) × List (List Int)) ⊕ (List (List Int) × List (List Int)))} (hn:n<=8) (hf:f<=i) (hi:i < n) (hfu:100 < fuel)
 (rs:∀ (c:Nat) G T,f<=c->c + 1 < n->R ((c + 1:Nat):Int) (tab n n G) (tab n n T)=some (.inl ((c:Int),tab n n<|swG c (c + 1) G,tab n n<|swC c (c + 1) T))) (re:∀ G T,R (f:Int) G T=some (.inr (G,T))):
 iter (λs=>R s.1 s.2.1 s.2.2) fuel ((i:Int),tab n n G,tab n n T)=some (tab n n<|mvG f i G,tab n n<|mvC f i T):=by
 apply ok_eq;refine AUk (λm s=>s=(((i - m:Nat):Int),tab n n<|mvG (i - m) i G,tab n n<|mvC (i - m) i T)/\m<=i - f) (i - f) ⟨by rw [Nat.sub_zero,A74,A75],Nat.zero_le _⟩ AGp λm s hm hI=>?_;obtain ⟨rfl,hmf⟩:=hI;dsimp only
 rcases Nat.lt_or_ge m (i - f) with h | h
 ·obtain ⟨c,hc⟩:∃ c,i - m=c + 1:=⟨i - m - 1,AGp⟩;rw [hc,rs c _ _ AGp AGp,Aza AGp,Azb AGp];refine AGy ⟨h,?_,h⟩;grind
 ·rw [show i - m=f by omega,re];exact AGy rfl
end
end Go.Proofs.YtkakafabeobahaaGreatDoor
namespace Go.Proofs.YtkakafabeobahaaGreatDoor
open Go Go.QF
set_option maxRecDepth 100000
theorem A0z (hp:Pr p):PrI p:=⟨hp.1,λx y h=>by
 have h2:=hp.1
 refine Classical.byContradiction λhn=>?_
 have hx:x % p≠0:=λh=>hn<|.inl<|Int.dvd_of_emod_eq_zero h
 have hy:y % p≠0:=λh=>hn<|.inr<|Int.dvd_of_emod_eq_zero h
 have h3:=Int.emod_nonneg x (show p≠0 by omega)
 have h4:=Int.emod_lt_of_pos x (show 0 < p by omega)
 have h5:=Int.emod_nonneg y (show p≠0 by omega)
 have h6:=Int.emod_lt_of_pos y (show 0 < p by omega)
 refine BCa hp (a:=x % p) (x:=y % p) AGp AGp AGp AGp ?_
 rw [<- Int.mul_emod]
 omega⟩
theorem Azd {p a:Int} (hp:Pr p) (ha: ¬ p ∣ a):∀ K:Nat,∃ y,p ^ (K + 1) ∣ y * a - 1
 | 0=>by
   have h2:=hp.1;have hx:a % p≠0:=λh=>ha<|Int.dvd_of_emod_eq_zero h;have h3:=Int.emod_nonneg a (show p≠0 by omega);have h4:=Int.emod_lt_of_pos a (show 0 < p by omega);obtain ⟨y,hy⟩:=Asb hp _ (a % p) (Nat.le_refl _) AGp h4;refine ⟨y,?_⟩;rw [Int.pow_succ,Int.pow_zero,Int.one_mul];refine Aki (m:=p) ?_;show y * a % p=1 % p;rw [Int.emod_eq_of_lt (a:=1) AGr AGp,<- hy];exact ((Eqm.refl p y).mul (Eqm.mod p a)).symm
 | K + 1=>by
   obtain ⟨y,z,hz⟩:=Azd hp ha K;refine ⟨y * (2 - y * a),?_⟩;have e:y * (2 - y * a) * a - 1= -((y * a - 1) * (y * a - 1)):=by grind
   rw [e,hz];refine Int.dvd_neg.2<|Int.dvd_trans (AWd (b:=K + 1 + (K + 1)) AGp) ?_;rw [Int.pow_add];exact ⟨z * z,by grind⟩
theorem Au8 (hp:Pr p) (ha: ¬ p ∣ a) (hK:1<=K):∃ y,Ar9 (p ^ K) (a % p ^ K) y:=by
 obtain ⟨y,hy⟩:=Azd hp ha<|K - 1;rw [show K - 1 + 1=K by omega] at hy;have hq:0 < p ^ K:=Int.pow_pos (by have:=hp.1;omega);refine ⟨y % p ^ K,Int.emod_nonneg _ AGp,Int.emod_lt_of_pos _ hq,?_⟩;exact ((Eqm.mod _ y).mul (Eqm.mod _ a)).trans (Amk hy)
theorem A78 {u:Int} {f:Nat} (hp:PrI p) (hx:x=u * p ^ E) (hu: ¬ p ∣ u) (hf:p ^ f ∣ x):f<=E:=by
 rcases Nat.lt_or_ge E f with h | h
 ·exfalso;have h1:p ^ (E + 1) ∣ u * p ^ E:=hx ▸ Int.dvd_trans (AWd h) hf;obtain ⟨w,hw⟩:=h1;refine hu ⟨w,Int.eq_of_mul_eq_mul_left (Awh hp E) ?_⟩;grind
 ·exact h
section
variable {fuel n K k:Nat} {p:Int} {H T G:ATa}
end
theorem BDz {m:Int} (R:Arh M) (hm:2<=m) (Aa:m<=2147483647) (hf:100 < fuel):Abq fuel M m=some (tab M.length M.length λi j=>ent M i j % m,0):=by
 have hM:=Atk R;unfold Abq AVr;have h1:AYd fuel M=some true:=by rw [hM];exact Ay7 R.1.1 R.1.2 hf
 have h2:AVw fuel M m=some (tab M.length M.length λi j=>ent M i j % m):=by
  conv=>lhs;rw [hM]
  exact A7s R.1.2 hm Aa hf
 rw [h1];simp only [Option.bind_some];rw [if_neg AGr,if_neg AGp,if_neg AGp];simp only [Option.bind_some];rw [if_neg AGr,h2];rfl
end Go.Proofs.YtkakafabeobahaaGreatDoor
namespace Go.Proofs.YtkakafabeobahaaGreatDoor
open Go Go.QF
def dB (b:AUr):Int:=if b.2.1=2 then b.2.2.1 * b.2.2.2.2 - b.2.2.2.1 * b.2.2.2.1 else b.2.2.1
end Go.Proofs.YtkakafabeobahaaGreatDoor
namespace Go.Proofs.YtkakafabeobahaaGreatDoor
open Go Go.QF
set_option maxRecDepth 100000
section
variable {fuel n K k:Nat} {H T G:ATa} {L:List AUr}
theorem Ahf (u:Int):2 ^ E * u / 2 ^ Int.toNat (E:Int)=u:=by
 rw [Int.toNat_natCast];exact Int.mul_ediv_cancel_left _<|Int.pow_ne_zero AGr
theorem BD0 (hK:K<=30) (hx:0<=x/\x < 2 ^ K) (hf:100 < fuel):Ok (iter (λs=>Abz fuel K x s) fuel 0) λr=>(x=0/\r=K)∨ ∃ (E:Nat) (u:Int),r=E/\E < K/\x=u * 2 ^ E/\¬ (2:Int) ∣ u:=by
 refine AUk (λi s=>s=(i:Int)/\i<=K/\(2:Int) ^ i ∣ x) K ⟨rfl,Nat.zero_le _,AGp⟩ AGp λi s hi hI=>?_;obtain ⟨rfl,hiK,hd⟩:=hI;unfold Abz;obtain ⟨y,rfl⟩:=hd
 rcases Nat.lt_or_ge i K with h | h
 ·rw [if_pos (show (i:Int) < (K:Int) by omega),if_pos (show 0<=(i:Int)/\(i:Int)<=64 by omega),Ahf,BAy]
  by_cases h2:y % 2=0
  ·rw [if_pos h2];simp only [Option.bind_some];refine AGy ⟨h,AW3 AGp,h,?_⟩;obtain ⟨z,rfl⟩:=Int.dvd_of_emod_eq_zero h2;exact ⟨z,by grind⟩
  ·rw [if_neg h2];simp only [Option.bind_some];exact AGy<|.inr ⟨i,y,rfl,h,Int.mul_comm _ _,λh3=>h2<|Int.emod_eq_zero_of_dvd h3⟩
 ·obtain rfl:i=K:=by omega
  rw [if_neg AGp];simp only [Option.bind_some];refine AGy<|.inl ⟨?_,rfl⟩;have h0:(0:Int) < 2 ^ i:=Int.pow_pos AGr
  have hy:y=0:=by
   refine Classical.byContradiction λhy=>?_
   rcases Int.lt_or_le y 1 with h1 | h1
   ·have:=Int.mul_le_mul_of_nonneg_left (show y<= -1 by omega)<|Int.le_of_lt h0;omega
   ·have:=Int.mul_le_mul_of_nonneg_left h1<|Int.le_of_lt h0;omega
  grind
theorem A79 {d c l:Nat} (hK:K<=30) (hn:n<=8) (hG:Awq n (2 ^ K) G) (hd:d<=n) (hk:k < n) (hS:QSt n k K G d k r c l) (hf:100 < fuel):
 Ok (iter (λs=>Ab0 fuel K (tab n n G) (d:Int) s.1 s.2.1 s.2.2.1 s.2.2.2) fuel ((r:Int),(c:Int),(l:Int),(k:Int))) λex=> ∃ r c l:Nat,ex=((r:Int),(c:Int),(l:Int))/\QSt n k K G (d + 1) k r c l:=by
 refine AUk (λj s=> ∃ r c l:Nat,s=((r:Int),(c:Int),(l:Int),((k + j:Nat):Int))/\k + j<=n/\QSt n k K G d (k + j) r c l) (n - k) ⟨r,c,l,rfl,AGp,hS⟩ AGp λj s hj hI=>?_;obtain ⟨r,c,l,rfl,hjn,hS⟩:=hI;unfold Ab0;dsimp only;have e1:w64 (((k + j:Nat):Int) + (d:Int))=((k + j + d:Nat):Int):=by rw [wk AGp];omega
 rw [e1,AUe];refine AT2 (λh=>?_) λh=>AGy ⟨r,c,l,rfl,hS.row AGp⟩;have hij:k + j + d < n:=by omega
 have hi:k + j < n:=by omega
 have hlK:l<=K:=by rcases hS with ⟨h1,_⟩ | ⟨h1,_⟩ <;> omega
 rw [AZs<|AUl hi,AZs<|AT4 hij];obtain ⟨e,he,hcase⟩:=BD0 (fuel:=fuel) hK (hG (k + j) (k + j + d) hi hij) hf;rw [he];simp only [Option.bind_some]
 rcases hcase with ⟨h0,rfl⟩ | ⟨E,u,rfl,hEK,hx,hu⟩
 ·rw [if_neg AGp];simp only [Option.bind_some];refine AGy ⟨AGp,r,c,l,?_,AGp,hS.old (by simp_all) λ_=>h0⟩;rw [AW3 AGp];rfl
 ·by_cases hl:E < l
  ·rw [if_pos AGp];simp only [Option.bind_some];refine AGy ⟨AGp,k + j,k + j + d,E,?_,AGp,hS.new AGp hij hx hu hl⟩;rw [AW3 AGp];rfl
  ·rw [if_neg AGp];simp only [Option.bind_some];refine AGy ⟨AGp,r,c,l,?_,AGp,hS.old (by rw [hx];exact Int.dvd_trans (AWd AGp) ⟨u,Int.mul_comm _ _⟩) λh=>by omega⟩;rw [AW3 AGp];rfl
theorem A8a (hK:K<=30) (hn:n<=8) (hG:Awq n (2 ^ K) G) (hk:k < n) (hne:∃ e,k + e < n/\G k (k + e)≠0) (hf:100 < fuel):
 Ok (iter (λs=>Ab1 fuel K (k:Int) (tab n n G) s.1 s.2.1 s.2.2.1 s.2.2.2) fuel ((k:Int),(k:Int),(K:Int),(0:Int))) λex=> ∃ r c l:Nat,ex=((r:Int),(c:Int),(l:Int))/\l < K/\PV n k 2 G r c l/\ ∀ a e,k<=a->a + e < n->(2:Int) ^ l ∣ G a (a + e):=by
 refine AUk (λd s=> ∃ r c l:Nat,s=((r:Int),(c:Int),(l:Int),(d:Int))/\d<=n - k/\QSt n k K G d k r c l) (n - k) ⟨k,k,K,rfl,Nat.zero_le _,QSt.init⟩ AGp λd s hd hI=>?_;obtain ⟨r,c,l,rfl,hdn,hS⟩:=hI;unfold Ab1;dsimp only;rw [AUe,AW1 (x:=(n:Int) - (k:Int)) AGp AGp];refine AT2 (λh=>?_) λh=>AGy ⟨r,c,l,rfl,?_⟩
 ·refine AG4 (A79 hK hn hG AGp hk hS hf) λex hex=>?_;obtain ⟨r,c,l,rfl,hS⟩:=hex;refine AGy ⟨AGp,r,c,l,?_,AGp,hS⟩;rw [AW3 AGp]
 ·obtain rfl:d=n - k:=by omega
  exact hS.done hk hne
theorem Awy (hn:n<=8) (hk:k<=i) (hi:i < n) (hf:100 < fuel):
 iter (λs=>AY0 fuel (k:Int) s.1 s.2.1 s.2.2) fuel ((i:Int),tab n n G,tab n n T)=some (tab n n<|mvG k i G,tab n n<|mvC k i T)/\
 iter (λs=>AY1 fuel (k:Int) s.1 s.2.1 s.2.2) fuel ((i:Int),tab n n G,tab n n T)=some (tab n n<|mvG k i G,tab n n<|mvC k i T)/\
 iter (λs=>AY2 fuel (k:Int) s.1 s.2.1 s.2.2) fuel ((i:Int),tab n n G,tab n n T)=some (tab n n<|mvG k i G,tab n n<|mvC k i T):=by
 have e1:∀ c:Nat,c + 1 < n->w64 (((c + 1:Nat):Int) - 1)=(c:Int):=λc hc=>by rw [wk AGp];omega
 refine ⟨Awx hn hk hi hf (λc G T hc hcn=>?_) λG T=>?_,Awx hn hk hi hf (λc G T hc hcn=>?_) λG T=>?_,Awx hn hk hi hf (λc G T hc hcn=>?_) λG T=>?_⟩
 ·unfold AY0;rw [if_pos AGp,AZs<|AUl hcn,e1 c hcn,AZs<|AUl (show c < n by omega),Aww (R:=AXp fuel ((c + 1:Nat):Int)) (RG:=λX s=>Aay fuel ((c + 1:Nat):Int) X s.1 s.2) (RT:=λX s=>Aaz fuel ((c + 1:Nat):Int) X s.1 s.2) hn hcn hf (λG T=>by unfold AXp;rfl) (λG T=>by unfold AXp;rfl) (λG T=>by unfold AXp;rfl) (λX r M=>by unfold Aay;dsimp only;rw [AUe,e1 c hcn]) λX r M=>by unfold Aaz;dsimp only;rw [AUe,e1 c hcn]];rfl
 ·unfold AY0;grind
 ·unfold AY1;rw [if_pos AGp,AZs<|AUl hcn,e1 c hcn,AZs<|AUl (show c < n by omega),Aww (R:=AXq fuel ((c + 1:Nat):Int)) (RG:=λX s=>Aa0 fuel ((c + 1:Nat):Int) X s.1 s.2) (RT:=λX s=>Aa1 fuel ((c + 1:Nat):Int) X s.1 s.2) hn hcn hf (λG T=>by unfold AXq;rfl) (λG T=>by unfold AXq;rfl) (λG T=>by unfold AXq;rfl) (λX r M=>by unfold Aa0;dsimp only;rw [AUe,e1 c hcn]) λX r M=>by unfold Aa1;dsimp only;rw [AUe,e1 c hcn]];rfl
 ·unfold AY1;grind
 ·unfold AY2;rw [if_pos AGp,AZs<|AUl hcn,e1 c hcn,AZs<|AUl (show c < n by omega),Aww (R:=AXr fuel ((c + 1:Nat):Int)) (RG:=λX s=>Aa2 fuel ((c + 1:Nat):Int) X s.1 s.2) (RT:=λX s=>Aa3 fuel ((c + 1:Nat):Int) X s.1 s.2) hn hcn hf (λG T=>by unfold AXr;rfl) (λG T=>by unfold AXr;rfl) (λG T=>by unfold AXr;rfl) (λX r M=>by unfold Aa2;dsimp only;rw [AUe,e1 c hcn]) λX r M=>by unfold Aa3;dsimp only;rw [AUe,e1 c hcn]];rfl
 ·unfold AY2;grind
end
end Go.Proofs.YtkakafabeobahaaGreatDoor
namespace Go.Proofs.YtkakafabeobahaaGreatDoor
open Go Go.QF
set_option maxRecDepth 100000
section
variable {fuel n K k E:Nat} {H T G:ATa} {L:List AUr}
theorem DS.move {i:Nat} (S:DS n K H T G L k E) (hi:i < n):∀ (m f:Nat),i=f + m->k<=f->DS n K H (mvC f i T) (mvG f i G) L k E
 | 0,f,h,hf=>by
   obtain rfl:i=f:=h
   rw [A75,A74];exact S
 | m + 1,f,h,hf=>by
   have:=(DS.move S hi m (f + 1) AGp AGp).swap hf AGp (show k<=f + 1 by omega) AGp
   rwa [Azb AGp,Aza AGp] at this
theorem A8b {q P A y c:Int} (hc:Eqm q c (-y * v)) (hv:Eqm q (v * A) 1):(P * y + c * (P * A)) % q=0:=by
 have one:Eqm q (P * y - P * y * (v * A)) 0:=by
  have:=(Eqm.refl q<|P * y).sub ((Eqm.refl q<|P * y).mul hv)
  grind
 exact Eqm.zero<|((Eqm.refl _ _).add (hc.mul<|Eqm.refl _ _)).trans (Eqm.trans (Eqm.of_eq<|by grind) one)
theorem A8c {A:Int} (S:DS n K H T G L k E) (hK:K<=30) (hE:E<=K) (hn:n<=8) (hk:k < n) (hD:G k k=2 ^ E * A) (hv:Eqm (2 ^ K) (v * A) 1) (hf:100 < fuel):
 Ok (iter (λs=>Aa7 fuel K (k:Int) E v s.1 s.2.1 s.2.2) fuel (((k + 1:Nat):Int),tab n n G,tab n n T)) λex=> ∃ T' G',ex=(tab n n G',tab n n T')/\DS n K H T' G' L k E/\G' k k=2 ^ E * A/\ ∀ j,k < j->j < n->G' k j=0:=by
 refine AUk (λi s=> ∃ T' G',s=(((k + 1 + i:Nat):Int),tab n n G',tab n n T')/\k + 1 + i<=n/\DS n K H T' G' L k E/\G' k k=2 ^ E * A/\ ∀ j,k < j->j < k + 1 + i->G' k j=0) (n - (k + 1)) ⟨T,G,rfl,AGp,S,hD,λj h1 h2=>by omega⟩ AGp λi s hi hI=>?_;obtain ⟨T',G',rfl,hin,S',hd,hz⟩:=hI;unfold Aa7;dsimp only;rw [AUe];refine AT2 (λh=>?_) λh=>AGy ⟨T',G',rfl,S',hd,λj h1 h2=>hz j h1 AGp⟩;obtain ⟨j,hj⟩:∃ j,j=k + 1 + i:=⟨_,rfl⟩;rw [<- hj] at h hin hz ⊢;have hjn:j < n:=by omega
 obtain ⟨y,hy⟩:=S'.fl k j (Nat.le_refl k) hk AGp hjn;rw [AZs<|AUl hk,AZs<|AT4 hjn,if_pos (show 0<=(E:Int)/\(E:Int)<=64 by omega),hy,Ahf];have hc:mkE K (w64 (0 - y) * v)=some ((-y * v) % 2 ^ K):=mk_val hK<|(((Akk hK _).trans (Eqm.of_eq<|Int.zero_sub y)).mul (Eqm.refl _ v));unfold mkE at hc;rw [hc];simp only [Option.bind_some];obtain ⟨c,hce⟩:∃ c,c=(-y * v) % 2 ^ K:=⟨_,rfl⟩;rw [<- hce,A0y (R:=AXs fuel K (k:Int) (j:Int) c) (RG:=λX s=>Aa4 fuel K (k:Int) (j:Int) c X s.1 s.2) (RT:=λX s=>Aa5 fuel K (k:Int) (j:Int) c X s.1 s.2) (RE:=Aa6 fuel K (k:Int) (j:Int) c) hK hn hjn hk AGp hf (λG T=>by unfold AXs;rfl) (λG T=>by unfold AXs;rfl) (λG T=>by unfold AXs;rfl) (λX r M=>by unfold Aa4;dsimp only;rw [AUe]) (λX r M=>by unfold Aa5;dsimp only;rw [AUe]) λF s M=>by unfold Aa6;rw [AUv]];simp only [Option.bind_some];have S2:=S'.add (c:=c) hE (show k<=j by omega) hjn (Nat.le_refl k) hk AGp
 refine AGy ⟨AGp,_,_,?_,AGp,S2,?_,λj' h1 h2=>?_⟩
 ·rw [hj,AW3 AGp];rfl
 ·rw [Afm,if_neg AGp,if_neg AGp];exact hd
 ·rw [Afm,if_neg AGp]
  by_cases h3:j'=j
  ·rw [if_pos h3,hy,hd];exact A8b (hce ▸ Eqm.mod _ _) hv
  grind
theorem A4g {A B C:Int} (S:DS n K H T G L k E) (hs:∀ i j,i < n->j < n->H i j=H j i) (hK:K<=30) (hE:E<=K) (hn:n<=8) (hk:k + 1 < n) (hA:G k k=2 ^ E * A) (hB:G k (k + 1)=2 ^ E * B) (hC:G (k + 1) (k + 1)=2 ^ E * C) (hv:Eqm (2 ^ K) (v * (A * C - B * B)) 1) (hf:100 < fuel):
 Ok (iter (λs=>Abe fuel K (k:Int) E (2 ^ E * A) (2 ^ E * B) (2 ^ E * C) v s.1 s.2.1 s.2.2) fuel (((k + 2:Nat):Int),tab n n G,tab n n T)) λex=> ∃ T' G',ex=(tab n n G',tab n n T')/\DS n K H T' G' L k E/\(G' k k=2 ^ E * A/\G' k (k + 1)=2 ^ E * B/\G' (k + 1) (k + 1)=2 ^ E * C)/\ ∀ j,k + 1 < j->j < n->G' k j=0/\G' (k + 1) j=0:=by
 refine AUk (λi s=> ∃ T' G',s=(((k + 2 + i:Nat):Int),tab n n G',tab n n T')/\k + 2 + i<=n/\DS n K H T' G' L k E/\(G' k k=2 ^ E * A/\G' k (k + 1)=2 ^ E * B/\G' (k + 1) (k + 1)=2 ^ E * C)/\ ∀ j,k + 1 < j->j < k + 2 + i->G' k j=0/\G' (k + 1) j=0) (n - (k + 2)) ⟨T,G,rfl,AGp,S,⟨hA,hB,hC⟩,λj h1 h2=>by omega⟩ AGp λi s hi hI=>?_;obtain ⟨T',G',rfl,hin,S',⟨h1,h2,h3⟩,hz⟩:=hI;unfold Abe;dsimp only;rw [AUe];refine AT2 (λh=>?_) λh=>AGy ⟨T',G',rfl,S',⟨h1,h2,h3⟩,λj h1 h2=>hz j h1 AGp⟩;obtain ⟨j,hj⟩:∃ j,j=k + 2 + i:=⟨_,rfl⟩;rw [<- hj] at h hin hz ⊢;have hjn:j < n:=by omega
 have hk0:k < n:=by omega
 have e1:w64 ((k:Int) + 1)=((k + 1:Nat):Int):=AW3 AGp;obtain ⟨x,hx⟩:=S'.fl k j (Nat.le_refl k) hk0 AGp hjn;obtain ⟨y,hy⟩:=S'.fl (k + 1) j AGp hk AGp hjn;have hEE:0<=(E:Int)/\(E:Int)<=64:=by omega
 rw [e1,AZs<|AUl hk0,AZs<|AT4 hjn,if_pos hEE,AZs<|AUl hk,AZs<|AT4 hjn,if_pos hEE,hx,hy,Ahf,Ahf,Ahf,Ahf,Ahf];have sub:∀ a b c d:Int,Eqm (2 ^ K) (w64 (a * b) - w64 (c * d)) (a * b - c * d):=λa b c d=>(Akk hK _).sub (Akk hK _);have hc1:mkE K (w64 (B * y) - w64 (C * x))=some ((B * y - C * x) % 2 ^ K):=mk_val hK<|sub _ _ _ _;have hd1:mkE K (w64 (B * x) - w64 (A * y))=some ((B * x - A * y) % 2 ^ K):=mk_val hK<|sub _ _ _ _;have hc2:mkE K ((B * y - C * x) % 2 ^ K * v)=some ((B * y - C * x) * v % 2 ^ K):=mk_val hK<|(Eqm.mod _ _).mul (Eqm.refl _ v);have hd2:mkE K ((B * x - A * y) % 2 ^ K * v)=some ((B * x - A * y) * v % 2 ^ K):=mk_val hK<|(Eqm.mod _ _).mul (Eqm.refl _ v);unfold mkE at hc1 hd1 hc2 hd2;rw [hc1];simp only [Option.bind_some];rw [hd1];simp only [Option.bind_some];rw [hc2];simp only [Option.bind_some];obtain ⟨c,hce⟩:∃ c,c=(B * y - C * x) * v % 2 ^ K:=⟨_,rfl⟩;obtain ⟨d,hde⟩:∃ d,d=(B * x - A * y) * v % 2 ^ K:=⟨_,rfl⟩;rw [<- hde] at hd2;rw [<- hce,A0y (R:=AXt fuel K (k:Int) (j:Int) c) (RG:=λX s=>Aa8 fuel K (k:Int) (j:Int) c X s.1 s.2) (RT:=λX s=>Aa9 fuel K (k:Int) (j:Int) c X s.1 s.2) (RE:=Aba fuel K (k:Int) (j:Int) c) hK hn hjn hk0 AGp hf (λG T=>by unfold AXt;rfl) (λG T=>by unfold AXt;rfl) (λG T=>by unfold AXt;rfl) (λX r M=>by unfold Aa8;dsimp only;rw [AUe]) (λX r M=>by unfold Aa9;dsimp only;rw [AUe]) λF s M=>by unfold Aba;rw [AUv]];simp only [Option.bind_some];rw [hd2];simp only [Option.bind_some];rw [A0y (R:=AXu fuel K (k:Int) (j:Int) d) (RG:=λX s=>Abb fuel K (k:Int) (j:Int) d X s.1 s.2) (RT:=λX s=>Abc fuel K (k:Int) (j:Int) d X s.1 s.2) (RE:=Abd fuel K (k:Int) (j:Int) d) hK hn hjn hk AGp hf (λG T=>by unfold AXu;rfl) (λG T=>by unfold AXu;rfl) (λG T=>by unfold AXu;rfl) (λX r M=>by unfold Abb;dsimp only;rw [AUe,e1]) (λX r M=>by unfold Abc;dsimp only;rw [AUe,e1]) λF s M=>by unfold Abd;rw [AUv,e1]];simp only [Option.bind_some];have S2:=(S'.add (c:=c) hE (show k<=j by omega) hjn (Nat.le_refl k) hk0 AGp).add (c:=d) hE (show k<=j by omega) hjn (show k<=k + 1 by omega) hk AGp;have keep:∀ a b,a≠j->b≠j->Atn (2 ^ K) j (k + 1) d (Atn (2 ^ K) j k c G') a b=G' a b:=λa b ha hb=>by rw [Afm,if_neg ha,if_neg hb,Afm,if_neg ha,if_neg hb]
 have at':∀ a,a≠j->Atn (2 ^ K) j (k + 1) d (Atn (2 ^ K) j k c G') a j=((G' a j + c * G' a k) % 2 ^ K + d * G' a (k + 1)) % 2 ^ K:=λa ha=>by
  rw [Afm,if_neg ha,if_pos rfl,Afm,if_neg ha,if_pos rfl,Afm,if_neg ha,if_neg AGp]
 refine AGy ⟨AGp,_,_,?_,AGp,S2,⟨?_,?_,?_⟩,λj' h4 h5=>?_⟩
 ·rw [hj,AW3 AGp];rfl
 ·grind
 ·grind
 ·grind
 ·by_cases h6:j'=j
  ·have hsy:G' (k + 1) k=2 ^ E * B:=by rw [S'.e.sym hs S'.rg hk hk0];exact h2
   rw [h6,at' k AGp,at' (k + 1) AGp,hx,hy,h1,h2,h3,hsy];exact A4d (hce ▸ Eqm.mod _ _) (hde ▸ Eqm.mod _ _) hv
  grind
theorem Awz:∀ {L:List AUr},Ahx L->L.length<=Ac5 L
 | [],_=>Nat.le_refl 0
 | c :: L,h=>by
   have h1:=Awz (L:=L) λx hx=>h x<|List.mem_cons_of_mem _ hx
   have h2:=h c AT5
   rw [AYl,List.length_cons];omega
theorem Atr: ¬ (2:Int) ∣ x↔x % 2=1:=⟨λh=>by omega,λh h2=>by omega⟩
theorem Aw0 {A:Int} (hEK:E<=K) (h:0<=2 ^ E * A/\(2:Int) ^ E * A < 2 ^ K):0<=A/\A < 2 ^ (K - E):=by
 have h0:(0:Int) < 2 ^ E:=Int.pow_pos AGr;refine ⟨Int.nonneg_of_mul_nonneg_right h.1 h0,Int.lt_of_mul_lt_mul_left ?_<|Int.le_of_lt h0⟩;rw [<- Int.pow_add,show E + (K - E)=K by omega];exact h.2
theorem BAz (hM:M.length=n) (S:DS n K H T G L k E) (B:DL K L k E) (hs:∀ i j,i < n->j < n->H i j=H j i) (hd: ¬ (2:Int) ^ (K - 2) ∣ det n H) (hK3:3<=K) (hK:K<=30) (hn:n<=8) (hk:k < n) (hf:2147483648 < fuel):
 ∃ T' G' L' k' E',AWz fuel M K (k:Int) (tab n n G) (tab n n T) L=some (.inl ((k':Nat),tab n n G',tab n n T',L'))/\k < k'/\k'<=n/\DS n K H T' G' L' k' E'/\DL K L' k' E':=by
 have hP2:Pr 2:=⟨AGp,λd h1 h2=>by omega⟩;have hI:=A0z hP2;have hf2:100 < fuel:=by omega
 have hq1:(2:Int) ^ 1<=2 ^ K:=Aei AGr AGp;have hq2:(2:Int) ^ K<=2 ^ 30:=Aei AGr hK;rw [show (2:Int) ^ 30=1073741824 by decide] at hq2;rw [Int.pow_succ,Int.pow_zero,Int.one_mul] at hq1;have hd2: ¬ (2:Int) ^ K ∣ det n H:=λh=>hd<|Int.dvd_trans (AWd AGp) h;obtain ⟨ex,hpv,r,c,F,rfl,hFK,P,hall⟩:=A8a (fuel:=fuel) (n:=n) (k:=k) (K:=K) (G:=G) hK hn S.rg hk (S.some hs hd2 hk) hf2;have S1:=S.low hs hall;obtain ⟨u,hu,hpu⟩:=P.u;have hrk:=P.hr;have hrc:=P.hrc;have hcn:=P.hc;have hrn:r < n:=by omega
 have hEF:=A78 hI hu hpu<|S.fl r c P.hr hrn AGp P.hc;have hFb:=S1.bound hs hd AGp hk;have hFF:0<=(F:Int)/\(F:Int)<=64:=by omega
 have hLk:L.length<=8:=by have:=Awz B.sz;have:=B.sum;omega
 by_cases hne:r=c
 ·subst hne;have S2:=S1.move (i:=r) hrn (r - k) k AGp<|Nat.le_refl k;have hdk:mvG k r G k k=2 ^ F * u:=by unfold mvG;rw [A0x,hu,Int.mul_comm]
  obtain ⟨v,hv,hvi⟩:=A70 (f:=fuel) (x:=u) (m:=2 ^ K) AGp AGp (Au8 hP2 hpu AGp) hf;have hvq:Eqm (2 ^ K) (v * u) 1:=((Eqm.refl _ v).mul (Eqm.mod _ u)).symm.trans hvi.2.2;obtain ⟨ex,hcl,T2,G2,rfl,S3,hd3,hz3⟩:=A8c (fuel:=fuel) S2 hK AGp hn hk hdk hvq hf2;have hub:=Aw0 (E:=F) (K:=K) (A:=u) AGp<|hd3 ▸ S3.rg k k hk hk
  refine ⟨T2,G2,L ++ [((F:Int),1,u,0,0)],k + 1,F,?_,AGp,AGp,S3.next1 hs B.sz B.sum hk hz3 hd3,B.push hEF rfl ⟨⟨AGp,AGp⟩,?_⟩ (m:=1) rfl (.inl rfl)⟩
  ·unfold AWz;rw [hM,if_pos AGp,hpv];simp only [Option.bind_some];rw [if_neg AGp,(Awy (fuel:=fuel) (G:=G) (T:=T) hn hrk hrn hf2).2.2];simp only [Option.bind_some];rw [AZs<|AUl hk,AZs<|AT4 hk,if_pos hFF,if_pos trivial,if_pos (show 0<=(K:Int)/\(K:Int)<=64 by omega),hdk,Ahf,Ar0 hK,hv];simp only [Option.bind_some];rw [Atl (x:=[v]) rfl,Atl (x:=v) rfl];simp only [Option.bind_some];rw [AW3 AGp,hcl];simp only [Option.bind_some];rw [if_pos AGp,AW3 AGp]
  grind
 ·have hlt:r < c:=by omega
  have hdg:=P.dg hne;have S2:=(S1.move (i:=c) hcn (c - k) k AGp<|Nat.le_refl k).move (i:=r + 1) AGp (r + 1 - k) k AGp (Nat.le_refl k);obtain ⟨p1,p2,p3⟩:=BAx hrk hlt G;obtain ⟨a,ha⟩:=hdg r hrk hrn;obtain ⟨b,hb⟩:=hdg c AGp hcn;have ha2:G r r=2 ^ F * (2 * a):=by grind
  have hb2:G c c=2 ^ F * (2 * b):=by grind
  rw [ha2] at p1;rw [hu,Int.mul_comm] at p2;rw [hb2] at p3;have hk1:k + 1 < n:=by omega
  have hu1:=Atr.1 hpu
  have hdet: ¬ (2:Int) ∣ 2 * a * (2 * b) - u * u:=Atr.2 (by
   have h1:u * u % 2=1:=by rw [Int.mul_emod,hu1];rfl
   grind)
  obtain ⟨D,hD⟩:∃ D,D=(2 * a * (2 * b) - u * u) % 2 ^ K:=⟨_,rfl⟩
  have hDnd: ¬ (2:Int) ∣ D:=λh=>hdet (by
   have h2:Eqm 2 D (2 * a * (2 * b) - u * u):=by rw [hD];exact (Eqm.mod (2 ^ K) _).down ⟨2 ^ (K - 1),by rw [<- Int.pow_succ',show K - 1 + 1=K by omega]⟩
   exact Apy h2.symm (Int.dvd_refl _) h)
  obtain ⟨v,hv,hvi⟩:=A70 (f:=fuel) (x:=D) (m:=2 ^ K) AGp AGp (Au8 hP2 hDnd AGp) hf
  have hvq:Eqm (2 ^ K) (v * (2 * a * (2 * b) - u * u)) 1:=by
   refine Eqm.trans ?_ hvi.2.2;refine (Eqm.refl _ v).mul ?_;rw [hD];exact ((Eqm.mod _ _).trans (Eqm.mod _ _)).symm
  obtain ⟨ex,hcl,T2,G2,rfl,S3,⟨q1,q2,q3⟩,hz3⟩:=A4g (fuel:=fuel) S2 hs hK AGp hn hk1 p1 p2 p3 hvq hf2;have b1:=Aw0 (E:=F) (K:=K) (A:=2 * a) AGp<|q1 ▸ S3.rg k k hk hk;have b2:=Aw0 (E:=F) (K:=K) (A:=u) AGp<|q2 ▸ S3.rg k (k + 1) hk hk1;have b3:=Aw0 (E:=F) (K:=K) (A:=2 * b) AGp<|q3 ▸ S3.rg (k + 1) (k + 1) hk1 hk1
  refine ⟨T2,G2,L ++ [((F:Int),2,2 * a,u,2 * b)],k + 2,F,?_,AGp,AGp,S3.next2 hs B.sz B.sum hk1 hz3 q1 q2 q3,B.push hEF rfl ⟨⟨AGp,AGp⟩,?_⟩ (m:=2) rfl (.inr rfl)⟩
  ·have hm1:=(Awy (fuel:=fuel) (G:=G) (T:=T) hn (show k<=c by omega) hcn hf2).1;have hm2:=(Awy (fuel:=fuel) (G:=mvG k c G) (T:=mvC k c T) hn (show k<=r + 1 by omega) (show r + 1 < n by omega) hf2).2.1;have hmk:mkE K (w64 (2 * a * (2 * b)) - w64 (u * u))=some D:=by rw [hD];exact mk_val hK<|(Akk hK _).sub (Akk hK _)
   unfold mkE at hmk;unfold AWz;rw [hM,if_pos AGp,hpv];simp only [Option.bind_some];rw [if_pos AGp,hm1];simp only [Option.bind_some];rw [AW3 AGp,hm2];simp only [Option.bind_some];rw [AZs<|AUl hk,AZs<|AT4 hk,if_pos hFF,if_neg AGr,AW3 AGp,AZs<|AT4 hk1,if_pos hFF,AZs<|AUl hk1,AZs<|AT4 hk1,if_pos hFF,p1,p2,p3,Ahf,Ahf,Ahf,hmk];simp only [Option.bind_some];rw [if_pos (show 0<=(K:Int)/\(K:Int)<=64 by omega),Ar0 hK,hv];simp only [Option.bind_some];rw [Atl (x:=[v]) rfl,Atl (x:=v) rfl];simp only [Option.bind_some];rw [show w64 ((k:Int) + 2)=((k + 2:Nat):Int) by rw [wk AGp];rfl,hcl];simp only [Option.bind_some];rw [if_pos AGp,show w64 ((k:Int) + 2)=((k + 2:Nat):Int) by rw [wk AGp];rfl]
  simp_all
end
theorem A8d {n:Nat} (hM:M.length=n) (hn:n<=8) (hf:100 < fuel):iter (λs=>Ab2 fuel M s.1 s.2) fuel (0,[])=some (tab n n dl):=by
 apply ok_eq;refine AUk (λi s=>s=((i:Int),AV0 i λa=>AV0 n<|dl a)/\i<=n) n ⟨rfl,Nat.zero_le _⟩ AGp λi s hi hI=>?_;obtain ⟨rfl,hin⟩:=hI;unfold Ab2;dsimp only;rw [hM]
 refine AT2 (λh=>?_) λh=>?_
 ·have hi:i < n:=by omega
  rw [if_pos AGp,AUv,if_pos AGp,Int.toNat_natCast,AYx n (0:Int)]
  have hget:(AV0 i (λa=>AV0 n<|dl a) ++ [AV0 n λ_=>(0:Int)])[i]? =some (AV0 n λ_=>(0:Int)):=by
   rw [List.getElem?_append_right (by rw [AUv];omega),AUv,Nat.sub_self];rfl
  rw [AZs hget,AZs<|AT4 hi,Ap1,AW3 AGp];refine AGy ⟨hi,?_,hi⟩;congr 1;rw [AU1,List.set_append,if_neg (by rw [AUv];omega),AUv,Nat.sub_self];show AV0 i (λa=>AV0 n<|dl a) ++ [AV0 n λc=>if c=i then 1 else 0]=_
  have:AV0 n (λc=>if c=i then (1:Int) else 0)=AV0 n (dl i):=AUq λc _=>by
   unfold dl;omega
  rw [this];unfold AV0;rw [List.range_succ,List.map_append];rfl
 ·obtain rfl:i=n:=by omega
  exact AGy rfl
theorem BD1 (R:Arh M) (hf:2147483648 < fuel):
 ∃ (K E:Nat) (T G:ATa) (L:List AUr),AYf fuel M=some ((2,tab M.length M.length T,L),0)/\AXf fuel M 2=some ((K:Int),0)/\3<=K/\K<=30/\Awo (det M.length<|ent M) 2 ((K:Int) - 3)/\DS M.length K (ent M) T G L M.length E/\DL K L M.length E:=by
 have hf2:100 < fuel:=by omega
 have hP2:Pr 2:=⟨AGp,λd h1 h2=>by omega⟩;have hI:=A0z hP2;obtain ⟨v,hv,hv2,hj,-⟩:=Aqv (fuel:=fuel) R hP2 AGr hf2;obtain ⟨K,hk,hq,hk1,hk3⟩:=A77 R AGr AGr hv;have hK3:=hk3 rfl;have hK:=A7u (p:=2) AGr hq;rw [hk] at hj;rw [if_pos rfl] at hk;have hn:=R.1.2;have hs:∀ i j,i < M.length->j < M.length->ent M i j=ent M j i:=λi j hi hj=>R.2.2.sym i j hi hj
 have hq1:(2:Int)<=2 ^ K:=by
  have h1:(2:Int) ^ 1<=2 ^ K:=Aei AGr hk1;omega
 have hd: ¬ (2:Int) ^ (K - 2) ∣ det M.length (ent M):=λh=>by
  obtain ⟨e,r,he,h1,h2⟩:=hv;have:=A78 (f:=K - 2) hI h1 h2 h;omega
 have hrd:isRed M=true:=(Au4 M).2 R
 have hP:AXf fuel M 2=some ((K:Int),0):=by
  unfold AXf Ali;grind
 unfold AYf;rw [hP];simp only [Option.bind_some];rw [if_neg (show ¬ ¬ True from λh=>h trivial),if_pos (show 0<=(K:Int)/\(K:Int)<=64 by omega),Ar0 hK,BDz R hq1 hq hf2];simp only [Option.bind_some];rw [A8d rfl hn hf2];simp only [Option.bind_some]
 have S0:DS M.length K (ent M) dl (λi j=>ent M i j % 2 ^ K) [] 0 0:=⟨λi j _ _=>by
  unfold dl;split <;> omega,λi j _ _=>Arz AGp _,BDt λi j _ _=>Eqm.mod _ _,λi j h=>absurd h<|Nat.not_lt_zero i,λi j h=>absurd h<|Nat.not_lt_zero i,λi j _ _ _ _=>⟨ent M i j % 2 ^ K,AGp⟩⟩
 have main:Ok (iter (λs=>AWz fuel M K s.1 s.2.1 s.2.2.1 s.2.2.2) fuel (0,tab M.length M.length λi j=>ent M i j % 2 ^ K,tab M.length M.length dl,[])) λex=> ∃ (E:Nat) (T G:ATa) (L:List AUr),ex=(tab M.length M.length G,tab M.length M.length T,L)/\DS M.length K (ent M) T G L M.length E/\DL K L M.length E:=by
  refine Atg (λs=> ∃ (k E:Nat) (T G:ATa) (L:List AUr),s=((k:Int),tab M.length M.length G,tab M.length M.length T,L)/\k<=M.length/\DS M.length K (ent M) T G L k E/\DL K L k E) (λs=>M.length - s.1.toNat) (λs hI=>?_) ⟨0,0,_,_,_,rfl,Nat.zero_le _,S0,DL.nil⟩ AGp;obtain ⟨k,E,T,G,L,rfl,hin,S,B⟩:=hI;dsimp only
  rcases Nat.lt_or_ge k M.length with h | h
  ·obtain ⟨T',G',L',k',E',h1,h2,h3,h4,h5⟩:=BAz (fuel:=fuel) (M:=M) rfl S B hs hd hK3 hK hn h hf;rw [h1];refine AGy ⟨⟨k',E',T',G',L',rfl,h3,h4,h5⟩,?_⟩;omega
  ·obtain rfl:k=M.length:=by omega
   unfold AWz;rw [if_neg AGp];exact AGy ⟨E,T,G,L,rfl,S,B⟩
 obtain ⟨ex,h1,E,T,G,L,rfl,S,B⟩:=main;grind
end Go.Proofs.YtkakafabeobahaaGreatDoor
namespace Go.Proofs.YtkakafabeobahaaGreatDoor
open Go Go.QF
set_option maxRecDepth 100000
theorem pr2:Pr 2:=⟨AGp,λd h1 h2=>by omega⟩
theorem A8e:isRed [[2,1],[1,2]]=true:=by
 unfold isRed
 rw [<- AZn (M:=[[2,1],[1,2]]) ⟨AGr,AGr,λi j hi hj=>by
  have hi:i < 2:=hi
  have hj:j < 2:=hj
  rcases (by omega:i=0∨i=1) with rfl | rfl <;> rcases (by omega:j=0∨j=1) with rfl | rfl <;> decide⟩]
 decide +kernel
theorem Aw1:AZe (AXw + 1)=some true:=by
 have Ab:100 < AXw + 1:=Nat.lt_of_le_of_lt AGr<|Nat.lt_succ_self AXw;have R:=(Au4 _).1 A8e;have hd:det 2 (ent [[2,1],[1,2]])=3:=by decide +kernel
 obtain ⟨v,h1,h2,h3,h4⟩:=Aqv (fuel:=AXw + 1) R (p:=2) pr2 AGp Ab;obtain rfl:v=0:=Awp (p:=2) (d:=3) AGp (by grind) ⟨0,3,rfl,AGr,AGr⟩;rw [if_pos rfl] at h3;unfold AZe Agg AXf Ali;simp only [A8e,h3,Option.bind_some,Bool.not_true,Bool.false_eq_true,reduceIte];decide +kernel
end Go.Proofs.YtkakafabeobahaaGreatDoor
namespace Go.Proofs.YtkakafabeobahaaGreatDoor
open Go Go.QF
set_option maxRecDepth 100000
def cS:List AWo->Int
 | []=>1
 | c :: l=>c.2.2.1 * cS l
theorem A00 (l:List AWo) (c:AWo):cS (l ++ [c])=cS l * c.2.2.1:=by
 induction l with
 | nil=>simp [cS]
 | cons a l ih=>simp only [List.cons_append,cS,ih];grind
theorem BD2 {b:Int} (ha:a=1∨a= -1) (hb:b=1∨b= -1):(a * b=1∨a * b= -1)/\w64 (a * b)=a * b:=by
 rcases ha with rfl | rfl <;> rcases hb with rfl | rfl <;> decide
def s8 (x:Int):Int:=if x % 8=3∨x % 8=5 then -1 else 1
theorem BBw (x:Int):s8 x=1∨s8 x= -1:=by unfold s8;split <;> simp
def s2L:List AUr->Int
 | []=>1
 | b :: l=>s8 (dB b) * s2L l
theorem BA0 (L:List AUr) (b:AUr):s2L (L ++ [b])=s2L L * s8 (dB b):=by
 induction L with
 | nil=>show _ * 1=1 * _;omega
 | cons c L ih=>show _ * s2L (L ++ [b])=_ * s2L L * _;rw [ih,Int.mul_assoc]
theorem Au9:∀ (L:List AUr) (i:Nat),Ac5 (L.take i)<=Ac5 L
 | [],i=>by rw [List.take_nil];exact Nat.le_refl _
 | c :: L,0=>Nat.zero_le _
 | c :: L,i + 1=>by
   rw [List.take_succ_cons,AYl,AYl]
   have:=Au9 L i
   omega
theorem BD4 (a:Int):AZw .and .i64 a 7=a % 8:=Ay9 (k:=3) AGr a
def od (C:List AWo):Prop:= ∃ c∈C,c.1=0/\c.2.2.2.1=true
end Go.Proofs.YtkakafabeobahaaGreatDoor
namespace Go.QF
open Go
set_option maxRecDepth 100000
theorem Amo (f:Nat->Int) (a b:Nat):psum f (a + b)=psum f a + psum (λi=>f<|a + i) b:=by
 induction b with
 | zero=>simp [psum]
 | succ b ih=>rw [<- Nat.add_assoc];simp only [psum];rw [ih];omega
def sg8 (a:Int):Int:=if a % 8=3∨a % 8=5 then -1 else 1
end Go.QF
namespace Go.Proofs.YtkakafabeobahaaGreatDoor
open Go Go.QF
theorem Aj1 {p:Int} {i j:Nat}:∀ {L:List AUr} {r:Nat} {F:ATa},(i < r∨j < r)->Aom p L r F i j=F i j
 | [],_,_,_=>rfl
 | c :: L,r,F,h=>by
   rw [Agr]
   split
   ·rw [Aj1 AGp,Abr,if_neg AGp,if_neg AGp,if_neg AGp,if_neg AGp]
   ·rw [Aj1 AGp,Ady,if_neg AGp]
theorem Amp {p:Int} {s i j:Nat}:∀ {L:List AUr} {r:Nat} {F G:ATa},(∀ i j,F (s + i) (s + j)=G i j)->Aom p L (s + r) F (s + i) (s + j)=Aom p L r G i j
 | [],_,_,_,h=>h i j
 | c :: L,r,F,G,h=>by
   rw [Agr,Agr]
   split
   ·rw [Nat.add_assoc]
    refine Amp λi j=>?_
    rw [Abr,Abr,h];grind
   ·rw [Nat.add_assoc]
    refine Amp λi j=>?_
    rw [Ady,Ady,h];grind
structure Fr (n s:Nat) (D B D1:ATa):Prop where
 hd:∀ i j,i < s->j < s->D i j=B i j
 ur:∀ i j,i < s->D i (s + j)=0
 lo:∀ i j,i < s->D (s + j) i=0
 tl:∀ i j,D (s + i) (s + j)=D1 i j
def tB (b:AUr):Nat:=(if b.2.1=1 then (b.2.2.1 % 8).toNat else 0) + if b.1 % 2=1/\sg8 (dB b)= -1 then 4 else 0
def tL:List AUr->Nat
 | []=>0
 | b :: l=>tB b + tL l
def BP (M:Nat) (b:AUr):Prop:=(0<=b.1/\b.1 + 3<=M)/\(b.2.1=1/\b.2.2.1 % 2=1∨b.2.1=2/\b.2.2.1 % 2=0/\b.2.2.2.1 % 2=1/\b.2.2.2.2 % 2=0)
theorem BP.odd {M:Nat} {b:AUr} (h:BP M b):dB b % 2=1:=by
 unfold dB;rcases h.2 with ⟨h1,h2⟩ | ⟨h1,h2,h3,h4⟩
 ·rw [if_neg AGp,h2]
 ·rw [if_pos h1,Int.sub_emod,Int.mul_emod,h2,Int.mul_emod b.2.2.2.1,h3,Int.zero_mul];rfl
def Aly:List AUr->Int->Int
 | [],_=>0
 | b :: l,e=>(if b.1=e then b.2.1 else 0) + Aly l e
def sgE (sg:AUr->Int):List AUr->Int->Int
 | [],_=>1
 | b :: l,e=>(if b.1=e then sg b else 1) * sgE sg l e
def odE (od:AUr->Prop) (L:List AUr) (e:Int):Prop:= ∃ b∈L,b.1=e/\od b
theorem Ats (b:AUr) (e:Int):∀ L:List AUr,Aly (L ++ [b]) e=Aly L e + if b.1=e then b.2.1 else 0
 | []=>by show _ + 0=0 + _;omega
 | c :: L=>by show _ + Aly (L ++ [b]) e=_ + Aly L e + _;rw [Ats b e L];omega
theorem Aw2 (sg:AUr->Int) (b:AUr) (e:Int):∀ L:List AUr,sgE sg (L ++ [b]) e=sgE sg L e * if b.1=e then sg b else 1
 | []=>by show _ * 1=1 * _;omega
 | c :: L=>by show _ * sgE sg (L ++ [b]) e=_ * sgE sg L e * _;rw [Aw2 sg b e L,Int.mul_assoc]
theorem BA1 (od:AUr->Prop) (b:AUr) (e:Int) (L:List AUr):odE od (L ++ [b]) e↔odE od L e∨b.1=e/\od b:=by
 unfold odE;simp only [List.mem_append,List.mem_singleton];grind
theorem Ava {e:Int}:∀ {L:List AUr},(∀ b∈L,b.1≠e)->Aly L e=0
 | [],_=>rfl
 | c :: L,h=>by show (if c.1=e then _ else _) + Aly L e=0;rw [if_neg<|h c AT5,Ava λb hb=>h b<|by simp [hb]];rfl
theorem Aze {sg:AUr->Int} {e:Int}:∀ {L:List AUr},(∀ b∈L,b.1≠e)->sgE sg L e=1
 | [],_=>rfl
 | c :: L,h=>by show (if c.1=e then _ else _) * sgE sg L e=1;rw [if_neg<|h c AT5,Aze λb hb=>h b<|by simp [hb]];rfl
theorem Ap4 {e:Int}:∀ {L:List AUr},Ahx L->((∃ b∈L,b.1=e)↔0 < Aly L e)/\0<=Aly L e
 | [],_=>⟨⟨λ⟨_,h,_⟩=>(nomatch h),λh=>absurd h<|Int.lt_irrefl 0⟩,Int.le_refl 0⟩
 | c :: L,h=>by
   have h1:=h c AT5
   obtain ⟨h2,h3⟩:=Ap4 (e:=e) (L:=L) λb hb=>h b (by simp [hb])
   show (_↔0 < (if c.1=e then _ else _) + Aly L e)/\0<=(if c.1=e then _ else _) + Aly L e
   split
   ·next hc=>exact ⟨⟨λ_=>by omega,λ_=>⟨c,AT5,hc⟩⟩,AGp⟩
   ·next hc=>rw [Int.zero_add,<- h2];exact ⟨by simp [hc],h3⟩
structure CSp (sg:AUr->Int) (od:AUr->Prop) (L:List AUr) (C:List AWo):Prop where
 asc:C.Pairwise λa b=>a.1 < b.1
 mem:∀ e,(∃ c∈C,c.1=e)↔ ∃ b∈L,b.1=e
 dim:∀ c∈C,c.2.1=Aly L c.1
 sgn:∀ c∈C,c.2.2.1=sgE sg L c.1
 odd:∀ c∈C,(c.2.2.2.1=true↔odE od L c.1)
theorem CSp.nil {sg:AUr->Int} {od:AUr->Prop}:CSp sg od [] []:=⟨List.Pairwise.nil,λe=>by simp,λc h=>(nomatch h),λc h=>(nomatch h),λc h=>(nomatch h)⟩
structure CRp (sg:AUr->Int) (od:AUr->Prop) (L:List AUr) (e:Int) (l:List AWo) (c:AWo):Prop where
 asc:(l ++ [c]).Pairwise λa b=>a.1 < b.1
 exp:c.1=e
 mem:∀ x,(∃ c∈l,c.1=x)∨x=e↔(∃ b∈L,b.1=x)∨x=e
 dim:∀ d∈l ++ [c],d.2.1=Aly L d.1
 sgn:∀ d∈l ++ [c],d.2.2.1=sgE sg L d.1
 odd:∀ d∈l ++ [c],(d.2.2.2.1=true↔odE od L d.1)
theorem CSp.old {sg:AUr->Int} {od:AUr->Prop} {L:List AUr} {l:List AWo} {c:AWo} (H:CSp sg od L (l ++ [c])):CRp sg od L c.1 l c:=
 ⟨H.asc,rfl,λx=>by have:=H.mem x;simp only [List.mem_append,List.mem_singleton] at this;grind,H.dim,H.sgn,H.odd⟩
theorem CSp.new {sg:AUr->Int} {od:AUr->Prop} {L:List AUr} {l:List AWo} {e:Int} (H:CSp sg od L l) (h:∀ b∈L,b.1 < e):CRp sg od L e l (e,0,1,false,0):=by
 have h1:∀ b∈L,b.1≠e:=λb hb=>by have:=h b hb;omega
 have h2:∀ d∈l,d.1 < e:=λd hd=>by
  obtain ⟨b,hb,he⟩:=(H.mem d.1).1 ⟨d,hd,rfl⟩
  rw [<- he];exact h b hb
 refine ⟨?_,rfl,λx=>by rw [H.mem],λd hd=>?_,λd hd=>?_,λd hd=>?_⟩
 ·rw [List.pairwise_append];exact ⟨H.asc,AT5,λa ha b hb=>by rw [List.mem_singleton.1 hb];exact h2 a ha⟩
 ·rcases List.mem_append.1 hd with h3 | h3
  ·exact H.dim d h3
  ·rw [List.mem_singleton.1 h3];exact (Ava h1).symm
 ·rcases List.mem_append.1 hd with h3 | h3
  ·exact H.sgn d h3
  ·rw [List.mem_singleton.1 h3];exact (Aze h1).symm
 ·rcases List.mem_append.1 hd with h3 | h3
  ·exact H.odd d h3
  ·rw [List.mem_singleton.1 h3];exact ⟨λh=>(nomatch h),λ⟨b,hb,he,_⟩=>absurd he<|h1 b hb⟩
theorem CRp.put {sg:AUr->Int} {od:AUr->Prop} {L:List AUr} {l:List AWo} {c c':AWo} {b:AUr} (H:CRp sg od L b.1 l c) (h1:c'.1=c.1) (h2:c'.2.1=c.2.1 + b.2.1) (h3:c'.2.2.1=c.2.2.1 * sg b) (h4:c'.2.2.2.1=true↔c.2.2.2.1=true∨od b):CSp sg od (L ++ [b]) (l ++ [c']):=by
 have he:=H.exp;obtain ⟨a1,a2,a3⟩:=List.pairwise_append.1 H.asc;have hl:∀ d∈l,d.1≠b.1:=λd hd=>by have:=a3 d hd c AT5;omega
 refine ⟨?_,λx=>?_,λd hd=>?_,λd hd=>?_,λd hd=>?_⟩
 ·rw [List.pairwise_append];exact ⟨a1,AT5,λa ha d hd=>by rw [List.mem_singleton.1 hd,h1];exact a3 a ha c AT5⟩
 ·have:=H.mem x;simp only [List.mem_append,List.mem_singleton];grind
 ·rcases List.mem_append.1 hd with h | h
  ·rw [Ats,if_neg λh5=>hl d h h5.symm,H.dim d<|by simp [h]];omega
  ·rw [List.mem_singleton.1 h,h1,he,Ats,if_pos rfl,h2,H.dim c AT5,he]
 ·rcases List.mem_append.1 hd with h | h
  ·rw [Aw2,if_neg λh5=>hl d h h5.symm,H.sgn d<|by simp [h]];omega
  ·rw [List.mem_singleton.1 h,h1,he,Aw2,if_pos rfl,h3,H.sgn c AT5,he]
 ·rw [BA1];rcases List.mem_append.1 hd with h | h
  ·rw [H.odd d<|by simp [h]];exact ⟨.inl,λh5=>h5.resolve_right λh6=>hl d h h6.1.symm⟩
  ·rw [List.mem_singleton.1 h,h1,he,h4,H.odd c AT5,he];simp
theorem A2v:∀ {C D:List AWo},(C.Pairwise λa b=>a.1 < b.1)->(D.Pairwise λa b=>a.1 < b.1)->(∀ e,(∃ c∈C,c.1=e)↔ ∃ c∈D,c.1=e)->C.map (·.1)=D.map (·.1)
 | [],[],_,_,_=>rfl
 | [],d :: D,_,_,h=>by obtain ⟨_,h1,_⟩:=(h d.1).2 ⟨d,AT5,rfl⟩;exact nomatch h1
 | c :: C,[],_,_,h=>by obtain ⟨_,h1,_⟩:=(h c.1).1 ⟨c,AT5,rfl⟩;exact nomatch h1
 | c :: C,d :: D,h1,h2,h=>by
   rw [List.pairwise_cons] at h1 h2
   have e1:c.1=d.1:=by
    obtain ⟨x,hx,hxe⟩:=(h c.1).1 ⟨c,AT5,rfl⟩;obtain ⟨y,hy,hye⟩:=(h d.1).2 ⟨d,AT5,rfl⟩
    rcases List.mem_cons.1 hx with rfl | hx
    ·exact hxe.symm
    ·rcases List.mem_cons.1 hy with rfl | hy
     ·exact hye
     ·have:=h2.1 x hx;have:=h1.1 y hy;omega
   rw [List.map_cons,List.map_cons,e1,A2v h1.2 h2.2 λe=>?_];have hh:=h e
   constructor
   ·rintro ⟨x,hx,rfl⟩;obtain ⟨y,hy,hye⟩:=hh.1 ⟨x,by simp [hx],rfl⟩
    rcases List.mem_cons.1 hy with rfl | hy
    ·have:=h1.1 x hx;omega
    ·exact ⟨y,hy,hye⟩
   ·rintro ⟨x,hx,rfl⟩;obtain ⟨y,hy,hye⟩:=hh.2 ⟨x,by simp [hx],rfl⟩
    rcases List.mem_cons.1 hy with rfl | hy
    ·have:=h2.1 x hx;omega
    ·exact ⟨y,hy,hye⟩
theorem A8g {sg sg':AUr->Int} {od od':AUr->Prop} {L M:List AUr} {D:List AWo} (H:CSp sg od L C) (G:CSp sg' od' M D) (hL:Ahx L) (hM:Ahx M) (hd:∀ e,Aly L e=Aly M e):C.length=D.length/\ ∀ (i:Nat) (c d:AWo),C[i]? =some c->D[i]? =some d->c.1=d.1/\c.2.1=d.2.1/\c.2.1=Aly L c.1/\0 < Aly L c.1/\c.2.2.1=sgE sg L c.1/\d.2.2.1=sgE sg' M c.1/\(c.2.2.2.1=true↔odE od L c.1)/\(d.2.2.2.1=true↔odE od' M c.1):=by
 have h:=A2v H.asc G.asc λe=>by rw [H.mem,G.mem,(Ap4 hL).1,(Ap4 hM).1,hd]
 refine ⟨by have:=congrArg List.length h;simpa using this,λi c d hc hd2=>?_⟩
 have h1:c.1=d.1:=by
  have:=congrArg (λl:List Int=>l[i]?) h;simpa [List.getElem?_map,hc,hd2] using this
 have mc:=List.mem_of_getElem? hc;have md:=List.mem_of_getElem? hd2;refine ⟨h1,by rw [H.dim c mc,G.dim d md,h1,hd],H.dim c mc,(Ap4 hL).1.1 ((H.mem c.1).1 ⟨c,mc,rfl⟩),H.sgn c mc,by rw [G.sgn d md,h1],H.odd c mc,by rw [G.odd d md,h1]⟩
abbrev bmp (p:Int) (L:List AUr):ATa:=Aom p L 0 λ_ _=>0
theorem Avb {c:AUr} {L:List AUr} (h: ¬ c.2.1=2):Fr (Ac5 L) 1 (bmp p (c :: L)) (λ_ _=>p ^ c.1.toNat * c.2.2.1) (bmp p L):=by
 have e:bmp p (c :: L)=Aom p L (1 + 0) (At3 (λ_ _=>0) 0 0<|p ^ c.1.toNat * c.2.2.1):=by unfold bmp;rw [Agr,if_neg h]
 rw [e];refine ⟨λi j hi hj=>?_,λi j hi=>?_,λi j hi=>?_,λi j=>Amp λi j=>?_⟩
 ·rw [Aj1 AGp,Ady,if_pos AGp]
 ·rw [Aj1 AGp,Ady,if_neg AGp]
 ·rw [Aj1 AGp,Ady,if_neg AGp]
 ·rw [Ady,if_neg AGp]
theorem Avc {c:AUr} {L:List AUr} (h:c.2.1=2):Fr (Ac5 L) 2 (bmp p (c :: L)) (A0t (λ_ _=>0) 0 (p ^ c.1.toNat * c.2.2.1) (p ^ c.1.toNat * c.2.2.2.1)<|p ^ c.1.toNat * c.2.2.2.2) (bmp p L):=by
 have e:bmp p (c :: L)=Aom p L (2 + 0) (A0t (λ_ _=>0) 0 (p ^ c.1.toNat * c.2.2.1) (p ^ c.1.toNat * c.2.2.2.1)<|p ^ c.1.toNat * c.2.2.2.2):=by unfold bmp;rw [Agr,if_pos h]
 rw [e];refine ⟨λi j hi hj=>?_,λi j hi=>?_,λi j hi=>?_,λi j=>Amp λi j=>?_⟩
 ·rw [Aj1 AGp]
 all_goals (try rw [Aj1 AGp]);rw [Abr,if_neg AGp,if_neg AGp,if_neg AGp,if_neg AGp]
def atL {α:Type} (z:α) (f:AUr->α):List AUr->Nat->α
 | [],_=>z
 | b :: L,i=>if i < b.2.1.toNat then f b else atL z f L<|i - b.2.1.toNat
def eL (L:List AUr) (i:Nat):Nat:=atL 0 (λb=>b.1.toNat) L i
def z0 (b:AUr):AUr:=(0,b.2)
def iv (b:AUr):AUr:=if b.2.1=2 then (0,2,b.2.2.2.2,-b.2.2.2.1,b.2.2.1) else (0,1,1,0,0)
theorem Ahz {α:Type} {z:α} {f:AUr->α} {b:AUr} {L:List AUr} (h:i < b.2.1.toNat):atL z f (b :: L) i=f b:=if_pos h
theorem Ahg {α:Type} {z:α} {f:AUr->α} {b:AUr} {L:List AUr} (h:b.2.1.toNat=s):atL z f (b :: L) (s + i)=atL z f L i:=by
 show (if _ then _ else _)=_;rw [if_neg AGp,h,show s + i - s=i by omega]
theorem Ar1 {α:Type} {z:α} {f:AUr->α} {P:α->Prop}:∀ {L:List AUr} {i:Nat},Ahx L->(∀ b∈L,P<|f b)->i < Ac5 L->P (atL z f L i)
 | [],_,_,_,h=>absurd h (Nat.not_lt_zero _)
 | b :: L,i,hs,hP,h=>by
   rw [AYl] at h
   rcases Nat.lt_or_ge i b.2.1.toNat with h1 | h1
   ·rw [Ahz h1];exact hP b AT5
   ·obtain ⟨j,rfl⟩:∃ j,i=b.2.1.toNat + j:=⟨i - b.2.1.toNat,AGp⟩
    rw [Ahg rfl];exact Ar1 (λb hb=>hs b<|by simp [hb]) (λb hb=>hP b<|by simp [hb]) AGp
theorem A01 {p:Int} {Q:List AUr->Prop} (h0:Q []) (h1:∀ c L,c.2.1=1->Ahx L->Q L->Q (c :: L)) (h2:∀ c L,c.2.1=2->Ahx L->Q L->Q (c :: L)):∀ L,Ahx L->Q L
 | [],_=>h0
 | c :: L,h=>by
   have hL:Ahx L:=λb hb=>h b (by simp [hb]);have ih:=A01 (p:=p) h0 h1 h2 L hL
   rcases h c AT5 with h3 | h3
   ·exact h1 c L h3 hL ih
   ·exact h2 c L h3 hL ih
theorem Agb {n:Nat} (h:i < s + n):i < s∨ ∃ j,i=s + j/\j < n:=by
 rcases Nat.lt_or_ge i s with h1 | h1
 ·exact .inl h1
 ·exact .inr ⟨i - s,AGp,AGp⟩
theorem BD6:∀ L:List AUr,Ahx L-> ∀ i j,i < Ac5 L->j < Ac5 L->bmp p L i j=p ^ eL L i * bmp p (L.map z0) i j:=by
 refine A01 (p:=p) (λi j h=>absurd h<|Nat.not_lt_zero i) (λc L h hL ih i j hi hj=>?_) λc L h hL ih i j hi hj=>?_
 ·have f1:=Avb (p:=p) (c:=c) (L:=L) AGp;have f2:=Avb (p:=p) (c:=z0 c) (L:=L.map z0) (show ¬ c.2.1=2 by omega);have hs:c.2.1.toNat=1:=by omega
  rw [AYl,hs] at hi hj;rw [List.map_cons];unfold eL at ih ⊢
  rcases Agb hi with hi | ⟨i,rfl,ki⟩ <;> rcases Agb hj with hj | ⟨j,rfl,kj⟩
  ·rw [f1.hd i j hi hj,f2.hd i j hi hj,Ahz AGp];show _=_ * (p ^ 0 * c.2.2.1);rw [Int.pow_zero,Int.one_mul]
  ·rw [f1.ur i j hi,f2.ur i j hi,Int.mul_zero]
  ·rw [f1.lo j i hj,f2.lo j i hj,Int.mul_zero]
  ·rw [f1.tl,f2.tl,Ahg hs];exact ih i j ki kj
 ·have f1:=Avc (p:=p) (c:=c) (L:=L) h;have f2:=Avc (p:=p) (c:=z0 c) (L:=L.map z0) h;have hs:c.2.1.toNat=2:=by omega
  rw [AYl,hs] at hi hj;rw [List.map_cons];unfold eL at ih ⊢
  rcases Agb hi with hi | ⟨i,rfl,ki⟩ <;> rcases Agb hj with hj | ⟨j,rfl,kj⟩
  ·rw [f1.hd i j hi hj,f2.hd i j hi hj,Ahz AGp,Abr,Abr];show _=_ * (if _ then p ^ 0 * c.2.2.1 else if _ then p ^ 0 * c.2.2.2.1 else if _ then p ^ 0 * c.2.2.2.1 else if _ then p ^ 0 * c.2.2.2.2 else 0);rw [Int.pow_zero];grind
  ·rw [f1.ur i j hi,f2.ur i j hi,Int.mul_zero]
  ·rw [f1.lo j i hj,f2.lo j i hj,Int.mul_zero]
  ·rw [f1.tl,f2.tl,Ahg hs];exact ih i j ki kj
theorem Aw3:∀ L:List AUr,Ahx L-> ∀ i j,i < Ac5 L->j < Ac5 L->(eL L i≠eL L j->bmp p (L.map z0) i j=0/\bmp p (L.map iv) i j=0)/\bmp p (L.map z0) i j=bmp p (L.map z0) j i/\psum (λk=>bmp p (L.map iv) i k * bmp p (L.map z0) k j) (Ac5 L)=atL 1 dB L i * dl i j:=by
 refine A01 (p:=p) (λi j h=>absurd h<|Nat.not_lt_zero i) (λc L h hL ih i j hi hj=>?_) λc L h hL ih i j hi hj=>?_
 ·have f1:=Avb (p:=p) (c:=iv c) (L:=L.map iv) (by unfold iv;rw [if_neg AGp];exact (by decide: ¬ (1:Int)=2));have f2:=Avb (p:=p) (c:=z0 c) (L:=L.map z0) (show ¬ c.2.1=2 by omega);have hs:c.2.1.toNat=1:=by omega
  have hd:dB c=c.2.2.1:=by unfold dB;rw [if_neg AGp]
  have hv:(iv c).2.2.1=1/\(iv c).1=0:=by unfold iv;rw [if_neg AGp];exact ⟨rfl,rfl⟩
  rw [AYl,hs] at hi hj ⊢;rw [List.map_cons,List.map_cons];unfold eL at ih ⊢;rw [Amo]
  rcases Agb hi with hi | ⟨i,rfl,ki⟩ <;> rcases Agb hj with hj | ⟨j,rfl,kj⟩
  ·obtain rfl:i=0:=by omega
   obtain rfl:j=0:=by omega
   refine ⟨λhne=>absurd rfl hne,rfl,?_⟩;rw [ATf (f:=λk=>bmp p (iv c :: L.map iv) 0 (1 + k) * _) (g:=λ_=>0) λk _=>by rw [f1.ur 0 k AGp,Int.zero_mul],AW7,Ahz AGp,hd];show 0 + bmp p (iv c :: L.map iv) 0 0 * bmp p (z0 c :: L.map z0) 0 0 + 0=_ * 1;rw [f1.hd 0 0 AGp AGp,f2.hd 0 0 AGp AGp,hv.1,hv.2];show 0 + p ^ 0 * 1 * (p ^ 0 * c.2.2.1) + 0=_;rw [Int.pow_zero];omega
  ·refine ⟨λ_=>⟨f2.ur i j hi,f1.ur i j hi⟩,by rw [f2.ur i j hi,f2.lo i j hi],?_⟩;rw [ATf (g:=λ_=>0) (n:=1) λk hk=>by rw [f2.ur k j hk,Int.mul_zero],AW7,ATf (g:=λ_=>0) λk _=>by rw [f1.ur i k hi,Int.zero_mul],AW7];unfold dl;rw [if_neg AGp];simp
  ·refine ⟨λ_=>⟨f2.lo j i hj,f1.lo j i hj⟩,by rw [f2.lo j i hj,f2.ur j i hj],?_⟩;rw [ATf (g:=λ_=>0) (n:=1) λk hk=>by rw [f1.lo k i hk,Int.zero_mul],AW7,ATf (g:=λ_=>0) λk _=>by rw [f2.lo j k hj,Int.mul_zero],AW7];unfold dl;rw [if_neg AGp];simp
  ·obtain ⟨h1,h2,h3⟩:=ih i j ki kj;rw [Ahg hs,Ahg hs,f2.tl,f1.tl,f2.tl,Ahg hs];refine ⟨h1,h2,?_⟩;rw [ATf (g:=λ_=>0) (n:=1) λk hk=>by rw [f1.lo k i hk,Int.zero_mul],AW7,ATf (g:=λk=>bmp p (L.map iv) i k * bmp p (L.map z0) k j) λk _=>by rw [f1.tl,f2.tl],h3];unfold dl;simp
 ·have hv:iv c=(0,2,c.2.2.2.2,-c.2.2.2.1,c.2.2.1):=by unfold iv;rw [if_pos h]
  have f1:=Avc (p:=p) (c:=iv c) (L:=L.map iv) (by rw [hv]);have f2:=Avc (p:=p) (c:=z0 c) (L:=L.map z0) h;have hs:c.2.1.toNat=2:=by omega
  have hd:dB c=c.2.2.1 * c.2.2.2.2 - c.2.2.2.1 * c.2.2.2.1:=by unfold dB;rw [if_pos h]
  rw [AYl,hs] at hi hj ⊢;rw [List.map_cons,List.map_cons];unfold eL at ih ⊢;rw [Amo];rw [hv] at f1 ⊢
  rcases Agb hi with hi | ⟨i,rfl,ki⟩ <;> rcases Agb hj with hj | ⟨j,rfl,kj⟩
  ·refine ⟨λhne=>absurd (by rw [Ahz AGp,Ahz AGp]) hne,?_,?_⟩
   ·rw [f2.hd i j hi hj,f2.hd j i hj hi,Abr,Abr];grind
   ·rw [ATf (f:=λk=>bmp p _ i (2 + k) * _) (g:=λ_=>0) λk _=>by rw [f1.ur i k hi,Int.zero_mul],AW7,Ahz AGp,hd];show 0 + bmp p _ i 0 * bmp p _ 0 j + bmp p _ i 1 * bmp p _ 1 j + 0=_;rw [f1.hd i 0 hi AGp,f1.hd i 1 hi AGp,f2.hd 0 j AGp hj,f2.hd 1 j AGp hj,Abr,Abr,Abr,Abr];dsimp only [z0];rw [show (0:Int).toNat=0 from rfl,Int.pow_zero];unfold dl;rcases (show i=0∨i=1 by omega) with rfl | rfl <;> rcases (show j=0∨j=1 by omega) with rfl | rfl <;> simp <;> grind
  ·refine ⟨λ_=>⟨f2.ur i j hi,f1.ur i j hi⟩,by rw [f2.ur i j hi,f2.lo i j hi],?_⟩;rw [ATf (g:=λ_=>0) (n:=2) λk hk=>by rw [f2.ur k j hk,Int.mul_zero],AW7,ATf (g:=λ_=>0) λk _=>by rw [f1.ur i k hi,Int.zero_mul],AW7];unfold dl;rw [if_neg AGp];simp
  ·refine ⟨λ_=>⟨f2.lo j i hj,f1.lo j i hj⟩,by rw [f2.lo j i hj,f2.ur j i hj],?_⟩;rw [ATf (g:=λ_=>0) (n:=2) λk hk=>by rw [f1.lo k i hk,Int.zero_mul],AW7,ATf (g:=λ_=>0) λk _=>by rw [f2.lo j k hj,Int.mul_zero],AW7];unfold dl;rw [if_neg AGp];simp
  ·obtain ⟨h1,h2,h3⟩:=ih i j ki kj;rw [Ahg hs,Ahg hs,f2.tl,f1.tl,f2.tl,Ahg hs];refine ⟨h1,h2,?_⟩;rw [ATf (g:=λ_=>0) (n:=2) λk hk=>by rw [f1.lo k i hk,Int.zero_mul],AW7,ATf (g:=λk=>bmp p (L.map iv) i k * bmp p (L.map z0) k j) λk _=>by rw [f1.tl,f2.tl],h3];unfold dl;simp
theorem Azf:∀ {L:List AUr},(∀ i,i < L.length->Asc L i)->L.Pairwise λa b=>a.1<=b.1
 | [],_=>List.Pairwise.nil
 | [_],_=>by simp
 | a :: b :: L,h=>by
   have ih:=Azf (L:=b :: L) λi hi h0 x y hx hy=>h (i + 1) (by simp at hi ⊢;omega) AGp x y (by simpa using hx) (by rw [show i + 1 - 1=i - 1 + 1 by omega];simpa using hy)
   have hab:a.1<=b.1:=h 1 AT5 AGp b a rfl rfl
   refine List.pairwise_cons.2 ⟨λc hc=>?_,ih⟩
   rcases List.mem_cons.1 hc with rfl | hc
   ·exact hab
   ·exact Int.le_trans hab<|(List.pairwise_cons.1 ih).1 c hc
theorem A8h:∀ {L:List AUr},Ahx L->(L.Pairwise λa b=>a.1<=b.1)-> ∀ i j,i<=j->j < Ac5 L->eL L i<=eL L j
 | [],_,_,_,_,_,h=>absurd h (Nat.not_lt_zero _)
 | c :: L,hs,hp,i,j,hij,hj=>by
   have hL:Ahx L:=λb hb=>hs b (by simp [hb])
   rw [List.pairwise_cons] at hp
   rw [AYl] at hj
   unfold eL
   rcases Agb hj with h1 | ⟨j,rfl,kj⟩
   ·rw [Ahz AGp,Ahz h1];exact Nat.le_refl _
   ·rw [Ahg rfl]
    rcases Nat.lt_or_ge i c.2.1.toNat with h2 | h2
    ·rw [Ahz h2]
     exact Ar1 (P:=λe=>c.1.toNat<=e) hL (λb hb=>by have:=hp.1 b hb;omega) kj
    ·obtain ⟨i,rfl⟩:∃ k,i=c.2.1.toNat + k:=⟨i - c.2.1.toNat,AGp⟩
     rw [Ahg rfl]
     exact A8h hL hp.2 i j AGp kj
theorem BFl {n:Nat} {L:List AUr} {D:ATa} (hL:Ahx L) (hn:Ac5 L=n) (ha:L.Pairwise λa b=>a.1<=b.1) (he:∀ b∈L,b.1.toNat < K) (hu:∀ b∈L,¬ p ∣ dB b) (hD:∀ i j,i < n->j < n->Eqm (p ^ K) (D i j) (bmp p L i j)):Jd n K p (eL L) (bmp p<|L.map z0) D:=by
 subst hn;exact ⟨λi j hij hj=>A8h hL ha i j hij hj,λi hi=>Ar1 (P:=(· < K)) hL he hi,λi j hi hj=>by rw [<- BD6 L hL i j hi hj];exact hD i j hi hj,λi j hi hj h=>((Aw3 L hL i j hi hj).1 h).1,λi j hi hj=>(Aw3 L hL i j hi hj).2.1,bmp p<|L.map iv,atL 1 dB L,λi k hi hk h=>((Aw3 L hL i k hi hk).1 h).2,λi hi=>Ar1 (P:=λd=> ¬ p ∣ d) hL hu hi,λi j hi hj=>(Aw3 L hL i j hi hj).2.2⟩
theorem Azg {n:Nat} {C S R:ATa} (h1:Car n K p A S B) (h2:Car n K p B R C):Car n K p A (AUg n S R) C:=λi j hi hj=>by
 refine Eqm.trans (Eqm.of_eq ?_)<|(Alu (λ_ _=>Eqm.refl _ _) λk hk=>Alu (λl hl=>h1 k l hk hl) λ_ _=>Eqm.refl _ _).trans (h2 i j hi hj)
 rw [AYz (λk hk=>Aml i k) λk hk=>rfl,AWy]
 refine AYz (λ_ _=>rfl) λk hk=>?_
 rw [AWy]
 refine AYz (λ_ _=>rfl) λl hl=>?_
 rw [AWy]
theorem Avd {n:Nat} {d:Int} {S:ATa} (h:Car n K p A S B):Car n K p (λi j=>d * A i j) S λi j=>d * B i j:=λi j hi hj=>by
 refine Eqm.trans (Eqm.of_eq ?_)<|(Eqm.refl _ d).mul (h i j hi hj)
 unfold AUg
 rw [Afj]
 exact ATf λk _=>by rw [show psum (λl=>d * A k l * S l j) n=d * psum (λl=>A k l * S l j) n by rw [Afj];exact ATf λl _=>Int.mul_assoc _ _ _];grind
theorem A8i {n:Nat} (h:Ahj n A T B):Car n K p A T B:=λi j hi hj=>Eqm.of_eq (h i j hi hj).symm
theorem A8j {n:Nat} {H:ATa} (S:Eli n K p H T G) (hp:PrI p) (hK:1<=K): ¬ p ∣ det n T:=λh=>by
 have h1:p ∣ det n T * det n T:=Int.dvd_trans h ⟨det n T,rfl⟩
 have h2:p ∣ 1:=Apy (S.d.down ⟨p ^ (K - 1),by rw [<- Int.pow_succ',show K - 1 + 1=K by omega]⟩).symm (Int.dvd_refl p) h1
 have:=hp.1
 have:=Int.le_of_dvd AGp h2
 omega
theorem BA2 {n:Nat} {H H' T' G':ATa} (hp:PrI p) (hK:1<=K) (S:Eli n K p H T G) (S':Eli n K p H' T' G') (hU:Ahj n H U H') (hd:det n U * det n U=1):∃ R,¬ p ∣ det n R/\Car n K p G R G':=by
 have hu: ¬ p ∣ det n U:=λh=>by
  have:=Int.le_of_dvd AGp (hd ▸ Int.dvd_trans h ⟨det n U,rfl⟩:p ∣ 1);have:=hp.1;omega
 have h1:=Azg (Azg (Ay0 S.c)<|Avd (d:=det n T * det n T)<|A8i (K:=K) (p:=p) hU)<|Avd (d:=det n T * det n T) S'.c;refine ⟨_,?_,λi j hi hj=>(h1 i j hi hj).trans (((S.d.mul<|Eqm.refl _ _)).trans (Eqm.of_eq<|Int.one_mul _))⟩;rw [Ac9,Ac9];exact hp.ndvd_mul (hp.ndvd_mul (Ayz hp<|A8j S hp hK) hu)<|A8j S' hp hK
theorem Aqy (x:Int):∀ {L:List AUr},Ahx L->(∀ b∈L,0<=b.1)->Aly L x=psum (λi=>if (eL L i:Int)=x then 1 else 0) (Ac5 L)
 | [],_,_=>rfl
 | c :: L,h,h0=>by
   have hc:=h0 c AT5;have hs:=h c AT5;rw [AYl,Amo];unfold eL;rw [ATf (n:=Ac5 L) (g:=λi=>if (eL L i:Int)=x then 1 else 0) λi _=>by rw [Ahg rfl];rfl,<- Aqy x (λb hb=>h b<|by simp [hb]) λb hb=>h0 b<|by simp [hb]];rw [ATf (n:=c.2.1.toNat) (g:=λi=>if c.1=x then 1 else 0) λi hi=>by rw [Ahz hi,show ((c.1.toNat:Nat):Int)=c.1 by omega]];show (if c.1=x then c.2.1 else 0) + _=_;congr 1
   rcases hs with h | h
   ·rw [h];show _=psum _ 1;simp [psum]
   ·rw [h];show _=psum _ 2;simp only [psum];split <;> rfl
theorem A02 {e:Nat->Nat} (x:Nat):∀ n,(∀ i j,i<=j->j < n->e i<=e j)-> ∃ k,k<=n/\(∀ i,i < k->e i < x)/\ ∀ i,k<=i->i < n->x<=e i
 | 0,_=>⟨0,Nat.le_refl 0,λi h=>absurd h<|Nat.not_lt_zero i,λi _ h=>absurd h<|Nat.not_lt_zero i⟩
 | n + 1,h=>by
   obtain ⟨k,h1,h2,h3⟩:=A02 x n λi j hij hj=>h i j hij AGp
   rcases Nat.lt_or_ge (e n) x with h4 | h4
   ·exact ⟨n + 1,Nat.le_refl _,λi hi=>Nat.lt_of_le_of_lt (h i n AGp AGp) h4,λi h5 h6=>by omega⟩
   ·refine ⟨k,AGp,h2,λi h5 h6=>?_⟩
    rcases Nat.lt_or_ge i n with h7 | h7
    ·exact h3 i h5 h7
    ·rw [show i=n by omega];exact h4
theorem BD7 {e:Nat->Nat} {n:Nat} (x:Nat) (h:∀ i j,i<=j->j < n->e i<=e j):∃ k m,Cut n e k/\Cut n e (k + m)/\(∀ i,k<=i->i < k + m->e i=x)/\ ∀ i,i < n->e i=x->k<=i/\i < k + m:=by
 obtain ⟨k,h1,h2,h3⟩:=A02 x n h;obtain ⟨l,h4,h5,h6⟩:=A02 (x + 1) n h
 have hkl:k<=l:=by
  rcases Nat.lt_or_ge l k with h7 | h7
  ·have:=h2 l h7;have:=h6 l (Nat.le_refl l) AGp;omega
  ·exact h7
 refine ⟨k,l - k,⟨h1,λr c hr hc hcn=>?_⟩,?_,λi h7 h8=>?_,λi hi he=>⟨?_,?_⟩⟩
 ·have:=h2 r hr;have:=h3 c hc hcn;omega
 ·rw [show k + (l - k)=l by omega];exact ⟨h4,λr c hr hc hcn=>by have:=h5 r hr;have:=h6 c hc hcn;omega⟩
 ·have:=h3 i h7 AGp;have:=h5 i AGp;omega
 ·rcases Nat.lt_or_ge i k with h7 | h7
  ·have:=h2 i h7;omega
  ·exact h7
 ·rcases Nat.lt_or_ge i l with h7 | h7
  ·omega
  ·have:=h6 i h7 hi;omega
theorem Aw4:∀ {L:List AUr},Ahx L->(∀ b∈L,(b.2.1=1/\b.2.2.1 % 2=1)∨(b.2.1=2/\b.2.2.1 % 2=0/\b.2.2.2.2 % 2=0))-> ∀ x:Nat,(∀ i,i < Ac5 L->eL L i=x->(2:Int) ∣ bmp 2 (L.map z0) i i)↔¬ ∃ b∈L,b.1.toNat=x/\b.2.1=1
 | [],_,_,x=>⟨λ_ ⟨b,hb,_⟩=>(nomatch hb),λ_ i hi=>absurd hi<|Nat.not_lt_zero i⟩
 | c :: L,hs,hb,x=>by
   have ih:=Aw4 (L:=L) (λb h=>hs b<|by simp [h]) (λb h=>hb b<|by simp [h]) x
   have split:(∀ i,i < Ac5 (c :: L)->eL (c :: L) i=x->(2:Int) ∣ bmp 2 ((c :: L).map z0) i i)↔(∀ i,i < c.2.1.toNat->c.1.toNat=x->(2:Int) ∣ bmp 2 ((c :: L).map z0) i i)/\ ∀ i,i < Ac5 L->eL L i=x->(2:Int) ∣ bmp 2 (L.map z0) i i:=by
    have tl:∀ i,bmp 2 ((c :: L).map z0) (c.2.1.toNat + i) (c.2.1.toNat + i)=bmp 2 (L.map z0) i i:=λi=>by
     rw [List.map_cons]
     rcases hs c AT5 with h | h
     ·rw [show c.2.1.toNat=1 by omega];exact (Avb (p:=2) (c:=z0 c) (L:=L.map z0)<|show ¬ c.2.1=2 by omega).tl i i
     ·rw [show c.2.1.toNat=2 by omega];exact (Avc (p:=2) (c:=z0 c) (L:=L.map z0) h).tl i i
    constructor
    ·intro h;refine ⟨λi hi he=>h i (by rw [AYl];omega) (by unfold eL;rw [Ahz hi];exact he),λi hi he=>?_⟩;rw [<- tl];exact h _ (by rw [AYl];omega) (by unfold eL;rw [Ahg rfl];exact he)
    ·rintro ⟨h1,h2⟩ i hi he;rw [AYl] at hi
     rcases Agb hi with h3 | ⟨j,rfl,h3⟩
     ·exact h1 i h3 (by unfold eL at he;rwa [Ahz h3] at he)
     ·rw [tl];exact h2 j h3 (by unfold eL at he;rwa [Ahg rfl] at he)
   rw [split,ih]
   have hd:(∀ i,i < c.2.1.toNat->c.1.toNat=x->(2:Int) ∣ bmp 2 ((c :: L).map z0) i i)↔¬ (c.1.toNat=x/\c.2.1=1):=by
    rw [List.map_cons]
    rcases hb c AT5 with ⟨h1,h2⟩ | ⟨h1,h2,h3⟩
    ·have f:=(Avb (p:=2) (c:=z0 c) (L:=L.map z0)<|show ¬ c.2.1=2 by omega).hd 0 0 AGp AGp
     constructor
     ·rintro h ⟨h4,_⟩;have h5:=h 0 AGp h4;rw [f] at h5;have h6:(2:Int) ∣ c.2.2.1:=by simpa [z0] using h5
      omega
     ·intro h i _ h4;exact absurd ⟨h4,h1⟩ h
    ·have f:=Avc (p:=2) (c:=z0 c) (L:=L.map z0) h1;refine ⟨λ_ ⟨_,h4⟩=>by omega,λ_ i hi _=>?_⟩;rw [f.hd i i AGp AGp,Abr]
     rcases (show i=0∨i=1 by omega) with rfl | rfl
     ·simp [z0];omega
     ·simp [z0];omega
   rw [hd];simp only [List.mem_cons];grind
end Go.Proofs.YtkakafabeobahaaGreatDoor
namespace Go.Proofs.YtkakafabeobahaaGreatDoor
open Go Go.QF
set_option maxRecDepth 100000
abbrev sD (b:AUr):Int:=s8<|dB b
abbrev oD (b:AUr):Prop:=b.2.1=1
def tc (c:AWo):Int:=c.2.2.2.2 + if c.1 % 2=1/\c.2.2.1= -1 then 4 else 0
def tC:List AWo->Int
 | []=>0
 | c :: l=>tc c + tC l
theorem Aw5 (c:AWo):∀ l:List AWo,tC (l ++ [c])=tC l + tc c
 | []=>by show _ + 0=0 + _;omega
 | d :: l=>by show _ + tC (l ++ [c])=_ + tC l + _;rw [Aw5 c l];omega
theorem A8k (b:AUr):∀ L:List AUr,tL (L ++ [b])=tL L + tB b
 | []=>by show _ + 0=0 + _;omega
 | c :: L=>by show _ + tL (L ++ [b])=_ + tL L + _;rw [A8k b L];omega
theorem CSp.le {sg:AUr->Int} {od:AUr->Prop} {L:List AUr} {l:List AWo} {c:AWo} (H:CSp sg od L (l ++ [c])):∀ b∈L,b.1<=c.1:=λb hb=>by
 obtain ⟨d,hd,he⟩:=(H.mem b.1).2 ⟨b,hb,rfl⟩
 rcases List.mem_append.1 hd with h | h
 ·have:=(List.pairwise_append.1 H.asc).2.2 d h c AT5;omega
 ·rw [List.mem_singleton.1 h] at he;omega
structure CRk (L:List AUr) (i:Nat) (e:Int) (D:List AWo):Prop where
 last:∃ l c,D=l ++ [c]/\CRp sD oD (L.take i) e l c
 len:D.length<=i + 1
 ok:∀ c∈D,(0<=c.2.1/\c.2.1<=2 * (i:Int))/\(0<=c.1/\c.1<=60)/\(c.2.2.1=1∨c.2.2.1= -1)/\0<=c.2.2.2.2/\c.2.2.2.2 < 8
 s:cS D=s2L (L.take i)
 t:tC D % 8=(tL (L.take i):Int) % 8
structure BA3 (L:List AUr) (i:Nat) (C:List AWo):Prop where
 last:i=0/\C=[]∨ ∃ l c b,C=l ++ [c]/\0 < i/\L[i - 1]? =some b/\c.1=b.1
 len:C.length<=i
 ok:∀ c∈C,(0<=c.2.1/\c.2.1<=2 * (i:Int))/\(0<=c.1/\c.1<=60)/\(c.2.2.1=1∨c.2.2.1= -1)/\0<=c.2.2.2.2/\c.2.2.2.2 < 8
 sp:CSp sD oD (L.take i) C
 s:cS C=s2L (L.take i)
 t:tC C % 8=(tL (L.take i):Int) % 8
theorem BD8 {c c':AWo} {b:AUr} (hs:c.2.2.1=1∨c.2.2.1= -1) (he:c.1=b.1) (h1:c'.1=c.1) (h3:c'.2.2.1=c.2.2.1 * sD b) (h4:c'.2.2.2.2 % 8=(c.2.2.2.2 + if b.2.1=1 then b.2.2.1 % 8 else 0) % 8):tc c' % 8=(tc c + (tB b:Int)) % 8:=by
 have e:((tB b:Nat):Int)=(if b.2.1=1 then b.2.2.1 % 8 else 0) + if b.1 % 2=1/\sD b= -1 then 4 else 0:=by
  unfold tB;rw [Int.natCast_add]
  congr 1
  ·split
   ·omega
   ·rfl
  ·show ((if b.1 % 2=1/\sD b= -1 then 4 else 0:Nat):Int)=_;split <;> rfl
 rw [e];unfold tc;rw [h1,he,h3];generalize (if b.2.1=1 then b.2.2.1 % 8 else 0)=w at h4
 by_cases ho:b.1 % 2=1
 ·rcases hs with h | h <;> rcases BBw (dB b) with h5 | h5 <;> (have h5:sD b=_:=h5) <;> rw [h,h5] <;> simp [ho] <;> omega
 ·simp [ho];omega
theorem BD9 {n:Nat} {T:List (List Int)} {L:List AUr} (B:DL K L n E) (hK:K<=30) (A6:1<=n) (hn:n<=8) (hf:100 < fuel):Ok (AVy fuel 2 T L) λr=>r.2=true/\BA3 L L.length r.1:=by
 have hl:=Awz B.sz;have hsum:=B.sum
 have A7:1<=L.length:=by
  rcases Nat.lt_or_ge 0 L.length with h | h
  ·exact h
  ·have:L=[]:=List.length_eq_zero_iff.1 AGp
   rw [this] at hsum
   have:Ac5 []=0:=rfl
   omega
 unfold AVy;rw [if_neg AGr,if_neg AGp];simp only [Option.bind_some];refine AG4 (Q:=λex=> ∃ C,ex= .inr C/\BA3 L L.length C) (AUk (λi s=> ∃ C,s=(C,(Ac5 (L.take i):Int),(i:Int))/\i<=L.length/\BA3 L i C) L.length ⟨[],rfl,Nat.zero_le _,⟨.inl ⟨rfl,rfl⟩,Nat.le_refl _,λc hc=>(nomatch hc),CSp.nil,rfl,rfl⟩⟩ AGp λi s hi hI=>?_) λex hex=>?_
 ·obtain ⟨C,rfl,hin,H⟩:=hI;unfold Ac1;dsimp only;refine AT2 (λh=>?_) λh=>AGy ⟨C,rfl,by rwa [show L.length=i by omega]⟩;have hi:i < L.length:=by omega
  obtain ⟨b,hbi⟩:∃ b,L[i]? =some b:=⟨L[i],List.getElem?_eq_getElem hi⟩;have htk:L.take (i + 1)=L.take i ++ [b]:=by rw [List.take_add_one,hbi];rfl
  have hbm:b∈L:=List.mem_of_getElem? hbi;have hsz:=B.sz b hbm;obtain ⟨⟨Aw,Ao⟩,hpw⟩:=(B.rg i hi).1 b hbi;have hasc:=(B.rg i hi).2;rw [if_pos rfl] at Ao
  have hbs:Ac5 (L.take i) + b.2.1.toNat<=8:=by
   have:=Au9 L<|i + 1
   rw [htk,Atp] at this
   omega
  have A8:i<=8:=by omega
  rw [AZs hbi];obtain ⟨e,s,x,y,z⟩:=b;dsimp only at hsz Aw Ao hpw hbs ⊢;obtain ⟨e,rfl⟩:∃ e':Nat,e=e':=⟨e.toNat,AGp⟩;have hprev:∀ c,0 < i->L[i - 1]? =some c->c.1<=(e:Int):=λc h0 hc=>hasc h0 _ _ hbi hc;have Ak:∀ w:Int,Eqm 8 (w64 w) w:=λw=>(Akk (K:=3) AGr w)
  have chk:Ok ((if (e:Int) < 0 then (some<|Sum.inl <| ([],false)) else (if 60 < (e:Int) then (some<|Sum.inl <| ([],false)) else ((AXz fuel e s x y z).bind λw=>(if (!w)=true then (some<|Sum.inl <| ([],false)) else (if (0:Int) < (i:Int) then ((gI L<|w64<|(i:Int) - 1).bind λc=>(if (e:Int) < c.1 then (some<|Sum.inl <| ([],false)) else (some<|Sum.inr <| ()))) else (some<|Sum.inr <| ())))))):Option ((((List AWo) × Bool)) ⊕ (Unit))) λr=>r= .inr ():=by
   rw [if_neg AGp,if_neg AGp]
   refine AG4 BFi λw hw=>?_
   have hwt:w=true:=hw.2 (by
    by_cases h1:s=1
    ·rw [if_pos h1] at hpw ⊢
     exact ⟨Atr.1 hpw.2.1,hpw.2.2⟩
    ·rw [if_neg h1] at hpw ⊢
     exact ⟨hsz.resolve_left h1,hpw.2⟩)
   rw [hwt]
   refine AT2 (λh=>absurd h AGr) λ_=>AT2 (λh0=>?_) λ_=>AGy rfl
   obtain ⟨c,hc⟩:∃ c,L[i - 1]? =some c:=⟨L[i - 1],List.getElem?_eq_getElem _⟩
   have:=hprev c AGp hc
   rw [show w64 ((i:Int) - 1)=((i - 1:Nat):Int) by rw [wk AGp];omega,AZs hc,if_neg AGp]
   exact AGy rfl
  rw [ok_eq chk];simp only [Option.bind_some];rw [AW1 (x:=(Ac5 (L.take i):Int) + s) AGp AGp,if_neg AGp]
  have hnew (hlt:∀ b∈L.take i,b.1 < (e:Int)):CRk L i e (C ++ [((e:Int),0,1,false,0)]):=by
   refine ⟨⟨C,_,rfl,CSp.new H.sp hlt⟩,by simp;exact H.len,λc hc=>?_,by rw [A00,H.s];simp,by rw [Aw5,Int.add_emod,H.t];simp [tc]⟩
   rcases List.mem_append.1 hc with h | h
   ·exact H.ok c h
   ·rw [List.mem_singleton.1 h];dsimp only;exact ⟨AGp,AGp,.inl rfl,AGp,AGp⟩
  have hCl:=H.len
  have key:Ok (if (i:Int)=0 then (if C.length<=100000000 then (some<| (C ++ [((e:Int),0,1,false,0)])) else none) else ((gI L<|w64<|(i:Int) - 1).bind λc=>(if c.1 < (e:Int) then (if C.length<=100000000 then (some<| (C ++ [((e:Int),0,1,false,0)])) else none) else (some<| C))):Option (List AWo)) (CRk L i e):=by
   refine AT2 (λh0=>AVb AGp<|AGy<|hnew λb hb=>?_) λh0=>?_
   ·rw [show i=0 by omega] at hb;exact nomatch hb
   obtain ⟨c,hc⟩:∃ c,L[i - 1]? =some c:=⟨L[i - 1],List.getElem?_eq_getElem _⟩
   have h2:=hprev c AGp hc
   rw [show w64 ((i:Int) - 1)=((i - 1:Nat):Int) by rw [wk AGp];omega,AZs hc]
   obtain ⟨l,d,b',h3,_,h4,h5⟩:=H.last.resolve_left λh=>by omega
   rw [hc] at h4
   cases h4
   have hsp:=H.sp
   rw [h3] at hsp
   refine AT2 (λh1=>AVb AGp<|AGy<|hnew λb hb=>?_) λh1=>AGy ⟨⟨l,d,h3,?_⟩,AGp,H.ok,H.s,H.t⟩
   ·have:=hsp.le b hb;omega
   ·rw [show (e:Int)=d.1 by omega];exact hsp.old
  refine AG4 key λD hD=>?_;obtain ⟨⟨l,c,rfl,hcp⟩,h2,h3,h6,h7⟩:=hD;have Ar:=hcp.exp;have hc:=h3 c AT5;have hll:l.length<=i:=by simp at h2;omega
  have ew:w64 (((l ++ [c]).length:Int) - 1)=(l.length:Int):=by rw [List.length_append,List.length_singleton,wk AGp];omega
  rw [ew];have g1:∀ c:AWo,(l ++ [c])[l.length]? =some c:=λc=>by simp
  have g2:∀ c d:AWo,sI (l ++ [c]) (l.length:Int) d=l ++ [d]:=λc d=>by rw [AU1];simp
  rw [AZs<|g1 c];let O:AWo->Prop:=λc'=>c'.2.2.2.2=(c.2.2.2.2 + if s=1 then x % 8 else 0) % 8
  refine AG4 (Q:=λr=> ∃ c':AWo,r=l ++ [c']/\c'.1=c.1/\c'.2.1=c.2.1 + s/\c'.2.2.1=c.2.2.1 * s8 (dB ((e:Int),s,x,y,z))/\(c'.2.2.2.1=true↔c.2.2.2.1=true∨s=1)/\O c') ?_ λr hr=>?_
  ·refine AG4 (Q:=λr:Int × List AWo=> ∃ c':AWo,r.2=l ++ [c']/\r.1 % 8=dB ((e:Int),s,x,y,z) % 8/\c'.1=c.1/\c'.2.1=c.2.1/\c'.2.2.1=c.2.2.1/\(c'.2.2.2.1=true↔c.2.2.2.1=true∨s=1)/\O c') (AT2 (λh1=>?_) λh1=>AGy ⟨c,rfl,?_,rfl,rfl,rfl,?_,?_⟩) λr hr=>?_
   ·rw [AZs<|g1 c,g2,AZs<|g1 _,g2,BD4,BD4];exact AGy ⟨_,rfl,by unfold dB;rw [if_neg<|show ¬ s=2 by omega],rfl,rfl,rfl,by dsimp only;simp [h1],by show _ % 8=(_ + if s=1 then _ else _) % 8;rw [if_pos h1];exact Ak _⟩
   ·dsimp only;unfold dB;rw [if_pos<|show s=2 by omega];exact (Ak _).trans ((Ak _).sub (Ak _))
   ·simp [h1]
   ·show _=(_ + if s=1 then _ else _) % 8;rw [if_neg h1];omega
   ·obtain ⟨d,e'⟩:=r;obtain ⟨c',q1,q2,q3,q4,q5,q6⟩:=hr;dsimp only at q1 q2 ⊢;subst q1;rw [BD4,q2];refine AG4 (Q:=λr=> ∃ c'':AWo,r=l ++ [c'']/\c''.1=c.1/\c''.2.1=c.2.1/\c''.2.2.1=c.2.2.1 * s8 (dB ((e:Int),s,x,y,z))/\(c''.2.2.2.1=true↔c.2.2.2.1=true∨s=1)/\O c'') ?_ λr hr=>?_
    ·have hneg:w64 (0 - c'.2.2.1)=c'.2.2.1 * -1:=by
      rw [q5];rcases hc.2.2.1 with h | h <;> rw [h] <;> decide
     refine AT2 (λh8=>?_) λh8=>AT2 (λh9=>?_) λh9=>?_
     ·rw [AZs<|g1 c',g2,hneg];exact AGy ⟨_,rfl,q3,q4,by dsimp only;unfold s8;rw [if_pos<|.inl h8,q5],q6⟩
     ·rw [AZs<|g1 c',g2,hneg];exact AGy ⟨_,rfl,q3,q4,by dsimp only;unfold s8;rw [if_pos<|.inr h9,q5],q6⟩
     ·exact AGy ⟨c',rfl,q3,q4,by unfold s8;rw [if_neg AGp,q5,Int.mul_one],q6⟩
    ·obtain ⟨c'',rfl,r1,r2,r3,r4⟩:=hr;rw [AZs<|g1 c'',g2,r2,AW1 (x:=c.2.1 + s) AGp AGp];exact AGy ⟨_,rfl,r1,rfl,r3,r4⟩
  ·obtain ⟨c',rfl,q1,q2,q3,q4,q5⟩:=hr;refine AGy ⟨hi,_,?_,hi,⟨.inr ⟨l,c',_,rfl,Nat.succ_pos i,by rw [Nat.add_sub_cancel];exact hbi,by rw [q1,Ar]⟩,by simp;omega,λd hd=>?_,?_,?_,?_⟩⟩
   ·rw [htk,Atp,AW3 AGp];dsimp only;congr 2;omega
   ·rcases List.mem_append.1 hd with h | h
    ·have:=h3 d (by simp [h]);exact ⟨AGp,this.2⟩
    ·rw [List.mem_singleton.1 h,q1,q2,q3];have q5:c'.2.2.2.2=_ % 8:=q5;exact ⟨AGp,hc.2.1,(BD2 hc.2.2.1<|BBw _).1,AGp,AGp⟩
   ·rw [htk];exact hcp.put (b:=((e:Int),s,x,y,z)) q1 q2 q3 q4
   ·rw [htk,BA0,A00,q3,<- h6,A00];grind
   ·rw [htk,A8k,Aw5,Int.natCast_add];rw [Aw5] at h7;have q5:c'.2.2.2.2=_ % 8:=q5;have:=BD8 (b:=((e:Int),s,x,y,z)) hc.2.2.1 Ar q1 q3 (by rw [q5,Int.emod_emod_of_dvd _<|Int.dvd_refl 8]);omega
 ·obtain ⟨C,rfl,hC⟩:=hex;exact AGy ⟨rfl,hC⟩
end Go.Proofs.YtkakafabeobahaaGreatDoor
namespace Go.Proofs.YtkakafabeobahaaGreatDoor
open Go Go.QF
def qF (n:Nat) (A:ATa) (x:Nat->Int):Int:=psum (λi=>x i * psum (λj=>A i j * x j) n) n
def PdF (n:Nat) (A:ATa):Prop:= ∀ x:Nat->Int,(∃ k,k < n/\x k≠0)->0 < qF n A x
theorem A8l {b c:Int} (h:a < b) (e:b=c):a < c:=e ▸ h
theorem sq_pos (h:x≠0):0 < x * x:=by
 rcases Int.lt_or_gt_of_ne h with h | h
 ·have:=Int.mul_pos (show 0 < -x by omega) (show 0 < -x by omega);grind
 ·exact Int.mul_pos h h
theorem BBy {n:Nat} (hs:Ac4 n A) (hp:Afi n A):PdF n A:=λx ⟨k,hk,hx⟩=>by
 have h1:=A15 hs hp x hk
 have h2:bil n 0 A x x=qF n A x:=by
  unfold bil qF;refine ATf λi _=>?_;rw [<- AWb];exact ATf λj _=>by rw [Aez];grind
 have h3:=Ahw hs hp x n 0 AGp;have h4:=sq_pos hx;rw [h2] at h1 h3
 rcases Int.lt_or_eq_of_le h3 with h | h
 ·exact h
 ·rw [<- h,Int.mul_zero] at h1;omega
theorem A8m (k:Nat) (B:ATa):Abp (k + 1) B k k=det k B:=by
 show det (k + 1) (AU4 B k<|dl k)=_;rw [Ale (k:=k) (m:=1) λi j h1 h2 h3=>by rw [show i=k by omega,AT6,if_pos rfl];unfold dl;rw [if_neg AGp],AUd (G:=B) λi j hi hj=>by rw [AT6,if_neg AGp]]
 have:det 1 (shF k<|AU4 B k<|dl k)=1:=by
  rw [show (1:Nat)=0 + 1 from rfl,<- Abw,Aez]
  show AU4 B k (dl k) k k=1
  rw [AT6,if_pos rfl];exact if_pos rfl
 rw [this,Int.mul_one]
theorem Att {f:Nat->Int} {n m:Nat} (h:m<=n) (hz:∀ i,m<=i->i < n->f i=0):psum f n=psum f m:=Ax4 h hz
theorem A03 {m:Nat} (h:PdF m B):Afi m B:=λk=>by
 induction k with
 | zero=>intro _;simp [det]
 | succ k ih=>
   intro hk;have h1:=ih AGp
   let y:Nat->Int:=λi=>if i < k + 1 then Abp (k + 1) B i k else 0
   have hy:y k=det k B:=by show (if k < k + 1 then _ else _)=_;rw [if_pos AGp,A8m]
   have h2:=h y ⟨k,AGp,by rw [hy];omega⟩
   have h3:∀ i,i < k + 1->psum (λj=>B i j * y j) m=det (k + 1) B * dl i k:=λi hi=>by
    rw [Att hk λj h4 _=>by show _ * (if j < k + 1 then _ else _)=0;rw [if_neg AGp,Int.mul_zero],<- Alj hi AGp];exact ATf λj hj=>by show _ * (if j < k + 1 then _ else _)=_;rw [if_pos hj]
   have h4:qF m B y=det k B * det (k + 1) B:=by
    unfold qF;rw [Att hk λj h4 _=>by show (if j < k + 1 then _ else _) * _=0;rw [if_neg AGp,Int.zero_mul]];rw [ATf (g:=λi=>det (k + 1) B * y i * dl i k) λi hi=>by rw [h3 i hi];grind,Agf (λi=>det (k + 1) B * y i) AGp,hy];grind
   rw [h4] at h2;exact Int.pos_of_mul_pos_right (a:=det k B) h2 h1
theorem A04 {n:Nat} (h:PdF n A) {s:Nat->Nat} (hs:∀ a,a < k->s a < n) (hi:∀ a b,a < k->b < k->s a=s b->a=b):PdF k λa b=>A (s a) (s b):=λy ⟨a0,ha0,hy⟩=>by
 let x:Nat->Int:=λi=>psum (λa=>y a * dl i (s a)) k
 have sel:∀ g:Nat->Int,psum (λi=>x i * g i) n=psum (λa=>y a * g (s a)) k:=λg=>by
  show psum (λi=>psum (λa=>y a * dl i (s a)) k * g i) n=_;rw [ATf (g:=λi=>psum (λa=>y a * g i * dl i (s a)) k) λi _=>by rw [Ao4];exact ATf λa _=>by grind,Ai8];exact ATf λa ha=>Agf (λi=>y a * g i)<|hs a ha
 have hx:x (s a0)=y a0:=by
  show psum (λa=>y a * dl (s a0) (s a)) k=_;rw [Ach ha0 λa ha hne=>by unfold dl;rw [if_neg λe=>hne<|hi a a0 ha ha0 e.symm];exact Int.mul_zero _];unfold dl;rw [if_pos rfl,Int.mul_one]
 have h1:=h x ⟨s a0,hs a0 ha0,by rw [hx];exact hy⟩;unfold qF at h1 ⊢;rw [sel] at h1;refine A8l h1<|ATf λa ha=>?_;congr 1;rw [ATf (g:=λj=>x j * A (s a) j) λj _=>Int.mul_comm _ _,sel];exact ATf λb _=>Int.mul_comm _ _
theorem A8n {n:Nat} (H:Ahj n A T B) (hT:∀ x:Nat->Int,(∃ k,k < n/\x k≠0)-> ∃ k,k < n/\psum (λl=>T k l * x l) n≠0) (hA:PdF n A):PdF n B:=λx hx=>by
 have h0:0 < n:=by obtain ⟨k,hk,_⟩:=hx;omega
 have h1:Ahj n A (AUg n T λi _=>x i) λ_ _=>qF n B x:=Aja H λi j hi hj=>by rw [AWy];rfl
 exact A8l (hA _<|hT x hx) (h1 0 0 h0 h0).symm
def aE (i j:Nat) (c:Int):ATa:=λk s=>dl k s + if s=i then c * dl k j else 0
def cgA (i j:Nat) (c:Int) (B:ATa):ATa:=λr s=>B r s + (if r=i then c * B j s else 0) + if s=i then c * (B r j + if r=i then c * B j j else 0) else 0
theorem Aqz {n:Nat} {c:Int} (hj:j < n) (hs:s < n) (X:Nat->Int):psum (λk=>X k * aE i j c k s) n=X s + if s=i then c * X j else 0:=by
 unfold aE;rw [ATf (g:=λk=>X k * dl k s + (if s=i then c else 0) * (X k * dl k j)) λk _=>by grind,Acn,Agf X hs,AWb,Agf X hj];grind
theorem A8o {n:Nat} {c:Int} (hj:j < n) (hr:r < n) (hs:s < n):AUg n (AUg n (trF<|aE i j c) B) (aE i j c) r s=cgA i j c B r s:=by
 have h2:∀ k,AUg n (trF<|aE i j c) B r k=B r k + if r=i then c * B j k else 0:=λk=>by
  show psum (λl=>aE i j c l r * B l k) n=_
  rw [ATf (g:=λl=>B l k * aE i j c l r) λl _=>Int.mul_comm _ _]
  exact Aqz hj hr λl=>B l k
 show psum (λk=>AUg n (trF<|aE i j c) B r k * aE i j c k s) n=_;rw [Aqz hj hs λk=>AUg n (trF<|aE i j c) B r k,h2,h2];rfl
theorem A8p {n:Nat} {c:Int} (hi:i < n) (hj:j < n) (hc:i=j->1 + c≠0) (x:Nat->Int):(∃ k,k < n/\x k≠0)-> ∃ k,k < n/\psum (λl=>aE i j c k l * x l) n≠0:=λ⟨k,hk,hx⟩=>by
 have h1:∀ k,k < n->psum (λl=>aE i j c k l * x l) n=x k + if k=j then c * x i else 0:=λk hk=>by
  unfold aE
  rw [ATf (g:=λl=>x l * dl l k + c * dl k j * (x l * dl l i)) λl _=>by unfold dl;grind,Acn,Agf x hk,AWb,Agf x hi]
  unfold dl;grind
 by_cases h0:x i=0
 ·exact ⟨k,hk,by rw [h1 k hk,h0];simpa using hx⟩
 ·refine ⟨i,hi,?_⟩
  rw [h1 i hi]
  by_cases e:i=j
  ·rw [if_pos e]
   have:=Int.mul_ne_zero (hc e) h0
   intro h;apply this;grind
  ·rw [if_neg e];simpa using h0
theorem BEa {n:Nat} {c d:Int} (hj:j < n) (hs:s < n) (h:c + d + (if i=j then c * d else 0)=0):AUg n (aE i j c) (aE i j d) r s=dl r s:=by
 show psum (λk=>aE i j c r k * aE i j d k s) n=_;rw [Aqz hj hs λk=>aE i j c r k];unfold aE;by_cases e:i=j
 ·subst e;rw [if_pos rfl] at h;unfold dl;grind
 ·rw [if_neg e] at h;unfold dl;grind
def sx (i j s:Nat):Nat:=if s=i then j else if s=j then i else s
def sxE (i j:Nat):ATa:=λk s=>dl k<|sx i j s
theorem A2w {n:Nat} (hi:i < n) (hj:j < n) (hs:s < n):sx i j s < n:=by unfold sx;grind
theorem A8q (i j s:Nat):sx i j (sx i j s)=s:=by unfold sx;grind
theorem Ap5 {n:Nat} (hi:i < n) (hj:j < n) (hs:s < n) (X:Nat->Int):psum (λk=>X k * sxE i j k s) n=X (sx i j s):=Agf X<|A2w hi hj hs
theorem BA4 {n:Nat} (hi:i < n) (hj:j < n) (hr:r < n) (hs:s < n):AUg n (AUg n (trF<|sxE i j) B) (sxE i j) r s=B (sx i j r) (sx i j s):=by
 show psum (λk=>AUg n (trF<|sxE i j) B r k * sxE i j k s) n=_;rw [Ap5 hi hj hs λk=>AUg n (trF<|sxE i j) B r k];show psum (λl=>sxE i j l r * B l (sx i j s)) n=_;rw [ATf (g:=λl=>B l (sx i j s) * sxE i j l r) λl _=>Int.mul_comm _ _];exact Ap5 hi hj hr λl=>B l<|sx i j s
theorem BA5 {n:Nat} (hi:i < n) (hj:j < n) (hs:s < n):AUg n (sxE i j) (sxE i j) r s=dl r s:=by
 show psum (λk=>sxE i j r k * sxE i j k s) n=_;rw [Ap5 hi hj hs λk=>sxE i j r k];unfold sxE;rw [A8q]
theorem Anx {n:Nat} {E F:ATa} (h:∀ r s,r < n->s < n->AUg n E F r s=dl r s):det n E * det n E=1:=by
 have h1:det n E * det n F=1:=by rw [<- Ac9,AUd h,Ano]
 have h2:=Int.le_of_dvd AGr (⟨_,h1.symm⟩:det n E ∣ 1);have h3:=Int.le_of_dvd AGr (⟨-det n F,by rw [Int.neg_mul_neg,h1]⟩: -det n E ∣ 1);rcases (show det n E=1∨det n E= -1∨det n E=0 by omega) with h | h | h
 ·rw [h];rfl
 ·rw [h];rfl
 ·rw [h,Int.zero_mul] at h1;exact absurd h1 AGr
def PmB (n:Nat) (D:Int) (A:ATa):Prop:= ∀ (k:Nat) (s:Nat->Nat),k<=n->(∀ a,a < k->s a < n)->det k (λa b=>A (s a)<|s b)<=D
theorem Azi {a:Nat} {c:Int} (p q:Nat->Int) (r:ATa) (ha:a < k):det k (λx y=>if x=a then p y + c * q y else r x y)=det k (λx y=>if x=a then p y else r x y) + c * det k (λx y=>if x=a then q y else r x y):=by
 have e:∀ g:Nat->Int,det k (λx y=>if x=a then g y else r x y)=det k (AU4 r a g):=λg=>AUd λx y _ _=>by rw [AT6]
 rw [e p,e q,e λy=>p y + c * q y,show (λy=>p y + c * q y)=λy=>1 * p y + c * q y by funext y;omega,Akg p q 1 c ha,Int.one_mul]
theorem A8r {a:Nat} {c:Int} (p q:Nat->Int) (r:ATa) (ha:a < k):det k (λx y=>if y=a then p x + c * q x else r x y)=det k (λx y=>if y=a then p x else r x y) + c * det k (λx y=>if y=a then q x else r x y):=by
 rw [<- Aec,<- Aec (λx y=>if y=a then p x else r x y),<- Aec (λx y=>if y=a then q x else r x y)];exact Azi p q (trF r) ha
def upS (s:Nat->Nat) (a u:Nat):Nat->Nat:=λx=>if x=a then u else s x
theorem Ave {a:Nat} {c:Int} {s:Nat->Nat} (ha:a < k) (hsa:s a=i) (hi:∀ x,x < k->x≠a->s x≠i):det k (λx y=>cgA i j c B (s x)<|s y)=det k (λx y=>B (s x)<|s y) + c * det k (λx y=>B (s x)<|upS s a j y) + c * (det k (λx y=>B (upS s a j x)<|s y) + c * det k λx y=>B (upS s a j x)<|upS s a j y):=by
 have h1:∀ t:Nat->Nat,det k (λx y=>B (t x) (s y) + if y=a then c * B (t x) j else 0)=det k (λx y=>B (t x)<|s y) + c * det k λx y=>B (t x) (upS s a j y):=λt=>by
  have:=A8r (c:=c) (λx=>B (t x) i) (λx=>B (t x) j) (λx y=>B (t x)<|s y) ha
  rw [AUd (G:=λx y=>if y=a then B (t x) i + c * B (t x) j else B (t x)<|s y) λx y _ _=>by split <;> grind,this]
  congr 1
  ·exact AUd λx y _ _=>by split <;> grind
  ·congr 1
   exact AUd λx y _ _=>by unfold upS;grind
 have h2:=Azi (c:=c) (λy=>B i (s y) + if y=a then c * B i j else 0) (λy=>B j (s y) + if y=a then c * B j j else 0) (λx y=>B (s x) (s y) + if y=a then c * B (s x) j else 0) ha;rw [AUd (G:=λx y=>if x=a then (B i (s y) + if y=a then c * B i j else 0) + c * (B j (s y) + if y=a then c * B j j else 0) else B (s x) (s y) + if y=a then c * B (s x) j else 0) λx y hx hy=>?_,h2,<- h1 s,<- h1 (upS s a j)]
 ·congr 1
  ·exact AUd λx y _ _=>by grind
  ·congr 1;exact AUd λx y _ _=>by unfold upS;grind
 ·have e1:=hi x hx;have e2:=hi y hy;unfold cgA;grind
theorem A4h {n:Nat} (h:PdF n A) {s:Nat->Nat} (hs:∀ a,a < k->s a < n):0<=det k λa b=>A (s a) (s b):=by
 by_cases hi:∀ a b,a < k->b < k->s a=s b->a=b
 ·exact Int.le_of_lt<|A03 (A04 h hs hi) k<|Nat.le_refl k
 ·have:∃ a b,a < k/\b < k/\s a=s b/\a≠b:=by
   false_or_by_contra;rename_i hc;exact hi λa b h1 h2 h3=>by false_or_by_contra;rename_i h4;exact hc ⟨a,b,h1,h2,h3,h4⟩
  obtain ⟨a,b,h1,h2,h3,h4⟩:=this;rw [Akh h1 h2 h4 λi=>by rw [h3]];exact Int.le_refl 0
theorem BEb {n:Nat} {c:Int} (hi:i < n) (hj:j < n) (hD:0<=D) (hc: -2<=c/\c<=2) (hp:PdF n (cgA i j (-c) B)) (H:PmB n D B):PmB n (10 * D) (cgA i j c B):=λk s hk hs=>by
 by_cases hin:∀ a b,a < k->b < k->s a=s b->a=b
 ·by_cases hx:∃ a,a < k/\s a=i
  ·obtain ⟨a,ha,hsa⟩:=hx;have h0:∀ x,x < k->x≠a->s x≠i:=λx hx hne e=>hne<|hin x a hx ha (by rw [e,hsa]);have h1:=Ave (j:=j) (c:=c) (B:=B) ha hsa h0;have h2:=Ave (j:=j) (c:= -c) (B:=B) ha hsa h0;have h3:=A4h hp hs;have h4:=H k s hk hs;have h5:=H k (upS s a j) hk λx hx=>(by unfold upS;split <;> first | exact hj | exact hs x hx)
   have h6:c * c<=4:=by
    have:0<=(2 - c) * (2 + c):=Int.mul_nonneg AGp AGp;grind
   have h7:=Int.mul_le_mul_of_nonneg_left h5<|sq_nonneg c;have h8:=Int.mul_le_mul_of_nonneg_right h6 hD;rw [h2] at h3;rw [h1];grind
  ·rw [AUd (G:=λa b=>B (s a)<|s b) λa b ha hb=>by
    have e1:s a≠i:=λe=>hx ⟨a,ha,e⟩;have e2:s b≠i:=λe=>hx ⟨b,hb,e⟩;unfold cgA;rw [if_neg e1,if_neg e2];omega]
   have:=H k s hk hs;omega
 ·have:∃ a b,a < k/\b < k/\s a=s b/\a≠b:=by
   false_or_by_contra;rename_i hc;exact hin λa b h1 h2 h3=>by false_or_by_contra;rename_i h4;exact hc ⟨a,b,h1,h2,h3,h4⟩
  obtain ⟨a,b,h1,h2,h3,h4⟩:=this;rw [Akh h1 h2 h4 λi=>by rw [h3]];omega
theorem BFm {n:Nat} (hi:i < n) (hj:j < n) (H:PmB n D B):PmB n D λr s=>B (sx i j r) (sx i j s):=λk s hk hs=>H k (λa=>sx i j<|s a) hk λa ha=>A2w hi hj<|hs a ha
theorem A8s {n:Nat} (hs:Ac4 n A) (hp:Afi n A) (hn:n<=6) (hb:∀ i,i < n->A i i<=9):PmB n 531441 A:=λk s hk hk2=>by
 by_cases hin:∀ a b,a < k->b < k->s a=s b->a=b
 ·have h1:=Ayn (n:=k) (A:=λa b=>A (s a)<|s b) (λa b ha hb=>hs _ _ (hk2 a ha)<|hk2 b hb) (A03<|A04 (BBy hs hp) hk2 hin) (B:=9) AGr (λa ha=>hb _<|hk2 a ha) k<|Nat.le_refl k
  have h3:(9:Int) ^ k<=9 ^ 6:=by
   have:=Nat.pow_le_pow_right (show 0 < 9 by omega) (show k<=6 by omega);grind
  exact Int.le_trans h1 h3
 ·have:∃ a b,a < k/\b < k/\s a=s b/\a≠b:=by
   false_or_by_contra;rename_i hc;exact hin λa b h1 h2 h3=>by false_or_by_contra;rename_i h4;exact hc ⟨a,b,h1,h2,h3,h4⟩
  obtain ⟨a,b,h1,h2,h3,h4⟩:=this;rw [Akh h1 h2 h4 λi=>by rw [h3]];decide
end Go.Proofs.YtkakafabeobahaaGreatDoor
namespace Go.Proofs.YtkakafabeobahaaGreatDoor
open Go Go.QF
set_option maxRecDepth 100000
theorem BEc {n:Nat} (hn:n<=8) (hf:100 < fuel):Ok (iter (λs=>AYc fuel (n:Int) s.1 s.2) fuel (0,(List.replicate (Int.toNat (n:Int)) ([]:List Int)))) (· =tab n n dl):=by
 refine AUk (λi s=>s=(((i:Nat):Int),part n i dl)/\i<=n) n ⟨by rw [Int.toNat_natCast,Afs n dl];rfl,Nat.zero_le _⟩ AGp λi s hi hI=>?_;obtain ⟨rfl,hin⟩:=hI;unfold AYc;dsimp only;rw [List.length_replicate,Int.toNat_natCast];refine AT2 (λh=>AVb AGp ?_) λh=>AGy (by rw [show i=n by omega,Afr]);have hi':i < n:=by omega
 refine AT0 (Ai6 hi') rfl ?_;rw [AU1,AYx n (0:Int),Ahb];refine AT0 (Adx AGp hi') rfl ?_;rw [AU8];refine AT0 (AT4 hi') rfl (AGy ⟨AGp,?_,AGp⟩);rw [AW3 AGp,AU1,AU1,AWi,Afk AGp];refine congrArg (λz=>(((i + 1:Nat):Int),z))<|AUq λr hr=>?_;split
 ·refine AUq λc hc=>?_;rw [AT6,AT6];unfold dl;grind
 ·rfl
def nr (i j:Nat) (c:Int) (f:Nat->Int):Nat->Int:=λs=>if i=j then (if c < 0 then (if s=i then -f i else f s) else f s) else if c=0 then f (sx i j s) else if s=i then f i + c * f j else f s
theorem BEd {n:Nat} {e:Int} (hn:n<=8) (hi:i < n) (hj:j < n) (hU:∀ r s,r < n->s < n->(U r s).natAbs<=1000000) (hf:100 < fuel):
 iter (λs=>AYb fuel (tab n n U) (i:Int) (j:Int) e s.1 s.2) fuel (0,tab n n U)=some (tab n n λr=>nr i j (Int.tmod e 3)<|U r):=by
 apply ok_eq;let V:Nat->ATa:=λr x=>if x < r then nr i j (Int.tmod e 3) (U x) else U x
 refine AUk (λr s=>s=(((r:Nat):Int),tab n n<|V r)/\r<=n) n ⟨rfl,Nat.zero_le _⟩ AGp λr s hr hI=>?_;obtain ⟨rfl,hrn⟩:=hI;unfold AYb;dsimp only;rw [AUe];refine AT2 (λh=>?_) λh=>AGy (Adb λx y hx hy=>by show (if x < r then _ else _:Nat->Int) y=_;rw [if_pos AGp]);have hr':r < n:=by omega
 have hVr:V r r=U r:=if_neg<|Nat.lt_irrefl r;have row:(tab n n<|V r)[r]? =some (AV0 n<|U r):=by rw [<- hVr];exact AUl hr'
 have nx:w64 ((r:Int) + 1)=((r + 1:Nat):Int):=AW3 AGp
 have put:∀ g:Nat->Int,(∀ s,s < n->g s=nr i j (Int.tmod e 3) (U r) s)->(tab n n<|V r).set r (AV0 n g)=tab n n (V<|r + 1):=λg hg=>by
  rw [show AV0 n g=(List.range n).map g from rfl,Ade]
  refine Adb λx y hx hy=>?_
  rw [AT6]
  show _=(if x < r + 1 then _ else _:Nat->Int) y
  split
  ·next h=>subst h;rw [if_pos AGp];exact hg y hy
  ·show (if x < r then _ else _:Nat->Int) y=_;grind
 have bi:=hU r i hr' hi;have bj:=hU r j hr' hj;by_cases hij:i=j
 ·subst hij;rw [if_pos rfl,if_neg<|not_not_intro rfl,if_neg<|not_not_intro rfl];refine AT2 (λhc=>AT0 row rfl (AT0 (AT4 hi) rfl (AGy ⟨AGp,?_,AGp⟩))) λhc=>AGy ⟨AGp,?_,AGp⟩
  ·rw [nx,AU1,AU1,AWi,put _ λs hs=>?_];unfold nr;rw [if_pos rfl,if_pos hc,wk AGp];split <;> omega
  ·rw [nx,<- put (U r) λs hs=>by unfold nr;rw [if_pos rfl,if_neg hc],show AV0 n (U r)=(List.range n).map (U r) from rfl,Ade];refine congrArg (λz=>(((r + 1:Nat):Int),z))<|Adb λx y hx hy=>?_;rw [AT6];split
   ·next h=>subst h;rw [hVr]
   ·rfl
 ·rw [if_neg (show ¬ (i:Int)=j by omega),if_pos (show ¬ (i:Int)=j by omega),if_pos<|show ¬ (i:Int)=j by omega];refine AT2 (λhc=>?_) λhc=>?_
  ·refine AT0 row rfl (AT0 (AT4 hj) rfl (AT0 (AT4 hi) rfl ?_));rw [AU1,AU1,AWi];refine AT0 (x:=AV0 n λc=>if c=i then U r j else U r c) (by rw [List.getElem?_set,if_pos rfl,AUe,if_pos hr']) rfl (AT0 (AT4 hj) rfl (AGy ⟨AGp,?_,AGp⟩));rw [nx,AU1,AU1,AWi,List.set_set,put _ λs hs=>?_];unfold nr sx;rw [if_neg hij,if_pos hc];grind
  ·refine AT0 row rfl (AT0 (AT4 hi) rfl (AT0 (AT4 hj) rfl (AGy ⟨AGp,?_,AGp⟩)));have Aa:=Int.tmod_lt_of_pos e (show (0:Int) < 3 by decide);have Ab:=Int.lt_tmod_of_pos e (show (0:Int) < 3 by decide)
   have hm:((Int.tmod e 3) * U r j).natAbs<=2000000:=by
    rw [Int.natAbs_mul]
    exact Nat.mul_le_mul (show (Int.tmod e 3).natAbs<=2 by omega) bj
   rw [nx,AU1,AU1,AWi,put _ λs hs=>?_];unfold nr;rw [if_neg hij,if_neg hc,AW1 (x:=Int.tmod e 3 * U r j) AGp AGp,wk AGp]
theorem A8t {n:Nat} (H:Ahj n A T B) (hs:Ac4 n A):Ac4 n B:=λi j hi hj=>by
 rw [H i j hi hj,H j i hj hi]
 show _=trF (AUg n (trF T)<|AUg n A T) i j
 rw [Aml,<- AWy]
 show _=AUg n (trF<|AUg n A T) T i j
 refine AYz (λk hk=>?_) λ_ _=>rfl
 rw [Aml]
 exact AYz (λ_ _=>rfl) λl hl=>hs l k hl hk
structure UIn (n:Nat) (A U B:ATa) (t:Nat):Prop where
 c:Ahj n A U B
 d:det n U * det n U=1
 pd:PdF n B
 pm:PmB n (10 ^ t * 531441) B
 bd:∀ r s,r < n->s < n->(U r s).natAbs<=3 ^ t
theorem UIn.grow {n:Nat} (H:UIn n A U B t):UIn n A U B (t + 1):=
 ⟨H.c,H.d,H.pd,λk s h1 h2=>by have:=H.pm k s h1 h2;have h3:(0:Int) < 10 ^ t:=Int.pow_pos AGr;rw [Int.pow_succ];omega,λr s hr hs=>by have:=H.bd r s hr hs;rw [Nat.pow_succ];omega⟩
theorem UIn.next {n:Nat} {E B':ATa} (H:UIn n A U B t) (hE:∀ r s,r < n->s < n->AUg n (AUg n (trF E) B) E r s=B' r s) (hd:det n E * det n E=1) (hp:PdF n B') (hm:PmB n (10 ^ (t + 1) * 531441) B') (hb:∀ r s,r < n->s < n->(AUg n U E r s).natAbs<=3 ^ (t + 1)):UIn n A (AUg n U E) B' (t + 1):=
 ⟨Aja H.c hE,by rw [Ac9];have:=H.d;grind,hp,hm,hb⟩
theorem UIn.step {n:Nat} {c:Int} (H:UIn n A U B t) (hi:i < n) (hj:j < n) (hc: -2<=c/\c<=2):∃ U' B',UIn n A U' B' (t + 1)/\ ∀ r s,r < n->s < n->nr i j c (U r) s=U' r s:=by
 have Ae:(0:Int)<=10 ^ t * 531441:=Int.mul_nonneg (Int.le_of_lt<|Int.pow_pos AGr) AGr
 have add:∀ c' d:Int,-2<=c'/\c'<=2->c' + d + (if i=j then c' * d else 0)=0->(i=j->1 + c'≠0)->(i=j->1 + -c'≠0)->(∀ r,r < n->(U r i + c' * U r j).natAbs<=3 ^ (t + 1))->UIn n A (AUg n U<|aE i j c') (cgA i j c' B) (t + 1):=λc' d h1 h2 h3 h4 h5=>by
  have hcar:∀ c,Ahj n B (aE i j c) (cgA i j c B):=λc r s hr hs=>by rw [<- A8o hj hr hs,AWy]
  refine H.next (λr s hr hs=>A8o hj hr hs) (Anx λr s hr hs=>BEa hj hs h2) (A8n (hcar c') (A8p hi hj h3) H.pd) (λk s hk hs=>?_) λr s hr hs=>?_
  ·have:=BEb hi hj Ae h1 (A8n (hcar<|-c') (A8p hi hj h4) H.pd) H.pm k s hk hs
   rw [Int.pow_succ];omega
  ·show (psum (λk=>U r k * aE i j c' k s) n).natAbs<=_
   rw [Aqz hj hs λk=>U r k]
   have hb:=H.bd r s hr hs
   by_cases e:s=i
   ·rw [if_pos e,e];exact h5 r hr
   ·rw [if_neg e,Nat.pow_succ];omega
 by_cases hij:i=j
 ·subst hij;by_cases h0:c < 0
  ·refine ⟨_,_,add (-2) (-2) AGr (by rw [if_pos rfl];decide) (λ_=>by decide) (λ_=>by decide) λr hr=>?_,λr s hr hs=>?_⟩
   ·have:=H.bd r i hr hi;rw [Nat.pow_succ];omega
   ·show _=psum (λk=>U r k * aE i i (-2) k s) n;rw [Aqz hj hs λk=>U r k];unfold nr;rw [if_pos rfl,if_pos h0];grind
  ·exact ⟨U,B,H.grow,λr s hr hs=>by unfold nr;rw [if_pos rfl,if_neg h0]⟩
 ·by_cases h0:c=0
  ·refine ⟨AUg n U<|sxE i j,λr s=>B (sx i j r)<|sx i j s,H.next (λr s hr hs=>BA4 hi hj hr hs) (Anx λr s hr hs=>BA5 hi hj hs) (A04 H.pd (λa ha=>A2w hi hj ha) λa b _ _ e=>by rw [<- A8q i j a,e,A8q]) (λk s hk hs=>?_) λr s hr hs=>?_,λr s hr hs=>?_⟩
   ·have:det k (λa b=>B (sx i j<|s a)<|sx i j<|s b)<=10 ^ t * 531441:=BFm hi hj H.pm k s hk hs;rw [Int.pow_succ];omega
   ·show (psum (λk=>U r k * sxE i j k s) n).natAbs<=_;rw [Ap5 hi hj hs λk=>U r k];have:=H.bd r _ hr<|A2w hi hj hs;rw [Nat.pow_succ];omega
   ·show _=psum (λk=>U r k * sxE i j k s) n;rw [Ap5 hi hj hs λk=>U r k];unfold nr;rw [if_neg hij,if_pos h0]
  ·refine ⟨_,_,add c (-c) hc (by rw [if_neg hij];omega) (λe=>absurd e hij) (λe=>absurd e hij) λr hr=>?_,λr s hr hs=>?_⟩
   ·have h1:=H.bd r i hr hi;have h2:=H.bd r j hr hj
    have h3:(c * U r j).natAbs<=2 * 3 ^ t:=by
     rw [Int.natAbs_mul]
     exact Nat.mul_le_mul (show c.natAbs<=2 by omega) h2
    rw [Nat.pow_succ];omega
   ·show _=psum (λk=>U r k * aE i j c k s) n;rw [Aqz hj hs λk=>U r k];unfold nr;rw [if_neg hij,if_neg h0];grind
theorem A2x {n:Nat} {L:List Int} {q:Nat} (hn:0 < n) (hq:q < 4611686018427387904):Ok ((((if (L.length:Int)<=((q:Nat):Int) then (some ((0:Int),((q:Nat):Int))) else ((gI L<|w64<|(w64<|((q:Nat):Int) + 1) - 1).bind λx=>(some ((w64 x),(w64<|((q:Nat):Int) + 1))))):Option (Int × Int)).bind λ(x,y)=>(if (n:Int)≠0 then (some ((Int.tmod (w64<|IntKind.wrap .u8 x) (n:Int)),y)) else none)):Option (Int × Int)) λe=> ∃ i p:Nat,e=((i:Int),(p:Int))/\i < n/\p<=q + 1:=by
 refine AG4 (Amm hq) λe he=>?_;obtain ⟨x,y⟩:=e;obtain ⟨p,rfl,hp⟩:=he;have h:=Alm x n hn;refine AVb AGp<|AGy ⟨(Int.tmod (w64<|IntKind.wrap .u8 x) (n:Int)).toNat,p,?_,AGp,hp⟩;rw [Int.toNat_of_nonneg h.1]
theorem BFn {n:Nat} {L:List Int} (Ac:1<=n) (hn:n<=6) (hs:Ac4 n A) (hp:Afi n A) (hb:∀ i,i < n->A i i<=9) (hf:100 < fuel):Ok (AXx fuel L (n:Int)) λr=> ∃ U B,r=tab n n U/\UIn n A U B 12:=by
 unfold AXx;refine AVb AGp<|AG4 (BEc AGp hf) λe he=>AG4 (Q:=λr=> ∃ U B,r=tab n n U/\UIn n A U B 12) (AUk (λt s=> ∃ (U B:ATa) (q:Nat),s=(((t:Nat):Int),tab n n U,(q:Int))/\t<=12/\q<=3 * t/\UIn n A U B t) 12 ⟨dl,A,0,by rw [he];rfl,AGp,AGp,⟨Awl,by rw [Ano];rfl,BBy hs hp,λk s hk Aa=>by have:=A8s hs hp hn hb k s hk Aa;simpa using this,λr s _ _=>by unfold dl;split <;> decide⟩⟩ AGp λt s ht hI=>?_) λr hr=>AGy hr;obtain ⟨U,B,q,rfl,Ad,hq,H⟩:=hI
 have fin:UIn n A U B 12:=by
  have:∀ d t,t + d=12->UIn n A U B t->UIn n A U B 12:=λd=>by
   induction d with
   | zero=>intro t h H;rw [<- h];exact H
   | succ d ih=>intro t h H;exact ih (t + 1) AGp H.grow
  exact this (12 - t) t AGp H
 unfold Aaf;dsimp only;refine AG4 (Q:=λex=>ex= .inl ()->t < 12) (AT2 (λh=>AT2 (λ_=>AGy λ_=>by omega) λ_=>AGy λh=>(nomatch h)) λ_=>AGy λh=>(nomatch h)) λex hex=>?_
 cases ex with
 | inr u=>exact AGy ⟨U,B,rfl,fin⟩
 | inl u=>
   have ht:=hex rfl
   dsimp only
   refine AG4 (A2x AGp AGp) λe he=>?_
   obtain ⟨i,p,rfl,hi,Ae⟩:=he
   refine AG4 (A2x AGp AGp) λe he=>?_
   obtain ⟨j,p2,rfl,hj,Af⟩:=he
   refine AG4 (Amm AGp) λe he=>?_
   obtain ⟨x,y⟩:=e
   obtain ⟨p3,rfl,Ag⟩:=he
   have h3:3 ^ t<=3 ^ 12:=Nat.pow_le_pow_right AGr AGp
   dsimp only
   refine AG4 (AUn<|BEd AGp hi hj (λr s hr Aa=>Nat.le_trans (H.bd r s hr Aa)<|Nat.le_trans h3 AGr) hf) λe he=>?_
   subst he
   have Ah:=Int.tmod_lt_of_pos x (show (0:Int) < 3 by decide)
   have Ai:=Int.lt_tmod_of_pos x (show (0:Int) < 3 by decide)
   obtain ⟨U',B',H',hU'⟩:=H.step (c:=Int.tmod x 3) hi hj AGp
   refine AGy ⟨AGp,U',B',p3,?_,AGp,AGp,H'⟩
   rw [AW3 AGp,Adb hU']
theorem BA6 {L L2:List Int} (h1:0<=a1/\a1 < 256) (hm:1<=most/\most<=8) (hf:100 < fuel):∃ n A,AVq fuel a1 a2 L L2 most=some (tab n n A)/\BBu n A/\(n:Int)<=most/\ ∀ i j,(A i j).natAbs<=9:=by
 obtain ⟨r,e,n,A,rfl,G,hn⟩:=BDn (L:=L) (L2:=L2) (a2:=a2) h1 hm hf;have t2:=Int.emod_lt_of_pos a1 (show 0 < most by omega);have t3:Int.tmod a1 most=a1 % most:=Int.tmod_eq_emod_of_nonneg h1.1;let A0:ATa:=λi j=>if i < n/\j < n then A i j else 0
 have Ab:∀ i j,i < n->j < n->A i j=A0 i j:=λi j hi hj=>(if_pos ⟨hi,hj⟩).symm;refine ⟨n,A0,by rw [e,Adb Ab],⟨G.n1,G.n8,λi j hi hj=>by rw [<- Ab i j hi hj,<- Ab j i hj hi];exact G.sym i j hi hj,λk hk=>by rw [<- AUd λi j hi hj=>Ab i j AGp AGp];exact G.pos k hk,λi j hi hj=>by rw [<- Ab i j hi hj];exact G.bd i j hi hj,by rw [<- AUd Ab];exact G.dt⟩,AGp,λi j=>?_⟩;show (if i < n/\j < n then A i j else 0).natAbs<=9;split
 ·next h=>exact G.bd i j h.1 h.2
 ·decide
theorem BA7 {n:Nat} (H:PmB n D B) (hi:i < n):B i i<=D:=by
 have:=H 1 (λ_=>i) AGp λ_ _=>hi;rwa [show (1:Nat)=0 + 1 from rfl,<- Abw,Aez] at this
structure BFo (n:Nat) (A B T:ATa):Prop where
 a:At2 n A
 b:At2 n B
 c:Ahj n A T B
 d:det n T * det n T=1
theorem Azj {n:Nat} (H:Ahj n A T B) (hd:det n T * det n T=1):∃ R,Ahj n B R A/\det n R * det n R=1:=by
 have h1:∀ i j,i < n->j < n->AUg n T (λr c=>det n T * Abp n T r c) i j=dl i j:=λi j hi hj=>by
  show psum (λk=>T i k * (det n T * Abp n T k j)) n=_
  rw [ATf (g:=λk=>det n T * (T i k * Abp n T k j)) λk _=>by grind,AWb,Alj hi hj,<- Int.mul_assoc,hd,Int.one_mul]
 have h2:∀ i j,i < n->j < n->AUg n (λr c=>det n T * Abp n T r c) T i j=dl i j:=λi j hi hj=>by
  show psum (λk=>det n T * Abp n T i k * T k j) n=_
  rw [ATf (g:=λk=>det n T * (Abp n T i k * T k j)) λk _=>by grind,AWb,Ayl hi hj,<- Int.mul_assoc,hd,Int.one_mul]
 refine ⟨λr c=>det n T * Abp n T r c,λi j hi hj=>?_,Anx h2⟩;have h3:=Aja H (U:=λr c=>det n T * Abp n T r c) (B:=λi j=>AUg n (trF λr c=>det n T * Abp n T r c) (AUg n B λr c=>det n T * Abp n T r c) i j) λi j hi hj=>AWy i j;refine Eq.trans ?_ (h3 i j hi hj).symm;show _=psum (λk=>AUg n T (λr c=>det n T * Abp n T r c) k i * psum (λl=>A k l * AUg n T (λr c=>det n T * Abp n T r c) l j) n) n;rw [ATf (g:=λk=>A k j * dl k i) λk hk=>by rw [h1 k i hk hi,ATf (g:=λl=>A k l * dl l j) λl hl=>by rw [h1 l j hl hj],Agf (A k) hj];exact Int.mul_comm _ _];exact (Agf (λk=>A k j) hi).symm
theorem BEe {L L2:List Int} (h1:0<=a1/\a1 < 256) (hm:1<=most/\most<=6) (hf:AXw < fuel):∃ n A B T,AW2 fuel a1 a2 L L2 most=some (tab n n A)/\AWp fuel a1 a2 L L2 most=some (tab n n B)/\1<=n/\(n:Int)<=most/\BFo n A B T:=by
 have Ag:100 < fuel:=Nat.lt_of_le_of_lt AGr hf;obtain ⟨n,G,e,R,hn,hb⟩:=BA6 (L:=L) (L2:=L2) (a2:=a2) h1 (show 1<=most/\most<=8 by omega) Ag;have n1:=R.n1;have n6:n<=6:=by omega
 have hdm:dmN n=2 ^ 59:=if_pos n6;have hof:=Awn (F:=G) n1 AGp (λi j hi hj=>Nat.le_trans (R.bd i j hi hj) AGr) (show 17 < fuel by omega);have hh:=Ayn R.sym R.pos (B:=9) AGr (λi hi=>by have:=R.bd i i hi hi;omega)
 obtain ⟨r,er,A,T1,rfl,RA,cA,dA,-⟩:=Au3 n1 R.n8 R.sym R.pos (λi j=>Nat.le_trans (hb i j) AGr) (λk hk=>Int.le_trans (hh k hk) (by
  have h3:(9:Int) ^ k<=9 ^ 8:=by
   have:=Nat.pow_le_pow_right (show 0 < 9 by omega) (show k<=8 by omega)
   grind
  exact Int.le_trans h3 (Aqu n).1)) (λk hk=>by have:=hb k k;have:=Aqu n;omega) R.dt hf
 obtain ⟨u,eu,U,B0,rfl,HU⟩:=BFn (L:=L2) n1 n6 R.sym R.pos (λi hi=>by have:=R.bd i i hi hi;omega) Ag;have sB:=A8t HU.c R.sym;have pB:=A03 HU.pd;have hpm:(10:Int) ^ 12 * 531441<=2 ^ 59:=by decide
 have bB:∀ i,i < n->B0 i i<=2 ^ 59:=λi hi=>Int.le_trans (BA7 HU.pm hi) hpm;have aB:∀ i j,i < n->j < n->(B0 i j).natAbs<=2 ^ 59:=λi j hi hj=>Nat.le_trans (Awm sB pB bB hi hj) AGr;let B1:ATa:=λi j=>if i < n/\j < n then B0 i j else 0
 have Aa:∀ i j,i < n->j < n->B1 i j=B0 i j:=λi j hi hj=>if_pos ⟨hi,hj⟩
 have raw:AXe fuel a1 a2 L L2 most=some (tab n n B1):=by
  apply ok_eq
  unfold AXe
  rw [e]
  simp only [Option.bind_some]
  rw [hof,AUe]
  simp only [Option.bind_some]
  rw [eu]
  simp only [Option.bind_some]
  have h3:(3:Nat) ^ 12<=2 ^ 100:=by decide
  rw [Awn n1 AGp (λi j hi hj=>Nat.le_trans (HU.bd i j hi hj) AGr) AGp]
  simp only [Option.bind_some]
  rw [A2c (D:=2 ^ 100) n1 AGp AGr (λi j hi hj=>Nat.le_trans (hb i j) AGr) (λi j hi hj=>Nat.le_trans (HU.bd i j hi hj) h3) (λi j hi hj=>?_) Ag]
  ·refine AGy<|Adb λi j hi hj=>?_
   rw [Aa i j hi hj,HU.c i j hi hj,AWy]
  ·have h5:(psum (λl=>U l i * G l j) n).natAbs<=n * (3 ^ 12 * 9):=by
    refine QF.psum_abs λl hl=>?_
    rw [Int.natAbs_mul]
    exact Nat.mul_le_mul (HU.bd l i hl hi)<|hb l j
   have h6:(AUg n (trF U) G i j).natAbs<=n * (3 ^ 12 * 9):=h5
   have h7:n * (3 ^ 12 * 9)<=6 * (3 ^ 12 * 9):=Nat.mul_le_mul_right _ n6
   have h8:6 * (3 ^ 12 * 9)<=2 ^ 100:=by decide
   omega
 have dB:det n B1=det n G:=by rw [AUd Aa,Ati HU.c,HU.d,Int.one_mul]
 obtain ⟨r,eo,B,T2,rfl,RB,cB,Am,-⟩:=Au3 (A0:=B1) n1 R.n8 (λi j hi hj=>by rw [Aa i j hi hj,Aa j i hj hi];exact sB i j hi hj) (λk hk=>by rw [AUd λi j hi hj=>Aa i j AGp AGp];exact pB k hk) (λi j=>by
  show (if i < n/\j < n then B0 i j else 0).natAbs<=2 ^ 60
  split
  ·next h=>exact Nat.le_trans (aB i j h.1 h.2) AGr
  ·exact Nat.zero_le _) (λk hk=>by rw [hdm,AUd λi j hi hj=>Aa i j AGp AGp];exact Int.le_trans (HU.pm k id hk λa ha=>by show a < n;omega) hpm) (λk hk=>by rw [hdm,Aa k k hk hk];have:=bB k hk;omega) (by rw [dB];exact R.dt) hf
 have posd:∀ {C T:ATa} {X:ATa},Ahj n X T C->det n C=det n X->0 < det n X->det n T * det n T=1:=λ{C T X} h e0 hx=>by
  have h3:=Ati h
  rw [e0] at h3
  have h4:(det n T * det n T - 1) * det n X=0:=by rw [Int.sub_mul,<- h3];omega
  rcases Int.mul_eq_zero.1 h4 with h5 | h5 <;> omega
 have d1:=posd cA dA<|R.pos n<|Nat.le_refl n;have d2:=posd cB Am (by rw [dB];exact R.pos n<|Nat.le_refl n);obtain ⟨S,cS,dS⟩:=Azj cA d1;have comp:∀ {X T C V D:ATa},Ahj n X T C->Ahj n C V D->Ahj n X (AUg n T V) D:=λh h'=>Aja h λi j hi hj=>by rw [AWy];exact (h' i j hi hj).symm
 have cU:Ahj n G U B1:=λi j hi hj=>by rw [Aa i j hi hj];exact HU.c i j hi hj
 refine ⟨n,A,B,AUg n (AUg n S U) T2,?_,?_,n1,hn,⟨RA,RB,comp (comp cS cU) cB,?_⟩⟩
 ·unfold AW2;rw [e];simp only [Option.bind_some];rw [hof];simp only [Option.bind_some];rw [er];rfl
 ·unfold AWp;rw [raw];simp only [Option.bind_some];rw [eo];rfl
 ·rw [Ac9,Ac9];have:=HU.d;grind
end Go.Proofs.YtkakafabeobahaaGreatDoor
namespace Go.Proofs.YtkakafabeobahaaGreatDoor
open Go Go.QF
set_option maxRecDepth 100000
set_option maxHeartbeats 40000000
noncomputable def AXv (fuel:Nat) (Ad Ae:List AWo) (Aa:Int):Option (Int ⊕ (Bool ⊕ Unit)):=
 if Aa < (Ad.length:Int) then (gI Ad Aa).bind λAb=>(gI Ae Aa).bind λAc=>if ¬ Ab.1=Ac.1 then some (.inr<|.inl false) else if ¬ Ab.2.1=Ac.2.1 then some (.inr<|.inl false) else if (!(Ab.2.2.2.1 == Ac.2.2.2.1))=true then some (.inr<|.inl false) else some (.inl<|w64<|Aa + 1) else some<|.inr<|.inr ()
noncomputable def AYm (fuel:Nat) (a1 a2:Int) (a5 a9:LiA):Option Bool:=
 (AW2 fuel a1 a2 a5 a9 6).bind λAi=>(AYf fuel Ai).bind λ(Aa,Aj)=>(AWp fuel a1 a2 a5 a9 6).bind λAk=>(AYf fuel Ak).bind λ(Ab,Am)=>(AVy fuel Aa.1 Aa.2.1 Aa.2.2).bind λ(Ag,Ao)=>(AVy fuel Ab.1 Ab.2.1 Ab.2.2).bind λ(Ah,Ap)=>((if ¬ Aj=0 then some (.inl false) else if ¬ Am=0 then some (.inl false) else if (!Ao)=true then some (.inl false) else if (!Ap)=true then some (.inl false) else if ¬ (Ag.length:Int)=(Ah.length:Int) then some (.inl false) else some<|.inr ()):Option (Bool ⊕ Unit)).bind (λex=>match ex with | .inl Aq=>(some Aq) | .inr _=>(iter (λs=>AXv fuel Ag Ah s) fuel 0).bind (λex=>match ex with | .inl Ar=>(some Ar) | .inr _=>(AZe fuel).bind λAu=>some Au))
theorem Ah0 {h:AG0} {Ah:Value} {a5:LiA} {Ai:Value} {a9:LiA} {r:Bool} (H4:SlC (cI .i8) h Ah a5) (H8:SlC (cI .i8) h Ai a9) (HO:Aoi h) (hp:AYm fuel a1 a2 a5 a9=some r):AT3 Tryz.prog 7 #[(.agg #[(.int .u8 a1),(.int .u8 a2),Ah,Ai])] h (λx h'=>Ext h h'/\x= .bool r):=by
 unfold AYm at hp;refine cwf (l:=[_]) Tryz.func7 rfl rfl (AGt<|AZa (Kst.k0 h) [(.int .u8 a1),(.int .u8 a2),Ah,Ai] λD6 D7 D8 Aj=>AT7<|Abi [(.int .u8 a1),(.int .u8 a2),Ah,Ai] As2 rfl rfl (Aj.b p0).agg ?_);obtain ⟨D9,B6,B7⟩:=AGu hp;refine Ahr Aj (Ahu (H4.ext Aj.x) (H8.ext Aj.x) B6) λEa Eb Ec Ed Ee Ef A3=>?_;obtain ⟨⟨Ak,B8⟩,B9,Bj⟩:=AGu B7;dsimp only at Bj;refine Aeq rfl (Ahn (A3.o2 p0).rd (HO.ext A3.x) B9) λEg Eh Ca Cb=>?_;obtain ⟨A4,A5,Cd,Ce,Cf,Cg,rfl,Ch,Ci,Cj⟩:=Cb;have Bl:=A3.n Ca [aO2 (cI .i64) 61 2 Cd Ce Cf A4 Ak.2.1,aO Ak7 60 Cg A5 Ak.2.2] Cj ⟨Ch,Ci,trivial⟩;simp only [List.cons_append,List.nil_append] at Bl;refine AGq<|AUh rfl rfl (AUh rfl rfl (AV7 Bl [(.int .i64 0),(.slice none 0 0),(.slice none 0 0)] Asl λEi Ej Ek Am=>AVf [(.int .i64 Ak.1),A4,A5] Af1 rfl rfl rfl rfl (AY9 rfl (AY9 (Am.o2 p1).isOne<|AY9 (Am.o p2).isOne Akf)) (Am.b p0) λEl Ck Cm=>AT7 ?_));have Ao:=Am.sb p0 Cm Ck rfl;refine Abi [(.int .u8 a1),(.int .u8 a2),Ah,Ai] As2 rfl rfl (Ao.b p4).agg ?_;obtain ⟨Em,Cn,Co⟩:=AGu Bj;refine Ahr Ao (Ahi (H4.ext Ao.x) (H8.ext Ao.x) Cn) λEn Eo Ep Er Es Et A6=>?_;obtain ⟨⟨Ap,Cp⟩,Cq,Bm⟩:=AGu Co;dsimp only at Bm;refine Aeq rfl (Ahn (A6.o2 p0).rd (HO.ext A6.x) Cq) λEu Ev Cr Ct=>?_;obtain ⟨A7,A8,Cu,Cv,Cw,Cx,rfl,Cy,Cz,C0⟩:=Ct;have Bn:=A6.n Cr [aO2 (cI .i64) 61 2 Cu Cv Cw A7 Ap.2.1,aO Ak7 60 Cx A8 Ap.2.2] C0 ⟨Cy,Cz,trivial⟩;simp only [List.cons_append,List.nil_append] at Bn;refine AGq<|AUh rfl rfl (AUh rfl rfl (AV7 Bn [(.int .i64 0),(.slice none 0 0),(.slice none 0 0)] Asl λEw Ey Ez Aq=>AVf [(.int .i64 Ap.1),A7,A8] Af1 rfl rfl rfl rfl (AY9 rfl (AY9 (Aq.o2 p1).isOne<|AY9 (Aq.o p2).isOne Akf)) (Aq.b p0) λFa C1 C2=>AT7 ?_));have Ar:=Aq.sb p0 C2 C1 rfl;refine Abi [(.int .i64 Ak.1),A4,A5] Af1 rfl rfl (Ar.b p4).agg ?_;obtain ⟨⟨Fb,C3⟩,C4,Bo⟩:=AGu Bm;dsimp only at Bo;refine Aeq rfl (AZt (Ar.o2 p5).rd (Ar.o p6).rd C4) λFc Fd C5 C6=>?_;obtain ⟨Fe,Ff,rfl,C7,C8⟩:=C6;refine AGq<|AUh rfl rfl (AUh rfl rfl (ATu<|AT7 ?_));have Au:=Ar.no C5 C8 C7;refine Abi [(.int .i64 Ap.1),A7,A8] Af1 rfl rfl (Au.b p1).agg ?_;obtain ⟨⟨Fg,C9⟩,Da,Bp⟩:=AGu Bo;dsimp only at Bp;refine Aeq rfl (AZt (Au.o2 p2).rd (Au.o p3).rd Da) λFh Fi Db Dc=>?_;obtain ⟨Fj,Fk,rfl,Dd,De⟩:=Dc;refine AGq<|AUh rfl rfl (AUh rfl rfl (ATu<|AG1 ?_));have Ab:=Au.no Db De Dd;obtain ⟨Df,Bq,Ac⟩:=AGu Bp;refine Ae6 36028779839094788 (λx:Unit=>[]) (λx h'=>(Sum.inr <| ())=Df/\Kst h h' (AY6 Ab.L [0,1])) ?_ ?_
 ·refine AGt<|AGq<|AV2 rfl rfl (AGq ?_);by_cases Av: ¬ B8=0
  ·rw [decide_eq_true Av];refine Ab3 36 true<|ATn rfl (AGq<|Ab3 40 true<|ATn rfl (AGq<|Ab3 44 true<|ATn rfl (AGq<|AY4 48 true<|ATn rfl (AGw<|ATv rfl (AGt<|AG1 ?_)))));obtain rfl:=AGs<|ifT Bq Av;refine AG6<|ATj ?_;obtain rfl:=AGs Ac;exact ⟨_,AS9,Ab.x,rfl⟩
  ·have Br:=ifF Bq Av;rw [decide_eq_false Av];refine ATt 36 false<|AGq<|ATt 36 false<|AV2 rfl rfl (ATx rfl (AGq ?_));by_cases Aw: ¬ Cp=0
   ·rw [decide_eq_true Aw];refine Ab3 40 true<|ATn rfl (AGq<|Ab3 44 true<|ATn rfl (AGq<|AY4 48 true<|ATn rfl (AGw<|ATv rfl (AGt<|AG1 ?_))));obtain rfl:=AGs<|ifT Br Aw;refine AG6<|ATj ?_;obtain rfl:=AGs Ac;exact ⟨_,AS9,Ab.x,rfl⟩
   ·have Bt:=ifF Br Aw;rw [decide_eq_false Aw];refine ATt 40 false<|AGq<|ATt 40 false<|AW0 rfl (ATx rfl (AGq ?_));cases Bu:(!C3)
    ·refine ATt 44 false<|AGq<|ATt 44 false<|AW0 rfl (ATx rfl (AGq ?_));have Bv:=Abh Bt Bu;cases Bw:(!C9)
     ·refine ATt 48 false<|AGq<|ATt 48 false<|AUu Af9 rfl (Ab.o p1).rd (ATt 48 false<|AGq<|ATt 48 false<|AUu Af9 rfl (Ab.o p0).rd (ATt 48 false<|AV2 rfl rfl (ATx rfl (AGw ?_))));have Bx:=Abh Bv Bw;refine ⟨_,rfl,λA9=>?_,λA9=>?_⟩
      ·refine AGt<|AG1 ?_;obtain rfl:=AGs<|AT9 Bx A9;refine AG6<|ATj ?_;obtain rfl:=AGs Ac;exact ⟨_,AS9,Ab.x,rfl⟩
      ·refine AG5<|q_t ?_;exact ⟨(():Unit),⟨AGs<|AUa Bx A9,Ab.sel [0,1] AGr⟩,trivial⟩
     ·refine AY4 48 true<|ATn rfl (AGw<|ATv rfl (AGt<|AG1 ?_));obtain rfl:=AGs<|ifT Bv Bw;refine AG6<|ATj ?_;obtain rfl:=AGs Ac;exact ⟨_,AS9,Ab.x,rfl⟩
    ·refine Ab3 44 true<|ATn rfl (AGq<|AY4 48 true<|ATn rfl (AGw<|ATv rfl (AGt<|AG1 ?_)));obtain rfl:=AGs<|ifT Bt Bu;refine AG6<|ATj ?_;obtain rfl:=AGs Ac;exact ⟨_,AS9,Ab.x,rfl⟩
 rintro ⟨⟩ Fl Fm ⟨Dg,Ba⟩;subst Dg;refine AGv<|AGt<|AGq<|AUu Af9 rfl (Ba.o p1).rd (AGq<|AGw<|AGx<|AZp 316912650056913235186099947524 Ac (λx=>[(57,(.int .i64 x))]) (λx=>Ba.L) Ba ⟨rfl,trivial⟩ ?_);rintro Fo Fp Fq Ft Aa Bb Ax;unfold AXv at Bb;refine AGt<|ATz rfl rfl (AGw<|AGv<|⟨_,rfl,λBc=>?_,λBc=>?_⟩)
 ·refine AG5<|q_t<|AGv<|AGx<|AGt<|AGq<|AG1<|AGv<|AWg<|AGq<|AGq ?_;obtain ⟨By,Ad,Dh⟩:=AGu<|AT9 Bb Bc;refine Ak8 Af9 rfl (Aa.o p1) rfl Ad λFu Di=>AVa Avr rfl ?_;obtain ⟨Fv,Dj,Dk⟩:=(Aa.o p1).cells Di Ad;obtain rfl:=Dj;refine AT1 AT8 rfl (Dk 0 _ rfl) (AGq<|AGq ?_);obtain ⟨Bz,Ae,B3⟩:=AGu Dh;refine Ak8 Af9 rfl (Aa.o p0) rfl Ae λFw Dl=>AVa Avr rfl ?_;obtain ⟨Fx,Do,Dp⟩:=(Aa.o p0).cells Dl Ae;obtain rfl:=Do;refine AT1 AT8 rfl (Dp 0 _ rfl) (AV2 rfl rfl (AGq ?_));by_cases Ay: ¬ By.1=Bz.1
  ·rw [decide_eq_true Ay];refine AY4 71 true<|AY4 71 true<|Aud 71 true<|ATn rfl (AGq<|AY4 84 true<|AY4 84 true<|Aud 84 true<|ATn rfl (AGw<|ATv rfl (AGt<|AG1<|AG6<|AUp<|ATj<|ATj<|AUp<|ATj ?_)));obtain rfl:=AGs<|Ax _ (AGs<|ifT B3 Ay).symm;exact ⟨_,AS9,Aa.x,rfl⟩
  ·have B4:=ifF B3 Ay;rw [decide_eq_false Ay];refine ATt 71 false<|AGq<|ATt 71 false<|AGq<|ATt 71 false<|Ak8 Af9 rfl (Aa.o p1) rfl Ad λFy Dq=>ATt 71 false<|AVa Arl rfl (ATt 71 false ?_);obtain ⟨Fz,Dr,Ds⟩:=(Aa.o p1).cells Dq Ad;obtain rfl:=Dr;refine AT1 AT8 rfl (Ds 1 _ rfl) (ATt 71 false<|AGq<|ATt 71 false<|AGq<|ATt 71 false<|Ak8 Af9 rfl (Aa.o p0) rfl Ae λF4 Dt=>ATt 71 false<|AVa Arl rfl (ATt 71 false ?_));obtain ⟨F5,Du,Dv⟩:=(Aa.o p0).cells Dt Ae;obtain rfl:=Du;refine AT1 AT8 rfl (Dv 1 _ rfl) (ATt 71 false<|AV2 rfl rfl (ATx rfl (AGq ?_)));by_cases Az: ¬ By.2.1=Bz.2.1
   ·rw [decide_eq_true Az];refine AY4 84 true<|AY4 84 true<|Aud 84 true<|ATn rfl (AGw<|ATv rfl (AGt<|AG1<|AG6<|AUp<|ATj<|ATj<|AUp<|ATj ?_));obtain rfl:=AGs<|Ax _ (AGs<|ifT B4 Az).symm;exact ⟨_,AS9,Aa.x,rfl⟩
   ·have B5:=ifF B4 Az;rw [decide_eq_false Az];refine ATt 84 false<|AGq<|ATt 84 false<|AGq<|ATt 84 false<|Ak8 Af9 rfl (Aa.o p1) rfl Ad λF6 Dw=>ATt 84 false<|AVa Arn rfl (ATt 84 false ?_);obtain ⟨F7,Dx,Dy⟩:=(Aa.o p1).cells Dw Ad;obtain rfl:=Dx;refine AT1 AWm rfl (Dy 3 _ rfl) (ATt 84 false<|AGq<|ATt 84 false<|AGq<|ATt 84 false<|Ak8 Af9 rfl (Aa.o p0) rfl Ae λF8 Dz=>ATt 84 false<|AVa Arn rfl (ATt 84 false ?_));obtain ⟨F9,D0,D2⟩:=(Aa.o p0).cells Dz Ae;obtain rfl:=D0;refine AT1 AWm rfl (D2 3 _ rfl) (ATt 84 false<|Aph Al7 rfl rfl (ATx rfl (AGw<|⟨_,rfl,λBe=>?_,λBe=>?_⟩)))
    ·refine AGt<|AG1<|AG6<|AUp<|ATj<|ATj<|AUp<|ATj ?_;obtain rfl:=AGs<|Ax _ (AGs<|ifT B5 Be).symm;exact ⟨_,AS9,Aa.x,rfl⟩
    ·refine AG5<|q_b<|q_t<|ATc<|ATp rfl rfl (AGq<|AGw ?_);exact ⟨_,(AGs<|Abh B5 Be).symm,Aa,rfl,trivial⟩
 ·refine ATk<|ATl<|ATl<|AUi<|q_t<|AGt ?_;obtain ⟨Ga,D3,D4⟩:=AGu<|Ax _ (AGs<|AUa Bb Bc).symm;refine AYn Aa (Ak1 (HO.ext Aa.x) D3) λGb Gc D5=>AG1<|AG6 ?_;obtain rfl:=AGs D4;exact ⟨_,AS9,D5.x,rfl⟩
end Go.Proofs.YtkakafabeobahaaGreatDoor
namespace Go.Proofs.YtkakafabeobahaaGreatDoor
open Go Go.QF
set_option maxRecDepth 100000
structure Aw6 (M:List (List Int)) (K:Nat) (T G:ATa) (L:List AUr) (C:List AWo):Prop where
 e:Eli M.length K 2 (ent M) T G
 w:∀ i j,i < M.length->j < M.length->G i j=bm L i j
 sz:Ahx L
 bp:∀ b∈L,BP K b
 asc:∀ i,i < L.length->Asc L i
 sum:Ac5 L=M.length
 len:L.length<=8
 c:BA3 L L.length C
theorem A8u (R:Arh M) (hf:2147483648 < fuel) {v:Nat} {r:Int} (hd:det M.length (ent M)=r * 2 ^ v) (hr: ¬ (2:Int) ∣ r):∃ T G L C,AYf fuel M=some ((2,tab M.length M.length T,L),0)/\AVy fuel 2 (tab M.length M.length T) L=some (C,true)/\Aw6 M (v + 3) T G L C:=by
 have Ab:100 < fuel:=by omega
 obtain ⟨K,E,T,G,L,e1,e2,e3,e4,hv,S,B⟩:=BD1 R hf;have hKv:=Awp AGp hv ⟨v,r,rfl,hd,hr⟩;obtain rfl:K=v + 3:=by omega
 obtain ⟨⟨C,ok⟩,ec,hok,H⟩:=BD9 (T:=tab M.length M.length T) B e4 R.1.1 R.1.2 Ab;dsimp only at hok;subst hok;have hl:=Awz B.sz;have hsum:=B.sum;have:=R.1.2;refine ⟨T,G,L,C,e1,ec,S.e,S.w,B.sz,λb hb=>?_,λi hi=>(B.rg i hi).2,B.sum,AGp,H⟩;obtain ⟨i,hi⟩:=List.getElem?_of_mem hb;obtain ⟨⟨p1,p2⟩,p3⟩:=(B.rg i (List.getElem?_eq_some_iff.1 hi).1).1 b hi;rw [if_pos rfl] at p2;refine ⟨⟨p1,AGp⟩,?_⟩;by_cases h1:b.2.1=1
 ·rw [if_pos h1] at p3;exact .inl ⟨h1,Atr.1 p3.2.1⟩
 ·rw [if_neg h1] at p3;exact .inr ⟨(B.sz b hb).resolve_left h1,p3.2⟩
theorem A8v (R:Arh M):∃ (v:Nat) (r:Int),v<=13/\det M.length (ent M)=r * 2 ^ v/\¬ (2:Int) ∣ r:=by
 obtain ⟨d1,d2⟩:=Ap0 R;obtain ⟨v,hv,Ae,-⟩:=Aqv (fuel:=101) R (show Pr 2 from ⟨AGp,λd h1 h2=>by omega⟩) AGr AGr;obtain ⟨w,r,hw,h1,h2⟩:=hv;exact ⟨w,r,AGp,h1,h2⟩
theorem BEf:PrI 2:=A0z ⟨AGp,λd h1 h2=>by omega⟩
theorem Aw6.jd {L:List AUr} (D:Aw6 M K T G L C):Jd M.length K 2 (eL L) (bmp 2<|L.map z0) G:=
 BFl D.sz D.sum (Azf D.asc) (λb hb=>by have:=(D.bp b hb).1;omega) (λb hb=>Atr.2 (D.bp b hb).odd) λi j hi hj=>Eqm.of_eq<|D.w i j hi hj
theorem Aw6.shape {M':List (List Int)} {T' G':ATa} {L L':List AUr} {C':List AWo} (D:Aw6 M K T G L C) (D':Aw6 M' K T' G' L' C') (hK:1<=K) (hn:M'.length=M.length) (hU:Ahj M.length (ent M) U (ent M')) (hu:det M.length U * det M.length U=1):(∀ i,i < M.length->eL L i=eL L' i)/\ ∀ x:Nat,(∃ b∈L',b.1.toNat=x/\b.2.1=1)-> ∃ b∈L,b.1.toNat=x/\b.2.1=1:=by
 have e':=D'.e;have J:=D.jd;have J':=D'.jd;have s1:=D.sum;have s2:=D'.sum;rw [hn] at e' J' s2;obtain ⟨R,hR,hc⟩:=BA2 BEf hK D.e e' hU hu;have he:∀ i,i < M.length->eL L i=eL L' i:=λi hi=>Awj BEf hR J J' hc hi;refine ⟨he,λx hx=>?_⟩;false_or_by_contra
 rename_i hno;have h1:=(Aw4 D.sz (λb hb=>(D.bp b hb).2.imp id λh=>⟨h.1,h.2.1,h.2.2.2⟩) x).2 hno;refine (Aw4 D'.sz (λb hb=>(D'.bp b hb).2.imp id λh=>⟨h.1,h.2.1,h.2.2.2⟩) x).1 (λi hi hx=>?_) hx;rw [s1] at h1;rw [s2] at hi;obtain ⟨k,m,c1,c2,w1,w2⟩:=BD7 x J.asc;obtain ⟨h3,h4⟩:=w2 i hi (by rw [he i hi,hx]);refine A0r BEf hR J J' hc c1 c2 (λi a b=>by rw [w1 i a b,w1 k (Nat.le_refl k) AGp]) (λi a b=>h1 i (by have:=c2.1;omega)<|w1 i a b) i h3 h4
theorem Aw6.dims {M':List (List Int)} {T' G':ATa} {L L':List AUr} {C':List AWo} (D:Aw6 M K T G L C) (D':Aw6 M' K T' G' L' C') (hn:M'.length=M.length) (he:∀ i,i < M.length->eL L i=eL L' i) (x:Int):Aly L x=Aly L' x:=by
 rw [Aqy x D.sz λb hb=>(D.bp b hb).1.1,Aqy x D'.sz λb hb=>(D'.bp b hb).1.1,D.sum,D'.sum,hn];exact ATf λi hi=>by rw [he i hi]
theorem BA8 {C':List AWo} (hl:C.length<=8) (Ag:C.length=C'.length) (h:∀ (i:Nat) (c d:AWo),C[i]? =some c->C'[i]? =some d->c.1=d.1/\c.2.1=d.2.1/\c.2.2.2.1=d.2.2.2.1) (hf:100 < fuel):iter (λs=>AXv fuel C C' s) fuel 0=some (.inr ()):=by
 apply ok_eq;refine AUk (λi s=>s=(i:Int)/\i<=C.length) C.length ⟨rfl,Nat.zero_le _⟩ AGp λi s hi hI=>?_;obtain ⟨rfl,hin⟩:=hI;unfold AXv;refine AT2 (λh1=>?_) λ_=>AGy rfl;have hi:i < C.length:=by omega
 have g1:=List.getElem?_eq_getElem hi;have g2:=List.getElem?_eq_getElem (show i < C'.length by omega);obtain ⟨a1,a2,a3⟩:=h i _ _ g1 g2;rw [AZs g1,AZs g2,if_neg<|not_not_intro a1,if_neg<|not_not_intro a2,a3];refine AT2 (λh5=>?_) λ_=>AGy ⟨hi,AW3 AGp,hi⟩;simp at h5
theorem Aq0 {g kd:Int} {Z Y:List Int} (hg:0<=g/\g < 256):AYm (AXw + 1) g kd Z Y=some true:=by
 have hf:AXw < AXw + 1:=Nat.lt_succ_self _;have Af:100 < AXw + 1:=Nat.lt_of_le_of_lt AGr hf;have Ac:2147483648 < AXw + 1:=Nat.lt_of_le_of_lt AGr hf;apply ok_eq;unfold AYm;obtain ⟨n,A,B,S,eF,eO,n1,n6,P⟩:=BEe (L:=Z) (L2:=Y) (a2:=kd) hg (show (1:Int)<=6/\(6:Int)<=6 by decide) hf;have RA:=A2o n1 AGp P.a;have RB:=A2o n1 AGp P.b;obtain ⟨S',cS',dS'⟩:=Azj P.c P.d;have hl:∀ A,(tab n n A).length=n:=λA=>AUe _ _ _;obtain ⟨v,r,hv,hd,hr⟩:=A8v RA
 have tabC:∀ {A B S:ATa},Ahj n A S B->Ahj n (ent<|tab n n A) S (ent<|tab n n B):=λh i j hi hj=>by
  rw [Avi hi hj,h i j hi hj]
  exact AYz (λ_ _=>rfl) λk hk=>AYz (λl hl=>(Avi hk hl).symm) λ_ _=>rfl
 have hlen:(tab n n B).length=(tab n n A).length:=by rw [hl,hl]
 have c1:Ahj (tab n n A).length (ent<|tab n n A) S (ent<|tab n n B):=by rw [hl];exact tabC P.c
 have c2:Ahj (tab n n B).length (ent<|tab n n B) S' (ent<|tab n n A):=by rw [hl];exact tabC cS'
 have u1:det (tab n n A).length S * det (tab n n A).length S=1:=by rw [hl];exact P.d
 have u2:det (tab n n B).length S' * det (tab n n B).length S'=1:=by rw [hl];exact dS'
 have hd':det (tab n n B).length (ent<|tab n n B)=r * 2 ^ v:=by rw [hlen,Ati c1,u1,Int.one_mul,hd]
 obtain ⟨T,G,L,C,e1,e2,D⟩:=A8u RA Ac hd hr;obtain ⟨T',G',L',C',e1',e2',D'⟩:=A8u RB Ac hd' hr;obtain ⟨he,o1⟩:=D.shape D' AGp hlen c1 u1;obtain ⟨-,o2⟩:=D'.shape D AGp hlen.symm c2 u2;have hdim:=D.dims D' hlen he;have p1:=D.c.sp;have p2:=D'.c.sp;rw [List.take_length] at p1 p2;obtain ⟨q1,q2⟩:=A8g p1 p2 D.sz D'.sz hdim;have Ao:=Nat.le_trans D.c.len D.len
 have key:=BA8 (fuel:=AXw + 1) Ao q1 (λi c d hc hd=>by
  obtain ⟨a1,a2,-,a3,-,-,a4,a5⟩:=q2 i c d hc hd
  refine ⟨a1,a2,?_⟩
  rw [Bool.eq_iff_iff,a4,a5]
  constructor
  ·rintro ⟨b,hb,h1,h2⟩
   obtain ⟨b',hb',h3,h4⟩:=o2 b.1.toNat ⟨b,hb,rfl,h2⟩
   have:=(D.bp b hb).1.1
   have:=(D'.bp b' hb').1.1
   exact ⟨b',hb',AGp,h4⟩
  ·rintro ⟨b,hb,h1,h2⟩
   obtain ⟨b',hb',h3,h4⟩:=o1 b.1.toNat ⟨b,hb,rfl,h2⟩
   have:=(D'.bp b hb).1.1
   have:=(D.bp b' hb').1.1
   exact ⟨b',hb',AGp,h4⟩) Af
 rw [eF];simp only [Option.bind_some];rw [e1];simp only [Option.bind_some];rw [eO];simp only [Option.bind_some];rw [e1'];simp only [Option.bind_some];rw [e2];simp only [Option.bind_some];rw [e2'];simp only [Option.bind_some];rw [if_neg AGr,if_neg AGr,if_neg AGr,if_neg AGr,if_neg AGp];simp only [Option.bind_some];rw [key];simp only [Option.bind_some];rw [Aw1];exact AGy rfl
end Go.Proofs.YtkakafabeobahaaGreatDoor
