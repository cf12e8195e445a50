/-
  Texts of a proof, joined. Conditions stand in each statement.
-/
import Derived.Lib.SmallJoins
import Derived.RangeFuncRecord
import Derived.OrdersIn
import Derived.Test.YtiegjkmfpcgjjaaGreatDoorMLineSorted4
set_option linter.unusedVariables false
set_option linter.unusedSimpArgs false
namespace Go.Proofs.YtiegjkmfpcgjjaaGreatDoor
open Go Go.QF
set_option maxRecDepth 100000
theorem Ao7 {A:Nat->Nat->Int} {k:Nat} (h1:LvF A k) (h2:SzF A (k + 1) k) (hp:0 < det (k + 1) A):det (k + 1) A * det (k + 1) A<=2 * (det k A * det (k + 2) A):=by
 unfold LvF at h1;unfold SzF at h2;have h3:(2 * Mn k A (k + 1) k) * (2 * Mn k A (k + 1) k)<=det (k + 1) A * det (k + 1) A:=ASt (by omega) h2.2;have h4:(2 * Mn k A (k + 1) k) * (2 * Mn k A (k + 1) k)=4 * (Mn k A (k + 1) k * Mn k A (k + 1) k):=by grind
 omega
theorem ALc {x y:Int} (h0:0<=x) (h:x<=y):∀ k:Nat,x ^ k<=y ^ k
  | 0=>by simp
  | k + 1=>by
    rw [Int.pow_succ,Int.pow_succ]
    exact Int.mul_le_mul (ALc h0 h k) h h0 (Int.le_trans (Int.pow_nonneg h0) (ALc h0 h k))
def tri:Nat->Nat
  | 0=>0
  | k + 1=>tri k + (k + 1)
theorem Ahj {n:Nat} {A:Nat->Nat->Int} (hp:ALq n A) (hs:AU8 A n) (hl:AWt A n):∀ k,k + 1<=n->det k A ^ (k + 1)<=det (k + 1) A ^ k * 2 ^ tri k:=by
  intro k;induction k with
  | zero=>intro _;simp [det,tri]
  | succ k ih=>
    intro hk;have ih:=ih (by omega);have p0:=hp k (by omega);have p1:=hp (k + 1) (by omega);have p2:=hp (k + 2) (by omega);have h1:=Ao7 (hl k (by omega)) (hs (k + 1) k (by omega) (by omega)) p1;generalize det k A=a at *
    generalize det (k + 1) A=b at *
    generalize det (k + 2) A=c at *
    have h2:(b * b) ^ (k + 1)<=(2 * (a * c)) ^ (k + 1):=ALc (Int.le_of_lt (Int.mul_pos p1 p1)) h1 _;rw [Int.mul_pow,Int.mul_pow,Int.mul_pow] at h2;have h3:a ^ (k + 1) * c ^ (k + 1)<=b ^ k * 2 ^ tri k * c ^ (k + 1):=Int.mul_le_mul_of_nonneg_right ih (Int.le_of_lt (Int.pow_pos p2));have h4:2 ^ (k + 1) * (a ^ (k + 1) * c ^ (k + 1))<=2 ^ (k + 1) * (b ^ k * 2 ^ tri k * c ^ (k + 1)):=Int.mul_le_mul_of_nonneg_left h3 (Int.le_of_lt (AU7 _));have h5:=Int.le_trans h2 h4;have e1:b ^ (k + 1) * b ^ (k + 1)=b ^ k * b ^ (k + 1 + 1):=by rw [Int.pow_succ b k,Int.pow_succ b (k + 1),Int.pow_succ b k];grind
    have e2:(2:Int) ^ (k + 1) * (b ^ k * 2 ^ tri k * c ^ (k + 1))=b ^ k * (c ^ (k + 1) * 2 ^ tri (k + 1)):=by
      have:(2:Int) ^ tri (k + 1)=2 ^ tri k * 2 ^ (k + 1):=by rw [<- Int.pow_add];rfl
      rw [this];grind
    rw [e1,e2] at h5;exact Int.le_of_mul_le_mul_left h5 (Int.pow_pos p1)
def dU:Nat->Int
  | 8=>10000
  | 7=>35777
  | 6=>64000
  | 5=>57243
  | 4=>25600
  | _=>10000
theorem Awv (k:Nat):dU k<=64000:=by unfold dU;split <;> omega
theorem Atr (k:Nat):10000<=dU k:=by unfold dU;split <;> omega
theorem Asf:∀ k,k < 8->dU (k + 1) ^ k * 2 ^ tri k < (dU k + 1) ^ (k + 1):=by decide
theorem Ale {n:Nat} {A:Nat->Nat->Int} (hn:n<=8) (hp:ALq n A) (hs:AU8 A n) (hl:AWt A n) (hd:det n A<=10000):∀ m k,k + m=n->det k A<=dU k:=by
 intro m
 induction m with
 | zero=>
     intro k hk;obtain rfl:k=n:=by omega
     exact Int.le_trans hd (Atr _)
 | succ m ih=>
   intro k hk
   have h1:=ih (k + 1) (by omega)
   have h2:=Ahj hp hs hl k (by omega)
   have p0:=hp k (by omega)
   have p1:=hp (k + 1) (by omega)
   rcases Int.lt_or_le (dU k) (det k A) with h | h
   · exfalso
     have h3:(dU k + 1) ^ (k + 1)<=det k A ^ (k + 1):=ALc (by have:=Atr k;omega) (by omega) _
     have h4:det (k + 1) A ^ k * 2 ^ tri k<=dU (k + 1) ^ k * 2 ^ tri k:=Int.mul_le_mul_of_nonneg_right (ALc (Int.le_of_lt p1) h1 k) (Int.le_of_lt (AU7 _))
     have h5:=Asf k (by omega)
     omega
   · exact h
theorem Aff {n:Nat} {A:Nat->Nat->Int} (hn:n<=8) (R:Ahh n A) {k:Nat} (hk:k<=n):0 < det k A/\det k A<=64000:=
  ⟨R.pos k hk,Int.le_trans (Ale hn R.pos R.sz R.lv R.dt (n - k) k (by omega)) (Awv k)⟩
theorem Acy {n:Nat} {A:Nat->Nat->Int} (hn:n<=8) (R:Ahh n A) {i j:Nat} (hi:i < n) (hj:j < n): -192000<=A i j/\A i j<=192000:=
  Afd R.sym R.pos (fun k hk=>Ae4 (Dm:=64000) hn R.sym R.pos hk (fun k hk=>(Aff hn R hk).2) fun l hl=>R.sz k l hl hk) hi hj
structure RB (n:Nat) (A:Nat->Nat->Int) (k:Nat):Prop where
  pos:∀ j,k < j->j<=n->0 < det j A
  lt:∀ j,k < j->j < n->det j A < 65536
  sz:∀ l i,k<=l->l < i->i < n->SzF A i l
  lv:∀ l,k<=l->l + 1 < n->LvF A l
  dt:det n A<=10000
theorem Avl {A F:Nat->Nat->Int} {m k:Nat} (h0:0 < det k A) (hF:∀ i j,i < m + 1->j < m + 1->F i j=Mn k A (k + i) (k + j)) {i j:Nat} (hi:i < m) (hj:j < m):APl F (det k A) i j=Mn (k + 1) A (k + 1 + i) (k + 1 + j):=by
 unfold APl;rw [hF 0 0 (by omega) (by omega),hF (i + 1) (j + 1) (by omega) (by omega),hF (i + 1) 0 (by omega) (by omega),hF 0 (j + 1) (by omega) (by omega),Nat.add_zero,AXd (by omega),Int.mul_tdiv_cancel_left _ (by omega)];rw [show k + (i + 1)=k + 1 + i by omega,show k + (j + 1)=k + 1 + j by omega]
theorem Afg {n:Nat} {A:Nat->Nat->Int}:∀ (m k:Nat) (F:Nat->Nat->Int),k + m=n->1<=m->0 < det k A->(∀ i j,i < m->j < m->F i j=Mn k A (k + i) (k + j))->(AN1 m F (det k A)=true↔RB n A k):=by
 intro m
 induction m with
 | zero=>intro k F _ h;omega
 | succ m ih=>
   intro k F hk _ h0 hF
   have Ad:F 0 0=det (k + 1) A:=by rw [hF 0 0 (by omega) (by omega)];exact ALb k A
   cases m with
   | zero=>
     obtain rfl:k + 1=n:=hk
     show decide (0 < F 0 0/\F 0 0<=10000)=true↔_
     rw [decide_eq_true_iff,Ad]
     exact ⟨fun h=>⟨fun j h1 h2=>by
       obtain rfl:j=k + 1:=by omega
       exact h.1,fun j h1 h2=>by omega,fun l i h1 h2 h3=>by omega,fun l h1 h2=>by omega,h.2⟩,fun h=>⟨h.pos (k + 1) (by omega) (Nat.le_refl _),h.dt⟩⟩
   | succ m=>
     have hN:∀ i j,i < m + 1->j < m + 1->APl F (det k A) i j=Mn (k + 1) A (k + 1 + i) (k + 1 + j):=fun i j hi hj=>Avl h0 hF hi hj
     have hS:AN0 (m + 1 + 1) F↔(0 < det (k + 1) A/\det (k + 1) A < 65536)/\ ∀ i,k < i->i < n->SzF A i k:=by
       unfold AN0
       rw [Ad]
       refine and_congr_right fun _=>⟨fun h i h1 h2=>?_,fun h i h1 h2=>?_⟩
       · have h3:=h (i - k) (by omega) (by omega)
         rw [hF (i - k) 0 (by omega) (by omega),show k + (i - k)=i by omega] at h3
         unfold SzF
         simp only [Nat.add_zero] at h3
         omega
       · have h3:=h (k + i) (by omega) (by omega)
         unfold SzF at h3
         rw [hF i 0 h2 (by omega),Nat.add_zero]
         omega
     have hL:ATm F (det k A)↔LvF A k:=by
       unfold ATm LvF
       rw [Ad,hN 0 0 (by omega) (by omega),Nat.add_zero,ALb (k + 1) A,hF 1 0 (by omega) (by omega),Nat.add_zero]
       have e:3 * det (k + 1) A * det (k + 1) A=3 * (det (k + 1) A * det (k + 1) A):=by grind
       rw [e]
       exact Iff.rfl
     show (decide (AN0 (m + 1 + 1) F) && (decide (ATm F (det k A)) && AN1 (m + 1) (APl F (det k A)) (F 0 0)))=true↔_
     rw [Bool.and_eq_true,Bool.and_eq_true,decide_eq_true_iff,decide_eq_true_iff,hS,hL,Ad]
     constructor
     · rintro ⟨⟨⟨h1,h2⟩,h3⟩,h4,h5⟩
       have R:=(ih (k + 1) _ (by omega) (by omega) h1 hN).1 h5
       refine ⟨fun j a b=>?_,fun j a b=>?_,fun l i a b c=>?_,fun l a b=>?_,R.dt⟩
       · by_cases e:j=k + 1
         · subst e;exact h1
         · exact R.pos j (by omega) b
       · by_cases e:j=k + 1
         · subst e;exact h2
         · exact R.lt j (by omega) b
       · by_cases e:l=k
         · subst e;exact h3 i b c
         · exact R.sz l i (by omega) b c
       · by_cases e:l=k
         · subst e;exact h4
         · exact R.lv l (by omega) b
     · intro R
       have h1:=R.pos (k + 1) (by omega) (by omega)
       exact ⟨⟨⟨h1,R.lt (k + 1) (by omega) (by omega)⟩,fun i a b=>R.sz k i (Nat.le_refl k) a b⟩,R.lv k (Nat.le_refl k) (by omega),(ih (k + 1) _ (by omega) (by omega) h1 hN).2 ⟨fun j a b=>R.pos j (by omega) b,fun j a b=>R.lt j (by omega) b,fun l i a b c=>R.sz l i (by omega) b c,fun l a b=>R.lv l (by omega) b,R.dt⟩⟩
def AWa (M:List (List Int)):Prop:=(1<=M.length/\M.length<=8)/\(∀ z∈M,z.length=M.length)/\Ahh M.length (ent M)
theorem AQr (M:List (List Int)):isRed M=true↔AWa M:=by
 unfold isRed;rw [Bool.and_eq_true];constructor
 ·rintro ⟨h1,h2⟩;have S:=AYx h1;have R:=(Afg (A:=ent M) (n:=M.length) M.length 0 (ent M) (by omega) S.1.1 (by simp [det]) fun i j _ _=>by rw [ANg,Nat.zero_add,Nat.zero_add]).1 (by simpa [det] using h2);refine ⟨S.1,S.2.1,fun i j hi hj=>(S.2.2 i j hi hj).1,fun k hk=>?_,fun r l h3 h4=>R.sz l r (Nat.zero_le _) h3 h4,fun l hl=>R.lv l (Nat.zero_le _) hl,R.dt⟩;rcases Nat.eq_zero_or_pos k with h | h
  ·subst h;simp [det]
  ·exact R.pos k h hk
 ·rintro ⟨h1,h2,R⟩;refine ⟨(AF7 ⟨h1,h2,fun i j hi hj=>⟨R.sym i j hi hj,?_,?_⟩⟩).symm,?_⟩
  ·have:=Acy h1.2 R hi hj;omega
  ·have:=Acy h1.2 R hi hj;omega
  ·have h3:=(Afg (A:=ent M) (n:=M.length) M.length 0 (ent M) (by omega) h1.1 (by simp [det]) fun i j _ _=>by rw [ANg,Nat.zero_add,Nat.zero_add]).2 ⟨fun j _ hj=>R.pos j hj,fun j _ hj=>by have:=Aff h1.2 R (k:=j) (by omega);omega,fun l i _ a b=>R.sz i l a b,fun l _ hl=>R.lv l hl,R.dt⟩;simpa [det] using h3
end Go.Proofs.YtiegjkmfpcgjjaaGreatDoor
namespace Go.Proofs.YtiegjkmfpcgjjaaGreatDoor
open Go Go.QF
open Go.ChangeShapes Go.WideShapes Go.ChangeAt Go.RowKit
set_option maxRecDepth 100000
theorem Alf:Tryz.prog.cellsOf 26=4:=by kernel_rfl
theorem Ao8 {H:Type} {enc:TypeId × Value->H} {W:World} {r:Reach} {b0:Nat} {v:Value} {d:DataW H} {p:List MemPlace} (hv:Value.okWide Tryz.prog W r b0 26 v) (h:DataW.Trod enc Tryz.prog W 0 (fun _=>true) true 26 v d p):
    ∃ (g k:Int) (lv bv:Value) (Z Y:List Int),v= .agg #[.int .u8 g,.int .u8 k,lv,bv]/\SlC (cI .i8) W.heap lv Z/\SlC (cI .i8) W.heap bv Y/\(0<=g/\g < 256)/\(0<=k/\k < 256)/\(∀ z∈Z,-128<=z/\z<=127)/\ ∀ z∈Y,-128<=z/\z<=127:=by
  obtain ⟨cs,rfl,hsz⟩:=okWide_struct Tryz.underlying26 hv;rw [Alf] at hsz;obtain ⟨l⟩:=cs
  match l,hsz with
  | [c0,c1,c2,c3],_=>
    obtain ⟨fuel,hf⟩:=h;obtain ⟨y0,y1,y2,y3,n,_,_,h0,h1,h2,h3⟩:=Joins.trod_struct4 Tryz.underlying26 hf;simp [Value.cells,Amr,Ams] at h0 h1 h2 h3;obtain ⟨x0,e0,_,w0⟩:=DataW.trod_int Tryz.underlying5 h0;obtain ⟨x1,e1,_,w1⟩:=DataW.trod_int Tryz.underlying5 h1;simp at e0 e1;subst e0;subst e1;have b0:=wf_u8 w0;have b1:=wf_u8 w1;obtain ⟨Z,HZ,hZ⟩:=Amt h2;obtain ⟨Y,HY,hY⟩:=Amt h3;exact ⟨x0,x1,c2,c3,Z,Y,rfl,Ag6 HZ,Ag6 HY,by omega,by omega,hZ,hY⟩
end Go.Proofs.YtiegjkmfpcgjjaaGreatDoor
namespace Go.QF
open Go
theorem AXl:∀ u∈([]:List Value),isOne u=true:=fun u h=>by cases h
theorem ANp {v:Value} {l:List Value} (h:isOne v=true) (H:∀ u∈l,isOne u=true):∀ u∈v :: l,isOne u=true:=fun u hu=>(List.mem_cons.1 hu).elim (fun e=>e ▸ h) (H u)
section
variable {P:Program} {B:ABh->Prop} {st:Bool} {ops:Array Oper} {rest:List Oper} {e:Env} {h:ABh} {K:Env->ABh->Prop} {d:Nat} {ty:TypeId} {pos:String} {af:Array Edge}
end
end Go.QF
namespace Go.QF
open Go
theorem Ao9 (l:List Value):(l.map fun r=>[r]).flatten=l:=by
 induction l with
 | nil=>rfl
 | cons a L ih=>simp [ih]
def AWu {α:Type} (c:Cod α) (el:Nat) (h:ABh):List (List Nat)->List Value->List (List α)->Prop
  | [],[],[]=>True
  | G :: Gs,r :: rs,L :: M=>OwC c el h G r L/\AWu c el h Gs rs M
  | _,_,_=>False
theorem AWu.len {α:Type} {c:Cod α} {el:Nat} {h:ABh}:∀ {Gs:List (List Nat)} {rs:List Value} {M:List (List α)},AWu c el h Gs rs M->rs.length=M.length/\Gs.length=M.length
  | [],[],[],_=>⟨rfl,rfl⟩
  | G :: Gs,r :: rs,L :: M,H=>by have:=AWu.len H.2;simp [this.1,this.2]
theorem AWu.get {α:Type} {c:Cod α} {el:Nat} {h:ABh}:∀ {Gs:List (List Nat)} {rs:List Value} {M:List (List α)},AWu c el h Gs rs M-> ∀ (i:Nat) (G:List Nat) (r:Value) (L:List α),Gs[i]? =some G->rs[i]? =some r->M[i]? =some L->OwC c el h G r L
  | [],[],[],_,i,G,r,L,h1,_,_=>by simp at h1
  | G0 :: Gs,r0 :: rs,L0 :: M,H,0,G,r,L,h1,h2,h3=>by simp at h1 h2 h3;subst h1;subst h2;subst h3;exact H.1
  | G0 :: Gs,r0 :: rs,L0 :: M,H,i + 1,G,r,L,h1,h2,h3=>AWu.get H.2 i G r L (by simpa using h1) (by simpa using h2) (by simpa using h3)
section
variable {P:Program} {B:ABh->Prop} {st:Bool} {ops:Array Oper} {rest:List Oper} {e:Env} {h:ABh} {K:Env->ABh->Prop} {d:Nat} {ty:TypeId} {pos:String} {af:Array Edge}
theorem ATi {α:Type} {c:Cod α} (Gs:List (List Nat)) (rs:List Value) (M:List (List α)) {t er el bytes n:Nat} {z:Value} {parts:List (Nat × Operand)} (hT:SlT P t er 1) (hz:ZeT P er z bytes) (h1:isOne z=true) (hel:Nat.beq er 147=false) (hb:B h) (hBE:∀ h',Ext h h'->B h') (hn:rs.length=n) (Aa:Nat.ble n 16777216=true) (hpos:Nat.ble 1 n=true) (hp:(parts.map fun (i,x)=>(i,e.ev x))=partsOf 0 rs) (hone:∀ u∈rs,isOne u=true) (hr:AWu c el h Gs rs M) (hnd:Gs.flatten.Nodup) (H:∀ b v h',AFe c er el h' (b :: Gs.flatten) Gs rs v M->Ext h h'->(∀ z∈b :: Gs.flatten,z∈Gs.flatten∨h.size<=z)->RL P B st ops rest (e.set d v) h' K):RL P B st ops (⟨some d,.buildSlice t n parts.toArray,ty,pos,af,none⟩ :: rest) e h K:=by
 have Aa:=Nat.le_of_ble_eq_true Aa;have E:Ext h (h.push (.cells rs.toArray er (0,0))):=AD9 _ _;have HO:AI7 (h.push (.cells rs.toArray er (0,0))) er 1 h.size (.slice (some ⟨h.size,0,none⟩) n n) (rs.map fun r=>[r]):=⟨n,rs.toArray,by rw [List.length_map,hn],by simp,by simp [hn],by unfold maxLen;omega,by simp [hn],fun r hr=>by obtain ⟨a,_,rfl⟩:=List.mem_map.1 hr;rfl,by rw [Ao9];simp⟩
 have hlt:∀ z∈Gs.flatten,z < h.size:=fun z hz=>by
   obtain ⟨G,hG,hzG⟩:=List.mem_flatten.1 hz
   obtain ⟨i,hi⟩:=List.getElem?_of_mem hG
   have hi':=(List.getElem?_eq_some_iff.1 hi).1
   have hl:=hr.len
   exact (hr.get i G (rs[i]'(by omega)) (M[i]'(by omega)) hi (List.getElem?_eq_getElem _) (List.getElem?_eq_getElem _)).lt z hzG
 refine Aqe rs hT hz h1 hb hn Aa (Nat.le_of_ble_eq_true hpos) hp hone ⟨hBE _ E,H h.size _ _ (.inr ⟨h.size,rfl,?_,HO,hel,hr.len.1,hr.len.2,fun i G r L a1 a2 a3=>(hr.get i G r L a1 a2 a3).ext E⟩) E fun z hz=>?_⟩
 ·exact List.nodup_cons.2 ⟨fun hm=>by have:=hlt _ hm;omega,hnd⟩
 ·rcases List.mem_cons.1 hz with rfl | h2
  ·exact .inr (Nat.le_refl _)
  ·exact .inl h2
end
end Go.QF
namespace Go.Proofs.YtiegjkmfpcgjjaaGreatDoor
open Go Go.QF
def aT (F:List Nat):Asr:=⟨F,fun h=> ∀ b∈F,AP0 h b,fun {G h h'} U d H b hb=>by
  obtain ⟨o,h1,h2⟩:=H b hb;exact ⟨o,(U.1.2 b (Array.getElem?_eq_some_iff.1 h1).1 (d b hb)).trans h1,h2⟩⟩
namespace Kst
variable {h0 h h':ABh} {l l':List Asr}
theorem a0 (k:Kst h0 h l):Kst h0 h (aT [] :: l):=k.n (Ext.refl h) [aT []] (by exact ⟨by simp [fps,aT],fun b hb=>by simp [fps,aT] at hb⟩) ⟨fun b hb=>by simp at hb,trivial⟩
theorem grab {α:Type} {c:Cod α} {F R:List Nat} {j el:Nat} {w:Value} {y:List α} (k:Kst h0 h (aT F :: l)) (e:Rep j l (aO c el R w y) (aC True) l'):Kst h0 h (aT (F ++ R) :: l'):=by
 obtain ⟨e,rfl⟩:=e;have HR:OwC c el h R w y:=AMl k.p.2 e;have e1:(fps (aT F :: l))[j + 1]? =some R:=(ALv e:(fps l)[j]? =some R);have e0:(fps (aT F :: l))[0]? =some F:=rfl;have hd:=k.s.dj 0 (j + 1) e0 e1 (by omega);have hF:F.Nodup:=(List.nodup_append.1 k.s.1).1;have:=k.s.put2 0 (j + 1) (F':=F ++ R) e0 e1 (by omega) (List.nodup_append.2 ⟨hF,HR.nodup,fun a ha b hb hab=>hd a ha (hab ▸ hb)⟩) (Nat.le_refl _) k.x.1 (fun x hx=>(List.mem_append.1 hx).elim (fun h=>(k.s.lo 0 e0 x h).2) fun h=>HR.lt x h) (fun x hx=>(List.mem_append.1 hx).elim .inl fun h=> .inr (.inl h));refine ⟨k.x,?_,fun b hb=>(List.mem_append.1 hb).elim (k.p.1 b) (HR.notD b),Aal k.p.2 j⟩
 have e2:fps (aT (F ++ R) :: l.set j (aC True))=((fps (aT F :: l)).set (j + 1) []).set 0 (F ++ R):=by
   show (F ++ R) :: fps (l.set j (aC True))=_
   rw [AUz];rfl
 rw [e2];exact this
theorem ndT {F:List Nat} (k:Kst h0 h (aT F :: l)):F.Nodup:=(List.nodup_append.1 k.s.1).1
theorem lit {α:Type} {c:Cod α} {er el:Nat} {F F':List Nat} {Gs:List (List Nat)} {rs:List Value} {v:Value} {x:List (List α)} (k:Kst h0 h (aT F :: l)) (E:Ext h h') (V:AFe c er el h' F' Gs rs v x) (hs:∀ z∈F',z∈F∨h.size<=z):Kst h0 h' (aO2 c er el F' Gs rs v x :: l):=
  k.u p0 (E.upT.mono (fun x hx=>by simp at hx) fun x hx _=>k.p.1 x hx) V V.nodup V.lt hs
end Kst
end Go.Proofs.YtiegjkmfpcgjjaaGreatDoor
namespace Go.QF
open Go
def FR (r:Option Nat):Fence:= { Fence.wide with round:=r }
theorem Ajm {r:Option Nat} {m:Nat} {P:Program} {f:FuncId} {args:Array Value} {w:World} {R:Ending->World->Prop} (h:Calls P f args w R):CallsIn (FR r) m P f args w R:=
  (callsIn_wide (n:=m)).2 h
structure AL3 (D:List Deferred) (n:Nat) (e:Env) (a:Act):Prop where
  r:Rep n e { a with defers:=[] }
  d:a.defers=D
theorem AL3.eval {D:List Deferred} {n:Nat} {e:Env} {a:Act} (r:AL3 D n e a):a.eval=e.ev:=r.r.eval
theorem AL3.put {D:List Deferred} {n:Nat} {e:Env} {a:Act} (r:AL3 D n e a) (d:Option Nat) (v:Value) (hd:∀ x,d=some x->x < n):AL3 D n (e.put d v) (a.put d v):=by
 have h1:=r.r.put d v hd;have h2:=r.d
 cases d with
 | none=>exact ⟨h1,h2⟩
 | some d=>exact ⟨h1,h2⟩
theorem AL3.yields {D:List Deferred} {n:Nat} {e:Env} {a:Act} (r:AL3 D n e a) (ops:Array Oper):yielded ops a.tmps=AI6 ops e:=r.r.yields ops
theorem AL3.of {n:Nat} {e:Env} {a:Act} (r:Rep n e a):AL3 [] n e a:=⟨⟨r.size,rfl,r.get⟩,r.defers⟩
theorem AL3.rep {n:Nat} {e:Env} {a:Act} (r:AL3 [] n e a):Rep n e a:=⟨r.r.size,r.d,r.r.get⟩
def APu (o:Oper):Bool:=match o.op with | .defer _=>false | _=>true
theorem ATy {P:Program} {B:ABh->Prop} {st:Bool} {ops:Array Oper} {Q:Exit->Act->World->Prop} {i:Nat} {o:Oper} {n m:Nat} {ro:Option Nat} {D:List Deferred} {e:Env} {a:Act} {w:World} {K:Env->ABh->Prop} {K':Act->World->Prop} (hi:ops[i]? =some o) (hnd:APu o=true) (hd:∀ x,o.dst=some x->x < n) (r:AL3 D n e a) (H:GOp P B st ops o e w.heap K) (hK:∀ e' a' w',AL3 D n e' a'->Same w w'->K e' w'.heap->K' a' w'):wpOpIn (FR ro) m P ops Q i K' a w:=by
 unfold wpOpIn;simp only [hi];unfold GOp at H;rw [r.yields ops];split
 ·rename_i hw;rw [if_pos hw] at H;unfold Oper.wpIn;refine ⟨fun _ _=>trivial,?_⟩;rw [Oper.semAt_eq _ _ _ (fun c hc=>by simp [APu,hc] at hnd),r.eval]
  have eff:∀ {K:Value->ABh->Prop},ANs P e.ev o w.heap K->(∀ v h',K v h'-> ∀ a' w',AL3 D n (e.put o.dst v) a'->Same w w'->w'.heap=h'->K' a' w')->o.uponIn (FR ro) m P a K' Q ((execOp e.ev o).run P w):=by
    intro K H hK
    have H':=H w rfl
    generalize (execOp e.ev o).run P w=res at H'
    cases res with
    | ok nx w'=>
      cases nx <;> simp only [ANd] at H' <;> simp only [Oper.uponIn]
      case value v=>exact hK _ _ H'.2 _ _ (r.put _ _ hd) H'.1 rfl
      case skip=>exact hK _ _ H'.2 _ _ (r.put _ _ hd) H'.1 rfl
      case enter f args=>
        refine ⟨fun hh=>by simp [FR,Fence.wide] at hh,(Ajm H'.2).mono fun en w'' ⟨v,he,hs,hk⟩=>?_⟩
        subst he
        exact hK _ _ hk _ _ (r.put _ _ hd) (H'.1.trans hs) rfl
    | halt x w'=>exact H'.elim
  unfold SOp at H;split at H
  ·obtain ⟨v,hv,hk⟩:=H;rw [hv w];exact hK _ _ _ (r.put _ _ hd) (.refl w) hk
  ·obtain ⟨v,hv,hk⟩:=H;rw [hv w rfl];exact hK _ _ _ (r.put _ _ hd) (.refl w) hk
  ·obtain ⟨v,hb,hv,hk⟩:=H;rw [hv w hb];exact hK _ _ _ (r.put _ _ hd) (.refl w) hk
  ·exact eff H.2 fun v h' hk a' w' r' s' hh=>hK _ _ _ r' s' (by rw [hh];exact hk.2)
  ·exact eff H fun v h' hk a' w' r' s' hh=>hK _ _ _ r' s' (by rw [hh];exact hk)
 ·rename_i hw;rw [if_neg hw] at H;exact ⟨fun _ _=>trivial,hK _ _ _ (r.put _ _ hd) (.refl w) H⟩
section
variable {P:Program} {ops:Array Oper} {m:Nat} {ro:Option Nat} {D:List Deferred}
theorem AZ6 {B:ABh->Prop} {n:Nat} {Q:Exit->Act->World->Prop} (hok:AUj n ops true=true) (hnd:∀ (j:Nat) (o:Oper),ops[j]? =some o->APu o=true):∀ (fuel:Nat) (R:List Nat) (listed:Array Bool) (e:Env) (a:Act) (w:World) (K:Env->ABh->Prop),
    R.length=fuel->List.Pairwise (· < ·) R->listed.size=ops.size->(∀ j,j∈R↔(j < ops.size/\listed.getD j true=false))->
    (∀ j oj,listed.getD j false=true->ops[j]? =some oj-> ∀ ed∈oj.after,Region.binds .any ed=true->listed.getD ed.on false=true)->
    AL3 D n e a->LI P B (ALw ops true) ops R e w.heap K->(∀ e' a' w',AL3 D n e' a'->Same w w'->K e' w'.heap->Q .normal a' w')->
    wpAnyIn (FR ro) m P .any ops Q fuel listed a w:=by
 intro fuel
 induction fuel with
 | zero=>
   intro R listed e a w K hlen _ _ hmem _ r H hK
   obtain rfl:R=[]:=List.length_eq_zero_iff.1 hlen
   refine ⟨?_,hK _ _ _ r (.refl w) H⟩
   refine List.eq_nil_iff_forall_not_mem.2 fun j hj=>?_
   obtain ⟨hjl,oj,hoj,_⟩:=mem_ready.1 hj
   have:=(hmem j).2 ⟨(Array.getElem?_eq_some_iff.1 hoj).1,hjl⟩
   cases this
 | succ fuel ih=>
   intro R listed e a w K hlen hpw hsz hmem hcl r H hK
   constructor
   · intro hr
     exfalso
     cases R with
     | nil=>simp at hlen
     | cons j R=>
       obtain ⟨hjs,hjl⟩:=(hmem j).1 (List.mem_cons_self ..)
       obtain ⟨oj,hoj⟩:∃ oj,ops[j]? =some oj:=⟨ops[j],Array.getElem?_eq_getElem hjs⟩
       have:j∈Region.ready .any ops listed:=mem_ready.2 ⟨hjl,oj,hoj,fun ed hed hbd=>by
         obtain ⟨_,_,hd⟩:=AKz hok hoj
         have hlt:=(hd rfl).1 ed hed hbd
         cases hl:listed.getD ed.on false with
         | true=>rfl
         | false=>
           exfalso
           have hs:ed.on < ops.size:=Nat.lt_trans hlt hjs
           have hm:ed.on∈j :: R:=(hmem ed.on).2 ⟨hs,by
             have h':ed.on < listed.size:=by omega
             simp [h'] at hl ⊢;exact hl⟩
           rcases List.mem_cons.1 hm with he | he
           · omega
           · have:=(List.pairwise_cons.1 hpw).1 _ he
             omega⟩
       rw [hr] at this
       cases this
   · intro i hi
     obtain ⟨hil,oi,hoi,hall⟩:=mem_ready.1 hi
     have his:i < ops.size:=(Array.getElem?_eq_some_iff.1 hoi).1
     have hiR:i∈R:=(hmem i).2 ⟨his,hil⟩
     obtain ⟨R1,R2,rfl⟩:=List.append_of_mem hiR
     obtain ⟨hdi,hsi,hdri⟩:=AKz hok hoi
     have hpw':=List.pairwise_append.1 hpw
     have hb:LI P B (ALw ops true) ops (i :: (R1 ++ R2)) e w.heap K:=by
       refine LI.bubble hoi hsi R1 (fun k hk=>?_) H
       have hki:k < i:=hpw'.2.2 k hk i (List.mem_cons_self ..)
       have hks:k < ops.size:=Nat.lt_trans hki his
       obtain ⟨ok,hok'⟩:∃ ok,ops[k]? =some ok:=⟨ops[k],Array.getElem?_eq_getElem hks⟩
       refine ⟨ok,hok',(AKz hok hok').2.1,?_⟩
       rcases (hdri rfl).2 k ok hki hok' with ⟨nre,hre⟩ | h
       · exfalso
         have h1:listed.getD k false=true:=AIw (L:=fun j=>listed.getD j false=true) hcl nre k i oi hoi hall hre
         have h2:=((hmem k).1 (List.mem_append_left _ hk)).2
         have hks':k < listed.size:=by omega
         simp [hks'] at h1 h2
         rw [h1] at h2;cases h2
       · exact h
     simp only [LI,hoi] at hb
     refine ATy hoi (hnd i oi hoi) hdi r hb fun e' a' w' r' hs hk=>?_
     have his':i < listed.size:=by omega
     refine ih (R1 ++ R2) _ e' a' w' K ?_ ?_ ?_ ?_ ?_ r' hk (fun e2 a2 w2 r2 s2 k2=>hK _ _ _ r2 (hs.trans s2) k2)
     · simp at hlen ⊢;omega
     · refine List.pairwise_append.2 ⟨hpw'.1,(List.pairwise_cons.1 hpw'.2.1).2,fun x hx y hy=>hpw'.2.2 x hx y (List.mem_cons_of_mem _ hy)⟩
     · simp [hsz]
     · intro j
       have hm:=hmem j
       constructor
       · intro hj
         have hj':j∈R1 ++ i :: R2:=by
           rcases List.mem_append.1 hj with h | h
           · exact List.mem_append_left _ h
           · exact List.mem_append_right _ (List.mem_cons_of_mem _ h)
         obtain ⟨h1,h2⟩:=hm.1 hj'
         have hne:i≠j:=by
           intro he
           subst he
           rcases List.mem_append.1 hj with h | h
           · have:=hpw'.2.2 i h i (List.mem_cons_self ..);omega
           · have:=(List.pairwise_cons.1 hpw'.2.1).1 i h;omega
         exact ⟨h1,by rw [getD_set_ne true hne];exact h2⟩
       · rintro ⟨h1,h2⟩
         have hne:i≠j:=by
           intro he
           subst he
           simp [his'] at h2
         rw [getD_set_ne true hne] at h2
         have:=hm.2 ⟨h1,h2⟩
         rcases List.mem_append.1 this with h | h
         · exact List.mem_append_left _ h
         · rcases List.mem_cons.1 h with h | h
           · exact absurd h.symm hne
           · exact List.mem_append_right _ h
     · intro j oj hj hoj ed hed hbd
       by_cases hij:i=j
       · subst hij
         rw [hoi] at hoj
         injection hoj with hoj
         subst hoj
         exact getD_set_true (hall ed hed hbd)
       · rw [getD_set_ne false hij] at hj
         exact getD_set_true (hcl j oj hj hoj ed hed hbd)
theorem ASv {B:ABh->Prop} {n:Nat} {Q:Exit->Act->World->Prop} (rest:List Nat):∀ (l:List Oper) (k:Nat) (e:Env) (a:Act) (w:World) (K:Env->ABh->Prop),
    (∀ (j:Nat) (o:Oper),l[j]? =some o->ops[k + j]? =some o/\APu o=true/\ ∀ x,o.dst=some x->x < n)->AL3 D n e a->RL P B false ops l e w.heap K->
    (∀ e' a' w',AL3 D n e' a'->Same w w'->K e' w'.heap->wpOpsIn (FR ro) m P ops Q rest a' w')->wpOpsIn (FR ro) m P ops Q (List.range' k l.length ++ rest) a w:=by
  intro l;induction l with
  | nil=>intro k e a w K _ r H hK;exact hK _ _ _ r (.refl w) H
  | cons o l ih=>
    intro k e a w K hl r H hK;rw [List.length_cons,List.range'_succ,List.cons_append,wpOpsIn_cons];obtain ⟨h1,h2,h3⟩:=hl 0 o rfl;refine ATy h1 h2 h3 r H fun e' a' w' r' hs hk=>?_;exact ih (k + 1) e' a' w' K (fun j o hj=>by have:=hl (j + 1) o hj;rwa [<- Nat.add_assoc,Nat.add_right_comm] at this) r' hk fun e2 a2 w2 r2 s2 k2=>hK _ _ _ r2 (hs.trans s2) k2
theorem AU9 {B:ABh->Prop} {n:Nat} (hmx:P.follows .mixedOrders=true) {id:Nat} {draw:Bool} {Q:Exit->Act->World->Prop} {e:Env} {a:Act} {w:World} {K:Env->ABh->Prop} (hok:AUj n ops draw=true) (hnd:∀ (j:Nat) (o:Oper),ops[j]? =some o->APu o=true) (r:AL3 D n e a) (H:RL P B (ALw ops draw) ops ops.toList e w.heap K) (hK:∀ e' a' w',AL3 D n e' a'->Same w w'->K e' w'.heap->Q .normal a' w'):(Code.region id ops draw).wpIn (FR ro) m P Q a w:=by
 cases draw with
 | true=>
   have HL:LI P B (ALw ops true) ops (List.range ops.size) e w.heap K:=by
     rw [List.range_eq_range',<- Array.length_toList]
     exact As7 ops.toList 0 (by simp) e _ H
   refine wpIn_region_any hmx (AZ6 hok hnd ops.size (List.range ops.size) (Array.replicate ops.size false) e a { w with drawn:=w.drawn + 1 } K (by simp)
       List.pairwise_lt_range (by simp) (fun j=>by
         simp only [List.mem_range]
         constructor
         · intro h;exact ⟨h,by simp [h]⟩
         · exact fun h=>h.1)
       (fun j oj hj _=>by
         exfalso
         rcases Nat.lt_or_ge j ops.size with h' | h'
         · simp [h'] at hj
         · simp [h'] at hj) r HL
       (fun e' a' w' r' hs hk=>hK e' a' w' r' ⟨hs.os,hs.tape,hs.output⟩ hk))
 | false=>
   refine wpIn_region ?_
   have:=ASv (ro:=ro) (m:=m) (Q:=Q) (D:=D) (n:=n) [] ops.toList 0 e a w K (fun j o hj=>by
     have hj':ops[j]? =some o:=by simpa using hj
     exact ⟨by simpa using hj',hnd j o hj',(AKz hok hj').1⟩) r H (fun e' a' w' r' s k=>hK _ _ _ r' s k)
   rw [List.append_nil,Array.length_toList,<- List.range_eq_range'] at this
   exact this
end
def WI (P:Program):Code->(Exit->Env->ABh->Prop)->Env->ABh->Prop
  | .skip,Q,e,h=>Q .normal e h
  | .region _ ops draw,Q,e,h=> ∃ B,RL P B (ALw ops draw) ops ops.toList e h (Q .normal)
  | .seq a b,Q,e,h=>WI P a (AJ7 (fun e h=>WI P b Q e h) Q) e h
  | .cond c x y,Q,e,h=> ∃ b,e.ev c= .bool b/\(b=true->WI P x Q e h)/\(b=false->WI P y Q e h)
  | .block id c,Q,e,h=>WI P c (AKj id Q) e h
  | .exit id,Q,e,h=>Q (.exit id) e h
  | .ret,Q,e,h=>Q .ret e h
  | .label _,Q,e,h=>Q .normal e h
  | _,_,_,_=>False
def okI (n:Nat):Code->Bool
  | .region _ ops draw=>AUj n ops draw && ops.toList.all APu
  | .seq a b=>okI n a && okI n b
  | .cond _ a b=>okI n a && okI n b
  | .block _ c=>okI n c
  | .skip | .exit _ | .ret | .label _=>true
  | _=>false
theorem WI.sound {P:Program} (hmx:P.follows .mixedOrders=true) {n m:Nat} {ro:Option Nat} {D:List Deferred} {c:Code}:∀ {Q:Exit->Env->ABh->Prop} {Q':Exit->Act->World->Prop} {e:Env} {a:Act} {w:World},okI n c=true->AL3 D n e a->WI P c Q e w.heap->
    (∀ x e' a' w',AL3 D n e' a'->Same w w'->Q x e' w'.heap->Q' x a' w')->c.wpIn (FR ro) m P Q' a w:=by
 induction c with
 | skip=>intro Q Q' e a w _ r H hQ;exact wpIn_skip (hQ _ _ _ _ r (.refl w) H)
 | region id ops draw=>
   intro Q Q' e a w hok r H hQ
   simp only [okI,Bool.and_eq_true] at hok
   obtain ⟨B,H⟩:=H
   exact AU9 hmx hok.1 (fun j o hj=>List.all_eq_true.1 hok.2 o (List.mem_of_getElem? (by simpa using hj))) r H fun e' a' w' r' s k=>hQ _ _ _ _ r' s k
 | seq x y ihx ihy=>
   intro Q Q' e a w hok r H hQ
   simp only [okI,Bool.and_eq_true] at hok
   refine wpIn_seq (ihx hok.1 r H fun ex e' a' w' r' s k=>?_)
   cases ex <;> first | exact hQ _ _ _ _ r' s k | exact ihy hok.2 r' k fun Ae e2 a2 w2 r2 s2 k2=>hQ _ _ _ _ r2 (s.trans s2) k2
 | cond c x y ihx ihy=>
   intro Q Q' e a w hok r H hQ
   simp only [okI,Bool.and_eq_true] at hok
   obtain ⟨b,hb,h1,h2⟩:=H
   refine wpIn_cond_split (t:=b) (by rw [r.eval];exact hb) (fun hh=>ihx hok.1 r (h1 hh) hQ) (fun hh=>ihy hok.2 r (h2 hh) hQ)
 | block id c ih=>
   intro Q Q' e a w hok r H hQ
   refine wpIn_block (ih hok r H fun ex e' a' w' r' s k=>?_)
   cases ex <;> first | exact hQ _ _ _ _ r' s k | skip
   rename_i id'
   by_cases hid:id'=id
   · simp only [AKj,Exit.inBlock,hid,if_true] at k ⊢;exact hQ _ _ _ _ r' s k
   · simp only [AKj,Exit.inBlock,hid,if_false] at k ⊢;exact hQ _ _ _ _ r' s k
 | exit id=>intro Q Q' e a w _ r H hQ;exact wpIn_exit (hQ _ _ _ _ r (.refl w) H)
 | ret=>intro Q Q' e a w _ r H hQ;exact wpIn_ret (hQ _ _ _ _ r (.refl w) H)
 | label=>intro Q Q' e a w _ r H hQ;exact wpIn_label (hQ _ _ _ _ r (.refl w) H)
 | loop=>intro Q Q' e a w _ _ H;exact H.elim
 | rangeFunc=>intro Q Q' e a w _ _ H;exact H.elim
 | scope=>intro Q Q' e a w _ _ H;exact H.elim
 | goto=>intro Q Q' e a w _ _ H;exact H.elim
 | refuse=>intro Q Q' e a w _ _ H;exact H.elim
section
variable {P:Program} {Q:Exit->Env->ABh->Prop} {e:Env} {h:ABh}
theorem Avm (H:Q .normal e h):WI P .skip Q e h:=H
theorem Aww (H:Q .ret e h):WI P .ret Q e h:=H
theorem Ats {a b:Code} (H:WI P a (AJ7 (fun e h=>WI P b Q e h) Q) e h):WI P (.seq a b) Q e h:=H
theorem Asg {id:Nat} {c:Code} (H:WI P c (AKj id Q) e h):WI P (.block id c) Q e h:=H
theorem Apa {id:Nat} {l:List Oper} (H:RL P (fun _=>True) false l.toArray l e h (Q .normal)):WI P (.region id l.toArray false) Q e h:=⟨fun _=>True,H⟩
theorem Ash {id:Nat} {l:List Oper} (B:ABh->Prop) (hst:(ALw l.toArray true,AXq l.toArray true)=(true,true)) (H:RL P B true l.toArray l e h (Q .normal)):WI P (.region id l.toArray true) Q e h:=
  ⟨B,by rw [(Prod.mk.inj hst).1];exact H⟩
end
def Aa7 (K:Env->ABh->Prop):Exit->Env->ABh->Prop
  | .normal=>K
  | _=>fun _ _=>False
def ARs (P:Program) (l:Nat) (args:List Value) (h:ABh) (K:Value->ABh->Prop):Prop:=
  ∀ w:World,w.heap=h-> ∃ f tmps assign body,(Instr.yield l args.toArray).run P w= .ok (.round l f tmps assign body) w/\RoundIn (FR none) 0 P l f tmps assign body w fun en w'=> ∃ v,en= .returned v/\Same w w'/\K v w'.heap
def AMc (f:FuncId) (tmps:Array Value) (p:Tmp) (assign body:Code) (r:Nat):Loop:= { state:= .ready,pending:=none,fn:=f,tmps,params:= #[p],assign,body,defers:=r }
def Ajn (f:FuncId) (tmps:Array Value) (p:Tmp) (assign body:Code) (r:Nat):Loop:= { state:= .busy,pending:=none,fn:=f,tmps,params:= #[p],assign,body,defers:=r }
theorem AVa (w:World) (l:Nat) (o:Obj):Same w (w.putObj l o):=⟨rfl,rfl,rfl⟩
theorem Alg {P:Program} (hmx:P.follows .mixedOrders=true) {l n r f:Nat} {tmps:Array Value} {p:Tmp} {assign body:Code} {v:Value} {e0:Env} {h:ABh} {K:Value->ABh->Prop} (hl:h[l]? =some (.loop (AMc f tmps p assign body r))) (hn:tmps.size=n) (he:∀ t,tmps.getD t undef=e0 t) (hp:p < n) (Ag:okI n assign=true) (Ah:okI n body=true) (H:WI P assign (Aa7 fun e1 h1=>h1[l]? =some (.loop (AMc f tmps p assign body r))/\WI P body (Aa7 fun _ h2=>h2[l]? =some (.loop (Ajn f tmps p assign body r))/\K (.bool true) (h2.setIfInBounds l (.loop (AMc f tmps p assign body r)))) e1
      (h1.setIfInBounds l (.loop (Ajn f tmps p assign body r)))) (e0.set p v) h):ARs P l [v] h K:=by
 intro w hw;subst hw;refine ⟨_,_,_,_,run_yield hl rfl,roundIn_of_wpIn trivial ?_⟩;have hrep:Rep n e0 { tmps:=tmps,defers:=[] } :=⟨hn,rfl,he⟩;have Ai:AL3 [] n (e0.set p v) { tmps:=tmps.setIfInBounds p v,defers:=[] } :=AL3.of (hrep.put (some p) v fun x hx=>by cases hx;exact hp);have htm:(((AMc f tmps p assign body r).params.zip #[v]).foldl (fun tmps (x:Tmp × Value)=>match x with | (t,a)=>tmps.setIfInBounds t a) (AMc f tmps p assign body r).tmps)=tmps.setIfInBounds p v:=by simp [AMc]
 have hz:([v]:List Value).toArray= #[v]:=rfl;rw [hz,htm];refine WI.sound (ro:=some l) hmx Ag Ai H fun x e1 a1 w1 r1 s1 k1=>?_;cases x <;> first | exact k1.elim | skip
 obtain ⟨k1,k2⟩:=k1;refine ⟨_,run_beginRound k1 rfl,?_⟩;refine WI.sound (ro:=some l) hmx Ah r1 (w:=w1.putObj l (.loop (Ajn f tmps p assign body r))) k2 fun x e2 a2 w2 r2 s2 k2=>?_;cases x <;> first | exact k2.elim | skip
 obtain ⟨k2,k3⟩:=k2;exact ⟨_,_,run_endRound none k2,.bool true,rfl,(s1.trans (AVa _ _ _)).trans (s2.trans (AVa _ _ _)),k3⟩
theorem RL.frameT {P:Program} {B:ABh->Prop} {st:Bool} {ops:Array Oper} {l:List Oper} {e e0:Env} {h:ABh} {K:Env->ABh->Prop} {T:Nat->Prop} (hl:∀ o∈l,∀ t,o.dst=some t->T t) (he:∀ t,¬ T t->e t=e0 t) (H:RL P B st ops l e h K):RL P B st ops l e h fun e' h'=>K e' h'/\ ∀ t,¬ T t->e' t=e0 t:=
  (RL.frame0 H).mono fun e' h' hk=>⟨hk.1,fun t ht=>(hk.2 t fun o ho hd=>ht (hl o ho t hd)).trans (he t ht)⟩
theorem Asi {P:Program} {Q:Exit->Env->ABh->Prop} {e:Env} {h:ABh} {id l:Nat} {pre post:List Oper} {d:Tmp} {c:Operand} {xs:List Operand} {ts:Array TypeId} {ty:TypeId} {pos:String} {af:Array Edge}
    (hnd:((pre ++ post).all APu && (pre ++ ⟨some d,.call ⟨.value c,xs.toArray,ts⟩,ty,pos,af,none⟩ :: post).all AG7)=true)
    (H:RL P (fun _=>True) false (pre ++ ⟨some d,.call ⟨.value c,xs.toArray,ts⟩,ty,pos,af,none⟩ :: post).toArray pre e h fun e1 h1=>e1.ev c= .func (.yield l) #[] #[]/\ ∃ l1,xs.map e1.ev=l1/\ARs P l l1 h1 fun v h2=>
      RL P (fun _=>True) false (pre ++ ⟨some d,.call ⟨.value c,xs.toArray,ts⟩,ty,pos,af,none⟩ :: post).toArray post (e1.set d v) h2 (Q .normal)):
    W P (.region id (pre ++ ⟨some d,.call ⟨.value c,xs.toArray,ts⟩,ty,pos,af,none⟩ :: post).toArray false) Q e h:=by
  intro hmx n id' a w Q' hb r hw hQ;subst hw;rw [<- wpIn_wide (n:=1)];show (Code.region id' _ false).wpIn (FR none) 1 P Q' a w;generalize hops:(pre ++ (⟨some d,.call ⟨.value c,xs.toArray,ts⟩,ty,pos,af,none⟩:Oper) :: post)=ops at *
  have hat:∀ (j:Nat) (o:Oper),ops[j]? =some o->(∀ x,o.dst=some x->x < n):=fun j o hj=>(AL5 (ops:=ops.toArray) hb (j:=j) (by simpa using hj)).1
  have hsz:List.range ops.toArray.size=List.range' 0 pre.length ++ pre.length :: (List.range' (pre.length + 1) post.length ++ []):=by
    rw [List.range_eq_range',<- hops];simp only [List.size_toArray,List.length_append,List.length_cons,List.append_nil];rw [<- List.range'_append_1,Nat.zero_add,List.range'_succ]
  rw [Bool.and_eq_true] at hnd;have hnd:=List.all_eq_true.1 hnd.1;refine wpIn_region ?_;rw [hsz]
  refine ASv (D:=[]) (n:=n) (B:=fun _=>True) _ pre 0 e a w _ (fun j o hj=>?_) (AL3.of r) (RL.frameT (T:=fun t=> ∃ o∈ops,o.dst=some t) (e0:=e) (fun o ho t ht=>⟨o,by rw [<- hops];simp [ho],ht⟩) (fun _ _=>rfl) H) fun e1 a1 w1 r1 s1 k1=>?_
  · have h1:ops[j]? =some o:=by rw [<- hops,List.getElem?_append_left (List.getElem?_eq_some_iff.1 hj).1];exact hj
    exact ⟨by simpa using h1,hnd o (List.mem_append_left _ (List.mem_of_getElem? hj)),hat j o h1⟩
  obtain ⟨⟨hc,l1,hl1,HY⟩,hf1⟩:=k1;rw [wpOpsIn_cons];have hop:ops.toArray[pre.length]? =some ⟨some d,.call ⟨.value c,xs.toArray,ts⟩,ty,pos,af,none⟩:=by rw [<- hops];simp
  unfold wpOpIn;simp only [hop];rw [if_pos (by rfl)];refine ⟨fun _ _=>trivial,?_⟩;obtain ⟨f,tmps,assign,body,hy,HR⟩:=HY w1 rfl
  have hrun:(execOp a1.eval ⟨some d,.call ⟨.value c,xs.toArray,ts⟩,ty,pos,af,none⟩).run P w1= .ok (.round l f tmps assign body) w1:=by
    rw [r1.eval];simp only [execOp,resolve,List.map_toArray,hl1,hc,Deferred.ofValue,pure,bind,Sem.bind,invoke,Array.append_empty,Array.empty_append];exact hy
  show Oper.uponIn _ _ _ _ _ _ _ ((execOp a1.eval ⟨some d,.call ⟨.value c,xs.toArray,ts⟩,ty,pos,af,none⟩).run P w1);rw [hrun];refine ⟨fun _=>Nat.le_refl 1,HR.mono fun en w2 hen=>?_⟩;obtain ⟨v,rfl,s2,k2⟩:=hen;have hdn:d < n:=hat pre.length _ (by simpa using hop) d rfl;have r2:AL3 [] n (e1.set d v) (a1.put (some d) v):=r1.put (some d) v fun x hx=>by cases hx;exact hdn
  refine ASv (D:=[]) (n:=n) (B:=fun _=>True) [] post (pre.length + 1) (e1.set d v) _ w2 _ (fun j o hj=>?_) r2 (RL.frameT (T:=fun t=> ∃ o∈ops,o.dst=some t) (e0:=e) (fun o ho t ht=>⟨o,by rw [<- hops];simp [ho],ht⟩) (fun t ht=>?_) k2) fun e3 a3 w3 r3 s3 k3=>?_
  · have h1:ops[pre.length + 1 + j]? =some o:=by rw [<- hops,List.getElem?_append_right (by omega),show pre.length + 1 + j - pre.length=j + 1 from by omega];exact hj
    exact ⟨by simpa using h1,hnd o (List.mem_append_right _ (List.mem_of_getElem? hj)),hat _ o h1⟩
  · rw [Env.set_other _ _ (fun he=>ht ⟨_,by rw [<- hops];exact List.mem_append_right _ (List.mem_cons_self ..),by rw [he]⟩)];exact hf1 t ht
  · exact hQ e3 a3 w3 r3.rep ((s1.trans s2).trans s3) k3.1 fun t ht=>k3.2 t fun ⟨o,ho,hd⟩=>ht o (by simpa using ho) hd
def Ahk (P:Program) (g:Operand) (p:Tmp) (assign body:Code) (n:Nat) (K:Nat->Env->ABh->Prop) (e:Env) (h:ABh):Prop:=
  ∃ (f:FuncId) (cl:List Value),e.ev g= .func (.func f) #[] cl.toArray/\ ∀ (fn:FuncId) (tmps:Array Value),tmps.size=n->(∀ t,tmps.getD t undef=e t)-> ∀ (h1:ABh) (r b:Nat),Ext h h1->h.size<=r->h.size<=b->r < h1.size->b < h1.size->r≠b->
    h1[r]? =some (.deferred (some []))->h1[b]? =some (.loop (AMc fn tmps p assign body r))->
    ACd P f (.func (.yield b) #[] #[] :: cl).toArray h1 fun _ h'=>h'[b]? =some (.loop (AMc fn tmps p assign body r))/\K r e (h'.setIfInBounds b (.loop { AMc fn tmps p assign body r with state:= .exhausted }))
def Awx (P:Program) (rs:List ResultVar) (r:Nat) (K:Value->ABh->Prop):Exit->Env->ABh->Prop
  | .normal,e,h | .ret,e,h=>h[r]? =some (.deferred (some []))/\ ∃ v,AWy P rs e (h.setIfInBounds r (.deferred none)) v/\K v (h.setIfInBounds r (.deferred none))
  | _,_,_=>False
theorem Afh {P:Program} (hmx:P.follows .mixedOrders=true) {id:Nat} {g:Operand} {p:Tmp} {assign body:Code} {n:Nat} {K:Nat->Env->ABh->Prop} {e1:Env} {a1:Act} {w1:World} {Q':Exit->Act->World->Prop} (r1:Rep n e1 a1) (H:Ahk P g p assign body n K e1 w1.heap) (hQ:∀ r e' a' w',AL3 [{ target:= .collected r,args:= #[] }] n e' a'->Same w1 w'->K r e' w'.heap->Q' .normal a' w'):(Code.block id (.rangeFunc g #[p] assign body)).wpIn Fence.wide 1 P Q' a1 w1:=by
 obtain ⟨f2,cl,hg,HC⟩:=H;refine wpIn_block (wpIn_rangeFunc fun fid _=>?_);have Af:(w1.alloc (.deferred (some []))).heap.size=w1.heap.size + 1:=by show (w1.heap.push _).size=_;simp
 have hext:Ext w1.heap ((w1.alloc (.deferred (some []))).alloc (.loop (AMc fid a1.tmps p assign body w1.heap.size))).heap:=by
   show Ext w1.heap ((w1.heap.push _).push _)
   refine ⟨by simp;omega,fun k hk=>?_⟩
   rw [Array.getElem?_push_lt (by simp;omega)]
   simp [Array.getElem_push_lt hk,hk]
 have h1:((w1.alloc (.deferred (some []))).alloc (.loop (AMc fid a1.tmps p assign body w1.heap.size))).heap[w1.heap.size]? =some (.deferred (some [])):=by
   show ((w1.heap.push _).push _)[w1.heap.size]? =_
   rw [Array.getElem?_push_lt (by simp)];simp
 have h2:((w1.alloc (.deferred (some []))).alloc (.loop (AMc fid a1.tmps p assign body w1.heap.size))).heap[w1.heap.size + 1]? =some (.loop (AMc fid a1.tmps p assign body w1.heap.size)):=by
   have:=World.alloc_heap_new (w1.alloc (.deferred (some []))) (.loop (AMc fid a1.tmps p assign body w1.heap.size))
   rwa [Af] at this
 have hsz:((w1.alloc (.deferred (some []))).alloc (.loop (AMc fid a1.tmps p assign body w1.heap.size))).heap.size=w1.heap.size + 2:=by show ((w1.heap.push _).push _).size=_;simp
 obtain ⟨⟨Ai,Aj,Ak,Am⟩,Ao⟩:=HC fid a1.tmps r1.size r1.get _ w1.heap.size (w1.heap.size + 1) hext (Nat.le_refl _) (Nat.le_succ _) (by omega) (by omega) (by omega) h1 h2;have hcall:=AQ2 ⟨Ai,Aj,Ak,Am⟩ (.func (.yield (w1.heap.size + 1)) #[] #[] :: cl).toArray ((w1.alloc (.deferred (some []))).alloc (.loop (AMc fid a1.tmps p assign body w1.heap.size)));have heval:a1.eval g= .func (.func f2) #[] cl.toArray:=by rw [r1.eval];exact hg
 refine ⟨_,_,_,{ target:= .fn (.func f2) cl.toArray,args:= #[.func (.yield (w1.heap.size + 1)) #[] #[]] },(w1.alloc (.deferred (some []))).alloc (.loop (AMc fid a1.tmps p assign body w1.heap.size)),f2,(.func (.yield (w1.heap.size + 1)) #[] #[] :: cl).toArray,(w1.alloc (.deferred (some []))).alloc (.loop (AMc fid a1.tmps p assign body w1.heap.size)),run_enterLoop_outer fid a1.tmps #[p] assign body,?_,fun _ _=>trivial,?_,fun _=>Nat.le_refl 1,?_⟩
 ·simp only [resolve,heval,Deferred.ofValue,pure,bind,Sem.bind];rw [show (#[] ++ Array.map a1.eval #[Operand.const (Value.func (Fn.yield (w1.heap.size + 1)) #[] #[])]:Array Value)= #[.func (.yield (w1.heap.size + 1)) #[] #[]] by simp;rfl];rfl
 ·show (invoke (.fn (.func f2) cl.toArray) #[.func (.yield (w1.heap.size + 1)) #[] #[]]).run P _=_;simp only [invoke];have:(#[Value.func (.yield (w1.heap.size + 1)) #[] #[]] ++ cl.toArray)=(.func (.yield (w1.heap.size + 1)) #[] #[] :: cl).toArray:=by simp
  rw [this];exact hcall
 ·refine (Ajm (r:=none) (Ao _ rfl)).mono fun en w2 hen=>?_;obtain ⟨v,rfl,s2,k2,k3⟩:=hen;refine ⟨none,_,run_endLoop k2 (by simp [AMc]),?_⟩;have Ar:Same w1 ((w1.alloc (.deferred (some []))).alloc (.loop (AMc fid a1.tmps p assign body w1.heap.size))):=⟨rfl,rfl,rfl⟩;have Au:AL3 [{ target:= .collected w1.heap.size,args:= #[] }] n e1 { a1 with defers:=[{ target:= .collected w1.heap.size,args:= #[] }] ++ a1.defers } :=⟨⟨r1.size,rfl,r1.get⟩,by simp [r1.defers]⟩;exact hQ w1.heap.size e1 _ _ Au (Ar.trans (s2.trans (AVa _ _ _))) k3
theorem Alh {P:Program} (hmx:P.follows .mixedOrders=true) {g:Operand} {p:Tmp} {assign body:Code} {n:Nat} {K:Nat->Env->ABh->Prop} {e:Env} {h:ABh} (hok:(okI n assign && okI n body && Nat.blt p n)=true)
    (H:∃ (f:FuncId) (cl:List Value),e.ev g= .func (.func f) #[] cl.toArray/\ ∀ (h1:ABh) (r b:Nat) (ol ob oe:Obj),Ext h h1->h.size<=r->h.size<=b->r < h1.size->b < h1.size->r≠b->h1[r]? =some (.deferred (some []))->h1[b]? =some ol->Abv ol=false->Abv ob=false->Abv oe=false->
      (∀ (v:Value) (h2:ABh) (K':Value->ABh->Prop),h2[b]? =some ol->WI P assign (Aa7 fun e1 h3=>h3[b]? =some ol/\WI P body (Aa7 fun _ h4=>h4[b]? =some ob/\K' (.bool true) (h4.setIfInBounds b ol)) e1 (h3.setIfInBounds b ob)) (e.set p v) h2->ARs P b [v] h2 K')->
      ACd P f (.func (.yield b) #[] #[] :: cl).toArray h1 fun _ h'=>h'[b]? =some ol/\K r e (h'.setIfInBounds b oe)):Ahk P g p assign body n K e h:=by
  obtain ⟨f,cl,hg,H⟩:=H;simp only [Bool.and_eq_true] at hok;refine ⟨f,cl,hg,fun fn tmps hn ht h1 r b hE h2 h3 h4 h5 hne hd hl=>?_⟩;exact H h1 r b _ (.loop (Ajn fn tmps p assign body r)) _ hE h2 h3 h4 h5 hne hd hl rfl rfl rfl fun v h2 K' hl2 HW=>Alg hmx hl2 hn ht (by have:=hok.2;simpa [Nat.blt,Nat.lt_iff_add_one_le] using this) hok.1.1 hok.1.2 HW
def Afi:Code->Bool
  | .rangeFunc .. =>true
  | .seq a b=>Afi a || Afi b
  | .block _ c=>Afi c
  | _=>false
def WR (P:Program) (n:Nat):Code->(Nat->Exit->Env->ABh->Prop)->(Exit->Env->ABh->Prop)->Env->ABh->Prop
  | .seq a b,N,Q,e,h=>if Afi a=true then WR P n a (fun r=>AJ7 (fun e h=>WI P b (N r) e h) (N r)) (AJ7 (fun e h=>W P b Q e h) Q) e h else W P a (AJ7 (fun e h=>WR P n b N Q e h) Q) e h
  | .block _ (.rangeFunc g ps assign body),N,_,e,h=> ∃ p,ps= #[p]/\Ahk P g p assign body n (fun r e h=>N r .normal e h) e h
  | _,_,_,_,_=>False
def okR (n:Nat):Code->Bool
  | .seq a b=>bif Afi a then okR n a && okI n b && okC n b else okC n a && okR n b
  | .block _ (.rangeFunc ..)=>true
  | _=>false
theorem Avn {P:Program} {n:Nat} {a b:Code} {N:Nat->Exit->Env->ABh->Prop} {Q:Exit->Env->ABh->Prop} {e:Env} {h:ABh} (ha:Afi a=true) (H:WR P n a (fun r=>AJ7 (fun e h=>WI P b (N r) e h) (N r)) (AJ7 (fun e h=>W P b Q e h) Q) e h):WR P n (.seq a b) N Q e h:=by
 unfold WR;rw [if_pos ha];exact H
theorem AZe {P:Program} {n:Nat} {a b:Code} {N:Nat->Exit->Env->ABh->Prop} {Q:Exit->Env->ABh->Prop} {e:Env} {h:ABh} (ha:Afi a=false) (H:W P a (AJ7 (fun e h=>WR P n b N Q e h) Q) e h):WR P n (.seq a b) N Q e h:=by
 unfold WR;rw [if_neg (by rw [ha];simp)];exact H
theorem Asj {P:Program} (hmx:P.follows .mixedOrders=true) {n id:Nat} {g:Operand} {p:Tmp} {assign body:Code} {N:Nat->Exit->Env->ABh->Prop} {Q:Exit->Env->ABh->Prop} {e:Env} {h:ABh} (hok:(okI n assign && okI n body && Nat.blt p n)=true) (H:∃ (f:FuncId) (cl:List Value),e.ev g= .func (.func f) #[] cl.toArray/\ ∀ (h1:ABh) (r b:Nat) (ol ob oe:Obj),Ext h h1->h.size<=r->h.size<=b->r < h1.size->b < h1.size->r≠b->h1[r]? =some (.deferred (some []))->h1[b]? =some ol->Abv ol=false->Abv ob=false->Abv oe=false->
      (∀ (v:Value) (h2:ABh) (K':Value->ABh->Prop),h2[b]? =some ol->WI P assign (Aa7 fun e1 h3=>h3[b]? =some ol/\WI P body (Aa7 fun _ h4=>h4[b]? =some ob/\K' (.bool true) (h4.setIfInBounds b ol)) e1 (h3.setIfInBounds b ob)) (e.set p v) h2->ARs P b [v] h2 K')->
      ACd P f (.func (.yield b) #[] #[] :: cl).toArray h1 fun _ h'=>h'[b]? =some ol/\N r .normal e (h'.setIfInBounds b oe)):WR P n (.block id (.rangeFunc g #[p] assign body)) N Q e h:=⟨p,rfl,Alh hmx hok H⟩
theorem WR.sound {P:Program} (hmx:P.follows .mixedOrders=true) {n:Nat} {c:Code}:∀ {N:Nat->Exit->Env->ABh->Prop} {Q:Exit->Env->ABh->Prop} {Q':Exit->Act->World->Prop} {e:Env} {a:Act} {w:World},okR n c=true->Rep n e a->WR P n c N Q e w.heap->
    (∀ x e' a' w',Rep n e' a'->Same w w'->Q x e' w'.heap->Q' x a' w')->(∀ r x e' a' w',AL3 [{ target:= .collected r,args:= #[] }] n e' a'->Same w w'->N r x e' w'.heap->Q' x a' w')->c.wpIn Fence.wide 1 P Q' a w:=by
 induction c with
 | seq x y ihx ihy=>
   intro N Q Q' e a w hok r H hQ hN
   unfold WR at H
   unfold okR at hok
   by_cases hx:Afi x=true
   · rw [if_pos hx] at H
     rw [hx] at hok
     simp only [cond_true,Bool.and_eq_true] at hok
     refine wpIn_seq (ihx hok.1.1 r H (fun ex e' a' w' r' s k=>?_) fun rr ex e' a' w' r' s k=>?_)
     · cases ex <;> first | exact hQ _ _ _ _ r' s k | exact wpIn_wide.2 (W.sound hmx hok.2 r' k fun Ac e2 a2 w2 r2 s2 k2=>hQ _ _ _ _ r2 (s.trans s2) k2)
     · cases ex <;> first | exact hN _ _ _ _ _ r' s k | exact WI.sound (ro:=none) hmx hok.1.2 r' k fun Ac e2 a2 w2 r2 s2 k2=>hN _ _ _ _ _ r2 (s.trans s2) k2
   · rw [if_neg hx] at H
     rw [Bool.not_eq_true] at hx
     rw [hx] at hok
     simp only [cond_false,Bool.and_eq_true] at hok
     refine wpIn_seq (wpIn_wide.2 (W.sound hmx hok.1 r H fun ex e' a' w' r' s k=>?_))
     cases ex <;> first | exact hQ _ _ _ _ r' s k | exact ihy hok.2 r' k (fun Ac e2 a2 w2 r2 s2 k2=>hQ _ _ _ _ r2 (s.trans s2) k2) fun rr Ac e2 a2 w2 r2 s2 k2=>hN _ _ _ _ _ r2 (s.trans s2) k2
 | block id c ih=>
   intro N Q Q' e a w hok r H hQ hN
   cases c <;> first | exact H.elim | skip
   obtain ⟨p,rfl,H⟩:=H
   exact Afh hmx r H fun rr e' a' w' r' s k=>hN _ _ _ _ _ r' s k
 | skip=>intro N Q Q' e a w _ _ H;exact H.elim
 | region=>intro N Q Q' e a w _ _ H;exact H.elim
 | cond=>intro N Q Q' e a w _ _ H;exact H.elim
 | loop=>intro N Q Q' e a w _ _ H;exact H.elim
 | exit=>intro N Q Q' e a w _ _ H;exact H.elim
 | ret=>intro N Q Q' e a w _ _ H;exact H.elim
 | rangeFunc=>intro N Q Q' e a w _ _ H;exact H.elim
 | scope=>intro N Q Q' e a w _ _ H;exact H.elim
 | label=>intro N Q Q' e a w _ _ H;exact H.elim
 | goto=>intro N Q Q' e a w _ _ H;exact H.elim
 | refuse=>intro N Q Q' e a w _ _ H;exact H.elim
theorem Afj {P:Program} (hmx:P.follows .mixedOrders=true) {f:FuncId} {fn:Func} {c:Code} {rs:List ResultVar} {n:Nat} {l:List Value} {h:ABh} {K:Value->ABh->Prop} (hf:P.funcs[f]? =some fn) (hnm:(fn.name == "runtime.NumGoroutine")=false) (hb:fn.body=some c) (hr:fn.results=rs.toArray) (hnt:fn.ntmps=n) (hl:Nat.ble l.length n=true) (hok:okR n c=true) (H:WR P n c (fun r=>Awx P rs r K) (Aqd P rs K) (AZt l) h):ACd P f l.toArray h K:=by
 refine ⟨⟨fn,hf,hnm,by simp [hb]⟩,fun w hw=>?_⟩;subst hw;have hl:=Nat.le_of_ble_eq_true hl;rw [<- callsIn_wide (n:=1)];have hres:∀ {e':Env} {a':Act} {w2:World} {D:List Deferred} {v:Value},AL3 D n e' a'->AWy P rs e' w2.heap v->(results fn a'.tmps).run P w2= .ok v w2:=fun r hv=>hv fn _ _ hr r.r.get rfl;refine callsIn_of_wp_marks hf hb trivial (WR.sound hmx (n:=n) hok (e:=AZt l) ⟨?_,rfl,fun t=>?_⟩ H (fun x e1 a1 w1 r1 s1 k1=>?_) fun r x e3 a3 w3 r3 s3 k3=>?_)
 ·simp [hnt];omega
 ·rw [AXs];simp only [Array.getD_eq_getD_getElem?];rw [Array.getElem?_append];split
  ·simp
  ·rename_i hge;have hge':l.length<=t:=by simpa using hge
   rw [List.getElem?_eq_none hge'];simp only [Option.getD_none];rw [Array.getElem?_replicate];split <;> rfl
 ·have early:∀ {v:Value},AWy P rs e1 w1.heap v->K v w1.heap->LeavesInM Fence.wide 1 P fn a1.tmps (fun en w'=> ∃ v,en= .returned v/\Same w w'/\K v w'.heap) a1.defers .returning w1:=by
    intro v hv hk
    rw [r1.defers]
    exact ⟨v,hres (AL3.of r1) hv,v,rfl,s1,hk⟩
  cases x <;> first | exact k1.elim | (obtain ⟨v,hv,hk⟩:=k1;exact early hv hk)
 ·have fin:(w3.heap[r]? =some (.deferred (some []))/\ ∃ v,AWy P rs e3 (w3.heap.setIfInBounds r (.deferred none)) v/\K v (w3.heap.setIfInBounds r (.deferred none)))->LeavesInM Fence.wide 1 P fn a3.tmps (fun en w'=> ∃ v,en= .returned v/\Same w w'/\K v w'.heap) a3.defers .returning w3:=by
    rintro ⟨hd,v,hv,hk⟩
    rw [r3.d]
    refine ⟨by simp,.inl ⟨r,w3.putObj r (.deferred none),rfl,run_takeDeferred hd,?_⟩⟩
    exact ⟨v,hres (w2:=w3.putObj r (.deferred none)) r3 hv,v,rfl,s3.trans (AVa _ _ _),hk⟩
  cases x <;> first | exact k3.elim | exact fin k3
end Go.QF
namespace Go.QF
open Go
theorem Avo {P:Program} {B:ABh->Prop} {st:Bool} {ops:Array Oper} {rest:List Oper} {e:Env} {h:ABh} {K:Env->ABh->Prop} {d:Nat} {ty:TypeId} {pos:String} {af:Array Edge} {t el s:Nat} (hT:SlT P t el s) (hb:B h)
    (H:B (h.push (.cells #[] el (0,0)))/\RL P B st ops rest (e.set d (.slice (some ⟨h.size,0,none⟩) 0 0)) (h.push (.cells #[] el (0,0))) K):
    RL P B st ops (⟨some d,.buildSlice t 0 #[],ty,pos,af,none⟩ :: rest) e h K:=by
  refine AOu rfl rfl hb fun w hw=>?_;subst hw;obtain ⟨hu,i0,hi0,hs0⟩:=hT
  have hrun:(execOp e.ev ⟨some d,.buildSlice t 0 #[],ty,pos,af,none⟩).run P w= .ok (.value (.slice (some ⟨w.heap.size,0,none⟩) 0 0)) (w.alloc (.cells #[] el)):=by
    simp [execOp,Instr.buildSlice,AMf hu,APm hi0,Instr.fill,newRow];rw [show Array.range 0= #[] from rfl,Array.map_empty]
  rw [hrun];exact ⟨⟨rfl,rfl,rfl⟩,H.1,H.2⟩
theorem Asl {h:ABh} {κ:IntKind} {a:Option Addr} {n c:Nat} {L:List Int} (H:SlC (cI κ) h (.slice a n c) L) (hn:a=none):L=[]:=by
 subst hn;obtain ⟨Ls,⟨xa,xc,hv,hx⟩,hA⟩:=H;injection hv with h1 h2 h3
 cases Ls with
 | nil=>exact List.eq_nil_of_length_eq_zero hA.1.symm
 | cons r Ls=>
   obtain ⟨b,o,hb,_⟩:=hx 0 r rfl
   rw [<- h1] at hb;cases hb
theorem Asm {h:ABh} {κ:IntKind} {a:Option Addr} {n c:Nat} (H:SlC (cI κ) h (.slice a n c) []):n=0:=by
 obtain ⟨Ls,⟨xa,xc,hv,hx⟩,hA⟩:=H;injection hv with h1 h2 h3;rw [h2];exact hA.1
theorem Asn (h:ABh):Sp h h.size [[]]:=⟨by simp,fun b hb=>by simp at hb⟩
theorem Aso {P:Program} {B:ABh->Prop} {st:Bool} {ops:Array Oper} {rest:List Oper} {e:Env} {h:ABh} {K:Env->ABh->Prop} {d:Nat} {ty:TypeId} {pos:String} {af:Array Edge} {s x:Operand} {t el:TypeId} {g n c:Nat} {xa:Option Addr} (hT:SlT P t el 1) (hb:B h) (hs:e.ev s= .slice (some ⟨g,0,none⟩) 0 0) (hx:e.ev x= .slice xa n c) (hn:n=0)
    (H:RL P B st ops rest (e.set d (.slice (some ⟨g,0,none⟩) 0 0)) h K):RL P B st ops (⟨some d,.call ⟨.builtin .append,#[s,x],#[t,t]⟩,ty,pos,af,none⟩ :: rest) e h K:=by
  subst hn;refine AOu rfl rfl hb fun w hw=>?_;subst hw;obtain ⟨hu,i,hi,hs0⟩:=hT
  have hc:(Builtin.firstCells i.size 0 (.slice xa 0 c)).run P w= .ok #[] w:=by
    cases xa with
    | none=>exact run_firstCells_none (P:=P) w _ 0 0 c
    | some a=>exact run_firstCells_some (P:=P) w i.size 0 a 0 c [] (by simp) (fun j v hj=>by simp at hj)
  have hrun:(execOp e.ev ⟨some d,.call ⟨.builtin .append,#[s,x],#[t,t]⟩,ty,pos,af,none⟩).run P w= .ok (.value (.slice (some ⟨g,0,none⟩) 0 0)) w:=by
    simp [execOp,resolve,invoke,builtin,hs,hx,Builtin.append_,AMf hu,APm hi,Builtin.lenOf,hc,storeCells,Result.andThen]
  rw [hrun];exact ⟨⟨rfl,rfl,rfl⟩,hb,H⟩
theorem Apb {P:Program} {B:ABh->Prop} {st:Bool} {ops:Array Oper} {rest:List Oper} {e:Env} {h:ABh} {K:Env->ABh->Prop} {d:Nat} {ty:TypeId} {pos:String} {af:Array Edge} {x y:Operand} {t t2 el:TypeId} {s:Nat} {a:Option Addr} {n c:Nat} (hT:SlT P t el s) (hx:e.ev x= .slice a n c) (hy:e.ev y= .slice none 0 0) (H:RL P B st ops rest (e.set d (.bool a.isNone)) h K):
    RL P B st ops (⟨some d,.binOp .eql t x y t2,ty,pos,af,none⟩ :: rest) e h K:=
  AFx (v:= .bool a.isNone) rfl rfl (fun w=>by
    have hr:(Op.equal t (.slice a n c) (.slice none 0 0)).run P w= .ok a.isNone w:=by
      show (Op.equalIn (9999 + 1) t _ _).run P w=_;rw [Op.equalIn];cases a <;> simp [AMf hT.1]
    simp [execOp,hx,hy,eqGuard,binOp,hr]) H
theorem Ajo {h:ABh} {κ:IntKind} {el g:Nat} {v:Value} {L:List Int} (H:AD2 h el g v (L.map (.int κ))) (hel:Nat.beq el 147=false):OwC (cI κ) el h [g] v L:=by
 refine .inr ⟨g,L.map fun a=>[.int κ a],rfl,?_,⟨by simp,fun i cs a h1 h2=>?_⟩,hel⟩
 ·have:=Abw H;rwa [List.map_map] at this
 ·rw [List.getElem?_map,h2] at h1;cases h1;rfl
theorem ARs.mono {P:Program} {l:Nat} {args:List Value} {h:ABh} {K K':Value->ABh->Prop} (H:ARs P l args h K') (hK:∀ v h',K' v h'->K v h'):ARs P l args h K:=fun w hw=>by
  obtain ⟨f,tmps,assign,body,h1,h2⟩:=H w hw
  exact ⟨f,tmps,assign,body,h1,h2.mono fun en w' ⟨v,he,hs,hk⟩=>⟨v,he,hs,hK _ _ hk⟩⟩
theorem Apc {P:Program} {Q:Exit->Env->ABh->Prop} {e:Env} {h:ABh} {id l:Nat} {o1 o2:Oper} {post:List Oper} {d:Tmp} {c:Operand} {xs:List Operand} {ts:Array TypeId} {ty:TypeId} {pos:String} {af:Array Edge} (hnd:(([o1,o2] ++ post).all APu && ([o1,o2] ++ ⟨some d,.call ⟨.value c,xs.toArray,ts⟩,ty,pos,af,none⟩ :: post).all AG7)=true) (H:RL P (fun _=>True) false (o1 :: o2 :: ⟨some d,.call ⟨.value c,xs.toArray,ts⟩,ty,pos,af,none⟩ :: post).toArray [o1,o2] e h fun e1 h1=>e1.ev c= .func (.yield l) #[] #[]/\ ∃ l1,xs.map e1.ev=l1/\ARs P l l1 h1 fun v h2=>
      RL P (fun _=>True) false (o1 :: o2 :: ⟨some d,.call ⟨.value c,xs.toArray,ts⟩,ty,pos,af,none⟩ :: post).toArray post (e1.set d v) h2 (Q .normal)):
    W P (.region id (o1 :: o2 :: ⟨some d,.call ⟨.value c,xs.toArray,ts⟩,ty,pos,af,none⟩ :: post).toArray false) Q e h:=Asi (pre:=[o1,o2]) hnd H
end Go.QF
namespace Go.Proofs.YtiegjkmfpcgjjaaGreatDoor
open Go Go.QF
theorem Att:ZeT Tryz.prog 22 (.slice none 0 0) 24:=ASh (by kernel_rfl)
def aOb (b:Nat) (o:Obj):Asr:=⟨[b],fun h=>h[b]? =some o,fun {G h h'} U d H=>(U.1.2 b (Array.getElem?_eq_some_iff.1 H).1 (d b (by simp))).trans H⟩
namespace Kst
variable {h0 h h':ABh} {l l':List Asr}
theorem ob (k:Kst h0 h l) {i b:Nat} {o:Obj} (e:Rep i l (aOb b o) (aOb b o) l'):h[b]? =some o:=AMl k.p e.1
theorem rg (k:Kst h0 h l) (E:Ext h h') {r b:Nat} {o o2:Obj} (h1:h.size<=r) (h2:h.size<=b) (h3:r < h'.size) (h4:b < h'.size) (hne:r≠b) (H1:h'[r]? =some o) (H2:h'[b]? =some o2):Kst h0 h' (aOb r o :: aOb b o2 :: l):=
  k.n E [aOb r o,aOb b o2] (Ags h1 h2 h3 h4 hne) ⟨H1,H2,trivial⟩
theorem uob (k:Kst h0 h l) {i b:Nat} {o o':Obj} (e:Rep i l (aOb b o) (aOb b o') l') (hd:Abv o=false) (hd':Abv o'=false):∃ h',Array.setIfInBounds h b o'=h'/\UpT [b] h h'/\Kst h0 h' l':=by
 have H:h[b]? =some o:=AMl k.p e.1;have hb:=(Array.getElem?_eq_some_iff.1 H).1;have H':(h.setIfInBounds b o')[b]? =some o':=by simp [hb]
 have U:UpT [b] h (h.setIfInBounds b o'):=⟨⟨by simp,fun k hk hn=>by rw [Array.getElem?_setIfInBounds_ne (fun he=>hn (by simp [he]))]⟩,fun x hx hl=>by
   rw [List.mem_singleton.1 hx];exact ⟨⟨o,H,hd⟩,⟨o',H',hd'⟩⟩⟩
 exact ⟨_,rfl,U,k.u e U H' (by simp [aOb]) (fun x hx=>by simp [aOb] at hx;subst hx;simpa using hb) fun x hx=> .inl hx⟩
end Kst
def AJq (fuel:Nat) (L:List Int):Option (List Int):=if L.length<=100000000 then some L else none
theorem APv {fuel:Nat} {h:ABh} {v:Value} {L r:List Int} (H:SlC (cI .i64) h v L) (hp:AJq fuel L=some r):ACd Tryz.prog 37 #[v] h (fun x h'=>Ext h h'/\ ∃ (x0:Value) (F0:List Nat),x=x0/\OwC (cI .i64) 2 h' F0 x0 r/\Sp h' h.size [F0]):=by
 unfold AJq at hp;obtain ⟨hl,hp⟩:=ifN hp;cases hp;obtain ⟨a,n,c,hv⟩:∃ a n c,v= .slice a n c:=by obtain ⟨Ls,⟨xa,xc,hv,_⟩,_⟩:=H;exact ⟨_,_,_,hv⟩
 subst hv;refine ACv (l:=[_]) mx Tryz.func37 rfl rfl rfl rfl rfl (by kernel_rfl) (ABj (ABp (ABm (ABj (Wk (Apb (a:=a) (n:=n) (c:=c) ABx rfl rfl (ABo (⟨_,rfl,fun hc=>?_,fun hc=>?_⟩))))))))
 ·refine ABj (ABp (ABs (AB1 ?_)));have hL:L=[]:=Asl H (by cases a with | none=>rfl | some a=>cases hc);subst hL;exact ⟨_,ABu,Ext.refl _,_,[],rfl,Aic _ _ _,Asn _⟩
 ·refine ABr (q_t (ABj (Avo ABx trivial ⟨trivial,?_⟩)));have E0:Ext h (h.push (.cells #[] 2 (0,0))):=AD9 _ _;have hO:AD2 (h.push (.cells #[] 2 (0,0))) 2 h.size (.slice (some ⟨h.size,0,none⟩) 0 0) []:=AXu h 2 [] (by simp);by_cases hL:L=[]
  ·subst hL;refine Wk (Aso (xa:=a) (n:=n) (c:=c) ABx trivial rfl rfl (Asm H) (ABp (ABs ?_)));exact ⟨_,ABu,E0,_,[h.size],rfl,Ajo (κ:= .i64) hO (by kernel_rfl),AHc (Nat.le_refl _) (by simp)⟩
  ·have H2:Sl (h.push (.cells #[] 2 (0,0))) (.slice a n c) (L.map (.int .i64)):=Atm (H.ext E0);refine Wk (As9 (bytes:=8) ABx AIl rfl trivial rfl hO rfl H2 (fun u hu=>by obtain ⟨q,_,rfl⟩:=List.mem_map.1 hu;rfl) (by simpa using hL) (by simp;omega) (by simp;omega) fun v' g' h' HO hg U=>⟨trivial,?_⟩);refine ABp (ABs ?_);have Ae:h.size<=g':=by rcases hg with rfl | rfl <;> simp
   exact ⟨_,ABu,⟨Nat.le_trans E0.1 U.1,fun k hk=>(U.2 k (by simp;omega) (by omega)).trans (E0.2 k hk)⟩,_,[g'],rfl,Ajo (κ:= .i64) (v:=v') (by simpa using HO) (by kernel_rfl),AHc Ae HO.lt⟩
end Go.Proofs.YtiegjkmfpcgjjaaGreatDoor
namespace Go.Proofs.YtiegjkmfpcgjjaaGreatDoor
open Go Go.QF
set_option maxRecDepth 100000
theorem AVb {M:List (List Int)} (R:AWa M):M=tab M.length M.length (ent M):=Abi R.2.1
theorem Asp {n:Nat} {A:Nat->Nat->Int} (Ab:1<=n) (hn:n<=8) (R:Ahh n A):AWa (tab n n A):=by
 refine ⟨by rw [ADf];exact ⟨Ab,hn⟩,fun z hz=>by rw [ADf];exact AUl z hz,?_⟩;rw [ADf];have e:∀ i j,i < n->j < n->ent (tab n n A) i j=A i j:=fun i j hi hj=>Aqg hi hj;have hd:∀ k,k<=n->det k (ent (tab n n A))=det k A:=fun k hk=>AC6 fun i j hi hj=>e i j (by omega) (by omega)
 have hm:∀ k i j,k<=n->i < n->j < n->Mn k (ent (tab n n A)) i j=Mn k A i j:=fun k i j hk hi hj=>by
   unfold Mn
   exact AC6 fun a b ha hb=>e _ _ (AMn hk hi) (AMn hk hj)
 refine ⟨fun i j hi hj=>by rw [e i j hi hj,e j i hj hi];exact R.sym i j hi hj,fun k hk=>by rw [hd k hk];exact R.pos k hk,fun r l h1 h2=>?_,fun r hr=>?_,by rw [hd n (Nat.le_refl n)];exact R.dt⟩
 ·have:=R.sz r l h1 h2;unfold SzF at this ⊢;rw [hd _ (by omega),hm _ _ _ (by omega) h2 (by omega)];exact this
 ·have:=R.lv r hr;unfold LvF at this ⊢;rw [hd _ (by omega),hd _ (by omega),hd _ (by omega),hm _ _ _ (by omega) hr (by omega)];exact this
theorem AZf {M:List (List Int)} (R:AWa M):1<=det M.length (ent M)/\det M.length (ent M)<=10000:=⟨by have:=R.2.2.pos _ (Nat.le_refl _);omega,R.2.2.dt⟩
theorem Asq {M:List (List Int)} (R:AWa M) {i j:Nat} (hi:i < M.length) (hj:j < M.length):(ent M i j).natAbs<=192000:=by have:=Acy R.1.2 R.2.2 hi hj;omega
theorem Ali {fuel:Nat} {M:List (List Int)} (R:AWa M) (hf:100 < fuel):AHu fuel M=some (det M.length (ent M)):=by
 apply ok_eq;obtain ⟨v1,v2⟩:=AZf R;have hT:=AVb R;have h1:=R.1;unfold AHu;generalize hF:ent M=F at *;generalize hL:M.length=n at *;have hb:∀ i j,i < n->j < n->(F i j).natAbs<=192000:=fun i j hi hj=>by subst hF;subst hL;exact Asq R hi hj
 rw [hT];refine ABn (AC9 (Ahi h1.1 (by omega) (fun i j hi hj=>Nat.le_trans (hb i j hi hj) (by decide)) (by omega))) fun x hx=>?_;subst hx;refine ABn (AC9 (AU1 h1.2 (fun i j hi hj=>Nat.le_trans (hb i j hi hj) (by decide)) (by omega))) fun y hy=>?_;subst hy;refine ABn (AC9 (a:=(det n F,true)) (if_pos (by omega))) fun z hz=>ABi ?_;rw [hz]
theorem AQ6 (a:Int) (m:Nat) (ha:0<=a) (hm:0 < m):∃ q:Nat,Int.tmod a (m:Int)=q/\q < m:=by
 rw [Int.tmod_eq_emod_of_nonneg ha];have h1:=Int.emod_nonneg a (show (m:Int)≠0 by omega);have h2:=Int.emod_lt_of_pos a (show (0:Int) < m by omega);exact ⟨(a % m).toNat,by omega,by omega⟩
end Go.Proofs.YtiegjkmfpcgjjaaGreatDoor
namespace Go.Proofs.YtiegjkmfpcgjjaaGreatDoor
open Go Go.QF
set_option maxRecDepth 100000
set_option maxHeartbeats 4000000
def AJ2 (fuel:Nat) (a3:LiI) (Ab:Int):Option ((Int) ⊕ ((Bool) ⊕ (Unit))):=
  (if Ab < (a3.length:Int) then ((gI a3 Ab).bind fun Ac=>((gI a3 0).bind fun Ad=>(if ¬ (Ac.length:Int)=(Ad.length:Int) then (some (Sum.inr<| Sum.inl <| false)) else (some (Sum.inl (w64 (Ab + 1))))))) else (some (Sum.inr<| Sum.inr <| ())))
def AHj (fuel:Nat) (a3:LiI):Option Bool:=
  (((if (a3.length:Int) < 1 then (some (Sum.inl <| false)) else (if 16 < (a3.length:Int) then (some (Sum.inl <| false)) else ((gI a3 0).bind fun Ab=>(if (Ab.length:Int) < 1 then (some (Sum.inl <| false)) else (if 16 < (Ab.length:Int) then (some (Sum.inl <| false)) else (some (Sum.inr <| ()))))))):Option ((Bool) ⊕ (Unit))).bind (fun ex=>match ex with | Sum.inl Ac=>(some Ac) | Sum.inr (_)=>((iter (fun s=>AJ2 fuel a3 s) fuel 0).bind (fun ex=>match ex with | Sum.inl Ad=>(some Ad) | Sum.inr (_)=>(some true)))))
theorem AO8 {fuel:Nat} {h:ABh} {Aq:Value} {a3:LiI} {r:Bool} (H2:AGe (cI .i64) h Aq a3) (hp:AHj fuel a3=some r):ACd Tryz.prog 69 #[Aq] h (fun x h'=>Ext h h'/\x= .bool r):=by
 unfold AHj at hp;refine cwf (l:=[_]) Tryz.func69 rfl rfl (ABj (ABp ?_));have K0:=Kst.k0 h;obtain ⟨A4,Ar,Ac⟩:=ABl hp;refine ANi 134217700 (fun x:Unit=>[]) (fun x h'=>(Sum.inr <| ())=A4/\Kst h h' (K0.L)) ?_ ?_
 ·refine ABj (Wk (ADn AB2 rfl H2 (AC1 rfl rfl (Wk ?_))));by_cases Ah:(a3.length:Int) < 1
  ·rw [decide_eq_true Ah];refine AJ8 8 true (AB0 rfl (Wk (AIx 13 true (AB0 rfl (Wk (AIx 20 true (AB0 rfl (ABo (AB6 rfl (ABj (ABp ?_)))))))))));obtain rfl:=ABk (ifT Ar Ah);refine ABs (AB1 ?_);obtain rfl:=ABk Ac;exact ⟨_,ABu,K0.x,rfl⟩
  ·have Au:=ifF Ar Ah;rw [decide_eq_false Ah];refine ACe 8 false (Wk (ACe 8 false (ADn AB2 rfl H2 (ACe 8 false (AKm rfl rfl (ABv rfl (Wk ?_)))))));by_cases Ai:16 < (a3.length:Int)
   ·rw [decide_eq_true Ai];refine AIx 13 true (AB0 rfl (Wk (AIx 20 true (AB0 rfl (ABo (AB6 rfl (ABj (ABp ?_))))))));obtain rfl:=ABk (ifT Au Ai);refine ABs (AB1 ?_);obtain rfl:=ABk Ac;exact ⟨_,ABu,K0.x,rfl⟩
   ·rw [decide_eq_false Ai];refine ACe 13 false (Wk (ACe 13 false ?_));obtain ⟨A5,Av,Aw⟩:=ABl (ifF Au Ai);refine AIy AB2 rfl H2 rfl Av fun Br Bt Bu A6 A7=>ACe 13 false (AB4 ACm rfl (ABz A6 K0.x) (ACe 13 false (AD1 ABx rfl A7 (ACe 13 false (AC1 rfl rfl (ABv rfl (Wk ?_)))))));by_cases Aj:(A5.length:Int) < 1
    ·rw [decide_eq_true Aj];refine AIx 20 true (AB0 rfl (ABo (AB6 rfl (ABj (ABp ?_)))));obtain rfl:=ABk (ifT Aw Aj);refine ABs (AB1 ?_);obtain rfl:=ABk Ac;exact ⟨_,ABu,K0.x,rfl⟩
    ·have Ax:=ifF Aw Aj;rw [decide_eq_false Aj];refine ACe 20 false (Wk (ACe 20 false (AIy AB2 rfl H2 rfl Av fun Bv Bw Bx A8 A9=>ACe 20 false (AB4 ACm rfl (ABz A8 K0.x) (ACe 20 false (AD1 ABx rfl A9 (ACe 20 false (AKm rfl rfl (ABv rfl (ABo (⟨_,rfl,fun Ak=>?_,fun Ak=>?_⟩)))))))))))
     ·refine ABj (ABp ?_);obtain rfl:=ABk (AC7 Ax Ak);refine ABs (AB1 ?_);obtain rfl:=ABk Ac;exact ⟨_,ABu,K0.x,rfl⟩
     ·refine ABr (q_t ?_);exact ⟨(():Unit),⟨ABk (AC8 Ax Ak),K0⟩,trivial⟩
 rintro ⟨⟩ By Bz ⟨Ba,Ay⟩;subst Ba;refine ABm (ABj (Wk (ADn AB2 rfl H2 (Wk (ABo (ABq ?_))))));obtain ⟨Am,Bb,Az⟩:=ABl Ac;obtain ⟨Bc,Be,Bf⟩:=ACl Bb;refine ACk 2198486384660 (fun x:(Int)=>[(29,(.int .i64 x))]) (fun k x h'=>iter Bc k x=some Am/\Kst h h' (Ay.L)) (by kernel_rfl) fuel (0:(Int)) ?_ ⟨rfl,trivial⟩ ?_
 ·exact ⟨Bf,Ay⟩
 rintro B1 Bg B2 B3 ⟨Bh,Ad⟩;obtain ⟨Bi,B4,rfl,Ae,Af⟩:=AB7 Bh;rw [Be] at Ae;dsimp only at Ae;unfold AJ2 at Ae;refine ABj (AC1 rfl rfl (ABo (ABm (⟨_,rfl,fun Ao=>?_,fun Ao=>?_⟩))))
 ·refine ABr (q_t (ABm (ABq (ABj ?_))));obtain ⟨B5,Bj,Bl⟩:=ABl (AC7 Ae Ao);refine AIy AB2 rfl H2 rfl Bj fun B6 B7 B8 Bm Bn=>AB4 ACm rfl (ABz Bm Ad.x) (ACu (Wk (AD1 ABx rfl Bn (Wk ?_))));obtain ⟨B9,Bo,A3⟩:=ABl Bl;refine AIy AB2 rfl H2 rfl Bo fun Ca Cb Cd Bp Bq=>AB4 ACm rfl (ABz Bp Ad.x) (AD1 ABx rfl Bq (AHe rfl rfl (ABo (⟨_,rfl,fun Ap=>?_,fun Ap=>?_⟩))))
  ·refine ABj (ABp ?_);obtain rfl:=ABk (AC7 A3 Ap);change _=Am at Af;subst Af;refine ABs (ADs (AB1 (AB1 (ADs (AB1 ?_)))));obtain rfl:=ABk Az;exact ⟨_,ABu,Ad.x,rfl⟩
  ·refine ABr (q_b (q_t (ABw (AC2 rfl rfl (Wk (ABo ?_))))));obtain rfl:=ABk (AC8 A3 Ap);exact ⟨Bi,((w64 (Bg + 1)):(Int)),Nat.lt_succ_self _,⟨Af,Ad⟩,rfl,trivial⟩
 ·obtain rfl:=ABk (AC8 Ae Ao);change _=Am at Af;subst Af;refine ACc (ACa (ACa (ADm (q_t (ABj (ABp (ABs ?_)))))));obtain rfl:=ABk Az;exact ⟨_,ABu,Ad.x,rfl⟩
def AKe (fuel:Nat) (a3:LiI):Option Bool:=
  ((AHj fuel a3).bind fun x5=>(if x5=true then ((gI a3 0).bind fun Ac=>(if (a3.length:Int)=(Ac.length:Int) then (some (decide ((a3.length:Int)<=8))) else (some false))) else (some false)))
theorem AUd {fuel:Nat} {h:ABh} {Ae:Value} {a3:LiI} {r:Bool} (H2:AGe (cI .i64) h Ae a3) (hp:AKe fuel a3=some r):ACd Tryz.prog 72 #[Ae] h (fun x h'=>Ext h h'/\x= .bool r):=by
 unfold AKe at hp;refine cwf (l:=[_]) Tryz.func72 rfl rfl (ABj (ACu (Wk ?_)));have K0:=Kst.k0 h;obtain ⟨x5,Ak,Ag⟩:=ABl hp;refine AC4 rfl (AO8 (H2.ext K0.x) Ak) fun Av h9 E8 Ao=>?_;subst Ao;refine Wk ?_;have Ab:=K0.e E8;cases Ah:x5
 ·refine AIx 5 false (AGs 5 false (ABv rfl (Wk (AJ8 14 false (ABv rfl (ABp (ABs ?_)))))));obtain rfl:=ABk (ALo Ag Ah);exact ⟨_,ABu,Ab.x,rfl⟩
 ·refine ACe 5 true (Wk (ACe 5 true (ADn AB2 rfl H2 (ACe 5 true (Wk (ACe 5 true ?_))))));obtain ⟨Ap,Aq,Ai⟩:=ABl (ifT Ag Ah);refine AIy AB2 rfl H2 rfl Aq fun Ax Ay Az Ar Au=>ACe 5 true (AB4 ACm rfl (ABz Ar Ab.x) (ACe 5 true (AD1 ABx rfl Au (ACe 5 true (ADt rfl rfl (AB0 rfl (Wk ?_)))))));by_cases Ac:(a3.length:Int)=(Ap.length:Int)
  ·rw [decide_eq_true Ac];refine ACe 14 true (Wk (ACe 14 true (ADn AB2 rfl H2 (ACe 14 true (AYq rfl rfl (AB0 rfl (ABp (ABs ?_))))))));obtain rfl:=ABk (ifT Ai Ac);exact ⟨_,ABu,Ab.x,rfl⟩
  ·rw [decide_eq_false Ac];refine AJ8 14 false (ABv rfl (ABp (ABs ?_)));obtain rfl:=ABk (ifF Ai Ac);exact ⟨_,ABu,Ab.x,rfl⟩
def AEl (fuel:Nat) (a1:Int):Option Int:=
  (if a1 < 2 then (some 1) else (if 2147483647 < a1 then (some 1) else (some 0)))
theorem ALj {fuel:Nat} {h:ABh} {a1 r:Int} (hp:AEl fuel a1=some r):ACd Tryz.prog 70 #[(.int .i64 a1)] h (fun x h'=>Ext h h'/\x= .int .i64 r):=by
 unfold AEl at hp;refine cwf (l:=[_]) Tryz.func70 rfl rfl (ABj (ABp (ABm (ABj (Wk (AC1 rfl rfl (Wk ?_)))))));have K0:=Kst.k0 h;by_cases Aa:a1 < 2
 ·rw [decide_eq_true Aa];refine AGs 5 true (AB0 rfl (ABo (AB6 rfl (ABj (ABp (ABs (AB1 ?_)))))));obtain rfl:=ABk (ifT hp Aa);exact ⟨_,ABu,K0.x,rfl⟩
 ·have Ae:=ifF hp Aa;rw [decide_eq_false Aa];refine ACe 5 false (Wk (ACe 5 false (AKm rfl rfl (ABv rfl (ABo (⟨_,rfl,fun Ad=>?_,fun Ad=>?_⟩))))))
  ·refine ABj (ABp (ABs (AB1 ?_)));obtain rfl:=ABk (AC7 Ae Ad);exact ⟨_,ABu,K0.x,rfl⟩
  ·refine ABr (q_t (ABj (ABp (ABs ?_))));obtain rfl:=ABk (AC8 Ae Ad);exact ⟨_,ABu,K0.x,rfl⟩
def AIg (fuel:Nat) (a5 Ad:Int) (Ae:LiA) (Ab:Int) (Ac:LiI):Option ((Int × LiI) ⊕ ((LiI))):=
  (if Ab < (Ae.length:Int) then ((gI Ae Ab).bind fun Ag=>((gI Ac Ad).bind fun Af=>(if a5≠0 then (if a5≠0 then ((gI Af Ab).bind fun Ah=>(some (Sum.inl ((w64 (Ab + 1)),(sI Ac Ad (sI Af Ab (Int.tmod (w64 ((Int.tmod Ag a5) + a5)) a5))))))) else none) else none))) else (some (Sum.inr<| Ac)))
def AIh (fuel:Nat) (a3:LiI) (a5 Aa:Int) (Ac:LiI):Option ((Int × LiI) ⊕ ((LiI))):=
  (if Aa < (a3.length:Int) then ((gI a3 Aa).bind fun Ab=>(if 0<=(Ab.length:Int)/\(Ab.length:Int)<=100000000 then ((gI Ac Aa).bind fun Ag=>((iter (fun s=>AIg fuel a5 Aa Ab s.1 s.2) fuel (0,(sI Ac Aa (List.replicate (Int.toNat (Ab.length:Int)) (0:Int))))).bind (fun (Af:LiI)=>(some (Sum.inl ((w64 (Aa + 1)),Af)))))) else none)) else (some (Sum.inr<| Ac)))
def AFs (fuel:Nat) (a3:LiI) (a5:Int):Option LiI:=
  (if 0<=(a3.length:Int)/\(a3.length:Int)<=100000000 then ((iter (fun s=>AIh fuel a3 a5 s.1 s.2) fuel (0,(List.replicate (Int.toNat (a3.length:Int)) ([]:List Int)))).bind (fun (Ac:LiI)=>(some Ac))) else none)
theorem AM1 {fuel:Nat} {h:ABh} {Au:Value} {a3:LiI} {a5:Int} {r:LiI} (H2:AGe (cI .i64) h Au a3) (hp:AFs fuel a3 a5=some r):ACd Tryz.prog 71 #[Au,(.int .i64 a5)] h (fun x h'=>Ext h h'/\ ∃ (x0:Value) (F0:List Nat) (Bf:List LnA) (Bg:List Value),x=x0/\AFe (cI .i64) 23 2 h' F0 Bf Bg x0 r/\Sp h' h.size [F0]):=by
 unfold AFs at hp;refine cwf (l:=[_,_]) Tryz.func71 rfl rfl (ABj (ACu (Wk (ADn AB2 rfl H2 ?_))));obtain ⟨Bh,Bi⟩:=ifN hp;refine AUu (cI .i64) 2 AB2 AMi rfl trivial tt2 rfl rfl (by decide) Bh fun Bj Bl Bm Ax C8 Bn E8 S9=>ABp (ABm (ABj (Wk (ADn AB2 rfl H2 (Wk (ABo (ABq ?_)))))));have Ay:=(Kst.k0 h).no2 E8 S9 Bn;obtain ⟨Az,Bq,Br⟩:=ABl Bi;obtain ⟨Bt,Bu,Bv⟩:=ACl Bq;refine ACk 281474976678848 (fun x:(Int) × (LiI) × LnA × LnN × LvA=>[(15,(.int .i64 x.1))]) (fun k x h'=>iter Bt k (x.1,x.2.1)=some Az/\Kst h h' (Ay.L.set 0 (aO2 (cI .i64) 23 2 x.2.2.1 x.2.2.2.1 x.2.2.2.2 Ax x.2.1))) (by kernel_rfl) fuel ((0,(List.replicate (Int.toNat (a3.length:Int)) ([]:List Int)),Bj,Bl,Bm):(Int) × (LiI) × LnA × LnN × LvA) ?_ ⟨rfl,trivial⟩ ?_
 ·exact ⟨Bv,Ay⟩
 rintro C9 ⟨Ab,Bw,Da,A3,Bx⟩ Db Dc ⟨By,Ad⟩;obtain ⟨Bz,Dd,rfl,Ae,Aj⟩:=AB7 By;rw [Bu] at Ae;dsimp only at Ae;unfold AIh at Ae;refine ABj (AC1 rfl rfl (ABo (ABm (⟨_,rfl,fun Ak=>?_,fun Ak=>?_⟩))))
 ·refine ABr (q_t (ABm (ABq (ABj (Wk ?_)))));obtain ⟨B1,B2,B3⟩:=ABl (AC7 Ae Ak);refine AIy AB2 rfl H2 rfl B2 fun De Df Dg B4 Am=>AB4 ACm rfl (ABz B4 Ad.x) (ACg (ACu (Wk (Wk (Wk (AD1 ABx rfl Am ?_))))));obtain ⟨B5,B6⟩:=ifN B3;refine ASm (c:=(cI .i64)) (a:=0) ABx AIl rfl rfl (fun _=>rfl) rfl trivial tt2 rfl rfl (by decide) B5 fun A4 B7 Dh B8 B9 Ca Cb=>?_;have Af:=Ad.no B9 (AHc Ca Cb) B8;obtain ⟨Di,A5,Cd⟩:=ABl B6;refine ADi AB2 rfl (Af.o2 p1) rfl A5 fun Ce Dj Cf Dk Dl=>AWk ACm (Af.o2 p1) A5 Cf rfl rfl (Af.o p0) (Af.dj p0 p1 (by decide)) fun Dn Cg Ch Ci=>AMh (Wk (AD1 ABx rfl Am (Wk (ABo (ABq ?_)))));obtain ⟨A6,Cj,Ck⟩:=ABl Cd;obtain ⟨Cm,Cn,Co⟩:=ACl Cj;have Ao:=(Af.m2 p0 p1 (by decide) Ch Cg (fun z hz=> .inl (Ci z hz))).sel [1] (by decide);dsimp only [AIi,ALa] at Ao;refine ACk 140737219920640 (fun x:(Int) × (LiI) × LnA × LnN × LvA=>[(28,(.int .i64 x.1))]) (fun k x h'=>iter Cm k (x.1,x.2.1)=some A6/\Kst h h' (Ao.L.set 0 (aO2 (cI .i64) 23 2 x.2.2.1 x.2.2.2.1 x.2.2.2.2 Ax x.2.1))) (by kernel_rfl) fuel ((0,(sI Bw Ab (List.replicate (Int.toNat (B1.length:Int)) (0:Int))),(Ce :: (A3.set (Int.toNat Ab) [A4]).flatten),(A3.set (Int.toNat Ab) [A4]),(Bx.set (Int.toNat Ab) B7)):(Int) × (LiI) × LnA × LnN × LvA) ?_ ⟨rfl,trivial⟩ ?_
  ·exact ⟨Co,Ao⟩
  rintro Do ⟨A7,A8,A9,Ba,Bb⟩ Dp Dq ⟨Cp,Ac⟩;obtain ⟨Cq,Dr,rfl,Ag,Ap⟩:=AB7 Cp;rw [Cn] at Ag;dsimp only at Ag;unfold AIg at Ag;refine ABj (AC1 rfl rfl (ABo (ABm (⟨_,rfl,fun Aq=>?_,fun Aq=>?_⟩))))
  ·refine ABr (q_t (ABm (ABq (ABj (Wk ?_)))));obtain ⟨Bc,Cr,Ct⟩:=ABl (AC7 Ag Aq);refine AJf (c:=(cI .i64)) ABx rfl Am rfl Cr fun Ds Dt Du Cu Cv=>?_;obtain rfl:=Cu;refine AB4 ACr rfl (ABz (Cv 0 _ rfl) Ac.x) (ACg (ABp (AMd (Wk (Wk ?_)))));obtain ⟨Cw,Ar,Cx⟩:=ABl Ct;refine ADi AB2 rfl (Ac.o2 p0) rfl Ar fun Dv Dw Dx Cy Cz=>AB4 ACm rfl Cz (Wk (Wk (Wk ?_)));obtain ⟨C0,C1⟩:=ifN Cx;refine AG8 rfl rfl C0 (Wk (AC2 rfl rfl (Wk ?_)));obtain ⟨C2,C3⟩:=ifN C1;refine AG8 rfl rfl C2 ?_;obtain ⟨Dy,Be,C4⟩:=ABl C3;refine AEi (m:=Ab) ABx rfl (Ac.o2 p0) Cy Ar rfl Be fun Dz C5=>AJg (m:=Ab) (AGb ACr rfl rfl rfl) (Ac.o2 p0) C5 Ar Be (show ((cI .i64)).rep _ (Int.tmod (w64 ((Int.tmod Bc a5) + a5)) a5) _ from rfl) fun D0 C6 C7=>ACj (q_b (q_t (ABw (AC2 rfl rfl (Wk (ABo ?_))))));obtain rfl:=ABk C4;exact ⟨Cq,(((w64 (A7 + 1)),(sI A8 Ab (sI Cw A7 (Int.tmod (w64 ((Int.tmod Bc a5) + a5)) a5))),A9,Ba,Bb):(Int) × (LiI) × LnA × LnN × LvA),Nat.lt_succ_self _,⟨Ap,(Ac.uO2 p0 C7 C6)⟩,rfl,trivial⟩
  ·obtain rfl:=ABk (AC8 Ag Aq);change _=A6 at Ap;subst Ap;refine ACc (ACa (ACa (ADm (q_b (q_t (ABw (AC2 rfl rfl (Wk (ABo ?_)))))))));obtain rfl:=ABk Ck;exact ⟨Bz,(((w64 (Ab + 1)),A8,A9,Ba,Bb):(Int) × (LiI) × LnA × LnN × LvA),Nat.lt_succ_self _,⟨Aj,Ac⟩,rfl,trivial⟩
 ·obtain rfl:=ABk (AC8 Ae Ak);change _=Az at Aj;subst Aj;refine ACc (ACa (ACa (ADm (q_t (ABj (Wk (ABp (ABs ?_))))))));obtain rfl:=ABk Br;exact ⟨_,ABu,Ad.x,_,_,_,_,rfl,(Ad.o2 p0),Ad.s.sel [0] (by decide)⟩
def AE7 (fuel:Nat) (a3:LiI) (a5:Int):Option (LiI × Int):=
  ((AHj fuel a3).bind fun x6=>(if (!x6)=true then (some ([],3)) else ((AEl fuel a5).bind fun Ac=>(if ¬ Ac=0 then (some ([],Ac)) else ((AFs fuel a3 a5).bind fun Ae=>(some (Ae,0)))))))
theorem AKq {fuel:Nat} {h:ABh} {Ag:Value} {a3:LiI} {a5:Int} {r:(LiI × Int)} (H2:AGe (cI .i64) h Ag a3) (hp:AE7 fuel a3 a5=some r):ACd Tryz.prog 36 #[Ag,(.int .i64 a5)] h (fun x h'=>Ext h h'/\ ∃ (x0:Value) (F0:List Nat) (Au:List LnA) (Av:List Value),x= .tuple #[x0,.int .i64 r.2]/\AFe (cI .i64) 23 2 h' F0 Au Av x0 r.1/\Sp h' h.size [F0]):=by
 unfold AE7 at hp;refine cwf (l:=[_,_]) Tryz.func36 rfl rfl (ABj (ACg (ABp (ABm (ABj (Wk ?_))))));have K0:=Kst.k0 h;obtain ⟨x6,Aw,Ap⟩:=ABl hp;refine AC4 rfl (AO8 (H2.ext K0.x) Aw) fun Bc Be E9 Ay=>?_;subst Ay;refine AGr rfl (ABo ?_);have Aq:=K0.e E9;refine ⟨_,rfl,fun Aa=>?_,fun Aa=>?_⟩
 ·refine ABj (ACg (ABp (ABs (AB1 ?_))));have Ab:=Kst.anil2 (cI .i64) 23 2 Aq;obtain rfl:=ABk (ifT Ap Aa);exact ⟨_,ADb,Ab.x,_,_,_,_,rfl,(Ab.o2 p0),Ab.s.sel [0] (by decide)⟩
 ·refine ABr (q_t (ABm (ABj (Wk ?_))));obtain ⟨Bf,Az,Ar⟩:=ABl (ALo Ap Aa);refine AC4 rfl (ALj Az) fun Bg Bh A3 A4=>?_;subst A4;refine ACu (Wk (AHe rfl rfl (ABo ?_)));have Ac:=Aq.e A3;refine ⟨_,rfl,fun Ad=>?_,fun Ad=>?_⟩
  ·refine ABj (Wk (ACg (ABp (ABs (AB1 ?_)))));have Ae:=Kst.anil2 (cI .i64) 23 2 Ac;obtain rfl:=ABk (AC7 Ar Ad);exact ⟨_,ADb,Ae.x,_,_,_,_,rfl,(Ae.o2 p0),Ae.s.sel [0] (by decide)⟩
  ·refine ABr (q_t (ABj (Wk (Wk ?_))));obtain ⟨Bi,A5,A6⟩:=ABl (AC8 Ar Ad);refine AC4 rfl (AM1 (H2.ext Ac.x) A5) fun Bj Bl A7 A8=>?_;obtain ⟨Bm,Bn,Bo,Bp,rfl,A9,Ba⟩:=A8;refine ACg (ABp (ABs ?_));have Af:=Ac.no2 A7 Ba A9;obtain rfl:=ABk A6;exact ⟨_,ADb,Af.x,_,_,_,_,rfl,(Af.o2 p0),Af.s.sel [0] (by decide)⟩
end Go.Proofs.YtiegjkmfpcgjjaaGreatDoor
namespace Go.Proofs.YtiegjkmfpcgjjaaGreatDoor
open Go Go.QF
set_option maxRecDepth 100000
theorem ARt {α β:Type} {L:List α} {n:Nat} {x:α} {f:α->Option β} (hx:L[n]? =some x):(gI L (n:Int)).bind f=f x:=by
 unfold gI;rw [if_pos (by omega),Int.toNat_natCast,hx];rfl
theorem Apd {α β:Type} {L:List α} {x:α} {f:α->Option β} (hx:L[0]? =some x):(gI L 0).bind f=f x:=ARt (n:=0) hx
theorem AId {i:Nat} (h:i<=1000000000):w64 ((i:Int) + 1)=((i + 1:Nat):Int):=by rw [wk (by omega)];omega
theorem AZg {n i r:Nat} {G:Nat->Nat->Int} {g g':Nat->Int} (h:∀ c,c < n->g c=g' c):part n i (ADe G r g)=part n i (ADe G r g'):=by
 unfold part;refine ACw fun k _=>?_;split
 ·refine ACw fun c hc=>?_;by_cases hk:k=r
  ·subst hk;rw [AC5,AC5,h c hc]
  ·rw [AD3 _ _ hk,AD3 _ _ hk]
 ·rfl
theorem Ape {n i:Nat} {F:Nat->Nat->Int} {g:Nat->Int} (h:∀ c,c < n->g c=F i c):part n (i + 1) (ADe F i g)=part n (i + 1) F:=by
 rw [AZg h,AM4]
theorem Ass {body:Int × List (List Int)->Option ((Int × List (List Int)) ⊕ List (List Int))} {fuel n i:Nat} {G:Nat->Nat->Int} (v:Nat->Int) (hf:n < fuel)
    (hs:∀ (j:Nat) (g:Nat->Int),j < n->g j=G i j->body ((j:Int),part n (i + 1) (ADe G i g))=some (.inl (((j + 1:Nat):Int),part n (i + 1) (ADe G i fun c=>if c=j then v j else g c))))
    (he:∀ X,body ((n:Int),X)=some (.inr X)):iter body fuel (0,part n (i + 1) G)=some (part n (i + 1) (ADe G i v)):=by
  apply ok_eq
  refine ACz (fun j s=>s=((j:Int),part n (i + 1) (ADe G i fun c=>if c < j then v c else G i c))) n ?_ hf fun j s hj hI=>?_
  · have:(fun c=>if c < 0 then v c else G i c)=G i:=funext fun c=>if_neg (by omega);rw [this,AM4];rfl
  · subst hI
    by_cases h:j < n
    · rw [hs j _ h (if_neg (by omega))];refine ABi ⟨h,?_⟩;refine congrArg (fun z=>(((j + 1:Nat):Int),part n (i + 1) (ADe G i z))) (funext fun c=>?_)
      by_cases h1:c=j
      · rw [if_pos h1,if_pos (by omega),h1]
      · rw [if_neg h1]
        by_cases h2:c < j
        · rw [if_pos h2,if_pos (by omega)]
        · rw [if_neg h2,if_neg (by omega)]
    · obtain rfl:j=n:=by omega
      rw [he];exact ABi (AZg fun c hc=>if_pos hc)
theorem Apf {body:Int × List (List Int)->Option ((Int × List (List Int)) ⊕ List (List Int))} {fuel n:Nat} (F:Nat->Nat->Int) (hf:n < fuel)
    (hs:∀ i:Nat,i < n->body ((i:Int),part n i F)=some (.inl (((i + 1:Nat):Int),part n (i + 1) F))) (he:∀ X,body ((n:Int),X)=some (.inr X)):iter body fuel (0,List.replicate n ([]:List Int))=some (tab n n F):=by
  apply ok_eq;refine ACz (fun i s=>s=((i:Int),part n i F)) n (by rw [AOs n F];rfl) hf fun i s hi hI=>?_;subst hI
  by_cases h:i < n
  · rw [hs i h];exact ABi ⟨h,rfl⟩
  · obtain rfl:i=n:=by omega
    rw [he];exact ABi (AOr _ _)
theorem Aa8 {x m:Int} (hm:2<=m) (Ab:m<=2147483647):Int.tmod (w64 (Int.tmod x m + m)) m=x % m:=by
 have h1:=Int.tmod_lt_of_pos x (show 0 < m by omega);have h2:=Int.tmod_lt_of_pos (-x) (show 0 < m by omega);rw [Int.neg_tmod] at h2;rw [wk (by omega),Int.tmod_eq_emod_of_nonneg (by omega),Int.add_emod_right,Int.tmod_def,Int.sub_mul_emod_self_left]
theorem Apg {fuel n:Nat} {F:Nat->Nat->Int} {m:Int} (hn:n<=8) (hm:2<=m) (Aa:m<=2147483647) (hf:100 < fuel):AFs fuel (tab n n F) m=some (tab n n fun i j=>F i j % m):=by
 unfold AFs;rw [ADf,if_pos (by omega),Int.toNat_natCast,Apf (n:=n) (fun i j=>F i j % m) (by omega) (fun i hi=>?_) fun X=>?_]
 ·rfl
 ·unfold AIh;dsimp only;rw [ADf,if_pos (by omega),ARt (ADg hi),ADj,if_pos (by omega),ARt (ATh hi),ADv,Int.toNat_natCast,AHs n (0:Int),AQq,Ass (n:=n) (fun j=>F i j % m) (by omega) (fun j g hj hg=>?_) fun X=>?_]
  ·dsimp only [Option.bind_some];rw [AV1,Ape fun c _=>rfl,AId (by omega)]
  ·unfold AIg;dsimp only;rw [ADj,if_pos (by omega),ARt (ACp hj),ARt (AMp (by omega) hi),if_pos (by omega),if_pos (by omega),AC5,ARt (ACp hj),Aa8 hm Aa,ADv,ADv,AE6,ANo (by omega),AV1,AId (by omega)]
  ·unfold AIg;dsimp only;rw [ADj,if_neg (by omega)]
 ·unfold AIh;dsimp only;rw [ADf,if_neg (by omega)]
end Go.Proofs.YtiegjkmfpcgjjaaGreatDoor
namespace Go.Proofs.YtiegjkmfpcgjjaaGreatDoor
open Go Go.QF
set_option maxRecDepth 100000
set_option maxHeartbeats 4000000
def ALd (fuel:Nat) (Ac Ad Af:Int) (Ag:LiA) (Ah Ai Aa:Int) (Ab:LiI):Option ((Int × LiI) ⊕ ((LiI))):=
  (if Aa < (Ag.length:Int) then ((gI Ab Af).bind fun Aj=>((gI Aj Aa).bind fun Ak=>((gI Ab Ad).bind fun Ae=>((gI Ae Aa).bind fun Am=>(if Ac≠0 then (some (Sum.inl ((w64 (Aa + 1)),(sI Ab Ad (sI Ae Aa (Int.tmod (w64 (Am + (w64 ((w64 (Ac - (w64 (Int.tdiv Ai Ah)))) * Ak)))) Ac)))))) else none))))) else (some (Sum.inr<| Ab)))
def ALe (fuel:Nat) (Ah Aa Ab Af:Int) (Ac:LiI):Option ((Int × LiI) ⊕ ((Int × LiI))):=
  ((gI Ac Ab).bind fun Ag=>((gI Ag Aa).bind fun Ad=>(if ¬ Ad=0 then ((gI Ac Aa).bind fun Ai=>((gI Ai Aa).bind fun Aj=>(if Ad≠0 then ((((iter (fun s=>ALd fuel Ah Aa Ab Ag Ad Aj s.1 s.2) fuel (0,Ac)).bind (fun (Ak:LiI)=>(some ( Ak)))):Option (LiI)).bind fun Ae=>((gI Ae Ab).bind fun Am=>((gI Ae Aa).bind fun Ao=>(some (Sum.inl ((w64 (0 - Af)),(sI (sI Ae Aa Am) Ab Ao))))))) else none))) else (some (Sum.inr<| (Af,Ac))))))
def ANa (fuel:Nat) (Ad Ae Ac Aa:Int) (Ab:LiI):Option ((Int × Int × LiI) ⊕ ((Int × LiI))):=
  (if Aa < (Ab.length:Int) then ((iter (fun s=>ALe fuel Ad Ae Aa s.1 s.2) fuel (Ac,Ab)).bind (fun ((Af,Ag):Int × LiI)=>(some (Sum.inl (Af,(w64 (Aa + 1)),Ag))))) else (some (Sum.inr<| (Ac,Ab))))
def ANb (fuel:Nat) (Ad:LiI) (Ae Ab Aa:Int) (Ac:LiI):Option ((Int × Int × LiI) ⊕ ((Int × LiI))):=
  (if Aa < (Ad.length:Int) then ((iter (fun s=>ANa fuel Ae Aa s.1 s.2.1 s.2.2) fuel (Ab,(w64 (Aa + 1)),Ac)).bind (fun ((Af,Ag):Int × LiI)=>(some (Sum.inl (Af,(w64 (Aa + 1)),Ag))))) else (some (Sum.inr<| (Ab,Ac))))
def ANc (fuel:Nat) (a5:Int) (Ac:LiI) (Ad Ab:Int):Option ((Int × Int) ⊕ ((Int))):=
  (if Ab < (Ac.length:Int) then ((gI Ac Ab).bind fun Ae=>(if a5≠0 then ((gI Ae Ab).bind fun Af=>(if a5≠0 then (some (Sum.inl ((Int.tmod (w64 ((Int.tmod Ad a5) * Af)) a5),(w64 (Ab + 1))))) else none)) else none)) else (some (Sum.inr<| Ad)))
def AGx (fuel:Nat) (a3:LiI) (a5:Int):Option (Int × Int):=
  ((AKe fuel a3).bind fun x6=>(if (!x6)=true then (some (0,3)) else ((AEl fuel a5).bind fun Ac=>(if ¬ Ac=0 then (some (0,Ac)) else ((AFs fuel a3 a5).bind fun Ad=>(((((some ( a5)):Option (Int)).bind fun Af=>((iter (fun s=>ANb fuel Ad Af s.1 s.2.1 s.2.2) fuel (1,0,Ad)).bind (fun ((Ag,Ah):Int × LiI)=>(some ( (Ag,Ah)))))):Option (Int × LiI)).bind fun (Ai,Aj)=>((iter (fun s=>ANc fuel a5 Aj s.1 s.2) fuel ((w64 (Ai + a5)),0)).bind (fun (Ak:Int)=>(some (Ak,0))))))))))
theorem AQs {fuel:Nat} {h:ABh} {Bq:Value} {a3:LiI} {a5:Int} {r:(Int × Int)} (H2:AGe (cI .i64) h Bq a3) (hp:AGx fuel a3 a5=some r):ACd Tryz.prog 48 #[Bq,(.int .i64 a5)] h (fun x h'=>Ext h h'/\x= .tuple #[.int .i64 r.1,.int .i64 r.2]):=by
 unfold AGx at hp;refine cwf (l:=[_,_]) Tryz.func48 rfl rfl (ABj (ACg (ABp (ABm (ABj (Wk ?_))))));have K0:=Kst.k0 h;obtain ⟨x6,Cx,Bv⟩:=ABl hp;refine AC4 rfl (AUd (H2.ext K0.x) Cx) fun Hk Hl E9 Cz=>?_;subst Cz;refine AGr rfl (ABo ?_);have Bw:=K0.e E9;refine ⟨_,rfl,fun Ay=>?_,fun Ay=>?_⟩
 ·refine ABj (ACg (ABp (ABs (AB1 ?_))));obtain rfl:=ABk (ifT Bv Ay);exact ⟨_,ADb,Bw.x,rfl⟩
 ·refine ABr (q_t (ABm (ABj (Wk ?_))));obtain ⟨Hm,C0,Bx⟩:=ABl (ALo Bv Ay);refine AC4 rfl (ALj C0) fun Hn Ho C1 C2=>?_;subst C2;refine ACu (Wk (AHe rfl rfl (ABo ?_)));have Az:=Bw.e C1;refine ⟨_,rfl,fun A3=>?_,fun A3=>?_⟩
  ·refine ABj (Wk (ACg (ABp (ABs (AB1 ?_)))));obtain rfl:=ABk (AC7 Bx A3);exact ⟨_,ADb,Az.x,rfl⟩
  ·refine ABr (q_t (ABj (Wk (Wk ?_))));obtain ⟨C3,C4,C5⟩:=ABl (AC8 Bx A3);refine AC4 rfl (AM1 (H2.ext Az.x) C4) fun Af Hq C6 C7=>?_;obtain ⟨Hr,C8,C9,Da,rfl,Db,Dc⟩:=C7;refine ACu (Wk (Wk ?_));have A4:=Az.no2 C6 Dc Db;obtain ⟨Dd,De,Df⟩:=ABl C5;refine ACn (K':=(fun xr h'=> ∃ x:(Int) × (LiI) × LnA × LnN × LvA,(x.1,x.2.1)=Dd/\xr=(.int .i64 x.1)/\Kst h h' (A4.L.set 0 (aO2 (cI .i64) 23 2 x.2.2.1 x.2.2.2.1 x.2.2.2.2 Af x.2.1)))) trivial rfl ?_ fun Hs Ht Dg=>?_
   ·refine cwf (l:=[_,_]) Tryz.func73 rfl rfl (ABj (ACu (Wk ?_)));obtain ⟨Dh,Di,Dj⟩:=ABl De;refine ACn (K':=(fun xr h'=> ∃ x:(Nat) × (Int),x.2=Dh/\xr=(.func (.func 105) #[] #[(.pointer (some ⟨x.1,0,none⟩))])/\Kst h h' (aB 2 x.1 [(.int .i64 x.2)] :: A4.L))) trivial rfl ?_ fun Hu Hv Dk=>?_
    ·refine cwf (l:=[_]) Tryz.func74 rfl rfl (ABj (AHz [(.int .i64 a5)] trivial tt2 rfl rfl fun Dl Hw Dn Do Dp=>ACu (At5 rfl (ABp (ABs (⟨_,ABu,((Dl,a5):(Nat) × (Int)),?_,rfl,?_⟩))))))
     ·exact ABk Di
     ·exact (A4.nb Do Dp Dn)
    obtain ⟨⟨Dq,Ao⟩,Dr,rfl,A5⟩:=Dk;refine ⟨trivial,?_⟩;subst Dr;refine ACu (ABp (ABm (ABj (Wk (ADn AB2 rfl (A5.o2 p1).rd (Wk (ABo (ABq ?_))))))));obtain ⟨By,Ds,Dt⟩:=ABl Dj;obtain ⟨Du,Dv,Dw⟩:=ACl Ds;refine ACk 18889465931478580847040 (fun x:(Int) × (Int) × (LiI) × LnA × LnN × LvA=>[(6,(.int .i64 x.1)),(13,(.int .i64 x.2.1))]) (fun k x h'=>iter Du k (x.1,x.2.1,x.2.2.1)=some By/\Kst h h' (A5.L.set 1 (aO2 (cI .i64) 23 2 x.2.2.2.1 x.2.2.2.2.1 x.2.2.2.2.2 Af x.2.2.1))) (by kernel_rfl) fuel ((1,0,C3,C8,C9,Da):(Int) × (Int) × (LiI) × LnA × LnN × LvA) ?_ ⟨rfl,rfl,trivial⟩ ?_
    ·exact ⟨Dw,A5⟩
    rintro Hx ⟨Bz,Ac,B1,B2,B3,B4⟩ Hy Hz ⟨Dx,A6⟩;obtain ⟨Dy,H5,rfl,Ag,A7⟩:=AB7 Dx;rw [Dv] at Ag;dsimp only at Ag;unfold ANb at Ag;refine ABj (AC1 rfl rfl (ABo (ABm (⟨_,rfl,fun A8=>?_,fun A8=>?_⟩))))
    ·refine ABr (q_t (ABm (ABq (ABj (Wk (ACu (Wk (AC2 rfl rfl (ABp (ABq ?_))))))))));obtain ⟨B5,Dz,D0⟩:=ABl (AC7 Ag A8);obtain ⟨D1,D2,D3⟩:=ACl Dz;refine ACk 9444732965739290165568 (fun x:(Int) × (Int) × (LiI) × LnA × LnN × LvA=>[(6,(.int .i64 x.1)),(8,(.int .i64 x.2.1))]) (fun k x h'=>iter D1 k (x.1,x.2.1,x.2.2.1)=some B5/\Kst h h' (A6.L.set 1 (aO2 (cI .i64) 23 2 x.2.2.2.1 x.2.2.2.2.1 x.2.2.2.2.2 Af x.2.2.1))) (by kernel_rfl) fuel ((Bz,(w64 (Ac + 1)),B1,B2,B3,B4):(Int) × (Int) × (LiI) × LnA × LnN × LvA) ?_ ⟨rfl,rfl,trivial⟩ ?_
     ·exact ⟨D3,A6⟩
     rintro H9 ⟨B6,Ah,B7,B8,B9,Ca⟩ Ia Ib ⟨D4,Ap⟩;obtain ⟨D5,Ic,rfl,Ai,A9⟩:=AB7 D4;rw [D2] at Ai;dsimp only at Ai;unfold ANa at Ai;refine ABm (ABj (Wk (Wk (ADn AB2 rfl (Ap.o2 p1).rd (AC1 rfl rfl (ABo (⟨_,rfl,fun Ba=>?_,fun Ba=>?_⟩)))))))
     ·refine ABr (q_t (ABm (ABq (ABq ?_))));obtain ⟨Cb,D6,D7⟩:=ABl (AC7 Ai Ba);obtain ⟨D8,D9,Ea⟩:=ACl D6;refine ACk 9444732965739273650240 (fun x:(Int) × (LiI) × LnA × LnN × LvA=>[(6,(.int .i64 x.1))]) (fun k x h'=>iter D8 k (x.1,x.2.1)=some Cb/\Kst h h' (Ap.L.set 1 (aO2 (cI .i64) 23 2 x.2.2.1 x.2.2.2.1 x.2.2.2.2 Af x.2.1))) (by kernel_rfl) fuel ((B6,B7,B8,B9,Ca):(Int) × (LiI) × LnA × LnN × LvA) ?_ ⟨rfl,trivial⟩ ?_
      ·exact ⟨Ea,Ap⟩
      rintro Id ⟨Cd,Ce,Bb,Bc,Be⟩ Ie If ⟨Eb,Aa⟩;obtain ⟨Ec,Ih,rfl,Aq,Bf⟩:=AB7 Eb;rw [D9] at Aq;dsimp only at Aq;unfold ALe at Aq;refine ABm (ABj (Wk (Wk ?_)));obtain ⟨Ii,Ad,Ed⟩:=ABl Aq;refine ADi AB2 rfl (Aa.o2 p1) rfl Ad fun Ij Ik Il Ee Ef=>AB4 ACm rfl Ef (Wk ?_);obtain ⟨Bg,Ar,Cf⟩:=ABl Ed;refine AEi (m:=Ah) ABx rfl (Aa.o2 p1) Ee Ad rfl Ar fun Im Eg=>?_;obtain ⟨Io,Eh,Ei⟩:=(Aa.o2 p1).cells Eg Ad Ar;obtain rfl:=Eh;refine AB4 ACr rfl (Ei 0 _ rfl) (AHe rfl rfl (ABo (⟨_,rfl,fun Bh=>?_,fun Bh=>?_⟩)))
      ·refine ABr (q_t (ABq (ABm (AMd (Wk (Wk (Wk ?_)))))));obtain ⟨Ip,Au,Ej⟩:=ABl (AC7 Cf Bh);refine ADi AB2 rfl (Aa.o2 p1) rfl Au fun Iq Ek Ir Cg El=>AB4 ACm rfl El (Wk (Wk (ADi AB2 rfl (Aa.o2 p1) rfl Ad fun It Em Iu Ch En=>AB4 ACm rfl En (Wk (Wk (ADi AB2 rfl (Aa.o2 p1) rfl Au fun Iv Iw Ix Eo Ep=>AB4 ACm rfl Ep (Wk ?_)))))));obtain ⟨Bi,Ci,Er⟩:=ABl Ej;refine AEi (m:=Ac) ABx rfl (Aa.o2 p1) Eo Au rfl Ci fun Iy Es=>?_;obtain ⟨Iz,Et,Eu⟩:=(Aa.o2 p1).cells Es Au Ci;obtain rfl:=Et;refine AB4 ACr rfl (Eu 0 _ rfl) (Wk (Wk (ADi AB2 rfl (Aa.o2 p1) rfl Ad fun I0 I1 I2 Ev Ew=>AB4 ACm rfl Ew (Wk (AEi (m:=Ah) ABx rfl (Aa.o2 p1) Ev Ad rfl Ar fun I3 Ey=>?_)))));obtain ⟨I6,Ez,Fa⟩:=(Aa.o2 p1).cells Ey Ad Ar;obtain rfl:=Ez;refine AB4 ACr rfl (Fa 0 _ rfl) ?_;obtain ⟨Fb,Fc⟩:=ifN Er;refine ATn rfl rfl Fb ?_;obtain ⟨Fd,Fe,Ff⟩:=ABl Fc;refine Abe (l:=[Ek,Em,(.int .i64 (w64 (Int.tdiv Bi Bg)))]) (cl:=[(.pointer (some ⟨Dq,0,none⟩))]) (K':=(fun xr h'=> ∃ x:(LiI),x=Fd/\xr= .tuple #[]/\Kst h h' (Aa.L.set 1 (aO2 (cI .i64) 23 2 Bb Bc Be Af x)))) trivial rfl rfl ?_ fun I7 I9 Fg=>?_
       ·refine cwf (l:=[_,_,_,_]) Tryz.func105 rfl rfl (ABj (Wk (AD1 ABx rfl ((Aa.o2 p1).rowI Ch Ad) (Wk (ABo (ABq ?_))))));obtain ⟨Cj,Fh,Fi⟩:=ABl Fe;obtain ⟨Fj,Fk,Fl⟩:=ACl Fh;refine ACk 4294965632 (fun x:(Int) × (LiI)=>[(11,(.int .i64 x.1))]) (fun k x h'=>iter Fj k (x.1,x.2)=some Cj/\Kst h h' (Aa.L.set 1 (aO2 (cI .i64) 23 2 Bb Bc Be Af x.2))) (by kernel_rfl) fuel ((0,Ce):(Int) × (LiI)) ?_ ⟨rfl,trivial⟩ ?_
        ·exact ⟨Fl,Aa⟩
        rintro Ja ⟨Ck,Cm⟩ Jc Je ⟨Fm,Ab⟩;obtain ⟨Fo,Jf,rfl,Aj,Bj⟩:=AB7 Fm;rw [Fk] at Aj;dsimp only at Aj;unfold ALd at Aj;refine ABj (AC1 rfl rfl (ABo (ABm (⟨_,rfl,fun Bl=>?_,fun Bl=>?_⟩))))
        ·refine ABr (q_t (ABm (ABq (ABj (Wk ?_)))));obtain ⟨Jg,Cn,Fp⟩:=ABl (AC7 Aj Bl);obtain ⟨Co,Cp,Fq⟩:=ABl Fp;refine AEi (m:=Ah) ABx rfl (Ab.o2 p1) Ch Cn rfl Cp fun Jh Fr=>?_;obtain ⟨Ji,Ft,Fu⟩:=(Ab.o2 p1).cells Fr Cn Cp;obtain rfl:=Ft;refine AB4 ACr rfl (Fu 0 _ rfl) (ACg (ABp (AMd (Wk (Wk (Wk (Wk ?_)))))));obtain ⟨Fv,Av,Fw⟩:=ABl Fq;obtain ⟨Cq,Aw,Fx⟩:=ABl Fw;refine AEi (m:=Ac) ABx rfl (Ab.o2 p1) Cg Av rfl Aw fun Jj Fy=>?_;obtain ⟨Jk,Fz,F4⟩:=(Ab.o2 p1).cells Fy Av Aw;obtain rfl:=Fz;refine AB4 ACr rfl (F4 0 _ rfl) (AB4 ACr rfl ((Ab.b p0).cell (i:=0) rfl) (Wk (AF8 rfl rfl (Wk (AMv rfl rfl (AC2 rfl rfl (AB4 ACr rfl ((Ab.b p0).cell (i:=0) rfl) ?_)))))));obtain ⟨F5,F6⟩:=ifN Fx;refine AG8 rfl rfl F5 (AEi (m:=Ac) ABx rfl (Ab.o2 p1) Cg Av rfl Aw fun Jl F7=>AJg (m:=Ac) (AGb ACr rfl rfl rfl) (Ab.o2 p1) F7 Av Aw (show ((cI .i64)).rep _ (Int.tmod (w64 (Cq + (w64 ((w64 (Ao - (w64 (Int.tdiv Bi Bg)))) * Co)))) Ao) _ from rfl) fun Jm F8 F9=>ACj (q_b (q_t (ABw (AC2 rfl rfl (Wk (ABo ?_)))))));obtain rfl:=ABk F6;exact ⟨Fo,(((w64 (Ck + 1)),(sI Cm Ac (sI Fv Ck (Int.tmod (w64 (Cq + (w64 ((w64 (Ao - (w64 (Int.tdiv Bi Bg)))) * Co)))) Ao)))):(Int) × (LiI)),Nat.lt_succ_self _,⟨Bj,(Ab.uO2 p1 F9 F8)⟩,rfl,trivial⟩
        ·obtain rfl:=ABk (AC8 Aj Bl);change _=Cj at Bj;subst Bj;refine ACc (ACa (ACa (ADm (⟨_,ASy,(Cm:(LiI)),?_,rfl,?_⟩))))
         ·exact ABk Fi
         ·exact Ab
       obtain ⟨Ga,Gb,rfl,Ax⟩:=Fg;refine ⟨trivial,?_⟩;subst Gb;refine ABo (ABm (AMd (Wk (Wk (Wk (Wk (Wk (Wk ?_))))))));obtain ⟨Gc,Cr,Gd⟩:=ABl Ff;refine ADi AB2 rfl (Ax.o2 p1) rfl Cr fun Jn Jo Jp Ge Gf=>AB4 ACm rfl Gf (Wk (Wk ?_));obtain ⟨Gg,Ct,Gh⟩:=ABl Gd;refine ADi AB2 rfl (Ax.o2 p1) rfl Ct fun Jq Jr Js Gi Gj=>AB4 ACm rfl Gj (AT8 AB2 ACm (Ax.o2 p1) Gi Ge Ct Cr rfl rfl (fun _=>rfl) (fun _=>rfl) (fun _=>rfl) (fun _ _=>rfl) fun Jt Ju Gk Gl Gm Jv Gn Gp Gq=>ABo (ABw (Wk (ASe rfl (ACg (ACj (q_b (q_t ?_))))))));obtain rfl:=ABk Gh;exact ⟨Ec,(((w64 (0 - Cd)),(sI (sI Ga Ac Gc) Ah Gg),Gk,Gl,Gm):(Int) × (LiI) × LnA × LnN × LvA),Nat.lt_succ_self _,⟨Bf,(Ax.uo2 p1 Gp Gn Gq)⟩,rfl,trivial⟩
      ·obtain rfl:=ABk (AC8 Cf Bh);change _=Cb at Bf;subst Bf;refine ACc (ACa (ACa (ADm (q_b (q_t (ABw (Wk (AC2 rfl rfl (ABp ?_)))))))));obtain rfl:=ABk D7;exact ⟨D5,((Cd,(w64 (Ah + 1)),Ce,Bb,Bc,Be):(Int) × (Int) × (LiI) × LnA × LnN × LvA),Nat.lt_succ_self _,⟨A9,Aa⟩,rfl,rfl,trivial⟩
     ·obtain rfl:=ABk (AC8 Ai Ba);change _=B5 at A9;subst A9;refine ACc (ACa (ACa (ADm (q_b (q_t (ABw (AC2 rfl rfl (Wk (ABo ?_)))))))));obtain rfl:=ABk D0;exact ⟨Dy,((B6,(w64 (Ac + 1)),B7,B8,B9,Ca):(Int) × (Int) × (LiI) × LnA × LnN × LvA),Nat.lt_succ_self _,⟨A7,Ap⟩,rfl,rfl,trivial⟩
    ·obtain rfl:=ABk (AC8 Ag A8);change _=By at A7;subst A7;refine ACc (ACa (ACa (ADm (q_t (ABj (Wk (ABp (ABs (⟨_,ABu,((Bz,B1,B2,B3,B4):(Int) × (LiI) × LnA × LnN × LvA),?_,rfl,?_⟩)))))))))
     ·exact ABk Dt
     ·exact A6.sel [1] (by decide)
   obtain ⟨⟨Gr,Jw,Jx,Jy,Jz⟩,Gt,rfl,Bm⟩:=Dg;refine ⟨trivial,?_⟩;subst Gt;refine Wk (AC2 rfl rfl (ABp (ABm (ABj (Wk (ADn AB2 rfl (Bm.o2 p0).rd (Wk (ABo (ABq ?_)))))))));obtain ⟨Cu,Gu,Gv⟩:=ABl Df;obtain ⟨Gw,Gx,Gy⟩:=ACl Gu;refine ACk 35183835219712 (fun x:(Int) × (Int)=>[(8,(.int .i64 x.1)),(29,(.int .i64 x.2))]) (fun k x h'=>iter Gw k (x.1,x.2)=some Cu/\Kst h h' (Bm.L)) (by kernel_rfl) fuel (((w64 (Gr + a5)),0):(Int) × (Int)) ?_ ⟨rfl,rfl,trivial⟩ ?_
   ·exact ⟨Gy,Bm⟩
   rintro J0 ⟨Gz,Cv⟩ J1 J2 ⟨G3,Ak⟩;obtain ⟨G4,J3,rfl,Am,Bn⟩:=AB7 G3;rw [Gx] at Am;dsimp only at Am;unfold ANc at Am;refine ABj (AC1 rfl rfl (ABo (ABm (⟨_,rfl,fun Bo=>?_,fun Bo=>?_⟩))))
   ·refine ABr (q_t (ABm (ABq (ABj (Wk ?_)))));obtain ⟨J4,Bp,G5⟩:=ABl (AC7 Am Bo);refine ADi AB2 rfl (Ak.o2 p0) rfl Bp fun J5 J6 J7 G6 G7=>AB4 ACm rfl G7 (ACg (ABp (AMd (Wk (Wk ?_)))));obtain ⟨G8,G9⟩:=ifN G5;refine AG8 rfl rfl G8 (Wk (Wk ?_));obtain ⟨Hb,Cw,Hc⟩:=ABl G9;refine AEi (m:=Cv) ABx rfl (Ak.o2 p0) G6 Bp rfl Cw fun J8 Hd=>?_;obtain ⟨J9,He,Hf⟩:=(Ak.o2 p0).cells Hd Bp Cw;obtain rfl:=He;refine AB4 ACr rfl (Hf 0 _ rfl) (AMv rfl rfl (Wk ?_));obtain ⟨Hg,Hh⟩:=ifN Hc;refine AG8 rfl rfl Hg (ACg (ACj (q_b (q_t (ABw (AC2 rfl rfl (Wk (ABo ?_))))))));obtain rfl:=ABk Hh;exact ⟨G4,(((Int.tmod (w64 ((Int.tmod Gz a5) * Hb)) a5),(w64 (Cv + 1))):(Int) × (Int)),Nat.lt_succ_self _,⟨Bn,Ak⟩,rfl,rfl,trivial⟩
   ·obtain rfl:=ABk (AC8 Am Bo);change _=Cu at Bn;subst Bn;refine ACc (ACa (ACa (ADm (q_t (ABj (Wk (ACg (ABp (ABs ?_)))))))));obtain rfl:=ABk Gv;exact ⟨_,ADb,Ak.x,rfl⟩
end Go.Proofs.YtiegjkmfpcgjjaaGreatDoor
namespace Go.Proofs.YtiegjkmfpcgjjaaGreatDoor
open Go Go.QF
set_option maxRecDepth 100000
theorem Aph {E:Type} {body:Int->Option (Int ⊕ E)} {fuel n:Nat} {e:E} (hf:n < fuel) (hs:∀ i:Nat,i < n->body (i:Int)=some (.inl ((i + 1:Nat):Int))) (he:body (n:Int)=some (.inr e)):iter body fuel 0=some e:=by
 apply ok_eq;refine ACz (fun i s=>s=(i:Int)) n rfl hf fun i s hi hI=>?_;subst hI;by_cases h:i < n
 ·rw [hs i h];exact ABi ⟨h,rfl⟩
 ·obtain rfl:i=n:=by omega
  rw [he];exact ABi rfl
theorem Afk {fuel n:Nat} {F:Nat->Nat->Int} (Aa:1<=n) (hn:n<=8) (hf:100 < fuel):AHj fuel (tab n n F)=some true:=by
 unfold AHj;rw [ADf,if_neg (by omega),if_neg (by omega),Apd (ADg (by omega)),ADj,if_neg (by omega),if_neg (by omega)];simp only [Option.bind_some];rw [Aph (n:=n) (e:= .inr ()) (by omega) (fun i hi=>?_) ?_]
 ·rfl
 ·unfold AJ2;rw [ADf,if_neg (by omega)]
 ·unfold AJ2;rw [ADf,if_pos (by omega),ARt (ADg hi),Apd (ADg (by omega)),ADj,ADj,if_neg (fun h=>h rfl),AId (by omega)]
theorem Ast {n j:Nat} {g:Nat->Int} {x:Int}:sI (AD5 n g) (j:Int) x=AD5 n fun c=>if c=j then x else g c:=by rw [ADv,AE6]
theorem AEc {n i:Nat} {F:Nat->Nat->Int} {g:Nat->Int}:sI (tab n n F) (i:Int) (AD5 n g)=tab n n (ADe F i g):=by
 rw [ADv];exact AHl
theorem Api {n r:Nat} {F:Nat->Nat->Int} {g g':Nat->Int} (h:∀ c,c < n->g c=g' c):tab n n (ADe F r g)=tab n n (ADe F r g'):=AVp fun i j _ hj=>by
  rw [ACq,ACq,h j hj]
structure AZ7 (n:Nat) (m:Int) (A F:Nat->Nat->Int) (s:Int) (c:Nat):Prop where
  sg:s=1∨s= -1
  bd:Bd n n m F
  z:Zc n F c
  d:Eqm m (det n F) (s * det n A)
theorem Asu {m a b x y:Int} (hm:2<=m) (Ab:m<=2147483647) (ha:0<=a/\a < m) (hb:0 < b/\b < m) (hx:0<=x/\x < m) (hy:0<=y/\y < m):Int.tmod (w64 (x + (w64 ((w64 (m - (w64 (Int.tdiv a b)))) * y)))) m=(x + (m - a / b) * y) % m:=by
 have hq:=Amo ha.1 ha.2 hb.1;have h1:Int.tdiv a b=a / b:=Int.tdiv_eq_ediv_of_nonneg ha.1;have h0:0<=(m - a / b) * y:=Int.mul_nonneg (by omega) hy.1;have h2:(m - a / b) * y<=2147483647 * 2147483647:=Int.mul_le_mul (by omega) (by omega) hy.1 (by omega);rw [h1,AFa (x:=a / b) (by omega) (by omega),AFa (x:=m - a / b) (by omega) (by omega),AFa (x:=(m - a / b) * y) (by omega) (by omega),wk (by omega),Int.tmod_eq_emod_of_nonneg (by omega)]
theorem Asv {fuel n c i:Nat} {m:Int} {F:Nat->Nat->Int} (hn:n<=8) (hm:2<=m) (Ac:m<=2147483647) (hc:c < n) (hi:i < n) (hne:c≠i) (hB:Bd n n m F) (h0:F i c≠0) (hf:100 < fuel):
    iter (fun s=>ALd fuel m c i (AD5 n (F i)) (F i c) (F c c) s.1 s.2) fuel (0,tab n n F)=some (tab n n (ADe F c fun x=>(F c x + (m - F c c / F i c) * F i x) % m)):=by
 apply ok_eq;refine ACz (fun j s=>s=((j:Int),tab n n (ADe F c fun x=>if x < j then (F c x + (m - F c c / F i c) * F i x) % m else F c x))) n ?_ (by omega) fun j s hj hI=>?_
 ·have:(fun x=>if x < 0 then (F c x + (m - F c c / F i c) * F i x) % m else F c x)=F c:=funext fun x=>if_neg (by omega);rw [this,AM4];rfl
 ·subst hI;unfold ALd;dsimp only;rw [ADj];by_cases h:j < n
  ·have b1:=hB c c hc hc;have b2:=hB i c hi hc;rw [if_pos (by omega),ARt (ADg hi),AD3 _ _ (Ne.symm hne),ARt (ACp h),ARt (ADg hc),AC5,ARt (ACp h),if_pos (by omega),if_neg (by omega),Asu hm Ac (hB c c hc hc) ⟨by omega,b2.2⟩ (hB c j hc h) (hB i j hi h),Ast,AEc,AV1,AId (by omega)];refine ABi ⟨h,congrArg (fun z=>(((j + 1:Nat):Int),tab n n (ADe F c z))) (funext fun x=>?_)⟩;by_cases h1:x=j
   ·rw [if_pos h1,if_pos (by omega),h1]
   ·rw [if_neg h1];by_cases h2:x < j
    ·rw [if_pos h2,if_pos (by omega)]
    ·rw [if_neg h2,if_neg (by omega)]
  ·obtain rfl:j=n:=by omega
   rw [if_neg (by omega)];exact ABi (Api fun x hx=>if_pos hx)
theorem Alj {n c i:Nat} {m s:Int} {A F:Nat->Nat->Int} (hm:2<=m) (hc:c < n) (hi:i < n) (hci:c < i) (H:AZ7 n m A F s c) (q:Int):AZ7 n m A (ANk F c i q m) (-s) c:=by
 have h1:=(Eqm.refl m 0).sub H.d;rw [Int.zero_sub,Int.zero_sub] at h1;refine ⟨by rcases H.sg with h | h <;> rw [h] <;> simp,Ahz (by omega) H.bd hc hi,Ah0 H.z hci hi,(Ak6 hc hi (by omega)).trans ?_⟩;rw [Int.neg_mul];exact h1
theorem Ahl {fuel n c i:Nat} {m s:Int} {A F:Nat->Nat->Int} (hn:n<=8) (hm:2<=m) (Ab:m<=2147483647) (hc:c < n) (hi:i < n) (hci:c < i) (H:AZ7 n m A F s c) (hZ:Zi F c i) (hf:2147483648 < fuel):
    Ok (iter (fun s=>ALe fuel m c i s.1 s.2) fuel (s,tab n n F)) fun e=> ∃ s' F',e=(s',tab n n F')/\AZ7 n m A F' s' c/\Zi F' c i/\F' i c=0:=by
 refine ACz (fun k st=> ∃ s' F',st=(s',tab n n F')/\AZ7 n m A F' s' c/\Zi F' c i/\F' i c + k<=m) m.toNat ⟨s,F,rfl,H,hZ,by have:=H.bd i c hi hc;omega⟩ (by omega) fun k st hk hI=>?_;obtain ⟨s',F',rfl,H',hZ',hk'⟩:=hI;have hB:=H'.bd;have b2:=hB i c hi hc;unfold ALe;dsimp only;rw [ARt (ADg hi),ARt (ACp hc)];refine ACf (fun h=>?_) fun h=>ABi ⟨s',F',rfl,H',hZ',Decidable.not_not.1 h⟩;rw [ARt (ADg hc),ARt (ACp hc),if_pos h,Asv hn hm Ab hc hi (by omega) hB h (by omega)];simp only [Option.bind_some]
 have e1:∀ g,sI (sI (tab n n (ADe F' c g)) (c:Int) (AD5 n (F' i))) (i:Int) (AD5 n g)=tab n n (AFj (ADe F' c g) c i):=fun g=>by
   rw [AEc,AEc]
   unfold AFj
   rw [AC5,AD3 _ _ (show i≠c by omega)]
 have b1:=hB c c hc hc;rw [ARt (ADg hi),AD3 _ _ (show i≠c by omega),ARt (ADg hc),AC5,e1,AFa (by rcases H'.sg with h | h <;> omega) (by rcases H'.sg with h | h <;> omega),Int.zero_sub];refine ABi ⟨by omega,-s',_,rfl,Alj hm hc hi hci H' _,Ah1 hZ',?_⟩;show ANk F' c i (F' c c / F' i c) m i c + ((k + 1:Nat):Int)<=m;rw [Abn];dsimp only;rw [Ah2 b1.1 b1.2 (by omega) b2.2];have:=Int.emod_lt_of_pos (F' c c) (show 0 < F' i c by omega);omega
theorem Apj {fuel n:Nat} {T:Nat->Nat->Int} {m:Int} (Af:1<=n) (hn:n<=8) (hm:2<=m) (Ad:m<=2147483647) (hf:2147483648 < fuel):AGx fuel (tab n n T) m=some (det n T % m,0):=by
 unfold AGx
 have h0:AKe fuel (tab n n T)=some true:=by
   unfold AKe
   rw [Afk Af hn (by omega)]
   simp only [Option.bind_some,reduceIte]
   rw [Apd (ADg (by omega)),ADj,ADf,if_pos rfl,decide_eq_true (by omega)]
 have h1:AEl fuel m=some 0:=by unfold AEl;rw [if_neg (by omega),if_neg (by omega)]
 rw [h0];simp only [Option.bind_some];rw [if_neg (by decide),h1];simp only [Option.bind_some];rw [if_neg (by decide),Apg hn hm Ad (by omega)];simp only [Option.bind_some];apply ok_eq;generalize hA:(fun i j=>T i j % m)=A;have hAd:Eqm m (det n A) (det n T):=by subst hA;exact ATd fun i j _ _=>Eqm.mod _ _
 have hAb:Bd n n m A:=by subst hA;exact fun i j _ _=>⟨Int.emod_nonneg _ (by omega),Int.emod_lt_of_pos _ (by omega)⟩
 refine ABn (Q:=fun e:Int × List (List Int)=> ∃ F,e.2=tab n n F/\AZ7 n m A F e.1 n) (ABn (ACz (fun c st=> ∃ s F,st=(s,(c:Int),tab n n F)/\c<=n/\AZ7 n m A F s c) n (Q:=fun e:Int × List (List Int)=> ∃ F,e.2=tab n n F/\AZ7 n m A F e.1 n) ⟨1,A,rfl,Nat.zero_le _,.inl rfl,hAb,fun c' i h=>absurd h (Nat.not_lt_zero _),by rw [Int.one_mul];exact Eqm.refl _ _⟩ (by omega) fun c st hc hI=>?_) fun e he=>ABi he) fun e he=>?_
 ·obtain ⟨s,F,rfl,hcn,H⟩:=hI;unfold ANb;dsimp only;rw [ADf];refine ACf (fun h=>?_) fun h=>ABi ⟨F,rfl,(show c=n by omega) ▸ H⟩;have hc':c < n:=by omega
  rw [AId (by omega)];refine ABn (ACz (fun k st=> ∃ s F,st=(s,((c + 1 + k:Nat):Int),tab n n F)/\c + 1 + k<=n/\AZ7 n m A F s c/\Zi F c (c + 1 + k)) (n - (c + 1)) (Q:=fun e:Int × List (List Int)=> ∃ F,e.2=tab n n F/\AZ7 n m A F e.1 (c + 1)) ⟨s,F,rfl,by omega,H,fun k h1 h2=>by omega⟩ (by omega) fun k st hk hI=>?_) fun e he=>?_
  ·obtain ⟨s',F',rfl,hkn,H',hZ'⟩:=hI;unfold ANa;dsimp only;rw [ADf];refine ACf (fun h2=>ABn (Ahl hn hm Ad hc' (by omega) (by omega) H' hZ' hf) fun e he=>?_) fun h2=>ABi ⟨F',rfl,H'.sg,H'.bd,Abp H'.z ((show c + 1 + k=n by omega) ▸ hZ'),H'.d⟩;obtain ⟨s2,F2,rfl,H2,Aj,h3⟩:=he;exact ABi ⟨by omega,s2,F2,by rw [AId (by omega)];rfl,by omega,H2,Abo Aj h3⟩
  ·obtain ⟨e1,e2⟩:=e;obtain ⟨F',h2,H'⟩:=he;dsimp only at h2 H';subst h2;exact ABi ⟨by omega,e1,F',rfl,by omega,H'⟩
 ·obtain ⟨s,M⟩:=e;obtain ⟨F,h2,H⟩:=he;dsimp only at h2 H;subst h2;dsimp only;rw [AFa (by rcases H.sg with h | h <;> omega) (by rcases H.sg with h | h <;> omega)];refine ABn (ACz (fun k st=>st=(AQ8 F m s k,(k:Int))/\k<=n) n (Q:=(· =AQ8 F m s n)) ⟨rfl,Nat.zero_le _⟩ (by omega) fun k st hk hI=>?_) fun e he=>ABi ?_
  ·obtain ⟨rfl,hkn⟩:=hI;unfold ANc;dsimp only;rw [ADf];by_cases h:k < n
   ·have hd:=Aqn (F:=F) (m:=m) (s:=s) hm H.sg k;have hb:=H.bd k k h h;have h3:=Int.emod_nonneg (AQ8 F m s k) (show m≠0 by omega);have h4:=Int.emod_lt_of_pos (AQ8 F m s k) (show 0 < m by omega);have h5:=Int.mul_nonneg h3 hb.1;have h6:AQ8 F m s k % m * F k k<=2147483647 * 2147483647:=Int.mul_le_mul (by omega) (by omega) hb.1 (by omega);rw [if_pos (by omega),ARt (ADg h),if_pos (by omega),ARt (ACp h),if_pos (by omega),Int.tmod_eq_emod_of_nonneg hd.1,AFa (x:=AQ8 F m s k % m * F k k) (by omega) (by omega),Int.tmod_eq_emod_of_nonneg h5,AId (by omega)];exact ABi ⟨h,rfl,by omega⟩
   ·obtain rfl:k=n:=by omega
    rw [if_neg (by omega)];exact ABi rfl
  ·subst he
   have h3:Eqm m (AQ8 F m s n) (det n T):=by
     refine (Aol _).trans ?_
     rw [<- AQm H.z]
     refine ((Eqm.refl m s).mul H.d).trans (Eqm.trans (Eqm.of_eq ?_) hAd)
     rcases H.sg with h | h <;> rw [h] <;> grind
   have h4:0<=AQ8 F m s n/\AQ8 F m s n < m:=by
     obtain ⟨k,rfl⟩:∃ k,n=k + 1:=⟨n - 1,by omega⟩
     unfold AQ8
     exact ⟨Int.emod_nonneg _ (by omega),Int.emod_lt_of_pos _ (by omega)⟩
   unfold Eqm at h3;rw [<- h3,Int.emod_eq_of_lt h4.1 h4.2]
end Go.Proofs.YtiegjkmfpcgjjaaGreatDoor
namespace Go.Proofs.YtiegjkmfpcgjjaaGreatDoor
open Go Go.QF
set_option maxRecDepth 100000
theorem ARu {p:Int} (hp:1<=p) {a b:Nat} (h:a<=b):p ^ a<=p ^ b:=by
 obtain ⟨c,rfl⟩:∃ c,b=a + c:=⟨b - a,by omega⟩;rw [Int.pow_add];have h1:0 < p ^ a:=Int.pow_pos (by omega);have h2:0 < p ^ c:=Int.pow_pos (by omega);have:=Int.mul_le_mul_of_nonneg_left (show 1<=p ^ c by omega) (Int.le_of_lt h1);omega
end Go.Proofs.YtiegjkmfpcgjjaaGreatDoor
namespace Go.Proofs.YtiegjkmfpcgjjaaGreatDoor
open Go Go.QF
set_option maxRecDepth 100000
set_option maxHeartbeats 4000000
def AIv (fuel:Nat) (a1 a2:Int):Option Int:=
  (if a2≠0 then (if a2≠0 then (some (Int.tmod (w64 ((Int.tmod a1 a2) + a2)) a2)) else none) else none)
theorem AO9 {fuel:Nat} {h:ABh} {a1 a2 r:Int} (hp:AIv fuel a1 a2=some r):ACd Tryz.prog 79 #[(.int .i64 a1),(.int .i64 a2)] h (fun x h'=>Ext h h'/\x= .int .i64 r):=by
 unfold AIv at hp;refine cwf (l:=[_,_]) Tryz.func79 rfl rfl (ABj (ACu (Wk (Wk ?_))));obtain ⟨Ac,Ad⟩:=ifN hp;refine AG8 rfl rfl Ac (Wk (AC2 rfl rfl (Wk ?_)));obtain ⟨Ae,Af⟩:=ifN Ad;refine AG8 rfl rfl Ae (ABp (ABs ?_));obtain rfl:=ABk Af;exact ⟨_,ABu,(Kst.k0 h).x,rfl⟩
def AMq (fuel:Nat) (Ac Aa Ab:Int):Option ((Int × Int) ⊕ ((Int × Int))):=
  (if (Int.tmod Aa 2)=0 then (if (Int.tmod Ac 8)=3 then (some (Sum.inl ((w64 (Int.tdiv Aa 2)),(w64 (0 - Ab))))) else (if (Int.tmod Ac 8)=5 then (some (Sum.inl ((w64 (Int.tdiv Aa 2)),(w64 (0 - Ab))))) else (some (Sum.inl ((w64 (Int.tdiv Aa 2)),Ab))))) else (some (Sum.inr<| (Aa,Ab))))
def AMr (fuel:Nat) (Ad Aa Ae:Int):Option ((Int × Int × Int) ⊕ ((Int × Int))):=
  (if ¬ Ad=0 then ((iter (fun s=>AMq fuel Aa s.1 s.2) fuel (Ad,Ae)).bind (fun ((Ab,Ac):Int × Int)=>(((if (Int.tmod Ab 4)=3 then (if (Int.tmod Aa 4)=3 then (some ( (w64 (0 - Ac)))) else (some ( Ac))) else (some ( Ac))):Option ((Int))).bind (fun (Af:Int)=>(if Ab≠0 then (some (Sum.inl ((Int.tmod Aa Ab),Ab,Af))) else none))))) else (some (Sum.inr<| (Aa,Ae))))
def AK7 (fuel:Nat) (a1 a2:Int):Option Int:=
  ((iter (fun s=>AMr fuel s.1 s.2.1 s.2.2) fuel (a1,a2,1)).bind (fun ((Ac,Ad):Int × Int)=>(if ¬ Ac=1 then (some 0) else (some Ad))))
theorem AVc {fuel:Nat} {h:ABh} {a1 a2 r:Int} (hp:AK7 fuel a1 a2=some r):ACd Tryz.prog 80 #[(.int .i64 a1),(.int .i64 a2)] h (fun x h'=>Ext h h'/\x= .int .i64 r):=by
 unfold AK7 at hp;refine cwf (l:=[_,_]) Tryz.func80 rfl rfl (ABj (ACu (ABp (ABm (ABq ?_)))));have K0:=Kst.k0 h;obtain ⟨Ax,A8,Ay⟩:=ABl hp;obtain ⟨A9,Ba,Bb⟩:=ACl A8;refine ACk 137438953443 (fun x:(Int) × (Int) × (Int)=>[(0,(.int .i64 x.1)),(1,(.int .i64 x.2.1)),(5,(.int .i64 x.2.2))]) (fun k x h'=>iter A9 k (x.1,x.2.1,x.2.2)=some Ax/\Kst h h' (K0.L)) (by kernel_rfl) fuel ((a1,a2,1):(Int) × (Int) × (Int)) ?_ ⟨rfl,rfl,rfl,trivial⟩ ?_
 ·exact ⟨Bb,K0⟩
 rintro k9 ⟨Bc,Az,u16⟩ Bw Bx ⟨Be,Ag⟩;obtain ⟨Bf,By,rfl,Ad,Am⟩:=AB7 Be;rw [Ba] at Ad;dsimp only at Ad;unfold AMr at Ad;refine ABm (ABj (Wk (AHe rfl rfl (ABo (⟨_,rfl,fun Ao=>?_,fun Ao=>?_⟩)))))
 ·refine ABr (q_t (ABq (ABm (ABq ?_))));obtain ⟨A3,Bg,Bh⟩:=ABl (AC7 Ad Ao);obtain ⟨Bi,Bj,Bl⟩:=ACl Bg;refine ACk 8388385 (fun x:(Int) × (Int)=>[(0,(.int .i64 x.1)),(5,(.int .i64 x.2))]) (fun k x h'=>iter Bi k (x.1,x.2)=some A3/\Kst h h' (Ag.L)) (by kernel_rfl) fuel ((Bc,u16):(Int) × (Int)) ?_ ⟨rfl,rfl,trivial⟩ ?_
  ·exact ⟨Bl,Ag⟩
  rintro Bz ⟨Ab,Ac⟩ B1 B2 ⟨Bm,Aa⟩;obtain ⟨Ap,B3,rfl,Ae,Af⟩:=AB7 Bm;rw [Bj] at Ae;dsimp only at Ae;unfold AMq at Ae;refine ABm (ABj (Wk (AG8 rfl rfl (by decide) (ADt rfl rfl (ABo (⟨_,rfl,fun Aq=>?_,fun Aq=>?_⟩))))))
  ·refine ABr (q_t (ABq (ABj (Wk (ATn rfl rfl (by decide) (ACu (Wk (AG8 rfl rfl (by decide) (ADt rfl rfl (Wk ?_))))))))));have A4:=AC7 Ae Aq;by_cases Ah:(Int.tmod Az 8)=3
   ·rw [decide_eq_true Ah];refine AJ8 16 true (AB0 rfl (ABo (AB6 rfl (ABw (Wk (ASe rfl (ACg (ACj (q_b (q_t ?_))))))))));obtain rfl:=ABk (ifT A4 Ah);exact ⟨Ap,(((w64 (Int.tdiv Ab 2)),(w64 (0 - Ac))):(Int) × (Int)),Nat.lt_succ_self _,⟨Af,Aa⟩,rfl,rfl,trivial⟩
   ·have A5:=ifF A4 Ah;rw [decide_eq_false Ah];refine ACe 16 false (Wk (ACe 16 false (AG8 rfl rfl (by decide) (ACe 16 false (ADt rfl rfl (ABv rfl (ABo (⟨_,rfl,fun Ar=>?_,fun Ar=>?_⟩))))))))
    ·refine ABw (Wk (ASe rfl (ACg (ACj (q_b (q_t ?_))))));obtain rfl:=ABk (AC7 A5 Ar);exact ⟨Ap,(((w64 (Int.tdiv Ab 2)),(w64 (0 - Ac))):(Int) × (Int)),Nat.lt_succ_self _,⟨Af,Aa⟩,rfl,rfl,trivial⟩
    ·refine ABr (q_b (q_t ?_));obtain rfl:=ABk (AC8 A5 Ar);exact ⟨Ap,(((w64 (Int.tdiv Ab 2)),Ac):(Int) × (Int)),Nat.lt_succ_self _,⟨Af,Aa⟩,rfl,rfl,trivial⟩
  ·obtain rfl:=ABk (AC8 Ae Aq);change _=A3 at Af;subst Af;refine ACc (ACa (ACa (ADm (q_t ?_))));obtain ⟨Bn,A6,Bo⟩:=ABl Bh;refine ANi 8581546016 (fun x:(Int)=>[(5,(.int .i64 x))]) (fun x h'=>( x)=Bn/\Kst h h' (Aa.L)) ?_ ?_
   ·refine ABj (Wk (AG8 rfl rfl (by decide) (ADt rfl rfl (Wk ?_))));by_cases Ai:(Int.tmod Ab 4)=3
    ·have A7:=ifT A6 Ai;rw [decide_eq_true Ai];refine ACe 26 true (Wk (ACe 26 true (AG8 rfl rfl (by decide) (ACe 26 true (ADt rfl rfl (AB0 rfl (ABo (⟨_,rfl,fun Au=>?_,fun Au=>?_⟩))))))))
     ·refine ABw (Wk (ASe rfl (ABp ?_)));exact ⟨((w64 (0 - Ac)):(Int)),⟨ABk (AC7 A7 Au),Aa⟩,rfl,trivial⟩
     ·refine ABr (q_t ?_);exact ⟨(Ac:(Int)),⟨ABk (AC8 A7 Au),Aa⟩,rfl,trivial⟩
    ·rw [decide_eq_false Ai];refine AJ8 26 false (ABv rfl (ABo (AB9 rfl (ABr (q_t ?_)))));exact ⟨(Ac:(Int)),⟨ABk (ifF A6 Ai),Aa⟩,rfl,trivial⟩
   rintro Bp B4 B5 ⟨Bq,Br⟩;subst Bq;refine ABw (Wk (Wk ?_));obtain ⟨Bt,Bu⟩:=ifN Bo;refine AG8 rfl rfl Bt (Wk (ACg (ACg (ACj (q_b (q_t ?_))))));obtain rfl:=ABk Bu;exact ⟨Bf,(((Int.tmod Az Ab),Ab,Bp):(Int) × (Int) × (Int)),Nat.lt_succ_self _,⟨Am,Br⟩,rfl,rfl,rfl,trivial⟩
 ·obtain rfl:=ABk (AC8 Ad Ao);change _=Ax at Am;subst Am;refine ACc (ACa (ACa (ADm (q_t (ABm (ABj (Wk (AHe rfl rfl (ABo (⟨_,rfl,fun Av=>?_,fun Av=>?_⟩))))))))))
  ·refine ABj (ABp (ABs (AB1 ?_)));obtain rfl:=ABk (AC7 Ay Av);exact ⟨_,ABu,Ag.x,rfl⟩
  ·refine ABr (q_t (ABj (Wk (ABp (ABs ?_)))));obtain rfl:=ABk (AC8 Ay Av);exact ⟨_,ABu,Ag.x,rfl⟩
def AI2 (fuel:Nat) (a1 Ab Aa:Int):Option ((Int × Int) ⊕ (((Int × Int)) ⊕ (Int × Int))):=
  (if (Int.tmod Ab 2)=0 then (if (Int.tmod a1 2)=0 then (some (Sum.inr<| Sum.inl <| (0,0))) else ((((AIv fuel a1 8).bind fun Ad=>(if Ad=3 then (some ( (w64 (0 - Aa)))) else (if Ad=5 then (some ( (w64 (0 - Aa)))) else (some ( Aa))))):Option ((Int))).bind (fun (Ae:Int)=>(some (Sum.inl ((w64 (Int.tdiv Ab 2)),Ae)))))) else (some (Sum.inr<| Sum.inr <| (Ab,Aa))))
def AF3 (fuel:Nat) (a1 a2:Int):Option (Int × Int):=
  (((if a1 < (-2147483647) then (some (Sum.inl <| (0,1))) else (if 2147483647 < a1 then (some (Sum.inl <| (0,1))) else (if a2 < (-2147483647) then (some (Sum.inl <| (0,1))) else (if 2147483647 < a2 then (some (Sum.inl <| (0,1))) else (some (Sum.inr <| ())))))):Option (((Int × Int)) ⊕ (Unit))).bind (fun ex=>match ex with | Sum.inl Ad=>(some Ad) | Sum.inr (_)=>(if a2=0 then (if a1=1 then (some (1,0)) else (if a1=(-1) then (some (1,0)) else (some (0,0)))) else (((if a2 < 0 then (if a1 < 0 then (some ( ((w64 (0 - a2)),(-1)))) else (some ( ((w64 (0 - a2)),1)))) else (some ( (a2,1)))):Option ((Int × Int))).bind (fun ((Ae,Af):Int × Int)=>((iter (fun s=>AI2 fuel a1 s.1 s.2) fuel (Ae,Af)).bind (fun ex=>match ex with | Sum.inl Ag=>(some Ag) | Sum.inr ((Ac,Ah))=>((AIv fuel a1 Ac).bind fun Ai=>((AK7 fuel Ai Ac).bind fun Aj=>(some ((w64 (Ah * Aj)),0)))))))))))
theorem ASw {fuel:Nat} {h:ABh} {a1 a2:Int} {r:(Int × Int)} (hp:AF3 fuel a1 a2=some r):ACd Tryz.prog 49 #[(.int .i64 a1),(.int .i64 a2)] h (fun x h'=>Ext h h'/\x= .tuple #[.int .i64 r.1,.int .i64 r.2]):=by
 unfold AF3 at hp;refine cwf (l:=[_,_]) Tryz.func49 rfl rfl (ABj (ACg (ABp ?_)));have K0:=Kst.k0 h;obtain ⟨Bj,A5,Ad⟩:=ABl hp;refine ANi 4194096 (fun x:Unit=>[]) (fun x h'=>(Sum.inr <| ())=Bj/\Kst h h' (K0.L)) ?_ ?_
 ·refine ABj (Wk (AC1 rfl rfl (Wk ?_)));by_cases Ah:a1 < (-2147483647)
  ·rw [decide_eq_true Ah];refine AGs 10 true (AB0 rfl (Wk (AGs 14 true (AB0 rfl (Wk (AGs 18 true (AB0 rfl (ABo (AB6 rfl (ABj (ACg (ABp ?_))))))))))));obtain rfl:=ABk (ifT A5 Ah);refine ABs (AB1 ?_);obtain rfl:=ABk Ad;exact ⟨_,ADb,K0.x,rfl⟩
  ·have A6:=ifF A5 Ah;rw [decide_eq_false Ah];refine ACe 10 false (Wk (ACe 10 false (AKm rfl rfl (ABv rfl (Wk ?_)))));by_cases Ai:2147483647 < a1
   ·rw [decide_eq_true Ai];refine AGs 14 true (AB0 rfl (Wk (AGs 18 true (AB0 rfl (ABo (AB6 rfl (ABj (ACg (ABp ?_)))))))));obtain rfl:=ABk (ifT A6 Ai);refine ABs (AB1 ?_);obtain rfl:=ABk Ad;exact ⟨_,ADb,K0.x,rfl⟩
   ·have A7:=ifF A6 Ai;rw [decide_eq_false Ai];refine ACe 14 false (Wk (ACe 14 false (AC1 rfl rfl (ABv rfl (Wk ?_)))));by_cases Aj:a2 < (-2147483647)
    ·rw [decide_eq_true Aj];refine AGs 18 true (AB0 rfl (ABo (AB6 rfl (ABj (ACg (ABp ?_))))));obtain rfl:=ABk (ifT A7 Aj);refine ABs (AB1 ?_);obtain rfl:=ABk Ad;exact ⟨_,ADb,K0.x,rfl⟩
    ·have A8:=ifF A7 Aj;rw [decide_eq_false Aj];refine ACe 18 false (Wk (ACe 18 false (AKm rfl rfl (ABv rfl (ABo (⟨_,rfl,fun Ap=>?_,fun Ap=>?_⟩))))))
     ·refine ABj (ACg (ABp ?_));obtain rfl:=ABk (AC7 A8 Ap);refine ABs (AB1 ?_);obtain rfl:=ABk Ad;exact ⟨_,ADb,K0.x,rfl⟩
     ·refine ABr (q_t ?_);exact ⟨(():Unit),⟨ABk (AC8 A8 Ap),K0⟩,trivial⟩
 rintro ⟨⟩ Ci Cj ⟨Bl,Aa⟩;subst Bl;refine ABm (ABj (Wk (ADt rfl rfl (ABo (⟨_,rfl,fun Aq=>?_,fun Aq=>?_⟩)))))
 ·refine ABm (ABj (Wk (ADt rfl rfl (Wk ?_))));have A9:=AC7 Ad Aq;by_cases Ak:a1=1
  ·rw [decide_eq_true Ak];refine AGs 26 true (AB0 rfl (ABo (AB6 rfl (ABj (ACg (ABp (ABs (AB1 (AB1 ?_)))))))));obtain rfl:=ABk (ifT A9 Ak);exact ⟨_,ADb,Aa.x,rfl⟩
  ·have Ba:=ifF A9 Ak;rw [decide_eq_false Ak];refine ACe 26 false (Wk (ACe 26 false (ADt rfl rfl (ABv rfl (ABo (⟨_,rfl,fun Ar=>?_,fun Ar=>?_⟩))))))
   ·refine ABj (ACg (ABp (ABs (AB1 (AB1 ?_)))));obtain rfl:=ABk (AC7 Ba Ar);exact ⟨_,ADb,Aa.x,rfl⟩
   ·refine ABr (q_t (ABj (ACg (ABp (ABs (AB1 ?_))))));obtain rfl:=ABk (AC8 Ba Ar);exact ⟨_,ADb,Aa.x,rfl⟩
 ·refine ABr (q_t (ABj (ABp ?_)));obtain ⟨Bm,Bb,Bn⟩:=ABl (AC8 Ad Aq);refine ANi 67645734978 (fun x:(Int) × (Int)=>[(1,(.int .i64 x.1)),(6,(.int .i64 x.2))]) (fun x h'=>( (x.1,x.2))=Bm/\Kst h h' (Aa.L)) ?_ ?_
  ·refine ABj (Wk (AC1 rfl rfl (ABo (⟨_,rfl,fun Au=>?_,fun Au=>?_⟩))))
   ·refine ABj (Wk (ASe rfl (ACu (Wk (AC1 rfl rfl (ABo ?_))))));have Bc:=AC7 Bb Au;refine ⟨_,rfl,fun Av=>?_,fun Av=>?_⟩
    ·refine ABw (ABp ?_);exact ⟨(((w64 (0 - a2)),(-1)):(Int) × (Int)),⟨ABk (AC7 Bc Av),Aa⟩,rfl,rfl,trivial⟩
    ·refine ABr (q_t ?_);exact ⟨(((w64 (0 - a2)),1):(Int) × (Int)),⟨ABk (AC8 Bc Av),Aa⟩,rfl,rfl,trivial⟩
   ·refine ABr (q_t ?_);exact ⟨((a2,1):(Int) × (Int)),⟨ABk (AC8 Bb Au),Aa⟩,rfl,rfl,trivial⟩
  rintro ⟨u64,Bo⟩ Ck Cm ⟨Bp,Be⟩;subst Bp;refine ABm (ABq ?_);obtain ⟨Aw,Bq,Bf⟩:=ABl Bn;obtain ⟨Br,Bt,Bu⟩:=ACl Bq;refine ACk 18014329790005490 (fun x:(Int) × (Int)=>[(1,(.int .i64 x.1)),(6,(.int .i64 x.2))]) (fun k x h'=>iter Br k (x.1,x.2)=some Aw/\Kst h h' (Be.L)) (by kernel_rfl) fuel ((u64,Bo):(Int) × (Int)) ?_ ⟨rfl,rfl,trivial⟩ ?_
  ·exact ⟨Bu,Be⟩
  rintro Cn ⟨Bv,Ax⟩ Co Cp ⟨Bw,Am⟩;obtain ⟨Bx,Cq,rfl,Af,Ag⟩:=AB7 Bw;rw [Bt] at Af;dsimp only at Af;unfold AI2 at Af;refine ABm (ABj (Wk (AG8 rfl rfl (by decide) (ADt rfl rfl (ABo (⟨_,rfl,fun Ay=>?_,fun Ay=>?_⟩))))))
  ·refine ABr (q_t (ABq (ABm (ABj (Wk (AG8 rfl rfl (by decide) (ADt rfl rfl (ABo ?_))))))));have Bg:=AC7 Af Ay;refine ⟨_,rfl,fun Az=>?_,fun Az=>?_⟩
   ·refine ABj (ACg (ABp ?_));obtain rfl:=ABk (AC7 Bg Az);change _=Aw at Ag;subst Ag;refine ABs (AB1 (ADs (AB1 (ADs (AB1 ?_)))));obtain rfl:=ABk Bf;exact ⟨_,ADb,Am.x,rfl⟩
   ·refine ABr (q_t ?_);obtain ⟨By,Bz,B1⟩:=ABl (AC8 Bg Az);refine ANi 4499201580859584 (fun x:(Int)=>[(6,(.int .i64 x))]) (fun x h'=>( x)=By/\Kst h h' (Am.L)) ?_ ?_
    ·refine ABj (Wk ?_);obtain ⟨B2,B3,Bh⟩:=ABl Bz;refine AC4 rfl (AO9 B3) fun Cr Ct B4 B5=>?_;subst B5;refine ACu (Wk (ADt rfl rfl (Wk ?_)));have A3:=Am.e B4;by_cases Ao:B2=3
     ·rw [decide_eq_true Ao];refine AGs 46 true (AB0 rfl (ABo (AB6 rfl (ABw (Wk (ASe rfl (ABp ?_)))))));exact ⟨((w64 (0 - Ax)):(Int)),⟨ABk (ifT Bh Ao),A3⟩,rfl,trivial⟩
     ·have Bi:=ifF Bh Ao;rw [decide_eq_false Ao];refine ACe 46 false (Wk (ACe 46 false (ADt rfl rfl (ABv rfl (ABo (⟨_,rfl,fun A4=>?_,fun A4=>?_⟩))))))
      ·refine ABw (Wk (ASe rfl (ABp ?_)));exact ⟨((w64 (0 - Ax)):(Int)),⟨ABk (AC7 Bi A4),A3⟩,rfl,trivial⟩
      ·refine ABr (q_t ?_);exact ⟨(Ax:(Int)),⟨ABk (AC8 Bi A4),A3⟩,rfl,trivial⟩
    rintro B6 Cu Cv ⟨B7,B8⟩;subst B7;refine ABw (Wk (ATn rfl rfl (by decide) (ACg (ACj (q_b (q_t ?_))))));obtain rfl:=ABk B1;exact ⟨Bx,(((w64 (Int.tdiv Bv 2)),B6):(Int) × (Int)),Nat.lt_succ_self _,⟨Ag,B8⟩,rfl,rfl,trivial⟩
  ·obtain rfl:=ABk (AC8 Af Ay);change _=Aw at Ag;subst Ag;refine ACc (ACa (ACa (ADm (q_t (ABj (Wk (Wk (Wk ?_))))))));obtain ⟨Cw,B9,Ca⟩:=ABl Bf;refine AC4 rfl (AO9 B9) fun Cx Cy Cb Cd=>?_;subst Cd;refine Wk ?_;obtain ⟨Cz,Ce,Cf⟩:=ABl Ca;refine AC4 rfl (AVc Ce) fun C0 C1 Cg Ch=>?_;subst Ch;refine AMv rfl rfl (ACg (ABp (ABs ?_)));obtain rfl:=ABk Cf;exact ⟨_,ADb,((Am.e Cb).e Cg).x,rfl⟩
end Go.Proofs.YtiegjkmfpcgjjaaGreatDoor
namespace Go.QF
open Classical in
noncomputable def Ahm (A:List (List Int)) (m:Int):Int:=if AHy A then (if APg m then (if ∃ y,AJ9 m (AZ5 A m) y then 0 else 8) else 1) else 3
open Classical in
noncomputable def AZh (A:List (List Int)) (m:Int):List (List Int):=if AHy A=true/\APg m=true/\ ∃ y,AJ9 m (AZ5 A m) y then tab A.length A.length (fun i j=>ALn A.length (ent (ALk A m)) i j * AXw m (AZ5 A m) % m) else []
theorem Aa9 {m x r:Int} (h:AJ9 m x r):Eqm m (r * x) 1:=h.2.2
theorem Apk {m x r:Int} (hm:2<=m) (h:Eqm m (r * x) 1):∃ y,AJ9 m x y:=⟨r % m,Int.emod_nonneg _ (by omega),Int.emod_lt_of_pos _ (by omega),by
  rw [Int.mul_emod,Int.emod_emod,<- Int.mul_emod];exact h⟩
theorem AZi {n:Nat} {m u d:Int} {A B:Nat->Nat->Int} (hu:Eqm m (u * d) 1) (hd:Eqm m d (det n A)) (hBA:∀ i j,i < n->j < n->Eqm m (psum (fun k=>B i k * A k j) n) (dl i j)) {i j:Nat} (hi:i < n) (hj:j < n):Eqm m (B i j) (ALn n A i j * u):=by
  have h1:Eqm m (psum (fun k=>B i k * psum (fun l=>A k l * (ALn n A l j * u)) n) n) (B i j):=by
    have e1:∀ k,k < n->Eqm m (psum (fun l=>A k l * (ALn n A l j * u)) n) (dl k j):=fun k hk=>by
      have e2:psum (fun l=>A k l * (ALn n A l j * u)) n=u * psum (fun l=>A k l * ALn n A l j) n:=by
        rw [<- ADa];exact ABt fun l _=>by grind
      rw [e2,Aax hk hj];refine Eqm.trans (Eqm.of_eq (show u * (det n A * dl k j)=u * det n A * dl k j by rw [Int.mul_assoc])) ?_;have:=(((Eqm.refl m u).mul hd.symm).trans hu).mul (Eqm.refl m (dl k j));rwa [Int.one_mul] at this
    refine Eqm.trans (Eqm.psum fun k hk=>(Eqm.refl m (B i k)).mul (e1 k hk)) (Eqm.of_eq ?_);exact Ag2 (F:=B) (i:=i) hj
  have h2:psum (fun k=>B i k * psum (fun l=>A k l * (ALn n A l j * u)) n) n=psum (fun l=>psum (fun k=>B i k * A k l) n * (ALn n A l j * u)) n:=by
    rw [ABt (g:=fun k=>psum (fun l=>B i k * A k l * (ALn n A l j * u)) n) (fun k _=>by rw [<- ADa];exact ABt fun l _=>by rw [Int.mul_assoc]),AM5];refine ABt fun l _=>?_;rw [Int.mul_comm (psum (fun k=>B i k * A k l) n),<- ADa];exact ABt fun k _=>by rw [Int.mul_comm]
  refine h1.symm.trans ((Eqm.of_eq h2).trans ?_);refine Eqm.trans (Eqm.psum (g:=fun l=>dl i l * (ALn n A l j * u)) fun l hl=>(hBA i l hi hl).mul (Eqm.refl _ _)) (Eqm.of_eq ?_);rw [AM9 hi (fun k hk hne=>by unfold dl;rw [if_neg (fun h=>hne h.symm)];simp)];simp [dl]
end Go.QF
namespace Go.Proofs.YtiegjkmfpcgjjaaGreatDoor
open Go Go.QF
def QJ (A:List (List Int)) (m:Int) (F:Nat->Nat->Int) (s:Int):Prop:=Aez A.length m (ent (ALk A m)) F
theorem Apl (A:List (List Int)) (m:Int):Aoc A.length (A.length + A.length) m (QJ A m):=fun F s c i q hc hi hne _ _ _ H=>AY6 (Aha hc hi hne) H
noncomputable def AVd (fuel:Nat) (M:List (List Int)) (m:Int):Option (List (List Int) × Int):=some (AZh M m,Ahm M m)
theorem Afl {h:ABh} {v:Value} {M:List (List Int)} (HM:Mat h v M) (m:Int):ACd Tryz.prog 39 #[v,.int .i64 m] h fun x h'=>Ext h h'/\ ∃ r,x= .tuple #[r,.int .i64 (Ahm M m)]/\Mat h' r (AZh M m)/\AMy r:=by
 refine (Aey HM m (QJ M m) (fun _ _=>Aom) (Apl M m)).mono fun x h' ⟨⟨hE,r,e,hx,hk⟩,hcp⟩=>⟨hE,r,?_⟩;have hcr:=hcp _ _ hx;clear hcp;subst hx;rw [<- and_assoc];refine ⟨?_,hcr⟩;rcases hk with ⟨h1,rfl,h2⟩ | ⟨h1,h2,rfl,h3⟩ | ⟨h1,h2,F1,s,hs,hQ,hbd,hz,hk⟩
 ·refine ⟨by simp [Ahm,h1],?_⟩;rw [show AZh M m=[] by unfold AZh;rw [if_neg (fun h=>by rw [h1] at h;cases h.1)]];exact h2
 ·refine ⟨by simp [Ahm,h1,h2],?_⟩;rw [show AZh M m=[] by unfold AZh;rw [if_neg (fun h=>by rw [h2] at h;cases h.2.1)]];exact h3
 ·have hm:=ASj h2
  have hD:Eqm m (AZ5 M m) (det M.length (ent (ALk M m))):=by
    have e1:AZ5 M m=det M.length (ent M) % m:=by simp [AZ5,h1,h2]
    rw [e1]
    refine (Eqm.mod _ _).trans (ATd fun i j _ _=>?_)
    rw [Aqi];exact (Eqm.mod _ _).symm
  rcases hk with ⟨rfl,h3,c,hc,hno⟩ | ⟨rfl,hun,h3⟩
  ·have hnot: ¬ ∃ y,AJ9 m (AZ5 M m) y:=by
     rintro ⟨y,hy⟩
     refine hno (Aop hm.1 hz hQ (V:=fun i k=>y * ALn M.length (ent (ALk M m)) i k) (fun i j hi hj=>?_) c hc)
     have e2:psum (fun k=>y * ALn M.length (ent (ALk M m)) i k * ent (ALk M m) k j) M.length=y * psum (fun k=>ALn M.length (ent (ALk M m)) i k * ent (ALk M m) k j) M.length:=by
       rw [<- ADa];exact ABt fun k _=>by rw [Int.mul_assoc]
     rw [e2,Aoq hi hj]
     refine Eqm.trans (Eqm.of_eq (show y * (det M.length (ent (ALk M m)) * dl i j)=y * det M.length (ent (ALk M m)) * dl i j by rw [Int.mul_assoc])) ?_
     have:=(((Eqm.refl m y).mul hD.symm).trans (Aa9 hy)).mul (Eqm.refl m (dl i j))
     rwa [Int.one_mul] at this
   refine ⟨by simp [Ahm,h1,h2,hnot],?_⟩;rw [show AZh M m=[] by unfold AZh;rw [if_neg (fun h=>hnot h.2.2)]];exact h3
  ·obtain ⟨hBA,hAB⟩:=Aon hm.1 hbd hz hun hQ
   have hyes:∃ y,AJ9 m (AZ5 M m) y:=by
     have e1:=AU0 (n:=M.length) (fun i j=>AHb m M.length F1 M.length i (M.length + j)) (ent (ALk M m))
     have e2:Eqm m (det M.length (AE1 M.length (fun i j=>AHb m M.length F1 M.length i (M.length + j)) (ent (ALk M m)))) (det M.length dl):=ATd fun i j hi hj=>hBA i j hi hj
     rw [e1,Ag1] at e2
     exact Apk hm.1 (((Eqm.refl _ _).mul hD).trans e2)
   refine ⟨by simp [Ahm,h1,h2,hyes],?_⟩
   have e3:AZh M m=tab M.length M.length fun i j=>AHb m M.length F1 M.length i (M.length + j):=by
     unfold AZh
     rw [if_pos ⟨h1,h2,hyes⟩]
     obtain ⟨y,hy⟩:=hyes
     have hu:=Aa9 (AS0 hy)
     refine AVp fun i j hi hj=>?_
     have h5:=AZi (B:=fun i k=>AHb m M.length F1 M.length i (M.length + k)) hu hD hBA hi hj
     have h6:=Abq (n:=M.length) (by omega:0 < m) hbd M.length i (M.length + j) hi (by omega)
     rw [<- Int.emod_eq_of_lt h6.1 h6.2]
     exact h5.symm
   rw [e3];exact h3
theorem Apm {fuel:Nat} {h:ABh} {v:Value} {M:List (List Int)} {m:Int} {r:List (List Int) × Int} (H:AGe (cI .i64) h v M) (hp:AVd fuel M m=some r):ACd Tryz.prog 39 #[v,.int .i64 m] h (fun x h'=>Ext h h'/\ ∃ (x0:Value),x= .tuple #[x0,.int .i64 r.2]/\AGe (cI .i64) h' x0 r.1):=by
 cases hp;exact (Afl (An8 H) m).mono fun x h' ⟨E,r,hx,hr,hcp⟩=>⟨E,r,hx,Ars hr hcp⟩
end Go.Proofs.YtiegjkmfpcgjjaaGreatDoor
namespace Go.Proofs.YtiegjkmfpcgjjaaGreatDoor
open Go Go.QF
set_option maxRecDepth 100000
set_option maxHeartbeats 4000000
def AN2 (fuel:Nat) (a1 a2 s8 s9:Int):Option ((Int × Int) ⊕ ((Int))):=
  (if s9 < a2 then (some (Sum.inl ((w64 (s8 * a1)),(w64 (s9 + 1))))) else (some (Sum.inr<| s8)))
def AGy (fuel:Nat) (a1 a2:Int):Option Int:=
  ((iter (fun s=>AN2 fuel a1 a2 s.1 s.2) fuel (1,0)).bind (fun (Ac:Int)=>(some Ac)))
theorem AN3 {fuel:Nat} {h:ABh} {a1 a2 r:Int} (hp:AGy fuel a1 a2=some r):ACd Tryz.prog 47 #[(.int .i64 a1),(.int .i64 a2)] h (fun x h'=>Ext h h'/\x= .int .i64 r):=by
 unfold AGy at hp;refine cwf (l:=[_,_]) Tryz.func47 rfl rfl (ABj (ACu (ABp (ABm (ABj (Wk (Wk (ABo (ABq ?_)))))))));have K0:=Kst.k0 h;obtain ⟨Ag,Ai,Aj⟩:=ABl hp;obtain ⟨Ak,Am,Ao⟩:=ACl Ai;refine ACk 8096 (fun x:(Int) × (Int)=>[(5,(.int .i64 x.1)),(7,(.int .i64 x.2))]) (fun k x h'=>iter Ak k (x.1,x.2)=some Ag/\Kst h h' (K0.L)) (by kernel_rfl) fuel ((1,0):(Int) × (Int)) ?_ ⟨rfl,rfl,trivial⟩ ?_
 ·exact ⟨Ao,K0⟩
 rintro k9 ⟨Ap,Aq⟩ Aw Ax ⟨Ar,Ah⟩;obtain ⟨Au,Ay,rfl,Aa,Ac⟩:=AB7 Ar;rw [Am] at Aa;dsimp only at Aa;unfold AN2 at Aa;refine ABj (AC1 rfl rfl (ABo (ABm (⟨_,rfl,fun Ad=>?_,fun Ad=>?_⟩))))
 ·refine ABr (q_t (ABm (ABq (ABw (Wk (Wk (AMv rfl rfl (ACg (ACj (q_b (q_t (ABw (AC2 rfl rfl (Wk (ABo ?_)))))))))))))));obtain rfl:=ABk (AC7 Aa Ad);exact ⟨Au,(((w64 (Ap * a1)),(w64 (Aq + 1))):(Int) × (Int)),Nat.lt_succ_self _,⟨Ac,Ah⟩,rfl,rfl,trivial⟩
 ·obtain rfl:=ABk (AC8 Aa Ad);change _=Ag at Ac;subst Ac;refine ACc (ACa (ACa (ADm (q_t (ABj (Wk (ABp (ABs ?_))))))));obtain rfl:=ABk Aj;exact ⟨_,ABu,Ah.x,rfl⟩
def AN4 (fuel:Nat) (a3 a7:LiA) (Ac Aa:Int):Option ((Int × Int) ⊕ ((Int))):=
  (if Aa < (a7.length:Int) then ((gI a7 Aa).bind fun Ae=>((gI a3 Aa).bind fun Af=>(some (Sum.inl ((w64 (Ac + (w64 (Af * Ae)))),(w64 (Aa + 1))))))) else (some (Sum.inr<| Ac)))
def AI3 (fuel:Nat) (a3 a7:LiA) (a9:Int):Option Int:=
  ((iter (fun s=>AN4 fuel a3 a7 s.1 s.2) fuel (0,0)).bind (fun (Ad:Int)=>(if a9≠0 then (some (Int.tmod Ad a9)) else none)))
theorem AR1 {fuel:Nat} {h:ABh} {Ae:Value} {a3:LiA} {Ag:Value} {a7:LiA} {a9 r:Int} (H2:SlC (cI .i64) h Ae a3) (H6:SlC (cI .i64) h Ag a7) (hp:AI3 fuel a3 a7 a9=some r):ACd Tryz.prog 38 #[Ae,Ag,(.int .i64 a9)] h (fun x h'=>Ext h h'/\x= .int .i64 r):=by
 unfold AI3 at hp;refine cwf (l:=[_,_,_]) Tryz.func38 rfl rfl (ABj (ACu (ABp (ABm (ABj (Wk (AD1 ABx rfl H6 (Wk (ABo (ABq ?_))))))))));have K0:=Kst.k0 h;obtain ⟨Am,Ap,Aq⟩:=ABl hp;obtain ⟨Ar,Au,Av⟩:=ACl Ap;refine ACk 67105664 (fun x:(Int) × (Int)=>[(7,(.int .i64 x.1)),(12,(.int .i64 x.2))]) (fun k x h'=>iter Ar k (x.1,x.2)=some Am/\Kst h h' (K0.L)) (by kernel_rfl) fuel ((0,0):(Int) × (Int)) ?_ ⟨rfl,rfl,trivial⟩ ?_
 ·exact ⟨Av,K0⟩
 rintro Bg ⟨Aw,Ax⟩ Bh Bi ⟨Ay,Ab⟩;obtain ⟨Az,Bj,rfl,Aa,Ac⟩:=AB7 Ay;rw [Au] at Aa;dsimp only at Aa;unfold AN4 at Aa;refine ABj (AC1 rfl rfl (ABo (ABm (⟨_,rfl,fun Ad=>?_,fun Ad=>?_⟩))))
 ·refine ABr (q_t (ABm (ABq (ABj (Wk ?_)))));obtain ⟨A3,A4,A5⟩:=ABl (AC7 Aa Ad);refine AJf (c:=(cI .i64)) ABx rfl H6 rfl A4 fun Bl Bm Bn A6 A7=>?_;obtain rfl:=A6;refine AB4 ACr rfl (ABz (A7 0 _ rfl) Ab.x) (ACg (ABp (ABw (Wk (Wk (Wk ?_))))));obtain ⟨A8,A9,Ba⟩:=ABl A5;refine AJf (c:=(cI .i64)) ABx rfl H2 rfl A9 fun Bo Bp Bq Bb Bc=>?_;obtain rfl:=Bb;refine AB4 ACr rfl (ABz (Bc 0 _ rfl) Ab.x) (Wk (AMv rfl rfl (AC2 rfl rfl (ACg (ACj (q_b (q_t (ABw (AC2 rfl rfl (Wk (ABo ?_)))))))))));obtain rfl:=ABk Ba;exact ⟨Az,(((w64 (Aw + (w64 (A8 * A3)))),(w64 (Ax + 1))):(Int) × (Int)),Nat.lt_succ_self _,⟨Ac,Ab⟩,rfl,rfl,trivial⟩
 ·obtain rfl:=ABk (AC8 Aa Ad);change _=Am at Ac;subst Ac;refine ACc (ACa (ACa (ADm (q_t (ABj (Wk (Wk ?_)))))));obtain ⟨Be,Bf⟩:=ifN Aq;refine AG8 rfl rfl Be (ABp (ABs ?_));obtain rfl:=ABk Bf;exact ⟨_,ABu,Ab.x,rfl⟩
def APa (fuel:Nat) (a3:LiI) (a7:LiA) (a9 Ac Aa:Int):Option ((Int × Int) ⊕ ((Int))):=
  (if Aa < (a7.length:Int) then ((gI a7 Aa).bind fun Af=>((gI a3 Aa).bind fun Ag=>((AI3 fuel Ag a7 a9).bind fun Ah=>(some (Sum.inl ((w64 (Ac + (w64 (Ah * Af)))),(w64 (Aa + 1)))))))) else (some (Sum.inr<| Ac)))
def AI4 (fuel:Nat) (a3:LiI) (a7:LiA) (a9:Int):Option Int:=
  ((iter (fun s=>APa fuel a3 a7 a9 s.1 s.2) fuel (0,0)).bind (fun (Ad:Int)=>(if a9≠0 then (some (Int.tmod Ad a9)) else none)))
theorem APb {fuel:Nat} {h:ABh} {Af:Value} {a3:LiI} {Ah:Value} {a7:LiA} {a9 r:Int} (H2:AGe (cI .i64) h Af a3) (H6:SlC (cI .i64) h Ah a7) (hp:AI4 fuel a3 a7 a9=some r):ACd Tryz.prog 40 #[Af,Ah,(.int .i64 a9)] h (fun x h'=>Ext h h'/\x= .int .i64 r):=by
 unfold AI4 at hp;refine cwf (l:=[_,_,_]) Tryz.func40 rfl rfl (ABj (ACu (ABp (ABm (ABj (Wk (AD1 ABx rfl H6 (Wk (ABo (ABq ?_))))))))));have K0:=Kst.k0 h;obtain ⟨Am,Ap,Aq⟩:=ABl hp;obtain ⟨Ar,Au,Av⟩:=ACl Ap;refine ACk 536867712 (fun x:(Int) × (Int)=>[(7,(.int .i64 x.1)),(12,(.int .i64 x.2))]) (fun k x h'=>iter Ar k (x.1,x.2)=some Am/\Kst h h' (K0.L)) (by kernel_rfl) fuel ((0,0):(Int) × (Int)) ?_ ⟨rfl,rfl,trivial⟩ ?_
 ·exact ⟨Av,K0⟩
 rintro Bl ⟨Aw,Ax⟩ Bm Bn ⟨Ay,Aa⟩;obtain ⟨Az,Bo,rfl,Ab,Ad⟩:=AB7 Ay;rw [Au] at Ab;dsimp only at Ab;unfold APa at Ab;refine ABj (AC1 rfl rfl (ABo (ABm (⟨_,rfl,fun Ae=>?_,fun Ae=>?_⟩))))
 ·refine ABr (q_t (ABm (ABq (ABj (Wk ?_)))));obtain ⟨A3,A4,A5⟩:=ABl (AC7 Ab Ae);refine AJf (c:=(cI .i64)) ABx rfl H6 rfl A4 fun Bp Bq Br A6 A7=>?_;obtain rfl:=A6;refine AB4 ACr rfl (ABz (A7 0 _ rfl) Aa.x) (ACg (ABp (ABw (Wk (Wk (Wk ?_))))));obtain ⟨Bt,A8,A9⟩:=ABl A5;refine AIy AB2 rfl H2 rfl A8 fun Bu Bv Bw Ba Bb=>AB4 ACm rfl (ABz Ba Aa.x) (Wk (Wk ?_));obtain ⟨Bc,Be,Bf⟩:=ABl A9;refine AC4 rfl (AR1 (Bb.ext Aa.x) (H6.ext Aa.x) Be) fun Bx By Bg Bh=>?_;subst Bh;refine Wk (AMv rfl rfl (AC2 rfl rfl (ACg (ACj (q_b (q_t (ABw (AC2 rfl rfl (Wk (ABo ?_))))))))));obtain rfl:=ABk Bf;exact ⟨Az,(((w64 (Aw + (w64 (Bc * A3)))),(w64 (Ax + 1))):(Int) × (Int)),Nat.lt_succ_self _,⟨Ad,(Aa.e Bg)⟩,rfl,rfl,trivial⟩
 ·obtain rfl:=ABk (AC8 Ab Ae);change _=Am at Ad;subst Ad;refine ACc (ACa (ACa (ADm (q_t (ABj (Wk (Wk ?_)))))));obtain ⟨Bi,Bj⟩:=ifN Aq;refine AG8 rfl rfl Bi (ABp (ABs ?_));obtain rfl:=ABk Bj;exact ⟨_,ABu,Aa.x,rfl⟩
noncomputable def AJ3 (fuel:Nat) (a3:LiI) (a5:Int):Option Int:=
  ((AV7 fuel a3).bind fun x6=>(if (!x6)=true then (some 6) else (((if a5=2 then (some (Sum.inl <| 20)) else (if 9973 < a5 then (some (Sum.inl <| 20)) else ((AY5 fuel a5).bind fun Ad=>(if (!Ad)=true then (some (Sum.inl <| 20)) else (some (Sum.inr <| ())))))):Option ((Int) ⊕ (Unit))).bind (fun ex=>match ex with | Sum.inl Ae=>(some Ae) | Sum.inr (_)=>((AGx fuel a3 a5).bind fun (Af,Ag)=>(if ¬ Ag=0 then (some 20) else (if Af=0 then (some 20) else (some 0))))))))
theorem AN5 {fuel:Nat} {h:ABh} {Am:Value} {a3:LiI} {a5 r:Int} (H2:AGe (cI .i64) h Am a3) (HO:AT2 h) (hp:AJ3 fuel a3 a5=some r):ACd Tryz.prog 34 #[Am,(.int .i64 a5)] h (fun x h'=>Ext h h'/\x= .int .i64 r):=by
 unfold AJ3 at hp;refine cwf (l:=[_,_]) Tryz.func34 rfl rfl (ABj (ABp (ABm (ABj (Wk ?_)))));have K0:=Kst.k0 h;obtain ⟨x6,A3,Ar⟩:=ABl hp;refine AC4 rfl (Ag9 (H2.ext K0.x) A3) fun Bh Bi E9 A5=>?_;subst A5;refine AGr rfl (ABo ?_);have Aa:=K0.e E9;refine ⟨_,rfl,fun Ag=>?_,fun Ag=>?_⟩
 ·refine ABj (ABp (ABs (AB1 ?_)));obtain rfl:=ABk (ifT Ar Ag);exact ⟨_,ABu,Aa.x,rfl⟩
 ·refine ABr (q_t ?_);obtain ⟨A6,Au,Ac⟩:=ABl (ALo Ar Ag);refine ANi 2096144 (fun x:Unit=>[]) (fun x h'=>(Sum.inr <| ())=A6/\Kst h h' (Aa.L)) ?_ ?_
  ·refine ABj (Wk (ADt rfl rfl (Wk ?_)));by_cases Ad:a5=2
   ·rw [decide_eq_true Ad];refine AGs 12 true (AB0 rfl (Wk (AJ8 16 true (AB0 rfl (ABo (AB6 rfl (ABj (ABp ?_))))))));obtain rfl:=ABk (ifT Au Ad);refine ABs (AB1 ?_);obtain rfl:=ABk Ac;exact ⟨_,ABu,Aa.x,rfl⟩
   ·have Av:=ifF Au Ad;rw [decide_eq_false Ad];refine ACe 12 false (Wk (ACe 12 false (AKm rfl rfl (ABv rfl (Wk ?_)))));by_cases Ae:9973 < a5
    ·rw [decide_eq_true Ae];refine AJ8 16 true (AB0 rfl (ABo (AB6 rfl (ABj (ABp ?_)))));obtain rfl:=ABk (ifT Av Ae);refine ABs (AB1 ?_);obtain rfl:=ABk Ac;exact ⟨_,ABu,Aa.x,rfl⟩
    ·rw [decide_eq_false Ae];refine ACe 16 false (Wk (ACe 16 false ?_));obtain ⟨Bj,A7,Aw⟩:=ABl (ifF Av Ae);refine AC4 rfl (Ak5 (HO.ext Aa.x) A7) fun Bl Bm A8 A9=>?_;subst A9;refine ACe 16 false (AGr rfl (ABv rfl (ABo ?_)));have Ax:=Aa.e A8;refine ⟨_,rfl,fun Ah=>?_,fun Ah=>?_⟩
     ·refine ABj (ABp ?_);obtain rfl:=ABk (ifT Aw Ah);refine ABs (AB1 ?_);obtain rfl:=ABk Ac;exact ⟨_,ABu,Ax.x,rfl⟩
     ·refine ABr (q_t ?_);exact ⟨(():Unit),⟨ABk (ALo Aw Ah),Ax⟩,trivial⟩
  rintro ⟨⟩ Bn Bo ⟨Ba,Ay⟩;subst Ba;refine ABm (ABj (Wk (Wk ?_)));obtain ⟨⟨Bp,Bb⟩,Bc,Ai⟩:=ABl Ac;dsimp only at Ai;refine AC4 rfl (AQs (H2.ext Ay.x) Bc) fun Bq Br Be Bf=>?_;subst Bf;refine Wk (ADc rfl rfl (ADc rfl rfl (ACg (ACu (Wk (AHe rfl rfl (Wk ?_)))))));have Aj:=Ay.e Be;by_cases Af: ¬ Bb=0
  ·rw [decide_eq_true Af];refine AGs 29 true (AB0 rfl (ABo (AB6 rfl (ABj (ABp (ABs (AB1 ?_)))))));obtain rfl:=ABk (ifT Ai Af);exact ⟨_,ABu,Aj.x,rfl⟩
  ·have Az:=ifF Ai Af;rw [decide_eq_false Af];refine ACe 29 false (Wk (ACe 29 false (ADt rfl rfl (ABv rfl (ABo (⟨_,rfl,fun Ak=>?_,fun Ak=>?_⟩))))))
   ·refine ABj (ABp (ABs (AB1 ?_)));obtain rfl:=ABk (AC7 Az Ak);exact ⟨_,ABu,Aj.x,rfl⟩
   ·refine ABr (q_t (ABj (ABp (ABs ?_))));obtain rfl:=ABk (AC8 Az Ak);exact ⟨_,ABu,Aj.x,rfl⟩
noncomputable def AOe (fuel:Nat) (a3:LiI) (a5 Ab Ac:Int):Option ((Int × Int) ⊕ ((Int) ⊕ (Unit))):=
  (if Ac < (a3.length:Int) then (if 65536 < (w64 (Ab * a5)) then (some (Sum.inr<| Sum.inl <| 7)) else (some (Sum.inl ((w64 (Ab * a5)),(w64 (Ac + 1)))))) else (some (Sum.inr<| Sum.inr <| ())))
noncomputable def AGq (fuel:Nat) (a3:LiI) (a5:Int):Option Int:=
  ((AJ3 fuel a3 a5).bind fun x6=>(if ¬ x6=0 then (some x6) else ((iter (fun s=>AOe fuel a3 a5 s.1 s.2) fuel (1,0)).bind (fun ex=>match ex with | Sum.inl Ad=>(some Ad) | Sum.inr (_)=>(some 0)))))
theorem AOf {fuel:Nat} {h:ABh} {Ak:Value} {a3:LiI} {a5 r:Int} (H2:AGe (cI .i64) h Ak a3) (HO:AT2 h) (hp:AGq fuel a3 a5=some r):ACd Tryz.prog 45 #[Ak,(.int .i64 a5)] h (fun x h'=>Ext h h'/\x= .int .i64 r):=by
 unfold AGq at hp;refine cwf (l:=[_,_]) Tryz.func45 rfl rfl (ABj (ABp (ABm (ABj (Wk (Wk ?_))))));have K0:=Kst.k0 h;obtain ⟨x6,Au,Ap⟩:=ABl hp;refine AC4 rfl (AN5 (H2.ext K0.x) (HO.ext K0.x) Au) fun A9 Ba E9 Aw=>?_;subst Aw;refine ACu (Wk (AHe rfl rfl (ABo ?_)));have Ae:=K0.e E9;refine ⟨_,rfl,fun Af=>?_,fun Af=>?_⟩
 ·refine ABj (Wk (ABp (ABs (AB1 ?_))));obtain rfl:=ABk (AC7 Ap Af);exact ⟨_,ABu,Ae.x,rfl⟩
 ·refine ABr (q_t (ABj (ABp (ABm (ABj (Wk (ADn AB2 rfl H2 (Wk (ABo (ABq ?_))))))))));obtain ⟨Ag,Ax,Aq⟩:=ABl (AC8 Ap Af);obtain ⟨Ay,Az,A3⟩:=ACl Ax;refine ACk 8355920 (fun x:(Int) × (Int)=>[(6,(.int .i64 x.1)),(15,(.int .i64 x.2))]) (fun k x h'=>iter Ay k (x.1,x.2)=some Ag/\Kst h h' (Ae.L)) (by kernel_rfl) fuel ((1,0):(Int) × (Int)) ?_ ⟨rfl,rfl,trivial⟩ ?_
  ·exact ⟨A3,Ae⟩
  rintro Bb ⟨A4,A5⟩ Bc Be ⟨A6,Ah⟩;obtain ⟨A7,Bf,rfl,Aa,Ab⟩:=AB7 A6;rw [Az] at Aa;dsimp only at Aa;unfold AOe at Aa;refine ABj (AC1 rfl rfl (ABo (ABm (⟨_,rfl,fun Ai=>?_,fun Ai=>?_⟩))))
  ·refine ABr (q_t (ABm (ABq (ABj (Wk (Wk (AMv rfl rfl (ACu (Wk (AKm rfl rfl (ABo ?_)))))))))));have Ar:=AC7 Aa Ai;refine ⟨_,rfl,fun Aj=>?_,fun Aj=>?_⟩
   ·refine ABj (ABp ?_);obtain rfl:=ABk (AC7 Ar Aj);change _=Ag at Ab;subst Ab;refine ABs (ADs (AB1 (AB1 (ADs (AB1 ?_)))));obtain rfl:=ABk Aq;exact ⟨_,ABu,Ah.x,rfl⟩
   ·refine ABr (q_b (q_t (ABw (AC2 rfl rfl (Wk (ABo ?_))))));obtain rfl:=ABk (AC8 Ar Aj);exact ⟨A7,(((w64 (A4 * a5)),(w64 (A5 + 1))):(Int) × (Int)),Nat.lt_succ_self _,⟨Ab,Ah⟩,rfl,rfl,trivial⟩
  ·obtain rfl:=ABk (AC8 Aa Ai);change _=Ag at Ab;subst Ab;refine ACc (ACa (ACa (ADm (q_t (ABj (ABp (ABs ?_)))))));obtain rfl:=ABk Aq;exact ⟨_,ABu,Ah.x,rfl⟩
def AQt (fuel:Nat) (a5:Int) (a8:LiA) (Ab Aa:Int):Option ((Int × Int) ⊕ ((Bool) ⊕ (Int))):=
  (if Aa < (a8.length:Int) then ((gI a8 Aa).bind fun Ac=>(((if Ac < 0 then (some (Sum.inl <| false)) else (if a5<=Ac then (some (Sum.inl <| false)) else (some (Sum.inr <| ())))):Option ((Bool) ⊕ (Unit))).bind (fun ex=>match ex with | Sum.inl Af=>(some (Sum.inr<| Sum.inl <| Af)) | Sum.inr (_)=>(if Ab=0 then (some (Sum.inl (Ac,(w64 (Aa + 1))))) else (some (Sum.inl (Ab,(w64 (Aa + 1))))))))) else (some (Sum.inr<| Sum.inr <| Ab)))
def AI9 (fuel:Nat) (a3:LiI) (a5:Int) (a8:LiA):Option Bool:=
  (if ¬ (a8.length:Int)=(a3.length:Int) then (some false) else ((iter (fun s=>AQt fuel a5 a8 s.1 s.2) fuel (0,0)).bind (fun ex=>match ex with | Sum.inl Ad=>(some Ad) | Sum.inr (Ae)=>((AE7 fuel a3 a5).bind fun (Af,Ah)=>(if Ae=1 then ((AI4 fuel Af a8 a5).bind fun Ag=>(some (decide (Ag=0)))) else (some false))))))
theorem AQu {fuel:Nat} {h:ABh} {Au:Value} {a3:LiI} {a5:Int} {Ax:Value} {a8:LiA} {r:Bool} (H2:AGe (cI .i64) h Au a3) (H7:SlC (cI .i64) h Ax a8) (hp:AI9 fuel a3 a5 a8=some r):ACd Tryz.prog 35 #[Au,(.int .i64 a5),Ax] h (fun x h'=>Ext h h'/\x= .bool r):=by
 unfold AI9 at hp;refine cwf (l:=[_,_,_]) Tryz.func35 rfl rfl (ABj (ABp (ABm (ABj (Wk (AD1 ABx rfl H7 (Wk (ADn AB2 rfl H2 (AHe rfl rfl (ABo ?_))))))))));have K0:=Kst.k0 h;refine ⟨_,rfl,fun Ak=>?_,fun Ak=>?_⟩
 ·refine ABj (ABp (ABs (AB1 ?_)));obtain rfl:=ABk (AC7 hp Ak);exact ⟨_,ABu,K0.x,rfl⟩
 ·refine ABr (q_t (ABj (ABp (ABm (ABj (Wk (AD1 ABx rfl H7 (Wk (ABo (ABq ?_))))))))));obtain ⟨Ae,Ba,Am⟩:=ABl (AC8 hp Ak);obtain ⟨Bb,Bc,Be⟩:=ACl Ba;refine ACk 17179345600 (fun x:(Int) × (Int)=>[(7,(.int .i64 x.1)),(19,(.int .i64 x.2))]) (fun k x h'=>iter Bb k (x.1,x.2)=some Ae/\Kst h h' (K0.L)) (by kernel_rfl) fuel ((0,0):(Int) × (Int)) ?_ ⟨rfl,rfl,trivial⟩ ?_
  ·exact ⟨Be,K0⟩
  rintro Bx ⟨A3,A4⟩ By Bz ⟨Bf,Ab⟩;obtain ⟨A5,B1,rfl,Ac,Aa⟩:=AB7 Bf;rw [Bc] at Ac;dsimp only at Ac;unfold AQt at Ac;refine ABj (AC1 rfl rfl (ABo (ABm (⟨_,rfl,fun Ao=>?_,fun Ao=>?_⟩))))
  ·refine ABr (q_t (ABm (ABq (ABj ?_))));obtain ⟨A6,Bg,Bh⟩:=ABl (AC7 Ac Ao);refine AJf (c:=(cI .i64)) ABx rfl H7 rfl Bg fun B2 B3 B4 Bi Bj=>?_;obtain rfl:=Bi;refine AB4 ACr rfl (ABz (Bj 0 _ rfl) Ab.x) (ABp ?_);obtain ⟨Bl,A7,Af⟩:=ABl Bh;refine ANi 1065353280 (fun x:Unit=>[]) (fun x h'=>(Sum.inr <| ())=Bl/\Kst h h' (Ab.L)) ?_ ?_
   ·refine ABj (Wk (AC1 rfl rfl (Wk ?_)));by_cases Ag:A6 < 0
    ·rw [decide_eq_true Ag];refine AJ8 25 true (AB0 rfl (ABo (AB6 rfl (ABj (ABp ?_)))));obtain rfl:=ABk (ifT A7 Ag);obtain rfl:=ABk Af;change _=Ae at Aa;subst Aa;refine ABs (AB1 (ADs (AB1 (AB1 (ADs (AB1 ?_))))));obtain rfl:=ABk Am;exact ⟨_,ABu,Ab.x,rfl⟩
    ·have A8:=ifF A7 Ag;rw [decide_eq_false Ag];refine ACe 25 false (Wk (ACe 25 false (Wk (ACe 25 false (AL0 rfl rfl (ABv rfl (ABo (⟨_,rfl,fun Ap=>?_,fun Ap=>?_⟩))))))))
     ·refine ABj (ABp ?_);obtain rfl:=ABk (AC7 A8 Ap);obtain rfl:=ABk Af;change _=Ae at Aa;subst Aa;refine ABs (AB1 (ADs (AB1 (AB1 (ADs (AB1 ?_))))));obtain rfl:=ABk Am;exact ⟨_,ABu,Ab.x,rfl⟩
     ·refine ABr (q_t ?_);exact ⟨(():Unit),⟨ABk (AC8 A8 Ap),Ab⟩,trivial⟩
   rintro ⟨⟩ B5 B6 ⟨Bm,A9⟩;subst Bm;refine ABj (Wk (ADt rfl rfl (ABo (⟨_,rfl,fun Aq=>?_,fun Aq=>?_⟩))))
   ·refine ABw (Wk (ACg (ACj (q_b (q_t (ABw (AC2 rfl rfl (Wk (ABo ?_)))))))));obtain rfl:=ABk (AC7 Af Aq);exact ⟨A5,((A6,(w64 (A4 + 1))):(Int) × (Int)),Nat.lt_succ_self _,⟨Aa,A9⟩,rfl,rfl,trivial⟩
   ·refine ABr (q_b (q_t (ABw (AC2 rfl rfl (Wk (ABo ?_))))));obtain rfl:=ABk (AC8 Af Aq);exact ⟨A5,((A3,(w64 (A4 + 1))):(Int) × (Int)),Nat.lt_succ_self _,⟨Aa,A9⟩,rfl,rfl,trivial⟩
  ·obtain rfl:=ABk (AC8 Ac Ao);change _=Ae at Aa;subst Aa;refine ACc (ACa (ACa (ADm (q_t (ABj (Wk (Wk ?_)))))));obtain ⟨⟨B7,B8⟩,Bn,Ar⟩:=ABl Am;dsimp only at Ar;refine AC4 rfl (AKq (H2.ext Ab.x) Bn) fun B9 Ca Bo Bp=>?_;obtain ⟨Cb,Cd,Ce,Cf,rfl,Bq,Br⟩:=Bp;refine Wk (ADc rfl rfl (ADc rfl rfl (ACg (ACu (Wk (ADt rfl rfl (Wk ?_)))))));have Ah:=Ab.no2 Bo Br Bq;by_cases Ai:A3=1
   ·rw [decide_eq_true Ai];refine ACe 42 true (Wk (ACe 42 true (Wk (ACe 42 true (Wk (ACe 42 true ?_))))));obtain ⟨Cg,Bt,Bu⟩:=ABl (ifT Ar Ai);refine AC4 rfl (APb (Ah.o2 p0).rd (H7.ext Ah.x) Bt) fun Ch Ci Bv Bw=>?_;subst Bw;refine ACe 42 true (ADt rfl rfl (AB0 rfl (ABp (ABs ?_))));obtain rfl:=ABk Bu;exact ⟨_,ABu,(Ah.e Bv).x,rfl⟩
   ·rw [decide_eq_false Ai];refine AIx 42 false (ABv rfl (ABp (ABs ?_)));obtain rfl:=ABk (ifF Ar Ai);exact ⟨_,ABu,Ah.x,rfl⟩
noncomputable def AQv (fuel:Nat) (a3:LiI) (a5:Int) (a8:LiA):Option (Bool × Int):=
  ((AJ3 fuel a3 a5).bind fun Ac=>(if ¬ Ac=0 then (some (false,Ac)) else ((AI9 fuel a3 a5 a8).bind fun Ae=>(some (Ae,0)))))
theorem Acz {fuel:Nat} {h:ABh} {Ad:Value} {a3:LiI} {a5:Int} {Ag:Value} {a8:LiA} {r:(Bool × Int)} (H2:AGe (cI .i64) h Ad a3) (H7:SlC (cI .i64) h Ag a8) (HO:AT2 h) (hp:AQv fuel a3 a5 a8=some r):ACd Tryz.prog 25 #[Ad,(.int .i64 a5),Ag] h (fun x h'=>Ext h h'/\x= .tuple #[.bool r.1,.int .i64 r.2]):=by
 unfold AQv at hp;refine cwf (l:=[_,_,_]) Tryz.func25 rfl rfl (ABj (ACg (ABp (ABm (ABj (Wk (Wk ?_)))))));have K0:=Kst.k0 h;obtain ⟨Aw,Am,Aj⟩:=ABl hp;refine AC4 rfl (AN5 (H2.ext K0.x) (HO.ext K0.x) Am) fun Ax Ay Ao Ap=>?_;subst Ap;refine ACu (Wk (AHe rfl rfl (ABo ?_)));have Aa:=K0.e Ao;refine ⟨_,rfl,fun Ac=>?_,fun Ac=>?_⟩
 ·refine ABj (Wk (ACg (ABp (ABs (AB1 ?_)))));obtain rfl:=ABk (AC7 Aj Ac);exact ⟨_,ADb,Aa.x,rfl⟩
 ·refine ABr (q_t (ABj (Wk (Wk (Wk ?_)))));obtain ⟨Az,Aq,Ar⟩:=ABl (AC8 Aj Ac);refine AC4 rfl (AQu (H2.ext Aa.x) (H7.ext Aa.x) Aq) fun A3 A4 Au Av=>?_;subst Av;refine ACg (ABp (ABs ?_));obtain rfl:=ABk Ar;exact ⟨_,ADb,(Aa.e Au).x,rfl⟩
noncomputable def AG2 (fuel:Nat) (a3:LiI) (a5:Int):Option (Int × Int):=
  ((AGq fuel a3 a5).bind fun x6=>(if ¬ x6=0 then (some (0,x6)) else (if (Int.tmod (a3.length:Int) 2)=1 then ((AGy fuel a5 (w64 (2 * (w64 (Int.tdiv (a3.length:Int) 2))))).bind fun Af=>(if (w64 (a5 - 1))≠0 then (some ((w64 (Int.tdiv (w64 (Af - 1)) (w64 (a5 - 1)))),0)) else none)) else ((AGx fuel a3 a5).bind fun (Ad,Aj)=>(((if (Int.tmod (w64 (Int.tdiv (a3.length:Int) 2)) 2)=1 then (some ( (w64 (0 - Ad)))) else (some ( Ad))):Option ((Int))).bind (fun (Ag:Int)=>((AF3 fuel Ag a5).bind fun (Ae,Ak)=>((AGy fuel a5 (w64 (Int.tdiv (a3.length:Int) 2))).bind fun Ah=>((AGy fuel a5 (w64 ((w64 (Int.tdiv (a3.length:Int) 2)) - 1))).bind fun Ai=>(if (w64 (a5 - 1))≠0 then (some ((w64 (Int.tdiv (w64 ((w64 (Ah - Ae)) * (w64 (Ai + Ae)))) (w64 (a5 - 1)))),0)) else none))))))))))
theorem APw {fuel:Nat} {h:ABh} {Ah:Value} {a3:LiI} {a5:Int} {r:(Int × Int)} (H2:AGe (cI .i64) h Ah a3) (HO:AT2 h) (hp:AG2 fuel a3 a5=some r):ACd Tryz.prog 23 #[Ah,(.int .i64 a5)] h (fun x h'=>Ext h h'/\x= .tuple #[.int .i64 r.1,.int .i64 r.2]):=by
 unfold AG2 at hp;refine cwf (l:=[_,_]) Tryz.func23 rfl rfl (ABj (ACg (ABp (ABm (ABj (Wk (Wk ?_)))))));have K0:=Kst.k0 h;obtain ⟨x6,Au,Ak⟩:=ABl hp;refine AC4 rfl (AOf (H2.ext K0.x) (HO.ext K0.x) Au) fun Bu Bv E9 Aw=>?_;subst Aw;refine ACu (Wk (AHe rfl rfl (ABo ?_)));have Aa:=K0.e E9;refine ⟨_,rfl,fun Ad=>?_,fun Ad=>?_⟩
 ·refine ABj (Wk (ACg (ABp (ABs (AB1 ?_)))));obtain rfl:=ABk (AC7 Ak Ad);exact ⟨_,ADb,Aa.x,rfl⟩
 ·refine ABr (q_t (ABj (Wk (ADn AB2 rfl H2 (ACu (Wk (ATn rfl rfl (by decide) (ABp (ABm (ABj (Wk (AG8 rfl rfl (by decide) (ADt rfl rfl (ABo ?_))))))))))))));have Am:=AC8 Ak Ad;refine ⟨_,rfl,fun Ae=>?_,fun Ae=>?_⟩
  ·refine ABj (Wk (Wk (AMv rfl rfl ?_)));obtain ⟨Bw,Ax,Ay⟩:=ABl (AC7 Am Ae);refine AC4 rfl (AN3 Ax) fun Bx By Az A3=>?_;subst A3;refine AF8 rfl rfl (Wk (AF8 rfl rfl ?_));obtain ⟨A4,A5⟩:=ifN Ay;refine ATn rfl rfl A4 (ACg (ABp (ABs (AB1 ?_))));obtain rfl:=ABk A5;exact ⟨_,ADb,(Aa.e Az).x,rfl⟩
  ·refine ABr (q_t (ABj (Wk (Wk ?_))));obtain ⟨⟨Ao,Bz⟩,A6,Ap⟩:=ABl (AC8 Am Ae);dsimp only at Ap;refine AC4 rfl (AQs (H2.ext Aa.x) A6) fun B1 B2 A7 A8=>?_;subst A8;refine Wk (ADc rfl rfl (ADc rfl rfl (ACg (ABp ?_))));have Af:=Aa.e A7;obtain ⟨A9,Aq,Ba⟩:=ABl Ap;refine ANi 68169720922624 (fun x:(Int)=>[(9,(.int .i64 x))]) (fun x h'=>( x)=A9/\Kst h h' (Af.L)) ?_ ?_
   ·refine ABj (Wk (AG8 rfl rfl (by decide) (ADt rfl rfl (ABo (⟨_,rfl,fun Ag=>?_,fun Ag=>?_⟩)))))
    ·refine ABw (Wk (ASe rfl (ABp ?_)));exact ⟨((w64 (0 - Ao)):(Int)),⟨ABk (AC7 Aq Ag),Af⟩,rfl,trivial⟩
    ·refine ABr (q_t ?_);exact ⟨(Ao:(Int)),⟨ABk (AC8 Aq Ag),Af⟩,rfl,trivial⟩
   rintro B3 B4 B5 ⟨Bb,Bc⟩;subst Bb;refine ABj (Wk (Wk ?_));obtain ⟨⟨B6,B7⟩,Be,Ar⟩:=ABl Ba;dsimp only at Ar;refine AC4 rfl (ASw Be) fun B8 B9 Bf Bg=>?_;subst Bg;refine Wk (ADc rfl rfl (ADc rfl rfl (ACg (ACu (Wk (ACu (Wk (Wk ?_))))))));obtain ⟨Ca,Bh,Bi⟩:=ABl Ar;refine AC4 rfl (AN3 Bh) fun Cb Cd Bj Bl=>?_;subst Bl;refine Wk (AF8 rfl rfl (Wk (Wk (AF8 rfl rfl ?_))));obtain ⟨Ce,Bm,Bn⟩:=ABl Bi;refine AC4 rfl (AN3 Bm) fun Cf Cg Bo Bp=>?_;subst Bp;refine Wk (AC2 rfl rfl (AMv rfl rfl (Wk (AF8 rfl rfl ?_))));obtain ⟨Bq,Br⟩:=ifN Bn;refine ATn rfl rfl Bq (ACg (ABp (ABs ?_)));obtain rfl:=ABk Br;exact ⟨_,ADb,(((Bc.e Bf).e Bj).e Bo).x,rfl⟩
noncomputable def AMs (fuel:Nat) (a5:Int) (a8:LiA) (Ad:LiI) (Ab:Int) (Ac:LiA):Option ((Int × LiA) ⊕ ((LiA))):=
  (if Ab < (Ad.length:Int) then ((gI Ad Ab).bind fun Ag=>((AI3 fuel Ag a8 a5).bind fun Af=>(if Af=0 then (some (Sum.inl ((w64 (Ab + 1)),Ac))) else ((AVd fuel ([([(w64 (2 * Af))]:List Int)]:List LiA) a5).bind fun (Ah,Ao)=>((AI4 fuel Ad a8 (w64 (a5 * a5))).bind fun Ai=>(if a5≠0 then ((gI Ah 0).bind fun Aj=>((gI Aj 0).bind fun Ak=>(if a5≠0 then ((gI Ac Ab).bind fun Am=>(some (Sum.inr<| (sI Ac Ab (w64 (Am + (w64 (a5 * (Int.tmod (w64 ((w64 (a5 - (w64 (Int.tdiv Ai a5)))) * Ak)) a5))))))))) else none))) else none)))))) else (some (Sum.inr<| Ac)))
noncomputable def ANq (fuel:Nat) (a3:LiI) (a5:Int) (a8:LiA):Option (LiA × Int):=
  ((AJ3 fuel a3 a5).bind fun Ad=>(if ¬ Ad=0 then (some ([],Ad)) else ((AI9 fuel a3 a5 a8).bind fun Ae=>(if (!Ae)=true then (some ([],26)) else ((AE7 fuel a3 (w64 (a5 * a5))).bind fun (Af,Ai)=>((AJq fuel a8).bind fun Ag=>((iter (fun s=>AMs fuel a5 a8 Af s.1 s.2) fuel (0,Ag)).bind (fun (Ah:LiA)=>(some (Ah,0))))))))))
theorem AZj {fuel:Nat} {h:ABh} {A5:Value} {a3:LiI} {a5:Int} {A7:Value} {a8:LiA} {r:(LiA × Int)} (H2:AGe (cI .i64) h A5 a3) (H7:SlC (cI .i64) h A7 a8) (HO:AT2 h) (hp:ANq fuel a3 a5 a8=some r):ACd Tryz.prog 15 #[A5,(.int .i64 a5),A7] h (fun x h'=>Ext h h'/\ ∃ (x0:Value) (F0:List Nat),x= .tuple #[x0,.int .i64 r.2]/\OwC (cI .i64) 2 h' F0 x0 r.1/\Sp h' h.size [F0]):=by
 unfold ANq at hp;refine cwf (l:=[_,_,_]) Tryz.func15 rfl rfl (ABj (ACg (ABp (ABm (ABj (Wk (Wk ?_)))))));have K0:=Kst.k0 h;obtain ⟨Dx,Bq,Bb⟩:=ABl hp;refine AC4 rfl (AN5 (H2.ext K0.x) (HO.ext K0.x) Bq) fun Dy Dz Br Bt=>?_;subst Bt;refine ACu (Wk (AHe rfl rfl (ABo ?_)));have Ag:=K0.e Br;refine ⟨_,rfl,fun Ak=>?_,fun Ak=>?_⟩
 ·refine ABj (Wk (ACg (ABp (ABs (AB1 ?_)))));have Am:=Kst.anil (cI .i64) 2 Ag;obtain rfl:=ABk (AC7 Bb Ak);exact ⟨_,ADb,Am.x,_,_,rfl,(Am.o p0),Am.s.sel [0] (by decide)⟩
 ·refine ABr (q_t (ABm (ABj (Wk (Wk (Wk ?_))))));obtain ⟨D0,Bu,Bc⟩:=ABl (AC8 Bb Ak);refine AC4 rfl (AQu (H2.ext Ag.x) (H7.ext Ag.x) Bu) fun D1 D2 Bv Bw=>?_;subst Bw;refine AGr rfl (ABo ?_);have Ao:=Ag.e Bv;refine ⟨_,rfl,fun Ap=>?_,fun Ap=>?_⟩
  ·refine ABj (ACg (ABp (ABs (AB1 ?_))));have Aq:=Kst.anil (cI .i64) 2 Ao;obtain rfl:=ABk (ifT Bc Ap);exact ⟨_,ADb,Aq.x,_,_,rfl,(Aq.o p0),Aq.s.sel [0] (by decide)⟩
  ·refine ABr (q_t (ABj (Wk (Wk (Wk (AMv rfl rfl ?_))))));obtain ⟨⟨D3,D4⟩,Bx,Be⟩:=ABl (ALo Bc Ap);dsimp only at Be;refine AC4 rfl (AKq (H2.ext Ao.x) Bx) fun D5 D6 By Bz=>?_;obtain ⟨D7,D8,D9,Ea,rfl,B1,B2⟩:=Bz;refine Wk (ADc rfl rfl (ADc rfl rfl (ACg (ACu (Wk ?_)))));have Bf:=Ao.no2 By B2 B1;obtain ⟨B3,B4,B5⟩:=ABl Be;refine AC4 rfl (APv (H7.ext Bf.x) B4) fun B6 Eb B7 B8=>?_;obtain ⟨Ec,B9,rfl,Ca,Cb⟩:=B8;refine ABp (ABm (ABj (Wk ?_)));have Ar:=Bf.no B7 Cb Ca;refine ADn AB2 rfl (Ar.o2 p1).rd (Wk (ABo (ABq ?_)));obtain ⟨Au,Cd,Bg⟩:=ABl B5;obtain ⟨Ce,Cf,Cg⟩:=ACl Cd;refine ACk 618970019642687938426564608 (fun x:(Int) × (LiA) × LnA=>[(41,(.int .i64 x.1))]) (fun k x h'=>iter Ce k (x.1,x.2.1)=some Au/\Kst h h' (Ar.L.set 0 (aO (cI .i64) 2 x.2.2 B6 x.2.1))) (by kernel_rfl) fuel ((0,B3,B9):(Int) × (LiA) × LnA) ?_ ⟨rfl,trivial⟩ ?_
   ·exact ⟨Cg,Ar⟩
   rintro Ed ⟨Ch,Ci,Cj⟩ Ee Ef ⟨Ck,Aa⟩;obtain ⟨Cm,Eg,rfl,Ac,Ad⟩:=AB7 Ck;rw [Cf] at Ac;dsimp only at Ac;unfold AMs at Ac;refine ABj (AC1 rfl rfl (ABo (ABm (⟨_,rfl,fun Av=>?_,fun Av=>?_⟩))))
   ·refine ABr (q_t (ABm (ABq (ABj (Wk ?_)))));obtain ⟨Eh,Bh,Cn⟩:=ABl (AC7 Ac Av);refine ADi AB2 rfl (Aa.o2 p1) rfl Bh fun Ei Ej Ek Co Cp=>AB4 ACm rfl Cp (ACg (ACu (Wk (Wk (Wk ?_)))));obtain ⟨Bi,Cq,Bj⟩:=ABl Cn;refine AC4 rfl (AR1 ((Aa.o2 p1).rowI Co Bh) (H7.ext Aa.x) Cq) fun El Em Cr Ct=>?_;subst Ct;refine ABp (ABm (ABj (Wk (ADt rfl rfl (ABo ?_)))));have Bl:=Aa.e Cr;refine ⟨_,rfl,fun Aw=>?_,fun Aw=>?_⟩
    ·refine ACc (ACa (ADm (q_t (ABw (AC2 rfl rfl (Wk (ABo ?_)))))));obtain rfl:=ABk (AC7 Bj Aw);exact ⟨Cm,(((w64 (Ch + 1)),Ci,Cj):(Int) × (LiA) × LnA),Nat.lt_succ_self _,⟨Ad,Bl⟩,rfl,trivial⟩
    ·refine ABr (q_t (ABj (Wk (AMv rfl rfl (ARe (κ:= .i64) [(w64 (2 * Bi))] ABx AIl rfl rfl trivial tt2 rfl rfl rfl rfl fun Cu Cv En Cw Cx Cy Cz=>?_)))));have Ax:=Bl.no Cx (AHc Cy Cz) Cw;refine ATi (c:=(cI .i64)) (el:=2) [[Cu]] [Cv] [([(w64 (2 * Bi))]:List Int)] AB2 AMi rfl rfl trivial tt2 rfl rfl rfl rfl (ANp (Ax.o p0).isOne AXl) ⟨(Ax.o p0),trivial⟩ (by simp) fun Eo Ep Er C0 C1 C2=>Wk ?_;have Bm:=(((Ax.a0).grab p0)).lit C1 C0 (by simpa using C2);obtain ⟨⟨Es,Et⟩,C3,Bn⟩:=ABl (AC8 Bj Aw);dsimp only at Bn;refine AC4 rfl (Apm (Bm.o2 p0).rd C3) fun Eu Ay C4 C5=>?_;obtain ⟨Ev,rfl,C6⟩:=C5;refine Wk (ADc rfl rfl (ADc rfl rfl (ACg (ABp (ABm (AEq (fun h'=>UpT [] Ay h') (by kernel_rfl) ?_))))));have Az:=Bm.e C4;have A3:UpT [] Ay Ay:=UpT.start all_nil;refine Wk (Wk (Wk (Wk (Wk (AMv rfl rfl ?_)))));obtain ⟨C7,C8,C9⟩:=ABl Bn;refine ADd A3 (fun _ E=>A3.thenE E) rfl (APb (Az.o2 p3).rd (H7.ext Az.x) C8) fun Ew Ey Bo Da=>?_;subst Da;refine Wk ?_;have Bp:=A3.thenE Bo;have Ae:=Az.e Bo;obtain ⟨Db,Dc⟩:=ifN C9;refine ATn rfl rfl Db (AF8 rfl rfl (Wk ?_));obtain ⟨Ez,Dd,De⟩:=ABl Dc;refine AIy AB2 rfl C6 rfl Dd fun Fa Fb Fc Df Dg=>AGc ACm rfl Bp (fun h' hb=>ABz Df hb.ext) ?_;obtain ⟨Dh,Di,Dj⟩:=ABl De;refine AJf (c:=(cI .i64)) ABx rfl Dg rfl Di fun Fd Fe Ff Dk Dl=>?_;obtain rfl:=Dk;refine AGc ACr rfl Bp (fun h' hb=>ABz (Dl 0 _ rfl) hb.ext) (AMv rfl rfl (Wk ?_));obtain ⟨Dn,Do⟩:=ifN Dj;refine AG8 rfl rfl Dn (ACu (Wk (Wk ?_)));obtain ⟨Dp,Ah,Dq⟩:=ABl Do;refine ASl ABx rfl (Ae.o p2) rfl Ah fun Fg Dr=>?_;obtain ⟨Fh,Ds,Dt⟩:=(Ae.o p2).cells Dr Ah;obtain rfl:=Ds;refine AB4 ACr rfl (Dt 0 _ rfl) (Wk (Wk (AMv rfl rfl (AC2 rfl rfl (ASl ABx rfl (Ae.o p2) rfl Ah fun Fi Du=>Aif (AGb ACr rfl rfl rfl) (Ae.o p2) Du Ah (show ((cI .i64)).rep _ (w64 (Dp + (w64 (a5 * (Int.tmod (w64 ((w64 (a5 - (w64 (Int.tdiv C7 a5)))) * Dh)) a5))))) _ from rfl) fun Fj Dv Dw=>ABo ?_)))));have A4:=Ae.uO p2 Dw Dv;obtain rfl:=ABk Dq;change _=Au at Ad;subst Ad;refine ACc (Ac9 (by decide) (ACa (ACa (ADm (q_t (ABj (Wk (ACg (ABp (ABs ?_))))))))));obtain rfl:=ABk Bg;exact ⟨_,ADb,A4.x,_,_,rfl,(A4.o p2),A4.s.sel [2] (by decide)⟩
   ·obtain rfl:=ABk (AC8 Ac Av);change _=Au at Ad;subst Ad;refine ACc (ACa (ACa (ADm (q_t (ABj (Wk (ACg (ABp (ABs ?_)))))))));obtain rfl:=ABk Bg;exact ⟨_,ADb,Aa.x,_,_,rfl,(Aa.o p0),Aa.s.sel [0] (by decide)⟩
noncomputable def AN6 (fuel:Nat) (Ac Ad Aa:Int) (Ab:LiA):Option ((Int × LiA) ⊕ ((Int × LiA))):=
  (((if Ad < Aa then ((gI Ab Aa).bind fun Ae=>(if Ae=(w64 (Ac - 1)) then (some (Sum.inl <| ())) else (some (Sum.inr <| ())))) else (some (Sum.inr <| ()))):Option ((Unit) ⊕ (Unit))).bind (fun ex=>match ex with | Sum.inl _=>((gI Ab Aa).bind fun Af=>(some (Sum.inl ((w64 (Aa - 1)),(sI Ab Aa 0))))) | Sum.inr (_)=>(some (Sum.inr<| (Aa,Ab)))))
noncomputable def AN7 (fuel:Nat) (a5:Int) (Ah:LiI) (Ai Aj Ad:Int) (Aa:LiI) (Ab:LiA):Option ((LiI × LiA) ⊕ ((LiI))):=
  ((((AI4 fuel Ah Ab a5).bind fun Ak=>(if Ak=0 then ((AJq fuel Ab).bind fun Am=>(if Aa.length<=100000000 then (some ( (Aa ++ [Am]))) else none)) else (some ( Aa)))):Option (LiI)).bind fun Ae=>((((iter (fun s=>AN6 fuel Aj Ad s.1 s.2) fuel ((w64 (Ai - 1)),Ab)).bind (fun ((Ao,Ap):Int × LiA)=>(some ( (Ao,Ap))))):Option ((Int × LiA))).bind (fun ((Ac,Af):Int × LiA)=>(if Ac=Ad then (some (Sum.inr<| Ae)) else ((gI Af Ac).bind fun Aq=>(some (Sum.inl (Ae,(sI Af Ac (w64 (Aq + 1)))))))))))
noncomputable def AN8 (fuel:Nat) (a5:Int) (Ae:LiI) (Aa Af Ab:Int) (Ac:LiI):Option ((Int × LiI) ⊕ ((LiI))):=
  (if 0<=Ab then (if 0<=Aa/\Aa<=100000000 then ((gI (List.replicate (Int.toNat Aa) (0:Int)) Ab).bind fun Ah=>((iter (fun s=>AN7 fuel a5 Ae Aa Af Ab s.1 s.2) fuel (Ac,(sI (List.replicate (Int.toNat Aa) (0:Int)) Ab 1))).bind (fun (Ag:LiI)=>(some (Sum.inl ((w64 (Ab - 1)),Ag)))))) else none) else (some (Sum.inr<| Ac)))
noncomputable def AI5 (fuel:Nat) (a3:LiI) (a5:Int):Option (LiI × Int):=
  ((AGq fuel a3 a5).bind fun Ac=>(if ¬ Ac=0 then (some ([],Ac)) else ((AE7 fuel a3 a5).bind fun (Ae,Ai)=>(((some ( ((a3.length:Int),a5))):Option (Int × Int)).bind fun (Ad,Af)=>((((iter (fun s=>AN8 fuel a5 Ae Ad Af s.1 s.2) fuel ((w64 (Ad - 1)),[])).bind (fun (Ag:LiI)=>(some ( Ag)))):Option (LiI)).bind fun Ah=>(some (Ah,0)))))))
theorem AR2 {fuel:Nat} {h:ABh} {Bx:Value} {a3:LiI} {a5:Int} {r:(LiI × Int)} (H2:AGe (cI .i64) h Bx a3) (HO:AT2 h) (hp:AI5 fuel a3 a5=some r):ACd Tryz.prog 20 #[Bx,(.int .i64 a5)] h (fun x h'=>Ext h h'/\ ∃ (x0:Value) (F0:List Nat) (C1:List LnA) (C2:List Value),x= .tuple #[x0,.int .i64 r.2]/\AFe (cI .i64) 23 2 h' F0 C1 C2 x0 r.1/\Sp h' h.size [F0]):=by
 unfold AI5 at hp;refine Afj (l:=[_,_]) mx Tryz.func20 rfl rfl rfl rfl rfl (by kernel_rfl) (AZe (by kernel_rfl) (ABw (AHz [(.int .i64 a5)] trivial tt2 rfl rfl fun b6 h7 V8 E9 C5=>ACg (ABp (AZe (by kernel_rfl) (ABj (Wk ?_)))))));have Aj:=(Kst.k0 h).nb E9 C5 V8;refine AB4 ACr rfl ((Aj.b p0).cell (i:=0) rfl) ?_;obtain ⟨Hc,C6,B1⟩:=ABl hp;refine AC4 rfl (AOf (H2.ext Aj.x) (HO.ext Aj.x) C6) fun Hd He C7 C8=>?_;subst C8;refine ACu (Wk (AHe rfl rfl (ABo ?_)));have Ak:=Aj.e C7;refine ⟨_,rfl,fun A3=>?_,fun A3=>?_⟩
 ·refine ABj (Wk (ACg (ABp (ABs (AB1 ?_)))));have A4:=Kst.anil2 (cI .i64) 23 2 Ak;obtain rfl:=ABk (AC7 B1 A3);exact ⟨_,ADb,A4.x,_,_,_,_,rfl,(A4.o2 p0),A4.s.sel [0] (by decide)⟩
 ·refine ABr (q_t (AZe (by kernel_rfl) (ABw (Wk (AB4 ACr rfl ((Ak.b p0).cell (i:=0) rfl) ?_)))));obtain ⟨⟨Hf,Hg⟩,C9,B2⟩:=ABl (AC8 B1 A3);dsimp only at B2;refine AC4 rfl (AKq (H2.ext Ak.x) C9) fun Hh Hj Da Db=>?_;obtain ⟨Dc,Hk,Hl,Hm,rfl,Dd,De⟩:=Db;refine Wk (ADc rfl rfl (ADc rfl rfl (ADw [(.slice none 0 0)] Att rfl trivial tt2 fun Hn Ho Df Dg Dh=>?_)));have A5:=(Ak.no2 Da De Dd).nb Dg Dh Df;refine AUp [Dc] Ad0 rfl rfl (A5.o2 p1).isOne (A5.b p0) (Nat.le_of_ble_eq_true rfl) rfl fun Hq Di Dj=>ABp (AZe (by kernel_rfl) (ABw (ADw [(.slice none 0 0)] Att rfl trivial tt2 fun Am Hr Dk Dl Dn=>ABo (Avn (by kernel_rfl) (AZe (by kernel_rfl) (ABw (Wk (ADn AB2 rfl H2 ?_))))))));have A6:=(A5.sb p0 Dj Di rfl).nb Dl Dn Dk;refine AB4 ACr rfl ((A6.b p3).cell (i:=0) rfl) ?_;obtain ⟨Do,Dp,Dq⟩:=ABl B2;refine ACn (K':=(fun xr h'=> ∃ x:(Nat) × (Int) × (Nat) × (Int),(x.2.1,x.2.2.2)=Do/\xr=(.func (.func 78) #[] #[(.pointer (some ⟨x.1,0,none⟩)),(.pointer (some ⟨x.2.2.1,0,none⟩))])/\Kst h h' (aB 3 x.1 [(.int .i64 x.2.1)] :: aB 2 x.2.2.1 [(.int .i64 x.2.2.2)] :: A6.L))) trivial rfl ?_ fun Hs Ht Dr=>?_
  ·refine cwf (l:=[_,_]) Tryz.func46 rfl rfl (ABj (AHz [(.int .i64 (a3.length:Int))] trivial tt2 rfl rfl fun Ds Hu Dt Du Dv=>AHz [(.int .i64 a5)] trivial tt2 rfl rfl fun Dw Hv Dx Dy Dz=>ACu (At5 rfl (ABp (ABs (⟨_,ABu,((Ds,(a3.length:Int),Dw,a5):(Nat) × (Int) × (Nat) × (Int)),?_,rfl,?_⟩))))))
   ·exact ABk Dp
   ·exact ((A6.nb Du Dv Dt).nb Dy Dz Dx).sel [1,0,2,3,4,5] (by decide)
  obtain ⟨⟨D0,A7,D1,Hw⟩,D2,rfl,D3⟩:=Dr;refine ⟨trivial,?_⟩;subst D2;refine ABo (Asj mx (by kernel_rfl) ⟨_,[(.pointer (some ⟨D0,0,none⟩)),(.pointer (some ⟨D1,0,none⟩))],rfl,fun h_rf rf_r rf_b rf_ol rf_ob rf_oe hE_rf l1_rf l2_rf l3_rf l4_rf hne_rf hd_rf hl_rf Ao A8 D4 hY_rf=>?_⟩);have A9:=D3.rg hE_rf l1_rf l2_rf l3_rf l4_rf hne_rf hd_rf hl_rf;obtain ⟨D5,D6,D7⟩:=ABl Dq;refine ACd.mono (K:=(fun xr h'=> ∃ x:(LiI) × (Value) × LnA × LnN × LvA,x.1=D5/\xr= .tuple #[]/\Kst h h' (aO2 (cI .i64) 23 2 x.2.2.1 x.2.2.2.1 x.2.2.2.2 x.2.1 x.1 :: (A9.L.set 4 (aB 22 Am [x.2.1]))))) ?_ fun Hx Hy D8=>?_
  ·refine cwf (l:=[_,_,_]) Tryz.func78 rfl rfl (ABj (AB4 AFh rfl ((A9.b p2).cell (i:=0) rfl) (AF8 rfl rfl (ABp (ABq ?_)))));obtain ⟨B3,D9,Ea⟩:=ABl D6;obtain ⟨Eb,Ec,Ed⟩:=ACl D9;have B4:=Kst.anil2 (cI .i64) 23 2 A9;refine ACk 1125899906842224 (fun x:(Int) × (LiI) × (Value) × LnA × LnN × LvA=>[(4,(.int .i64 x.1))]) (fun k x h'=>iter Eb k (x.1,x.2.1)=some B3/\Kst h h' ((B4.L.set 0 (aO2 (cI .i64) 23 2 x.2.2.2.1 x.2.2.2.2.1 x.2.2.2.2.2 x.2.2.1 x.2.1)).set 5 (aB 22 Am [x.2.2.1]))) (by kernel_rfl) fuel (((w64 (A7 - 1)),[],(.slice none 0 0),[],[],[]):(Int) × (LiI) × (Value) × LnA × LnN × LvA) ?_ ⟨rfl,trivial⟩ ?_
   ·exact ⟨Ed,B4⟩
   rintro Hz ⟨Ba,B5,B6,B7,B8,B9⟩ H5 H9 ⟨Ee,Bb⟩;obtain ⟨Ef,Ia,rfl,Ae,Bc⟩:=AB7 Ee;rw [Ec] at Ae;dsimp only at Ae;unfold AN8 at Ae;refine ABm (ABj (Wk (AL0 rfl rfl (ABo (⟨_,rfl,fun Be=>?_,fun Be=>?_⟩)))))
   ·refine ABr (q_t (ABm (ABq (ABj (AB4 AFh rfl ((Bb.b p3).cell (i:=0) rfl) ?_)))));obtain ⟨Eg,Eh⟩:=ifN (AC7 Ae Be);refine ASm (c:=(cI .i64)) (a:=0) ABx AIl rfl rfl (fun _=>rfl) rfl trivial tt2 rfl rfl (by decide) Eg fun Bf Bg Ib Ei Ej Ek El=>ACu (Wk (Wk ?_));have Bh:=Bb.no Ej (AHc Ek El) Ei;obtain ⟨Ic,Ca,Em⟩:=ABl Eh;refine ASl ABx rfl (Bh.o p0) rfl Ca fun Id En=>Aif (AGb ACr rfl rfl rfl) (Bh.o p0) En Ca (show ((cI .i64)).rep _ 1 _ from rfl) fun Ie Eo Ep=>ABo (ABq ?_);have Cb:=Bh.uO p0 Ep Eo;obtain ⟨Cd,Er,Es⟩:=ABl Em;obtain ⟨Et,Eu,Ev⟩:=ACl Er;refine ACk 1125899906580544 (fun x:(LiI) × (Value) × LnA × LnN × LvA × (LiA)=>[]) (fun k x h'=>iter Et k (x.1,x.2.2.2.2.2)=some Cd/\Kst h h' (((Cb.L.set 1 (aO2 (cI .i64) 23 2 x.2.2.1 x.2.2.2.1 x.2.2.2.2.1 x.2.1 x.1)).set 0 (aO (cI .i64) 2 [Bf] Bg x.2.2.2.2.2)).set 6 (aB 22 Am [x.2.1]))) (by kernel_rfl) fuel ((B5,B6,B7,B8,B9,(sI (List.replicate (Int.toNat A7) (0:Int)) Ba 1)):(LiI) × (Value) × LnA × LnN × LvA × (LiA)) ?_ trivial ?_
    ·exact ⟨Ev,Cb⟩
    rintro If ⟨Ce,Ew,Bi,Cf,Cg,Ey⟩ Ih Ii ⟨Ez,Ap⟩;obtain ⟨Fa,Ij,rfl,Aq,Bj⟩:=AB7 Ez;rw [Eu] at Aq;dsimp only at Aq;unfold AN7 at Aq;refine ABq (ABm (ABm (Apc (l:=rf_b) (by kernel_rfl) (Wk (Wk (ACj ⟨rfl,_,rfl,?_⟩))))));obtain ⟨Fb,Fc,Fd⟩:=ABl Aq;refine ARs.mono (K':=(fun xr h'=> ∃ x:(LiI) × (Value) × LnA × LnN × LvA,x.1=Fb/\xr= .bool true/\Kst h h' ((Ap.L.set 1 (aO2 (cI .i64) 23 2 x.2.2.1 x.2.2.2.1 x.2.2.2.2 x.2.1 x.1)).set 6 (aB 22 Am [x.2.1])))) ?_ fun Ik Il Fe=>?_
    ·refine hY_rf _ _ _ (Ap.ob p3) (Apa (ACg (ACj (⟨(Ap.ob p3),?_⟩))));obtain ⟨Im,Ff,Io,Af⟩:=Ap.uob (o':=rf_ob) p3 Ao A8;rw [Ff];refine Asg (Ats (Apa (AB4 Ad0 rfl ((Af.b p7).cell (i:=0) rfl) (Wk (AB4 ACr rfl ((Af.b p9).cell (i:=0) rfl) ?_)))));obtain ⟨Ip,Fg,Ch⟩:=ABl Fc;refine AC4 rfl (APb (Af.o2 p8).rd (Af.o p0).rd Fg) fun Iq Bl Fh Fi=>?_;subst Fi;refine ADt rfl rfl (ABo ?_);have Aa:=Af.e Fh;refine ⟨_,rfl,fun Bm=>?_,fun Bm=>?_⟩
     ·refine Ash (fun h'=>UpT (Bi ++ []) Bl h') (by kernel_rfl) ?_;have Ar:UpT (Bi ++ []) Bl Bl:=UpT.start (AD4 (Aa.o2 p1).notD all_nil);refine AGc Ad0 rfl Ar (fun h' hb=>((Aa.b p6).upT hb (Am6 (Aa.dj p6 p1 (by decide)) Am7)).cell (i:=0) rfl) (Wk ?_);obtain ⟨Fj,Fk,Fl⟩:=ABl (AC7 Ch Bm);refine ADd Ar (fun _ E=>Ar.thenE E) rfl (APv (Aa.o p0).rd Fk) fun Fm Ir Ci Fo=>?_;obtain ⟨It,Fp,rfl,Fq,Fr⟩:=Fo;have Cj:=Ar.thenE Ci;have Au:=Aa.no Ci Fr Fq;obtain ⟨Ft,Fu⟩:=ifN Fl;refine Aig AB2 AMi rfl rfl Cj (fun _ U=>Cj.then U (ALg rfl)) (fun _=>rfl) rfl (Au.o p0) (Au.o2 p2) (Au.dj p0 p2 (by decide)) (by decide) Ft fun Iu Fv Ck Iv Fw Fx Fy=>?_;have Bn:=Au.m2 p0 p2 (by decide) Fx Fw Fy;refine AUp [Ck] Ad0 rfl rfl (Bn.o2 p2).isOne (Bn.b p7) (Nat.le_of_ble_eq_true rfl) rfl fun Iw Fz F4=>ACj (q_b ?_);have Cm:=Bn.sb p7 F4 Fz rfl;refine ⟨(Cm.ob p4),?_⟩;obtain ⟨Ix,F5,Iy,F6⟩:=Cm.uob (o':=rf_ol) p4 A8 Ao;rw [F5];refine ⟨(((Ce ++ [Fj]),Ck,Fv,(Cf ++ [Fp]),(Cg ++ [Fm])):(LiI) × (Value) × LnA × LnN × LvA),?_,rfl,?_⟩
      ·exact ABk Fu
      ·exact F6.sel [1,2,3,4,5,6,7,8,9,10] (by decide)
     ·refine Avm (q_b (⟨(Aa.ob p3),?_⟩));obtain ⟨Iz,F7,I0,F8⟩:=Aa.uob (o':=rf_ol) p3 A8 Ao;rw [F7];refine ⟨((Ce,Ew,Bi,Cf,Cg):(LiI) × (Value) × LnA × LnN × LvA),?_,rfl,?_⟩
      ·exact ABk (AC8 Ch Bm)
      ·exact F8
    obtain ⟨⟨Cn,Co,Cp,Cq,Cr⟩,F9,rfl,Av⟩:=Fe;subst F9;refine AGr rfl (ABo (AB9 rfl (ABr (q_t (ABj (AB4 AFh rfl ((Av.b p4).cell (i:=0) rfl) (AF8 rfl rfl (ABp ?_))))))));obtain ⟨Ga,Gb,Ct⟩:=ABl Fd;refine ANi 2199006478400 (fun x:(Int) × (LiA)=>[(6,(.int .i64 x.1))]) (fun x h'=>( (x.1,x.2))=Ga/\Kst h h' (Av.L.set 0 (aO (cI .i64) 2 [Bf] Bg x.2))) ?_ ?_
    ·refine ABq ?_;obtain ⟨Bo,Gc,Cu⟩:=ABl Gb;obtain ⟨Gd,Ge,Gf⟩:=ACl Gc;refine ACk 2199006478400 (fun x:(Int) × (LiA)=>[(6,(.int .i64 x.1))]) (fun k x h'=>iter Gd k (x.1,x.2)=some Bo/\Kst h h' (Av.L.set 0 (aO (cI .i64) 2 [Bf] Bg x.2))) (by kernel_rfl) fuel (((w64 (A7 - 1)),Ey):(Int) × (LiA)) ?_ ⟨rfl,trivial⟩ ?_
     ·exact ⟨Gf,Av⟩
     rintro I1 ⟨Ag,Bp⟩ I2 I3 ⟨Gg,Ab⟩;obtain ⟨Gh,I6,rfl,Aw,Ah⟩:=AB7 Gg;rw [Ge] at Aw;dsimp only at Aw;unfold AN6 at Aw;obtain ⟨Gi,Cv,Bq⟩:=ABl Aw;refine ANi 68702699520 (fun x:Unit=>[]) (fun x h'=>(Sum.inl <| ())=Gi/\Kst h h' (Ab.L)) ?_ ?_
     ·refine ABm (AMd (Wk (Wk (AKm rfl rfl (Wk ?_)))));by_cases Ax:Ba < Ag
      ·rw [decide_eq_true Ax];refine ACe 27 true (Wk (ACe 27 true (Wk (ACe 27 true ?_))));obtain ⟨I7,Cw,Cx⟩:=ABl (ifT Cv Ax);refine ASl ABx rfl (Ab.o p0) rfl Cw fun I9 Gj=>ACe 27 true ?_;obtain ⟨Ja,Gk,Gl⟩:=(Ab.o p0).cells Gj Cw;obtain rfl:=Gk;refine AB4 ACr rfl (Gl 0 _ rfl) (ACe 27 true (AB4 ACr rfl ((Ab.b p5).cell (i:=0) rfl) (ACe 27 true (AF8 rfl rfl (ACe 27 true (ADt rfl rfl (AB0 rfl (ABo (⟨_,rfl,fun Br=>?_,fun Br=>?_⟩)))))))))
       ·refine ABr (q_t ?_);exact ⟨(():Unit),⟨ABk (AC7 Cx Br),Ab⟩,trivial⟩
       ·obtain rfl:=ABk (AC8 Cx Br);obtain rfl:=ABk Bq;change _=Bo at Ah;subst Ah;refine ACc (ACa (ACa (ADm (q_t ?_))));exact ⟨((Ag,Bp):(Int) × (LiA)),⟨ABk Cu,Ab⟩,rfl,trivial⟩
      ·rw [decide_eq_false Ax];refine AIx 27 false (AGs 27 false (ABv rfl (ABo (AB9 rfl ?_))));obtain rfl:=ABk (ifF Cv Ax);obtain rfl:=ABk Bq;change _=Bo at Ah;subst Ah;refine ACc (ACa (ACa (ADm (q_t ?_))));exact ⟨((Ag,Bp):(Int) × (LiA)),⟨ABk Cu,Ab⟩,rfl,trivial⟩
     rintro ⟨⟩ Jc Je ⟨Gm,Bt⟩;subst Gm;refine ABq (ABj (Wk (Wk ?_)));obtain ⟨Jf,Cy,Gn⟩:=ABl Bq;refine ASl ABx rfl (Bt.o p0) rfl Cy fun Jg Gp=>Aif (AGb ACr rfl rfl rfl) (Bt.o p0) Gp Cy (show ((cI .i64)).rep _ 0 _ from rfl) fun Jh Gq Gr=>ABo (ABw (Wk (AF8 rfl rfl (ACg (ACj (q_b (q_t ?_)))))));obtain rfl:=ABk Gn;exact ⟨Gh,(((w64 (Ag - 1)),(sI Bp Ag 0)):(Int) × (LiA)),Nat.lt_succ_self _,⟨Ah,(Bt.uO p0 Gr Gq)⟩,rfl,trivial⟩
    rintro ⟨Gt,Gu⟩ Ji Jj ⟨Gv,Ac⟩;subst Gv;refine ABm (ABj (Wk (Wk (ADt rfl rfl (ABo (⟨_,rfl,fun Bu=>?_,fun Bu=>?_⟩))))))
    ·obtain rfl:=ABk (AC7 Ct Bu);change _=Cd at Bj;subst Bj;refine ACc (ACa (Ac9 (by decide) (ACa (ADm (q_b (q_t (ABw (Wk (AF8 rfl rfl (ABp ?_))))))))));obtain rfl:=ABk Es;exact ⟨Ef,(((w64 (Ba - 1)),Cn,Co,Cp,Cq,Cr):(Int) × (LiI) × (Value) × LnA × LnN × LvA),Nat.lt_succ_self _,⟨Bc,Ac.sel [1,2,3,4,5,6,7,8,9] (by decide)⟩,rfl,trivial⟩
    ·refine ABr (q_t (ABw (Wk (Wk ?_))));obtain ⟨Cz,Ay,Gw⟩:=ABl (AC8 Ct Bu);refine ASl ABx rfl (Ac.o p0) rfl Ay fun Jk Gx=>?_;obtain ⟨Jl,Gy,Gz⟩:=(Ac.o p0).cells Gx Ay;obtain rfl:=Gy;refine AB4 ACr rfl (Gz 0 _ rfl) (AC2 rfl rfl (ASl ABx rfl (Ac.o p0) rfl Ay fun Jm G3=>Aif (AGb ACr rfl rfl rfl) (Ac.o p0) G3 Ay (show ((cI .i64)).rep _ (w64 (Cz + 1)) _ from rfl) fun Jn G4 G5=>ACj (q_b (q_t ?_))));obtain rfl:=ABk Gw;exact ⟨Fa,((Cn,Co,Cp,Cq,Cr,(sI Gu Gt (w64 (Cz + 1)))):(LiI) × (Value) × LnA × LnN × LvA × (LiA)),Nat.lt_succ_self _,⟨Bj,(Ac.uO p0 G5 G4)⟩,trivial⟩
   ·obtain rfl:=ABk (AC8 Ae Be);change _=B3 at Bc;subst Bc;refine ACc (ACa (ACa (ADm (⟨_,ASy,((B5,B6,B7,B8,B9):(LiI) × (Value) × LnA × LnN × LvA),?_,rfl,?_⟩))))
    ·exact ABk Ea
    ·exact Bb
  obtain ⟨⟨Jo,Jp,Jq,Jr,Js⟩,G6,rfl,C0⟩:=D8;subst G6;refine ⟨(C0.ob p2),?_⟩;obtain ⟨Jt,G7,Ju,Bv⟩:=C0.uob (o':=rf_oe) p2 Ao D4;rw [G7];refine q_t (Ats (Apa (AB4 Ad0 rfl ((Bv.b p5).cell (i:=0) rfl) (ACg (ABp (Aww ?_))))));obtain rfl:=ABk D7;refine ⟨(Bv.ob p1),?_⟩;obtain ⟨Jv,G8,Jw,Bw⟩:=Bv.uob (o':=(.deferred none)) p1 rfl rfl;rw [G8];exact ⟨_,ADb,Bw.x,_,_,_,_,rfl,(Bw.o2 p0),Bw.s.sel [0] (by decide)⟩
end Go.Proofs.YtiegjkmfpcgjjaaGreatDoor
namespace Go.Proofs.YtiegjkmfpcgjjaaGreatDoor
open Go Go.QF
set_option maxRecDepth 100000
noncomputable def AR8 (M:List (List Int)) (p:Int) (lim:Bool):Int:=
  if isRed M=true then (if AOn p=true/\det M.length (ent M) % p≠0 then (if lim=true/\65536 < p ^ M.length then 7 else 0) else 20) else 6
theorem Apn {E:Type} {body:Int × Int->Option ((Int × Int) ⊕ (E ⊕ Unit))} {fuel n:Nat} {p:Int} {x:E} (hp:2<=p) (Ab:p<=9973) (hn:n<=16) (hf:100 < fuel) (hb:∀ a b,body (a,b)=if b < (n:Int) then (if 65536 < w64 (a * p) then some (.inr (.inl x)) else some (.inl (w64 (a * p),w64 (b + 1)))) else some (.inr (.inr ()))):Ok (iter body fuel (1,0)) fun e=>(e= .inl x/\65536 < p ^ n)∨(e= .inr ()/\p ^ n<=65536):=by
 refine ACz (fun i s=>s=(p ^ i,(i:Int))/\i<=n/\p ^ i<=65536) n ⟨by simp,Nat.zero_le _,by simp⟩ (by omega) fun i s hi hI=>?_;obtain ⟨rfl,h1,h2⟩:=hI;rw [hb];have hpos:0 < p ^ i:=Int.pow_pos (by omega);have hm:p ^ i * p<=65536 * 9973:=Int.mul_le_mul h2 Ab (by omega) (by omega);have Ae:0<=p ^ i * p:=Int.mul_nonneg (by omega) (by omega);have hs:p ^ (i + 1)=p ^ i * p:=Int.pow_succ p i
 refine ACf (fun h=>?_) fun h=>ABi (.inr ⟨rfl,by
   obtain rfl:i=n:=by omega
   exact h2⟩)
 rw [wk (by omega)];refine ACf (fun h3=>ABi (.inl ⟨rfl,?_⟩)) fun h3=>ABi ⟨by omega,by rw [AId (by omega),hs],by omega,by rw [hs];omega⟩;have:=ARu (p:=p) (by omega) (show i + 1<=n by omega);omega
theorem AVe {p:Int} (h:AOn p=true):3<=p/\p<=9973:=by have:=Ack h;omega
theorem AZk {fuel:Nat} {M:List (List Int)} {p:Int} (hf:2147483648 < fuel):AJ3 fuel M p=some (AR8 M p false):=by
 unfold AJ3 AV7 AR8;simp only [Option.bind_some]
 cases hr:isRed M with
 | false=>rfl
 | true=>
   have R:=(AQr M).1 hr
   simp only [Bool.not_true,Bool.false_eq_true,reduceIte,false_and]
   apply ok_eq
   refine ABn (Q:=fun ex=>(ex= .inl 20/\AOn p=false)∨(ex= .inr ()/\AOn p=true)) ?_ fun ex hex=>?_
   · refine ACf (fun h=>ABi (.inl ⟨rfl,(ARo (by omega)).symm⟩)) fun h=>ACf (fun h2=>ABi (.inl ⟨rfl,(ARo (by omega)).symm⟩)) fun h2=>?_
     unfold AY5
     simp only [Option.bind_some]
     refine ACf (fun h3=>ABi (.inl ⟨rfl,(ARo fun hc=>?_).symm⟩)) fun h3=>ABi (.inr ⟨rfl,?_⟩)
     · have h3:AKl p=false:=by simpa using h3
       exact AZv h3 ⟨by omega,hc.2.2⟩
     · have h3:AKl p=true:=by simpa using h3
       have:=Aab h3
       have h4:=this.2.1
       exact (AT9 ⟨by omega,by omega,this.2⟩).symm
   · rcases hex with ⟨rfl,ho⟩ | ⟨rfl,ho⟩
     · exact ABi (by rw [if_neg (by simp [ho])])
     · have hb:=AVe ho
       dsimp only
       have hM:=AVb R
       have hd:AGx fuel M p=some (det M.length (ent M) % p,0):=by
         conv=>lhs;rw [hM]
         exact Apj R.1.1 R.1.2 (by omega) (by omega) hf
       rw [hd]
       simp only [Option.bind_some]
       rw [if_neg (by decide)]
       exact ACf (fun h=>ABi (by rw [if_neg (by simp [h])])) fun h=>ABi (by rw [if_pos ⟨ho,h⟩])
theorem AXm {fuel:Nat} {M:List (List Int)} {p:Int} (hf:2147483648 < fuel):AGq fuel M p=some (AR8 M p true):=by
 unfold AGq;rw [AZk hf];simp only [Option.bind_some];apply ok_eq;refine ACf (fun h=>ABi ?_) fun h=>?_
 ·unfold AR8 at h ⊢;by_cases hr:isRed M=true
  ·rw [if_pos hr] at h ⊢;rw [if_pos hr];by_cases hg:AOn p=true/\det M.length (ent M) % p≠0
   ·rw [if_pos hg] at h;simp at h
   ·rw [if_neg hg,if_neg hg]
  ·rw [if_neg hr,if_neg hr]
 ·have h:AR8 M p false=0:=by simpa using h
  unfold AR8 at h;by_cases hr:isRed M=true
  ·rw [if_pos hr] at h;by_cases hg:AOn p=true/\det M.length (ent M) % p≠0
   ·have R:=(AQr M).1 hr;have hb:=AVe hg.1;have h8:=R.1.2;refine ABn (Apn (n:=M.length) (x:=(7:Int)) (by omega) hb.2 (by omega) (by omega) fun a b=>rfl) fun ex hex=>?_;rcases hex with ⟨rfl,h3⟩ | ⟨rfl,h3⟩
    ·exact ABi (by unfold AR8;rw [if_pos hr,if_pos hg,if_pos ⟨rfl,h3⟩])
    ·exact ABi (by unfold AR8;rw [if_pos hr,if_pos hg,if_neg (fun hh=>absurd hh.2 (by omega))])
   ·rw [if_neg hg] at h;simp at h
  ·rw [if_neg hr] at h;simp at h
end Go.Proofs.YtiegjkmfpcgjjaaGreatDoor
namespace Go.Proofs.YtiegjkmfpcgjjaaGreatDoor
open Go Go.QF
set_option maxRecDepth 100000
set_option maxHeartbeats 4000000
noncomputable def AG3 (fuel:Nat) (a3:LiI) (a5:Int):Option Bool:=
  ((Acl fuel a5).bind fun x6=>(if x6=true then ((AHu fuel a3).bind fun Ad=>(if a5≠0 then (some (decide (¬ (Int.tmod Ad a5)=0))) else none)) else (some false)))
theorem AQw {fuel:Nat} {h:ABh} {Ab:Value} {a3:LiI} {a5:Int} {r:Bool} (H2:AGe (cI .i64) h Ab a3) (hp:AG3 fuel a3 a5=some r):ACd Tryz.prog 31 #[Ab,(.int .i64 a5)] h (fun x h'=>Ext h h'/\x= .bool r):=by
 unfold AG3 at hp;refine cwf (l:=[_,_]) Tryz.func31 rfl rfl (ABj (ACu (Wk ?_)));obtain ⟨x6,Ai,Ae⟩:=ABl hp;refine AC4 rfl (Aok Ai) fun Av Aw E9 Ak=>?_;subst Ak;refine Wk ?_;have Aa:=(Kst.k0 h).e E9;cases Af:x6
 ·refine AIx 7 false (ABv rfl (ABp (ABs ?_)));obtain rfl:=ABk (ALo Ae Af);exact ⟨_,ABu,Aa.x,rfl⟩
 ·refine ACe 7 true (Wk (ACe 7 true ?_));obtain ⟨Ax,Am,Ao⟩:=ABl (ifT Ae Af);refine AC4 rfl (ARp (H2.ext Aa.x) Am) fun Ay Az Ap Aq=>?_;subst Aq;refine ACe 7 true (Wk (ACe 7 true ?_));obtain ⟨Ar,Au⟩:=ifN Ao;refine AG8 rfl rfl Ar (ACe 7 true (AHe rfl rfl (AB0 rfl (ABp (ABs ?_)))));obtain rfl:=ABk Au;exact ⟨_,ABu,(Aa.e Ap).x,rfl⟩
noncomputable def AHk (fuel:Nat) (a3:LiI) (Ab Aa:Int):Option ((Int × Int) ⊕ ((Int))):=
  ((AG3 fuel a3 Aa).bind fun Ad=>(if Ad=true then (if Ab=0 then (some (Sum.inr<| Aa)) else (some (Sum.inl ((w64 (Ab - 1)),(w64 (Aa + 2)))))) else (some (Sum.inl (Ab,(w64 (Aa + 2)))))))
noncomputable def AFg (fuel:Nat) (a3:LiI) (a5:Int):Option Int:=
  ((iter (fun s=>AHk fuel a3 s.1 s.2) fuel ((w64 (Int.tmod a5 2)),3)).bind (fun (Ac:Int)=>(some Ac)))
theorem AN9 {fuel:Nat} {h:ABh} {Ag:Value} {a3:LiI} {a5 r:Int} (H2:AGe (cI .i64) h Ag a3) (hp:AFg fuel a3 a5=some r):ACd Tryz.prog 13 #[Ag,(.int .u8 a5)] h (fun x h'=>Ext h h'/\x= .int .i64 r):=by
 unfold AFg at hp;refine cwf (l:=[_,_]) Tryz.func13 rfl rfl (ABj (ACu (Wk (AG8 rfl rfl (by decide) (ALx APp AQ7 rfl (ACu (ABp (ABq ?_))))))));have K0:=Kst.k0 h;obtain ⟨Aj,Av,Aw⟩:=ABl hp;obtain ⟨Ax,Ay,Az⟩:=ACl Av;refine ACk 1047664 (fun x:(Int) × (Int)=>[(5,(.int .i64 x.1)),(6,(.int .i64 x.2))]) (fun k x h'=>iter Ax k (x.1,x.2)=some Aj/\Kst h h' (K0.L)) (by kernel_rfl) fuel (((w64 (Int.tmod a5 2)),3):(Int) × (Int)) ?_ ⟨rfl,rfl,trivial⟩ ?_
 ·exact ⟨Az,K0⟩
 rintro A7 ⟨Ak,Am⟩ A8 A9 ⟨A3,Ao⟩;obtain ⟨Ap,Ba,rfl,Aa,Ab⟩:=AB7 A3;rw [Ay] at Aa;dsimp only at Aa;unfold AHk at Aa;refine ABm (ABq (ABj (Wk (Wk ?_))));obtain ⟨Bb,A4,Aq⟩:=ABl Aa;refine AC4 rfl (AQw (H2.ext Ao.x) A4) fun Bc Be A5 A6=>?_;subst A6;refine ABo ?_;have Ad:=Ao.e A5;refine ⟨_,rfl,fun Ae=>?_,fun Ae=>?_⟩
 ·refine ABm (ABj (Wk (ADt rfl rfl (ABo ?_))));have Ar:=ifT Aq Ae;refine ⟨_,rfl,fun Af=>?_,fun Af=>?_⟩
  ·refine ABj (Wk (ABp ?_));obtain rfl:=ABk (AC7 Ar Af);change _=Aj at Ab;subst Ab;refine ABs (AB1 (ADs (AB1 (AB1 (ADs ?_)))));obtain rfl:=ABk Aw;exact ⟨_,ABu,Ad.x,rfl⟩
  ·refine ABr (q_t (ABw (Wk (AF8 rfl rfl (ACg (ACj (q_b (q_t (ABw (Wk (AC2 rfl rfl (ABp ?_))))))))))));obtain rfl:=ABk (AC8 Ar Af);exact ⟨Ap,(((w64 (Ak - 1)),(w64 (Am + 2))):(Int) × (Int)),Nat.lt_succ_self _,⟨Ab,Ad⟩,rfl,rfl,trivial⟩
 ·refine ABr (q_b (q_t (ABw (Wk (AC2 rfl rfl (ABp ?_))))));obtain rfl:=ABk (ALo Aq Ae);exact ⟨Ap,((Ak,(w64 (Am + 2))):(Int) × (Int)),Nat.lt_succ_self _,⟨Ab,Ad⟩,rfl,rfl,trivial⟩
noncomputable def AEx (fuel:Nat):Option Bool:=
  ((AI5 fuel ([([1,0]:List Int),([0,1]:List Int)]:List LiA) 5).bind fun (Ab,Ac)=>((ANq fuel ([([1,0]:List Int),([0,1]:List Int)]:List LiA) 5 ([1,2]:List Int)).bind fun (Aa,Ad)=>((AG2 fuel ([([1,0,0]:List Int),([0,1,0]:List Int),([0,0,1]:List Int)]:List LiA) 3).bind fun (Ae,Af)=>(if Ac=0 then (if Ad=0 then (if Af=0 then ((AK6 fuel Ab ([([1,2]:List Int),([1,3]:List Int)]:List LiA)).bind fun Ag=>(if Ag=true then (if (Aa.length:Int)=2 then ((gI Aa 0).bind fun Ah=>(if Ah=11 then ((gI Aa 1).bind fun Ai=>(if Ai=2 then (some (decide (Ae=4))) else (some false))) else (some false))) else (some false)) else (some false))) else (some false)) else (some false)) else (some false)))))
theorem ALr {fuel:Nat} {h:ABh} {r:Bool} (HO:AT2 h) (hp:AEx fuel=some r):ACd Tryz.prog 10 #[] h (fun x h'=>Ext h h'/\x= .bool r):=by
 unfold AEx at hp;refine cwf (l:=[]) Tryz.func10 rfl rfl (ABj (ACu (ARe (κ:= .i64) [1,0] ABx AIl rfl rfl trivial tt2 rfl rfl rfl rfl fun b1 v2 h3 I4 E5 Bf Bg=>ARe (κ:= .i64) [0,1] ABx AIl rfl rfl trivial tt2 rfl rfl rfl rfl fun Bh Bi Dv Bj Bl Bm Bn=>?_)));have Ac:=((Kst.k0 h).no E5 (AHc Bf Bg) I4).no Bl (AHc Bm Bn) Bj;have Au:=(((Ac.a0).grab p1).grab p0);refine ATi (c:=(cI .i64)) (el:=2) [[b1],[Bh]] [v2,Bi] [([1,0]:List Int),([0,1]:List Int)] AB2 AMi rfl rfl trivial tt2 rfl rfl rfl rfl (ANp (Ac.o p1).isOne (ANp (Ac.o p0).isOne AXl)) ⟨(Ac.o p1),(Ac.o p0),trivial⟩ (by simpa using Au.ndT) fun Dw Dx Dy Bo Bp Bq=>ACu (Wk ?_);have Ao:=Au.lit Bp Bo (by simpa using Bq);obtain ⟨⟨Dz,Br⟩,Bt,Av⟩:=ABl hp;dsimp only at Av;refine AC4 rfl (AR2 (Ao.o2 p0).rd (HO.ext Ao.x) Bt) fun D0 D1 Bu Bv=>?_;obtain ⟨D2,D3,D4,D5,rfl,Bw,Bx⟩:=Bv;refine Wk (ADc rfl rfl (ADc rfl rfl (ACg (ACu (Wk (ARe (κ:= .i64) [1,2] ABx AIl rfl rfl trivial tt2 rfl rfl rfl rfl fun D6 D7 D8 By Bz B1 B2=>?_))))));have Ae:=(Ao.no2 Bu Bx Bw).no Bz (AHc B1 B2) By;obtain ⟨⟨B3,B4⟩,B5,Aw⟩:=ABl Av;dsimp only at Aw;refine AC4 rfl (AZj (Ae.o2 p2).rd (Ae.o p0).rd (HO.ext Ae.x) B5) fun D9 Ea B6 B7=>?_;obtain ⟨Eb,Ec,rfl,B8,B9⟩:=B7;refine Wk (ADc rfl rfl (ADc rfl rfl (ACg (ACu (ARe (κ:= .i64) [1,0,0] ABx AIl rfl rfl trivial tt2 rfl rfl rfl rfl fun Ca Cb Ed Cd Ce Cf Cg=>ARe (κ:= .i64) [0,1,0] ABx AIl rfl rfl trivial tt2 rfl rfl rfl rfl fun Ch Ci Ee Cj Ck Cm Cn=>ARe (κ:= .i64) [0,0,1] ABx AIl rfl rfl trivial tt2 rfl rfl rfl rfl fun Co Cp Ef Cq Cr Ct Cu=>?_)))));have Ab:=(((Ae.no B6 B9 B8).no Ce (AHc Cf Cg) Cd).no Ck (AHc Cm Cn) Cj).no Cr (AHc Ct Cu) Cq;have Ax:=((((Ab.a0).grab p2).grab p1).grab p0);refine ATi (c:=(cI .i64)) (el:=2) [[Ca],[Ch],[Co]] [Cb,Ci,Cp] [([1,0,0]:List Int),([0,1,0]:List Int),([0,0,1]:List Int)] AB2 AMi rfl rfl trivial tt2 rfl rfl rfl rfl (ANp (Ab.o p2).isOne (ANp (Ab.o p1).isOne (ANp (Ab.o p0).isOne AXl))) ⟨(Ab.o p2),(Ab.o p1),(Ab.o p0),trivial⟩ (by simpa using Ax.ndT) fun Eg Eh Ei Cv Cw Cx=>?_;have Ap:=Ax.lit Cw Cv (by simpa using Cx);obtain ⟨⟨Ej,Cy⟩,Cz,Aq⟩:=ABl Aw;dsimp only at Aq;refine AC4 rfl (APw (Ap.o2 p0).rd (HO.ext Ap.x) Cz) fun Ek El C0 C1=>?_;subst C1;refine Wk (ADc rfl rfl (ADc rfl rfl (ACg (ACu (Wk (ADt rfl rfl (Wk ?_)))))));have Af:=Ap.e C0;by_cases Ag:Br=0
 ·have Ay:=ifT Aq Ag;rw [decide_eq_true Ag];refine ACe 32 true (Wk (ACe 32 true (ADt rfl rfl (AB0 rfl (Wk ?_)))));by_cases Ah:B4=0
  ·have Az:=ifT Ay Ah;rw [decide_eq_true Ah];refine ACe 36 true (Wk (ACe 36 true (ADt rfl rfl (AB0 rfl (Wk ?_)))));by_cases Ai:Cy=0
   ·rw [decide_eq_true Ai];refine ACe 40 true (Wk (ACe 40 true (ARe (κ:= .i64) [1,2] ABx AIl rfl rfl trivial tt2 rfl rfl rfl rfl fun C2 C3 Em C4 C5 C6 C7=>ACe 40 true (ARe (κ:= .i64) [1,3] ABx AIl rfl rfl trivial tt2 rfl rfl rfl rfl fun C8 C9 En Da Db Dc Dd=>ACe 40 true ?_))));have Ad:=(Af.no C5 (AHc C6 C7) C4).no Db (AHc Dc Dd) Da;have A3:=(((Ad.a0).grab p1).grab p0);refine ATi (c:=(cI .i64)) (el:=2) [[C2],[C8]] [C3,C9] [([1,2]:List Int),([1,3]:List Int)] AB2 AMi rfl rfl trivial tt2 rfl rfl rfl rfl (ANp (Ad.o p1).isOne (ANp (Ad.o p0).isOne AXl)) ⟨(Ad.o p1),(Ad.o p0),trivial⟩ (by simpa using A3.ndT) fun Eo Ep Er De Df Dg=>ACe 40 true ?_;have Ar:=A3.lit Df De (by simpa using Dg);obtain ⟨Dh,Di,A4⟩:=ABl (ifT Az Ai);refine AC4 rfl (AQo (Ar.o2 p9).rd (Ar.o2 p0).rd Di) fun Es Et Dj Dk=>?_;subst Dk;refine AB0 rfl (Wk ?_);have Aa:=Ar.e Dj;cases A5:Dh
    ·refine AJ8 47 false (ABv rfl (Wk (AMx 52 false (ABv rfl (Wk (AMx 58 false (ABv rfl (Wk (AGs 64 false (ABv rfl (ABp (ABs ?_))))))))))));obtain rfl:=ABk (ALo A4 A5);exact ⟨_,ABu,Aa.x,rfl⟩
    ·refine ACe 47 true (Wk (ACe 47 true (AD1 ABx rfl (Aa.o p7).rd (ACe 47 true (ADt rfl rfl (AB0 rfl (Wk ?_)))))));have A6:=ifT A4 A5;by_cases Aj:(B3.length:Int)=2
     ·rw [decide_eq_true Aj];refine ACe 52 true (Wk (ACe 52 true ?_));obtain ⟨Dl,A7,A8⟩:=ABl (ifT A6 Aj);refine ASl ABx rfl (Aa.o p7) rfl A7 fun Eu Dn=>ACe 52 true ?_;obtain ⟨Ev,Do,Dp⟩:=(Aa.o p7).cells Dn A7;obtain rfl:=Do;refine AB4 ACr rfl (Dp 0 _ rfl) (ACe 52 true (ADt rfl rfl (AB0 rfl (Wk ?_))));by_cases Ak:Dl=11
      ·rw [decide_eq_true Ak];refine ACe 58 true (Wk (ACe 58 true ?_));obtain ⟨Dq,A9,Ba⟩:=ABl (ifT A8 Ak);refine ASl ABx rfl (Aa.o p7) rfl A9 fun Ew Dr=>ACe 58 true ?_;obtain ⟨Ey,Ds,Dt⟩:=(Aa.o p7).cells Dr A9;obtain rfl:=Ds;refine AB4 ACr rfl (Dt 0 _ rfl) (ACe 58 true (ADt rfl rfl (AB0 rfl (Wk ?_))));by_cases Am:Dq=2
       ·rw [decide_eq_true Am];refine ACe 64 true (Wk (ACe 64 true (ADt rfl rfl (AB0 rfl (ABp (ABs ?_))))));obtain rfl:=ABk (ifT Ba Am);exact ⟨_,ABu,Aa.x,rfl⟩
       ·rw [decide_eq_false Am];refine AGs 64 false (ABv rfl (ABp (ABs ?_)));obtain rfl:=ABk (ifF Ba Am);exact ⟨_,ABu,Aa.x,rfl⟩
      ·rw [decide_eq_false Ak];refine AMx 58 false (ABv rfl (Wk (AGs 64 false (ABv rfl (ABp (ABs ?_))))));obtain rfl:=ABk (ifF A8 Ak);exact ⟨_,ABu,Aa.x,rfl⟩
     ·rw [decide_eq_false Aj];refine AMx 52 false (ABv rfl (Wk (AMx 58 false (ABv rfl (Wk (AGs 64 false (ABv rfl (ABp (ABs ?_)))))))));obtain rfl:=ABk (ifF A6 Aj);exact ⟨_,ABu,Aa.x,rfl⟩
   ·rw [decide_eq_false Ai];refine AIx 40 false (ABv rfl (Wk (AJ8 47 false (ABv rfl (Wk (AMx 52 false (ABv rfl (Wk (AMx 58 false (ABv rfl (Wk (AGs 64 false (ABv rfl (ABp (ABs ?_)))))))))))))));obtain rfl:=ABk (ifF Az Ai);exact ⟨_,ABu,Af.x,rfl⟩
  ·rw [decide_eq_false Ah];refine AGs 36 false (ABv rfl (Wk (AIx 40 false (ABv rfl (Wk (AJ8 47 false (ABv rfl (Wk (AMx 52 false (ABv rfl (Wk (AMx 58 false (ABv rfl (Wk (AGs 64 false (ABv rfl (ABp (ABs ?_))))))))))))))))));obtain rfl:=ABk (ifF Ay Ah);exact ⟨_,ABu,Af.x,rfl⟩
 ·rw [decide_eq_false Ag];refine AGs 32 false (ABv rfl (Wk (AGs 36 false (ABv rfl (Wk (AIx 40 false (ABv rfl (Wk (AJ8 47 false (ABv rfl (Wk (AMx 52 false (ABv rfl (Wk (AMx 58 false (ABv rfl (Wk (AGs 64 false (ABv rfl (ABp (ABs ?_)))))))))))))))))))));obtain rfl:=ABk (ifF Aq Ag);exact ⟨_,ABu,Af.x,rfl⟩
def AJ4 (fuel:Nat) (a3:LiI) (a5 Aa Ab:Int):Option ((Int × Int) ⊕ ((Int))):=
  (if Ab < (a3.length:Int) then (if 0 < a5 then (if a5 < 100 then (some (Sum.inl ((w64 (Aa * a5)),(w64 (Ab + 1))))) else (some (Sum.inl (Aa,(w64 (Ab + 1)))))) else (some (Sum.inl (Aa,(w64 (Ab + 1)))))) else (some (Sum.inr<| Aa)))
def AHv (fuel:Nat) (a3:LiI) (a5:Int):Option Bool:=
  ((iter (fun s=>AJ4 fuel a3 a5 s.1 s.2) fuel (1,0)).bind (fun (Ac:Int)=>(some (decide (Ac < 20000)))))
theorem ARv {fuel:Nat} {h:ABh} {Ak:Value} {a3:LiI} {a5:Int} {r:Bool} (H2:AGe (cI .i64) h Ak a3) (hp:AHv fuel a3 a5=some r):ACd Tryz.prog 19 #[Ak,(.int .i64 a5)] h (fun x h'=>Ext h h'/\x= .bool r):=by
 unfold AHv at hp;refine cwf (l:=[_,_]) Tryz.func19 rfl rfl (ABj (ACu (ABp (ABm (ABj (Wk (ADn AB2 rfl H2 (Wk (ABo (ABq ?_))))))))));have K0:=Kst.k0 h;obtain ⟨Ap,Av,Aw⟩:=ABl hp;obtain ⟨Ax,Ay,Az⟩:=ACl Av;refine ACk 1048352 (fun x:(Int) × (Int)=>[(5,(.int .i64 x.1)),(8,(.int .i64 x.2))]) (fun k x h'=>iter Ax k (x.1,x.2)=some Ap/\Kst h h' (K0.L)) (by kernel_rfl) fuel ((1,0):(Int) × (Int)) ?_ ⟨rfl,rfl,trivial⟩ ?_
 ·exact ⟨Az,K0⟩
 rintro A4 ⟨Af,Ag⟩ A5 A6 ⟨A3,Ad⟩;obtain ⟨Ah,A7,rfl,Aa,Ab⟩:=AB7 A3;rw [Ay] at Aa;dsimp only at Aa;unfold AJ4 at Aa;refine ABj (AC1 rfl rfl (ABo (ABm (⟨_,rfl,fun Ai=>?_,fun Ai=>?_⟩))))
 ·refine ABr (q_t (ABm (ABq (ABj (Wk (AKm rfl rfl (Wk ?_)))))));have Aq:=AC7 Aa Ai;by_cases Ae:0 < a5
  ·have Ar:=ifT Aq Ae;rw [decide_eq_true Ae];refine ACe 12 true (Wk (ACe 12 true (AC1 rfl rfl (AB0 rfl (ABo (⟨_,rfl,fun Aj=>?_,fun Aj=>?_⟩))))))
   ·refine ABw (Wk (Wk (AMv rfl rfl (ACg (ACj (q_b (q_t (ABw (AC2 rfl rfl (Wk (ABo ?_)))))))))));obtain rfl:=ABk (AC7 Ar Aj);exact ⟨Ah,(((w64 (Af * a5)),(w64 (Ag + 1))):(Int) × (Int)),Nat.lt_succ_self _,⟨Ab,Ad⟩,rfl,rfl,trivial⟩
   ·refine ABr (q_b (q_t (ABw (AC2 rfl rfl (Wk (ABo ?_))))));obtain rfl:=ABk (AC8 Ar Aj);exact ⟨Ah,((Af,(w64 (Ag + 1))):(Int) × (Int)),Nat.lt_succ_self _,⟨Ab,Ad⟩,rfl,rfl,trivial⟩
  ·rw [decide_eq_false Ae];refine AGs 12 false (ABv rfl (ABo (AB9 rfl (ABr (q_b (q_t (ABw (AC2 rfl rfl (Wk (ABo ?_))))))))));obtain rfl:=ABk (ifF Aq Ae);exact ⟨Ah,((Af,(w64 (Ag + 1))):(Int) × (Int)),Nat.lt_succ_self _,⟨Ab,Ad⟩,rfl,rfl,trivial⟩
 ·obtain rfl:=ABk (AC8 Aa Ai);change _=Ap at Ab;subst Ab;refine ACc (ACa (ACa (ADm (q_t (ABj (Wk (AC1 rfl rfl (ABp (ABs ?_)))))))));obtain rfl:=ABk Aw;exact ⟨_,ABu,Ad.x,rfl⟩
end Go.Proofs.YtiegjkmfpcgjjaaGreatDoor
namespace Go.Proofs.YtiegjkmfpcgjjaaGreatDoor
open Go Go.QF
set_option maxRecDepth 100000
theorem Asw {fuel:Nat} {x p r:Int} (hp:2<=p/\p<=2147483647) (h:AJ9 p (x % p) r):AVd fuel [[x]] p=some ([[r]],0):=by
 have hs:AHy [[x]]=true:=decide_eq_true (by simp [AVo,Valid,ALy]);have hm:APg p=true:=decide_eq_true hp
 have hd:AZ5 [[x]] p=x % p:=by
   unfold AZ5
   rw [hs,hm]
   simp only [Bool.and_self,if_true]
   have:det [[x]].length (ent [[x]])=x:=by
     show det 1 (ent [[x]])=x
     simp [det,ent,psum,sg]
   rw [this]
 unfold AVd AZh Ahm;rw [hs,hm,hd,if_pos ⟨rfl,rfl,r,h⟩,if_pos rfl,if_pos rfl,if_pos ⟨r,h⟩,Ahw h]
 have:ALn [[x]].length (ent (ALk [[x]] p)) 0 0=1:=by
   show ALn 1 _ 0 0=1
   simp [ALn,AU4,det,psum,sg,ADe,dl]
 have h3:tab [[x]].length [[x]].length (fun i j=>ALn [[x]].length (ent (ALk [[x]] p)) i j * r % p)=[[r]]:=by
   show tab 1 1 (fun i j=>ALn 1 (ent (ALk [[x]] p)) i j * r % p)=[[r]]
   have h4:ALn 1 (ent (ALk [[x]] p)) 0 0 * r % p=r:=by
     rw [show ALn 1 (ent (ALk [[x]] p)) 0 0=1 from this,Int.one_mul]
     exact Int.emod_eq_of_lt h.1 h.2.1
   simp [tab,h4]
 rw [h3]
theorem Axh:Pr 3:=⟨by omega,fun d h1 h2=>by
  obtain rfl:d=2:=by omega
  decide⟩
theorem Axi:Pr 5:=⟨by omega,fun d h1 h2=>by
  rcases (by omega:d=2∨d=3∨d=4) with rfl | rfl | rfl <;> decide⟩
theorem Apo (lim:Bool):AR8 [[1,0],[0,1]] 5 lim=0:=by
 have hr:isRed [[1,0],[0,1]]=true:=by
   unfold isRed
   rw [<- AF7 (M:=[[1,0],[0,1]]) ⟨by decide,by decide,fun i j hi hj=>by
     have hi:i < 2:=hi
     have hj:j < 2:=hj
     rcases (by omega:i=0∨i=1) with rfl | rfl <;> rcases (by omega:j=0∨j=1) with rfl | rfl <;> decide⟩]
   decide +kernel
 have ho:AOn 5=true:=(AT9 ⟨by omega,by omega,Axi⟩).symm;unfold AR8;rw [if_pos hr,if_pos ⟨ho,by decide +kernel⟩,if_neg (fun h=>absurd h.2 (by decide))]
theorem Avp (lim:Bool):AR8 [[1,0,0],[0,1,0],[0,0,1]] 3 lim=0:=by
 have hr:isRed [[1,0,0],[0,1,0],[0,0,1]]=true:=by
   unfold isRed
   rw [<- AF7 (M:=[[1,0,0],[0,1,0],[0,0,1]]) ⟨by decide,by decide,fun i j hi hj=>by
     have hi:i < 3:=hi
     have hj:j < 3:=hj
     rcases (by omega:i=0∨i=1∨i=2) with rfl | rfl | rfl <;> rcases (by omega:j=0∨j=1∨j=2) with rfl | rfl | rfl <;> decide⟩]
   decide +kernel
 have ho:AOn 3=true:=(AT9 ⟨by omega,by omega,Axh⟩).symm;unfold AR8;rw [if_pos hr,if_pos ⟨ho,by decide +kernel⟩,if_neg (fun h=>absurd h.2 (by decide))]
theorem Apq {S E:Type} {body:S->Option (S ⊕ E)} {fuel:Nat} {s:S} {e:E} (h:body s=some (.inr e)):iter body (fuel + 1) s=some e:=by simp [iter,h]
theorem Axj:AI5 (AEo + 1) [[1,0],[0,1]] 5=some ([[1,2],[1,3]],0):=by
 have hf:2147483648 < AEo + 1:=Nat.lt_of_le_of_lt (by decide) (Nat.lt_succ_self AEo);unfold AI5;rw [AXm hf,Apo];simp only [Option.bind_some];rw [if_neg (by decide)];decide +kernel
theorem Axk:AG2 (AEo + 1) [[1,0,0],[0,1,0],[0,0,1]] 3=some (4,0):=by
 have hf:2147483648 < AEo + 1:=Nat.lt_of_le_of_lt (by decide) (Nat.lt_succ_self AEo);unfold AG2;rw [AXm hf,Avp];simp only [Option.bind_some];rw [if_neg (by decide)];decide +kernel
theorem Axl:ANq (AEo + 1) [[1,0],[0,1]] 5 [1,2]=some ([11,2],0):=by
 have hf:2147483648 < AEo + 1:=Nat.lt_of_le_of_lt (by decide) (Nat.lt_succ_self AEo);unfold ANq;have h1:AI9 (AEo + 1) [[1,0],[0,1]] 5 [1,2]=some true:=by decide +kernel
 have h2:AE7 (AEo + 1) [[1,0],[0,1]] (w64 (5 * 5))=some ([[1,0],[0,1]],0):=by decide +kernel
 have h3:AJq (AEo + 1) [1,2]=some [1,2]:=by decide +kernel
 rw [AZk hf,Apo];simp only [Option.bind_some];rw [if_neg (by decide),h1];simp only [Option.bind_some];rw [if_neg (by decide),h2];simp only [Option.bind_some];rw [h3];simp only [Option.bind_some]
 have hb:AMs (AEo + 1) 5 [1,2] [[1,0],[0,1]] 0 [1,2]=some (.inr [11,2]):=by
   unfold AMs
   have g1:gI [[1,0],[0,1]] (0:Int)=some ([1,0]:List Int):=rfl
   have g2:AI3 (AEo + 1) [1,0] [1,2] 5=some 1:=by decide +kernel
   have g3:AVd (AEo + 1) [[w64 (2 * 1)]] 5=some ([[3]],0):=Asw (by omega) ⟨by omega,by omega,by decide⟩
   rw [if_pos (by decide),g1]
   simp only [Option.bind_some]
   rw [g2]
   simp only [Option.bind_some]
   rw [if_neg (by decide),g3]
   simp only [Option.bind_some]
   decide +kernel
 rw [Apq hb];rfl
theorem Ac0:AEx (AEo + 1)=some true:=by
 unfold AEx;rw [Axj];simp only [Option.bind_some];rw [Axl];simp only [Option.bind_some];rw [Axk];simp only [Option.bind_some];decide +kernel
def nqI (n:Nat) (A:Nat->Nat->Int) (v:Nat->Int) (i:Nat):Int:=psum (fun j=>A i j * v j) n
def nq (n:Nat) (A:Nat->Nat->Int) (v:Nat->Int) (m:Int):Int:=psum (fun i=>nqI n A v i * v i) n % m
theorem AXn {g:Nat->Int} {B:Int}:∀ {n:Nat},(∀ i,i < n->0<=g i/\g i<=B)->0<=psum g n/\psum g n<=n * B:=by
 intro n
 induction n with
 | zero=>intro _;simp [psum]
 | succ n ih=>
   intro h
   have h1:=ih fun i hi=>h i (by omega)
   have h2:=h n (by omega)
   show 0<=psum g n + g n/\psum g n + g n<=((n + 1:Nat):Int) * B
   rw [Int.natCast_add,Int.add_mul]
   omega
theorem Asx {fuel n:Nat} {f v:Nat->Int} {m:Int} (hn:n<=8) (hm:2<=m) (Ac:m<=100000000) (hF:∀ i,i < n->0<=f i/\f i < 100000000) (hv:∀ i,i < n->0<=v i/\v i < 10000) (hf:100 < fuel):AI3 fuel (AD5 n f) (AD5 n v) m=some (psum (fun i=>f i * v i) n % m):=by
 have hb:∀ i,i < n->0<=f i * v i/\f i * v i<=1000000000000:=fun i hi=>⟨Int.mul_nonneg (hF i hi).1 (hv i hi).1,by
   have:=Int.mul_le_mul (show f i<=100000000 by have:=hF i hi;omega) (show v i<=10000 by have:=hv i hi;omega) (hv i hi).1 (by omega)
   omega⟩
 apply ok_eq;unfold AI3;refine ABn (Q:=fun e=>e=psum (fun i=>f i * v i) n) (ACz (fun i s=>s=(psum (fun i=>f i * v i) i,(i:Int))/\i<=n) n ⟨rfl,Nat.zero_le _⟩ (by omega) fun i s hi hI=>?_) fun e he=>?_
 ·obtain ⟨rfl,h1⟩:=hI;unfold AN4;rw [ADj];refine ACf (fun h=>?_) fun h=>ABi ?_
  ·have Aa:i < n:=by omega
   have h3:=hb i Aa;have h4:=AXn (n:=i) fun a ha=>hb a (by omega);refine AB5 (ACp Aa) rfl (AB5 (ACp Aa) rfl (ABi ⟨by omega,?_,by omega⟩));rw [AFa (x:=f i * v i) (by omega) (by omega),AFa (x:=psum (fun i=>f i * v i) i + f i * v i) (by omega) (by omega),AId (by omega)];rfl
  ·obtain rfl:i=n:=by omega
   rfl
 ·subst he;have h4:=AXn (n:=n) hb;exact AEk (by omega) (ABi (Int.tmod_eq_emod_of_nonneg h4.1))
theorem Ajp {fuel n:Nat} {A:Nat->Nat->Int} {v:Nat->Int} {m:Int} (hn:n<=8) (hm:2<=m) (Ad:m<=100000000) (hv:∀ i,i < n->0<=v i/\v i < 10000) (hf:100 < fuel):AI4 fuel (tab n n fun i j=>A i j % m) (AD5 n v) m=some (nq n A v m):=by
 have hin:∀ i,i < n->AI3 fuel (AD5 n fun j=>A i j % m) (AD5 n v) m=some (nqI n A v i % m):=fun i hi=>by
   rw [Asx hn hm Ad (fun j _=>⟨Int.emod_nonneg _ (by omega),by have:=Int.emod_lt_of_pos (A i j) (show 0 < m by omega);omega⟩) hv hf]
   exact congrArg some (Eqm.psum fun j _=>(Eqm.mod m (A i j)).mul (Eqm.refl m (v j)))
 have hb:∀ i,i < n->0<=nqI n A v i % m * v i/\nqI n A v i % m * v i<=1000000000000:=fun i hi=>by
   have h1:=Int.emod_nonneg (nqI n A v i) (show m≠0 by omega)
   have h2:=Int.emod_lt_of_pos (nqI n A v i) (show 0 < m by omega)
   refine ⟨Int.mul_nonneg h1 (hv i hi).1,?_⟩
   have:=Int.mul_le_mul (show nqI n A v i % m<=100000000 by omega) (show v i<=10000 by have:=hv i hi;omega) (hv i hi).1 (by omega)
   omega
 apply ok_eq;unfold AI4;refine ABn (Q:=fun e=>e=psum (fun i=>nqI n A v i % m * v i) n) (ACz (fun i s=>s=(psum (fun i=>nqI n A v i % m * v i) i,(i:Int))/\i<=n) n ⟨rfl,Nat.zero_le _⟩ (by omega) fun i s hi hI=>?_) fun e he=>?_
 ·obtain ⟨rfl,h1⟩:=hI;unfold APa;rw [ADj];refine ACf (fun h=>?_) fun h=>ABi ?_
  ·have Aa:i < n:=by omega
   have h3:=hb i Aa;have h4:=AXn (n:=i) fun a ha=>hb a (by omega);refine AB5 (ACp Aa) rfl (AB5 (ADg Aa) rfl ?_);rw [hin i Aa];simp only [Option.bind_some];refine ABi ⟨by omega,?_,by omega⟩;rw [AFa (x:=nqI n A v i % m * v i) (by omega) (by omega),AFa (x:=psum (fun i=>nqI n A v i % m * v i) i + nqI n A v i % m * v i) (by omega) (by omega),AId (by omega)];rfl
  ·obtain rfl:i=n:=by omega
   rfl
 ·subst he;have h4:=AXn (n:=n) hb;refine AEk (by omega) (ABi ?_);rw [Int.tmod_eq_emod_of_nonneg h4.1];exact Eqm.psum fun i _=>(Eqm.mod m _).mul (Eqm.refl m (v i))
def InR (p:Int) (V:List Int):Prop:= ∀ x∈V,0<=x/\x < p
def ALs:List Int->Int
  | []=>0
  | x :: L=>if x=0 then ALs L else x
theorem AWb (x:Int):∀ L:List Int,ALs (L ++ [x])=if ALs L=0 then x else ALs L
  | []=>by by_cases h:x=0 <;> simp [ALs,h]
  | y :: L=>by
    have ih:=AWb x L
    show (if y=0 then ALs (L ++ [x]) else y)=if (if y=0 then ALs L else y)=0 then x else (if y=0 then ALs L else y)
    by_cases h:y=0
    · simp only [if_pos h,ih]
    · simp only [if_neg h]
theorem Apr {body:Int × Int->Option ((Int × Int) ⊕ (Bool ⊕ Int))} {fuel:Nat} {V:List Int} {p:Int} (hl:V.length<=90) (hf:100 < fuel) (hb:∀ a b,body (a,b)=if b < (V.length:Int) then ((gI V b).bind fun x=>(((if x < 0 then some (.inl false) else (if p<=x then some (.inl false) else some (.inr ()))):Option (Bool ⊕ Unit)).bind fun ex=>match ex with | .inl e=>some (.inr (.inl e)) | .inr _=>(if a=0 then some (.inl (x,w64 (b + 1))) else some (.inl (a,w64 (b + 1)))))) else some (.inr (.inr a))):
    Ok (iter body fuel (0,0)) fun ex=>(ex= .inl false/\¬ InR p V)∨(ex= .inr (ALs V)/\InR p V):=by
 refine ACz (fun i s=>s=(ALs (V.take i),(i:Int))/\i<=V.length/\InR p (V.take i)) V.length ⟨rfl,Nat.zero_le _,fun x hx=>by simp at hx⟩ (by omega) fun i s hi hI=>?_;obtain ⟨rfl,h1,h2⟩:=hI;rw [hb];refine ACf (fun h=>?_) fun h=>ABi ?_
 ·have Ac:i < V.length:=by omega
  have hx:V[i]? =some V[i]:=List.getElem?_eq_getElem Ac;have ht:V.take (i + 1)=V.take i ++ [V[i]]:=(List.take_append_getElem Ac).symm;refine AB5 hx rfl ?_;generalize V[i]=x at hx ht;have hw:w64 ((i:Int) + 1)=((i + 1:Nat):Int):=AId (by omega);by_cases h3:0<=x/\x < p
  ·rw [if_neg (by omega),if_neg (by omega)];simp only [Option.bind_some]
   have hr:InR p (V.take (i + 1)):=fun y hy=>by
     rw [ht,List.mem_append,List.mem_singleton] at hy
     rcases hy with hy | rfl
     · exact h2 y hy
     · exact h3
   refine ACf (fun h4=>ABi ⟨by omega,?_,by omega,hr⟩) fun h4=>ABi ⟨by omega,?_,by omega,hr⟩
   ·rw [ht,AWb,if_pos h4,hw]
   ·rw [ht,AWb,if_neg h4,hw]
  ·have hno: ¬ InR p V:=fun hh=>h3 (hh x (List.mem_of_getElem? hx));by_cases h4:x < 0
   ·rw [if_pos h4];exact ABi (.inl ⟨rfl,hno⟩)
   ·rw [if_neg h4,if_pos (by omega)];exact ABi (.inl ⟨rfl,hno⟩)
 ·obtain rfl:i=V.length:=by omega
  rw [List.take_length] at h2 ⊢;exact .inr ⟨rfl,h2⟩
def vF (V:List Int) (i:Nat):Int:=V[i]?.getD 0
theorem Ajq (V:List Int):AD5 V.length (vF V)=V:=by
 refine List.ext_getElem (by rw [ADj]) fun i h1 h2=>?_;have:=ACp (f:=vF V) h2;rw [List.getElem?_eq_getElem h1] at this;injection this with this;rw [this];simp [vF,h2]
theorem Atv {p:Int} {V:List Int} (h:InR p V) {i:Nat} (hi:i < V.length):0<=vF V i/\vF V i < p:=h _ (by simp [vF,hi])
def Asy (M:List (List Int)) (p:Int) (V:List Int):Prop:=V.length=M.length/\InR p V/\ALs V=1/\nq M.length (ent M) (vF V) p=0
open Classical in
noncomputable def AVf (M:List (List Int)) (p:Int) (V:List Int):Bool:=decide (Asy M p V)
theorem Ac1 {M:List (List Int)} {p:Int} {V:List Int} (h:Asy M p V):true=AVf M p V:=by simp [AVf,h]
theorem AUe {M:List (List Int)} {p:Int} {V:List Int} (h: ¬ Asy M p V):false=AVf M p V:=by simp [AVf,h]
theorem Ajr {M:List (List Int)} {p:Int} {V:List Int} (h:AVf M p V=true):Asy M p V:=by simpa [AVf] using h
theorem Aps {fuel:Nat} {M:List (List Int)} {m:Int} (R:AWa M) (hm:2<=m) (Aa:m<=2147483647) (hf:100 < fuel):AE7 fuel M m=some (tab M.length M.length fun i j=>ent M i j % m,0):=by
 have hM:=AVb R;unfold AE7 AEl;have h1:AHj fuel M=some true:=by rw [hM];exact Afk R.1.1 R.1.2 hf
 have h2:AFs fuel M m=some (tab M.length M.length fun i j=>ent M i j % m):=by
   conv=>lhs;rw [hM]
   exact Apg R.1.2 hm Aa hf
 rw [h1];simp only [Option.bind_some];rw [if_neg (by decide),if_neg (by omega),if_neg (by omega)];simp only [Option.bind_some];rw [if_neg (by decide),h2];rfl
theorem Apt {fuel:Nat} {M:List (List Int)} {p:Int} {V:List Int} (R:AWa M) (hp:3<=p) (Ad:p<=9973) (hf:100 < fuel):AI9 fuel M p V=some (AVf M p V):=by
 apply ok_eq;unfold AI9;have h8:=R.1.2;refine ACf (fun h=>ABi (AUe fun hh=>h (by rw [hh.1]))) fun h=>?_;have hl:V.length=M.length:=by omega
 refine ABn (Apr (V:=V) (p:=p) (by omega) hf fun a b=>rfl) fun ex hex=>?_;rcases hex with ⟨rfl,hn⟩ | ⟨rfl,hr⟩
 ·exact ABi (AUe fun hh=>hn hh.2.1)
 ·dsimp only;rw [Aps R (by omega) (by omega) hf];simp only [Option.bind_some];refine ACf (fun h1=>?_) fun h1=>ABi (AUe fun hh=>h1 hh.2.2.1);have hV:V=AD5 M.length (vF V):=by rw [<- hl];exact (Ajq V).symm
  have hn:AI4 fuel (tab M.length M.length fun i j=>ent M i j % p) V p=some (nq M.length (ent M) (vF V) p):=by
    conv=>lhs;rw [hV]
    exact Ajp h8 (by omega) (by omega) (fun i hi=>by have:=Atv hr (i:=i) (by omega);omega) hf
  rw [hn];simp only [Option.bind_some];refine ABi ?_;by_cases h0:nq M.length (ent M) (vF V) p=0
  ·rw [decide_eq_true h0];exact Ac1 ⟨hl,hr,h1,h0⟩
  ·rw [decide_eq_false h0];exact AUe fun hh=>h0 hh.2.2.2
open Classical in
theorem Apu {fuel:Nat} {M:List (List Int)} {p:Int} (R:AWa M) (hf:100 < fuel):Ok (AG3 fuel M p) fun b=>b=true↔AOn p=true/\det M.length (ent M) % p≠0:=by
  unfold AG3 Acl;simp only [Option.bind_some];refine ACf (fun h=>?_) fun h=>ABi ⟨fun hh=>(by cases hh),fun hh=>absurd hh.1 h⟩;have hb:=AVe h;have hd:=AZf R;rw [Ali R hf];simp only [Option.bind_some];refine AEk (by omega) (ABi ?_);rw [decide_eq_true_iff,Int.tmod_eq_emod_of_nonneg (by omega)];exact ⟨fun hh=>⟨h,hh⟩,fun hh=>hh.2⟩
end Go.Proofs.YtiegjkmfpcgjjaaGreatDoor
namespace Go.Proofs.YtiegjkmfpcgjjaaGreatDoor
open Go Go.QF
def Qf (n:Nat) (A:Nat->Nat->Int) (v:Nat->Int):Int:=psum (fun i=>nqI n A v i * v i) n
def AR9 (v:Nat->Int) (i:Nat) (x:Int):Nat->Int:=fun j=>if j=i then v j + x else v j
theorem Ajs {n i a:Nat} {A:Nat->Nat->Int} {v:Nat->Int} {x:Int} (hi:i < n):nqI n A (AR9 v i x) a=nqI n A v a + A a i * x:=by
 unfold nqI;rw [ASr (f:=fun j=>A a j * v j) (a:=i) hi (fun j hj=>by simp only [AR9,if_neg hj])];simp only [AR9,if_true];rw [Int.mul_add];omega
theorem Avq {n i:Nat} {A:Nat->Nat->Int} {v:Nat->Int} {x:Int} (hA:∀ a b,a < n->b < n->A a b=A b a) (hi:i < n):Qf n A (AR9 v i x)=Qf n A v + 2 * x * nqI n A v i + x * x * A i i:=by
 unfold Qf
 have h1:psum (fun a=>nqI n A (AR9 v i x) a * AR9 v i x a) n=psum (fun a=>(nqI n A v a + A a i * x) * v a) n + ((nqI n A v i + A i i * x) * (v i + x) - (nqI n A v i + A i i * x) * v i):=by
   rw [ASr (f:=fun a=>(nqI n A v a + A a i * x) * v a) (a:=i) hi (fun a ha=>by simp only [Ajs hi,AR9,if_neg ha])]
   simp only [Ajs hi,AR9,if_true]
 have h2:psum (fun a=>(nqI n A v a + A a i * x) * v a) n=psum (fun a=>nqI n A v a * v a) n + x * nqI n A v i:=by
   rw [ABt (g:=fun a=>nqI n A v a * v a + x * (A i a * v a)) (fun a ha=>by rw [hA a i ha hi];grind),AGh,ADa]
   rfl
 rw [h1,h2];grind
theorem AJ5 (f:Nat->Int):∀ n,psum f (n + 1)=f 0 + psum (fun i=>f (i + 1)) n
  | 0=>by simp [psum]
  | n + 1=>by
    have ih:=AJ5 f n
    show psum f (n + 1) + f (n + 1)=f 0 + (psum (fun i=>f (i + 1)) n + f (n + 1))
    omega
def AD0 (x:Int) (v:Nat->Int):Nat->Int
  | 0=>x
  | j + 1=>v j
def SS (P:Nat):Nat->((Nat->Int)->Int)->Int
  | 0,f=>f fun _=>0
  | n + 1,f=>psum (fun x=>SS P n fun v=>f (AD0 (x:Int) v)) P
theorem AMt {P:Nat}:∀ {n:Nat} {f g:(Nat->Int)->Int},(∀ v,f v=g v)->SS P n f=SS P n g:=fun h=>by rw [funext h]
theorem Ajt (P:Nat):∀ n,SS P n (fun _=>0)=0
  | 0=>rfl
  | n + 1=>by show psum (fun x=>SS P n fun _=>0) P=0;rw [Ajt P n,AJo]
theorem Apv (P:Nat):∀ (n:Nat) (f g:(Nat->Int)->Int),SS P n (fun v=>f v + g v)=SS P n f + SS P n g
  | 0,_,_=>rfl
  | n + 1,f,g=>by
    show psum (fun x=>SS P n fun v=>f (AD0 (x:Int) v) + g (AD0 (x:Int) v)) P=_
    rw [ABt (g:=fun x:Nat=>SS P n (fun v=>f (AD0 (x:Int) v)) + SS P n (fun v=>g (AD0 (x:Int) v))) (fun x _=>Apv P n _ _),AGh]
    rfl
theorem Ac2 (P n:Nat) (f:Nat->(Nat->Int)->Int):∀ m,SS P n (fun v=>psum (fun x=>f x v) m)=psum (fun x=>SS P n (f x)) m
  | 0=>Ajt P n
  | m + 1=>by
    show SS P n (fun v=>psum (fun x=>f x v) m + f m v)=_
    rw [Apv,Ac2 P n f m];rfl
def Ahn (P:Nat) (f:(Nat->Int)->Int):Prop:= ∀ v w,(∀ j,v j % (P:Int)=w j % (P:Int))->f v=f w
theorem Afm {P:Nat} (hP:0 < P) {g:Int->Int} (hg:∀ y z,y % (P:Int)=z % (P:Int)->g y=g z) (s:Int):psum (fun x=>g ((x:Nat) + s)) P=psum (fun x=>g (x:Nat)) P:=by
 have one:∀ h:Int->Int,(∀ y z,y % (P:Int)=z % (P:Int)->h y=h z)->psum (fun x=>h ((x:Nat) + 1)) P=psum (fun x=>h (x:Nat)) P:=fun h hh=>by
   have h1:=AJ5 (fun x=>h ((x:Nat):Int)) P
   have h2:psum (fun x=>h ((x:Nat):Int)) (P + 1)=psum (fun x=>h ((x:Nat):Int)) P + h (P:Int):=rfl
   have h3:h (P:Int)=h ((0:Nat):Int):=hh _ _ (by simp)
   have h4:psum (fun i=>h (((i + 1:Nat)):Int)) P=psum (fun x=>h ((x:Nat) + 1)) P:=rfl
   rw [h4] at h1
   omega
 have nat:∀ k:Nat,psum (fun x=>g ((x:Nat) + (k:Int))) P=psum (fun x=>g (x:Nat)) P:=by
   intro k
   induction k with
   | zero=>exact ABt fun x _=>by simp
   | succ k ih=>
     rw [<- ih,<- one (fun y=>g (y + k)) (fun y z h=>hg _ _ (by rw [Int.add_emod,h,<- Int.add_emod]))]
     exact ABt fun x _=>by congr 1;simp;omega
 have h0:0<=s % (P:Int):=Int.emod_nonneg _ (by omega);rw [<- nat (s % (P:Int)).toNat];refine ABt fun x _=>hg _ _ ?_;rw [Int.toNat_of_nonneg h0,Int.add_emod,Int.add_emod (x:Int) (s % (P:Int)),Int.emod_emod]
theorem Aho (x s:Int) (v:Nat->Int):AR9 (AD0 x v) 0 s=AD0 (x + s) v:=by
 funext j;cases j <;> simp [AR9,AD0]
theorem AZl (x s:Int) (v:Nat->Int) (j:Nat):AR9 (AD0 x v) (j + 1) s=AD0 x (AR9 v j s):=by
 funext i;cases i <;> simp [AR9,AD0]
theorem AQx {P:Nat} {f:(Nat->Int)->Int} (h:Ahn P f) (x:Int):Ahn P fun v=>f (AD0 x v):=fun v w hvw=>h _ _ fun j=>by cases j with | zero=>rfl | succ j=>exact hvw j
theorem Aju {P:Nat} (hP:0 < P):∀ {n j:Nat} {f:(Nat->Int)->Int} (s:Int),Ahn P f->j < n->SS P n (fun v=>f (AR9 v j s))=SS P n f
  | 0,_,_,_,_,h=>absurd h (Nat.not_lt_zero _)
  | n + 1,0,f,s,hf,_=>by
    show psum (fun x=>SS P n fun v=>f (AR9 (AD0 (x:Int) v) 0 s)) P=psum (fun x=>SS P n fun v=>f (AD0 (x:Int) v)) P
    rw [ABt (g:=fun x:Nat=>SS P n fun v=>f (AD0 ((x:Int) + s) v)) (fun x _=>AMt fun v=>by rw [Aho])]
    exact Afm hP (g:=fun y=>SS P n fun v=>f (AD0 y v)) (fun y z h=>AMt fun v=>hf _ _ fun j=>by cases j with | zero=>exact h | succ j=>rfl) s
  | n + 1,j + 1,f,s,hf,hj=>by
    show psum (fun x=>SS P n fun v=>f (AR9 (AD0 (x:Int) v) (j + 1) s)) P=psum (fun x=>SS P n fun v=>f (AD0 (x:Int) v)) P
    refine ABt fun x _=>?_
    rw [AMt (g:=fun v=>f (AD0 (x:Int) (AR9 v j s))) (fun v=>by rw [AZl])]
    exact Aju hP s (AQx hf _) (by omega)
def tlM (A:Nat->Nat->Int):Nat->Nat->Int:=fun i j=>A (i + 1) (j + 1)
def AQc (n:Nat) (A:Nat->Nat->Int) (v:Nat->Int):Int:=psum (fun j=>A 0 (j + 1) * v j) n
theorem Ac3 {n:Nat} {A:Nat->Nat->Int} {x:Int} {v:Nat->Int} (hA:∀ a b,a < n + 1->b < n + 1->A a b=A b a):Qf (n + 1) A (AD0 x v)=A 0 0 * x * x + 2 * x * AQc n A v + Qf n (tlM A) v:=by
 unfold Qf;rw [AJ5];have h0:nqI (n + 1) A (AD0 x v) 0=A 0 0 * x + AQc n A v:=by unfold nqI AQc;rw [AJ5];rfl
 have h1:∀ i,i < n->nqI (n + 1) A (AD0 x v) (i + 1) * AD0 x v (i + 1)=nqI n (tlM A) v i * v i + x * (A 0 (i + 1) * v i):=fun i hi=>by
   have:nqI (n + 1) A (AD0 x v) (i + 1)=A (i + 1) 0 * x + nqI n (tlM A) v i:=by unfold nqI;rw [AJ5];rfl
   rw [this,hA (i + 1) 0 (by omega) (by omega)]
   show (_ + _) * v i=_
   grind
 rw [h0,ABt (fun i hi=>h1 i hi),AGh,ADa];show (A 0 0 * x + AQc n A v) * x + (psum (fun i=>nqI n (tlM A) v i * v i) n + x * AQc n A v)=_;grind
theorem Apw {n:Nat} {p:Int} {A B:Nat->Nat->Int} {v w:Nat->Int} (hA:∀ i j,i < n->j < n->Eqm p (A i j) (B i j)) (hv:∀ j,Eqm p (v j) (w j)):Eqm p (Qf n A v) (Qf n B w):=by
 unfold Qf nqI;exact Eqm.psum fun i hi=>(Eqm.psum fun j hj=>(hA i j hi hj).mul (hv j)).mul (hv i)
def Zc' (P n:Nat) (A:Nat->Nat->Int) (c:Int):Int:=SS P n fun v=>if (Qf n A v - c) % (P:Int)=0 then 1 else 0
theorem Avr (P n:Nat) (A:Nat->Nat->Int) (c:Int):Ahn P fun v=>if (Qf n A v - c) % (P:Int)=0 then 1 else 0:=fun v w h=>by
  have:Eqm (P:Int) (Qf n A v - c) (Qf n A w - c):=(Apw (fun _ _ _ _=>Eqm.refl _ _) h).sub (Eqm.refl _ c)
  have this:(Qf n A v - c) % (P:Int)=(Qf n A w - c) % (P:Int):=this
  simp only [this]
def AKx (A:Nat->Nat->Int) (u:Int):Nat->Nat->Int:=fun i j=>A (i + 1) (j + 1) - u * (A 0 (i + 1) * A 0 (j + 1))
theorem Apx (n:Nat) (A:Nat->Nat->Int) (u:Int) (v:Nat->Int):Qf n (AKx A u) v=Qf n (tlM A) v - u * (AQc n A v * AQc n A v):=by
 unfold Qf
 have h1:∀ i,nqI n (AKx A u) v i=nqI n (tlM A) v i + (-u * A 0 (i + 1)) * AQc n A v:=fun i=>by
   unfold nqI AQc
   rw [<- ADa,<- AGh]
   exact ABt fun j _=>by unfold AKx tlM;grind
 rw [ABt (g:=fun i=>nqI n (tlM A) v i * v i + (-u * AQc n A v) * (A 0 (i + 1) * v i)) (fun i _=>by rw [h1];grind),AGh,ADa];show _ + -u * AQc n A v * AQc n A v=_;grind
theorem Apy {P n:Nat} {A:Nat->Nat->Int} {u c:Int} (hP:0 < P) (hA:∀ a b,a < n + 1->b < n + 1->A a b=A b a) (hu:Eqm (P:Int) (A 0 0 * u) 1):Zc' P (n + 1) A c=psum (fun x=>Zc' P n (AKx A u) (c - A 0 0 * (x:Nat) * (x:Nat))) P:=by
 have key:∀ v:Nat->Int,psum (fun x=>if (Qf (n + 1) A (AD0 ((x:Nat):Int) v) - c) % (P:Int)=0 then (1:Int) else 0) P=psum (fun x=>if (Qf n (AKx A u) v - (c - A 0 0 * (x:Nat) * (x:Nat))) % (P:Int)=0 then (1:Int) else 0) P:=fun v=>by
   rw [<- Afm hP (g:=fun y=>if (Qf n (AKx A u) v - (c - A 0 0 * y * y)) % (P:Int)=0 then (1:Int) else 0) (fun y z h=>by
     have h:Eqm (P:Int) y z:=h
     have this:(Qf n (AKx A u) v - (c - A 0 0 * y * y)) % (P:Int)=(Qf n (AKx A u) v - (c - A 0 0 * z * z)) % (P:Int):=(Eqm.refl (P:Int) (Qf n (AKx A u) v)).sub ((Eqm.refl _ c).sub (((Eqm.refl _ (A 0 0)).mul h).mul h))
     simp only [this]) (u * AQc n A v)]
   refine ABt fun x _=>?_
   have e1:Eqm (P:Int) (Qf (n + 1) A (AD0 ((x:Nat):Int) v) - c) (Qf n (AKx A u) v - (c - A 0 0 * (((x:Nat):Int) + u * AQc n A v) * (((x:Nat):Int) + u * AQc n A v))):=by
     rw [Ac3 hA,Apx]
     generalize AQc n A v=L
     generalize Qf n (tlM A) v=T
     have a1:T - u * (L * L) - (c - A 0 0 * ((x:Int) + u * L) * ((x:Int) + u * L))=A 0 0 * x * x + (A 0 0 * u) * (2 * x * L) + (A 0 0 * u) * (u * (L * L)) - u * (L * L) + T - c:=by grind
     rw [a1]
     have a2:Eqm (P:Int) (A 0 0 * x * x + (A 0 0 * u) * (2 * x * L) + (A 0 0 * u) * (u * (L * L)) - u * (L * L) + T - c) (A 0 0 * x * x + 1 * (2 * x * L) + 1 * (u * (L * L)) - u * (L * L) + T - c):=
       (((((Eqm.refl _ _).add (hu.mul (Eqm.refl _ _))).add (hu.mul (Eqm.refl _ _))).sub (Eqm.refl _ _)).add (Eqm.refl _ _)).sub (Eqm.refl _ _)
     refine (Eqm.of_eq ?_).trans a2.symm
     grind
   have e1:(Qf (n + 1) A (AD0 ((x:Nat):Int) v) - c) % (P:Int)=(Qf n (AKx A u) v - (c - A 0 0 * (((x:Nat):Int) + u * AQc n A v) * (((x:Nat):Int) + u * AQc n A v))) % (P:Int):=e1
   simp only [e1]
 show psum (fun x=>SS P n fun v=>if (Qf (n + 1) A (AD0 ((x:Nat):Int) v) - c) % (P:Int)=0 then (1:Int) else 0) P=_;rw [<- Ac2 P n (fun x v=>if (Qf (n + 1) A (AD0 ((x:Nat):Int) v) - c) % (P:Int)=0 then (1:Int) else 0),AMt key,Ac2 P n (fun x v=>if (Qf n (AKx A u) v - (c - A 0 0 * (x:Nat) * (x:Nat))) % (P:Int)=0 then (1:Int) else 0)];rfl
def AUf (A:Nat->Nat->Int) (u:Int) (k:Nat):Nat->Nat->Int:=fun i j=>if 1<=i/\i<=k then A i j + -(u * A 0 i) * A 0 j else A i j
theorem AZm {n:Nat} (A:Nat->Nat->Int) (u:Int):∀ k,k<=n->det (n + 1) (AUf A u k)=det (n + 1) A
  | 0,_=>AC6 fun i j _ _=>by unfold AUf;rw [if_neg (by omega)]
  | k + 1,hk=>by
    have ih:=AZm (n:=n) A u k (by omega)
    rw [<- ih,<- AH8 (F:=AUf A u k) (a:=k + 1) (b:=0) (by omega) (by omega) (by omega) (-(u * A 0 (k + 1)))]
    refine AC6 fun i j _ _=>?_
    rw [ACq]
    unfold AUf
    by_cases h:i=k + 1
    · subst h
      rw [if_pos (by omega),if_pos rfl,if_neg (by omega),if_neg (by omega)]
    · rw [if_neg h]
      by_cases h2:1<=i/\i<=k
      · rw [if_pos (by omega),if_pos h2]
      · rw [if_neg (by omega),if_neg h2]
theorem Alk {n:Nat} {p:Int} {A:Nat->Nat->Int} {u:Int} (hA:∀ a b,a < n + 1->b < n + 1->A a b=A b a) (hu:Eqm p (A 0 0 * u) 1):Eqm p (det (n + 1) A) (A 0 0 * det n (AKx A u)):=by
 rw [<- AZm (n:=n) A u n (Nat.le_refl _)];let C:Nat->Nat->Int:=fun i j=>if i=0 then A 0 j else match j with | 0=>0 | j + 1=>A i (j + 1) - u * (A 0 i * A 0 (j + 1))
 have h1:Eqm p (det (n + 1) (AUf A u n)) (det (n + 1) C):=ATd fun i j hi hj=>by
   show Eqm p (AUf A u n i j) (if i=0 then A 0 j else _)
   unfold AUf
   by_cases h0:i=0
   · subst h0;rw [if_neg (by omega),if_pos rfl];exact Eqm.refl _ _
   · rw [if_pos (by omega),if_neg h0]
     cases j with
     | zero=>
       have e:A i 0 + -(u * A 0 i) * A 0 0=A 0 i - A 0 i * (A 0 0 * u):=by rw [hA i 0 hi (by omega)];grind
       rw [e]
       have:=(Eqm.refl p (A 0 i)).sub ((Eqm.refl p (A 0 i)).mul hu)
       refine this.trans (Eqm.of_eq ?_)
       show A 0 i - A 0 i * 1=0
       omega
     | succ j=>exact Eqm.of_eq (by show _=A i (j + 1) - u * (A 0 i * A 0 (j + 1));grind)
 refine h1.trans (Eqm.of_eq ?_);show psum (fun i=>sg i * C i 0 * det n (AEp i C)) (n + 1)=_;rw [AFo (a:=0) (by omega) (fun i hi=>by show sg i * (if i=0 then A 0 0 else 0) * _=0;rw [if_neg hi];simp)]
 have e2:det n (AEp 0 C)=det n (AKx A u):=AC6 fun i j _ _=>by
   show C (skp 0 i) (j + 1)=_
   have e3:skp 0 i=i + 1:=by unfold skp;rw [if_neg (by omega)]
   rw [e3]
   show (if i + 1=0 then _ else _)=_
   rw [if_neg (by omega)]
   rfl
 rw [e2];show 1 * (if (0:Nat)=0 then A 0 0 else _) * _=_;rw [if_pos rfl,Int.one_mul]
theorem APc (k:Int):∀ n:Nat,psum (fun _=>k) n=n * k
  | 0=>by simp [psum]
  | n + 1=>by
    have ih:=APc k n
    show psum (fun _=>k) n + k=((n + 1:Nat):Int) * k
    rw [ih,Int.natCast_add,Int.add_mul];simp
def piv (A:Nat->Nat->Int) (j:Nat) (t:Int):Nat->Nat->Int:=fun a b=>A a b + (if a=0 then t * A j b else 0) + (if b=0 then t * (A a j + (if a=0 then t * A j j else 0)) else 0)
theorem Ajw {n j:Nat} {A:Nat->Nat->Int} {t:Int} (hj:j < n) (hA:∀ a b,a < n->b < n->A a b=A b a):∀ a b,a < n->b < n->piv A j t a b=piv A j t b a:=fun a b ha hb=>by
  unfold piv
  rw [hA a b ha hb,hA a j ha hj,hA b j hb hj]
  by_cases h1:a=0 <;> by_cases h2:b=0
  · subst h1;subst h2;rfl
  · simp [h1,h2]
  · simp [h1,h2]
  · simp [h1,h2]
theorem Asz {n j:Nat} {A:Nat->Nat->Int} {t:Int} (hj:j < n) (Aa:j≠0):det n (piv A j t)=det n A:=by
 let B:Nat->Nat->Int:=ADe A 0 fun x=>A 0 x + t * A j x
 have h1:det n B=det n A:=AH8 (by omega) hj (Ne.symm Aa) t;have h2:det n (ADe (trF B) 0 fun x=>trF B 0 x + t * trF B j x)=det n (trF B):=AH8 (by omega) hj (Ne.symm Aa) t;rw [AL1,h1] at h2;rw [<- h2,<- AL1 (piv A j t)];refine AC6 fun i k _ _=>?_;show piv A j t k i=ADe (trF B) 0 _ i k;rw [ACq]
 have hB:∀ x y,B x y=A x y + (if x=0 then t * A j y else 0):=fun x y=>by
   show ADe A 0 _ x y=_
   rw [ACq]
   by_cases h:x=0
   · subst h;simp
   · simp [h]
 unfold piv;by_cases h:i=0
 ·subst h;rw [if_pos rfl,if_pos rfl];show _=B k 0 + t * B k j;rw [hB,hB]
 ·rw [if_neg h,if_neg h];show _=B k i;rw [hB];omega
theorem Awz {P n k:Nat} {A:Nat->Nat->Int} {t c:Int} (hP:0 < P) (hk:k < n) (ht:t * t=1) (hA:∀ a b,a < n + 1->b < n + 1->A a b=A b a):Zc' P (n + 1) (piv A (k + 1) t) c=Zc' P (n + 1) A c:=by
 show psum (fun x=>SS P n fun v=>if (Qf (n + 1) (piv A (k + 1) t) (AD0 ((x:Nat):Int) v) - c) % (P:Int)=0 then (1:Int) else 0) P=psum (fun x=>SS P n fun v=>if (Qf (n + 1) A (AD0 ((x:Nat):Int) v) - c) % (P:Int)=0 then (1:Int) else 0) P;refine ABt fun x _=>?_;rw [<- Aju hP (j:=k) (f:=fun v=>if (Qf (n + 1) A (AD0 ((x:Nat):Int) v) - c) % (P:Int)=0 then (1:Int) else 0) (t * x) (AQx (Avr P (n + 1) A c) _) hk];refine AMt fun v=>?_
 have e:Qf (n + 1) (piv A (k + 1) t) (AD0 ((x:Nat):Int) v)=Qf (n + 1) A (AD0 ((x:Nat):Int) (AR9 v k (t * x))):=by
   rw [<- AZl,Avq hA (by omega),Ac3 hA,Ac3 (Ajw (by omega) hA)]
   have h1:nqI (n + 1) A (AD0 ((x:Nat):Int) v) (k + 1)=A (k + 1) 0 * x + psum (fun i=>A (k + 1) (i + 1) * v i) n:=by unfold nqI;rw [AJ5];rfl
   have h2:AQc n (piv A (k + 1) t) v=AQc n A v + t * psum (fun i=>A (k + 1) (i + 1) * v i) n:=by
     unfold AQc
     rw [<- ADa,<- AGh]
     exact ABt fun i _=>by unfold piv;simp;grind
   have h3:Qf n (tlM (piv A (k + 1) t)) v=Qf n (tlM A) v:=by
     congr 1
     funext a b
     unfold tlM piv;simp
   have h4:piv A (k + 1) t 0 0=A 0 0 + 2 * (t * A (k + 1) 0) + A (k + 1) (k + 1):=by
     unfold piv
     rw [hA 0 (k + 1) (by omega) (by omega)]
     simp only [if_true]
     have:t * (t * A (k + 1) (k + 1))=A (k + 1) (k + 1):=by rw [<- Int.mul_assoc,ht,Int.one_mul]
     rw [Int.mul_add,this];omega
   rw [h1,h2,h3,h4]
   have h5:t * (x:Int) * (t * x) * A (k + 1) (k + 1)=x * x * A (k + 1) (k + 1):=by
     have:t * (x:Int) * (t * x)=(t * t) * (x * x):=by grind
     rw [this,ht];grind
   rw [h5]
   grind
 simp only [e]
theorem Ahp {P n:Nat} {A:Nat->Nat->Int} (hp:OPr (P:Int)) (hA:∀ a b,a < n + 1->b < n + 1->A a b=A b a) (hd:det (n + 1) A % (P:Int)≠0):∃ B:Nat->Nat->Int,(∀ a b,a < n + 1->b < n + 1->B a b=B b a)/\det (n + 1) B=det (n + 1) A/\B 0 0 % (P:Int)≠0/\ ∀ c,Zc' P (n + 1) B c=Zc' P (n + 1) A c:=by
  have hP2:=hp.three
  by_cases h0:A 0 0 % (P:Int)≠0
  · exact ⟨A,hA,rfl,h0,fun c=>rfl⟩
  have h0:A 0 0 % (P:Int)=0:=by omega
  have ⟨k,hk,hne⟩:∃ k,k < n/\A 0 (k + 1) % (P:Int)≠0:=by
    refine Classical.byContradiction fun hno=>hd ?_
    have hz:∀ j,j < n + 1->Eqm (P:Int) (A 0 j) 0:=fun j hj=>by
      show _ % _=0 % _;rw [Int.zero_emod];cases j with
      | zero=>exact h0
      | succ j=>exact Classical.byContradiction fun hh=>hno ⟨j,by omega,hh⟩
    have h1:Eqm (P:Int) (det (n + 1) A) (det (n + 1) (ADe A 0 fun _=>0)):=ATd fun i j hi hj=>by
      rw [ACq]
      by_cases h:i=0
      · subst h;rw [if_pos rfl];exact hz j hj
      · rw [if_neg h];exact Eqm.refl _ _
    rw [AOl (F:=ADe A 0 fun _=>0) (r:=0) (by omega) (fun q _=>by rw [ACq,if_pos rfl])] at h1;exact Eqm.zero h1
  have key:∀ t:Int,t * t=1->(2 * (t * A (k + 1) 0) + A (k + 1) (k + 1)) % (P:Int)≠0-> ∃ B:Nat->Nat->Int,(∀ a b,a < n + 1->b < n + 1->B a b=B b a)/\det (n + 1) B=det (n + 1) A/\B 0 0 % (P:Int)≠0/\ ∀ c,Zc' P (n + 1) B c=Zc' P (n + 1) A c:=fun t ht h=>by
    refine ⟨piv A (k + 1) t,Ajw (by omega) hA,Asz (by omega) (by omega),?_,fun c=>Awz (by omega) hk ht hA⟩
    have h4:piv A (k + 1) t 0 0=A 0 0 + (2 * (t * A (k + 1) 0) + A (k + 1) (k + 1)):=by
      unfold piv;rw [hA 0 (k + 1) (by omega) (by omega)];simp only [if_true];have:t * (t * A (k + 1) (k + 1))=A (k + 1) (k + 1):=by rw [<- Int.mul_assoc,ht,Int.one_mul]
      rw [Int.mul_add,this];omega
    rw [h4,Int.add_emod,h0,Int.zero_add,Int.emod_emod];exact h
  rw [hA 0 (k + 1) (by omega) (by omega)] at hne
  by_cases h1:(2 * (1 * A (k + 1) 0) + A (k + 1) (k + 1)) % (P:Int)=0
  · refine key (-1) (by decide) fun h2=>?_
    have h3:(4 * A (k + 1) 0) % (P:Int)=0:=by
      have:=(show Eqm (P:Int) _ 0 from h1.trans (Int.zero_emod _).symm).sub (show Eqm (P:Int) _ 0 from h2.trans (Int.zero_emod _).symm);have e:2 * (1 * A (k + 1) 0) + A (k + 1) (k + 1) - (2 * (-1 * A (k + 1) 0) + A (k + 1) (k + 1))=4 * A (k + 1) 0:=by grind
      rw [e] at this;exact Eqm.zero this
    have h4:(4:Int) % (P:Int)≠0:=fun hh=>by
      rcases Int.lt_or_le 4 (P:Int) with h5 | h5
      · rw [Int.emod_eq_of_lt (by omega) h5] at hh;omega
      · have h6:=hp.2;have:(P:Int)=3:=by omega
        rw [this] at hh;simp at hh
    exact AWs hp h4 hne h3
  · exact key 1 (by decide) h1
def Ind (P:Nat) (c:Int):Int:=if c % (P:Int)=0 then 1 else 0
def E1 (P:Nat):Prop:= ∀ a c:Int,a % (P:Int)≠0->psum (fun x=>Ind P (c - a * (x:Nat) * (x:Nat))) P=1 + lg P (a * c)
def E2 (P:Nat):Prop:= ∀ a c:Int,a % (P:Int)≠0->psum (fun x=>lg P (c - a * (x:Nat) * (x:Nat))) P=lg P (-a) * (P * Ind P c - 1)
theorem AZn {P:Nat} (hp:OPr (P:Int)) (h1:E1 P) (h2:E2 P):∀ (n:Nat) (A:Nat->Nat->Int),(∀ a b,a < n->b < n->A a b=A b a)->det n A % (P:Int)≠0->
    (∀ m,n=2 * m-> ∀ c,(P:Int) * Zc' P n A c=(P:Int) ^ (2 * m) + lg P ((-1) ^ m * det n A) * (P:Int) ^ m * (P * Ind P c - 1))/\(∀ m,n=2 * m + 1-> ∀ c,Zc' P n A c=(P:Int) ^ (2 * m) + (P:Int) ^ m * lg P ((-1) ^ m * det n A * c)):=by
 have Ai:=hp.three;intro n
 induction n with
 | zero=>
   intro A _ _
   refine ⟨fun m hm c=>?_,fun m hm=>by omega⟩
   obtain rfl:m=0:=by omega
   have hl:lg P (1:Int)=1:=by
     unfold lg
     rw [Int.one_pow,Int.emod_eq_of_lt (by omega) (by omega)];simp
   have hz:Zc' P 0 A c=Ind P c:=by
     show (if (Qf 0 A _ - c) % (P:Int)=0 then (1:Int) else 0)=_
     unfold Ind
     have e:Qf 0 A (fun _=>0) - c= -c:=by simp [Qf,psum]
     rw [e]
     have e2:((-c) % (P:Int)=0)↔(c % (P:Int)=0):=⟨fun h=>Int.emod_eq_zero_of_dvd (Int.dvd_neg.1 (Int.dvd_of_emod_eq_zero h)),fun h=>Int.emod_eq_zero_of_dvd (Int.dvd_neg.2 (Int.dvd_of_emod_eq_zero h))⟩
     by_cases h:c % (P:Int)=0
     · rw [if_pos (e2.2 h),if_pos h]
     · rw [if_neg (fun hh=>h (e2.1 hh)),if_neg h]
   show (P:Int) * Zc' P 0 A c=(P:Int) ^ 0 + lg P ((-1) ^ 0 * 1) * (P:Int) ^ 0 * (P * Ind P c - 1)
   rw [hz]
   simp only [Int.pow_zero,Int.mul_one,hl]
   omega
 | succ n ih=>
   intro A0 Ag Ab
   obtain ⟨A,hA,hdA,ha,hZ⟩:=Ahp hp Ag Ab
   rw [<- hdA] at Ab ⊢
   simp only [<- hZ]
   have hr:=Int.emod_nonneg (A 0 0) (show (P:Int)≠0 by omega)
   have Ah:=Int.emod_lt_of_pos (A 0 0) (show (0:Int) < P by omega)
   obtain ⟨u,hu⟩:=AUn hp.1 (x:=A 0 0 % (P:Int)) (by omega) Ah
   have Ac:Eqm (P:Int) (A 0 0 * u) 1:=by
     have:=((Eqm.refl (P:Int) u).mul (Eqm.mod (P:Int) (A 0 0))).symm.trans hu.2.2
     rwa [Int.mul_comm] at this
   have hdet:=Alk hA Ac
   have hsd:det n (AKx A u) % (P:Int)≠0:=fun hh=>Ab (by
     have:=hdet.trans ((Eqm.refl (P:Int) (A 0 0)).mul (show Eqm (P:Int) _ 0 from hh.trans (Int.zero_emod _).symm))
     rw [Int.mul_zero] at this
     exact Eqm.zero this)
   have hsy:∀ a b,a < n->b < n->AKx A u a b=AKx A u b a:=fun a b ha hb=>by
     unfold AKx
     rw [hA (a + 1) (b + 1) (by omega) (by omega),Int.mul_comm (A 0 (a + 1))]
   obtain ⟨ihe,iho⟩:=ih (AKx A u) hsy hsd
   refine ⟨fun m hm c=>?_,fun m hm c=>?_⟩
   ·
     obtain ⟨m',rfl⟩:∃ m',m=m' + 1:=⟨m - 1,by omega⟩
     have hz:=iho m' (by omega)
     rw [Apy (by omega) hA Ac,ABt (g:=fun x:Nat=>(P:Int) ^ (2 * m') + ((P:Int) ^ m' * lg P ((-1) ^ m' * det n (AKx A u))) * lg P (c - A 0 0 * (x:Nat) * (x:Nat))) (fun x _=>by rw [hz,AL2 hp];grind),AGh,APc,ADa,h2 _ _ ha]
     have e1:lg P ((-1) ^ (m' + 1) * det (n + 1) A)=lg P ((-1) ^ m' * det n (AKx A u)) * lg P (-(A 0 0)):=by
       rw [<- AL2 hp]
       refine AJp hp ?_
       have:=(Eqm.refl (P:Int) ((-1) ^ (m' + 1))).mul hdet
       refine this.trans (Eqm.of_eq ?_)
       rw [Int.pow_succ];grind
     rw [e1]
     have e2:(P:Int) ^ (2 * (m' + 1))=P * (P * (P:Int) ^ (2 * m')):=by
       rw [show 2 * (m' + 1)=2 * m' + 1 + 1 by omega,Int.pow_succ,Int.pow_succ];grind
     rw [e2,Int.pow_succ]
     generalize (P:Int) ^ (2 * m')=X
     generalize (P:Int) ^ m'=Y
     grind
   ·
     have hz:=ihe m (by omega)
     have hmul:(P:Int) * Zc' P (n + 1) A c=(P:Int) * ((P:Int) ^ (2 * m) + (P:Int) ^ m * lg P ((-1) ^ m * det (n + 1) A * c)):=by
       rw [Apy (by omega) hA Ac,<- ADa,ABt (g:=fun x:Nat=>((P:Int) ^ (2 * m) - lg P ((-1) ^ m * det n (AKx A u)) * (P:Int) ^ m) + (lg P ((-1) ^ m * det n (AKx A u)) * (P:Int) ^ m * P) * Ind P (c - A 0 0 * (x:Nat) * (x:Nat))) (fun x _=>by rw [hz];grind),AGh,APc,ADa,h1 _ _ ha]
       have e1:lg P ((-1) ^ m * det (n + 1) A * c)=lg P ((-1) ^ m * det n (AKx A u)) * lg P (A 0 0 * c):=by
         rw [<- AL2 hp]
         refine AJp hp ?_
         have:=((Eqm.refl (P:Int) ((-1) ^ m)).mul hdet).mul (Eqm.refl (P:Int) c)
         refine this.trans (Eqm.of_eq ?_)
         grind
       rw [e1]
       generalize (P:Int) ^ (2 * m)=X
       generalize (P:Int) ^ m=Y
       grind
     exact Int.eq_of_mul_eq_mul_left (by omega) hmul
end Go.Proofs.YtiegjkmfpcgjjaaGreatDoor
namespace Go.Proofs.YtiegjkmfpcgjjaaGreatDoor
open Go Go.QF
set_option maxRecDepth 100000
def AWc:List Int->Int
  | []=>0
  | x :: l=>x + AWc l
theorem Alm {l t:List Int} (h:l.Perm t):AWc l=AWc t:=by
 induction h with
 | nil=>rfl
 | cons x _ ih=>simp only [AWc];rw [ih]
 | swap x y l=>simp only [AWc];omega
 | trans _ _ Aa Ab=>exact Aa.trans Ab
theorem Afn:∀ l t:List Int,AWc (l ++ t)=AWc l + AWc t
  | [],t=>by simp [AWc]
  | x :: l,t=>by show x + AWc (l ++ t)=x + AWc l + AWc t;rw [Afn l t];omega
theorem AWd (f:Nat->Int):∀ n,psum f n=AWc ((List.range n).map f)
  | 0=>rfl
  | n + 1=>by
    rw [List.range_succ,List.map_append,Afn,<- AWd f n]
    show psum f n + f n=psum f n + (f n + 0)
    omega
theorem AWv {P:Nat} (hp:OPr (P:Int)) {g:Int->Int} (hg:∀ y z,y % (P:Int)=z % (P:Int)->g y=g z) {a:Int} (ha:a % (P:Int)≠0):psum (fun x=>g (a * (x:Nat))) P=psum (fun x=>g (x:Nat)) P:=by
  have h3:=hp.three;have hr:=Int.emod_nonneg a (show (P:Int)≠0 by omega);have hr2:=Int.emod_lt_of_pos a (show (0:Int) < P by omega);have hb:∀ x:Nat,0<=a * (x:Int) % (P:Int)/\a * (x:Int) % (P:Int) < P:=fun x=>⟨Int.emod_nonneg _ (by omega),Int.emod_lt_of_pos _ (by omega)⟩
  have hperm:((List.range P).map fun x:Nat=>(a * (x:Int) % (P:Int)).toNat).Perm (List.range P):=by
    refine AWi _ _ ?_ ?_ (by simp)
    · rw [List.nodup_iff_pairwise_ne,List.pairwise_map,List.pairwise_iff_getElem];intro i j hi hj hij he;rw [List.getElem_range,List.getElem_range] at he;rw [List.length_range] at hi hj;have h1:=hb i;have h2:=hb j;have he2:a * (i:Int) % (P:Int)=a * (j:Int) % (P:Int):=by omega
      have e1:(i:Int) * (a % (P:Int)) % (P:Int)=(j:Int) * (a % (P:Int)) % (P:Int):=by
        have q1:Eqm (P:Int) ((i:Int) * (a % (P:Int))) ((i:Int) * a):=(Eqm.refl _ _).mul (Eqm.mod _ a);have q2:Eqm (P:Int) ((j:Int) * (a % (P:Int))) ((j:Int) * a):=(Eqm.refl _ _).mul (Eqm.mod _ a);rw [Int.mul_comm a,Int.mul_comm a] at he2;exact q1.trans ((show Eqm (P:Int) _ _ from he2).trans q2.symm)
      have:=cancel hp.1 (by omega) hr2 e1;rw [Int.emod_eq_of_lt (by omega) (by omega),Int.emod_eq_of_lt (by omega) (by omega)] at this;omega
    · intro y hy;obtain ⟨x,_,rfl⟩:=List.mem_map.1 hy;have:=hb x;exact List.mem_range.2 (by omega)
  rw [AWd,AWd,<- Alm (hperm.map fun x:Nat=>g (x:Int)),List.map_map];congr 1;refine List.map_congr_left fun x _=>hg _ _ ?_;show a * (x:Int) % (P:Int)=(((a * (x:Int) % (P:Int)).toNat:Nat):Int) % (P:Int);have:=hb x;rw [Int.toNat_of_nonneg this.1,Int.emod_emod]
theorem AZo {P:Nat} (hp:OPr (P:Int)) {a:Int} (ha:a % (P:Int)≠0):∃ u:Int,Eqm (P:Int) (a * u) 1/\u % (P:Int)≠0/\lg P u=lg P a:=by
 have h3:=hp.three;have hr:=Int.emod_nonneg a (show (P:Int)≠0 by omega);have Ac:=Int.emod_lt_of_pos a (show (0:Int) < P by omega);obtain ⟨u,hu⟩:=AUn hp.1 (x:=a % (P:Int)) (by omega) Ac
 have Aa:Eqm (P:Int) (a * u) 1:=by
   have:=((Eqm.refl (P:Int) u).mul (Eqm.mod (P:Int) a)).symm.trans hu.2.2
   rwa [Int.mul_comm] at this
 have h1:(1:Int) % (P:Int)=1:=Int.emod_eq_of_lt (by omega) (by omega)
 have hune:u % (P:Int)≠0:=fun hh=>by
   have h2:a * u % (P:Int)=0:=by rw [Int.mul_emod,hh,Int.mul_zero,Int.zero_emod]
   have h4:a * u % (P:Int)=1 % (P:Int):=Aa
   omega
 refine ⟨u,Aa,hune,?_⟩;have hl:lg P (a * u)=lg P 1:=AJp hp Aa;have Ae:lg P (1:Int)=1:=by unfold lg;rw [Int.one_pow,h1];simp
 rw [AL2 hp,Ae] at hl;rcases AWr hp ha with h | h <;> rcases AWr hp hune with h2 | h2 <;> rw [h,h2] at hl ⊢ <;> revert hl <;> decide
def AXo:List Nat:=[3,5,7,11,13,17,19,23,29,31,37,41,43,47,53,59,61,67,71,73,79,83,89,97,101,103,107,109,113,127,131,137,139,149,151,157,163,167,173,179,181,191,193,197,199,211,223,227,229,233,239,241,251]
def pw (P h:Nat) (a:Nat):Nat:=a ^ h % P
def sqm (P:Nat):Nat->Nat
  | 0=>0
  | x + 1=>sqm P x ||| 2 ^ (x * x % P)
theorem Ajx {P c:Nat}:∀ {n},(sqm P n).testBit c=true-> ∃ x,x < n/\x * x % P=c
  | 0,h=>by simp [sqm] at h
  | n + 1,h=>by
    unfold sqm at h
    rw [Nat.testBit_or,Bool.or_eq_true,Nat.testBit_two_pow] at h
    rcases h with h | h
    · obtain ⟨x,hx,he⟩:=Ajx h;exact ⟨x,by omega,he⟩
    · exact ⟨n,by omega,of_decide_eq_true h⟩
def Axm (P m:Nat):Bool:=(List.range P).all fun c=> !(pw P ((P - 1) / 2) c == 1) || m.testBit c
def Ahq (P:Nat):Bool:=Axm P (sqm P P)
theorem Apz:AXo.all Ahq=true:=by decide +kernel
def lgZ (P a:Nat):Int:=if pw P ((P - 1) / 2) a=0 then 0 else if pw P ((P - 1) / 2) a=1 then 1 else -1
theorem ASx {P:Nat} (hP:1<=P) (a:Nat):lg P (a:Int)=lgZ P a:=by
 have hh:(((P:Int) - 1) / 2).toNat=(P - 1) / 2:=by omega
 unfold lg lgZ;rw [hh];have:(a:Int) ^ ((P - 1) / 2) % (P:Int)=((pw P ((P - 1) / 2) a:Nat):Int):=by unfold pw;rw [Int.natCast_emod,Int.natCast_pow]
 rw [this];by_cases h0:pw P ((P - 1) / 2) a=0
 ·rw [if_pos (by omega),if_pos h0]
 ·rw [if_neg (by omega),if_neg h0];by_cases h1:pw P ((P - 1) / 2) a=1
  ·rw [if_pos (by omega),if_pos h1]
  ·rw [if_neg (by omega),if_neg h1]
theorem Ap0 {P c:Nat} (h:Ahq P=true) (hc:c < P) (hl:lgZ P c=1):∃ x,x < P/\x * x % P=c:=by
 have h1:=List.all_eq_true.1 h c (List.mem_range.2 hc)
 have hpw:pw P ((P - 1) / 2) c=1:=by
   unfold lgZ at hl
   by_cases h0:pw P ((P - 1) / 2) c=0
   · rw [if_pos h0] at hl;cases hl
   · rw [if_neg h0] at hl
     by_cases h1:pw P ((P - 1) / 2) c=1
     · exact h1
     · rw [if_neg h1] at hl;cases hl
 rw [hpw] at h1;exact Ajx h1
theorem AZp {P x c:Nat} (h:x * x % P=c):Eqm (P:Int) ((x:Int) * x) c:=by
 subst h;unfold Eqm;rw [Int.natCast_emod,Int.natCast_mul,Int.emod_emod]
theorem Ap1 {P c:Nat} (hp:OPr (P:Int)) (h:Ahq P=true) (hc:c < P):psum (fun x=>if x * x % P=c then 1 else 0) P=1 + lgZ P c:=by
 have h3:=hp.three;have h2:=hp.2;have hne:∀ x:Nat,0 < x->x < P->(x:Int) % (P:Int)≠0:=fun x h0 h1=>by rw [Int.emod_eq_of_lt (by omega) (by omega)];omega
 by_cases h0:c=0
 ·subst h0;have hl:lgZ P 0=0:=by rw [<- ASx (by omega)];exact AKw hp (by simp)
  rw [hl];obtain ⟨Q,rfl⟩:∃ Q,P=Q + 1:=⟨P - 1,by omega⟩
  rw [AJ5,ABt (g:=fun _=>(0:Int)) (fun x hx=>if_neg fun hh=>by
    have:=AZp hh
    exact AWs hp (hne (x + 1) (by omega) (by omega)) (hne (x + 1) (by omega) (by omega)) (Eqm.zero this)),AJo]
  simp
 ·have hcne:=hne c (by omega) hc;rcases AWr hp hcne with hl | hl
  ·have Aa:lgZ P c=1:=by rw [<- ASx (by omega),hl]
   rw [Aa];obtain ⟨k,hk,hkc⟩:=Ap0 h hc Aa;have Aj:k≠0:=fun hh=>by subst hh;simp at hkc;omega
   have hs:(P - k) * (P - k) % P=c:=by
     have e:Eqm (P:Int) (((P - k:Nat):Int) * ((P - k:Nat):Int)) ((k:Int) * k):=by
       rw [Int.natCast_sub (by omega)]
       have q:Eqm (P:Int) ((P:Int) - k) (0 - k):=Eqm.sub (by show (P:Int) % P=0 % P;simp) (Eqm.refl _ _)
       exact (q.mul q).trans (Eqm.of_eq (by grind))
     have e2:Eqm (P:Int) (((P - k:Nat):Int) * ((P - k:Nat):Int)) c:=e.trans (AZp hkc)
     unfold Eqm at e2
     rw [<- Int.natCast_mul,<- Int.natCast_emod,<- Int.natCast_emod,Nat.mod_eq_of_lt hc] at e2
     omega
   rw [AYu (r:=k) (s:=P - k) hk (by omega) (by omega) (fun x hx h4 h5=>if_neg fun hh=>by
     have e:=(AZp hh).sub (AZp hkc)
     have e1:(x:Int) * x - (k:Int) * k=((x:Int) - k) * ((x:Int) + k):=by grind
     rw [e1,Int.sub_self] at e
     refine AWs hp ?_ ?_ (Eqm.zero e)
     · intro hz
       obtain ⟨q,hq⟩:=Int.dvd_of_emod_eq_zero hz
       have: -1 < q:=Int.lt_of_mul_lt_mul_left (a:=(P:Int)) (by omega) (by omega)
       have:q < 1:=Int.lt_of_mul_lt_mul_left (a:=(P:Int)) (by omega) (by omega)
       obtain rfl:q=0:=by omega
       omega
     · intro hz
       obtain ⟨q,hq⟩:=Int.dvd_of_emod_eq_zero hz
       have:0 < q:=Int.lt_of_mul_lt_mul_left (a:=(P:Int)) (by omega) (by omega)
       have:q < 2:=Int.lt_of_mul_lt_mul_left (a:=(P:Int)) (by omega) (by omega)
       obtain rfl:q=1:=by omega
       omega),if_pos hkc,if_pos hs]
  ·have Aa:lgZ P c= -1:=by rw [<- ASx (by omega),hl]
   rw [Aa,ABt (g:=fun _=>(0:Int)) (fun x hx=>if_neg fun hh=>by
     have e:=AJp hp (AZp hh)
     rw [AL2 hp,hl] at e
     by_cases Ae:(x:Int) % (P:Int)=0
     · rw [AKw hp Ae] at e;omega
     · rcases AWr hp Ae with h4 | h4 <;> rw [h4] at e <;> omega),AJo]
   rfl
theorem Aw1 {P:Nat} (hP:1<=P) (c:Int):∃ d:Nat,d < P/\(d:Int)=c % (P:Int):=by
 have h1:=Int.emod_nonneg c (show (P:Int)≠0 by omega);have h2:=Int.emod_lt_of_pos c (show (0:Int) < P by omega);exact ⟨(c % (P:Int)).toNat,by omega,by omega⟩
theorem Aw2 {P:Nat} (hp:OPr (P:Int)) (h:Ahq P=true):E1 P:=by
 intro a c ha;have h3:=hp.three;obtain ⟨u,hu,hune,hul⟩:=AZo hp ha;obtain ⟨d,hd,hde⟩:=Aw1 (P:=P) (by omega) (u * c)
 have hl:lg P (a * c)=lgZ P d:=by
   rw [<- ASx (by omega),hde,Acj hp,AL2 hp,AL2 hp,hul]
 rw [hl,<- Ap1 hp h hd];refine ABt fun x _=>?_;unfold Ind
 have hiff:((c - a * (x:Int) * (x:Int)) % (P:Int)=0)↔x * x % P=d:=by
   have e1:(x * x % P=d)↔Eqm (P:Int) ((x:Int) * x) (u * c):=by
     unfold Eqm
     rw [<- hde]
     have:(x:Int) * x % (P:Int)=((x * x % P:Nat):Int):=by rw [Int.natCast_emod,Int.natCast_mul]
     rw [this];omega
   rw [e1]
   constructor
   · intro h0
     have h0:Eqm (P:Int) (c - a * (x:Int) * (x:Int)) 0:=h0.trans (Int.zero_emod _).symm
     have h4:=(Eqm.refl (P:Int) u).mul h0
     have h5:Eqm (P:Int) (u * (c - a * (x:Int) * (x:Int)) + (a * u) * ((x:Int) * x)) (u * 0 + 1 * ((x:Int) * x)):=h4.add (hu.mul (Eqm.refl _ _))
     have e2:u * (c - a * (x:Int) * (x:Int)) + (a * u) * ((x:Int) * x)=u * c:=by grind
     rw [e2] at h5
     have e3:u * 0 + 1 * ((x:Int) * x)=(x:Int) * x:=by omega
     rw [e3] at h5
     exact h5.symm
   · intro h0
     have h4:=((Eqm.refl (P:Int) c).sub ((Eqm.refl (P:Int) a).mul h0))
     have h5:Eqm (P:Int) (c - a * (u * c)) 0:=by
       have:=(Eqm.refl (P:Int) c).sub (hu.mul (Eqm.refl (P:Int) c))
       have e2:c - a * u * c=c - a * (u * c):=by grind
       rw [e2] at this
       refine this.trans (Eqm.of_eq (by omega))
     have h6:=h4.trans h5
     have e3:c - a * ((x:Int) * x)=c - a * (x:Int) * (x:Int):=by grind
     rw [e3] at h6
     exact Eqm.zero h6
 by_cases h0:x * x % P=d
 ·rw [if_pos (hiff.2 h0),if_pos h0]
 ·rw [if_neg (fun hh=>h0 (hiff.1 hh)),if_neg h0]
def uS (P b:Nat):Nat->Int
  | 0=>0
  | x + 1=>uS P b x + lgZ P ((1 + (P - b * (x * x) % P)) % P)
def As0 (P:Nat):Bool:=uS P 1 P == -lgZ P (P - 1) && (List.range P).any fun g=>lgZ P g == -1 && uS P g P == -lgZ P (P - g)
theorem Ap2:AXo.all As0=true:=by decide +kernel
def Us (P:Nat) (b:Int):Int:=psum (fun x=>lg P (1 - b * (x:Nat) * (x:Nat))) P
theorem Atw {P:Nat} (hp:OPr (P:Int)) (b:Nat):Us P b=uS P b P:=by
 have h3:=hp.three
 have:∀ n,psum (fun x=>lg P (1 - (b:Int) * (x:Nat) * (x:Nat))) n=uS P b n:=by
   intro n
   induction n with
   | zero=>rfl
   | succ n ih=>
     show psum _ n + lg P (1 - (b:Int) * (n:Nat) * (n:Nat))=uS P b n + lgZ P ((1 + (P - b * (n * n) % P)) % P)
     rw [ih,<- ASx (by omega)]
     congr 1
     refine AJp hp ?_
     have hlt:=Nat.mod_lt (b * (n * n)) (show P > 0 by omega)
     rw [Int.natCast_emod,Int.emod_emod,Int.natCast_add,Int.natCast_sub (by omega),Int.natCast_emod]
     have q:Eqm (P:Int) (((1:Nat):Int) + ((P:Int) - ((b * (n * n):Nat):Int) % (P:Int))) (1 + (0 - (b:Int) * n * n)):=by
       refine (Eqm.refl _ (1:Int)).add (Eqm.sub ?_ ((Eqm.mod _ _).trans (Eqm.of_eq (by rw [Int.natCast_mul,Int.natCast_mul,Int.mul_assoc]))))
       show (P:Int) % P=0 % P
       simp
     have e:1 + (0 - (b:Int) * n * n)=1 - (b:Int) * n * n:=by omega
     rw [e] at q
     exact q.symm
 exact this P
theorem Ap3 {P:Nat} (hp:OPr (P:Int)) {b d:Int} (h:Eqm (P:Int) b d):Us P b=Us P d:=ABt fun x _=>AJp hp ((Eqm.refl _ 1).sub ((h.mul (Eqm.refl _ _)).mul (Eqm.refl _ _)))
theorem Atx {P:Nat} (hp:OPr (P:Int)) {b k:Int} (hk:k % (P:Int)≠0):Us P (b * (k * k))=Us P b:=by
 unfold Us
 rw [<- AWv hp (g:=fun y=>lg P (1 - b * y * y)) (fun y z h=>by
   have h:Eqm (P:Int) y z:=h
   exact AJp hp ((Eqm.refl _ 1).sub (((Eqm.refl _ b).mul h).mul h))) hk]
 exact ABt fun x _=>by congr 1;grind
theorem Aty {P:Nat} (hp:OPr (P:Int)) (h:Ahq P=true) {b:Int} (hl:lg P b=1):∃ k:Int,k % (P:Int)≠0/\Eqm (P:Int) (k * k) b:=by
 have h3:=hp.three;obtain ⟨d,hd,hde⟩:=Aw1 (P:=P) (by omega) b;have h1:lgZ P d=1:=by rw [<- ASx (by omega),hde,Acj hp,hl]
 obtain ⟨x,hx,he⟩:=Ap0 h hd h1
 have e:Eqm (P:Int) ((x:Int) * x) b:=by
   unfold Eqm
   rw [<- hde,<- he,Int.natCast_emod,Int.natCast_mul]
 refine ⟨x,fun hh=>?_,e⟩;have e2:Eqm (P:Int) ((x:Int) * x) 0:=(((show Eqm (P:Int) (x:Int) 0 from hh.trans (Int.zero_emod _).symm)).mul (Eqm.refl _ (x:Int))).trans (Eqm.of_eq (by simp));have:=AKw hp (Eqm.zero (e.symm.trans e2));omega
theorem As1 {P:Nat} (hp:OPr (P:Int)) (h1:Ahq P=true) (h2:As0 P=true) {b:Int} (hb:b % (P:Int)≠0):Us P b= -lg P (-b):=by
 have h3:=hp.three;unfold As0 at h2;rw [Bool.and_eq_true,List.any_eq_true] at h2;obtain ⟨Ab,g,hg,Ae⟩:=h2;rw [Bool.and_eq_true] at Ae;obtain ⟨hgl,hgu⟩:=Ae;have Ab:=eq_of_beq Ab;have hgl:=eq_of_beq hgl;have hgu:=eq_of_beq hgu;have hgP:=List.mem_range.1 hg;have hneg:∀ d:Int,lg P (-d)=lg P (-1) * lg P d:=fun d=>by rw [<- AL2 hp];congr 1;omega
 have hm:∀ g:Nat,g<=P->lgZ P (P - g)=lg P (-(g:Int)):=fun g hg=>by
   rw [<- ASx (by omega)]
   refine AJp hp ?_
   rw [Int.natCast_sub hg]
   have:Eqm (P:Int) ((P:Int) - g) (0 - g):=Eqm.sub (by show (P:Int) % P=0 % P;simp) (Eqm.refl _ _)
   rw [Int.zero_sub] at this
   exact this
 rcases AWr hp hb with hl | hl
 ·obtain ⟨k,hk,hkb⟩:=Aty hp h1 hl;rw [<- Ap3 hp (show Eqm (P:Int) (1 * (k * k)) b by rw [Int.one_mul];exact hkb),Atx hp hk,hneg,hl];have:=Atw hp 1;rw [Ab,hm 1 (by omega)] at this;rw [Int.mul_one];exact this
 ·have Ac:lg P (g:Int)= -1:=by rw [ASx (by omega),hgl]
  have hgne:(g:Int) % (P:Int)≠0:=fun hh=>by rw [AKw hp hh] at Ac;omega
  obtain ⟨u,hu,hune,hul⟩:=AZo hp hgne;obtain ⟨k,hk,hkb⟩:=Aty hp h1 (b:=u * b) (by rw [AL2 hp,hul,hl,Ac];decide)
  have e:Eqm (P:Int) ((g:Int) * (k * k)) b:=by
    refine ((Eqm.refl _ (g:Int)).mul hkb).trans ?_
    have:=hu.mul (Eqm.refl _ b)
    rw [Int.mul_assoc,Int.one_mul] at this
    exact this
  rw [<- Ap3 hp e,Atx hp hk,hneg,hl,Atw hp,hgu,hm g (by omega),hneg,Ac]
theorem Aw3 {P:Nat} (hp:OPr (P:Int)) (h1:Ahq P=true) (h2:As0 P=true):E2 P:=by
 intro a c ha;have h3:=hp.three;by_cases hc:c % (P:Int)=0
 ·have e:Ind P c=1:=if_pos hc
  rw [e,ABt (g:=fun x:Nat=>lg P (-a) * (lg P (x:Int) * lg P (x:Int))) (fun x _=>by
    rw [<- AL2 hp,<- AL2 hp]
    have:=(show Eqm (P:Int) c 0 from hc.trans (Int.zero_emod _).symm).sub (Eqm.refl _ (a * (x:Int) * (x:Int)))
    have e2:0 - a * (x:Int) * (x:Int)= -a * ((x:Int) * x):=by grind
    rw [e2] at this
    exact AJp hp this),ADa]
  congr 1;obtain ⟨Q,rfl⟩:∃ Q,P=Q + 1:=⟨P - 1,by omega⟩
  rw [AJ5,ABt (g:=fun _=>(1:Int)) (fun x hx=>by
    have hne:(((x + 1:Nat)):Int) % ((Q + 1:Nat):Int)≠0:=by rw [Int.emod_eq_of_lt (by omega) (by omega)];omega
    rcases AWr hp hne with h | h <;> rw [h] <;> rfl),APc,AKw hp (a:=((0:Nat):Int)) (by simp)]
  omega
 ·have e:Ind P c=0:=if_neg hc;obtain ⟨u,hu,hune,hul⟩:=AZo hp hc
  rw [e,ABt (g:=fun x:Nat=>lg P c * lg P (1 - (a * u) * (x:Int) * (x:Int))) (fun x _=>by
    rw [<- AL2 hp]
    have:=(Eqm.refl (P:Int) c).sub (hu.mul (Eqm.refl _ (a * (x:Int) * (x:Int))))
    refine AJp hp ?_
    have e1:c - c * u * (a * (x:Int) * (x:Int))=c * (1 - a * u * (x:Int) * (x:Int)):=by grind
    have e2:c - 1 * (a * (x:Int) * (x:Int))=c - a * (x:Int) * (x:Int):=by omega
    rw [e1,e2] at this
    exact this.symm),ADa]
  show lg P c * Us P (a * u)=_;rw [As1 hp h1 h2 (AWs hp ha hune)];have e3:lg P (-(a * u))=lg P (-a) * lg P c:=by rw [<- hul,<- AL2 hp];congr 1;grind
  rw [e3];rcases AWr hp hc with h | h <;> rw [h] <;> omega
end Go.Proofs.YtiegjkmfpcgjjaaGreatDoor
namespace Go.Proofs.YtiegjkmfpcgjjaaGreatDoor
open Go Go.QF
set_option maxRecDepth 100000
def dg (n P i c:Nat):Nat:=i / P ^ (n - 1 - c) % P
def AJs (n P i:Nat):List Int:=AD5 n fun c=>((dg n P i c:Nat):Int)
theorem AZq {n P i j:Nat} (hP:2<=P) (hj:j<=n) (h:∀ c,n - j<=c->c < n->dg n P i c=P - 1):i % P ^ j=P ^ j - 1:=by
 induction j with
 | zero=>simp [Nat.mod_one]
 | succ j ih=>
   have h1:=ih (by omega) fun c h1 h2=>h c (by omega) h2
   have h2:=h (n - (j + 1)) (by omega) (by omega)
   unfold dg at h2
   rw [show n - 1 - (n - (j + 1))=j by omega] at h2
   have hpos:0 < P ^ j:=Nat.pow_pos (by omega)
   rw [Nat.pow_succ,Nat.mod_mul,h1,h2]
   have:P ^ j * (P - 1) + P ^ j=P ^ j * P:=by
     rw [<- Nat.mul_succ,show (P - 1).succ=P by omega]
   omega
theorem Afo {n P i j:Nat} (hP:2<=P) (hj:j < n) (h:∀ c,n - j<=c->c < n->dg n P i c=P - 1) (hx:dg n P i (n - 1 - j)≠P - 1) (c:Nat) (hc:c < n):dg n P (i + 1) c=if n - j<=c then 0 else if c=n - 1 - j then dg n P i c + 1 else dg n P i c:=by
 have hl:=AZq hP (Nat.le_of_lt hj) h;have hpos:0 < P ^ j:=Nat.pow_pos (by omega);have hdm:=Nat.div_add_mod i (P ^ j);have hi:i + 1=P ^ j * (i / P ^ j + 1):=by rw [Nat.mul_succ];omega
 have Ac:i / P ^ j % P≠P - 1:=by unfold dg at hx;rwa [show n - 1 - (n - 1 - j)=j by omega] at hx
 generalize hq:i / P ^ j=q at hi Ac;unfold dg;by_cases h1:n - j<=c
 ·rw [if_pos h1];obtain ⟨e,he⟩:∃ e,j=(n - 1 - c) + 1 + e:=⟨j - (n - 1 - c) - 1,by omega⟩
  have h2:P ^ j=P ^ (n - 1 - c) * (P * P ^ e):=by
    conv=>lhs;rw [he]
    rw [Nat.pow_add,Nat.pow_succ,Nat.mul_assoc]
  rw [hi,h2,Nat.mul_assoc,Nat.mul_div_cancel_left _ (Nat.pow_pos (by omega)),Nat.mul_assoc,Nat.mul_mod_right]
 ·rw [if_neg h1];obtain ⟨k,hk⟩:∃ k,n - 1 - c=j + k:=⟨n - 1 - c - j,by omega⟩;rw [hk,Nat.pow_add,<- Nat.div_div_eq_div_mul,<- Nat.div_div_eq_div_mul,hi,Nat.mul_div_cancel_left _ hpos,hq];have hqm:=Nat.div_add_mod q P;have hql:=Nat.mod_lt q (show P > 0 by omega);by_cases h2:c=n - 1 - j
  ·rw [if_pos h2];obtain rfl:k=0:=by omega
   simp only [Nat.pow_zero,Nat.div_one];rw [Nat.add_mod,Nat.mod_eq_of_lt (show 1 < P by omega),Nat.mod_eq_of_lt (by omega)]
  ·rw [if_neg h2];obtain ⟨k',rfl⟩:∃ k',k=k' + 1:=⟨k - 1,by omega⟩
   have h3:(q + 1) / P=q / P:=by
     refine Nat.div_eq_of_lt_le ?_ ?_
     · rw [Nat.mul_comm];omega
     · rw [Nat.mul_comm,Nat.mul_succ];omega
   rw [Nat.pow_succ,Nat.mul_comm,<- Nat.div_div_eq_div_mul,<- Nat.div_div_eq_div_mul,h3]
theorem Atz {n P i c:Nat} (hP:2<=P):dg n P i c < P:=Nat.mod_lt _ (by omega)
theorem As2 {n P c:Nat}:dg n P 0 c=0:=by simp [dg]
def gd (d q:Nat):Bool:=(q == 3 || q == 5 || q == 7 || q == 11 || q == 13 || q == 17) && d % q != 0
def AW3 (d:Nat):Nat->Nat
  | 0=>0
  | i + 1=>AW3 d i + (if gd d (3 + 2 * i)=true then 1 else 0)
theorem Avs:(List.range 10000).all (fun d=>decide (1<=AW3 (d + 1) 7/\(AW3 (d + 1) 7=1->gd (d + 1) 17=true)))=true:=by decide +kernel
theorem Aln {q:Nat} (h3:3<=q) (h:q<=17):AOn (q:Int)=true↔(q=3∨q=5∨q=7∨q=11∨q=13∨q=17):=by
 have prs:∀ (n:Int) (d:Nat),2<=n->2<=d->n < d * d->(∀ c,c < d->2<=c->¬ n % (c:Int)=0)->Pr n:=fun n d hn hd hsq h=>AT1 (d:=d) hn (by omega) hsq fun c h1 h2 h3=>h c.toNat (by omega) (by omega) (by rw [show ((c.toNat:Nat):Int)=c by omega];exact h3);constructor
 ·intro ho;have hp:=Ack ho;refine Classical.byContradiction fun hno=>?_;have hcase:q=4∨q=6∨q=8∨q=9∨q=10∨q=12∨q=14∨q=15∨q=16:=by omega
  rcases hcase with rfl | rfl | rfl | rfl | rfl | rfl | rfl | rfl | rfl
  ·exact hp.2.2.2 2 (by decide) (by decide) (by decide)
  ·exact hp.2.2.2 2 (by decide) (by decide) (by decide)
  ·exact hp.2.2.2 2 (by decide) (by decide) (by decide)
  ·exact hp.2.2.2 3 (by decide) (by decide) (by decide)
  ·exact hp.2.2.2 2 (by decide) (by decide) (by decide)
  ·exact hp.2.2.2 2 (by decide) (by decide) (by decide)
  ·exact hp.2.2.2 2 (by decide) (by decide) (by decide)
  ·exact hp.2.2.2 3 (by decide) (by decide) (by decide)
  ·exact hp.2.2.2 2 (by decide) (by decide) (by decide)
 ·intro hc;refine (AT9 ?_).symm;rcases hc with rfl | rfl | rfl | rfl | rfl | rfl <;> refine ⟨by decide,by decide,?_⟩
  ·exact prs _ 2 (by decide) (by decide) (by decide) (by decide)
  ·exact prs _ 3 (by decide) (by decide) (by decide) (by decide)
  ·exact prs _ 3 (by decide) (by decide) (by decide) (by decide)
  ·exact prs _ 4 (by decide) (by decide) (by decide) (by decide)
  ·exact prs _ 4 (by decide) (by decide) (by decide) (by decide)
  ·exact prs _ 5 (by decide) (by decide) (by decide) (by decide)
theorem Afp {fuel:Nat} {M:List (List Int)} {k:Int} (R:AWa M) (hk:0<=k) (Ah:k < 256) (hf:2147483648 < fuel):Ok (AFg fuel M k) fun p=> ∃ P:Nat,p=P/\3<=P/\P<=17/\AOn p=true/\det M.length (ent M) % p≠0:=by
 have hdv:=AZf R;obtain ⟨d,hd⟩:∃ d:Nat,det M.length (ent M)=(d:Int):=⟨(det M.length (ent M)).toNat,by omega⟩;have hdd:1<=d/\d<=10000:=by omega
 have hall:=of_decide_eq_true (List.all_eq_true.1 Avs (d - 1) (List.mem_range.2 (by omega)));rw [show d - 1 + 1=d by omega] at hall
 have hg:∀ q:Nat,3<=q->q<=17->(gd d q=true↔AOn (q:Int)=true/\det M.length (ent M) % (q:Int)≠0):=fun q h3 Af=>by
   rw [Aln h3 Af,hd]
   unfold gd
   simp only [Bool.and_eq_true,Bool.or_eq_true,beq_iff_eq,bne_iff_ne,ne_eq]
   have:((d:Int) % (q:Int)=0)↔d % q=0:=by omega
   rw [this]
   constructor
   · rintro ⟨h1,h2⟩;exact ⟨by omega,h2⟩
   · rintro ⟨h1,h2⟩;exact ⟨by omega,h2⟩
 unfold AFg;have hkm:w64 (Int.tmod k 2)=k % 2:=by rw [Int.tmod_eq_emod_of_nonneg hk,wk (by omega)]
 rw [hkm];refine ABn (ACz (fun i s=>s=(k % 2 - (AW3 d i:Int),((3 + 2 * i:Nat):Int))/\i<=7/\(AW3 d i:Int)<=k % 2) 7 (Q:=fun p:Int=> ∃ P:Nat,p=P/\3<=P/\P<=17/\AOn p=true/\det M.length (ent M) % p≠0) ⟨by simp [AW3],by omega,by simp [AW3];omega⟩ (by omega) fun i s hi hI=>?_) fun e he=>ABi he;obtain ⟨rfl,h1,h2⟩:=hI;unfold AHk;refine ABn (Apu (p:=((3 + 2 * i:Nat):Int)) R (by omega)) fun b hb=>?_;rw [<- hg (3 + 2 * i) (by omega) (by omega)] at hb;have hsucc:AW3 d (i + 1)=AW3 d i + (if gd d (3 + 2 * i)=true then 1 else 0):=rfl
 have h7:i=7->AW3 d i=1/\gd d 17=true:=fun h=>by
   subst h
   have h3:AW3 d 7<=1:=by omega
   have h4:AW3 d 7=1:=by omega
   exact ⟨h4,hall.2 h4⟩
 dsimp only;refine ACf (fun h=>?_) fun h=>?_
 ·have hgd:=hb.1 h;rw [if_pos hgd] at hsucc;refine ACf (fun h5=>ABi ⟨3 + 2 * i,rfl,by omega,by omega,(hg _ (by omega) (by omega)).1 hgd⟩) fun h5=>?_;have hne:i≠7:=fun hh=>by have:=h7 hh;omega
  exact ABi ⟨by omega,by rw [wk (by omega),wk (by omega),hsucc];exact Prod.ext (by dsimp only;omega) (by dsimp only;omega),by omega,by rw [hsucc];omega⟩
 ·have hgd: ¬ gd d (3 + 2 * i)=true:=fun hh=>h (hb.2 hh);rw [if_neg hgd] at hsucc;have hne:i≠7:=fun hh=>by have:=h7 hh;subst hh;exact hgd this.2
  exact ABi ⟨by omega,by rw [wk (by omega),hsucc];exact Prod.ext (by dsimp only;omega) (by dsimp only;omega),by omega,by rw [hsucc];omega⟩
end Go.Proofs.YtiegjkmfpcgjjaaGreatDoor
namespace Go.Proofs.YtiegjkmfpcgjjaaGreatDoor
open Go Go.QF
def Ac4 (a:Int) (v:Nat->Int):Nat->Int:=fun j=>a * v j
theorem AWe (a x:Int) (v:Nat->Int):Ac4 a (AD0 x v)=AD0 (a * x) (Ac4 a v):=by
 funext j;cases j <;> rfl
theorem Afq {P:Nat} (hp:OPr (P:Int)) {a:Int} (ha:a % (P:Int)≠0):∀ (n:Nat) (f:(Nat->Int)->Int),Ahn P f->SS P n (fun v=>f (Ac4 a v))=SS P n f
  | 0,f,hf=>congrArg f (by funext j;exact Int.mul_zero a)
  | n + 1,f,hf=>by
    show psum (fun x=>SS P n fun v=>f (Ac4 a (AD0 (x:Int) v))) P=psum (fun x=>SS P n fun v=>f (AD0 (x:Int) v)) P
    rw [ABt (g:=fun x:Nat=>SS P n fun v=>f (AD0 (a * (x:Int)) v)) (fun x _=>by
      rw [<- Afq hp ha n (fun v=>f (AD0 (a * (x:Int)) v)) (AQx hf _)]
      exact AMt fun v=>by rw [AWe])]
    exact AWv hp (g:=fun y=>SS P n fun v=>f (AD0 y v)) (fun y z h=>AMt fun v=>hf _ _ fun j=>by cases j with | zero=>exact h | succ j=>rfl) ha
def Lam (P:Nat):Nat->((Nat->Int)->Int)->Int
  | 0,_=>0
  | n + 1,f=>SS P n (fun v=>f (AD0 1 v)) + Lam P n fun v=>f (AD0 0 v)
theorem Ahr {P:Nat} (hp:OPr (P:Int)):∀ (n:Nat) (f:(Nat->Int)->Int),Ahn P f->(∀ a v,a % (P:Int)≠0->f (Ac4 a v)=f v)->SS P n f=f (fun _=>0) + ((P:Int) - 1) * Lam P n f
  | 0,f,_,_=>by show f _=f _ + ((P:Int) - 1) * 0;omega
  | n + 1,f,hf,hh=>by
    have h3:=hp.three
    show psum (fun x=>SS P n fun v=>f (AD0 (x:Int) v)) P=_
    obtain ⟨Q,rfl⟩:∃ Q,P=Q + 1:=⟨P - 1,by omega⟩
    rw [AJ5,ABt (g:=fun _:Nat=>SS (Q + 1) n fun v=>f (AD0 1 v)) (fun x hx=>by
      have hne:(((x + 1:Nat)):Int) % ((Q + 1:Nat):Int)≠0:=by rw [Int.emod_eq_of_lt (by omega) (by omega)];omega
      rw [<- Afq hp hne n (fun v=>f (AD0 (((x + 1:Nat)):Int) v)) (AQx hf _)]
      refine AMt fun v=>?_
      have:=hh (((x + 1:Nat)):Int) (AD0 1 v) hne
      rw [AWe,Int.mul_one] at this
      exact this),APc]
    have ih:=Ahr hp n (fun v=>f (AD0 ((0:Nat):Int) v)) (AQx hf _) (fun a v ha=>by
      have:=hh a (AD0 ((0:Nat):Int) v) ha
      rwa [AWe,show a * ((0:Nat):Int)=((0:Nat):Int) by simp] at this)
    rw [ih]
    have e0:AD0 ((0:Nat):Int) (fun _=>0)=fun _=>(0:Int):=by funext j;cases j <;> rfl
    rw [e0]
    show f _ + (((Q + 1:Nat):Int) - 1) * Lam (Q + 1) n (fun v=>f (AD0 0 v)) + _=f _ + (((Q + 1:Nat):Int) - 1) * (SS (Q + 1) n (fun v=>f (AD0 1 v)) + Lam (Q + 1) n fun v=>f (AD0 0 v))
    rw [Int.mul_add,show (((Q + 1:Nat):Int) - 1)=(Q:Int) by omega]
    omega
theorem Alo {α:Type} (n:Nat) (f:Nat->α):AD5 (n + 1) f=f 0 :: AD5 n fun c=>f (c + 1):=by
 unfold AD5;rw [List.range_succ_eq_map,List.map_cons,List.map_map];rfl
theorem AOt {n P x k:Nat} (hP:2<=P) (hx:x < P) (hk:k < P ^ n):AJs (n + 1) P (x * P ^ n + k)=(x:Int) :: AJs n P k:=by
 have hpos:0 < P ^ n:=Nat.pow_pos (by omega);unfold AJs;rw [Alo];congr 1
 ·show ((dg (n + 1) P (x * P ^ n + k) 0:Nat):Int)=_;unfold dg;rw [show n + 1 - 1 - 0=n by omega,Nat.mul_comm x,Nat.mul_add_div hpos,Nat.div_eq_of_lt hk,Nat.add_zero,Nat.mod_eq_of_lt hx]
 ·refine ACw fun c hc=>?_;unfold dg;rw [show n + 1 - 1 - (c + 1)=n - 1 - c by omega]
  have Aa:P ^ n=P ^ (n - 1 - c) * (P * P ^ c):=by
    conv=>lhs;rw [show n=n - 1 - c + 1 + c by omega]
    rw [Nat.pow_add,Nat.pow_succ,Nat.mul_assoc]
  have Ab:0 < P ^ (n - 1 - c):=Nat.pow_pos (by omega);have e:x * P ^ n + k=P ^ (n - 1 - c) * (P * (x * P ^ c)) + k:=by rw [Aa];congr 1;simp only [Nat.mul_left_comm,Nat.mul_comm,Nat.mul_assoc]
  rw [e,Nat.mul_add_div Ab,Nat.mul_add_mod]
theorem Ac5 (x:Int) (V:List Int):vF (x :: V)=AD0 x (vF V):=by
 funext j;cases j <;> rfl
theorem Avt:vF []=fun _=>0:=by funext j;rfl
theorem Aba (f:Nat->Int) (a:Nat):∀ b,psum f (a + b)=psum f a + psum (fun i=>f (a + i)) b
  | 0=>by show psum f a=psum f a + 0;omega
  | b + 1=>by
    show psum f (a + b) + f (a + b)=psum f a + (psum (fun i=>f (a + i)) b + f (a + b))
    rw [Aba f a b];omega
theorem AUg (f:Nat->Int) (m:Nat):∀ k,psum f (k * m)=psum (fun x=>psum (fun i=>f (x * m + i)) m) k
  | 0=>by rw [Nat.zero_mul];rfl
  | k + 1=>by
    rw [Nat.succ_mul,Aba,AUg f m k];rfl
theorem Afr {P:Nat} (hP:2<=P):∀ (n:Nat) (f:(Nat->Int)->Int),psum (fun k=>f (vF (AJs n P k))) (P ^ n)=SS P n f
  | 0,f=>by
    show 0 + f (vF [])=f _
    rw [Avt,Int.zero_add]
  | n + 1,f=>by
    rw [Nat.pow_succ,Nat.mul_comm,AUg]
    refine ABt fun x hx=>?_
    rw [<- Afr hP n]
    exact ABt fun k hk=>by rw [AOt hP hx hk,Ac5]
theorem Abb {P:Nat} (hP:2<=P):∀ (n:Nat) (f:(Nat->Int)->Int),psum (fun k=>if ALs (AJs n P k)=1 then f (vF (AJs n P k)) else 0) (P ^ n)=Lam P n f
  | 0,f=>by
    show 0 + (if ALs []=1 then f (vF []) else 0)=0
    rw [if_neg (by decide)];rfl
  | n + 1,f=>by
    rw [Nat.pow_succ,Nat.mul_comm,AUg,AYu (r:=0) (s:=1) (by omega) (by omega) (by omega) (fun x hx h0 h1=>by
      rw [ABt (g:=fun _=>(0:Int)) (fun k hk=>by
        rw [AOt hP hx hk]
        show (if (if (x:Int)=0 then _ else (x:Int))=1 then _ else (0:Int))=0
        rw [if_neg (show ¬ (x:Int)=0 by omega),if_neg (show ¬ (x:Int)=1 by omega)]),AJo])]
    show _=SS P n (fun v=>f (AD0 1 v)) + Lam P n fun v=>f (AD0 0 v)
    rw [<- Afr hP,<- Abb hP,Int.add_comm]
    congr 1
    · exact ABt fun k hk=>by
        rw [AOt hP (by omega) hk,Ac5]
        exact if_pos rfl
    · exact ABt fun k hk=>by
        rw [AOt hP (by omega) hk,Ac5]
        rfl
theorem AWw {α:Type} (p:α->Bool) (g:Nat->α):∀ N,((((List.range N).map g).filter p).length:Int)=psum (fun k=>if p (g k)=true then 1 else 0) N
  | 0=>rfl
  | N + 1=>by
    rw [List.range_succ,List.map_append,List.filter_append,List.length_append,Int.natCast_add,AWw p g N]
    show _ + _=psum _ N + _
    congr 1
    by_cases h:p (g N)=true
    · simp [h]
    · simp [h]
def zF (P n:Nat) (A:Nat->Nat->Int) (v:Nat->Int):Int:=if Qf n A v % (P:Int)=0 then 1 else 0
theorem Ajy {P n:Nat} {A:Nat->Nat->Int} (hp:OPr (P:Int)) (a:Int) (v:Nat->Int) (ha:a % (P:Int)≠0):zF P n A (Ac4 a v)=zF P n A v:=by
 have e:Qf n A (Ac4 a v)=a * a * Qf n A v:=by
   unfold Qf
   rw [<- ADa]
   refine ABt fun i _=>?_
   have:nqI n A (Ac4 a v) i=a * nqI n A v i:=by
     unfold nqI
     rw [<- ADa]
     exact ABt fun j _=>by show A i j * (a * v j)=_;rw [Int.mul_left_comm]
   rw [this]
   show a * nqI n A v i * (a * v i)=_
   grind
 unfold zF
 have hiff:(Qf n A (Ac4 a v) % (P:Int)=0)↔Qf n A v % (P:Int)=0:=by
   rw [e]
   constructor
   · intro h
     refine Classical.byContradiction fun hh=>AWs hp (AWs hp ha ha) hh h
   · intro h
     rw [Int.mul_emod,h,Int.mul_zero,Int.zero_emod]
 by_cases h:Qf n A v % (P:Int)=0
 ·rw [if_pos h,if_pos (hiff.2 h)]
 ·rw [if_neg h,if_neg (fun hh=>h (hiff.1 hh))]
theorem Aw4 (P n:Nat) (A:Nat->Nat->Int):SS P n (zF P n A)=Zc' P n A 0:=AMt fun v=>by unfold zF;rw [Int.sub_zero]
theorem Ap4 (P n:Nat) (A:Nat->Nat->Int):Ahn P (zF P n A):=fun v w h=>by
  have:Eqm (P:Int) (Qf n A v) (Qf n A w):=Apw (fun _ _ _ _=>Eqm.refl _ _) h
  have this:Qf n A v % (P:Int)=Qf n A w % (P:Int):=this
  unfold zF;simp only [this]
theorem Ajz (P n:Nat) (A:Nat->Nat->Int):zF P n A (fun _=>0)=1:=by
 unfold zF;have:Qf n A (fun _=>0)=0:=by unfold Qf;rw [ABt (g:=fun _=>(0:Int)) (fun i _=>by simp),AJo]
 rw [this,if_pos (by simp)]
def NL (P n:Nat) (A:Nat->Nat->Int):Int:=Lam P n (zF P n A)
theorem Avu {P:Nat} (hp:OPr (P:Int)) (h1:E1 P) (h2:E2 P) {n m:Nat} {A:Nat->Nat->Int} (hA:∀ a b,a < n->b < n->A a b=A b a) (hd:det n A % (P:Int)≠0) (hn:n=2 * m + 1):((P:Int) - 1) * NL P n A=(P:Int) ^ (2 * m) - 1:=by
 have h:=(AZn hp h1 h2 n A hA hd).2 m hn 0;have h4:=Ahr hp n (zF P n A) (Ap4 P n A) (fun a v=>Ajy hp a v);rw [Aw4,h,Ajz,Int.mul_zero,AKw hp (Int.zero_emod _),Int.mul_zero] at h4;unfold NL;omega
theorem As3 {P:Nat} (hp:OPr (P:Int)) (h1:E1 P) (h2:E2 P) {n m:Nat} {A:Nat->Nat->Int} (hA:∀ a b,a < n->b < n->A a b=A b a) (hd:det n A % (P:Int)≠0) (hn:n=2 * (m + 1)):((P:Int) - 1) * NL P n A=((P:Int) ^ (m + 1) - lg P ((-1) ^ (m + 1) * det n A)) * ((P:Int) ^ m + lg P ((-1) ^ (m + 1) * det n A)):=by
 have h3:=hp.three;have h:=(AZn hp h1 h2 n A hA hd).1 (m + 1) hn 0;have h4:=Ahr hp n (zF P n A) (Ap4 P n A) (fun a v=>Ajy hp a v);rw [Aw4,Ajz] at h4
 have hne:(-1:Int) ^ (m + 1) * det n A % (P:Int)≠0:=by
   refine AWs hp ?_ hd
   have hpm:∀ k:Nat,(-1:Int) ^ k=1∨(-1:Int) ^ k= -1:=by
     intro k
     induction k with
     | zero=>left;rfl
     | succ k ih=>rcases ih with h | h <;> rw [Int.pow_succ,h] <;> simp
   rcases hpm (m + 1) with h | h <;> rw [h]
   · rw [Int.emod_eq_of_lt (by omega) (by omega)];decide
   · rw [show (-1:Int)=(P - 1) + P * (-1) by omega,Int.add_mul_emod_self_left,Int.emod_eq_of_lt (by omega) (by omega)];omega
 have hI:Ind P 0=1:=by unfold Ind;simp
 rw [hI,h4] at h;unfold NL
 have hsq:lg P ((-1) ^ (m + 1) * det n A) * lg P ((-1) ^ (m + 1) * det n A)=1:=by
   rcases AWr hp hne with h | h <;> rw [h] <;> rfl
 generalize lg P ((-1) ^ (m + 1) * det n A)=χ at h hsq ⊢;generalize Lam P n (zF P n A)=L at h ⊢;refine Int.eq_of_mul_eq_mul_left (a:=(P:Int)) (by omega) ?_
 have e2:(P:Int) ^ (2 * (m + 1))=(P:Int) ^ m * P * ((P:Int) ^ m * P):=by
   rw [show 2 * (m + 1)=(m + 1) + (m + 1) by omega,Int.pow_add,Int.pow_succ]
 rw [e2,Int.pow_succ] at h;rw [Int.pow_succ];generalize (P:Int) ^ m=Y at h ⊢;have e3:(P:Int) * ((Y * P - χ) * (Y + χ))=Y * P * (Y * P) + χ * (Y * P) * P - χ * (Y * P) - P * (χ * χ):=by grind
 rw [e3,hsq];have e4:(P:Int) * (1 + ((P:Int) - 1) * L)=P + P * (((P:Int) - 1) * L):=by rw [Int.mul_add];omega
 rw [e4] at h;have e5:χ * (Y * (P:Int)) * (P * 1 - 1)=χ * (Y * P) * P - χ * (Y * P):=by grind
 rw [e5] at h;omega
end Go.Proofs.YtiegjkmfpcgjjaaGreatDoor
namespace Go.Proofs.YtiegjkmfpcgjjaaGreatDoor
open Go Go.QF
set_option maxRecDepth 100000
def Ap5 (fuel:Nat) (a3:List (List Int)) (a5:Int):Option (Int × Int):=(if (Int.tmod (a3.length:Int) 2)=1 then ((AGy fuel a5 (w64 (2 * (w64 (Int.tdiv (a3.length:Int) 2))))).bind fun x18=>(if (w64 (a5 - 1))≠0 then (some ((w64 (Int.tdiv (w64 (x18 - 1)) (w64 (a5 - 1)))),0)) else none)) else ((AGx fuel a3 a5).bind fun (x26,x27)=>(((if (Int.tmod (w64 (Int.tdiv (a3.length:Int) 2)) 2)=1 then (some ( (w64 (0 - x26)))) else (some ( x26))):Option ((Int))).bind (fun (e40:Int)=>((AF3 fuel e40 a5).bind fun (x41,x42)=>((AGy fuel a5 (w64 (Int.tdiv (a3.length:Int) 2))).bind fun x49=>((AGy fuel a5 (w64 ((w64 (Int.tdiv (a3.length:Int) 2)) - 1))).bind fun x56=>(if (w64 (a5 - 1))≠0 then (some ((w64 (Int.tdiv (w64 ((w64 (x49 - x41)) * (w64 (x56 + x41)))) (w64 (a5 - 1)))),0)) else none))))))))
theorem Ahs (fuel:Nat) (M:List (List Int)) (p:Int):AG2 fuel M p=(AGq fuel M p).bind fun x=>if ¬ x=0 then some (0,x) else Ap5 fuel M p:=rfl
theorem Aj0 {s:Int} (h:s=1∨s= -1):w64 (0 - s)= -s/\(-s=1∨ -s= -1):=by rcases h with rfl | rfl <;> decide
theorem Ap6 {fuel:Nat} {a n T:Int} (hT:AY4 T 1 a n) (ha:0<=a) (Am:a<=2147483647) (Ao:n<=2147483647) (hf:2147483648 < fuel):AK7 fuel a n=some T:=by
 apply ok_eq;unfold AK7;have Az:=Aex hT;refine ABn (Q:=fun e:Int × Int=>T=if e.1=1 then e.2 else 0) (AZd (fun s:Int × Int × Int=>AY4 T s.2.2 s.1 s.2.1/\0<=s.1/\s.1<=2147483647/\s.2.1<=2147483647/\(s.2.2=1∨s.2.2= -1)) (fun s=>s.1.toNat) (fun s hI=>?_) ⟨hT,ha,Am,Ao,.inl rfl⟩ (by show a.toNat < fuel;omega)) fun e he=>?_
 ·obtain ⟨a,n,s⟩:=s;obtain ⟨h1,h2,h3,h4,h5⟩:=hI;have hn:=Aex h1;unfold AMr;dsimp only at h1 h2 h3 h4 h5 hn ⊢;refine ACf (fun h0=>?_) fun h0=>ABi ?_
  ·refine ABn (Q:=fun e:Int × Int=>AY4 T e.2 e.1 n/\0 < e.1/\e.1<=a/\e.1 % 2=1/\(e.2=1∨e.2= -1)) (AZd (fun s:Int × Int=>AY4 T s.2 s.1 n/\0 < s.1/\s.1<=a/\(s.2=1∨s.2= -1)) (fun s=>s.1.toNat) (fun s hI=>?_) ⟨h1,by omega,Int.le_refl _,h5⟩ (by show a.toNat < fuel;omega)) fun e he=>?_
   ·obtain ⟨b,t⟩:=s;obtain ⟨g1,g2,g3,g4⟩:=hI;dsimp only at g1 g2 g3 g4;unfold AMq;have Au:Int.tmod b 2=b % 2:=Int.tmod_eq_emod_of_nonneg (by omega);have Av:Int.tmod n 8=n % 8:=Int.tmod_eq_emod_of_nonneg (by omega);have Aw:w64 (Int.tdiv b 2)=b / 2:=by rw [Int.tdiv_eq_ediv_of_nonneg (by omega),wk (by omega)]
    obtain ⟨hw,hpm⟩:=Aj0 g4;rw [Au,Av,Aw,hw];refine ACf (fun q1=>?_) fun q1=>ABi ⟨g1,g2,g3,by dsimp only;omega,g4⟩;have hh:=Ak2 g1 q1;refine ACf (fun q2=>ABi ?_) fun q2=>ACf (fun q3=>ABi ?_) fun q3=>ABi ?_
    ·rw [if_pos (.inl q2)] at hh;exact ⟨⟨hh,by dsimp only;omega,by dsimp only;omega,hpm⟩,by dsimp only;omega⟩
    ·rw [if_pos (.inr q3)] at hh;exact ⟨⟨hh,by dsimp only;omega,by dsimp only;omega,hpm⟩,by dsimp only;omega⟩
    ·rw [if_neg (by omega)] at hh;exact ⟨⟨hh,by dsimp only;omega,by dsimp only;omega,g4⟩,by dsimp only;omega⟩
   ·obtain ⟨b,t⟩:=e;obtain ⟨g1,g2,g3,g4,g5⟩:=he;dsimp only at g1 g2 g3 g4 g5 ⊢;have Ax:Int.tmod b 4=b % 4:=Int.tmod_eq_emod_of_nonneg (by omega);have Ay:Int.tmod n 4=n % 4:=Int.tmod_eq_emod_of_nonneg (by omega);have hnb:Int.tmod n b=n % b:=Int.tmod_eq_emod_of_nonneg (by omega);obtain ⟨hw,hpm⟩:=Aj0 g5;rw [Ax,Ay,hnb,hw];have hs:=Ak3 g1 g2 g4;refine ABn (Q:=fun e=>e=if b % 4=3/\n % 4=3 then -t else t) (ACf (fun q1=>ACf (fun q2=>ABi (by rw [if_pos ⟨q1,q2⟩])) fun q2=>ABi (by rw [if_neg (fun hh=>q2 hh.2)])) fun q1=>ABi (by rw [if_neg (fun hh=>q1 hh.1)])) fun e he=>?_;rw [<- he] at hs;have hr:=Int.emod_nonneg n (show b≠0 by omega);have A3:=Int.emod_lt_of_pos n g2;refine AEk (by omega) (ABi ⟨⟨hs,hr,by dsimp only;omega,by dsimp only;omega,?_⟩,by dsimp only;omega⟩);dsimp only;rw [he];split
    ·exact hpm
    ·exact g5
  ·have h0:a=0:=by omega
   subst h0;exact Aoi h1
 ·obtain ⟨n,s⟩:=e;dsimp only at he ⊢;refine ACf (fun h=>ABi ?_) fun h=>ABi ?_
  ·rw [he,if_neg h]
  ·rw [he,if_pos (by omega)]
theorem Ap7 {fuel:Nat} {a p:Int} (hp:OPr p) (Aa:p<=2147483647) (ha: -2147483647<=a) (Ab:a<=2147483647) (hf:2147483648 < fuel):AF3 fuel a p=some (lg p a,0):=by
 have h3:=hp.three;have h2:=hp.2;unfold AF3;rw [if_neg (by omega),if_neg (by omega),if_neg (by omega),if_neg (by omega)];simp only [Option.bind_some];rw [if_neg (show ¬ p=0 by omega),if_neg (show ¬ p < 0 by omega)];simp only [Option.bind_some]
 have hit:iter (fun s:Int × Int=>AI2 fuel a s.1 s.2) fuel (p,1)=some (Sum.inr (p,1)):=by
   apply ok_eq
   refine ACz (fun i s=>s=(p,1)/\i=0) 0 ⟨rfl,rfl⟩ (by omega) fun i s hi hI=>?_
   obtain ⟨rfl,rfl⟩:=hI
   unfold AI2
   rw [Int.tmod_eq_emod_of_nonneg (a:=p) (by omega)]
   exact ACf (fun h=>by have h:p % 2=0:=h;omega) fun h=>ABi rfl
 rw [hit];simp only [Option.bind_some]
 have hres:AIv fuel a p=some (a % p):=by
   unfold AIv
   rw [if_pos (by omega),if_pos (by omega)]
   rw [Aa8 (by omega) (by omega)]
 rw [hres];simp only [Option.bind_some];have hr:=Int.emod_nonneg a (show p≠0 by omega);have Ae:=Int.emod_lt_of_pos a (show 0 < p by omega);rw [Ap6 (Ag8 hp) hr (by omega) Aa hf,Acj hp];simp only [Option.bind_some];congr 2;unfold lg;split
 ·decide
 ·split <;> decide
theorem Ac6 {fuel k:Nat} {p:Int} (hp:1<=p) (Aa:p ^ k<=9223372036854775807) (hk:k<=100) (hf:100 < fuel):AGy fuel p (k:Int)=some (p ^ k):=by
 apply ok_eq;unfold AGy;refine ABn (Q:=fun e=>e=p ^ k) (ACz (fun i s=>s=(p ^ i,(i:Int))/\i<=k) k ⟨by simp,Nat.zero_le _⟩ (by omega) fun i s hi hI=>?_) fun e he=>ABi he;obtain ⟨rfl,h2⟩:=hI;unfold AN2;refine ACf (fun h=>?_) fun h=>ABi ?_
 ·have h:(i:Int) < k:=h;have hs:p ^ i * p=p ^ (i + 1):=(Int.pow_succ p i).symm;have:=ARu hp (show i + 1<=k by omega);have hpos:0 < p ^ (i + 1):=Int.pow_pos (by omega);refine ABi ⟨by omega,?_,by omega⟩;show (w64 (p ^ i * p),w64 ((i:Int) + 1))=_;rw [AId (by omega),hs,wk (by omega)]
 ·have h: ¬ (i:Int) < k:=h;obtain rfl:i=k:=by omega
  rfl
theorem Avv {P:Nat} (hp:OPr (P:Int)) (h:P<=256):P∈AXo:=by
 have h3:=hp.three;have hall:(List.range 257).all (fun q=>q < 3 || AXo.contains q || (List.range q).any fun c=>decide (2<=c) && q % c == 0)=true:=by decide +kernel
 have:=List.all_eq_true.1 hall P (List.mem_range.2 (by omega));rw [Bool.or_eq_true,Bool.or_eq_true] at this;rcases this with (h1 | h1) | h1
 ·have:=of_decide_eq_true h1;omega
 ·exact List.contains_iff_mem.1 h1
 ·rw [List.any_eq_true] at h1;obtain ⟨c,hc,hcc⟩:=h1;rw [Bool.and_eq_true] at hcc;have Ac:=List.mem_range.1 hc;have Ad:=of_decide_eq_true hcc.1;have Ae:=eq_of_beq hcc.2;exact absurd (by omega:(P:Int) % (c:Int)=0) (hp.1.2 c (by omega) (by omega))
theorem E12 {P:Nat} (hp:OPr (P:Int)) (h:P<=256):E1 P/\E2 P:=by
 have hm:=Avv hp h;have h1:=List.all_eq_true.1 Apz P hm;have h2:=List.all_eq_true.1 Ap2 P hm;exact ⟨Aw2 hp h1,Aw3 hp h1 h2⟩
theorem Afs (k:Nat):(-1:Int) ^ k=if k % 2=1 then -1 else 1:=by
 induction k with
 | zero=>rfl
 | succ k ih=>
   rw [Int.pow_succ,ih]
   by_cases h:k % 2=1
   · rw [if_pos h,if_neg (by omega)];rfl
   · rw [if_neg h,if_pos (by omega)];rfl
theorem As4 {p:Int} (h:2 < p) (hp:Pr p):OPr p:=⟨hp,by have:=hp.2 2 (by decide) (by omega);omega⟩
theorem Avw {P:Nat} {A:Nat->Nat->Int} (hd:A 0 0 % (P:Int)≠0):NL P 1 A=0:=by
 show SS P 0 (fun v=>zF P 1 A (AD0 1 v)) + 0=0;show zF P 1 A (AD0 1 fun _=>0) + 0=0;unfold zF;have:Qf 1 A (AD0 1 fun _=>0)=A 0 0:=by simp [Qf,nqI,psum,AD0]
 rw [this,if_neg hd];rfl
theorem As5 {fuel:Nat} {M:List (List Int)} {P:Nat} (R:AWa M) (ho:AOn (P:Int)=true) (hd:det M.length (ent M) % (P:Int)≠0) (hq:P ^ M.length<=65536) (hf:2147483648 < fuel):Ap5 fuel M (P:Int)=some (NL P M.length (ent M),0):=by
 have hb:=AVe ho;have hpo:=Ack ho;have hp:=As4 hpo.1 hpo.2.2;have h8:=R.1.2;have h1n:=R.1.1;have hA:∀ a b,a < M.length->b < M.length->ent M a b=ent M b a:=R.2.2.sym;have hMt:=AVb R
 have hdet:AGx fuel M (P:Int)=some (det M.length (ent M) % (P:Int),0):=by
   conv=>lhs;rw [hMt]
   exact Apj h1n h8 (by omega) (by omega) hf
 unfold Ap5;rw [hdet];generalize M.length=n at *;have Ag:Int.tmod (n:Int) 2=(n:Int) % 2:=Int.tmod_eq_emod_of_nonneg (by omega);have Ah:w64 (Int.tdiv (n:Int) 2)=((n / 2:Nat):Int):=by rw [Int.tdiv_eq_ediv_of_nonneg (by omega),wk (by omega)];omega
 have Ai:w64 ((P:Int) - 1)=(P:Int) - 1:=wk (by omega);rw [Ag,Ah,Ai]
 have hqi:∀ k,k<=n->(P:Int) ^ k<=65536:=fun k hk=>by
   have h1:=Nat.pow_le_pow_right (show 0 < P by omega) hk
   have:((P ^ k:Nat):Int)<=65536:=by omega
   rwa [Int.natCast_pow] at this
 have Ab:∀ k:Nat,0 < (P:Int) ^ k:=fun k=>Int.pow_pos (by omega)
 have Ae:2<=n->P<=256:=fun h2=>by
   have h1:=Nat.pow_le_pow_right (show 0 < P by omega) h2
   refine Classical.byContradiction fun hh=>?_
   have h5:257 * 257<=P * P:=Nat.mul_le_mul (by omega) (by omega)
   rw [Nat.pow_two] at h1
   omega
 by_cases hpar:(n:Int) % 2=1
 ·rw [if_pos hpar];have Ak:w64 (2 * ((n / 2:Nat):Int))=((2 * (n / 2):Nat):Int):=by rw [wk (by omega)];omega
  rw [Ak,Ac6 (by omega) (by have:=hqi (2 * (n / 2)) (by omega);omega) (by omega) (by omega)];simp only [Option.bind_some];rw [if_pos (by omega)];have h1:=hqi (2 * (n / 2)) (by omega);have h0:=Ab (2 * (n / 2))
  have hNL:((P:Int) - 1) * NL P n (ent M)=(P:Int) ^ (2 * (n / 2)) - 1:=by
    by_cases Am:n=1
    · subst Am
      have:det 1 (ent M)=ent M 0 0:=by simp [det,psum,sg]
      rw [this] at hd
      rw [Avw hd];simp
    · obtain ⟨e1,e2⟩:=E12 hp (Ae (by omega))
      exact Avu hp e1 e2 hA hd (by omega)
  rw [AFa (x:=(P:Int) ^ (2 * (n / 2)) - 1) (by omega) (by omega),<- hNL,Int.mul_tdiv_cancel_left _ (by omega)]
  have hle:0<=NL P n (ent M)/\NL P n (ent M)<=65536:=by
    constructor
    · refine Classical.byContradiction fun hh=>?_
      have:((P:Int) - 1) * NL P n (ent M) < 0:=Int.mul_neg_of_pos_of_neg (by omega) (by omega)
      omega
    · refine Classical.byContradiction fun hh=>?_
      have:1 * NL P n (ent M)<=((P:Int) - 1) * NL P n (ent M):=Int.mul_le_mul_of_nonneg_right (by omega) (by omega)
      omega
  rw [wk (by omega)]
 ·rw [if_neg hpar];simp only [Option.bind_some];obtain ⟨m,rfl⟩:∃ m,n=2 * (m + 1):=⟨n / 2 - 1,by omega⟩;have hdv:2 * (m + 1) / 2=m + 1:=by omega
  rw [hdv];obtain ⟨e1,e2⟩:=E12 hp (Ae (by omega));have hNL:=As3 hp e1 e2 hA hd rfl;have hr:=Int.emod_nonneg (det (2 * (m + 1)) (ent M)) (show (P:Int)≠0 by omega);have Au:=Int.emod_lt_of_pos (det (2 * (m + 1)) (ent M)) (show (0:Int) < P by omega);have Ao:Int.tmod (((m + 1:Nat)):Int) 2=((m + 1:Nat):Int) % 2:=Int.tmod_eq_emod_of_nonneg (by omega)
  have hk:∀ e:Int,(if Int.tmod (((m + 1:Nat)):Int) 2=1 then (some (w64 (0 - det (2 * (m + 1)) (ent M) % (P:Int)))) else some (det (2 * (m + 1)) (ent M) % (P:Int)))=some e->AF3 fuel e (P:Int)=some (lg P ((-1) ^ (m + 1) * det (2 * (m + 1)) (ent M)),0):=fun e he=>by
    rw [Ao,Afs] at *
    by_cases h:(m + 1) % 2=1
    · rw [if_pos (by omega)] at he
      rw [if_pos h]
      have he:=Option.some.inj he
      rw [wk (by omega)] at he
      subst he
      rw [Ap7 hp (by omega) (by omega) (by omega) hf]
      congr 2
      refine AJp hp ?_
      have:=(Eqm.refl (P:Int) 0).sub (Eqm.mod (P:Int) (det (2 * (m + 1)) (ent M)))
      refine this.trans (Eqm.of_eq (by omega))
    · rw [if_neg (by omega)] at he
      rw [if_neg h]
      have he:=Option.some.inj he
      subst he
      rw [Ap7 hp (by omega) (by omega) (by omega) hf,Acj hp,Int.one_mul]
  obtain ⟨e,he⟩:∃ e:Int,(if Int.tmod (((m + 1:Nat)):Int) 2=1 then (some (w64 (0 - det (2 * (m + 1)) (ent M) % (P:Int)))) else some (det (2 * (m + 1)) (ent M) % (P:Int)))=some e:=by
    by_cases h:Int.tmod (((m + 1:Nat)):Int) 2=1
    · exact ⟨_,if_pos h⟩
    · exact ⟨_,if_neg h⟩
  rw [he];simp only [Option.bind_some];rw [hk e he];simp only [Option.bind_some];have Ap:w64 (((m + 1:Nat):Int) - 1)=(m:Int):=by rw [wk (by omega)];omega
  rw [Ap,Ac6 (by omega) (by have:=hqi (m + 1) (by omega);omega) (by omega) (by omega)];simp only [Option.bind_some];rw [Ac6 (by omega) (by have:=hqi m (by omega);omega) (by omega) (by omega)];simp only [Option.bind_some];rw [if_pos (by omega)]
  have hl: -1<=lg P ((-1) ^ (m + 1) * det (2 * (m + 1)) (ent M))/\lg P ((-1) ^ (m + 1) * det (2 * (m + 1)) (ent M))<=1:=by
    unfold lg
    split
    · omega
    · split <;> omega
  generalize lg P ((-1) ^ (m + 1) * det (2 * (m + 1)) (ent M))=χ at hl hNL;have g1:=hqi (m + 1) (by omega);have g2:=hqi m (by omega);have g3:=Ab (m + 1);have g4:=Ab m
  have hprod:0<=((P:Int) ^ (m + 1) - χ) * ((P:Int) ^ m + χ)/\((P:Int) ^ (m + 1) - χ) * ((P:Int) ^ m + χ)<=65537 * 65537:=by
    constructor
    · exact Int.mul_nonneg (by omega) (by omega)
    · exact Int.mul_le_mul (by omega) (by omega) (by omega) (by omega)
  rw [AFa (x:=(P:Int) ^ (m + 1) - χ) (by omega) (by omega),AFa (x:=(P:Int) ^ m + χ) (by omega) (by omega),AFa (x:=((P:Int) ^ (m + 1) - χ) * ((P:Int) ^ m + χ)) (by omega) (by omega),<- hNL,Int.mul_tdiv_cancel_left _ (by omega)]
  have hle:0<=NL P (2 * (m + 1)) (ent M)/\NL P (2 * (m + 1)) (ent M)<=65537 * 65537:=by
    constructor
    · refine Classical.byContradiction fun hh=>?_
      have:((P:Int) - 1) * NL P (2 * (m + 1)) (ent M) < 0:=Int.mul_neg_of_pos_of_neg (by omega) (by omega)
      omega
    · refine Classical.byContradiction fun hh=>?_
      have:1 * NL P (2 * (m + 1)) (ent M)<=((P:Int) - 1) * NL P (2 * (m + 1)) (ent M):=Int.mul_le_mul_of_nonneg_right (by omega) (by omega)
      omega
  rw [wk (by omega)]
noncomputable def APd (M:List (List Int)) (P:Nat):List (List Int):=((List.range (P ^ M.length)).map (AJs M.length P)).filter (AVf M P)
theorem Aj1 {n P i:Nat} (hP:2<=P):InR (P:Int) (AJs n P i):=fun x hx=>by
  obtain ⟨c,_,rfl⟩:=List.mem_map.1 hx
  have:=Atz (n:=n) (i:=i) (c:=c) hP
  omega
theorem Alp {M:List (List Int)} {P:Nat} (hP:2<=P):((APd M P).length:Int)=NL P M.length (ent M):=by
 unfold APd NL;rw [AWw,<- Abb hP];refine ABt fun k _=>?_
 have hiff:(AVf M P (AJs M.length P k)=true)↔ALs (AJs M.length P k)=1/\Qf M.length (ent M) (vF (AJs M.length P k)) % (P:Int)=0:=by
   constructor
   · intro h
     have:=Ajr h
     exact ⟨this.2.2.1,this.2.2.2⟩
   · rintro ⟨h1,h2⟩
     exact (Ac1 ⟨ADj ..,Aj1 hP,h1,h2⟩).symm
 unfold zF;by_cases h:ALs (AJs M.length P k)=1
 ·by_cases h2:Qf M.length (ent M) (vF (AJs M.length P k)) % (P:Int)=0
  ·rw [if_pos (hiff.2 ⟨h,h2⟩),if_pos h,if_pos h2]
  ·rw [if_neg (fun hh=>h2 (hiff.1 hh).2),if_pos h,if_neg h2]
 ·rw [if_neg (fun hh=>h (hiff.1 hh).1),if_neg h]
theorem AWf {P:Nat} (hP:2<=P):∀ {n k e:Nat},e < n->P ^ e<=k->k < P ^ (e + 1)->ALs (AJs n P k)=((k / P ^ e:Nat):Int)
  | 0,k,e,h,_,_=>absurd h (Nat.not_lt_zero _)
  | n + 1,k,e,h,h1,h2=>by
    have hpos:0 < P ^ n:=Nat.pow_pos (by omega);have hle:P ^ (e + 1)<=P ^ (n + 1):=Nat.pow_le_pow_right (by omega) (by omega);have hk:k=k / P ^ n * P ^ n + k % P ^ n:=by rw [Nat.mul_comm];exact (Nat.div_add_mod k (P ^ n)).symm
    have hx:k / P ^ n < P:=by
      have e5:P ^ n * P=P ^ (n + 1):=rfl;exact Nat.div_lt_of_lt_mul (by rw [e5];exact Nat.lt_of_lt_of_le h2 hle)
    have hm:=Nat.mod_lt k hpos
    have e1:AJs (n + 1) P k=((k / P ^ n:Nat):Int) :: AJs n P (k % P ^ n):=by
      conv=>lhs;rw [hk]
      exact AOt hP hx hm
    rw [e1];show (if ((k / P ^ n:Nat):Int)=0 then ALs (AJs n P (k % P ^ n)) else ((k / P ^ n:Nat):Int))=_
    by_cases he:e=n
    · subst he;have:1<=k / P ^ e:=(Nat.le_div_iff_mul_le hpos).2 (by omega);rw [if_neg (by omega)]
    · have h3:P ^ (e + 1)<=P ^ n:=Nat.pow_le_pow_right (by omega) (by omega);have h4:k / P ^ n=0:=Nat.div_eq_of_lt (by omega);rw [h4,if_pos (show ((0:Nat):Int)=0 from rfl),Nat.mod_eq_of_lt (by omega)];exact AWf hP (by omega) h1 h2
theorem Aht (n P:Nat):ALs (AJs n P 0)=0:=by
 have h:∀ L:List Int,(∀ x∈L,x=0)->ALs L=0:=by
   intro L
   induction L with
   | nil=>intro _;rfl
   | cons y L ih=>intro hw;show (if y=0 then ALs L else y)=0;rw [if_pos (hw y (List.mem_cons_self ..))];exact ih fun x hx=>hw x (List.mem_cons_of_mem _ hx)
 refine h _ fun x hx=>?_;obtain ⟨c,_,rfl⟩:=List.mem_map.1 hx;rw [As2];rfl
theorem AZr {α:Type} (p:α->Bool) (g:Nat->α) (a:Nat):∀ d,(∀ k,a<=k->k < a + d->p (g k)=false)->((List.range (a + d)).map g).filter p=((List.range a).map g).filter p
  | 0,_=>rfl
  | d + 1,h=>by
    rw [show a + (d + 1)=a + d + 1 by omega,List.range_succ,List.map_append,List.filter_append,AZr p g a d (fun k h1 h2=>h k h1 (by omega))]
    have:=h (a + d) (by omega) (by omega)
    simp [this]
noncomputable def APe (M:List (List Int)) (P k:Nat):List (List Int):=((List.range k).map (AJs M.length P)).filter (AVf M P)
theorem AZs (M:List (List Int)) (P k:Nat):APe M P (k + 1)=APe M P k ++ (if AVf M P (AJs M.length P k)=true then [AJs M.length P k] else []):=by
 unfold APe;rw [List.range_succ,List.map_append,List.filter_append];congr 1;by_cases h:AVf M P (AJs M.length P k)=true
 ·simp [h]
 ·simp [h]
theorem Alq (M:List (List Int)) (P:Nat):APe M P 1=[]:=by
 have h:AVf M P (AJs M.length P 0)=false:=(AUe fun hh=>by have:=hh.2.2.1;rw [Aht] at this;cases this).symm;have:=AZs M P 0;rw [h] at this;rw [this];rfl
theorem Alr {M:List (List Int)} {P e:Nat} (hP:2<=P) (he:e < M.length):APe M P (P ^ (e + 1))=APe M P (2 * P ^ e):=by
 have hle:2 * P ^ e<=P ^ (e + 1):=by rw [Nat.pow_succ,Nat.mul_comm];exact Nat.mul_le_mul_left _ hP
 have hpos:0 < P ^ e:=Nat.pow_pos (by omega);unfold APe;rw [show P ^ (e + 1)=2 * P ^ e + (P ^ (e + 1) - 2 * P ^ e) by omega];refine AZr _ _ _ _ fun k h1 h2=>(AUe fun hh=>?_).symm;have h3:=hh.2.2.1;rw [AWf hP he (by omega) (by omega)] at h3;have:2<=k / P ^ e:=(Nat.le_div_iff_mul_le hpos).2 h1;omega
theorem Abc (M:List (List Int)) (P k:Nat):(APe M P k).length<=k:=by
 unfold APe;have:=List.length_filter_le (AVf M P) ((List.range k).map (AJs M.length P));rw [List.length_map,List.length_range] at this;exact this
theorem As6 {fuel:Nat} {M:List (List Int)} {P:Nat} (R:AWa M) (ho:AOn (P:Int)=true) (hd:det M.length (ent M) % (P:Int)≠0) (hq:P ^ M.length<=65536) (hf:2147483648 < fuel):AI5 fuel M (P:Int)=some (APd M P,0):=by
 have hb:=AVe ho;have h8:=R.1.2;have h1n:=R.1.1
 have hqi: ¬ 65536 < (P:Int) ^ M.length:=by
   have:((P ^ M.length:Nat):Int)<=65536:=by omega
   rw [Int.natCast_pow] at this;omega
 have hck:AR8 M (P:Int) true=0:=by
   unfold AR8
   rw [if_pos ((AQr M).2 R),if_pos ⟨ho,hd⟩,if_neg (fun hh=>hqi hh.2)]
 apply ok_eq;unfold AI5;rw [AXm hf,hck];simp only [Option.bind_some];rw [if_neg (by decide),Aps R (by omega) (by omega) (by omega)];simp only [Option.bind_some];refine ABn (Q:=fun e=>e=APd M P) (ABn (ACz (fun e s=>s=((M.length:Int) - 1 - e,APe M P (P ^ e))/\e<=M.length) M.length (Q:=fun e=>e=APd M P) ⟨?_,Nat.zero_le _⟩ (by omega) fun e s he hI=>?_) fun e he=>ABi he) fun e he=>ABi (by rw [he])
 ·rw [Nat.pow_zero,Alq,wk (by omega)];refine Prod.ext ?_ rfl;show (M.length:Int) - 1=(M.length:Int) - 1 - ((0:Nat):Int);omega
 ·obtain ⟨rfl,hen⟩:=hI;unfold AN8;dsimp only;refine ACf (fun h=>?_) fun h=>?_
  ·have Am:e < M.length:=by omega
   have hep:P ^ (e + 1)<=65536:=Nat.le_trans (Nat.pow_le_pow_right (by omega) (by omega)) hq;have hpos:0 < P ^ e:=Nat.pow_pos (by omega);have h2e:2 * P ^ e<=P ^ (e + 1):=by rw [Nat.pow_succ,Nat.mul_comm];exact Nat.mul_le_mul_left _ (by omega)
   refine AEk (by omega) ?_;have e3:List.replicate (Int.toNat (M.length:Int)) (0:Int)=AD5 M.length fun _=>0:=AHs M.length 0;rw [e3];refine AB5 (n:=M.length - 1 - e) (ACp (by omega)) (by omega) ?_
   have hst:sI (AD5 M.length fun _=>(0:Int)) ((M.length:Int) - 1 - (e:Int)) 1=AJs M.length P (P ^ e):=by
     rw [show (M.length:Int) - 1 - (e:Int)=((M.length - 1 - e:Nat):Int) by omega,ADv,AE6]
     refine ACw fun c hc=>?_
     unfold dg
     by_cases h1:c=M.length - 1 - e
     · rw [if_pos h1,show M.length - 1 - c=e by omega,Nat.div_self hpos,Nat.mod_eq_of_lt (by omega)];rfl
     · rw [if_neg h1]
       rcases Nat.lt_or_ge e (M.length - 1 - c) with h2 | h2
       · have:P ^ e < P ^ (M.length - 1 - c):=Nat.pow_lt_pow_right (by omega) h2
         rw [Nat.div_eq_of_lt this,Nat.zero_mod];rfl
       · obtain ⟨d,hdd⟩:∃ d,e=(M.length - 1 - c) + 1 + d:=⟨e - (M.length - 1 - c) - 1,by omega⟩
         have h4:P ^ e=P ^ (M.length - 1 - c) * (P * P ^ d):=by
           conv=>lhs;rw [hdd]
           rw [Nat.pow_add,Nat.pow_succ,Nat.mul_assoc]
         rw [h4,Nat.mul_div_cancel_left _ (Nat.pow_pos (by omega)),Nat.mul_mod_right];rfl
   rw [hst];refine ABn (Q:=fun r=>r=APe M P (P ^ (e + 1))) (ACz (fun j s=>s=(APe M P (P ^ e + j),AJs M.length P (P ^ e + j))/\j < P ^ e) (P ^ e) ⟨rfl,hpos⟩ (by omega) fun j s hj hI=>?_) fun r hr=>ABi ⟨by omega,?_,by omega⟩
   ·obtain ⟨rfl,hje⟩:=hI;unfold AN7;dsimp only;generalize hi:P ^ e + j=i;have Aq:P ^ e<=i:=by omega
    have Ar:i < 2 * P ^ e:=by omega
    have hl:(AJs M.length P i).length=M.length:=ADj ..;have hr:=Aj1 (n:=M.length) (i:=i) (show 2<=P by omega)
    have hlead:ALs (AJs M.length P i)=1:=by
      rw [AWf (by omega) Am Aq (by omega)]
      have:i / P ^ e=1:=Nat.div_eq_of_lt_le (by omega) (by omega)
      rw [this];rfl
    have hV:AJs M.length P i=AD5 M.length (vF (AJs M.length P i)):=by
      have:=(Ajq (AJs M.length P i)).symm
      rwa [hl] at this
    have hn:AI4 fuel (tab M.length M.length fun i j=>ent M i j % (P:Int)) (AJs M.length P i) (P:Int)=some (nq M.length (ent M) (vF (AJs M.length P i)) (P:Int)):=by
      conv=>lhs;rw [hV]
      exact Ajp h8 (by omega) (by omega) (fun c hc=>by have:=Atv hr (i:=c) (by omega);omega) (by omega)
    rw [hn];simp only [Option.bind_some];have hcar:=Abc M P i;refine ABn (Q:=fun r=>r=APe M P (i + 1)) ?_ fun r Ai=>?_
    ·rw [AZs];refine ACf (fun h0=>?_) fun h0=>ABi ?_
     ·unfold AJq;rw [if_pos (by omega)];simp only [Option.bind_some];rw [if_pos (by omega),<- Ac1 ⟨hl,hr,hlead,h0⟩];exact ABi rfl
     ·rw [<- AUe fun hh=>h0 hh.2.2.2];simp
    ·subst Ai;refine ABn (Q:=fun r:Int × List Int=> ∃ k:Nat,k<=e/\r.1=((M.length - 1 - k:Nat):Int)/\(∀ c,M.length - k<=c->c < M.length->dg M.length P i c=P - 1)/\(k=e∨dg M.length P i (M.length - 1 - k)≠P - 1)/\r.2=AD5 M.length fun c=>if M.length - k<=c then 0 else ((dg M.length P i c:Nat):Int)) (ABn (ACz (fun k s=>s=((M.length:Int) - 1 - k,AD5 M.length fun c=>if M.length - k<=c then 0 else ((dg M.length P i c:Nat):Int))/\k<=e/\ ∀ c,M.length - k<=c->c < M.length->dg M.length P i c=P - 1) e ⟨?_,Nat.zero_le _,fun c h1 h2=>by omega⟩ (by omega) fun k s hk hI=>?_) fun r hr=>ABi hr) fun r Ai=>?_
     ·refine Prod.ext ?_ (ACw fun c hc=>by rw [if_neg (by omega)]);show w64 ((M.length:Int) - 1)=(M.length:Int) - 1 - ((0:Nat):Int);rw [wk (by omega)];omega
     ·obtain ⟨rfl,hke,hall⟩:=hI;unfold AN6;dsimp only;refine ABn (Q:=fun ex=>(ex= .inl ()/\k < e/\dg M.length P i (M.length - 1 - k)=P - 1)∨(ex= .inr ()/\(k=e∨dg M.length P i (M.length - 1 - k)≠P - 1))) ?_ fun ex hex=>?_
      ·refine ACf (fun h=>?_) fun h=>ABi (.inr ⟨rfl,.inl (by omega)⟩);have Ae:M.length - 1 - k < M.length:=by omega
       refine AB5 (n:=M.length - 1 - k) (ACp Ae) (by omega) ?_;have e1:(if M.length - k<=M.length - 1 - k then (0:Int) else ((dg M.length P i (M.length - 1 - k):Nat):Int))=((dg M.length P i (M.length - 1 - k):Nat):Int):=if_neg (by omega);rw [e1,AFa (x:=(P:Int) - 1) (by omega) (by omega)];refine ACf (fun h3=>ABi (.inl ⟨rfl,by omega,by omega⟩)) fun h3=>ABi (.inr ⟨rfl,.inr fun h4=>h3 (by omega)⟩)
      ·rcases hex with ⟨rfl,h3,h4⟩ | ⟨rfl,h3⟩
       ·have Ae:M.length - 1 - k < M.length:=by omega
        dsimp only;refine AB5 (n:=M.length - 1 - k) (ACp Ae) (by omega) (ABi ⟨h3,?_,by omega,fun c h5 h6=>?_⟩)
        ·rw [show (M.length:Int) - 1 - (k:Int)=((M.length - 1 - k:Nat):Int) by omega,ADv,AE6];refine Prod.ext ?_ (ACw fun c hc=>?_)
         ·show w64 (((M.length - 1 - k:Nat):Int) - 1)=(M.length:Int) - 1 - ((k + 1:Nat):Int);rw [wk (by omega)];omega
         ·by_cases h7:c=M.length - 1 - k
          ·rw [if_pos h7,if_pos (by omega)]
          ·rw [if_neg h7];by_cases h8:M.length - k<=c
           ·rw [if_pos h8,if_pos (by omega)]
           ·rw [if_neg h8,if_neg (by omega)]
        ·rcases Nat.lt_or_ge c (M.length - k) with h7 | h7
         ·obtain rfl:c=M.length - 1 - k:=by omega
          exact h4
         ·exact hall c h7 h6
       ·exact ABi ⟨k,hke,by dsimp only;omega,hall,h3,rfl⟩
     ·obtain ⟨x,W⟩:=r;obtain ⟨k,hke,h3,hall,hne,h4⟩:=Ai;dsimp only at h3 h4 ⊢;subst h3;subst h4;have hlow:=AZq (n:=M.length) (P:=P) (i:=i) (j:=k) (by omega) (by omega) hall;refine ACf (fun h5=>ABi ?_) fun h5=>?_
      ·obtain rfl:k=e:=by omega
       have hm:i % P ^ k=i - P ^ k:=by
         conv=>lhs;rw [show i=P ^ k * 1 + (i - P ^ k) by omega]
         rw [Nat.mul_add_mod,Nat.mod_eq_of_lt (by omega)]
       show APe M P (i + 1)=APe M P (P ^ (k + 1));rw [Alr (by omega) Am,show i + 1=2 * P ^ k by omega]
      ·have Au:k < e:=by omega
       have hne:=hne.resolve_left (by omega);have Ae:M.length - 1 - k < M.length:=by omega
       refine AB5 (ACp Ae) rfl (ABi ?_);have e1:(if M.length - k<=M.length - 1 - k then (0:Int) else ((dg M.length P i (M.length - 1 - k):Nat):Int))=((dg M.length P i (M.length - 1 - k):Nat):Int):=if_neg (by omega);rw [e1];have hlt:=Atz (n:=M.length) (i:=i) (c:=M.length - 1 - k) (show 2<=P by omega);have hsd:=Afo (n:=M.length) (P:=P) (i:=i) (j:=k) (by omega) (by omega) hall hne
       have hsucc:AJs M.length P (i + 1)=sI (AD5 M.length fun c=>if M.length - k<=c then 0 else ((dg M.length P i c:Nat):Int)) ((M.length - 1 - k:Nat):Int) (w64 (((dg M.length P i (M.length - 1 - k):Nat):Int) + 1)):=by
         rw [wk (by omega),ADv,AE6]
         refine ACw fun c hc=>?_
         rw [hsd c hc]
         by_cases h7:c=M.length - 1 - k
         · subst h7
           rw [if_neg (by omega),if_pos rfl,if_pos rfl];rfl
         · rw [if_neg h7,if_neg h7]
           by_cases h8:M.length - k<=c
           · rw [if_pos h8,if_pos h8];rfl
           · rw [if_neg h8,if_neg h8]
       have hlast:i + 1 < 2 * P ^ e:=by
         refine Nat.lt_of_le_of_ne (by omega) fun hh=>?_
         have h6:=hsd (M.length - 1 - k) Ae
         rw [if_neg (by omega),if_pos rfl,hh] at h6
         unfold dg at h6
         rw [show M.length - 1 - (M.length - 1 - k)=k by omega] at h6
         obtain ⟨d,hdd⟩:∃ d,e=k + 1 + d:=⟨e - k - 1,by omega⟩
         have h7:2 * P ^ e=P ^ k * (P * (2 * P ^ d)):=by
           conv=>lhs;rw [hdd]
           rw [Nat.pow_add,Nat.pow_succ]
           simp only [Nat.mul_left_comm,Nat.mul_comm,Nat.mul_assoc]
         rw [h7,Nat.mul_div_cancel_left _ (Nat.pow_pos (by omega)),Nat.mul_mod_right] at h6
         omega
       exact ⟨hje,by rw [<- hsucc,show P ^ e + (j + 1)=i + 1 by omega],by omega⟩
   ·rw [hr];refine Prod.ext ?_ rfl;show w64 ((M.length:Int) - 1 - (e:Int) - 1)=(M.length:Int) - 1 - ((e + 1:Nat):Int);rw [wk (by omega)];omega
  ·obtain rfl:e=M.length:=by omega
   exact ABi rfl
end Go.Proofs.YtiegjkmfpcgjjaaGreatDoor
