/-
  Texts of a proof, joined. Conditions stand in each statement.
-/
import Derived.Test.YtmmckalinicpaaaGreatDoorMJordanPrecision2
set_option linter.unusedVariables false
set_option linter.unusedSimpArgs false
namespace Go.Proofs.YtmmckalinicpaaaGreatDoor
open Go Go.QF
set_option maxRecDepth 100000
theorem ANa {a b q r:Int} (hb:b≠0) (h:a=b * q + r) (h0:0<=r) (h1:r < b.natAbs):a / b=q/\a % b=r:=by
 have hr:r % b=r:=by
   rcases AW6 0 b with hp | hn
   · exact Int.emod_eq_of_lt h0 (by omega)
   · rw [<- Int.emod_neg];exact Int.emod_eq_of_lt h0 (by omega)
 have hm:a % b=r:=by rw [h,Int.add_comm,Int.add_mul_emod_self_left];exact hr
 refine ⟨?_,hm⟩;have h2:=Int.mul_ediv_add_emod a b;rw [hm] at h2;have h3:b * (a / b)=b * q:=by omega
 exact Int.eq_of_mul_eq_mul_left hb h3
theorem Apv {nb:Bool} {A B:Nat} (hB:B≠0):sgn nb (A / B)=(A:Int) / sgn nb B/\sgn false (A % B)=(A:Int) % sgn nb B:=by
 have h:=Nat.div_add_mod A B;have hl:=Nat.mod_lt A (Nat.pos_of_ne_zero hB);have h2:(A:Int)=(B:Int) * ((A / B:Nat):Int) + ((A % B:Nat):Int):=by rw [<- Int.natCast_mul,<- Int.natCast_add,h]
 have:=ANa (a:=A) (b:=sgn nb B) (q:=sgn nb (A / B)) (r:=((A % B:Nat):Int)) (by cases nb <;> simp [sgn] <;> omega) (by cases nb <;> simp only [sgn] <;> simp [Int.neg_mul_neg] <;> (rw [<- Int.natCast_ediv,<- Int.natCast_emod];exact h2)) (by omega) (by cases nb <;> simp only [sgn] <;> simp <;> omega);exact ⟨this.1.symm,this.2.symm⟩
theorem Ak2 {nb:Bool} {A B:Nat} (hB:B≠0) (hr:A % B≠0):sgn (!nb) (A / B + 1)= -(A:Int) / sgn nb B/\sgn false (B - A % B)= -(A:Int) % sgn nb B:=by
 have h:=Nat.div_add_mod A B;have hl:=Nat.mod_lt A (Nat.pos_of_ne_zero hB);have h2:(A:Int)=(B:Int) * ((A / B:Nat):Int) + ((A % B:Nat):Int):=by rw [<- Int.natCast_mul,<- Int.natCast_add,h]
 obtain ⟨q,hq⟩:∃ q,A / B=q:=⟨_,rfl⟩;obtain ⟨r,hrr⟩:∃ r,A % B=r:=⟨_,rfl⟩;rw [hq,hrr] at h2;rw [hrr] at hl hr;rw [hq,hrr];have e:((B - r:Nat):Int)=(B:Int) - (r:Int):=by omega
 have:=ANa (a:= -(A:Int)) (b:=sgn nb B) (q:=sgn (!nb) (q + 1)) (r:=((B - r:Nat):Int)) (by cases nb <;> simp [sgn] <;> omega) (by rw [h2,e];cases nb <;> simp [sgn] <;> grind) (by omega) (by cases nb <;> simp only [sgn] <;> simp <;> omega);exact ⟨this.1.symm,this.2.symm⟩
theorem Ak3 {nb:Bool} {A B:Nat} (hB:B≠0) (hr:A % B=0):sgn (!nb) (A / B)= -(A:Int) / sgn nb B/\sgn false (A % B)= -(A:Int) % sgn nb B:=by
 have h:=Nat.div_add_mod A B;have h2:(A:Int)=(B:Int) * ((A / B:Nat):Int):=by rw [<- Int.natCast_mul];omega
 obtain ⟨q,hq⟩:∃ q,A / B=q:=⟨_,rfl⟩;rw [hq] at h2;rw [hq,hr];have:=ANa (a:= -(A:Int)) (b:=sgn nb B) (q:=sgn (!nb) q) (r:=0) (by cases nb <;> simp [sgn] <;> omega) (by rw [h2];cases nb <;> simp [sgn] <;> grind) (by omega) (by cases nb <;> simp only [sgn] <;> simp <;> omega);exact ⟨this.1.symm,this.2.symm⟩
theorem AS3 {z:Int}:AMa z < 0↔z < 0:=by
 unfold AMa;split
 ·omega
 ·split <;> omega
theorem Apw {na nb:Bool} {A B:Nat} (hB:B≠0) (h: ¬ sgn na (A % B) < 0):sgn na A / sgn nb B=sgn (!(na == nb)) (A / B)/\sgn na A % sgn nb B=sgn na (A % B):=by
 have h1:=Nat.div_add_mod A B;have hl:=Nat.mod_lt A (Nat.pos_of_ne_zero hB);obtain ⟨q,hq⟩:∃ q,A / B=q:=⟨_,rfl⟩;obtain ⟨r,hr⟩:∃ r,A % B=r:=⟨_,rfl⟩;rw [hq,hr] at h1;rw [hr] at hl h;rw [hq,hr];have h2:(A:Int)=(B:Int) * q + r:=by rw [<- h1];simp
 refine ANa (by cases nb <;> simp [sgn] <;> omega) ?_ (by omega) (by cases na <;> cases nb <;> simp only [sgn] at h ⊢ <;> simp at h ⊢ <;> omega);cases na <;> cases nb <;> simp [sgn] at h ⊢ <;> grind
theorem Afu {na nb:Bool} {A B:Nat} (hB:B≠0) (h:sgn na (A % B) < 0):sgn na A % sgn nb B=sgn na (A % B) + B/\(sgn nb B < 0->sgn na A / sgn nb B=sgn (!(na == nb)) (A / B) + 1)/\(¬ sgn nb B < 0->sgn na A / sgn nb B=sgn (!(na == nb)) (A / B) - 1):=by
 have h1:=Nat.div_add_mod A B;have hl:=Nat.mod_lt A (Nat.pos_of_ne_zero hB);obtain ⟨q,hq⟩:∃ q,A / B=q:=⟨_,rfl⟩;obtain ⟨r,hr⟩:∃ r,A % B=r:=⟨_,rfl⟩;rw [hq,hr] at h1;rw [hr] at hl h;rw [hq,hr];have h2:(A:Int)=(B:Int) * q + r:=by rw [<- h1];simp
 cases na
 ·simp [sgn] at h;omega
 have key:∀ q':Int,sgn true A=sgn nb B * q' + (sgn true r + B)->sgn true A / sgn nb B=q'/\sgn true A % sgn nb B=sgn true r + B:=fun q' hq'=>
   ANa (by cases nb <;> simp [sgn] <;> omega) hq' (by simp [sgn] at h ⊢;omega) (by cases nb <;> simp only [sgn] at h ⊢ <;> simp at h ⊢ <;> omega)
 cases nb
 ·have:=key (sgn true q - 1) (by simp [sgn];grind);exact ⟨this.2,fun hh=>by simp [sgn] at hh;omega,fun _=>this.1⟩
 ·have:=key (sgn false q + 1) (by simp [sgn];grind);exact ⟨this.2,fun _=>this.1,fun hh=>by simp [sgn] at hh;omega⟩
def FZ (b2 b3 s0:Nat) (na nb:Bool) (qv rv:Value) (nq nr:Nat):Nat->Value->AHr->Prop
  | 0,v,_=>v= .pointer (some ⟨b2,0,none⟩)
  | 1,v,_=>v= .bool na
  | 2,v,_=>v= .pointer (some ⟨b3,0,none⟩)
  | 3,v,_=>v= .bool nb
  | 4,v,_=>v= .bool (!(na == nb))
  | 5,v,_=>v=qv
  | 6,v,h=>ZV h s0 v (sgn (!(na == nb)) nq)
  | 7,v,_=>v= .pointer (some ⟨b2,0,none⟩)
  | 8,v,_=>v= .bool na
  | 9,v,_=>v=rv
  | 10,v,h=>ZV h s0 v (sgn na nr)
  | 11,v,h=> ∃ b,v= .pointer (some ⟨b,0,none⟩)/\AI1 104 h b [.bool false,.slice none 0 0]/\s0<=b
  | 12,v,h=> ∃ b,v= .pointer (some ⟨b,0,none⟩)/\AI1 104 h b [.bool false,.slice none 0 0]/\s0<=b
  | _,_,_=>True
def DZ (i j:Nat) (v u:Value):Prop:=(i=11/\j=12)∨(i=12/\j=11)->v≠u
theorem Avr {b2 b3 s0:Nat} {na nb:Bool} {qv rv:Value} {nq nr:Nat}:∀ j v h h',FZ b2 b3 s0 na nb qv rv nq nr j v h->Ext h h'->FZ b2 b3 s0 na nb qv rv nq nr j v h':=by
 intro j v h h' H E
 match j with
 | 0=>exact H
 | 1=>exact H
 | 2=>exact H
 | 3=>exact H
 | 4=>exact H
 | 5=>exact H
 | 6=>exact ZV.ext H E
 | 7=>exact H
 | 8=>exact H
 | 9=>exact H
 | 10=>exact ZV.ext H E
 | 11=>obtain ⟨b,h1,h2,h3⟩:=H;exact ⟨b,h1,h2.ext E,h3⟩
 | 12=>obtain ⟨b,h1,h2,h3⟩:=H;exact ⟨b,h1,h2.ext E,h3⟩
 | n + 13=>trivial
theorem AXk {i:Nat} (h1:i≠11) (h2:i≠12) (v:Value):∀ (j:Nat) (u:Value),DZ i j v u/\DZ j i u v:=fun j u=>⟨fun h=>by omega,fun h=>by omega⟩
theorem Apx {b2 b3 s0:Nat} {na nb:Bool} {qv rv:Value} {nq nr:Nat} {h:AHr} {i b:Nat} (hi:i=11∨i=12) (hb:Array.size h<=b):∀ (j:Nat) (u:Value),FZ b2 b3 s0 na nb qv rv nq nr j u h->DZ i j (.pointer (some ⟨b,0,none⟩)) u/\DZ j i u (.pointer (some ⟨b,0,none⟩)):=by
 intro j u H
 have key:(j=11∨j=12)->Value.pointer (some ⟨b,0,none⟩)≠u:=by
   intro hj he
   have:∃ b',u= .pointer (some ⟨b',0,none⟩)/\AI1 104 h b' [.bool false,.slice none 0 0]/\s0<=b':=by
     rcases hj with rfl | rfl <;> exact H
   obtain ⟨b',h1,h2,_⟩:=this
   rw [h1] at he
   injection he with he
   injection he with he
   injection he with he
   have:=h2.lt
   omega
 exact ⟨fun h=>key (by omega),fun h he=>key (by omega) he.symm⟩
set_option maxHeartbeats 4000000 in
theorem Ajg {h:AHr} {la lb:Nat} {va vb:Value} {a b:Int} (HA:ZV h la va a) (HB:ZV h lb vb b) (hba:a.natAbs < 4294967296 ^ 99) (hbb:b.natAbs < 4294967296 ^ 99) (hb0:b≠0):AIj Tryz.prog 189 #[va,vb] h fun x h'=>Ext h h'/\ ∃ q r,x= .tuple #[q,r,.bool true]/\ZV h' (Array.size h) q (a / b)/\ZV h' (Array.size h) r (a % b):=by
  obtain ⟨na,sa,LA,rfl,HDa,htla,hla,hza⟩:=HA.out;obtain ⟨nb,sb,LB,rfl,HDb,htlb,hlb,hzb⟩:=HB.out;have haa:=AL0 hza;have hab:=AL0 hzb;have hBz:nv LB≠0:=fun h0=>hb0 (by rw [hzb,h0];cases nb <;> rfl);have hp99:(4294967296:Nat) ^ 99 < 4294967296 ^ 100:=Nat.pow_lt_pow_right (by decide) (by decide);refine Agw (l:=[_,_]) Tryz.func189 rfl rfl rfl rfl rfl ?_;refine ASw ?_;refine AT6 mx (by kernel_rfl) ?_;refine ACv ?_;refine AN1 [.bool na,sa] (fun _=>trivial) rfl rfl fun bq1 h2 V3 E4 hb5 hl6=>?_;have hzbq1:Array.size h<=bq1:=hb5;have sz7:=E4.1;have Z8:=(Ext.refl h).trans E4;refine AN1 [.bool nb,sb] (fun _=>trivial) rfl rfl fun bq9 h10 V11 E12 hb13 hl14=>?_;have hzbq9:Array.size h<=bq9:=Nat.le_trans E4.1 hb13;have nebq1bq9:bq1≠bq9:=by have:=V3.lt;omega
  have sz15:=E12.1;have Z16:=Z8.trans E12;have X17:=E4.trans E12;have V3_18:=V3.ext E12;have Y19:=E4.trans E12;refine ALw [.bool false,.slice none 0 0] ALz rfl (fun _=>trivial) fun bq20 h21 V22 E23 hb24 hl25=>?_;have hzbq20:Array.size h<=bq20:=Nat.le_trans X17.1 hb24;have nebq1bq20:bq1≠bq20:=by have:=V3_18.lt;omega
  have nebq9bq20:bq9≠bq20:=by have:=V11.lt;omega
  have sz26:=E23.1;have Z27:=Z16.trans E23;have X28:=X17.trans E23;have V3_29:=V3_18.ext E23;have Y30:=Y19.trans E23;have V11_31:=V11.ext E23;have Y32:=E12.trans E23;refine ALw [.bool false,.slice none 0 0] ALz rfl (fun _=>trivial) fun bq33 h34 V35 E36 hb37 hl38=>?_;have hzbq33:Array.size h<=bq33:=Nat.le_trans X28.1 hb37;have nebq1bq33:bq1≠bq33:=by have:=V3_29.lt;omega
  have nebq9bq33:bq9≠bq33:=by have:=V11_31.lt;omega
  have nebq20bq33:bq20≠bq33:=by have:=V22.lt;omega
  have sz39:=E36.1;have Z40:=Z27.trans E36;have X41:=X28.trans E36;have V3_42:=V3_29.ext E36;have Y43:=Y30.trans E36;have V11_44:=V11_31.ext E36;have Y45:=Y32.trans E36;have V22_46:=V22.ext E36;have Y47:=E23.trans E36;refine AHq (ACt (q_t ?_));refine ASw ?_;refine AT6 mx (by kernel_rfl) ?_;refine AKf (fun h'=>Ext h34 h') (by kernel_rfl) ?_;have hB0:=Ext.refl h34;refine AJq (fs:=1) AQd (by kernel_rfl) (by decide) rfl (AK1 ANk rfl hB0 (fun h' hb=>(V3_42.ext hb).cell (i:=1) rfl) (AIa hB0 rfl (AOe (DS.ext HDa X41) (by omega)) fun x48 h49 hk=>?_));obtain ⟨E50,L1,HD1,htl1,hv1,hl1⟩:=hk;have hB51:=hB0.trans E50;refine ⟨hB51,?_⟩;have sz52:=E50.1;have Z53:=Z40.trans E50;have X54:=X41.trans E50;have V3_55:=V3_42.ext E50;have Y56:=Y43.trans E50;have V11_57:=V11_44.ext E50;have Y58:=Y45.trans E50;have V22_59:=V22_46.ext E50;have Y60:=Y47.trans E50;have V35_61:=V35.ext E50;have Y62:=E36.trans E50;refine AJq (fs:=1) AQd (by kernel_rfl) (by decide) rfl (AK1 ANk rfl hB51 (fun h' hb=>(V11_44.ext hb).cell (i:=1) rfl) (AIa hB51 rfl (AOe (DS.ext HDb X54) (by omega)) fun x63 h64 hk=>?_));obtain ⟨E65,L2,HD2,htl2,hv2,hl2⟩:=hk;have hB66:=hB51.trans E65;refine ⟨hB66,?_⟩;have sz67:=E65.1;have Z68:=Z53.trans E65;have X69:=X54.trans E65;have V3_70:=V3_55.ext E65;have Y71:=Y56.trans E65;have V11_72:=V11_57.ext E65;have Y73:=Y58.trans E65;have V22_74:=V22_59.ext E65;have Y75:=Y60.trans E65;have V35_76:=V35_61.ext E65;have Y77:=Y62.trans E65;have HD1_78:=HD1.ext E65;refine AHq (AHq (ACt (q_t ?_)));refine ASw ?_;refine AT6 mx (by kernel_rfl) ?_;refine ACu ?_;refine ACv ?_;refine AHo (AJb AH7 rfl HD2 ?_);have hLB:L2≠[]:=fun h0=>hBz (by rw [<- hv2,h0];rfl);have hLp:=List.length_pos_iff.2 hLB;refine AVm rfl rfl (fun hc=>absurd hc (by omega)) (fun _=>?_);refine ACt (q_t ?_);refine AId rfl ?_;refine AH2 (q_t ?_);refine ASw ?_;refine AT6 mx (by kernel_rfl) ?_;refine ACv ?_;refine AHo (AHo (AIa trivial rfl (Ai3 HD1_78 HD2 htl2 (by rw [hv2];exact hBz) (by omega) (by omega)) fun x79 h80 hk=>?_));obtain ⟨E81,qv,rv,rfl,LQ,LR,HQ,HR,hvq,hvr,hlq,hlr⟩:=hk;refine ⟨trivial,?_⟩;have sz82:=E81.1;have Z83:=Z68.trans E81;have X84:=X69.trans E81;have V3_85:=V3_70.ext E81;have Y86:=Y71.trans E81;have V11_87:=V11_72.ext E81;have Y88:=Y73.trans E81;have V22_89:=V22_74.ext E81;have Y90:=Y75.trans E81;have V35_91:=V35_76.ext E81;have Y92:=Y77.trans E81;have HD1_93:=HD1_78.ext E81;have HD2_94:=HD2.ext E81;rw [hv1,hv2] at hvq hvr;have hqA:nv LQ<=nv LA:=by rw [hvq];exact Nat.div_le_self _ _
  have hrA:nv LR < nv LB:=by rw [hvr];exact Nat.mod_lt _ (Nat.pos_of_ne_zero hBz)
  have hq100:nv LQ < 4294967296 ^ 100:=by omega
  have hr100:nv LR < 4294967296 ^ 100:=by omega
  refine AHo (AI7 rfl rfl (AI7 rfl rfl (AHq (AHq (ACt (q_t ?_))))));refine ASw ?_;obtain ⟨s0,hs0⟩:∃ s,s=Array.size h80:=⟨_,rfl⟩
  refine Asf (B:=fun _=>True) (st:=false) 13 (FZ bq1 bq9 s0 na nb qv rv (nv LQ) (nv LR)) DZ mx (by kernel_rfl) Avr ?_ ?_
  · intro i oi hi hoi e1 h1 E1 hd he;have h2:e1 2= .pointer (some ⟨bq1,0,none⟩):=(he 2 (by kernel_rfl)).trans rfl;have h3:e1 3= .pointer (some ⟨bq9,0,none⟩):=(he 3 (by kernel_rfl)).trans rfl;have h9:e1 9=qv:=(he 9 (by kernel_rfl)).trans rfl;have h10:e1 10=rv:=(he 10 (by kernel_rfl)).trans rfl;have hsz:=E1.1
    rcases (by omega:i=0∨i=1∨i=2∨i=3∨i=4∨i=5∨i=6∨i=7∨i=8∨i=9∨i=10∨i=11∨i=12) with rfl | rfl | rfl | rfl | rfl | rfl | rfl | rfl | rfl | rfl | rfl | rfl | rfl <;> obtain rfl:=Option.some.inj (show some _=some oi from hoi)
    · refine AJq (fs:=1) AP3 (by kernel_rfl) (by decide) h2 (ACt ⟨Ext.refl _,fun d hdd=>?_⟩);cases hdd;exact ⟨rfl,fun j u _=>AXk (by decide) (by decide) _ j u⟩
    · have h30:e1 30= .pointer (some ⟨bq1,0,none⟩):=hd 0 30 (by kernel_rfl) (by kernel_rfl);refine AIr ALq h30 ((V3_85.ext E1).cell (i:=0) rfl) (ACt ⟨Ext.refl _,fun d hdd=>?_⟩);cases hdd;exact ⟨rfl,fun j u _=>AXk (by decide) (by decide) _ j u⟩
    · refine AJq (fs:=1) AP3 (by kernel_rfl) (by decide) h3 (ACt ⟨Ext.refl _,fun d hdd=>?_⟩);cases hdd;exact ⟨rfl,fun j u _=>AXk (by decide) (by decide) _ j u⟩
    · have h32:e1 32= .pointer (some ⟨bq9,0,none⟩):=hd 2 32 (by kernel_rfl) (by kernel_rfl);refine AIr ALq h32 ((V11_87.ext E1).cell (i:=0) rfl) (ACt ⟨Ext.refl _,fun d hdd=>?_⟩);cases hdd;exact ⟨rfl,fun j u _=>AXk (by decide) (by decide) _ j u⟩
    · have h31:e1 31= .bool na:=hd 1 31 (by kernel_rfl) (by kernel_rfl);have h33:e1 33= .bool nb:=hd 3 33 (by kernel_rfl) (by kernel_rfl);refine AZb AXy h31 h33 (ACt ⟨Ext.refl _,fun d hdd=>?_⟩);cases hdd;exact ⟨rfl,fun j u _=>AXk (by decide) (by decide) _ j u⟩
    · refine AHo (ACt ⟨Ext.refl _,fun d hdd=>?_⟩);cases hdd;exact ⟨h9,fun j u _=>AXk (by decide) (by decide) _ j u⟩
    · have h34:e1 34= .bool (!(na == nb)):=hd 4 34 (by kernel_rfl) (by kernel_rfl);have h35:e1 35=qv:=hd 5 35 (by kernel_rfl) (by kernel_rfl);refine AIa (K':=fun x h2=>Ext h1 h2/\ZV h2 (Array.size h1) x (sgn (!(na == nb)) (nv LQ))) trivial (show [e1 34,e1 35]=[.bool (!(na == nb)),qv] by rw [h34,h35]) (AQ0 (!(na == nb)) (HQ.ext E1) (by omega) hq100) fun x h2 hk=>?_;obtain ⟨E2,HZ⟩:=hk;refine ⟨trivial,ACt ⟨E2,fun d hdd=>?_⟩⟩;cases hdd;exact ⟨HZ.mono (by omega),fun j u _=>AXk (by decide) (by decide) _ j u⟩
    · refine AJq (fs:=1) AP3 (by kernel_rfl) (by decide) h2 (ACt ⟨Ext.refl _,fun d hdd=>?_⟩);cases hdd;exact ⟨rfl,fun j u _=>AXk (by decide) (by decide) _ j u⟩
    · have h37:e1 37= .pointer (some ⟨bq1,0,none⟩):=hd 7 37 (by kernel_rfl) (by kernel_rfl);refine AIr ALq h37 ((V3_85.ext E1).cell (i:=0) rfl) (ACt ⟨Ext.refl _,fun d hdd=>?_⟩);cases hdd;exact ⟨rfl,fun j u _=>AXk (by decide) (by decide) _ j u⟩
    · refine AHo (ACt ⟨Ext.refl _,fun d hdd=>?_⟩);cases hdd;exact ⟨h10,fun j u _=>AXk (by decide) (by decide) _ j u⟩
    · have h38:e1 38= .bool na:=hd 8 38 (by kernel_rfl) (by kernel_rfl);have h39:e1 39=rv:=hd 9 39 (by kernel_rfl) (by kernel_rfl);refine AIa (K':=fun x h2=>Ext h1 h2/\ZV h2 (Array.size h1) x (sgn na (nv LR))) trivial (show [e1 38,e1 39]=[.bool na,rv] by rw [h38,h39]) (AQ0 na (HR.ext E1) (by omega) hr100) fun x h2 hk=>?_;obtain ⟨E2,HZ⟩:=hk;refine ⟨trivial,ACt ⟨E2,fun d hdd=>?_⟩⟩;cases hdd;exact ⟨HZ.mono (by omega),fun j u _=>AXk (by decide) (by decide) _ j u⟩
    · refine ALw [.bool false,.slice none 0 0] ALz rfl (fun _=>trivial) fun b h2 V E2 hb hl=>(ACt ⟨E2,fun d hdd=>?_⟩);cases hdd;exact ⟨⟨b,rfl,V,by omega⟩,Apx (.inl rfl) hb⟩
    · refine ALw [.bool false,.slice none 0 0] ALz rfl (fun _=>trivial) fun b h2 V E2 hb hl=>(ACt ⟨E2,fun d hdd=>?_⟩);cases hdd;exact ⟨⟨b,rfl,V,by omega⟩,Apx (.inr rfl) hb⟩
  intro e1 h5 E5 hF hD he;have hv30:e1 30=_:=hF 0 30 (by decide) (by kernel_rfl);have hv31:e1 31=_:=hF 1 31 (by decide) (by kernel_rfl);have hv32:e1 32=_:=hF 2 32 (by decide) (by kernel_rfl);have hv33:e1 33=_:=hF 3 33 (by decide) (by kernel_rfl);have hv34:e1 34=_:=hF 4 34 (by decide) (by kernel_rfl);have hv35:e1 35=_:=hF 5 35 (by decide) (by kernel_rfl);have hv37:e1 37=_:=hF 7 37 (by decide) (by kernel_rfl);have hv38:e1 38=_:=hF 8 38 (by decide) (by kernel_rfl);have hv39:e1 39=_:=hF 9 39 (by decide) (by kernel_rfl);have HZ6:ZV h5 s0 (e1 36) (sgn (!(na == nb)) (nv LQ)):=hF 6 36 (by decide) (by kernel_rfl);have HZ7:ZV h5 s0 (e1 40) (sgn na (nv LR)):=hF 10 40 (by decide) (by kernel_rfl);obtain ⟨b11,hv11,VX11,hb11⟩:=hF 11 11 (by decide) (by kernel_rfl);obtain ⟨b12,hv12,VX12,hb12⟩:=hF 12 12 (by decide) (by kernel_rfl);have hne:b11≠b12:=fun hh=>hD 11 12 11 12 (by decide) (by decide) (by decide) (by kernel_rfl) (by kernel_rfl) (.inl ⟨rfl,rfl⟩) (by rw [hv11,hv12,hh]);obtain ⟨ng6,s6,L6,hv36,HD6,htl6,hlen6,hz6⟩:=HZ6.out;obtain ⟨ng7,s7,L7,hv40,HD7,htl7,hlen7,hz7⟩:=HZ7.out;rw [Ao9 [30,31,32,33,34,35,36,37,38,39,40,11,12] (fun t ht=>he t (Eq.trans (by kernel_rfl) ht))];simp only [List.map_cons,List.map_nil,hv30,hv31,hv32,hv33,hv34,hv35,hv36,hv37,hv38,hv39,hv40,hv11,hv12];clear he hF hD hv30 hv31 hv32 hv33 hv34 hv35 hv36 hv37 hv38 hv39 hv40 hv11 hv12;have hl11:=VX11.lt;have hl12:=VX12.lt;have sz95:=E5.1;have Z96:=Z83.trans E5;have X97:=X84.trans E5;have V3_98:=V3_85.ext E5;have Y99:=Y86.trans E5;have V11_100:=V11_87.ext E5;have Y101:=Y88.trans E5;have V22_102:=V22_89.ext E5;have Y103:=Y90.trans E5;have V35_104:=V35_91.ext E5;have Y105:=Y92.trans E5;have HD1_106:=HD1_93.ext E5;have HD2_107:=HD2_94.ext E5;have HQ_108:=HQ.ext E5;have HR_109:=HR.ext E5;have nebq1b11:bq1≠b11:=by have:=V3_85.lt;omega
  have nebq9b11:bq9≠b11:=by have:=V11_87.lt;omega
  have nebq20b11:bq20≠b11:=by have:=V22_89.lt;omega
  have nebq33b11:bq33≠b11:=by have:=V35_91.lt;omega
  have nebq1b12:bq1≠b12:=by have:=V3_85.lt;omega
  have nebq9b12:bq9≠b12:=by have:=V11_87.lt;omega
  have nebq20b12:bq20≠b12:=by have:=V22_89.lt;omega
  have nebq33b12:bq33≠b12:=by have:=V35_91.lt;omega
  have neb11b12:b11≠b12:=hne;refine AIw [.bool ng6,s6] AH9 rfl rfl rfl rfl (ALx HD6.cap) VX11 fun h6 VX11_n U6=>?_;have szu0:=U6.1;have X110:=X97.thenUpd U6 (fun k hk=>by have hk2:k=b11:=hk;omega);have V3_111:=V3_98.upd U6 (fun he=>by have he2:bq1=b11:=he;omega);have V11_112:=V11_100.upd U6 (fun he=>by have he2:bq9=b11:=he;omega);have V22_113:=V22_102.upd U6 (fun he=>by have he2:bq20=b11:=he;omega);have V35_114:=V35_104.upd U6 (fun he=>by have he2:bq33=b11:=he;omega);have HD1_115:=HD1_106.updT U6 VX11 rfl;have HD2_116:=HD2_107.updT U6 VX11 rfl;have HQ_117:=HQ_108.updT U6 VX11 rfl;have HR_118:=HR_109.updT U6 VX11 rfl;have VX12_119:=VX12.upd U6 (fun he=>by have he2:b12=b11:=he;omega);have HD6_120:=HD6.updT U6 VX11 rfl;have HD7_121:=HD7.updT U6 VX11 rfl;refine AIw [.bool ng7,s7] AH9 rfl rfl rfl rfl (ALx HD7.cap) VX12_119 fun h7 VX12_n U7=>?_;have szu1:=U7.1;have X122:=X110.thenUpd U7 (fun k hk=>by have hk2:k=b12:=hk;omega);have V3_123:=V3_111.upd U7 (fun he=>by have he2:bq1=b12:=he;omega);have V11_124:=V11_112.upd U7 (fun he=>by have he2:bq9=b12:=he;omega);have V22_125:=V22_113.upd U7 (fun he=>by have he2:bq20=b12:=he;omega);have V35_126:=V35_114.upd U7 (fun he=>by have he2:bq33=b12:=he;omega);have HD1_127:=HD1_115.updT U7 VX12_119 rfl;have HD2_128:=HD2_116.updT U7 VX12_119 rfl;have HQ_129:=HQ_117.updT U7 VX12_119 rfl;have HR_130:=HR_118.updT U7 VX12_119 rfl;have VX11_131:=VX11_n.upd U7 (fun he=>by have he2:b11=b12:=he;omega);have HD6_132:=HD6_120.updT U7 VX12_119 rfl;have HD7_133:=HD7_121.updT U7 VX12_119 rfl;refine ACt (q_t ?_);refine ASw ?_;refine ASw ?_;refine AT6 mx (by kernel_rfl) ?_;refine ACv ?_;refine AKr [.bool ng7,s7] AH9 rfl rfl VX12_n.agg (AIa trivial rfl (AXe (⟨ng7,s7,L7,rfl,HD7_133,htl7,hlen7,hz7⟩:ZV _ _ _ _)) fun x134 h135 hk=>?_);obtain ⟨E136,rfl⟩:=hk;refine ⟨trivial,?_⟩;have sz137:=E136.1;have X138:=X122.trans E136;have V3_139:=V3_123.ext E136;have V11_140:=V11_124.ext E136;have V22_141:=V22_125.ext E136;have V35_142:=V35_126.ext E136;have HD1_143:=HD1_127.ext E136;have HD2_144:=HD2_128.ext E136;have HQ_145:=HQ_129.ext E136;have HR_146:=HR_130.ext E136;have VX11_147:=VX11_131.ext E136;have VX12_148:=VX12_n.ext E136;have HD6_149:=HD6_132.ext E136;have HD7_150:=HD7_133.ext E136
  refine ALo rfl rfl (fun hc1=>?_) (fun hc1=>?_)
  · skip
    refine ACt (q_t ?_);refine Ak1 rfl ?_;refine ASw ?_;refine AT6 mx (by kernel_rfl) ?_;refine AKf (fun h'=>Ext h135 h') (by kernel_rfl) ?_;have hB0:=Ext.refl h135;refine AKk [.bool ng7,s7] AH9 rfl rfl hB0 (fun h' hb=>(VX12_148.ext hb).agg) (AHo (AIa hB0 rfl (AQ0 false HD2_144 (by omega) (by rw [hv2];omega)) fun x151 h152 hk=>?_));obtain ⟨E153,HZ8⟩:=hk;have hB154:=hB0.trans E153;refine ⟨hB154,?_⟩;have sz155:=E153.1;have X156:=X138.trans E153;have V3_157:=V3_139.ext E153;have V11_158:=V11_140.ext E153;have V22_159:=V22_141.ext E153;have V35_160:=V35_142.ext E153;have HD1_161:=HD1_143.ext E153;have HD2_162:=HD2_144.ext E153;have HQ_163:=HQ_145.ext E153;have HR_164:=HR_146.ext E153;have VX11_165:=VX11_147.ext E153;have VX12_166:=VX12_148.ext E153;have HD6_167:=HD6_149.ext E153;have HD7_168:=HD7_150.ext E153;obtain ⟨ng8,s8,L8,rfl,HD8,htl8,hlen8,hz8⟩:=HZ8.out;refine AIa hB154 rfl (Abv (⟨ng7,s7,L7,rfl,HD7_168,htl7,hlen7,hz7⟩:ZV _ _ _ _) (⟨ng8,s8,L8,rfl,HD8,htl8,hlen8,hz8⟩:ZV _ _ _ _) (by rw [show (sgn na (nv LR)).natAbs=nv LR from AL0 rfl];omega) (by rw [show (sgn false (nv L2)).natAbs=nv L2 from AL0 rfl,hv2];omega)) fun x169 h170 hk=>?_;obtain ⟨E171,HZ9⟩:=hk;have hB172:=hB154.trans E171;refine ⟨hB172,?_⟩;have sz173:=E171.1;have X174:=X156.trans E171;have V3_175:=V3_157.ext E171;have V11_176:=V11_158.ext E171;have V22_177:=V22_159.ext E171;have V35_178:=V35_160.ext E171;have HD1_179:=HD1_161.ext E171;have HD2_180:=HD2_162.ext E171;have HQ_181:=HQ_163.ext E171;have HR_182:=HR_164.ext E171;have VX11_183:=VX11_165.ext E171;have VX12_184:=VX12_166.ext E171;have HD6_185:=HD6_167.ext E171;have HD7_186:=HD7_168.ext E171;have HD8_187:=HD8.ext E171;obtain ⟨ng9,s9,L9,rfl,HD9,htl9,hlen9,hz9⟩:=HZ9.out;refine AIw [.bool ng9,s9] AH9 rfl rfl rfl rfl (ALx HD9.cap) VX12_184 fun h188 VX12_189 U190=>?_;have X191:=X174.thenUpd U190 (fun k hk=>by have hk2:k=b12:=hk;omega);have sz192:=U190.1;have V3_193:=V3_175.upd U190 (fun he=>nebq1b12 (he:bq1=b12));have V11_194:=V11_176.upd U190 (fun he=>nebq9b12 (he:bq9=b12));have V22_195:=V22_177.upd U190 (fun he=>nebq20b12 (he:bq20=b12));have V35_196:=V35_178.upd U190 (fun he=>nebq33b12 (he:bq33=b12));have HD1_197:=HD1_179.updT U190 VX12_184 rfl;have HD2_198:=HD2_180.updT U190 VX12_184 rfl;have HQ_199:=HQ_181.updT U190 VX12_184 rfl;have HR_200:=HR_182.updT U190 VX12_184 rfl;have VX11_201:=VX11_183.upd U190 (fun he=>neb11b12 (he:b11=b12));have HD6_202:=HD6_185.updT U190 VX12_184 rfl;have HD7_203:=HD7_186.updT U190 VX12_184 rfl;have HD8_204:=HD8_187.updT U190 VX12_184 rfl;have HD9_205:=HD9.updT U190 VX12_184 rfl;refine ACt (q_t ?_);refine ASw ?_;refine ASw ?_;refine AT6 mx (by kernel_rfl) ?_;refine ACv ?_;refine AKr [.bool nb,sb] AH9 rfl rfl V11_194.agg (AIa trivial rfl (AXe (HB.ext X191)) fun x206 h207 hk=>?_);obtain ⟨E208,rfl⟩:=hk;refine ⟨trivial,?_⟩;have sz209:=E208.1;have X210:=X191.trans E208;have V3_211:=V3_193.ext E208;have V11_212:=V11_194.ext E208;have V22_213:=V22_195.ext E208;have V35_214:=V35_196.ext E208;have HD1_215:=HD1_197.ext E208;have HD2_216:=HD2_198.ext E208;have HQ_217:=HQ_199.ext E208;have HR_218:=HR_200.ext E208;have VX11_219:=VX11_201.ext E208;have VX12_220:=VX12_189.ext E208;have HD6_221:=HD6_202.ext E208;have HD7_222:=HD7_203.ext E208;have HD8_223:=HD8_204.ext E208;have HD9_224:=HD9_205.ext E208
    refine ALo rfl rfl (fun hc2=>?_) (fun hc2=>?_)
    · skip
      refine ACt (q_t ?_);refine Ak1 rfl ?_;refine ASw ?_;refine Aft (B:=(fun h'=>AI1 104 h' b11 [.bool ng6,s6]/\AI1 104 h' b12 [.bool ng9,s9])) true [0,1,2] 3 4 [5,6] mx (by kernel_rfl) (by kernel_rfl) rfl rfl (.cons rfl (.cons rfl (.cons rfl .nil))) (.cons rfl (.cons rfl .nil)) ?_;refine AKk [.bool ng6,s6] AH9 rfl rfl ⟨VX11_219,VX12_220⟩ (fun h' hb=>hb.1.agg) ?_;refine AIa ⟨VX11_219,VX12_220⟩ rfl (Aah (n:=1) (by omega) _) fun x13 h13 hk=>?_;obtain ⟨EX13,HZ13⟩:=hk;have sz225:=EX13.1;have X226:=X210.trans EX13;have V3_227:=V3_211.ext EX13;have V11_228:=V11_212.ext EX13;have V22_229:=V22_213.ext EX13;have V35_230:=V35_214.ext EX13;have HD1_231:=HD1_215.ext EX13;have HD2_232:=HD2_216.ext EX13;have HQ_233:=HQ_217.ext EX13;have HR_234:=HR_218.ext EX13;have VX11_235:=VX11_219.ext EX13;have VX12_236:=VX12_220.ext EX13;have HD6_237:=HD6_221.ext EX13;have HD7_238:=HD7_222.ext EX13;have HD8_239:=HD8_223.ext EX13;have HD9_240:=HD9_224.ext EX13;obtain ⟨ng13,s13,L13,rfl,HD13,htl13,hlen13,hz13⟩:=HZ13.out;refine ⟨⟨VX11_235,VX12_236⟩,?_⟩;refine AIa ⟨VX11_235,VX12_236⟩ rfl (Abv (⟨ng6,s6,L6,rfl,HD6_237,htl6,hlen6,hz6⟩:ZV _ _ _ _) (⟨ng13,s13,L13,rfl,HD13,htl13,hlen13,hz13⟩:ZV _ _ _ _) (by rw [show (sgn (!(na == nb)) (nv LQ)).natAbs=nv LQ from AL0 rfl];omega) (by decide)) fun x14 h14 hk=>?_;obtain ⟨EX14,HZ14⟩:=hk;have sz241:=EX14.1;have X242:=X226.trans EX14;have V3_243:=V3_227.ext EX14;have V11_244:=V11_228.ext EX14;have V22_245:=V22_229.ext EX14;have V35_246:=V35_230.ext EX14;have HD1_247:=HD1_231.ext EX14;have HD2_248:=HD2_232.ext EX14;have HQ_249:=HQ_233.ext EX14;have HR_250:=HR_234.ext EX14;have VX11_251:=VX11_235.ext EX14;have VX12_252:=VX12_236.ext EX14;have HD6_253:=HD6_237.ext EX14;have HD7_254:=HD7_238.ext EX14;have HD8_255:=HD8_239.ext EX14;have HD9_256:=HD9_240.ext EX14;have HD13_257:=HD13.ext EX14;obtain ⟨ng14,s14,L14,rfl,HD14,htl14,hlen14,hz14⟩:=HZ14.out;refine ⟨⟨VX11_251,VX12_252⟩,?_⟩
      refine ACt ⟨?_,?_⟩
      · skip
        refine AKk [.bool ng9,s9] AH9 rfl rfl ⟨VX11_251,VX12_252⟩ (fun h' hb=>hb.2.agg) ?_;refine AIw [.bool ng14,s14] AH9 rfl rfl rfl rfl (ALx HD14.cap) V22_245 fun h258 V22_259 U260=>?_;have X261:=X242.thenUpd U260 (fun k hk=>by have hk2:k=bq20:=hk;omega);have sz262:=U260.1;have V3_263:=V3_243.upd U260 (fun he=>nebq1bq20 (he:bq1=bq20));have V11_264:=V11_244.upd U260 (fun he=>nebq9bq20 (he:bq9=bq20));have V35_265:=V35_246.upd U260 (fun he=>(Ne.symm nebq20bq33) (he:bq33=bq20));have HD1_266:=HD1_247.updT U260 V22_245 rfl;have HD2_267:=HD2_248.updT U260 V22_245 rfl;have HQ_268:=HQ_249.updT U260 V22_245 rfl;have HR_269:=HR_250.updT U260 V22_245 rfl;have VX11_270:=VX11_251.upd U260 (fun he=>(Ne.symm nebq20b11) (he:b11=bq20));have VX12_271:=VX12_252.upd U260 (fun he=>(Ne.symm nebq20b12) (he:b12=bq20));have HD6_272:=HD6_253.updT U260 V22_245 rfl;have HD7_273:=HD7_254.updT U260 V22_245 rfl;have HD8_274:=HD8_255.updT U260 V22_245 rfl;have HD9_275:=HD9_256.updT U260 V22_245 rfl;have HD13_276:=HD13_257.updT U260 V22_245 rfl;have HD14_277:=HD14.updT U260 V22_245 rfl;refine AIw [.bool ng9,s9] AH9 rfl rfl rfl rfl (ALx HD9_275.cap) V35_265 fun h278 V35_279 U280=>?_;have X281:=X261.thenUpd U280 (fun k hk=>by have hk2:k=bq33:=hk;omega);have sz282:=U280.1;have V3_283:=V3_263.upd U280 (fun he=>nebq1bq33 (he:bq1=bq33));have V11_284:=V11_264.upd U280 (fun he=>nebq9bq33 (he:bq9=bq33));have V22_285:=V22_259.upd U280 (fun he=>nebq20bq33 (he:bq20=bq33));have HD1_286:=HD1_266.updT U280 V35_265 rfl;have HD2_287:=HD2_267.updT U280 V35_265 rfl;have HQ_288:=HQ_268.updT U280 V35_265 rfl;have HR_289:=HR_269.updT U280 V35_265 rfl;have VX11_290:=VX11_270.upd U280 (fun he=>(Ne.symm nebq33b11) (he:b11=bq33));have VX12_291:=VX12_271.upd U280 (fun he=>(Ne.symm nebq33b12) (he:b12=bq33));have HD6_292:=HD6_272.updT U280 V35_265 rfl;have HD7_293:=HD7_273.updT U280 V35_265 rfl;have HD8_294:=HD8_274.updT U280 V35_265 rfl;have HD9_295:=HD9_275.updT U280 V35_265 rfl;have HD13_296:=HD13_276.updT U280 V35_265 rfl;have HD14_297:=HD14_277.updT U280 V35_265 rfl;refine AHq (ACt (q_t ?_));refine AT6 mx (by kernel_rfl) ?_;refine AH1 (AIi (AIi ?_));refine ⟨_,ASg AH9 rfl rfl V22_285 AH9 rfl rfl V35_279,?_⟩;have hk:=Afu (nb:=nb) hBz (by rw [<- hvr];exact AS3.1 (by assumption));have hbn:sgn nb (nv LB) < 0:=by rw [<- hzb];exact AS3.1 (by assumption)
        exact ⟨X281,_,_,rfl,⟨ng14,s14,L14,rfl,HD14_297.mono (by omega),htl14,hlen14,by rw [<- hz14,hza,hzb,hk.2.1 hbn,hvq]⟩,⟨ng9,s9,L9,rfl,HD9_295.mono (by omega),htl9,hlen9,by rw [<- hz9,hza,hzb,hk.1,hvr,hv2];rfl⟩⟩
      · skip
        refine AIw [.bool ng14,s14] AH9 rfl rfl rfl rfl (ALx HD14.cap) V22_245 fun h298 V22_299 U300=>?_;have X301:=X242.thenUpd U300 (fun k hk=>by have hk2:k=bq20:=hk;omega);have sz302:=U300.1;have V3_303:=V3_243.upd U300 (fun he=>nebq1bq20 (he:bq1=bq20));have V11_304:=V11_244.upd U300 (fun he=>nebq9bq20 (he:bq9=bq20));have V35_305:=V35_246.upd U300 (fun he=>(Ne.symm nebq20bq33) (he:bq33=bq20));have HD1_306:=HD1_247.updT U300 V22_245 rfl;have HD2_307:=HD2_248.updT U300 V22_245 rfl;have HQ_308:=HQ_249.updT U300 V22_245 rfl;have HR_309:=HR_250.updT U300 V22_245 rfl;have VX11_310:=VX11_251.upd U300 (fun he=>(Ne.symm nebq20b11) (he:b11=bq20));have VX12_311:=VX12_252.upd U300 (fun he=>(Ne.symm nebq20b12) (he:b12=bq20));have HD6_312:=HD6_253.updT U300 V22_245 rfl;have HD7_313:=HD7_254.updT U300 V22_245 rfl;have HD8_314:=HD8_255.updT U300 V22_245 rfl;have HD9_315:=HD9_256.updT U300 V22_245 rfl;have HD13_316:=HD13_257.updT U300 V22_245 rfl;have HD14_317:=HD14.updT U300 V22_245 rfl;refine AKk [.bool ng9,s9] AH9 rfl rfl ⟨VX11_310,VX12_311⟩ (fun h' hb=>hb.2.agg) ?_;refine AIw [.bool ng9,s9] AH9 rfl rfl rfl rfl (ALx HD9_315.cap) V35_305 fun h318 V35_319 U320=>?_;have X321:=X301.thenUpd U320 (fun k hk=>by have hk2:k=bq33:=hk;omega);have sz322:=U320.1;have V3_323:=V3_303.upd U320 (fun he=>nebq1bq33 (he:bq1=bq33));have V11_324:=V11_304.upd U320 (fun he=>nebq9bq33 (he:bq9=bq33));have V22_325:=V22_299.upd U320 (fun he=>nebq20bq33 (he:bq20=bq33));have HD1_326:=HD1_306.updT U320 V35_305 rfl;have HD2_327:=HD2_307.updT U320 V35_305 rfl;have HQ_328:=HQ_308.updT U320 V35_305 rfl;have HR_329:=HR_309.updT U320 V35_305 rfl;have VX11_330:=VX11_310.upd U320 (fun he=>(Ne.symm nebq33b11) (he:b11=bq33));have VX12_331:=VX12_311.upd U320 (fun he=>(Ne.symm nebq33b12) (he:b12=bq33));have HD6_332:=HD6_312.updT U320 V35_305 rfl;have HD7_333:=HD7_313.updT U320 V35_305 rfl;have HD8_334:=HD8_314.updT U320 V35_305 rfl;have HD9_335:=HD9_315.updT U320 V35_305 rfl;have HD13_336:=HD13_316.updT U320 V35_305 rfl;have HD14_337:=HD14_317.updT U320 V35_305 rfl;refine AHq (ACt (q_t ?_));refine AT6 mx (by kernel_rfl) ?_;refine AH1 (AIi (AIi ?_));refine ⟨_,ASg AH9 rfl rfl V22_325 AH9 rfl rfl V35_319,?_⟩;have hk:=Afu (nb:=nb) hBz (by rw [<- hvr];exact AS3.1 (by assumption));have hbn:sgn nb (nv LB) < 0:=by rw [<- hzb];exact AS3.1 (by assumption)
        exact ⟨X321,_,_,rfl,⟨ng14,s14,L14,rfl,HD14_337.mono (by omega),htl14,hlen14,by rw [<- hz14,hza,hzb,hk.2.1 hbn,hvq]⟩,⟨ng9,s9,L9,rfl,HD9_335.mono (by omega),htl9,hlen9,by rw [<- hz9,hza,hzb,hk.1,hvr,hv2];rfl⟩⟩
    · skip
      refine ACt (q_t ?_);refine Ag4 rfl ?_;refine AT6 mx (by kernel_rfl) ?_;refine AH2 (q_t ?_);refine ASw ?_;refine Aft (B:=(fun h'=>AI1 104 h' b11 [.bool ng6,s6]/\AI1 104 h' b12 [.bool ng9,s9])) true [0,1,2] 3 4 [5,6] mx (by kernel_rfl) (by kernel_rfl) rfl rfl (.cons rfl (.cons rfl (.cons rfl .nil))) (.cons rfl (.cons rfl .nil)) ?_;refine AKk [.bool ng6,s6] AH9 rfl rfl ⟨VX11_219,VX12_220⟩ (fun h' hb=>hb.1.agg) ?_;refine AIa ⟨VX11_219,VX12_220⟩ rfl (Aah (n:=1) (by omega) _) fun x13 h13 hk=>?_;obtain ⟨EX13,HZ13⟩:=hk;have sz338:=EX13.1;have X339:=X210.trans EX13;have V3_340:=V3_211.ext EX13;have V11_341:=V11_212.ext EX13;have V22_342:=V22_213.ext EX13;have V35_343:=V35_214.ext EX13;have HD1_344:=HD1_215.ext EX13;have HD2_345:=HD2_216.ext EX13;have HQ_346:=HQ_217.ext EX13;have HR_347:=HR_218.ext EX13;have VX11_348:=VX11_219.ext EX13;have VX12_349:=VX12_220.ext EX13;have HD6_350:=HD6_221.ext EX13;have HD7_351:=HD7_222.ext EX13;have HD8_352:=HD8_223.ext EX13;have HD9_353:=HD9_224.ext EX13;obtain ⟨ng13,s13,L13,rfl,HD13,htl13,hlen13,hz13⟩:=HZ13.out;refine ⟨⟨VX11_348,VX12_349⟩,?_⟩;refine AIa ⟨VX11_348,VX12_349⟩ rfl (Aks (⟨ng6,s6,L6,rfl,HD6_350,htl6,hlen6,hz6⟩:ZV _ _ _ _) (⟨ng13,s13,L13,rfl,HD13,htl13,hlen13,hz13⟩:ZV _ _ _ _) (by rw [show (sgn (!(na == nb)) (nv LQ)).natAbs=nv LQ from AL0 rfl];omega) (by decide)) fun x14 h14 hk=>?_;obtain ⟨EX14,HZ14⟩:=hk;have sz354:=EX14.1;have X355:=X339.trans EX14;have V3_356:=V3_340.ext EX14;have V11_357:=V11_341.ext EX14;have V22_358:=V22_342.ext EX14;have V35_359:=V35_343.ext EX14;have HD1_360:=HD1_344.ext EX14;have HD2_361:=HD2_345.ext EX14;have HQ_362:=HQ_346.ext EX14;have HR_363:=HR_347.ext EX14;have VX11_364:=VX11_348.ext EX14;have VX12_365:=VX12_349.ext EX14;have HD6_366:=HD6_350.ext EX14;have HD7_367:=HD7_351.ext EX14;have HD8_368:=HD8_352.ext EX14;have HD9_369:=HD9_353.ext EX14;have HD13_370:=HD13.ext EX14;obtain ⟨ng14,s14,L14,rfl,HD14,htl14,hlen14,hz14⟩:=HZ14.out;refine ⟨⟨VX11_364,VX12_365⟩,?_⟩
      refine ACt ⟨?_,?_⟩
      · skip
        refine AKk [.bool ng9,s9] AH9 rfl rfl ⟨VX11_364,VX12_365⟩ (fun h' hb=>hb.2.agg) ?_;refine AIw [.bool ng14,s14] AH9 rfl rfl rfl rfl (ALx HD14.cap) V22_358 fun h371 V22_372 U373=>?_;have X374:=X355.thenUpd U373 (fun k hk=>by have hk2:k=bq20:=hk;omega);have sz375:=U373.1;have V3_376:=V3_356.upd U373 (fun he=>nebq1bq20 (he:bq1=bq20));have V11_377:=V11_357.upd U373 (fun he=>nebq9bq20 (he:bq9=bq20));have V35_378:=V35_359.upd U373 (fun he=>(Ne.symm nebq20bq33) (he:bq33=bq20));have HD1_379:=HD1_360.updT U373 V22_358 rfl;have HD2_380:=HD2_361.updT U373 V22_358 rfl;have HQ_381:=HQ_362.updT U373 V22_358 rfl;have HR_382:=HR_363.updT U373 V22_358 rfl;have VX11_383:=VX11_364.upd U373 (fun he=>(Ne.symm nebq20b11) (he:b11=bq20));have VX12_384:=VX12_365.upd U373 (fun he=>(Ne.symm nebq20b12) (he:b12=bq20));have HD6_385:=HD6_366.updT U373 V22_358 rfl;have HD7_386:=HD7_367.updT U373 V22_358 rfl;have HD8_387:=HD8_368.updT U373 V22_358 rfl;have HD9_388:=HD9_369.updT U373 V22_358 rfl;have HD13_389:=HD13_370.updT U373 V22_358 rfl;have HD14_390:=HD14.updT U373 V22_358 rfl;refine AIw [.bool ng9,s9] AH9 rfl rfl rfl rfl (ALx HD9_388.cap) V35_378 fun h391 V35_392 U393=>?_;have X394:=X374.thenUpd U393 (fun k hk=>by have hk2:k=bq33:=hk;omega);have sz395:=U393.1;have V3_396:=V3_376.upd U393 (fun he=>nebq1bq33 (he:bq1=bq33));have V11_397:=V11_377.upd U393 (fun he=>nebq9bq33 (he:bq9=bq33));have V22_398:=V22_372.upd U393 (fun he=>nebq20bq33 (he:bq20=bq33));have HD1_399:=HD1_379.updT U393 V35_378 rfl;have HD2_400:=HD2_380.updT U393 V35_378 rfl;have HQ_401:=HQ_381.updT U393 V35_378 rfl;have HR_402:=HR_382.updT U393 V35_378 rfl;have VX11_403:=VX11_383.upd U393 (fun he=>(Ne.symm nebq33b11) (he:b11=bq33));have VX12_404:=VX12_384.upd U393 (fun he=>(Ne.symm nebq33b12) (he:b12=bq33));have HD6_405:=HD6_385.updT U393 V35_378 rfl;have HD7_406:=HD7_386.updT U393 V35_378 rfl;have HD8_407:=HD8_387.updT U393 V35_378 rfl;have HD9_408:=HD9_388.updT U393 V35_378 rfl;have HD13_409:=HD13_389.updT U393 V35_378 rfl;have HD14_410:=HD14_390.updT U393 V35_378 rfl;refine AHq (ACt (q_t ?_));refine AT6 mx (by kernel_rfl) ?_;refine AH1 (AIi ?_);refine ⟨_,ASg AH9 rfl rfl V22_398 AH9 rfl rfl V35_392,?_⟩;have hk:=Afu (nb:=nb) hBz (by rw [<- hvr];exact AS3.1 (by assumption));have hbn: ¬ sgn nb (nv LB) < 0:=fun hh=>absurd (AS3.2 (by rw [hzb];exact hh):AMa b < 0) (by omega);exact ⟨X394,_,_,rfl,⟨ng14,s14,L14,rfl,HD14_410.mono (by omega),htl14,hlen14,by rw [<- hz14,hza,hzb,hk.2.2 hbn,hvq]⟩,⟨ng9,s9,L9,rfl,HD9_408.mono (by omega),htl9,hlen9,by rw [<- hz9,hza,hzb,hk.1,hvr,hv2];rfl⟩⟩
      · skip
        refine AIw [.bool ng14,s14] AH9 rfl rfl rfl rfl (ALx HD14.cap) V22_358 fun h411 V22_412 U413=>?_;have X414:=X355.thenUpd U413 (fun k hk=>by have hk2:k=bq20:=hk;omega);have sz415:=U413.1;have V3_416:=V3_356.upd U413 (fun he=>nebq1bq20 (he:bq1=bq20));have V11_417:=V11_357.upd U413 (fun he=>nebq9bq20 (he:bq9=bq20));have V35_418:=V35_359.upd U413 (fun he=>(Ne.symm nebq20bq33) (he:bq33=bq20));have HD1_419:=HD1_360.updT U413 V22_358 rfl;have HD2_420:=HD2_361.updT U413 V22_358 rfl;have HQ_421:=HQ_362.updT U413 V22_358 rfl;have HR_422:=HR_363.updT U413 V22_358 rfl;have VX11_423:=VX11_364.upd U413 (fun he=>(Ne.symm nebq20b11) (he:b11=bq20));have VX12_424:=VX12_365.upd U413 (fun he=>(Ne.symm nebq20b12) (he:b12=bq20));have HD6_425:=HD6_366.updT U413 V22_358 rfl;have HD7_426:=HD7_367.updT U413 V22_358 rfl;have HD8_427:=HD8_368.updT U413 V22_358 rfl;have HD9_428:=HD9_369.updT U413 V22_358 rfl;have HD13_429:=HD13_370.updT U413 V22_358 rfl;have HD14_430:=HD14.updT U413 V22_358 rfl;refine AKk [.bool ng9,s9] AH9 rfl rfl ⟨VX11_423,VX12_424⟩ (fun h' hb=>hb.2.agg) ?_;refine AIw [.bool ng9,s9] AH9 rfl rfl rfl rfl (ALx HD9_428.cap) V35_418 fun h431 V35_432 U433=>?_;have X434:=X414.thenUpd U433 (fun k hk=>by have hk2:k=bq33:=hk;omega);have sz435:=U433.1;have V3_436:=V3_416.upd U433 (fun he=>nebq1bq33 (he:bq1=bq33));have V11_437:=V11_417.upd U433 (fun he=>nebq9bq33 (he:bq9=bq33));have V22_438:=V22_412.upd U433 (fun he=>nebq20bq33 (he:bq20=bq33));have HD1_439:=HD1_419.updT U433 V35_418 rfl;have HD2_440:=HD2_420.updT U433 V35_418 rfl;have HQ_441:=HQ_421.updT U433 V35_418 rfl;have HR_442:=HR_422.updT U433 V35_418 rfl;have VX11_443:=VX11_423.upd U433 (fun he=>(Ne.symm nebq33b11) (he:b11=bq33));have VX12_444:=VX12_424.upd U433 (fun he=>(Ne.symm nebq33b12) (he:b12=bq33));have HD6_445:=HD6_425.updT U433 V35_418 rfl;have HD7_446:=HD7_426.updT U433 V35_418 rfl;have HD8_447:=HD8_427.updT U433 V35_418 rfl;have HD9_448:=HD9_428.updT U433 V35_418 rfl;have HD13_449:=HD13_429.updT U433 V35_418 rfl;have HD14_450:=HD14_430.updT U433 V35_418 rfl;refine AHq (ACt (q_t ?_));refine AT6 mx (by kernel_rfl) ?_;refine AH1 (AIi ?_);refine ⟨_,ASg AH9 rfl rfl V22_438 AH9 rfl rfl V35_432,?_⟩;have hk:=Afu (nb:=nb) hBz (by rw [<- hvr];exact AS3.1 (by assumption));have hbn: ¬ sgn nb (nv LB) < 0:=fun hh=>absurd (AS3.2 (by rw [hzb];exact hh):AMa b < 0) (by omega);exact ⟨X434,_,_,rfl,⟨ng14,s14,L14,rfl,HD14_450.mono (by omega),htl14,hlen14,by rw [<- hz14,hza,hzb,hk.2.2 hbn,hvq]⟩,⟨ng9,s9,L9,rfl,HD9_448.mono (by omega),htl9,hlen9,by rw [<- hz9,hza,hzb,hk.1,hvr,hv2];rfl⟩⟩
  · skip
    refine ACt (q_t ?_);refine Ag4 rfl ?_;refine AT6 mx (by kernel_rfl) ?_;refine AH2 (q_t ?_);refine ASw ?_;refine Aft (B:=fun _=>True) false [0] 1 2 [3,4] mx (by kernel_rfl) (by kernel_rfl) rfl rfl (.cons rfl .nil) (.cons rfl (.cons rfl .nil)) ?_
    refine AKr [.bool ng6,s6] AH9 rfl rfl VX11_147.agg (ACt ⟨?_,?_⟩)
    · skip
      refine AKr [.bool ng7,s7] AH9 rfl rfl VX12_148.agg (AIw [.bool ng6,s6] AH9 rfl rfl rfl rfl (ALx HD6_149.cap) V22_141 fun h451 V22_452 U453=>?_);have X454:=X138.thenUpd U453 (fun k hk=>by have hk2:k=bq20:=hk;omega);have sz455:=U453.1;have V3_456:=V3_139.upd U453 (fun he=>nebq1bq20 (he:bq1=bq20));have V11_457:=V11_140.upd U453 (fun he=>nebq9bq20 (he:bq9=bq20));have V35_458:=V35_142.upd U453 (fun he=>(Ne.symm nebq20bq33) (he:bq33=bq20));have HD1_459:=HD1_143.updT U453 V22_141 rfl;have HD2_460:=HD2_144.updT U453 V22_141 rfl;have HQ_461:=HQ_145.updT U453 V22_141 rfl;have HR_462:=HR_146.updT U453 V22_141 rfl;have VX11_463:=VX11_147.upd U453 (fun he=>(Ne.symm nebq20b11) (he:b11=bq20));have VX12_464:=VX12_148.upd U453 (fun he=>(Ne.symm nebq20b12) (he:b12=bq20));have HD6_465:=HD6_149.updT U453 V22_141 rfl;have HD7_466:=HD7_150.updT U453 V22_141 rfl;refine AIw [.bool ng7,s7] AH9 rfl rfl rfl rfl (ALx HD7_466.cap) V35_458 fun h467 V35_468 U469=>?_;have X470:=X454.thenUpd U469 (fun k hk=>by have hk2:k=bq33:=hk;omega);have sz471:=U469.1;have V3_472:=V3_456.upd U469 (fun he=>nebq1bq33 (he:bq1=bq33));have V11_473:=V11_457.upd U469 (fun he=>nebq9bq33 (he:bq9=bq33));have V22_474:=V22_452.upd U469 (fun he=>nebq20bq33 (he:bq20=bq33));have HD1_475:=HD1_459.updT U469 V35_458 rfl;have HD2_476:=HD2_460.updT U469 V35_458 rfl;have HQ_477:=HQ_461.updT U469 V35_458 rfl;have HR_478:=HR_462.updT U469 V35_458 rfl;have VX11_479:=VX11_463.upd U469 (fun he=>(Ne.symm nebq33b11) (he:b11=bq33));have VX12_480:=VX12_464.upd U469 (fun he=>(Ne.symm nebq33b12) (he:b12=bq33));have HD6_481:=HD6_465.updT U469 V35_458 rfl;have HD7_482:=HD7_466.updT U469 V35_458 rfl;refine AHq (ACt (q_t ?_));refine AT6 mx (by kernel_rfl) ?_;refine AH1 ?_;refine ⟨_,ASg AH9 rfl rfl V22_474 AH9 rfl rfl V35_468,?_⟩;have hk:=Apw (na:=na) (nb:=nb) (A:=nv LA) hBz (fun hh=>absurd (AS3.2 (by rw [hvr];exact hh):AMa (sgn na (nv LR)) < 0) (by omega));exact ⟨X470,_,_,rfl,⟨ng6,s6,L6,rfl,HD6_481.mono (by omega),htl6,hlen6,by rw [<- hz6,hza,hzb,hk.1,hvq]⟩,⟨ng7,s7,L7,rfl,HD7_482.mono (by omega),htl7,hlen7,by rw [<- hz7,hza,hzb,hk.2,hvr]⟩⟩
    · skip
      refine AIw [.bool ng6,s6] AH9 rfl rfl rfl rfl (ALx HD6_149.cap) V22_141 fun h483 V22_484 U485=>?_;have X486:=X138.thenUpd U485 (fun k hk=>by have hk2:k=bq20:=hk;omega);have sz487:=U485.1;have V3_488:=V3_139.upd U485 (fun he=>nebq1bq20 (he:bq1=bq20));have V11_489:=V11_140.upd U485 (fun he=>nebq9bq20 (he:bq9=bq20));have V35_490:=V35_142.upd U485 (fun he=>(Ne.symm nebq20bq33) (he:bq33=bq20));have HD1_491:=HD1_143.updT U485 V22_141 rfl;have HD2_492:=HD2_144.updT U485 V22_141 rfl;have HQ_493:=HQ_145.updT U485 V22_141 rfl;have HR_494:=HR_146.updT U485 V22_141 rfl;have VX11_495:=VX11_147.upd U485 (fun he=>(Ne.symm nebq20b11) (he:b11=bq20));have VX12_496:=VX12_148.upd U485 (fun he=>(Ne.symm nebq20b12) (he:b12=bq20));have HD6_497:=HD6_149.updT U485 V22_141 rfl;have HD7_498:=HD7_150.updT U485 V22_141 rfl;refine AKr [.bool ng7,s7] AH9 rfl rfl VX12_496.agg (AIw [.bool ng7,s7] AH9 rfl rfl rfl rfl (ALx HD7_498.cap) V35_490 fun h499 V35_500 U501=>?_);have X502:=X486.thenUpd U501 (fun k hk=>by have hk2:k=bq33:=hk;omega);have sz503:=U501.1;have V3_504:=V3_488.upd U501 (fun he=>nebq1bq33 (he:bq1=bq33));have V11_505:=V11_489.upd U501 (fun he=>nebq9bq33 (he:bq9=bq33));have V22_506:=V22_484.upd U501 (fun he=>nebq20bq33 (he:bq20=bq33));have HD1_507:=HD1_491.updT U501 V35_490 rfl;have HD2_508:=HD2_492.updT U501 V35_490 rfl;have HQ_509:=HQ_493.updT U501 V35_490 rfl;have HR_510:=HR_494.updT U501 V35_490 rfl;have VX11_511:=VX11_495.upd U501 (fun he=>(Ne.symm nebq33b11) (he:b11=bq33));have VX12_512:=VX12_496.upd U501 (fun he=>(Ne.symm nebq33b12) (he:b12=bq33));have HD6_513:=HD6_497.updT U501 V35_490 rfl;have HD7_514:=HD7_498.updT U501 V35_490 rfl;refine AHq (ACt (q_t ?_));refine AT6 mx (by kernel_rfl) ?_;refine AH1 ?_;refine ⟨_,ASg AH9 rfl rfl V22_506 AH9 rfl rfl V35_500,?_⟩;have hk:=Apw (na:=na) (nb:=nb) (A:=nv LA) hBz (fun hh=>absurd (AS3.2 (by rw [hvr];exact hh):AMa (sgn na (nv LR)) < 0) (by omega));exact ⟨X502,_,_,rfl,⟨ng6,s6,L6,rfl,HD6_513.mono (by omega),htl6,hlen6,by rw [<- hz6,hza,hzb,hk.1,hvq]⟩,⟨ng7,s7,L7,rfl,HD7_514.mono (by omega),htl7,hlen7,by rw [<- hz7,hza,hzb,hk.2,hvr]⟩⟩
end Go.Proofs.YtmmckalinicpaaaGreatDoor
namespace Go.Proofs.YtmmckalinicpaaaGreatDoor
open Go Go.QF
theorem Ag5:ZeT Tryz.prog 149 (.slice none 0 0) 24:=AYo (by kernel_rfl)
theorem AOx:FdT Tryz.prog 126 0 0 22:=⟨_,_,Tryz.underlying126,rfl,rfl,rfl⟩
theorem AKi:FdT Tryz.prog 126 1 1 3:=⟨_,_,Tryz.underlying126,rfl,rfl,rfl⟩
end Go.Proofs.YtmmckalinicpaaaGreatDoor
namespace Go.QF
open Go
theorem AI6 (a b:Int):Ady .lss a b=some (decide (a < b)):=rfl
theorem Abz (a b:Int):Ady .leq a b=some (decide (a<=b)):=rfl
theorem APf (a b:Int):Ady .gtr a b=some (decide (b < a)):=rfl
theorem ASm (a b:Int):Ady .geq a b=some (decide (b<=a)):=rfl
theorem AMi (a b:Int):Ady .eql a b=some (decide (a=b)):=by
 show some _=some _;rw [show (a == b)=decide (a=b) from by rw [Bool.eq_iff_iff];simp]
theorem AP7 (a b:Int):Ady .neq a b=some (decide (¬ a=b)):=by
 show some (a != b)=some _;rw [show (a != b)=decide (¬ a=b) from by rw [Bool.eq_iff_iff];simp]
theorem Apy {α:Type} (c:Cod α) (h:AHr):AM9 c h (.slice none 0 0) []:=⟨Aaf,[],Afd h 1,rfl,fun i r L hr=>by simp at hr⟩
theorem AM9.isOne {α:Type} {c:Cod α} {h:AHr} {v:Value} {L:List (List α)} (H:AM9 c h v L):isOne v=true:=by
 obtain ⟨_,Ls,⟨a,cap,rfl,_⟩,_⟩:=H;rfl
theorem AI4.rowG {α:Type} {c:Cod α} {er el:Nat} {h:AHr} {F:List Nat} {Gs:List (List Nat)} {rs:List Value} {v:Value} {M:List (List α)} (H:AI4 c er el h F Gs rs v M) {i:Int} {L:List α} (hL:gI M i=some L):∃ G,Gs[i.toNat]? =some G/\(∀ x∈G,x∈F)/\(∀ x∈G,AVp h x)/\ ∀ b,F=b :: Gs.flatten->b ∉ G:=by
 have hnd:=H.notD;have hn:=H.nodup;obtain ⟨n,rfl,hL⟩:=APd hL;obtain ⟨b,r,hF,h2,hr,hm⟩:=AZf H hL;obtain ⟨G,hG,HR,hGF⟩:=H.row hr hL;refine ⟨G,hG,hGF,fun x hx=>hnd x (hGF x hx),fun b' hb' hm'=>?_⟩;rw [hb'] at hn;exact (List.nodup_cons.1 hn).1 (ALl hG hm')
def swp (i j k:Nat):Nat:=if k=i then j else if k=j then i else k
theorem Asx {i j k l:Nat} (h:swp i j k=swp i j l):k=l:=by
 unfold swp at h;split at h <;> split at h <;> (try split at h) <;> (try split at h) <;> omega
theorem Ac9 {β:Type} {L:List β} {i j:Nat} {a b:β} (ha:L[i]? =some a) (hb:L[j]? =some b) (k:Nat):((L.set i b).set j a)[k]? =L[swp i j k]? :=by
 have hi:=(List.getElem?_eq_some_iff.1 ha).1;have hj:=(List.getElem?_eq_some_iff.1 hb).1;unfold swp;by_cases h1:k=j
 ·subst h1;rw [List.getElem?_set_self (by rw [List.length_set];exact hj)];by_cases h2:k=i
  ·subst h2;rw [if_pos rfl];rw [<- ha]
  ·rw [if_neg h2,if_pos rfl,ha]
 ·rw [List.getElem?_set_ne (fun h=>h1 h.symm)];by_cases h2:k=i
  ·subst h2;rw [List.getElem?_set_self hi,if_pos rfl,hb]
  ·rw [List.getElem?_set_ne (fun h=>h2 h.symm),if_neg h2,if_neg h1]
theorem Ag6:∀ {Gs:List (List Nat)},(∀ (i:Nat) (G:List Nat),Gs[i]? =some G->G.Nodup)->(∀ (i j:Nat) (G H:List Nat),i≠j->Gs[i]? =some G->Gs[j]? =some H-> ∀ x∈G,x ∉ H)->Gs.flatten.Nodup:=by
 intro Gs
 induction Gs with
 | nil=>intro _ _;simp
 | cons G Gs ih=>
   intro h1 h2
   rw [List.flatten_cons]
   refine List.nodup_append.2 ⟨h1 0 G rfl,ih (fun i H hi=>h1 (i + 1) H (by simpa using hi)) (fun i j A B hij hA hB=>h2 (i + 1) (j + 1) A B (by omega) (by simpa using hA) (by simpa using hB)),fun x hx y hy he=>?_⟩
   obtain ⟨H,hH,hyH⟩:=List.mem_flatten.1 hy
   obtain ⟨j,hj⟩:=List.getElem?_of_mem hH
   exact h2 0 (j + 1) G H (by omega) rfl (by simpa using hj) x hx (he ▸ hyH)
section
variable {P:Program} {B:AHr->Prop} {st:Bool} {ops:Array Oper} {rest:List Oper} {e:Env} {h:AHr} {K:Env->AHr->Prop}
variable {d d' d2:Nat} {ty ty' ty2 ty3:TypeId} {pos pos' pos2 pos3:String} {af af' af2 af3:Array Edge}
theorem Amv {α:Type} {c:Cod α} {s y x i:Operand} {t er0 er el bytes tr tl:Nat} {z v r:Value} {κ:IntKind} {n:Int} {F G:List Nat} {Gs:List (List Nat)} {rs:List Value} {M:List (List α)} {L:List α} {a:α} {cs:List Value} (hT:SlT P t el c.k) (hz:ZeT P el z bytes) (hzk:z.cells.size=c.k) (hel:Nat.beq el 199=false) (hTr:SlT P tr er0 1) (htl:NaT P tl)
    (HO:AI4 c er el h F Gs rs v M) (hr:rs[n.toNat]? =some r) (hL:gI M n=some L) (hG:Gs[n.toNat]? =some G) (hb0:B h) (hbB:∀ h',UpT G h h'->B h') (hs:∀ p,(e.set d p).ev s=r) (hy:e.ev y=c.val cs) (hrep:c.rep h a cs) (hx:∀ p w,((e.set d p).set d' w).ev x=v) (hi:∀ p w,((e.set d p).set d' w).ev i= .int κ n) (hdd:Nat.beq d' d2=false) (hby:bytes<=1000) (hl:L.length<=100000000)
    (H:∀ p q F' Gs' rs' v' h',AI4 c er el h' F' Gs' rs' v (sI M n (L ++ [a]))->UpT F h h'->(∀ x∈F',x∈F∨h.size<=x)->RL P B st ops rest (((e.set d p).set d' v').set d2 q) h' K):
    RL P B st ops (⟨some d,.buildSlice t 1 #[(0,y)],ty,pos,af,none⟩ :: ⟨some d',.call ⟨.builtin .append,#[s,.tmp d],#[t,t]⟩,ty',pos',af',none⟩ :: ⟨some d2,.indexAddr tr x i,ty2,pos2,af2,none⟩ :: ⟨none,.store tl (.tmp d2) (.tmp d'),ty3,pos3,af3,none⟩ :: rest) e h K:=by
  obtain ⟨m,rfl,hL0⟩:=APd hL;rw [Int.toNat_natCast] at hr hG;have hnd:=HO.notD;have hlt:=HO.lt;have hn:=HO.nodup;obtain ⟨b,r0,hFb,hb2,hr0,hm⟩:=AZf HO hL0;obtain ⟨G',hG',HR,hGF⟩:=HO.row hr hL0;rw [hG] at hG';injection hG' with hG';subst hG';have hbG:b ∉ G:=fun hm'=>by rw [hFb] at hn;exact (List.nodup_cons.1 hn).1 (ALl hG hm')
  refine AS2 hT hz hzk hel hb0 hbB hs hy hrep HR hby hl fun p F1 v1 h1 HR1 U1 hF1=>?_;have HO':=HO
  rcases HO' with ⟨rfl,_⟩ | ⟨b',hF',_,h2,h3,h4,h5,h6⟩
  · simp at hL0
  rw [hFb] at hF';injection hF' with hF';subst hF';have h21:=h2.upd (S:=(· ∈G)) U1.1 hbG;have hml:m < M.length:=(List.getElem?_eq_some_iff.1 hL0).1;refine AZe (er:=er) (n:=m) hTr (hx p v1) h21 (hi p v1) (by simpa using hm) ?_;rw [Nat.mul_one]
  have hd1:((((e.set d p).set d' v1).set d2 (.pointer (some ⟨b,m,none⟩))).ev (.tmp d'))=v1:=by
    show (bif Nat.beq d' d2 then _ else (bif Nat.beq d' d' then _ else _))=_;rw [hdd,Nat.beq_eq.mpr rfl];rfl
  have hd2:((((e.set d p).set d' v1).set d2 (.pointer (some ⟨b,m,none⟩))).ev (.tmp d2))= .pointer (some ⟨b,m,none⟩):=Env.set_same _ _ _;refine (APe (n:=m) (el:=er) (g:=b) htl (by rw [Nat.mul_one];exact hd2) hd1 HR1.isOne) v _ h21 (by simpa using hm) fun h' hS hU=>?_;have h22:=hS v _ h21 (by simpa using hm);have hnd1:∀ x∈F,AVp h1 x:=fun x hx=>(hnd x hx).of U1;have U2:UpT [b] h1 h':=AU7 hU (by simp) (fun x hx _=>hnd1 x (by rw [List.mem_singleton.1 hx,hFb];simp)) (h22.notD h3);have UF:UpT F h h':=(U1.mono hGF fun x hx _=>hnd x hx).then U2 fun x hx=> .inl (by rw [List.mem_singleton.1 hx,hFb];simp)
  have hbF1:b ∉ F1:=fun hm'=>by
    rcases hF1 b hm' with h7 | h7
    · exact hbG h7
    · have:=hlt b (by rw [hFb];simp);omega
  have hsub:∀ x∈b :: (Gs.set m F1).flatten,x∈F∨h.size<=x:=by
    intro z hz
    rcases List.mem_cons.1 hz with rfl | hz
    · exact .inl (by simp [hFb])
    · rcases AQ9 hz with h7 | ⟨j,G2,_,hG2,hz⟩
      · rcases hF1 z h7 with h8 | h8
        · exact .inl (hGF z h8)
        · exact .inr h8
      · exact .inl (by rw [hFb];exact List.mem_cons_of_mem _ (ALl hG2 hz))
  have hn2:=hn;rw [hFb] at hn2;have hnf:=List.nodup_cons.1 hn2
  refine H p _ (b :: (Gs.set m F1).flatten) (Gs.set m F1) (rs.set m v1) v1 h' (.inr ⟨b,rfl,?_,by rw [List.map_set];exact h22,h3,by simp [sI,h4],by simp [sI,h5],fun i' G2 r2 L2 hGi hri hLi=>?_⟩) UF hsub
  · refine List.nodup_cons.2 ⟨fun hz=>?_,AT1 hnf.2 HR1.nodup fun z hz j G2 hj hG2 hzG=>?_⟩
    · rcases AQ9 hz with h7 | ⟨j,G2,_,hG2,hz⟩
      · exact hbF1 h7
      · exact hnf.1 (ALl hG2 hz)
    · rcases hF1 z hz with h7 | h7
      · exact Ags hnf.2 hG hG2 (fun he=>hj he.symm) z h7 hzG
      · have:=hlt z (by rw [hFb];exact List.mem_cons_of_mem _ (ALl hG2 hzG));omega
  · by_cases hii:i'=m
    · subst hii;rw [List.getElem?_set_self (by omega)] at hGi hri;simp only [sI,Int.toNat_natCast] at hLi;rw [List.getElem?_set_self (by omega)] at hLi;injection hGi with hGi;injection hri with hri;injection hLi with hLi;subst hGi;subst hri;subst hLi;exact HR1.upT U2 fun z hz hzb=>hbF1 (List.mem_singleton.1 hzb ▸ hz)
    · rw [List.getElem?_set_ne (fun he=>hii he.symm)] at hGi hri;simp only [sI,Int.toNat_natCast] at hLi;rw [List.getElem?_set_ne (fun he=>hii he.symm)] at hLi
      exact ((h6 i' G2 r2 L2 hGi hri hLi).upT U1 fun z hz hzG=>Ags hnf.2 hGi hG hii z hz hzG).upT U2 fun z hz hzb=>by
        rw [List.mem_singleton.1 hzb] at hz;exact hnf.1 (ALl hGi hz)
theorem AYw {α:Type} {c:Cod α} {x1 x2 y1 y2 i1 i2:Operand} {er er0 el tr tl:Nat} {v r1 r2:Value} {κ1 κ2:IntKind} {n1 n2:Int} {F:List Nat} {Gs:List (List Nat)} {rs:List Value} {M:List (List α)} {L1 L2:List α} (hTr:SlT P tr er0 1) (htl:NaT P tl) (HO:AI4 c er el h F Gs rs v M) (hr1:rs[n1.toNat]? =some r1) (hr2:rs[n2.toNat]? =some r2) (hL1:gI M n1=some L1) (hL2:gI M n2=some L2)
    (hx1:e.ev x1=v) (hi1:e.ev i1= .int κ1 n1) (hy1:∀ p,(e.set d p).ev y1=r2) (hx2:∀ p,(e.set d p).ev x2=v) (hi2:∀ p,(e.set d p).ev i2= .int κ2 n2) (hy2:∀ p q,((e.set d p).set d' q).ev y2=r1)
    (H:∀ p q F' Gs' rs' h',AI4 c er el h' F' Gs' rs' v (sI (sI M n1 L2) n2 L1)->UpT F h h'->(∀ x∈F',x∈F∨h.size<=x)->RL P B st ops rest ((e.set d p).set d' q) h' K):
    RL P B st ops (⟨some d,.indexAddr tr x1 i1,ty,pos,af,none⟩ :: ⟨none,.store tl (.tmp d) y1,ty',pos',af',none⟩ :: ⟨some d',.indexAddr tr x2 i2,ty2,pos2,af2,none⟩ :: ⟨none,.store tl (.tmp d') y2,ty3,pos3,af3,none⟩ :: rest) e h K:=by
  obtain ⟨m1,rfl,hM1⟩:=APd hL1;obtain ⟨m2,rfl,hM2⟩:=APd hL2;rw [Int.toNat_natCast] at hr1 hr2;have hnd:=HO.notD;have hlt:=HO.lt;have hn:=HO.nodup;have hm1:=(List.getElem?_eq_some_iff.1 hM1).1;have hm2:=(List.getElem?_eq_some_iff.1 hM2).1;obtain ⟨G1,hG1,HR1,hGF1⟩:=HO.row hr1 hM1;obtain ⟨G2,hG2,HR2,hGF2⟩:=HO.row hr2 hM2
  rcases HO with ⟨rfl,_⟩ | ⟨b,hF,_,h2,h3,h4,h5,h6⟩
  · simp at hM1
  rw [hF] at hn;have hnf:=List.nodup_cons.1 hn;refine AZe (er:=er) (n:=m1) hTr hx1 h2 hi1 (by rw [List.length_map];omega) ?_;rw [Nat.mul_one];refine (APe (n:=m1) (el:=er) (g:=b) htl (by rw [Nat.mul_one];exact Env.set_same _ _ _) (hy1 _) HR2.isOne) v _ h2 (by rw [List.length_map];omega) fun h1 hS1 hU1=>?_;have h21:=hS1 v _ h2 (by rw [List.length_map];omega);refine AZe (er:=er) (n:=m2) hTr (hx2 _) h21 (hi2 _) (by rw [List.length_set,List.length_map];omega) ?_;rw [Nat.mul_one];refine (APe (n:=m2) (el:=er) (g:=b) htl (by rw [Nat.mul_one];exact Env.set_same _ _ _) (hy2 _ _) HR1.isOne) v _ h21 (by rw [List.length_set,List.length_map];omega) fun h' hS2 hU2=>?_;have h22:=hS2 v _ h21 (by rw [List.length_set,List.length_map];omega);have N1:UpT [b] h h1:=AU7 hU1 (by simp) (fun x hx _=>hnd x (by rw [List.mem_singleton.1 hx,hF];simp)) (h21.notD h3);have N2:UpT [b] h1 h':=AU7 hU2 (by simp) (fun x hx hl=>((hnd x (by rw [List.mem_singleton.1 hx,hF];simp))).of N1) (h22.notD h3);have N:UpT [b] h h':=N1.then N2 fun x hx=> .inl hx;have UF:UpT F h h':=N.mono (fun x hx=>by rw [List.mem_singleton.1 hx,hF];simp) fun x hx _=>hnd x hx;have gG:=fun k=>Ac9 (L:=Gs) hG1 hG2 k;have gR:=fun k=>Ac9 (L:=rs) hr1 hr2 k;have gM:=fun k=>Ac9 (L:=M) hM1 hM2 k
  have hsub:∀ x∈b :: ((Gs.set m1 G2).set m2 G1).flatten,x∈F:=by
    intro z hz;rw [hF]
    rcases List.mem_cons.1 hz with rfl | hz
    · simp
    · obtain ⟨G,hG,hzG⟩:=List.mem_flatten.1 hz;obtain ⟨k,hk⟩:=List.getElem?_of_mem hG;rw [gG] at hk;exact List.mem_cons_of_mem _ (ALl hk hzG)
  refine H _ _ (b :: ((Gs.set m1 G2).set m2 G1).flatten) ((Gs.set m1 G2).set m2 G1) ((rs.set m1 r2).set m2 r1) h' (.inr ⟨b,rfl,?_,?_,h3,by simp [sI,h4],by simp [sI,h5],fun k G r L hG hr hL=>?_⟩) UF fun x hx=> .inl (hsub x hx)
  · refine List.nodup_cons.2 ⟨fun hz=>?_,Ag6 (fun k G hk=>?_) fun k l G G' hkl hk hl x hx hx'=>?_⟩
    · obtain ⟨G,hG,hzG⟩:=List.mem_flatten.1 hz;obtain ⟨k,hk⟩:=List.getElem?_of_mem hG;rw [gG] at hk;exact hnf.1 (ALl hk hzG)
    · rw [gG] at hk;have hkl:=(List.getElem?_eq_some_iff.1 hk).1;exact (h6 _ G (rs[swp m1 m2 k]'(by omega)) (M[swp m1 m2 k]'(by omega)) hk (List.getElem?_eq_getElem _) (List.getElem?_eq_getElem _)).nodup
    · rw [gG] at hk hl;exact Ags hnf.2 hk hl (fun he=>hkl (Asx he)) x hx hx'
  · have:(((rs.set m1 r2).set m2 r1).map fun r=>[r])=((rs.map fun r=>[r]).set m1 [r2]).set m2 [r1]:=by rw [List.map_set,List.map_set]
    rw [this];exact h22
  · simp only [sI,Int.toNat_natCast] at hL;rw [gG] at hG;rw [gR] at hr;rw [gM] at hL
    exact (h6 _ G r L hG hr hL).upT N fun x hx hxb=>by
      rw [List.mem_singleton.1 hxb] at hx;exact hnf.1 (ALl hG hx)
end
theorem AVa {a:Nat} {A B:List Nat} (h1:a ∉ A) (h2:a ∉ B):a ∉ A ++ B:=fun h=>by
  rcases List.mem_append.1 h with h | h
  · exact h1 h
  · exact h2 h
theorem AVb {a:Nat}:a ∉ ([]:List Nat):=by simp
theorem AI4.gmem {α:Type} {c:Cod α} {er el:Nat} {h:AHr} {F:List Nat} {Gs:List (List Nat)} {rs:List Value} {v:Value} {M:List (List α)} (H:AI4 c er el h F Gs rs v M) {i g:Nat} (hG:Gs[i]? =some [g]):g∈F:=by
 rcases H with ⟨rfl,_,_,rfl,_⟩ | ⟨b,rfl,_⟩
 ·simp at hG
 ·exact List.mem_cons_of_mem _ (ALl hG (by simp))
theorem SlC.shape {α:Type} {c:Cod α} {h:AHr} {v:Value} {L:List α} (H:SlC c h v L):∃ a n cap,v= .slice a n cap:=by
 obtain ⟨Ls,⟨a,cap,rfl,_⟩,_⟩:=H;exact ⟨_,_,_,rfl⟩
def AL1:Nat:=4294967296 ^ 99
end Go.QF
namespace Go.Proofs.YtmmckalinicpaaaGreatDoor
open Go Go.QF
set_option maxRecDepth 100000
def Ak4 (fuel:Nat) (a b:Int):Option Int:=if a.natAbs < AL1/\b.natAbs < AL1 then some (a + b) else none
def Aum (fuel:Nat) (a b:Int):Option Int:=if a.natAbs < AL1/\b.natAbs < AL1 then some (a - b) else none
def AUy (fuel:Nat) (a b:Int):Option Int:=if a.natAbs * b.natAbs < AL1 then some (a * b) else none
def Ag7 (fuel:Nat) (a:Int):Option Int:=some (-a)
def AUz (fuel:Nat) (a:Int):Option Int:=some a
def AQq (fuel:Nat) (a:Int):Option Int:=if -9223372036854775808<=a/\a<=9223372036854775807 then some a else none
def Aar (fuel:Nat) (a:Int):Option Int:=some (AMa a)
def Afv (fuel:Nat) (a:Int):Option (Int × Bool):=if a.natAbs < 9223372036854775808 then some (a,true) else none
theorem Apz {n:Nat} (h:n < AL1):n < 4294967296 ^ 100:=Nat.lt_trans h (Nat.pow_lt_pow_right (by decide) (by decide))
theorem Ajh {fuel:Nat} {h:AHr} {u v:Value} {a b r:Int} (H1:ZZ h u a) (H2:ZZ h v b) (hp:Ak4 fuel a b=some r):AIj Tryz.prog 188 #[u,v] h (fun x h'=>Ext h h'/\ ∃ (x0:Value),x=x0/\ZZ h' x0 r):=by
 obtain ⟨⟨h1,h2⟩,hp⟩:=ifN hp;cases hp;exact (Abv H1 H2 h1 h2).mono fun x h' hk=>⟨hk.1,x,rfl,hk.2.zz⟩
theorem Avs {fuel:Nat} {h:AHr} {u v:Value} {a b r:Int} (H1:ZZ h u a) (H2:ZZ h v b) (hp:Aum fuel a b=some r):AIj Tryz.prog 139 #[u,v] h (fun x h'=>Ext h h'/\ ∃ (x0:Value),x=x0/\ZZ h' x0 r):=by
 obtain ⟨⟨h1,h2⟩,hp⟩:=ifN hp;cases hp;exact (Aks H1 H2 h1 h2).mono fun x h' hk=>⟨hk.1,x,rfl,hk.2.zz⟩
theorem ATb {fuel:Nat} {h:AHr} {u v:Value} {a b r:Int} (H1:ZZ h u a) (H2:ZZ h v b) (hp:AUy fuel a b=some r):AIj Tryz.prog 140 #[u,v] h (fun x h'=>Ext h h'/\ ∃ (x0:Value),x=x0/\ZZ h' x0 r):=by
 obtain ⟨h1,hp⟩:=ifN hp;cases hp;exact (Ase H1 H2 (Apz h1)).mono fun x h' hk=>⟨hk.1,x,rfl,hk.2.zz⟩
theorem Afw {fuel:Nat} {h:AHr} {u:Value} {a r:Int} (H1:ZZ h u a) (hp:Ag7 fuel a=some r):AIj Tryz.prog 141 #[u] h (fun x h'=>Ext h h'/\ ∃ (x0:Value),x=x0/\ZZ h' x0 r):=by
 cases hp;exact (Akq H1).mono fun x h' hk=>⟨hk.1,x,rfl,hk.2.zz⟩
theorem AWf {fuel:Nat} {h:AHr} {u:Value} {a r:Int} (H1:ZZ h u a) (hp:AUz fuel a=some r):AIj Tryz.prog 147 #[u] h (fun x h'=>Ext h h'/\ ∃ (x0:Value),x=x0/\ZZ h' x0 r):=by
 cases hp;exact (Ad0 H1).mono fun x h' hk=>⟨hk.1,x,rfl,hk.2.zz⟩
theorem APk {fuel:Nat} {h:AHr} {a r:Int} (hp:AQq fuel a=some r):AIj Tryz.prog 123 #[.int .i64 a] h (fun x h'=>Ext h h'/\ ∃ (x0:Value),x=x0/\ZZ h' x0 r):=by
 obtain ⟨h1,hp⟩:=ifN hp;cases hp;exact (Aah h1 h).mono fun x h' hk=>⟨hk.1,x,rfl,hk.2.zz⟩
theorem AZt {fuel:Nat} {h:AHr} {u:Value} {a r:Int} (H1:ZZ h u a) (hp:Aar fuel a=some r):AIj Tryz.prog 137 #[u] h (fun x h'=>Ext h h'/\x= .int .i64 r):=by
 cases hp;exact AXe H1
theorem Ag8 {fuel:Nat} {h:AHr} {u:Value} {a:Int} {r:Int × Bool} (H1:ZZ h u a) (hp:Afv fuel a=some r):AIj Tryz.prog 77 #[u] h (fun x h'=>Ext h h'/\x= .tuple #[.int .i64 r.1,.bool r.2]):=by
 obtain ⟨h1,hp⟩:=ifN hp;cases hp;exact Amm H1 h1
def AZu (fuel:Nat) (a b:Int):Option (Int × Int × Bool):=if a.natAbs < AL1/\b.natAbs < AL1/\b≠0 then some (a / b,a % b,true) else none
theorem Aej {fuel:Nat} {h:AHr} {u v:Value} {a b:Int} {r:Int × Int × Bool} (H1:ZZ h u a) (H2:ZZ h v b) (hp:AZu fuel a b=some r):AIj Tryz.prog 189 #[u,v] h (fun x h'=>Ext h h'/\ ∃ (x0:Value) (x1:Value),x= .tuple #[x0,x1,.bool r.2.2]/\ZZ h' x0 r.1/\ZZ h' x1 r.2.1):=by
 obtain ⟨⟨h1,h2,h3⟩,hp⟩:=ifN hp;cases hp;exact (Ajg H1 H2 h1 h2 h3).mono fun x h' ⟨E,q,r,hx,hq,hr⟩=>⟨E,q,r,hx,hq.zz,hr.zz⟩
end Go.Proofs.YtmmckalinicpaaaGreatDoor
namespace Go.Proofs.YtmmckalinicpaaaGreatDoor
open Go Go.QF
set_option maxRecDepth 100000
set_option maxHeartbeats 4000000
abbrev LnN:=List (List Nat)
abbrev LnA:=List Nat
abbrev LvA:=List Value
abbrev LiI:=List (List Int)
abbrev LiA:=List Int
theorem AHw {α:Type _} {a b:α} (h:some a=some b):a=b:=Option.some.inj h
theorem tt2 {α:Sort _} {β:α->Sort _}:∀ x,β x->True:=fun _ _=>trivial
def AKl (fuel:Nat) (a1:Int) (a5:Int):Option Int:=
  ((AZu fuel a1 a5).bind fun (Ac,Ad,Ae)=>(some Ac))
theorem AN3 {fuel:Nat} {h:AHr} {Ap:Value} {a1:Int} {Ar:Value} {a5:Int} {r:Int} (H3:ZZ h Ap a1) (H7:ZZ h Ar a5) (hp:AKl fuel a1 a5=some r):AIj Tryz.prog 138 #[Ap,Ar] h (fun x h'=>Ext h h'/\ ∃ (x0:Value),x=x0/\ZZ h' x0 r):=by
 unfold AKl at hp;obtain ⟨Aw,rfl,Bi⟩:=H3.cs;obtain ⟨Ax,rfl,Bj⟩:=H7.cs;refine AHx (l:=[_,_]) mx Tryz.func138 rfl rfl rfl rfl rfl (by kernel_rfl) (ACu (ACv (AN2 Aw trivial tt2 rfl rfl fun b9 Ce Bl Af Bm=>AN2 Ax trivial tt2 rfl rfl fun Cf Bn Bo Ag Bp=>AI9 [.bool false,.slice none 0 0] ALz rfl trivial tt2 fun Cg Ch Bq Ac Br=>ACt (q_t (ACu (ACv ?_))))));have Ay:=Af.trans Ag;have Az:=cZ.upT (cZ.upT (cZ.upT Bi Af.upT) Ag.upT) Ac.upT;refine AKr Aw AH9 (cZ.klen Az) rfl ((Bl.ext Ag).ext Ac).agg ?_;have A3:=cZ.upT (cZ.upT (cZ.upT Bj Af.upT) Ag.upT) Ac.upT;refine AKr Ax AH9 (cZ.klen A3) rfl (Bo.ext Ac).agg ?_;obtain ⟨⟨Ci,Cj,Ck⟩,Bt,A4⟩:=AHv hp;dsimp only at A4;refine AHy trivial tt2 rfl (Aej Az.2 A3.2 Bt) fun Cm Bu Ah Bv=>?_;obtain ⟨Cn,Co,rfl,Bw,Bx⟩:=Bv;have A5:=(Ay.trans Ac).trans Ah;obtain ⟨Am,rfl,By⟩:=Bw.cs;obtain ⟨Bz,rfl,B1⟩:=Bx.cs;refine AHo (AI7 rfl rfl (AI7 rfl rfl (AI7 rfl rfl (AI9 [.bool false,.slice none 0 0] ALz rfl trivial tt2 fun Cp B3 B4 Ad B5=>AI9 [.bool false,.slice none 0 0] ALz rfl trivial tt2 fun Cq Cr B6 Aa B7=>?_))));have A6:=A5.trans Ad;have Ai:=((((((AJ8 h h.size).app Bm Af.1 (Nat.le_refl _)).app Bp Ag.1 Af.1).app Br Ac.1 Ay.1).keep Ah.1).app B5 Ad.1 A5.1).app B7 Aa.1 A6.1;have A7:=B4.ext Aa;have Ao:=cZ.upT (cZ.upT By Ad.upT) Aa.upT;refine AIw Am AH9 (cZ.klen Ao) (cZ.klen (cZ.upT (cZ.upT (AIk Bu) Ad.upT) Aa.upT)) rfl rfl (cZ.one Ao) A7 fun Ct A8 B8=>?_;have Ab:=A8.stA B8 (AH8 A7 rfl) rfl;have Aj:=Ai.keep Ab.size;have A9:=B6.upT Ab (Ai.dj 4 3 rfl rfl (by decide));have Ba:=cZ.upT (cZ.upT (cZ.upT B1 Ad.upT) Aa.upT) Ab;refine AIw Bz AH9 (cZ.klen Ba) (cZ.klen (cZ.upT (cZ.upT (AIk B3) Aa.upT) Ab)) rfl rfl (cZ.one Ba) A9 fun Cu B9 Ca=>AHq (ACt (q_t (ACu (ACv ?_))));have Ae:=B9.stA Ca (AH8 A9 rfl) rfl;have Ak:=cZ.upT (cZ.upT Ao Ab) Ae;refine AKr Am AH9 (cZ.klen Ak) rfl (A8.upT Ae (Aj.dj 3 4 rfl rfl (by decide))).agg ?_;have Bb:=((((Bq.ext Ah).ext Ad).ext Aa).upT Ab (Ai.dj 2 3 rfl rfl (by decide))).upT Ae (Aj.dj 2 4 rfl rfl (by decide));refine AIw Am AH9 (cZ.klen Ak) (cZ.klen (cZ.upT (cZ.upT (cZ.upT (cZ.upT (cZ.upT (cZ.upT (AIk Bn) Ac.upT) Ah.upT) Ad.upT) Aa.upT) Ab) Ae)) rfl rfl (cZ.one Ak) Bb fun Cv Bc Cb=>ACt (q_t (AH1 ?_));have Be:=Bc.stA Cb (AH8 Bb rfl) rfl;obtain rfl:=AHw A4;have Bf:=cZ.upT Ak Be;exact ⟨_,AJ7 AH9 (cZ.klen Bf) rfl Bc,((((A6.trans Aa).thenT Ab (Ai.loAll 3 rfl)).thenT Ae (Aj.loAll 4 rfl)).thenT Be ((Aj.keep Ae.size).loAll 2 rfl)),_,rfl,Bf.2⟩
def ANt (fuel:Nat) (a1:Int) (a5:Int):Option Int:=
  ((AZu fuel a1 a5).bind fun (Ad,Ac,Ae)=>(some Ac))
theorem AWg {fuel:Nat} {h:AHr} {Ap:Value} {a1:Int} {Ar:Value} {a5:Int} {r:Int} (H3:ZZ h Ap a1) (H7:ZZ h Ar a5) (hp:ANt fuel a1 a5=some r):AIj Tryz.prog 200 #[Ap,Ar] h (fun x h'=>Ext h h'/\ ∃ (x0:Value),x=x0/\ZZ h' x0 r):=by
 unfold ANt at hp;obtain ⟨Aw,rfl,Bi⟩:=H3.cs;obtain ⟨Ax,rfl,Bj⟩:=H7.cs;refine AHx (l:=[_,_]) mx Tryz.func200 rfl rfl rfl rfl rfl (by kernel_rfl) (ACu (ACv (AN2 Aw trivial tt2 rfl rfl fun b9 Ce Bl Ae Bm=>AN2 Ax trivial tt2 rfl rfl fun Cf Bn Bo Af Bp=>AI9 [.bool false,.slice none 0 0] ALz rfl trivial tt2 fun Cg Ch Bq Ab Br=>ACt (q_t (ACu (ACv ?_))))));have Ay:=Ae.trans Af;have Az:=cZ.upT (cZ.upT (cZ.upT Bi Ae.upT) Af.upT) Ab.upT;refine AKr Aw AH9 (cZ.klen Az) rfl ((Bl.ext Af).ext Ab).agg ?_;have A3:=cZ.upT (cZ.upT (cZ.upT Bj Ae.upT) Af.upT) Ab.upT;refine AKr Ax AH9 (cZ.klen A3) rfl (Bo.ext Ab).agg ?_;obtain ⟨⟨Ci,Cj,Ck⟩,Bt,A4⟩:=AHv hp;dsimp only at A4;refine AHy trivial tt2 rfl (Aej Az.2 A3.2 Bt) fun Cm Bu Ah Bv=>?_;obtain ⟨Cn,Co,rfl,Bw,Bx⟩:=Bv;have A5:=(Ay.trans Ab).trans Ah;obtain ⟨By,rfl,Bz⟩:=Bw.cs;obtain ⟨Ak,rfl,B1⟩:=Bx.cs;refine AHo (AI7 rfl rfl (AI7 rfl rfl (AI7 rfl rfl (AI9 [.bool false,.slice none 0 0] ALz rfl trivial tt2 fun Cp B3 B4 Ac B5=>AI9 [.bool false,.slice none 0 0] ALz rfl trivial tt2 fun Cq Cr B6 Aa B7=>?_))));have A6:=A5.trans Ac;have Ai:=((((((AJ8 h h.size).app Bm Ae.1 (Nat.le_refl _)).app Bp Af.1 Ae.1).app Br Ab.1 Ay.1).keep Ah.1).app B5 Ac.1 A5.1).app B7 Aa.1 A6.1;have A7:=B4.ext Aa;have A8:=cZ.upT (cZ.upT Bz Ac.upT) Aa.upT;refine AIw By AH9 (cZ.klen A8) (cZ.klen (cZ.upT (cZ.upT (AIk Bu) Ac.upT) Aa.upT)) rfl rfl (cZ.one A8) A7 fun Ct B8 B9=>?_;have Ad:=B8.stA B9 (AH8 A7 rfl) rfl;have Am:=Ai.keep Ad.size;have A9:=B6.upT Ad (Ai.dj 4 3 rfl rfl (by decide));have Ao:=cZ.upT (cZ.upT (cZ.upT B1 Ac.upT) Aa.upT) Ad;refine AIw Ak AH9 (cZ.klen Ao) (cZ.klen (cZ.upT (cZ.upT (AIk B3) Aa.upT) Ad)) rfl rfl (cZ.one Ao) A9 fun Cu Ba Ca=>AHq (ACt (q_t (ACu (ACv ?_))));have Ag:=Ba.stA Ca (AH8 A9 rfl) rfl;have Aj:=cZ.upT Ao Ag;refine AKr Ak AH9 (cZ.klen Aj) rfl Ba.agg ?_;have Bb:=((((Bq.ext Ah).ext Ac).ext Aa).upT Ad (Ai.dj 2 3 rfl rfl (by decide))).upT Ag (Am.dj 2 4 rfl rfl (by decide));refine AIw Ak AH9 (cZ.klen Aj) (cZ.klen (cZ.upT (cZ.upT (cZ.upT (cZ.upT (cZ.upT (cZ.upT (AIk Bn) Ab.upT) Ah.upT) Ac.upT) Aa.upT) Ad) Ag)) rfl rfl (cZ.one Aj) Bb fun Cv Bc Cb=>ACt (q_t (AH1 ?_));have Be:=Bc.stA Cb (AH8 Bb rfl) rfl;obtain rfl:=AHw A4;have Bf:=cZ.upT Aj Be;exact ⟨_,AJ7 AH9 (cZ.klen Bf) rfl Bc,((((A6.trans Aa).thenT Ad (Ai.loAll 3 rfl)).thenT Ag (Am.loAll 4 rfl)).thenT Be ((Am.keep Ag.size).loAll 2 rfl)),_,rfl,Bf.2⟩
def APl (fuel:Nat) (a1:Int) (a2:Int) (Aa:Int) (Ac:LiI):Option ((Int × LiI) ⊕ ((LiI))):=
  (if Aa < ((List.replicate (Int.toNat a1) ([]:List Int)).length:Int) then (if 0<=a2/\a2<=100000000 then ((gI Ac Aa).bind fun Ae=>(some (Sum.inl ((w64 (Aa + 1)),(sI Ac Aa (List.replicate (Int.toNat a2) (0:Int))))))) else none) else (some (Sum.inr<| Ac)))
def AKt (fuel:Nat) (a1:Int) (a2:Int):Option LiI:=
  (if 0<=a1/\a1<=100000000 then ((iter (fun s=>APl fuel a1 a2 s.1 s.2) fuel (0,(List.replicate (Int.toNat a1) ([]:List Int)))).bind (fun (Ac:LiI)=>(some Ac))) else none)
theorem ANh {fuel:Nat} {h:AHr} {a1:Int} {a2:Int} {r:LiI} (hp:AKt fuel a1 a2=some r):AIj Tryz.prog 122 #[(.int .i64 a1),(.int .i64 a2)] h (fun x h'=>Ext h h'/\ ∃ (x0:Value) (F0:List Nat) (Bj:List LnA) (Bl:List Value),x=x0/\AI4 cZ 149 104 h' F0 Bj Bl x0 r/\Sp h' h.size [F0]):=by
 unfold AKt at hp;refine AHx (l:=[_,_]) mx Tryz.func122 rfl rfl rfl rfl rfl (by kernel_rfl) (ACu (ACv (AHq (ACt (q_t (ACu (ACv (AHo ?_))))))));obtain ⟨Bm,Bn⟩:=ifN hp;refine AYe cZ 104 AJe Ag5 rfl trivial tt2 rfl rfl (by decide) Bm fun Af Bo Bp v9 h7 I8 E5 S6=>AHq (ACt (q_t (ACu (ACu (ACv (AHo (AKc AJe rfl I8.rd (AHo (ACt (q_t (AHz ?_)))))))))));have Cg:=E5.1;have A6:=(AJ8 h h.size).app S6 E5.1 (Nat.le_refl _);obtain ⟨A7,Br,Bt⟩:=AHv Bn;obtain ⟨Bu,Bv,Bw⟩:=AI0 Br;refine AIy 1046592 (fun x:(Int) × (LiI) × LnA × LnN × LvA=>[(11,(.int .i64 x.1))]) (fun (k:Nat) (x:(Int) × (LiI) × LnA × LnN × LvA) (h':AHr)=>iter Bu k (x.1,x.2.1)=some A7/\UpT (Af ++ []) h7 h'/\Sp h' h.size [x.2.2.1]/\AI4 cZ 149 104 h' x.2.2.1 x.2.2.2.1 x.2.2.2.2 v9 x.2.1/\(∀ z∈x.2.2.1,z∈(Af ++ [])∨Array.size h7<=z)) (by kernel_rfl) fuel ((0,(List.replicate (Int.toNat a1) ([]:List Int)),Af,Bo,Bp):(Int) × (LiI) × LnA × LnN × LvA) ?_ ⟨rfl,trivial⟩ ?_
 ·exact ⟨Bw,UpT.start (AHp I8.notD all_nil),A6,I8,(AH4 rfl)⟩
 rintro Ch ⟨Aa,A8,Ag,Ab,A9⟩ Bx Ar ⟨By,Au,Ah,Ai,Aj⟩;replace Ai:AI4 cZ 149 104 Ar Ag Ab A9 v9 A8:=Ai;replace Aj:∀ z∈Ag,z∈(Af ++ [])∨Array.size h7<=z:=Aj;replace Ah:Sp Ar h.size [Ag]:=Ah;refine (show W _ _ _ (setL [(11,(.int .i64 Aa))] (mix _ Bx _)) Ar from ?_);have Ci:=Au.size;have Av:=E5.thenT Au (AHp (A6.loAll 0 rfl) all_nil);obtain ⟨Bz,Cj,rfl,Ac,Ba⟩:=AIs By;rw [Bv] at Ac;dsimp only at Ac;unfold APl at Ac;refine ACu (ACv (AIp rfl rfl (AI6 _ _) (ACt (q_t (ACu (⟨_,rfl,fun Aw=>?_,fun Aw=>?_⟩))))))
 ·refine AH2 (q_t (ACu (AHz (ACu (ACv (AHo (AHq (ACt (q_t (ACv (AHo (AHo (AHo ?_)))))))))))));obtain ⟨B1,B3⟩:=ifN (AJ2 Ac Aw);refine Ai0 AKh ALz rfl trivial tt2 rfl rfl (by decide) B1 fun Ad B4 B5 B6 Ae B7 B8=>?_;have Bb:=ARl B7 B8;have Ck:=Ae.1;have Bc:=Ah.app Bb Ae.1 Av.1;have B9:=Bb.loAll 0 rfl;obtain ⟨Cm,Be,Ca⟩:=AHv B3;have Bf:=Ai.ext Ae;refine AJs AJe rfl Bf rfl Be fun Ax Cn Cb Co Cp=>AZg AK8 Bf Be Cb rfl rfl B6 (Bc.dj 1 0 rfl rfl (by decide)) fun Cd Ay Az Ce=>?_;have Bg:∀ z∈(Ax :: (Ab.set (Int.toNat Aa) [Ad]).flatten),z∈Ag ++ [Ad]∨Array.size B5<=z:=(fun z hz=> .inl (Ce z hz));have Cq:=Az.size;have Cf:Sp Cd h.size [(Ax :: (Ab.set (Int.toNat Aa) [Ad]).flatten)]:=(((Bc.sel [0,1] (by decide))).mrg).put 0 rfl Ay.nodup Az.size (Av.trans Ae).1 Ay.lt Bg;refine ACt (q_b (q_t (ACv (AJd rfl rfl (AHo (ACt (q_t ?_)))))));obtain rfl:=AHw Ca;exact ⟨Bz,(((w64 (Aa + 1)),(sI A8 Aa (List.replicate (Int.toNat a2) (0:Int))),(Ax :: (Ab.set (Int.toNat Aa) [Ad]).flatten),(Ab.set (Int.toNat Aa) [Ad]),(A9.set (Int.toNat Aa) B4)):(Int) × (LiI) × LnA × LnN × LvA),Nat.lt_succ_self _,⟨Ba,((Au.thenE Ae).then Az (AH6 Aj (AHp (AH4 rfl) all_nil) (by omega))),Cf,Ay,(AH6 Bg (AHp (AH6 Aj (AHp (AH4 rfl) all_nil) (by omega)) (AJw B9 (by omega))) (by omega))⟩,rfl,trivial⟩
 ·obtain rfl:=AHw (AJ3 Ac Aw);have Bh:=Ba;change _=A7 at Bh;subst Bh;have Bi:=Bt;(try dsimp only at Bi);refine AIo (AIq (AIq (AJ5 (q_t (ACu (ACv (AHo (AHq (ACt (q_t (AH1 ?_)))))))))));obtain rfl:=AHw Bi;exact ⟨_,AH5,Av,_,_,_,_,rfl,Ai,Ah⟩
def AN4 (fuel:Nat) (a3:LiI) (Ab:Int) (Af:LiA) (Aa:Int) (Ac:LiI):Option ((Int × LiI) ⊕ ((LiI))):=
  (if Aa < (Af.length:Int) then ((gI Ac Ab).bind fun Ad=>((gI a3 Ab).bind fun Ag=>((gI Ag Aa).bind fun Ah=>((AQq fuel Ah).bind fun Ai=>((gI Ad Aa).bind fun Aj=>(some (Sum.inl ((w64 (Aa + 1)),(sI Ac Ab (sI Ad Aa Ai)))))))))) else (some (Sum.inr<| Ac)))
def AN5 (fuel:Nat) (a3:LiI) (Aa:Int) (Ac:LiI):Option ((Int × LiI) ⊕ ((LiI))):=
  (if Aa < (a3.length:Int) then ((gI a3 Aa).bind fun Ad=>((iter (fun s=>AN4 fuel a3 Aa Ad s.1 s.2) fuel (0,Ac)).bind (fun (Ae:LiI)=>(some (Sum.inl ((w64 (Aa + 1)),Ae)))))) else (some (Sum.inr<| Ac)))
def AN6 (fuel:Nat) (a3:LiI) (Ab:Int):Option ((Int) ⊕ (((LiI × Bool)) ⊕ (Unit))):=
  (if Ab < (a3.length:Int) then ((gI a3 Ab).bind fun Ac=>(if (Ac.length:Int) < 1 then (some (Sum.inr<| Sum.inl <| ([],false))) else (if 16 < (Ac.length:Int) then (some (Sum.inr<| Sum.inl <| ([],false))) else ((gI a3 0).bind fun Ad=>(if ¬ (Ac.length:Int)=(Ad.length:Int) then (some (Sum.inr<| Sum.inl <| ([],false))) else (some (Sum.inl (w64 (Ab + 1))))))))) else (some (Sum.inr<| Sum.inr <| ())))
def AJl (fuel:Nat) (a3:LiI):Option (LiI × Bool):=
  (((if (a3.length:Int) < 1 then (some (Sum.inl <| ([],false))) else (if 16 < (a3.length:Int) then (some (Sum.inl <| ([],false))) else (some (Sum.inr <| ())))):Option (((LiI × Bool)) ⊕ (Unit))).bind (fun ex=>match ex with | Sum.inl Ab=>(some Ab) | Sum.inr (_)=>((iter (fun s=>AN6 fuel a3 s) fuel 0).bind (fun ex=>match ex with | Sum.inl Ac=>(some Ac) | Sum.inr (_)=>((gI a3 0).bind fun Ad=>((AKt fuel (a3.length:Int) (Ad.length:Int)).bind fun Ae=>((iter (fun s=>AN5 fuel a3 s.1 s.2) fuel (0,Ae)).bind (fun (Af:LiI)=>(some (Af,true))))))))))
theorem AQr {fuel:Nat} {h:AHr} {B3:Value} {a3:LiI} {r:(LiI × Bool)} (H2:AM9 (cI .i64) h B3 a3) (hp:AJl fuel a3=some r):AIj Tryz.prog 70 #[B3] h (fun x h'=>Ext h h'/\ ∃ (x0:Value) (F0:List Nat) (C6:List LnA) (C7:List Value),x= .tuple #[x0,.bool r.2]/\AI4 cZ 149 104 h' F0 C6 C7 x0 r.1/\Sp h' h.size [F0]):=by
 unfold AJl at hp;refine AHx (l:=[_]) mx Tryz.func70 rfl rfl rfl rfl rfl (by kernel_rfl) (ACu (ACv (AHq (AHq (ACt (q_t ?_))))));have S0:=AJ8 h h.size;obtain ⟨C8,B6,Be⟩:=AHv hp;refine AMu 130572 (fun x:Unit=>[]) (fun (x:Unit) (h':AHr)=>(Sum.inr <| ())=C8/\UpT [] h h'/\Sp h' h.size []) (by kernel_rfl) ?_ ?_
 ·refine ACu (ACv (AHo (AKc AJg rfl H2 (AIp rfl rfl (AI6 _ _) (AHo ?_)))));rcases Decidable.em ((a3.length:Int) < 1) with Aj | Aj
  ·rw [show decide ((a3.length:Int) < 1)=true from decide_eq_true Aj];refine AH0 12 true (by kernel_rfl) rfl rfl (AH0 12 true (by kernel_rfl) rfl rfl (AH0 12 true (by kernel_rfl) rfl rfl (AIt rfl (ACt (q_t (AIh rfl (ACu (ACv (AHq (AHq (ACt (q_t ?_))))))))))));obtain rfl:=AHw (ifT B6 Aj);have B7:=Be;(try dsimp only at B7);refine AH1 (AIi ?_);obtain rfl:=AHw B7;exact ⟨_,AKj,(Ext.refl _),_,_,_,_,rfl,(AMc cZ 149 104 h),S0.addnil⟩
  ·have B8:=ifF B6 Aj;rw [show decide ((a3.length:Int) < 1)=false from decide_eq_false Aj];refine AH3 12 false (by kernel_rfl) rfl rfl (AHo (AH3 12 false (by kernel_rfl) rfl rfl (AKc AJg rfl H2 (AH3 12 false (by kernel_rfl) rfl rfl (AIp rfl rfl (APf _ _) (AIv rfl (ACt (q_t (⟨_,rfl,fun Bf=>?_,fun Bf=>?_⟩)))))))))
   ·refine ACu (ACv (AHq (AHq (ACt (q_t ?_)))));obtain rfl:=AHw (AJ2 B8 Bf);have B9:=Be;(try dsimp only at B9);refine AH1 (AIi ?_);obtain rfl:=AHw B9;exact ⟨_,AKj,(Ext.refl _),_,_,_,_,rfl,(AMc cZ 149 104 h),S0.addnil⟩
   ·refine AH2 (q_t ?_);have C9:UpT [] h h:=UpT.start all_nil;exact ⟨(():Unit),⟨AHw (AJ3 B8 Bf),C9,S0⟩,trivial⟩
 rintro ⟨⟩ Da Bg ⟨Db,Ca,Bh⟩;replace Bh:Sp Bg h.size []:=Bh;refine (show W _ _ _ (setL [] (mix _ Da _)) Bg from ?_);have Fg:=Ca.size;subst Db;have Cb:=Be;(try dsimp only at Cb);refine ACu (ACu (ACv (AHo (AKc AJg rfl H2 (AHo (ACt (q_t (AHz ?_))))))));obtain ⟨Ak,Dc,A5⟩:=AHv Cb;obtain ⟨Dd,De,Df⟩:=AI0 Dc;refine AIy 2199022731308 (fun x:(Int)=>[(19,(.int .i64 x))]) (fun (k:Nat) (x:(Int)) (h':AHr)=>iter Dd k x=some Ak/\UpT [] Bg h'/\Sp h' h.size []) (by kernel_rfl) fuel (0:(Int)) ?_ ⟨rfl,trivial⟩ ?_
 ·exact ⟨Df,UpT.start all_nil,Bh⟩
 rintro Fh Cd Dg Am ⟨Dh,Bi,Ac⟩;replace Ac:Sp Am h.size []:=Ac;refine (show W _ _ _ (setL [(19,(.int .i64 Cd))] (mix _ Dg _)) Am from ?_);have Fi:=Bi.size;have Ab:=((Ext.refl _).thenT Ca all_nil).thenT Bi all_nil;obtain ⟨Di,Fj,rfl,Ao,Ap⟩:=AIs Dh;rw [De] at Ao;dsimp only at Ao;unfold AN6 at Ao;refine ACu (ACv (AIp rfl rfl (AI6 _ _) (ACt (q_t (ACu (⟨_,rfl,fun Bj=>?_,fun Bj=>?_⟩))))))
 ·refine AH2 (q_t (ACu (AHz (ACu (ACv ?_)))));obtain ⟨Ae,Dj,Ce⟩:=AHv (AJ2 Ao Bj);refine AQz AJg rfl H2 rfl Dj fun Fk Fl Fm Dk Bl=>AIr AKg rfl (AIc Dk Ab) (AHq (ACt (q_t (ACu (ACv (AHo (ALe AJp rfl Bl (AIp rfl rfl (AI6 _ _) (AHo ?_)))))))));rcases Decidable.em ((Ae.length:Int) < 1) with Aq | Aq
  ·rw [show decide ((Ae.length:Int) < 1)=true from decide_eq_true Aq];refine AH0 26 true (by kernel_rfl) rfl rfl (AH0 26 true (by kernel_rfl) rfl rfl (AH0 26 true (by kernel_rfl) rfl rfl (AIt rfl (AHo (AH0 31 true (by kernel_rfl) rfl rfl (AH0 31 true (by kernel_rfl) rfl rfl (AH0 31 true (by kernel_rfl) rfl rfl (AH0 31 true (by kernel_rfl) rfl rfl (AH0 31 true (by kernel_rfl) rfl rfl (AH0 31 true (by kernel_rfl) rfl rfl (AH0 31 true (by kernel_rfl) rfl rfl (AIt rfl (ACt (q_t (AIh rfl (ACu (ACv (AHq (AHq (ACt (q_t ?_)))))))))))))))))))));obtain rfl:=AHw (ifT Ce Aq);have Cf:=Ap;change _=Ak at Cf;subst Cf;have Cg:=A5;(try dsimp only at Cg);refine AH1 (AJ0 (AIi (AIi (AJ0 (AIi ?_)))));obtain rfl:=AHw Cg;exact ⟨_,AKj,Ab,_,_,_,_,rfl,(AMc cZ 149 104 Am),Ac.addnil⟩
  ·have Ch:=ifF Ce Aq;rw [show decide ((Ae.length:Int) < 1)=false from decide_eq_false Aq];refine AH3 26 false (by kernel_rfl) rfl rfl (AHo (AH3 26 false (by kernel_rfl) rfl rfl (ALe AJp rfl Bl (AH3 26 false (by kernel_rfl) rfl rfl (AIp rfl rfl (APf _ _) (AIv rfl (AHo ?_)))))));rcases Decidable.em (16 < (Ae.length:Int)) with Ar | Ar
   ·rw [show decide (16 < (Ae.length:Int))=true from decide_eq_true Ar];refine AH0 31 true (by kernel_rfl) rfl rfl (AH0 31 true (by kernel_rfl) rfl rfl (AH0 31 true (by kernel_rfl) rfl rfl (AH0 31 true (by kernel_rfl) rfl rfl (AH0 31 true (by kernel_rfl) rfl rfl (AH0 31 true (by kernel_rfl) rfl rfl (AH0 31 true (by kernel_rfl) rfl rfl (AIt rfl (ACt (q_t (AIh rfl (ACu (ACv (AHq (AHq (ACt (q_t ?_))))))))))))))));obtain rfl:=AHw (ifT Ch Ar);have Ci:=Ap;change _=Ak at Ci;subst Ci;have Cj:=A5;(try dsimp only at Cj);refine AH1 (AJ0 (AIi (AIi (AJ0 (AIi ?_)))));obtain rfl:=AHw Cj;exact ⟨_,AKj,Ab,_,_,_,_,rfl,(AMc cZ 149 104 Am),Ac.addnil⟩
   ·rw [show decide (16 < (Ae.length:Int))=false from decide_eq_false Ar];refine AH3 31 false (by kernel_rfl) rfl rfl (AHo (AH3 31 false (by kernel_rfl) rfl rfl (ALe AJp rfl Bl (AH3 31 false (by kernel_rfl) rfl rfl (AHo (AH3 31 false (by kernel_rfl) rfl rfl ?_))))));obtain ⟨Fo,Dl,Ck⟩:=AHv (ifF Ch Ar);refine AQz AJg rfl H2 rfl Dl fun Fp Fq Fr Dn Do=>AH3 31 false (by kernel_rfl) rfl rfl (AIr AKg rfl (AIc Dn Ab) (AH3 31 false (by kernel_rfl) rfl rfl (ALe AJp rfl Do (AH3 31 false (by kernel_rfl) rfl rfl (AIp rfl rfl (AP7 _ _) (AIv rfl (ACt (q_t (⟨_,rfl,fun Bm=>?_,fun Bm=>?_⟩)))))))))
    ·refine ACu (ACv (AHq (AHq (ACt (q_t ?_)))));obtain rfl:=AHw (AJ2 Ck Bm);have Cm:=Ap;change _=Ak at Cm;subst Cm;have Cn:=A5;(try dsimp only at Cn);refine AH1 (AJ0 (AIi (AIi (AJ0 (AIi ?_)))));obtain rfl:=AHw Cn;exact ⟨_,AKj,Ab,_,_,_,_,rfl,(AMc cZ 149 104 Am),Ac.addnil⟩
    ·refine AH2 (q_b (q_t (ACv (AJd rfl rfl (AHo (ACt (q_t ?_)))))));obtain rfl:=AHw (AJ3 Ck Bm);exact ⟨Di,((w64 (Cd + 1)):(Int)),Nat.lt_succ_self _,⟨Ap,Bi,Ac⟩,rfl,trivial⟩
 ·obtain rfl:=AHw (AJ3 Ao Bj);have Co:=Ap;change _=Ak at Co;subst Co;have Cp:=A5;(try dsimp only at Cp);refine AIo (AIq (AIq (AJ5 (q_t (ACu (ACv (AHo (AKc AJg rfl H2 (AHo ?_)))))))));obtain ⟨Ft,Dp,Dq⟩:=AHv Cp;refine AQz AJg rfl H2 rfl Dp fun Fu Fv Fw Dr Ds=>AIr AKg rfl (AIc Dr Ab) (ALe AJp rfl Ds ?_);obtain ⟨Dt,Du,Dv⟩:=AHv Dq;refine AHy trivial tt2 rfl (ANh Du) fun A6 Bn Bo Dw=>?_;obtain ⟨Fx,A7,Dx,Dy,rfl,Cq,Dz⟩:=Dw;refine AHq (ACt (q_t (ACu (ACu (ACv (AHo (AKc AJg rfl H2 (AHo (ACt (q_t (AHz ?_)))))))))));have Fy:=Bo.1;have Cr:=Ac.app Dz Bo.1 Ab.1;obtain ⟨Ct,D0,D1⟩:=AHv Dv;obtain ⟨D2,D3,D4⟩:=AI0 D0;refine AIy 151115726325928739996032 (fun x:(Int) × (LiI) × LnA × LnN × LvA=>[(50,(.int .i64 x.1))]) (fun (k:Nat) (x:(Int) × (LiI) × LnA × LnN × LvA) (h':AHr)=>iter D2 k (x.1,x.2.1)=some Ct/\UpT (A7 ++ []) Bn h'/\Sp h' h.size [x.2.2.1]/\AI4 cZ 149 104 h' x.2.2.1 x.2.2.2.1 x.2.2.2.2 A6 x.2.1/\(∀ z∈x.2.2.1,z∈(A7 ++ [])∨Array.size Bn<=z)) (by kernel_rfl) fuel ((0,Dt,A7,Dx,Dy):(Int) × (LiI) × LnA × LnN × LvA) ?_ ⟨rfl,trivial⟩ ?_
  ·exact ⟨D4,UpT.start (AHp Cq.notD all_nil),Cr,Cq,(AH4 rfl)⟩
  rintro Fz ⟨Au,Cu,Ad,Cv,Cw⟩ D5 Af ⟨D6,Bp,Av,Aw,A8⟩;replace Aw:AI4 cZ 149 104 Af Ad Cv Cw A6 Cu:=Aw;replace A8:∀ z∈Ad,z∈(A7 ++ [])∨Array.size Bn<=z:=A8;replace Av:Sp Af h.size [Ad]:=Av;refine (show W _ _ _ (setL [(50,(.int .i64 Au))] (mix _ D5 _)) Af from ?_);have F4:=Bp.size;have Bq:=(Ab.trans Bo).thenT Bp (AHp (Cr.loAll 0 rfl) all_nil);obtain ⟨D7,F5,rfl,Ax,Cx⟩:=AIs D6;rw [D3] at Ax;dsimp only at Ax;unfold AN5 at Ax;refine ACu (ACv (AIp rfl rfl (AI6 _ _) (ACt (q_t (ACu (⟨_,rfl,fun Br=>?_,fun Br=>?_⟩))))))
  ·refine AH2 (q_t (ACu (AHz (ACu (ACv (AHo (AHq (ACt (q_t (ACu (ACv (AHo (AHo ?_)))))))))))));obtain ⟨F6,D8,D9⟩:=AHv (AJ2 Ax Br);refine AQz AJg rfl H2 rfl D8 fun F7 F8 F9 Ea Eb=>AIr AKg rfl (AIc Ea Bq) (ALe AJp rfl Eb (AHo (ACt (q_t (AHz ?_)))));obtain ⟨Cy,Ec,Ed⟩:=AHv D9;obtain ⟨Ee,Ef,Eg⟩:=AI0 Ec;refine AIy 75557575495538171707648 (fun x:(Int) × (LiI) × LnA × LnN × LvA=>[(58,(.int .i64 x.1))]) (fun (k:Nat) (x:(Int) × (LiI) × LnA × LnN × LvA) (h':AHr)=>iter Ee k (x.1,x.2.1)=some Cy/\UpT (Ad ++ []) Af h'/\Sp h' h.size [x.2.2.1]/\AI4 cZ 149 104 h' x.2.2.1 x.2.2.2.1 x.2.2.2.2 A6 x.2.1/\(∀ z∈x.2.2.1,z∈(Ad ++ [])∨Array.size Af<=z)) (by kernel_rfl) fuel ((0,Cu,Ad,Cv,Cw):(Int) × (LiI) × LnA × LnN × LvA) ?_ ⟨rfl,trivial⟩ ?_
   ·exact ⟨Eg,UpT.start (AHp Aw.notD all_nil),Av,Aw,(AH4 rfl)⟩
   rintro Ga ⟨Bt,Bu,Ay,Bv,Bw⟩ Eh Ag ⟨Ei,A9,Ba,Ah,Az⟩;replace Ah:AI4 cZ 149 104 Ag Ay Bv Bw A6 Bu:=Ah;replace Az:∀ z∈Ay,z∈(Ad ++ [])∨Array.size Af<=z:=Az;replace Ba:Sp Ag h.size [Ay]:=Ba;refine (show W _ _ _ (setL [(58,(.int .i64 Bt))] (mix _ Eh _)) Ag from ?_);have Gb:=A9.size;have Cz:=Bq.thenT A9 (AHp (Av.loAll 0 rfl) all_nil);obtain ⟨Ej,Gc,rfl,A3,C0⟩:=AIs Ei;rw [Ef] at A3;dsimp only at A3;unfold AN4 at A3;refine ACu (ACv (AIp rfl rfl (AI6 _ _) (ACt (q_t (ACu (⟨_,rfl,fun Bx=>?_,fun Bx=>?_⟩))))))
   ·refine AH2 (q_t (ACu (AHz (ACu (ACv (AHo (AHq (ACt (q_t (AKf (fun h'=>UpT [] Ag h') (by kernel_rfl) ?_))))))))));have A4:UpT [] Ag Ag:=UpT.start all_nil;refine AHo (AHo ?_);obtain ⟨Ek,By,El⟩:=AHv (AJ2 A3 Bx);refine AJs AJe rfl Ah rfl By fun Gd Ge Gf Em En=>AK1 AK8 rfl A4 (fun h' hb=>AIc En hb.ext) (AHo (AHo (AHo ?_)));obtain ⟨Gg,Eo,Ep⟩:=AHv El;refine AQz AJg rfl H2 rfl Eo fun Gh Gi Gj Er Es=>AK1 AKg rfl A4 (fun h' hb=>AIc Er (Cz.trans hb.ext)) (AHo ?_);obtain ⟨Gk,Et,Eu⟩:=AHv Ep;refine AR4 (c:=(cI .i64)) AJp rfl Es rfl Et fun Gl Gm Gn Ev Ew=>?_;obtain rfl:=Ev;refine AK1 ALy rfl A4 (fun h' hb=>AIc (Ew 0 _ rfl) (Cz.trans hb.ext)) ?_;obtain ⟨Ey,Ez,Fa⟩:=AHv Eu;refine AHy A4 (fun _ E=>A4.thenE E) rfl (APk Ez) fun Gp Gq Bb Fb=>?_;obtain ⟨Gr,rfl,Fc⟩:=Fb;have Gt:=Bb.1;obtain ⟨Gu,rfl,Bz⟩:=Fc.cs;obtain ⟨Gv,C1,Fd⟩:=AHv Fa;refine ALr (m:=Au) AKh rfl Ah Em By rfl C1 fun Gw Fe=>APj (m:=Au) (AUw AH9 (cZ.klen Bz) rfl rfl (cZ.one Bz)) (Ah.ext Bb) Fe By C1 Bz fun Gx Ff B1=>ACt (q_b (q_t (ACv (AJd rfl rfl (AHo (ACt (q_t ?_)))))));have Gy:=B1.size;obtain rfl:=AHw Fd;exact ⟨Ej,(((w64 (Bt + 1)),(sI Bu Au (sI Ek Bt Ey)),Ay,Bv,Bw):(Int) × (LiI) × LnA × LnN × LvA),Nat.lt_succ_self _,⟨C0,((A9.thenE Bb).then B1 (AH6 Az (AHp (AH4 rfl) all_nil) (by omega))),((Ba.keep Bb.1).keep B1.size),Ff,(AH6 Az (AHp (AH4 rfl) all_nil) (by omega))⟩,rfl,trivial⟩
   ·obtain rfl:=AHw (AJ3 A3 Bx);have C2:=C0;change _=Cy at C2;subst C2;have C3:=Ed;(try dsimp only at C3);refine AIo (AIq (AIq (AJ5 (q_b (q_t (ACv (AJd rfl rfl (AHo (ACt (q_t ?_))))))))));obtain rfl:=AHw C3;exact ⟨D7,(((w64 (Au + 1)),Bu,Ay,Bv,Bw):(Int) × (LiI) × LnA × LnN × LvA),Nat.lt_succ_self _,⟨Cx,(Bp.then A9 (AHp (AH6 A8 (AHp (AH4 rfl) all_nil) (by omega)) all_nil)),Ba,Ah,(AH6 Az (AHp (AH6 A8 (AHp (AH4 rfl) all_nil) (by omega)) all_nil) (by omega))⟩,rfl,trivial⟩
  ·obtain rfl:=AHw (AJ3 Ax Br);have C4:=Cx;change _=Ct at C4;subst C4;have C5:=D1;(try dsimp only at C5);refine AIo (AIq (AIq (AJ5 (q_t (ACu (ACv (AHo (AHq (AHq (ACt (q_t (AH1 ?_))))))))))));obtain rfl:=AHw C5;exact ⟨_,AKj,Bq,_,_,_,_,rfl,Aw,Av⟩
def ALm (fuel:Nat) (a3:LiI):Option LiI:=
  ((AJl fuel a3).bind fun (x5,x6)=>(some x5))
theorem AQn {fuel:Nat} {h:AHr} {Aa:Value} {a3:LiI} {r:LiI} (H2:AM9 (cI .i64) h Aa a3) (hp:ALm fuel a3=some r):AIj Tryz.prog 46 #[Aa] h (fun x h'=>Ext h h'/\ ∃ (x0:Value) (F0:List Nat) (Ah:List LnA) (Ai:List Value),x=x0/\AI4 cZ 149 104 h' F0 Ah Ai x0 r/\Sp h' h.size [F0]):=by
 unfold ALm at hp;refine AHx (l:=[_]) mx Tryz.func46 rfl rfl rfl rfl rfl (by kernel_rfl) (ACu (ACv (AHq (ACt (q_t (ACu (ACv (AHo ?_))))))));obtain ⟨⟨x5,x6⟩,Aj,Ae⟩:=AHv hp;dsimp only at Ae;refine AHy trivial tt2 rfl (AQr H2 Aj) fun Ar Au E9 Ak=>?_;obtain ⟨Av,Aw,Ax,Ay,rfl,Am,Ao⟩:=Ak;refine AHo (AI7 rfl rfl (AI7 rfl rfl (AHq (AHq (ACt (q_t (ACu (ACv (AHo (AHq (ACt (q_t (AH1 ?_)))))))))))));obtain rfl:=AHw Ae;exact ⟨_,AH5,E9,_,_,_,_,rfl,Am,((AJ8 h h.size).app Ao E9.1 (Nat.le_refl _))⟩
def AL5 (fuel:Nat) (a3:LiI) (Ab:Int):Option ((Int) ⊕ (((Int × Int × Bool)) ⊕ (Unit))):=
  (if Ab < (a3.length:Int) then ((gI a3 Ab).bind fun Ac=>(if (Ac.length:Int) < 1 then (some (Sum.inr<| Sum.inl <| (0,0,false))) else (if 16 < (Ac.length:Int) then (some (Sum.inr<| Sum.inl <| (0,0,false))) else ((gI a3 0).bind fun Ad=>(if ¬ (Ac.length:Int)=(Ad.length:Int) then (some (Sum.inr<| Sum.inl <| (0,0,false))) else (some (Sum.inl (w64 (Ab + 1))))))))) else (some (Sum.inr<| Sum.inr <| ())))
def AJi (fuel:Nat) (a3:LiI):Option (Int × Int × Bool):=
  (((if (a3.length:Int) < 1 then (some (Sum.inl <| (0,0,false))) else (if 16 < (a3.length:Int) then (some (Sum.inl <| (0,0,false))) else (some (Sum.inr <| ())))):Option (((Int × Int × Bool)) ⊕ (Unit))).bind (fun ex=>match ex with | Sum.inl Ab=>(some Ab) | Sum.inr (_)=>((iter (fun s=>AL5 fuel a3 s) fuel 0).bind (fun ex=>match ex with | Sum.inl Ac=>(some Ac) | Sum.inr (_)=>((gI a3 0).bind fun Ad=>(some ((a3.length:Int),(Ad.length:Int),true)))))))
theorem ANb {fuel:Nat} {h:AHr} {Ax:Value} {a3:LiI} {r:(Int × Int × Bool)} (H2:AM9 cZ h Ax a3) (hp:AJi fuel a3=some r):AIj Tryz.prog 152 #[Ax] h (fun x h'=>Ext h h'/\x= .tuple #[.int .i64 r.1,.int .i64 r.2.1,.bool r.2.2]):=by
 unfold AJi at hp;refine AHx (l:=[_]) mx Tryz.func152 rfl rfl rfl rfl rfl (by kernel_rfl) (ACu (ACv (AHq (AHq (AHq (ACt (q_t ?_)))))));obtain ⟨Bm,Ay,Am⟩:=AHv hp;refine AMu 32668 (fun x:Unit=>[]) (fun (x:Unit) (h':AHr)=>(Sum.inr <| ())=Bm/\UpT [] h h'/\Sp h' h.size []) (by kernel_rfl) ?_ ?_
 ·refine ACu (ACv (AHo (AKc AJe rfl H2 (AIp rfl rfl (AI6 _ _) (AHo ?_)))));rcases Decidable.em ((a3.length:Int) < 1) with Ae | Ae
  ·rw [show decide ((a3.length:Int) < 1)=true from decide_eq_true Ae];refine AH0 10 true (by kernel_rfl) rfl rfl (AH0 10 true (by kernel_rfl) rfl rfl (AH0 10 true (by kernel_rfl) rfl rfl (AIt rfl (ACt (q_t (AIh rfl (ACu (ACv (AHq (AHq (AHq (ACt (q_t ?_)))))))))))));obtain rfl:=AHw (ifT Ay Ae);have Az:=Am;(try dsimp only at Az);refine AH1 (AIi ?_);obtain rfl:=AHw Az;exact ⟨_,AO3,(Ext.refl _),rfl⟩
  ·have A3:=ifF Ay Ae;rw [show decide ((a3.length:Int) < 1)=false from decide_eq_false Ae];refine AH3 10 false (by kernel_rfl) rfl rfl (AHo (AH3 10 false (by kernel_rfl) rfl rfl (AKc AJe rfl H2 (AH3 10 false (by kernel_rfl) rfl rfl (AIp rfl rfl (APf _ _) (AIv rfl (ACt (q_t (⟨_,rfl,fun Ao=>?_,fun Ao=>?_⟩)))))))))
   ·refine ACu (ACv (AHq (AHq (AHq (ACt (q_t ?_))))));obtain rfl:=AHw (AJ2 A3 Ao);have A4:=Am;(try dsimp only at A4);refine AH1 (AIi ?_);obtain rfl:=AHw A4;exact ⟨_,AO3,(Ext.refl _),rfl⟩
   ·refine AH2 (q_t ?_);have Bn:UpT [] h h:=UpT.start all_nil;exact ⟨(():Unit),⟨AHw (AJ3 A3 Ao),Bn,(AJ8 h h.size)⟩,trivial⟩
 rintro ⟨⟩ Bo Ap ⟨Bp,Bq,Aq⟩;replace Aq:Sp Ap h.size []:=Aq;refine (show W _ _ _ (setL [] (mix _ Bo _)) Ap from ?_);subst Bp;have A5:=Am;(try dsimp only at A5);refine ACu (ACu (ACv (AHo (AKc AJe rfl H2 (AHo (ACt (q_t (AHz ?_))))))));obtain ⟨Af,Br,Ak⟩:=AHv A5;obtain ⟨Bt,Bu,Bv⟩:=AI0 Br;refine AIy 549755682908 (fun x:(Int)=>[(17,(.int .i64 x))]) (fun (k:Nat) (x:(Int)) (h':AHr)=>iter Bt k x=some Af/\UpT [] Ap h'/\Sp h' h.size []) (by kernel_rfl) fuel (0:(Int)) ?_ ⟨rfl,trivial⟩ ?_
 ·exact ⟨Bv,UpT.start all_nil,Aq⟩
 rintro Ca A6 Bw A7 ⟨Bx,A8,Ar⟩;replace Ar:Sp A7 h.size []:=Ar;refine (show W _ _ _ (setL [(17,(.int .i64 A6))] (mix _ Bw _)) A7 from ?_);have Ab:=((Ext.refl _).thenT Bq all_nil).thenT A8 all_nil;obtain ⟨By,Cb,rfl,Ag,Ah⟩:=AIs Bx;rw [Bu] at Ag;dsimp only at Ag;unfold AL5 at Ag;refine ACu (ACv (AIp rfl rfl (AI6 _ _) (ACt (q_t (ACu (⟨_,rfl,fun Au=>?_,fun Au=>?_⟩))))))
 ·refine AH2 (q_t (ACu (AHz (ACu (ACv ?_)))));obtain ⟨Ac,Bz,A9⟩:=AHv (AJ2 Ag Au);refine AQz AJe rfl H2 rfl Bz fun Cd Ce Cf B1 Av=>AIr AK8 rfl (AIc B1 Ab) (AHq (ACt (q_t (ACu (ACv (AHo (ALe AKh rfl Av (AIp rfl rfl (AI6 _ _) (AHo ?_)))))))));rcases Decidable.em ((Ac.length:Int) < 1) with Ai | Ai
  ·rw [show decide ((Ac.length:Int) < 1)=true from decide_eq_true Ai];refine AH0 24 true (by kernel_rfl) rfl rfl (AH0 24 true (by kernel_rfl) rfl rfl (AH0 24 true (by kernel_rfl) rfl rfl (AIt rfl (AHo (AH0 29 true (by kernel_rfl) rfl rfl (AH0 29 true (by kernel_rfl) rfl rfl (AH0 29 true (by kernel_rfl) rfl rfl (AH0 29 true (by kernel_rfl) rfl rfl (AH0 29 true (by kernel_rfl) rfl rfl (AH0 29 true (by kernel_rfl) rfl rfl (AH0 29 true (by kernel_rfl) rfl rfl (AIt rfl (ACt (q_t (AIh rfl (ACu (ACv (AHq (AHq (AHq (ACt (q_t ?_))))))))))))))))))))));obtain rfl:=AHw (ifT A9 Ai);have Ba:=Ah;change _=Af at Ba;subst Ba;have Bb:=Ak;(try dsimp only at Bb);refine AH1 (AJ0 (AIi (AIi (AJ0 (AIi ?_)))));obtain rfl:=AHw Bb;exact ⟨_,AO3,Ab,rfl⟩
  ·have Bc:=ifF A9 Ai;rw [show decide ((Ac.length:Int) < 1)=false from decide_eq_false Ai];refine AH3 24 false (by kernel_rfl) rfl rfl (AHo (AH3 24 false (by kernel_rfl) rfl rfl (ALe AKh rfl Av (AH3 24 false (by kernel_rfl) rfl rfl (AIp rfl rfl (APf _ _) (AIv rfl (AHo ?_)))))));rcases Decidable.em (16 < (Ac.length:Int)) with Aj | Aj
   ·rw [show decide (16 < (Ac.length:Int))=true from decide_eq_true Aj];refine AH0 29 true (by kernel_rfl) rfl rfl (AH0 29 true (by kernel_rfl) rfl rfl (AH0 29 true (by kernel_rfl) rfl rfl (AH0 29 true (by kernel_rfl) rfl rfl (AH0 29 true (by kernel_rfl) rfl rfl (AH0 29 true (by kernel_rfl) rfl rfl (AH0 29 true (by kernel_rfl) rfl rfl (AIt rfl (ACt (q_t (AIh rfl (ACu (ACv (AHq (AHq (AHq (ACt (q_t ?_)))))))))))))))));obtain rfl:=AHw (ifT Bc Aj);have Be:=Ah;change _=Af at Be;subst Be;have Bf:=Ak;(try dsimp only at Bf);refine AH1 (AJ0 (AIi (AIi (AJ0 (AIi ?_)))));obtain rfl:=AHw Bf;exact ⟨_,AO3,Ab,rfl⟩
   ·rw [show decide (16 < (Ac.length:Int))=false from decide_eq_false Aj];refine AH3 29 false (by kernel_rfl) rfl rfl (AHo (AH3 29 false (by kernel_rfl) rfl rfl (ALe AKh rfl Av (AH3 29 false (by kernel_rfl) rfl rfl (AHo (AH3 29 false (by kernel_rfl) rfl rfl ?_))))));obtain ⟨Cg,B3,Bg⟩:=AHv (ifF Bc Aj);refine AQz AJe rfl H2 rfl B3 fun Ch Ci Cj B4 B5=>AH3 29 false (by kernel_rfl) rfl rfl (AIr AK8 rfl (AIc B4 Ab) (AH3 29 false (by kernel_rfl) rfl rfl (ALe AKh rfl B5 (AH3 29 false (by kernel_rfl) rfl rfl (AIp rfl rfl (AP7 _ _) (AIv rfl (ACt (q_t (⟨_,rfl,fun Aw=>?_,fun Aw=>?_⟩)))))))))
    ·refine ACu (ACv (AHq (AHq (AHq (ACt (q_t ?_))))));obtain rfl:=AHw (AJ2 Bg Aw);have Bh:=Ah;change _=Af at Bh;subst Bh;have Bi:=Ak;(try dsimp only at Bi);refine AH1 (AJ0 (AIi (AIi (AJ0 (AIi ?_)))));obtain rfl:=AHw Bi;exact ⟨_,AO3,Ab,rfl⟩
    ·refine AH2 (q_b (q_t (ACv (AJd rfl rfl (AHo (ACt (q_t ?_)))))));obtain rfl:=AHw (AJ3 Bg Aw);exact ⟨By,((w64 (A6 + 1)):(Int)),Nat.lt_succ_self _,⟨Ah,A8,Ar⟩,rfl,trivial⟩
 ·obtain rfl:=AHw (AJ3 Ag Au);have Bj:=Ah;change _=Af at Bj;subst Bj;have Bl:=Ak;(try dsimp only at Bl);refine AIo (AIq (AIq (AJ5 (q_t (ACu (ALp (by kernel_rfl) (AHo (AKc AJe rfl H2 (AHo ?_)))))))));obtain ⟨Ck,B6,B7⟩:=AHv Bl;refine AQz AJe rfl H2 rfl B6 fun Cm Cn Co B8 B9=>AIr AK8 rfl (AIc B8 Ab) (ALe AKh rfl B9 (AHq (AHq (AHq (ACt (q_t (AH1 ?_)))))));obtain rfl:=AHw B7;exact ⟨_,AO3,Ab,rfl⟩
def AKz (fuel:Nat) (a3:LiI):Option (Int × Bool):=
  ((AJi fuel a3).bind fun (x5,x6,x7)=>(if (!x7)=true then (some (0,false)) else (if ¬ x5=x6 then (some (0,false)) else (some (x5,true)))))
theorem ARg {fuel:Nat} {h:AHr} {Ad:Value} {a3:LiI} {r:(Int × Bool)} (H2:AM9 cZ h Ad a3) (hp:AKz fuel a3=some r):AIj Tryz.prog 124 #[Ad] h (fun x h'=>Ext h h'/\x= .tuple #[.int .i64 r.1,.bool r.2]):=by
 unfold AKz at hp;refine AHx (l:=[_]) mx Tryz.func124 rfl rfl rfl rfl rfl (by kernel_rfl) (ACu (ACv (AHq (AHq (ACt (q_t (ACu (ACv (AHo ?_)))))))));obtain ⟨⟨x5,x6,x7⟩,Aj,Aa⟩:=AHv hp;dsimp only at Aa;refine AHy trivial tt2 rfl (ANb H2 Aj) fun Ap Aq Ab Ak=>?_;subst Ak;refine AHo (AI7 rfl rfl (AI7 rfl rfl (AI7 rfl rfl (AHq (AHq (AHq (ACt (q_t (ACu (ACu (ACv (AHo (AMj rfl (AHo ?_))))))))))))));cases Af:(!x7)
 ·refine AH3 15 false (by kernel_rfl) rfl rfl (AHo (AH3 15 false (by kernel_rfl) rfl rfl (AHo (AH3 15 false (by kernel_rfl) rfl rfl (AIp rfl rfl (AP7 _ _) (AIv rfl (ACt (q_t ?_))))))));have Ag:=AQm Aa Af;refine ⟨_,rfl,fun Ac=>?_,fun Ac=>?_⟩
  ·refine ACu (ACv (AHq (AHq (ACt (q_t (AH1 (AIi ?_)))))));obtain rfl:=AHw (AJ2 Ag Ac);exact ⟨_,AKj,Ab,rfl⟩
  ·refine AH2 (q_t (ACu (ACv (AHo (AHq (AHq (ACt (q_t (AH1 ?_)))))))));obtain rfl:=AHw (AJ3 Ag Ac);exact ⟨_,AKj,Ab,rfl⟩
 ·refine AH0 15 true (by kernel_rfl) rfl rfl (AH0 15 true (by kernel_rfl) rfl rfl (AH0 15 true (by kernel_rfl) rfl rfl (AIt rfl (ACt (q_t (AIh rfl (ACu (ACv (AHq (AHq (ACt (q_t (AH1 (AIi ?_))))))))))))));obtain rfl:=AHw (ifT Aa Af);exact ⟨_,AKj,Ab,rfl⟩
def APm (fuel:Nat) (Ac:Int) (Ad:LiA) (Aa:Int) (Ab:LiI):Option ((Int × LiI) ⊕ ((LiI))):=
  (if Aa < (Ad.length:Int) then ((gI Ad Aa).bind fun Af=>((gI Ab Ac).bind fun Ae=>((AUz fuel Af).bind fun Ag=>(if Ae.length<=100000000 then (some (Sum.inl ((w64 (Aa + 1)),(sI Ab Ac (Ae ++ [Ag]))))) else none)))) else (some (Sum.inr<| Ab)))
def APn (fuel:Nat) (a3:LiI) (Aa:Int) (Ac:LiI):Option ((Int × LiI) ⊕ ((LiI))):=
  (if Aa < (a3.length:Int) then ((gI a3 Aa).bind fun Ad=>((iter (fun s=>APm fuel Aa Ad s.1 s.2) fuel (0,Ac)).bind (fun (Ae:LiI)=>(some (Sum.inl ((w64 (Aa + 1)),Ae)))))) else (some (Sum.inr<| Ac)))
def AMe (fuel:Nat) (a3:LiI):Option LiI:=
  (if 0<=(a3.length:Int)/\(a3.length:Int)<=100000000 then ((iter (fun s=>APn fuel a3 s.1 s.2) fuel (0,(List.replicate (Int.toNat (a3.length:Int)) ([]:List Int)))).bind (fun (Ab:LiI)=>(some Ab))) else none)
theorem AR5 {fuel:Nat} {h:AHr} {Bh:Value} {a3:LiI} {r:LiI} (H2:AM9 cZ h Bh a3) (hp:AMe fuel a3=some r):AIj Tryz.prog 85 #[Bh] h (fun x h'=>Ext h h'/\ ∃ (x0:Value) (F0:List Nat) (Cg:List LnA) (Ch:List Value),x=x0/\AI4 cZ 149 104 h' F0 Cg Ch x0 r/\Sp h' h.size [F0]):=by
 unfold AMe at hp;refine AHx (l:=[_]) mx Tryz.func85 rfl rfl rfl rfl rfl (by kernel_rfl) (ACu (ACv (AHq (ACt (q_t (ACu (ACv (AHo (AKc AJe rfl H2 ?_)))))))));obtain ⟨Ci,Cj⟩:=ifN hp;refine AYe cZ 104 AJe Ag5 rfl trivial tt2 rfl rfl (by decide) Ci fun Am Ck Cm v11 h9 Bl E7 S8=>AHq (ACt (q_t (ACu (ACu (ACv (AHo (AKc AJe rfl H2 (AHo (ACt (q_t (AHz ?_)))))))))));have Dz:=E7.1;have Bm:=(AJ8 h h.size).app S8 E7.1 (Nat.le_refl _);obtain ⟨Bn,Co,Cp⟩:=AHv Cj;obtain ⟨Cq,Cr,Ct⟩:=AI0 Co;refine AIy 137438949456 (fun x:(Int) × (LiI) × LnA × LnN × LvA=>[(12,(.int .i64 x.1))]) (fun (k:Nat) (x:(Int) × (LiI) × LnA × LnN × LvA) (h':AHr)=>iter Cq k (x.1,x.2.1)=some Bn/\UpT (Am ++ []) h9 h'/\Sp h' h.size [x.2.2.1]/\AI4 cZ 149 104 h' x.2.2.1 x.2.2.2.1 x.2.2.2.2 v11 x.2.1/\(∀ z∈x.2.2.1,z∈(Am ++ [])∨Array.size h9<=z)) (by kernel_rfl) fuel ((0,(List.replicate (Int.toNat (a3.length:Int)) ([]:List Int)),Am,Ck,Cm):(Int) × (LiI) × LnA × LnN × LvA) ?_ ⟨rfl,trivial⟩ ?_
 ·exact ⟨Ct,UpT.start (AHp Bl.notD all_nil),Bm,Bl,(AH4 rfl)⟩
 rintro D0 ⟨u32,Bo,Aa,Bp,Bq⟩ Cu Ac ⟨Cv,A4,Af,Ag,Ao⟩;replace Ag:AI4 cZ 149 104 Ac Aa Bp Bq v11 Bo:=Ag;replace Ao:∀ z∈Aa,z∈(Am ++ [])∨Array.size h9<=z:=Ao;replace Af:Sp Ac h.size [Aa]:=Af;refine (show W _ _ _ (setL [(12,(.int .i64 u32))] (mix _ Cu _)) Ac from ?_);have D1:=A4.size;have A5:=E7.thenT A4 (AHp (Bm.loAll 0 rfl) all_nil);obtain ⟨Cw,D2,rfl,Ah,Br⟩:=AIs Cv;rw [Cr] at Ah;dsimp only at Ah;unfold APn at Ah;refine ACu (ACv (AIp rfl rfl (AI6 _ _) (ACt (q_t (ACu (⟨_,rfl,fun A6=>?_,fun A6=>?_⟩))))))
 ·refine AH2 (q_t (ACu (AHz (ACu (ACv (AHo (AHq (ACt (q_t (ACu (ACv (AHo (AHo ?_)))))))))))));obtain ⟨D3,Cx,Cy⟩:=AHv (AJ2 Ah A6);refine AQz AJe rfl H2 rfl Cx fun D4 D5 D6 Cz Bt=>AIr AK8 rfl (AIc Cz A5) (ALe AKh rfl Bt (AHo (ACt (q_t (AHz ?_)))));obtain ⟨Bu,C0,C1⟩:=AHv Cy;obtain ⟨C2,C3,C4⟩:=AI0 C0;refine AIy 68718428224 (fun x:(Int) × (LiI) × LnA × LnN × LvA=>[(20,(.int .i64 x.1))]) (fun (k:Nat) (x:(Int) × (LiI) × LnA × LnN × LvA) (h':AHr)=>iter C2 k (x.1,x.2.1)=some Bu/\UpT (Aa ++ []) Ac h'/\Sp h' h.size [x.2.2.1]/\AI4 cZ 149 104 h' x.2.2.1 x.2.2.2.1 x.2.2.2.2 v11 x.2.1/\(∀ z∈x.2.2.1,z∈(Aa ++ [])∨Array.size Ac<=z)) (by kernel_rfl) fuel ((0,Bo,Aa,Bp,Bq):(Int) × (LiI) × LnA × LnN × LvA) ?_ ⟨rfl,trivial⟩ ?_
  ·exact ⟨C4,UpT.start (AHp Ag.notD all_nil),Af,Ag,(AH4 rfl)⟩
  rintro D7 ⟨Bv,A7,Ap,Bw,Bx⟩ C5 Aq ⟨C6,Ar,Au,Av,Ai⟩;replace Av:AI4 cZ 149 104 Aq Ap Bw Bx v11 A7:=Av;replace Ai:∀ z∈Ap,z∈(Aa ++ [])∨Array.size Ac<=z:=Ai;replace Au:Sp Aq h.size [Ap]:=Au;refine (show W _ _ _ (setL [(20,(.int .i64 Bv))] (mix _ C5 _)) Aq from ?_);have D8:=Ar.size;have Aw:=A5.thenT Ar (AHp (Af.loAll 0 rfl) all_nil);obtain ⟨C7,D9,rfl,Aj,By⟩:=AIs C6;rw [C3] at Aj;dsimp only at Aj;unfold APm at Aj;refine ACu (ACv (AIp rfl rfl (AI6 _ _) (ACt (q_t (ACu (⟨_,rfl,fun A8=>?_,fun A8=>?_⟩))))))
  ·refine AH2 (q_t (ACu (AHz (ACu (ACv ?_)))));obtain ⟨Ea,C8,C9⟩:=AHv (AJ2 Aj A8);refine AR4 (c:=cZ) AKh rfl Bt rfl C8 fun Eb Ec Bz Da Db=>?_;have B1:=cZ.upT Da Aw.upT;refine AUv (c:=cZ) AH9 rfl B1 (fun j u hu=>(AIc (Db j u hu) Aw)) (AI9 [.bool false,.slice none 0 0] ALz rfl trivial tt2 fun Ed Ee B3 Ab B4=>?_);have Ef:=Ab.1;have A9:=Au.app B4 Ab.1 Aw.1;have Dc:=B4.loAll 0 rfl;have Ba:=cZ.upT B1 Ab.upT;refine AIw Bz AH9 (cZ.klen Ba) (cZ.klen (cZ.upT (AIk Aq) Ab.upT)) rfl rfl (cZ.one Ba) B3 fun Bb B5 Dd=>ACt (q_t ?_);have Ad:=B5.stA Dd (AH8 B3 rfl) rfl;have Eg:=Ad.size;have B6:=A9.keep Ad.size;obtain ⟨De,Bc,Df⟩:=AHv C9;have Be:=(Av.ext Ab).upT Ad (A9.dj 0 1 rfl rfl (by decide));obtain ⟨B7,Dg,Dh,Di,Dj⟩:=Be.rowG Bc;refine AKf (fun h'=>UpT (B7 ++ []) Bb h') (by kernel_rfl) ?_;have Ak:UpT (B7 ++ []) Bb Bb:=UpT.start (AHp Di all_nil);refine AHo (AHo (AHo (AHo (AJs AJe rfl Be rfl Bc fun Eh Ei Dk Dl Dn=>AK1 AK8 rfl Ak (fun h' hb=>AQj Dn hb (AVa (Dj _ Dk) AVb)) ?_))));have B8:=cZ.upT Ba Ad;refine AKk Bz AH9 (cZ.klen B8) rfl Ak (fun h' hb=>(B5.upT hb (AJc (fun b hb hg=>(B6.dj 1 0 rfl rfl (by decide)) b hb (Dh b hg)) AI3)).agg) ?_;obtain ⟨Do,Dp,Dq⟩:=AHv Df;refine AHy Ak (fun _ E=>Ak.thenE E) rfl (AWf B8.2 Dp) fun Ej Ek Ae Dr=>?_;obtain ⟨El,rfl,Ds⟩:=Dr;have Em:=Ae.1;have B9:=Ak.thenE Ae;obtain ⟨En,rfl,Dt⟩:=Ds.cs;obtain ⟨Du,Dv⟩:=ifN Dq;refine Amv AKh ALz rfl rfl AJe AK8 (Be.ext Ae) Dl Bc Dg B9 (fun _ U=>B9.then U (AH4 rfl)) (fun _=>rfl) rfl Dt (fun _ _=>rfl) (fun _ _=>rfl) rfl (by decide) Du fun Eo Ep Dw Dx Dy Er Es Bf Bg Ca=>ACt (q_b (q_t (ACv (AJd rfl rfl (AHo (ACt (q_t ?_)))))));have Et:=Bg.size;obtain rfl:=AHw Dv;exact ⟨C7,(((w64 (Bv + 1)),(sI A7 u32 (De ++ [Do])),Dw,Dx,Dy):(Int) × (LiI) × LnA × LnN × LvA),Nat.lt_succ_self _,⟨By,((((Ar.thenE Ab).then Ad (AJw Dc (by omega))).thenE Ae).then Bg (AH6 Ai (AHp (AH4 rfl) all_nil) (by omega))),(((B6.keep Ae.1).put 0 rfl Bf.nodup Bg.size (((Aw.trans Ab).thenT Ad (A9.loAll 1 rfl)).trans Ae).1 Bf.lt Ca).sel [0] (by decide)),Bf,(AH6 Ca (AH6 Ai (AHp (AH4 rfl) all_nil) (by omega)) (by omega))⟩,rfl,trivial⟩
  ·obtain rfl:=AHw (AJ3 Aj A8);have Cb:=By;change _=Bu at Cb;subst Cb;have Cd:=C1;(try dsimp only at Cd);refine AIo (AIq (AIq (AJ5 (q_b (q_t (ACv (AJd rfl rfl (AHo (ACt (q_t ?_))))))))));obtain rfl:=AHw Cd;exact ⟨Cw,(((w64 (u32 + 1)),A7,Ap,Bw,Bx):(Int) × (LiI) × LnA × LnN × LvA),Nat.lt_succ_self _,⟨Br,(A4.then Ar (AHp (AH6 Ao (AHp (AH4 rfl) all_nil) (by omega)) all_nil)),Au,Av,(AH6 Ai (AHp (AH6 Ao (AHp (AH4 rfl) all_nil) (by omega)) all_nil) (by omega))⟩,rfl,trivial⟩
 ·obtain rfl:=AHw (AJ3 Ah A6);have Ce:=Br;change _=Bn at Ce;subst Ce;have Cf:=Cp;(try dsimp only at Cf);refine AIo (AIq (AIq (AJ5 (q_t (ACu (ACv (AHo (AHq (ACt (q_t (AH1 ?_)))))))))));obtain rfl:=AHw Cf;exact ⟨_,AH5,A5,_,_,_,_,rfl,Ag,Af⟩
def AOm (fuel:Nat) (a3:LiI) (Ac:LiA) (Ae:Int) (Aa:LiA) (Ab:Int):Option ((LiA × Int) ⊕ ((LiA))):=
  (if Ab < (Ac.length:Int) then ((gI Ac Ab).bind fun Af=>((gI a3 Ae).bind fun Ag=>((gI Ag Af).bind fun Ah=>(if Aa.length<=100000000 then (some (Sum.inl ((Aa ++ [Ah]),(w64 (Ab + 1))))) else none)))) else (some (Sum.inr<| Aa)))
def AOn (fuel:Nat) (a3:LiI) (a7:LiA) (Ae:LiA) (Aa:LiI) (Ab:Int):Option ((LiI × Int) ⊕ ((LiI))):=
  (if Ab < (a7.length:Int) then ((gI a7 Ab).bind fun Af=>((iter (fun s=>AOm fuel a3 Ae Af s.1 s.2) fuel ([],0)).bind (fun (Ag:LiA)=>(if Aa.length<=100000000 then (some (Sum.inl ((Aa ++ [Ag]),(w64 (Ab + 1))))) else none)))) else (some (Sum.inr<| Aa)))
def ALs (fuel:Nat) (a3:LiI) (a7:LiA) (Ac:LiA):Option LiI:=
  ((iter (fun s=>AOn fuel a3 a7 Ac s.1 s.2) fuel ([],0)).bind (fun (Ad:LiI)=>(some Ad)))
theorem ARh {fuel:Nat} {h:AHr} {A6:Value} {a3:LiI} {A8:Value} {a7:LiA} {Ba:Value} {Bb:LiA} {r:LiI} (H2:AM9 cZ h A6 a3) (H6:SlC (cI .i64) h A8 a7) (Be:SlC (cI .i64) h Ba Bb) (hp:ALs fuel a3 a7 Bb=some r):AIj Tryz.prog 185 #[A6,A8,Ba] h (fun x h'=>Ext h h'/\ ∃ (x0:Value) (F0:List Nat) (B7:List LnA) (B8:List Value),x=x0/\AI4 cZ 149 104 h' F0 B7 B8 x0 r/\Sp h' h.size [F0]):=by
 unfold ALs at hp;refine AHx (l:=[_,_,_]) mx Tryz.func185 rfl rfl rfl rfl rfl (by kernel_rfl) (ACu (ACv (AHq (ACt (q_t (ACu (ACv (AHq (ACt (q_t (ACu (ACu (ACv (AHo (ALe AYc rfl H6 (AHo (ACt (q_t (AHz ?_)))))))))))))))))));have Bh:=AMc cZ 149 104 h;have Bi:=(AJ8 h h.size).addnil;obtain ⟨Bj,B9,Ca⟩:=AHv hp;obtain ⟨Cb,Cd,Ce⟩:=AI0 B9;refine AIy 2199023228544 (fun x:(LiI) × (Value) × LnA × LnN × LvA × (Int)=>[(7,x.2.1),(15,(.int .i64 x.2.2.2.2.2))]) (fun (k:Nat) (x:(LiI) × (Value) × LnA × LnN × LvA × (Int)) (h':AHr)=>iter Cb k (x.1,x.2.2.2.2.2)=some Bj/\UpT ([] ++ []) h h'/\Sp h' h.size [x.2.2.1]/\AI4 cZ 149 104 h' x.2.2.1 x.2.2.2.1 x.2.2.2.2.1 x.2.1 x.1/\(∀ z∈x.2.2.1,z∈([] ++ [])∨Array.size h<=z)) (by kernel_rfl) fuel (([],(.slice none 0 0),[],[],[],0):(LiI) × (Value) × LnA × LnN × LvA × (Int)) ?_ ⟨rfl,rfl,trivial⟩ ?_
 ·exact ⟨Ce,UpT.start (AHp Bh.notD all_nil),Bi,Bh,(AH4 rfl)⟩
 rintro Dh ⟨Bl,Bm,Ab,Bn,Bo,Bp⟩ Cf Aa ⟨Cg,Aq,Aj,Ak,Am⟩;replace Ak:AI4 cZ 149 104 Aa Ab Bn Bo Bm Bl:=Ak;replace Am:∀ z∈Ab,z∈([] ++ [])∨Array.size h<=z:=Am;replace Aj:Sp Aa h.size [Ab]:=Aj;refine (show W _ _ _ (setL [(7,Bm),(15,(.int .i64 Bp))] (mix _ Cf _)) Aa from ?_);have Di:=Aq.size;have Ar:=(Ext.refl _).thenT Aq (AHp (Bi.loAll 0 rfl) all_nil);obtain ⟨Ch,Dj,rfl,Ad,Bq⟩:=AIs Cg;rw [Cd] at Ad;dsimp only at Ad;unfold AOn at Ad;refine ACu (ACv (AIp rfl rfl (AI6 _ _) (ACt (q_t (ACu (⟨_,rfl,fun Au=>?_,fun Au=>?_⟩))))))
 ·refine AH2 (q_t (ACu (AHz (ACu (ACv ?_)))));obtain ⟨Dk,Ci,Cj⟩:=AHv (AJ2 Ad Au);refine AR4 (c:=(cI .i64)) AYc rfl H6 rfl Ci fun Dl Dn Do Ck Cm=>?_;obtain rfl:=Ck;refine AIr AK3 rfl (AIc (Cm 0 _ rfl) Ar) (AHq (ACt (q_t (ACu (ACv (AHq (ACt (q_t (ACu (ACu (ACv (AHo (ALe AYc rfl Be (AHo (ACt (q_t (AHz ?_)))))))))))))))));have Br:=AXx cZ 104 Aa;have Av:=Aj.addnil;obtain ⟨Bt,Cn,Co⟩:=AHv Cj;obtain ⟨Cp,Cq,Cr⟩:=AI0 Cn;refine AIy 68717384704 (fun x:(LiA) × (Value) × LnA × (Int)=>[(10,x.2.1),(21,(.int .i64 x.2.2.2))]) (fun (k:Nat) (x:(LiA) × (Value) × LnA × (Int)) (h':AHr)=>iter Cp k (x.1,x.2.2.2)=some Bt/\UpT ([] ++ []) Aa h'/\Sp h' h.size [Ab,x.2.2.1]/\OwC cZ 104 h' x.2.2.1 x.2.1 x.1/\(∀ z∈x.2.2.1,z∈([] ++ [])∨Array.size Aa<=z)) (by kernel_rfl) fuel (([],(.slice none 0 0),[],0):(LiA) × (Value) × LnA × (Int)) ?_ ⟨rfl,rfl,trivial⟩ ?_
  ·exact ⟨Cr,UpT.start (AHp Br.notD all_nil),Av,Br,(AH4 rfl)⟩
  rintro Dp ⟨Aw,Ax,Ae,Bu⟩ Ct Ao ⟨Cu,Af,Ag,Ap,Ah⟩;replace Ap:OwC cZ 104 Ao Ae Ax Aw:=Ap;replace Ah:∀ z∈Ae,z∈([] ++ [])∨Array.size Aa<=z:=Ah;replace Ag:Sp Ao h.size [Ab,Ae]:=Ag;refine (show W _ _ _ (setL [(10,Ax),(21,(.int .i64 Bu))] (mix _ Ct _)) Ao from ?_);have Dq:=Af.size;have Ac:=Ar.thenT Af (AHp (Av.loAll 1 rfl) all_nil);obtain ⟨Cv,Dr,rfl,Ai,Bv⟩:=AIs Cu;rw [Cq] at Ai;dsimp only at Ai;unfold AOm at Ai;refine ACu (ACv (AIp rfl rfl (AI6 _ _) (ACt (q_t (ACu (⟨_,rfl,fun Ay=>?_,fun Ay=>?_⟩))))))
  ·refine AH2 (q_t (ACu (AHz (ACu (ACv ?_)))));obtain ⟨Ds,Cw,Cx⟩:=AHv (AJ2 Ai Ay);refine AR4 (c:=(cI .i64)) AYc rfl Be rfl Cw fun Dt Du Dv Cy Cz=>?_;obtain rfl:=Cy;refine AIr AK3 rfl (AIc (Cz 0 _ rfl) Ac) (AHq (ACt (q_t (ACv (AHo (AHo (AHo ?_)))))));obtain ⟨Dw,C0,C1⟩:=AHv Cx;refine AQz AJe rfl H2 rfl C0 fun Dx Dy Dz C2 C3=>AIr AK8 rfl (AIc C2 Ac) (AHo ?_);obtain ⟨C4,C5,C6⟩:=AHv C1;refine AR4 (c:=cZ) AKh rfl C3 rfl C5 fun D0 D1 D2 C7 C8=>?_;have Bw:=cZ.upT C7 Ac.upT;refine AUv (c:=cZ) AH9 rfl Bw (fun j u hu=>(AIc (C8 j u hu) Ac)) ?_;obtain ⟨C9,Da⟩:=ifN C6;refine AS2 AKh ALz rfl rfl trivial tt2 (fun _=>rfl) rfl Bw Ap (by decide) C9 fun D3 Db Dc D4 Az A3 Bx=>AHq (ACt (q_b (q_t (ACv (AJd rfl rfl (AHo (ACt (q_t ?_))))))));have D5:=A3.size;obtain rfl:=AHw Da;exact ⟨Cv,(((Aw ++ [C4]),Dc,Db,(w64 (Bu + 1))):(LiA) × (Value) × LnA × (Int)),Nat.lt_succ_self _,⟨Bv,(Af.then A3 (AH6 Ah (AHp (AH4 rfl) all_nil) (by omega))),(Ag.put 1 rfl Az.nodup A3.size Ac.1 Az.lt Bx),Az,(AH6 Bx (AH6 Ah (AHp (AH4 rfl) all_nil) (by omega)) (by omega))⟩,rfl,rfl,trivial⟩
  ·obtain rfl:=AHw (AJ3 Ai Ay);have By:=Bv;change _=Bt at By;subst By;have Bz:=Co;(try dsimp only at Bz);refine AIo (AIq (AIq (AJ5 (q_t (ACv (AHo (AHo ?_)))))));obtain ⟨Dd,De⟩:=ifN Bz;refine Asb AJe Ag5 rfl rfl trivial tt2 (fun _=>rfl) rfl Ap (Ak.upT Af (AJc (Av.dj 0 1 rfl rfl (by decide)) AI3)) (Ag.dj 1 0 rfl rfl (by decide)) (by decide) Dd fun D6 B1 Df D7 A4 A5 Dg=>?_;have B3:∀ z∈B1,z∈Ab ++ Ae∨Array.size Ao<=z:=Dg;refine AHq (ACt (q_b (q_t (ACv (AJd rfl rfl (AHo (ACt (q_t ?_))))))));have D8:=A5.size;obtain rfl:=AHw De;exact ⟨Ch,(((Bl ++ [Aw]),Df,B1,(Bn ++ [Ae]),(Bo ++ [Ax]),(w64 (Bp + 1))):(LiI) × (Value) × LnA × LnN × LvA × (Int)),Nat.lt_succ_self _,⟨Bq,((Aq.then Af (AHp (AH4 rfl) all_nil)).then A5 (AH6 Am (AHp (AH4 rfl) all_nil) (by omega))),((((Ag.sel [0,1] (by decide))).mrg).put 0 rfl A4.nodup A5.size Ac.1 A4.lt B3),A4,(AH6 B3 (AHp (AH6 Am (AHp (AH4 rfl) all_nil) (by omega)) (AH6 Ah (AHp (AH4 rfl) all_nil) (by omega))) (by omega))⟩,rfl,rfl,trivial⟩
 ·obtain rfl:=AHw (AJ3 Ad Au);have B4:=Bq;change _=Bj at B4;subst B4;have B5:=Ca;(try dsimp only at B5);refine AIo (AIq (AIq (AJ5 (q_t (ACu (ACv (AHo (AHq (ACt (q_t (AH1 ?_)))))))))));obtain rfl:=AHw B5;exact ⟨_,AH5,Ar,_,_,_,_,rfl,Ak,Aj⟩
def AQ2 (fuel:Nat) (a1:Int) (a2:Int) (Aa:LiA) (Ab:Int):Option ((LiA × Int) ⊕ ((LiA))):=
  (if Ab < a1 then (((if ¬ Ab=a2 then (if Aa.length<=100000000 then (some ( (Aa ++ [Ab]))) else none) else (some ( Aa))):Option ((LiA))).bind (fun (Ae:LiA)=>(some (Sum.inl (Ae,(w64 (Ab + 1))))))) else (some (Sum.inr<| Aa)))
def AR6 (fuel:Nat) (a1:Int) (a2:Int):Option LiA:=
  ((iter (fun s=>AQ2 fuel a1 a2 s.1 s.2) fuel ([],0)).bind (fun (Ac:LiA)=>(some Ac)))
def AM0 (fuel:Nat) (Ab:LiI) (Ac:Int) (Ad:LiI) (Aa:Int):Option ((Int) ⊕ ((Int))):=
  (((if Aa < (Ab.length:Int) then ((gI Ad Aa).bind fun Ae=>((gI Ae Ac).bind fun Af=>((Aar fuel Af).bind fun Ag=>(if Ag=0 then (some (Sum.inl <| ())) else (some (Sum.inr <| ())))))) else (some (Sum.inr <| ()))):Option ((Unit) ⊕ (Unit))).bind (fun ex=>match ex with | Sum.inl _=>(some (Sum.inl (w64 (Aa + 1)))) | Sum.inr (_)=>(some (Sum.inr<| Aa))))
def AM1 (fuel:Nat) (Ag:LiI) (Ac:Int) (Ah:Int) (Ae:Int) (Aa:Int) (Ab:LiI):Option ((Int × LiI) ⊕ ((LiI))):=
  (if Aa < (Ag.length:Int) then ((gI Ab Ae).bind fun Ad=>((gI Ab Ac).bind fun Af=>((gI Af Ac).bind fun Ai=>((gI Ad Aa).bind fun Aj=>((AUy fuel Ai Aj).bind fun Ak=>((gI Ad Ac).bind fun Am=>((gI Af Aa).bind fun Ao=>((AUy fuel Am Ao).bind fun Ap=>((Aum fuel Ak Ap).bind fun Aq=>((AKl fuel Aq Ah).bind fun Ar=>(some (Sum.inl ((w64 (Aa + 1)),(sI Ab Ae (sI Ad Aa Ar))))))))))))))) else (some (Sum.inr<| Ab)))
def AM2 (fuel:Nat) (Ab:LiI) (Ac:Int) (Ae:Int) (Aa:Int) (Ad:LiI):Option ((Int × LiI) ⊕ ((LiI))):=
  (if Aa < (Ab.length:Int) then ((iter (fun s=>AM1 fuel Ab Ac Ae Aa s.1 s.2) fuel ((w64 (Ac + 1)),Ad)).bind (fun (Af:LiI)=>(some (Sum.inl ((w64 (Aa + 1)),Af))))) else (some (Sum.inr<| Ad)))
def AM3 (fuel:Nat) (Ac:LiI) (Ae:Bool) (Aa:Int) (Ab:LiI) (Af:Int):Option ((Bool × Int × LiI × Int) ⊕ ((Int) ⊕ (Bool × Int))):=
  (if Aa < (Ac.length:Int) then ((((((iter (fun s=>AM0 fuel Ac Aa Ab s) fuel Aa).bind (fun (Ah:Int)=>(some ( Ah)))):Option ((Int))).bind (fun (Ad:Int)=>(if Ad=(Ac.length:Int) then (some (Sum.inl <| 0)) else (((if Aa < Ad then ((gI Ab Aa).bind fun Ai=>((gI Ab Ad).bind fun Aj=>(some ( ((!Ae),(sI (sI Ab Ad Ai) Aa Aj)))))) else (some ( (Ae,Ab)))):Option ((Bool × LiI))).bind (fun ((Ak,Am):Bool × LiI)=>((iter (fun s=>AM2 fuel Ac Aa Af s.1 s.2) fuel ((w64 (Aa + 1)),Am)).bind (fun (Ag:LiI)=>((gI Ag Aa).bind fun Ao=>((gI Ao Aa).bind fun Ap=>(some (Sum.inr <| (Ak,Ag,Ap)))))))))))):Option ((Int) ⊕ (Bool × LiI × Int))).bind (fun ex=>match ex with | Sum.inl Aq=>(some (Sum.inr<| Sum.inl <| Aq)) | Sum.inr ((Ar,Au,Av))=>(some (Sum.inl (Ar,(w64 (Aa + 1)),Au,Av))))) else (some (Sum.inr<| Sum.inr <| (Ae,Af))))
def AI8 (fuel:Nat) (a3:LiI):Option Int:=
  ((AMe fuel a3).bind fun Aa=>((AQq fuel 1).bind fun Ad=>((iter (fun s=>AM3 fuel Aa s.1 s.2.1 s.2.2.1 s.2.2.2) fuel (false,0,Aa,Ad)).bind (fun ex=>match ex with | Sum.inl Ae=>(some Ae) | Sum.inr ((Af,Ab))=>(if Af=true then ((Ag7 fuel Ab).bind fun Ag=>(some Ag)) else (some Ab))))))
theorem AKn {fuel:Nat} {h:AHr} {D1:Value} {a3:LiI} {r:Int} (H2:AM9 cZ h D1 a3) (hp:AI8 fuel a3=some r):AIj Tryz.prog 78 #[D1] h (fun x h'=>Ext h h'/\ ∃ (x0:Value),x=x0/\ZZ h' x0 r):=by
 unfold AI8 at hp;refine AHx (l:=[_]) mx Tryz.func78 rfl rfl rfl rfl rfl (by kernel_rfl) (ACu (ACv (AI9 [.bool false,.slice none 0 0] ALz rfl trivial tt2 fun b5 h6 V7 E8 S9=>ACt (q_t (ACu (ACv (AHo ?_)))))));have Cm:=AIk h;have Lr:=E8.1;obtain ⟨B6,Gt,Gu⟩:=AHv hp;refine AHy trivial tt2 rfl (AR5 (H2.ext E8) Gt) fun Ah Lv Ao Gv=>?_;obtain ⟨Lw,B7,Gw,Gx,rfl,D4,Gy⟩:=Gv;refine AHq (ACt (q_t (ACu (ACv (AHo (AKc AJe rfl D4.rd (AHq (ACt (q_t (ACu (ACv ?_)))))))))));have Lx:=Ao.1;obtain ⟨Gz,G0,G3⟩:=AHv Gu;refine AHy trivial tt2 rfl (APk G0) fun Ly G4 Ai G5=>?_;obtain ⟨Lz,rfl,G6⟩:=G5;have L0:=Ai.1;have D5:=(E8.trans Ao).trans Ai;obtain ⟨D6,rfl,G7⟩:=G6.cs;refine AI9 [.bool false,.slice none 0 0] ALz rfl trivial tt2 fun Aa Ma D7 Af G8=>?_;have Mb:=Af.1;have Bb:=((((AJ8 h h.size).app S9 E8.1 (Nat.le_refl _)).app Gy Ao.1 E8.1).keep Ai.1).app G8 Af.1 D5.1;have Cn:=cZ.upT G7 Af.upT;refine AIw D6 AH9 (cZ.klen Cn) (cZ.klen (cZ.upT (AIk G4) Af.upT)) rfl rfl (cZ.one Cn) D7 fun Co Cp G9=>AHq (ACt (q_t (ACu (ACu (ACv (AHq (ACt (q_t (AHz ?_)))))))));have Ag:=Cp.stA G9 (AH8 D7 rfl) rfl;have Mc:=Ag.size;have Ap:=Bb.keep Ag.size;obtain ⟨Cq,Ha,D8⟩:=AHv G3;obtain ⟨Hb,Hc,Hd⟩:=AI0 Ha;have D9:=((D4.ext Ai).ext Af).upT Ag (Bb.dj 1 2 rfl rfl (by decide));refine AIy 2658455991569831745807614120560625600 (fun x:(Bool) × (Int) × (LiI) × LnA × LnN × LvA × (Int) × LvA=>[(6,(.bool x.1)),(7,(.int .i64 x.2.1))]) (fun (k:Nat) (x:(Bool) × (Int) × (LiI) × LnA × LnN × LvA × (Int) × LvA) (h':AHr)=>iter Hb k (x.1,x.2.1,x.2.2.1,x.2.2.2.2.2.2.1)=some Cq/\UpT (B7 ++ ([Aa] ++ [])) Co h'/\Sp h' h.size [[b5],x.2.2.2.1,[Aa]]/\AI4 cZ 149 104 h' x.2.2.2.1 x.2.2.2.2.1 x.2.2.2.2.2.1 Ah x.2.2.1/\(∀ z∈x.2.2.2.1,z∈(B7 ++ ([Aa] ++ []))∨Array.size Co<=z)/\cZ.rep h' x.2.2.2.2.2.2.1 x.2.2.2.2.2.2.2/\AI1 104 h' Aa x.2.2.2.2.2.2.2) (by kernel_rfl) fuel ((false,0,B6,B7,Gw,Gx,Gz,D6):(Bool) × (Int) × (LiI) × LnA × LnN × LvA × (Int) × LvA) ?_ ⟨rfl,rfl,trivial⟩ ?_
 ·exact ⟨Hd,UpT.start (AHp D9.notD (AHp (AH8 Cp rfl) all_nil)),Ap,D9,(AH4 rfl),(cZ.upT Cn Ag),Cp⟩
 rintro Md ⟨Cr,Aq,Ct,Ab,Ea,Eb,He,Bc⟩ Hf Ae ⟨Hg,Ar,Bn,Bo,B8,Aj,A4⟩;replace Bo:AI4 cZ 149 104 Ae Ab Ea Eb Ah Ct:=Bo;replace B8:∀ z∈Ab,z∈(B7 ++ ([Aa] ++ []))∨Array.size Co<=z:=B8;replace Aj:cZ.rep Ae He Bc:=Aj;replace A4:AI1 104 Ae Aa Bc:=A4;replace Bn:Sp Ae h.size [[b5],Ab,[Aa]]:=Bn;refine (show W _ _ _ (setL [(6,(.bool Cr)),(7,(.int .i64 Aq))] (mix _ Hf _)) Ae from ?_);have Me:=Ar.size;have Cu:=((D5.trans Af).thenT Ag (Bb.loAll 2 rfl)).thenT Ar (AHp (Ap.loAll 1 rfl) (AHp (Ap.loAll 2 rfl) all_nil));obtain ⟨Hh,Mf,rfl,Bp,Cv⟩:=AIs Hg;rw [Hc] at Bp;dsimp only at Bp;unfold AM3 at Bp;refine ACu (ACu (ACv (AHo (AHo (AIp rfl rfl (AI6 _ _) (ACt (q_t (⟨_,rfl,fun Cw=>?_,fun Cw=>?_⟩))))))))
 ·refine AH2 (q_t ?_);obtain ⟨Hj,Hk,Ec⟩:=AHv (AJ2 Bp Cw);refine AMu 2658455991569831745807614120558593856 (fun x:(Bool) × (LiI) × LnA × LnN × LvA × (Int) × LvA=>[(6,(.bool x.1))]) (fun (x:(Bool) × (LiI) × LnA × LnN × LvA × (Int) × LvA) (h':AHr)=>(Sum.inr <| (x.1,x.2.1,x.2.2.2.2.2.1))=Hj/\UpT (Ab ++ ([Aa] ++ [])) Ae h'/\Sp h' h.size [[b5],x.2.2.1,[Aa]]/\AI4 cZ 149 104 h' x.2.2.1 x.2.2.2.1 x.2.2.2.2.1 Ah x.2.1/\(∀ z∈x.2.2.1,z∈(Ab ++ ([Aa] ++ []))∨Array.size Ae<=z)/\cZ.rep h' x.2.2.2.2.2.1 x.2.2.2.2.2.2/\AI1 104 h' Aa x.2.2.2.2.2.2) (by kernel_rfl) ?_ ?_
  ·refine AHz (ACu (ACv (AHo (AHq (ACt (q_t ?_))))));obtain ⟨Hl,Hm,Hn⟩:=AHv Hk;refine AMu 274873712896 (fun x:(Int)=>[(8,(.int .i64 x))]) (fun (x:(Int)) (h':AHr)=>( x)=Hl/\UpT [] Ae h'/\Sp h' h.size [[b5],Ab,[Aa]]) (by kernel_rfl) ?_ ?_
   ·refine AHz ?_;obtain ⟨Cx,Ho,Ed⟩:=AHv Hm;obtain ⟨Hq,Hr,Hs⟩:=AI0 Ho;refine AIy 274873712896 (fun x:(Int)=>[(8,(.int .i64 x))]) (fun (k:Nat) (x:(Int)) (h':AHr)=>iter Hq k x=some Cx/\UpT [] Ae h'/\Sp h' h.size [[b5],Ab,[Aa]]) (by kernel_rfl) fuel (Aq:(Int)) ?_ ⟨rfl,trivial⟩ ?_
    ·exact ⟨Hs,UpT.start all_nil,Bn⟩
    rintro Mg Aw Ht Bq ⟨Hu,Br,B9⟩;replace B9:Sp Bq h.size [[b5],Ab,[Aa]]:=B9;refine (show W _ _ _ (setL [(8,(.int .i64 Aw))] (mix _ Ht _)) Bq from ?_);have Mh:=Br.size;obtain ⟨Hv,Mi,rfl,Ca,Cy⟩:=AIs Hu;rw [Hr] at Ca;dsimp only at Ca;unfold AM0 at Ca;obtain ⟨Hw,Ee,Cz⟩:=AHv Ca;refine AMu 68715282432 (fun x:Unit=>[]) (fun (x:Unit) (h':AHr)=>(Sum.inl <| ())=Hw/\UpT [] Bq h'/\Sp h' h.size [[b5],Ab,[Aa]]) (by kernel_rfl) ?_ ?_
    ·refine ACu (ACv (AHo (AHo (AIp rfl rfl (AI6 _ _) (AHo ?_)))));rcases Decidable.em (Aw < (B6.length:Int)) with Bt | Bt
     ·rw [show decide (Aw < (B6.length:Int))=true from decide_eq_true Bt];refine AH3 25 true (by kernel_rfl) rfl rfl (AHo (AH3 25 true (by kernel_rfl) rfl rfl (AHo (AH3 25 true (by kernel_rfl) rfl rfl ?_))));obtain ⟨Mj,C0,Hx⟩:=AHv (ifT Ee Bt);have C1:=Bo.upT Br AI3;refine AJs AJe rfl C1 rfl C0 fun Mk Ml Mm Hy Hz=>AH3 25 true (by kernel_rfl) rfl rfl (AIr AK8 rfl Hz (AH3 25 true (by kernel_rfl) rfl rfl (AHo (AH3 25 true (by kernel_rfl) rfl rfl ?_))));obtain ⟨Mo,Ef,H5⟩:=AHv Hx;refine ALr (m:=Aw) AKh rfl C1 Hy C0 rfl Ef fun Mq H9=>AH3 25 true (by kernel_rfl) rfl rfl ?_;obtain ⟨Mr,Ia,Ib⟩:=C1.cells H9 C0 Ef;have Eg:=Ia;refine AUv (c:=cZ) AH9 rfl Eg (fun j u hu=>(Ib j u hu)) (AH3 25 true (by kernel_rfl) rfl rfl ?_);obtain ⟨Ms,Ic,Eh⟩:=AHv H5;refine AHy trivial tt2 rfl (AZt Eg.2 Ic) fun Mt Mu Cb Id=>?_;subst Id;refine AH3 25 true (by kernel_rfl) rfl rfl (AIp rfl rfl (AMi _ _) (AIt rfl (ACt (q_t ?_))));have Mv:=Cb.1;have Ei:=B9.keep Cb.1;refine ⟨_,rfl,fun C2=>?_,fun C2=>?_⟩
      ·refine AH2 (q_t ?_);have Ie:UpT [] Bq Bq:=UpT.start all_nil;exact ⟨(():Unit),⟨AHw (AJ2 Eh C2),(Ie.thenE Cb),Ei⟩,trivial⟩
      ·obtain rfl:=AHw (AJ3 Eh C2);have Ej:=Cz;(try dsimp only at Ej);obtain rfl:=AHw Ej;have Ek:=Cy;change _=Cx at Ek;subst Ek;have El:=Ed;(try dsimp only at El);refine AIo (AIq (AIq (AJ5 (q_t ?_))));have If:UpT [] Ae Ae:=UpT.start all_nil;exact ⟨(Aw:(Int)),⟨AHw El,((If.then Br all_nil).thenE Cb),Ei⟩,rfl,trivial⟩
     ·rw [show decide (Aw < (B6.length:Int))=false from decide_eq_false Bt];refine AH0 25 false (by kernel_rfl) rfl rfl (AH0 25 false (by kernel_rfl) rfl rfl (AH0 25 false (by kernel_rfl) rfl rfl (AH0 25 false (by kernel_rfl) rfl rfl (AH0 25 false (by kernel_rfl) rfl rfl (AH0 25 false (by kernel_rfl) rfl rfl (AH0 25 false (by kernel_rfl) rfl rfl (AH0 25 false (by kernel_rfl) rfl rfl (AH0 25 false (by kernel_rfl) rfl rfl (AIv rfl (ACt (q_t (AId rfl ?_))))))))))));obtain rfl:=AHw (ifF Ee Bt);have Em:=Cz;(try dsimp only at Em);obtain rfl:=AHw Em;have En:=Cy;change _=Cx at En;subst En;have Eo:=Ed;(try dsimp only at Eo);refine AIo (AIq (AIq (AJ5 (q_t ?_))));have Ih:UpT [] Ae Ae:=UpT.start all_nil;exact ⟨(Aw:(Int)),⟨AHw Eo,(Ih.then Br all_nil),B9⟩,rfl,trivial⟩
    rintro ⟨⟩ Ii Ep ⟨Ij,Er,C3⟩;replace C3:Sp Ep h.size [[b5],Ab,[Aa]]:=C3;refine (show W _ _ _ (setL [] (mix _ Ii _)) Ep from ?_);have Mw:=Er.size;subst Ij;have Es:=Cz;(try dsimp only at Es);refine AHz (ACv (AHo (AJd rfl rfl (AHq (ACt (q_b (q_t ?_)))))));obtain rfl:=AHw Es;exact ⟨Hv,((w64 (Aw + 1)):(Int)),Nat.lt_succ_self _,⟨Cy,(Br.then Er all_nil),C3⟩,rfl,trivial⟩
   rintro Et Ik Ak ⟨Il,Am,A5⟩;replace A5:Sp Ak h.size [[b5],Ab,[Aa]]:=A5;refine (show W _ _ _ (setL [(8,(.int .i64 Et))] (mix _ Ik _)) Ak from ?_);have Mx:=Am.size;have Eu:=Cu.thenT Am all_nil;subst Il;have C4:=Hn;(try dsimp only at C4);refine ACu (ACu (ACv (AHo (AHo (AIp rfl rfl (AMi _ _) (ACt (q_t (⟨_,rfl,fun C5=>?_,fun C5=>?_⟩))))))))
   ·refine ACu (ACv (AM7 (ASi ) ?_));have C6:=AIk Ak;have Ev:=(((((V7.ext Ao).ext Ai).ext Af).upT Ag (Bb.dj 0 2 rfl rfl (by decide))).upT Ar (AJc (Ap.dj 0 1 rfl rfl (by decide)) (AJc (Ap.dj 0 2 rfl rfl (by decide)) AI3))).upT Am AI3;refine AIw [Value.bool false,Value.slice none 0 0] AH9 (cZ.klen C6) (cZ.klen (cZ.upT (cZ.upT (cZ.upT (cZ.upT (cZ.upT (cZ.upT (cZ.upT Cm E8.upT) Ao.upT) Ai.upT) Af.upT) Ag) Ar) Am)) rfl rfl (cZ.one C6) Ev fun My Ew Im=>ACt (q_t ?_);have C7:=Ew.stA Im (AH8 Ev rfl) rfl;have Mz:=C7.size;obtain rfl:=AHw (AJ2 C4 C5);have Ey:=Ec;(try dsimp only at Ey);obtain rfl:=AHw Ey;have Ez:=Cv;change _=Cq at Ez;subst Ez;have Fa:=D8;(try dsimp only at Fa);refine AH1 (AIi (AJ0 (AIi (AIi (AJ0 (AIi ?_))))));obtain rfl:=AHw Fa;have Fb:=cZ.upT C6 C7;exact ⟨_,AJ7 AH9 (cZ.klen Fb) rfl Ew,(Eu.thenT C7 (A5.loAll 0 rfl)),_,rfl,Fb.2⟩
   ·refine AH2 (q_t ?_);obtain ⟨Io,Fc,Ip⟩:=AHv (AJ3 C4 C5);have Be:=Bo.upT Am AI3;refine AMu 2305838611167182912 (fun x:(Bool) × (LiI) × LnA × LnN × LvA=>[(6,(.bool x.1))]) (fun (x:(Bool) × (LiI) × LnA × LnN × LvA) (h':AHr)=>( (x.1,x.2.1))=Io/\UpT (Ab ++ []) Ak h'/\Sp h' h.size [[b5],x.2.2.1,[Aa]]/\AI4 cZ 149 104 h' x.2.2.1 x.2.2.2.1 x.2.2.2.2 Ah x.2.1/\(∀ z∈x.2.2.1,z∈(Ab ++ [])∨Array.size Ak<=z)) (by kernel_rfl) ?_ ?_
    ·refine ACu (ACv (AHo (AHo (AIp rfl rfl (APf _ _) (ACt (q_t (⟨_,rfl,fun C8=>?_,fun C8=>?_⟩)))))))
     ·refine ACu (ALp (by kernel_rfl) (AHo (AHo (AHo (AHo (AHo (AHo ?_)))))));obtain ⟨Iq,Fd,Ir⟩:=AHv (AJ2 Fc C8);refine AJs AJe rfl Be rfl Fd fun M0 M2 M3 Is It=>AIr AK8 rfl It (AHo (AHo ?_));obtain ⟨Iu,Fe,Iv⟩:=AHv Ir;refine AJs AJe rfl Be rfl Fe fun M4 M5 M6 Iw Ix=>AIr AK8 rfl Ix (AYw AJe AK8 Be Iw Is Fe Fd rfl rfl (fun _=>rfl) (fun _=>rfl) (fun _=>rfl) (fun _ _=>rfl) fun M7 M8 Iy Iz I0 M9 C9 Da Ff=>ACt (q_t (ACv (AHo (AMj rfl (AHq (ACt (q_t ?_))))))));have Na:=Da.size;have I1:UpT (Ab ++ []) Ak Ak:=UpT.start (AHp Be.notD all_nil);exact ⟨(((!Cr),(sI (sI Ct Et Iq) Aq Iu),Iy,Iz,I0):(Bool) × (LiI) × LnA × LnN × LvA),⟨AHw Iv,(I1.then Da (AH4 rfl)),(A5.put 1 rfl C9.nodup Da.size Eu.1 C9.lt Ff),C9,(AH6 Ff (AH4 rfl) (by omega))⟩,rfl,trivial⟩
     ·refine AH2 (q_t ?_);have I2:UpT (Ab ++ []) Ak Ak:=UpT.start (AHp Be.notD all_nil);exact ⟨((Cr,Ct,Ab,Ea,Eb):(Bool) × (LiI) × LnA × LnN × LvA),⟨AHw (AJ3 Fc C8),I2,A5,Be,(AH4 rfl)⟩,rfl,trivial⟩
    rintro ⟨Fg,Fh,A6,Fi,Fj⟩ I3 Bf ⟨I6,Bg,Bu,Cd,Ce⟩;replace Cd:AI4 cZ 149 104 Bf A6 Fi Fj Ah Fh:=Cd;replace Ce:∀ z∈A6,z∈(Ab ++ [])∨Array.size Ak<=z:=Ce;replace Bu:Sp Bf h.size [[b5],A6,[Aa]]:=Bu;refine (show W _ _ _ (setL [(6,(.bool Fg))] (mix _ I3 _)) Bf from ?_);have Nb:=Bg.size;subst I6;have Fk:=Ip;(try dsimp only at Fk);refine ACu (ACu (ACv (AHo (AJd rfl rfl (AHq (ACt (q_t (AHz ?_))))))));obtain ⟨Fl,I9,Ja⟩:=AHv Fk;obtain ⟨Jc,Je,Jf⟩:=AI0 I9;refine AIy 20769187434139301290749948462106112 (fun x:(Int) × (LiI) × LnA × LnN × LvA=>[(9,(.int .i64 x.1))]) (fun (k:Nat) (x:(Int) × (LiI) × LnA × LnN × LvA) (h':AHr)=>iter Jc k (x.1,x.2.1)=some Fl/\UpT (A6 ++ []) Bf h'/\Sp h' h.size [[b5],x.2.2.1,[Aa]]/\AI4 cZ 149 104 h' x.2.2.1 x.2.2.2.1 x.2.2.2.2 Ah x.2.1/\(∀ z∈x.2.2.1,z∈(A6 ++ [])∨Array.size Bf<=z)) (by kernel_rfl) fuel (((w64 (Aq + 1)),Fh,A6,Fi,Fj):(Int) × (LiI) × LnA × LnN × LvA) ?_ ⟨rfl,trivial⟩ ?_
    ·exact ⟨Jf,UpT.start (AHp Cd.notD all_nil),Bu,Cd,(AH4 rfl)⟩
    rintro Nc ⟨A7,Db,Ax,Dc,Dd⟩ Jg Bh ⟨Jh,A8,Bi,Ay,Bv⟩;replace Ay:AI4 cZ 149 104 Bh Ax Dc Dd Ah Db:=Ay;replace Bv:∀ z∈Ax,z∈(A6 ++ [])∨Array.size Bf<=z:=Bv;replace Bi:Sp Bh h.size [[b5],Ax,[Aa]]:=Bi;refine (show W _ _ _ (setL [(9,(.int .i64 A7))] (mix _ Jg _)) Bh from ?_);have Nd:=A8.size;obtain ⟨Ji,Nf,rfl,Bw,Fm⟩:=AIs Jh;rw [Je] at Bw;dsimp only at Bw;unfold AM2 at Bw;refine ACu (ACu (ACv (AHo (AHo (AIp rfl rfl (AI6 _ _) (ACt (q_t (⟨_,rfl,fun De=>?_,fun De=>?_⟩))))))))
    ·refine AH2 (q_t (ACu (AHz (ACu (ACv (AHo (AJd rfl rfl (AHq (ACt (q_t (AHz ?_)))))))))));obtain ⟨Fo,Jj,Jk⟩:=AHv (AJ2 Bw De);obtain ⟨Jl,Jm,Jn⟩:=AI0 Jj;refine AIy 20769187434138129922501267905577984 (fun x:(Int) × (LiI) × LnA × LnN × LvA=>[(10,(.int .i64 x.1))]) (fun (k:Nat) (x:(Int) × (LiI) × LnA × LnN × LvA) (h':AHr)=>iter Jl k (x.1,x.2.1)=some Fo/\UpT (Ax ++ []) Bh h'/\Sp h' h.size [[b5],x.2.2.1,[Aa]]/\AI4 cZ 149 104 h' x.2.2.1 x.2.2.2.1 x.2.2.2.2 Ah x.2.1/\(∀ z∈x.2.2.1,z∈(Ax ++ [])∨Array.size Bh<=z)) (by kernel_rfl) fuel (((w64 (Aq + 1)),Db,Ax,Dc,Dd):(Int) × (LiI) × LnA × LnN × LvA) ?_ ⟨rfl,trivial⟩ ?_
     ·exact ⟨Jn,UpT.start (AHp Ay.notD all_nil),Bi,Ay,(AH4 rfl)⟩
     rintro Ng ⟨Df,Dg,Bx,Dh,Di⟩ Jo Bj ⟨Jp,By,Cf,Ac,Bz⟩;replace Ac:AI4 cZ 149 104 Bj Bx Dh Di Ah Dg:=Ac;replace Bz:∀ z∈Bx,z∈(Ax ++ [])∨Array.size Bh<=z:=Bz;replace Cf:Sp Bj h.size [[b5],Bx,[Aa]]:=Cf;refine (show W _ _ _ (setL [(10,(.int .i64 Df))] (mix _ Jo _)) Bj from ?_);have Nh:=By.size;obtain ⟨Jq,Ni,rfl,B1,Fp⟩:=AIs Jp;rw [Jm] at B1;dsimp only at B1;unfold AM1 at B1;refine ACu (ACu (ACv (AHo (AHo (AIp rfl rfl (AI6 _ _) (ACt (q_t (⟨_,rfl,fun Dj=>?_,fun Dj=>?_⟩))))))))
     ·refine AH2 (q_t (ACu (AHz (AKf (fun h'=>UpT [] Bj h') (by kernel_rfl) ?_))));have Az:UpT [] Bj Bj:=UpT.start all_nil;refine AHo (AHo ?_);obtain ⟨Jr,Au,Js⟩:=AHv (AJ2 B1 Dj);refine AJs AJe rfl Ac rfl Au fun Nj Nk Nl Jt Ju=>AK1 AK8 rfl Az (fun h' hb=>AIc Ju hb.ext) (AHo (AHo (AHo ?_)));obtain ⟨Nm,Bl,Jv⟩:=AHv Js;refine AJs AJe rfl Ac rfl Bl fun Nn Np Nq Jw Jx=>AK1 AK8 rfl Az (fun h' hb=>AIc Jx hb.ext) (AHo ?_);obtain ⟨Nr,Fq,Jy⟩:=AHv Jv;refine ALr (m:=Aq) AKh rfl Ac Jw Bl rfl Fq fun Ns Jz=>?_;obtain ⟨Nt,Fr,J0⟩:=Ac.cells Jz Bl Fq;refine AU8 (c:=cZ) AH9 rfl Fr Az (fun h' hb j u hu=>AIc (J0 j u hu) hb.ext) (AHo (AHo (AJs AJe rfl Ac rfl Au fun Nu Nv Nw J1 J2=>AK1 AK8 rfl Az (fun h' hb=>AIc J2 hb.ext) (AHo ?_))));obtain ⟨Ny,Cg,J3⟩:=AHv Jy;refine ALr (m:=A7) AKh rfl Ac J1 Au rfl Cg fun Nz J4=>?_;obtain ⟨N0,Ft,J5⟩:=Ac.cells J4 Au Cg;refine AU8 (c:=cZ) AH9 rfl Ft Az (fun h' hb j u hu=>AIc (J5 j u hu) hb.ext) ?_;obtain ⟨N3,J6,J7⟩:=AHv J3;refine AHy Az (fun _ E=>Az.thenE E) rfl (ATb Fr.2 Ft.2 J6) fun N4 N5 A3 J8=>?_;obtain ⟨N6,rfl,J9⟩:=J8;have N7:=A3.1;have A9:=Az.thenE A3;obtain ⟨N8,rfl,Ka⟩:=J9.cs;refine AHo (AHo (AJs AJe rfl Ac rfl Au fun N9 r417 Oa Kb Kc=>AK1 AK8 rfl A9 (fun h' hb=>AIc Kc hb.ext) (AHo ?_)));obtain ⟨Ob,Fu,Kd⟩:=AHv J7;refine ALr (m:=A7) AKh rfl Ac Kb Au rfl Fu fun Oc Ke=>?_;obtain ⟨Od,Fv,Kf⟩:=Ac.cells Ke Au Fu;refine AU8 (c:=cZ) AH9 rfl Fv A9 (fun h' hb j u hu=>AIc (Kf j u hu) hb.ext) (AHo (AHo (AJs AJe rfl Ac rfl Bl fun Oe Og Oh Kg Kh=>AK1 AK8 rfl A9 (fun h' hb=>AIc Kh hb.ext) (AHo ?_))));obtain ⟨Oi,Fw,Ki⟩:=AHv Kd;refine ALr (m:=Aq) AKh rfl Ac Kg Bl rfl Fw fun Oj Kj=>?_;obtain ⟨Ol,Fx,Kk⟩:=Ac.cells Kj Bl Fw;refine AU8 (c:=cZ) AH9 rfl Fx A9 (fun h' hb j u hu=>AIc (Kk j u hu) hb.ext) ?_;obtain ⟨Om,Kl,Km⟩:=AHv Ki;refine AHy A9 (fun _ E=>A9.thenE E) rfl (ATb (cZ.upT Fv A3.upT).2 (cZ.upT Fx A3.upT).2 Kl) fun On Oo Ba Kn=>?_;obtain ⟨Oq,rfl,Ko⟩:=Kn;have Ot:=Ba.1;have Dk:=A9.thenE Ba;obtain ⟨Ou,rfl,Kp⟩:=Ko.cs;obtain ⟨Ov,Kr,Kt⟩:=AHv Km;refine AHy Dk (fun _ E=>Dk.thenE E) rfl (Avs (cZ.upT Ka Ba.upT).2 Kp.2 Kr) fun Ow Ox Bm Ku=>?_;obtain ⟨Oy,rfl,Kv⟩:=Ku;have Oz:=Bm.1;have Dl:=Dk.thenE Bm;obtain ⟨O0,rfl,Kw⟩:=Kv.cs;have Fy:=cZ.upT (cZ.upT (cZ.upT (cZ.upT (cZ.upT (cZ.upT (cZ.upT Aj Am) Bg) A8) By) A3.upT) Ba.upT) Bm.upT;refine AKk Bc AH9 (cZ.klen Fy) rfl Dl (fun h' hb=>(((((A4.upT Am AI3).upT Bg (AJc (A5.dj 2 1 rfl rfl (by decide)) AI3)).upT A8 (AJc (Bu.dj 2 1 rfl rfl (by decide)) AI3)).upT By (AJc (Bi.dj 2 1 rfl rfl (by decide)) AI3)).ext hb.ext).agg) ?_;obtain ⟨Kx,Ky,Kz⟩:=AHv Kt;refine AHy Dl (fun _ E=>Dl.thenE E) rfl (AN3 Kw.2 Fy.2 Ky) fun O1 O2 Ch K0=>?_;obtain ⟨O3,rfl,K3⟩:=K0;have O4:=Ch.1;obtain ⟨O5,rfl,Dn⟩:=K3.cs;refine ALr (m:=A7) AKh rfl Ac Jt Au rfl Cg fun O6 K4=>APj (m:=A7) (AUw AH9 (cZ.klen Dn) rfl rfl (cZ.one Dn)) ((((Ac.ext A3).ext Ba).ext Bm).ext Ch) K4 Au Cg Dn fun O7 K5 Do=>ACt (q_b (q_t (ACv (AHo (AJd rfl rfl (AHq (ACt (q_t ?_))))))));have O8:=Do.size;obtain rfl:=AHw Kz;exact ⟨Jq,(((w64 (Df + 1)),(sI Dg A7 (sI Jr Df Kx)),Bx,Dh,Di):(Int) × (LiI) × LnA × LnN × LvA),Nat.lt_succ_self _,⟨Fp,(((((By.thenE A3).thenE Ba).thenE Bm).thenE Ch).then Do (AH6 Bz (AHp (AH4 rfl) all_nil) (by omega))),(((((Cf.keep A3.1).keep Ba.1).keep Bm.1).keep Ch.1).keep Do.size),K5,(AH6 Bz (AHp (AH4 rfl) all_nil) (by omega))⟩,rfl,trivial⟩
     ·obtain rfl:=AHw (AJ3 B1 Dj);have Fz:=Fp;change _=Fo at Fz;subst Fz;have F4:=Jk;(try dsimp only at F4);refine AIo (AIq (AIq (AJ5 (q_b (q_t (ACv (AHo (AJd rfl rfl (AHq (ACt (q_t ?_)))))))))));obtain rfl:=AHw F4;exact ⟨Ji,(((w64 (A7 + 1)),Dg,Bx,Dh,Di):(Int) × (LiI) × LnA × LnN × LvA),Nat.lt_succ_self _,⟨Fm,(A8.then By (AHp (AH6 Bv (AHp (AH4 rfl) all_nil) (by omega)) all_nil)),Cf,Ac,(AH6 Bz (AHp (AH6 Bv (AHp (AH4 rfl) all_nil) (by omega)) all_nil) (by omega))⟩,rfl,trivial⟩
    ·obtain rfl:=AHw (AJ3 Bw De);have F5:=Fm;change _=Fl at F5;subst F5;have F6:=Ja;(try dsimp only at F6);refine AIo (AIq (AIq (AJ5 (q_t (ACv (AHo (AHo ?_)))))));obtain ⟨O9,Dp,K6⟩:=AHv F6;refine AJs AJe rfl Ay rfl Dp fun Pa Pb Pc K7 K8=>AIr AK8 rfl K8 (AHo ?_);obtain ⟨K9,F7,La⟩:=AHv K6;refine ALr (m:=Aq) AKh rfl Ay K7 Dp rfl F7 fun Pd Lb=>?_;obtain ⟨F8,Lc,Ld⟩:=Ay.cells Lb Dp F7;have Ci:=Lc;refine AUv (c:=cZ) AH9 rfl Ci (fun j u hu=>(Ld j u hu)) ?_;have F9:=((A4.upT Am AI3).upT Bg (AJc (A5.dj 2 1 rfl rfl (by decide)) AI3)).upT A8 (AJc (Bu.dj 2 1 rfl rfl (by decide)) AI3);refine AIw F8 AH9 (cZ.klen Ci) (cZ.klen (cZ.upT (cZ.upT (cZ.upT Aj Am) Bg) A8)) rfl rfl (cZ.one Ci) F9 fun Pe Ga Le=>ACt (q_b (q_t ?_));have B3:=Ga.stA Le (AH8 F9 rfl) rfl;have Pf:=B3.size;have Lf:UpT (Ab ++ ([Aa] ++ [])) Ae Ae:=UpT.start (AHp Bo.notD (AHp (AH8 A4 rfl) all_nil));exact ⟨((Fg,Db,Ax,Dc,Dd,K9,F8):(Bool) × (LiI) × LnA × LnN × LvA × (Int) × LvA),⟨AHw La,((((Lf.then Am all_nil).then Bg (AHp (AH4 rfl) all_nil)).then A8 (AHp (AH6 Ce (AHp (AH4 rfl) all_nil) (by omega)) all_nil)).then B3 (ALf (AH4 rfl))),(Bi.keep B3.size),(Ay.upT B3 (Bi.dj 1 2 rfl rfl (by decide))),(AH6 Bv (AHp (AH6 Ce (AHp (AH4 rfl) all_nil) (by omega)) all_nil) (by omega)),(cZ.upT Ci B3),Ga⟩,rfl,trivial⟩
  rintro ⟨Gb,Gc,Cj,Gd,Ge,Gf,Dq⟩ Lg B4 ⟨Lh,Gg,Dr,Ds,Dt,Du,Dv⟩;replace Ds:AI4 cZ 149 104 B4 Cj Gd Ge Ah Gc:=Ds;replace Dt:∀ z∈Cj,z∈(Ab ++ ([Aa] ++ []))∨Array.size Ae<=z:=Dt;replace Du:cZ.rep B4 Gf Dq:=Du;replace Dv:AI1 104 B4 Aa Dq:=Dv;replace Dr:Sp B4 h.size [[b5],Cj,[Aa]]:=Dr;refine (show W _ _ _ (setL [(6,(.bool Gb))] (mix _ Lg _)) B4 from ?_);have Pg:=Gg.size;subst Lh;have Gh:=Ec;(try dsimp only at Gh);refine ACv (AHo (AJd rfl rfl (AHq (ACt (q_t ?_)))));obtain rfl:=AHw Gh;exact ⟨Hh,((Gb,(w64 (Aq + 1)),Gc,Cj,Gd,Ge,Gf,Dq):(Bool) × (Int) × (LiI) × LnA × LnN × LvA × (Int) × LvA),Nat.lt_succ_self _,⟨Cv,(Ar.then Gg (AHp (AH6 B8 (AHp (AH4 rfl) (AHp (ALf (AH4 rfl)) all_nil)) (by omega)) (AHp (ALf (AH4 rfl)) all_nil))),Dr,Ds,(AH6 Dt (AHp (AH6 B8 (AHp (AH4 rfl) (AHp (ALf (AH4 rfl)) all_nil)) (by omega)) (AHp (ALf (AH4 rfl)) all_nil)) (by omega)),Du,Dv⟩,rfl,rfl,trivial⟩
 ·obtain rfl:=AHw (AJ3 Bp Cw);have Gi:=Cv;change _=Cq at Gi;subst Gi;have Dw:=D8;(try dsimp only at Dw);refine AIo (AIq (AIq (AJ5 (q_t (ACu (ACu (ACv (AHo (ACt (q_t (⟨_,rfl,fun Dx=>?_,fun Dx=>?_⟩)))))))))))
  ·refine ACu (ACv (AKr Bc AH9 (cZ.klen Aj) rfl A4.agg ?_));obtain ⟨Ph,Li,Lj⟩:=AHv (ifT Dw Dx);refine AHy trivial tt2 rfl (Afw Aj.2 Li) fun Pj Pk B5 Lk=>?_;obtain ⟨Pl,rfl,Ll⟩:=Lk;have Pm:=B5.1;obtain ⟨Lm,rfl,Dy⟩:=Ll.cs;have Gj:=(((((V7.ext Ao).ext Ai).ext Af).upT Ag (Bb.dj 0 2 rfl rfl (by decide))).upT Ar (AJc (Ap.dj 0 1 rfl rfl (by decide)) (AJc (Ap.dj 0 2 rfl rfl (by decide)) AI3))).ext B5;refine AIw Lm AH9 (cZ.klen Dy) (cZ.klen (cZ.upT (cZ.upT (cZ.upT (cZ.upT (cZ.upT (cZ.upT (cZ.upT Cm E8.upT) Ao.upT) Ai.upT) Af.upT) Ag) Ar) B5.upT)) rfl rfl (cZ.one Dy) Gj fun Pn Gk Ln=>ACt (q_t (AH1 (AIi ?_)));have Dz:=Gk.stA Ln (AH8 Gj rfl) rfl;have Po:=Dz.size;obtain rfl:=AHw Lj;have Gl:=cZ.upT Dy Dz;exact ⟨_,AJ7 AH9 (cZ.klen Gl) rfl Gk,((Cu.trans B5).thenT Dz ((Bn.keep B5.1).loAll 0 rfl)),_,rfl,Gl.2⟩
  ·refine AH2 (q_t (ACu (ACv (AKr Bc AH9 (cZ.klen Aj) rfl A4.agg ?_))));have Gm:=((((V7.ext Ao).ext Ai).ext Af).upT Ag (Bb.dj 0 2 rfl rfl (by decide))).upT Ar (AJc (Ap.dj 0 1 rfl rfl (by decide)) (AJc (Ap.dj 0 2 rfl rfl (by decide)) AI3));refine AIw Bc AH9 (cZ.klen Aj) (cZ.klen (cZ.upT (cZ.upT (cZ.upT (cZ.upT (cZ.upT (cZ.upT Cm E8.upT) Ao.upT) Ai.upT) Af.upT) Ag) Ar)) rfl rfl (cZ.one Aj) Gm fun Pp Gn Lo=>ACt (q_t (AH1 ?_));have D0:=Gn.stA Lo (AH8 Gm rfl) rfl;have Pq:=D0.size;obtain rfl:=AHw (AQm Dw Dx);have Gp:=cZ.upT Aj D0;exact ⟨_,AJ7 AH9 (cZ.klen Gp) rfl Gn,(Cu.thenT D0 (Bn.loAll 0 rfl)),_,rfl,Gp.2⟩
end Go.Proofs.YtmmckalinicpaaaGreatDoor
namespace Go.Proofs.YtmmckalinicpaaaGreatDoor
open Go Go.QF
set_option maxRecDepth 100000
theorem Ap0 {na:Bool} {m:Nat} {z:Int} (h:z=sgn na m):AMa z=1->z=m:=by
 cases na
 ·intro _;rw [h];rfl
 ·intro h1;rw [h] at h1 ⊢;unfold AMa sgn at h1;unfold sgn;simp at h1 ⊢;split at h1 <;> (try split at h1) <;> omega
theorem Ap1 {na:Bool} {m:Nat} {z:Int} (h:z=sgn na m):AMa z= -1->z= -(m:Int):=by
 cases na
 ·intro h1;rw [h] at h1 ⊢;unfold AMa sgn at h1;unfold sgn;simp at h1 ⊢;split at h1 <;> (try split at h1) <;> omega
 ·intro _;rw [h];rfl
def AVt (a b:Int):Int:=if a < b then -1 else if a=b then 0 else 1
theorem Aji {a b:Int} (h:AMa a≠AMa b) (h2:AMa a < AMa b):AVt a b= -1:=by
 unfold AMa at h h2;unfold AVt;repeat' split at h2
 all_goals (rw [if_pos (by omega)])
theorem Ajj {a b:Int} (h:AMa a≠AMa b) (h2: ¬ AMa a < AMa b):AVt a b=1:=by
 unfold AMa at h h2;unfold AVt
 rw [if_neg (by
   repeat' split at h2
   all_goals (repeat' split at h)
   all_goals omega),if_neg (by
     repeat' split at h2
     all_goals (repeat' split at h)
     all_goals omega)]
theorem Afx {na nb:Bool} {m k:Nat} {a b:Int} (ha:a=sgn na m) (hb:b=sgn nb k) (h:AMa a=AMa b):AMa a * ARm m k=AVt a b:=by
 have h3:AMa a= -1∨AMa a=0∨AMa a=1:=by unfold AMa;split;exact .inl rfl;split;exact .inr (.inl rfl);exact .inr (.inr rfl)
 rcases h3 with h1 | h1 | h1
 ·have e1:=Ap1 ha h1;have e2:=Ap1 hb (h ▸ h1);rw [h1];unfold ARm AVt;repeat' split
  all_goals omega
 ·have z:∀ x:Int,AMa x=0->x=0:=fun x hx=>by unfold AMa at hx;repeat' split at hx;all_goals omega
  have e1:=z a h1;have e2:=z b (h ▸ h1);rw [h1,e1,e2];simp [AVt]
 ·have e1:=Ap0 ha h1;have e2:=Ap0 hb (h ▸ h1);rw [h1];unfold ARm AVt;repeat' split
  all_goals omega
theorem Asy (a b:Nat): -1<=ARm a b/\ARm a b<=1:=by
 unfold ARm;repeat' split;all_goals omega
theorem Asz (a:Int): -1<=AMa a/\AMa a<=1:=by
 unfold AMa;repeat' split;all_goals omega
theorem As0 {x y:Int} (hx: -1<=x/\x<=1) (hy: -1<=y/\y<=1):IntKind.i64.wrap (x * y)=x * y:=by
 obtain ⟨x1,x2⟩:=hx;obtain ⟨y1,y2⟩:=hy;have Aa:x= -1∨x=0∨x=1:=by omega
 have Ab:y= -1∨y=0∨y=1:=by omega
 rcases Aa with rfl | rfl | rfl <;> rcases Ab with rfl | rfl | rfl <;> decide
theorem As1 {h:AHr} {lo:Nat} {va:Value} {z:Int} (HA:ZV h lo va z):AIj Tryz.prog 187 #[va] h fun x h'=>Ext h h'/\ZV h' (Array.size h) x (z.natAbs:Int):=by
 obtain ⟨na,sa,LA,rfl,HDa,htla,hla,hza⟩:=HA.out;have hna:LA.length<=1000000:=by omega
 have hba:nv LA < 4294967296 ^ 100:=Nat.lt_of_lt_of_le (ARf HDa.dig) (Nat.pow_le_pow_right (by decide) hla);refine AHx (l:=[_]) mx Tryz.func187 rfl rfl rfl rfl rfl (by kernel_rfl) (ACu (ACv (AN1 [.bool na,sa] (fun _=>trivial) rfl rfl fun Ag h2 V3 E4 Ao Be=>?_)));have Bf:Array.size h<=Ag:=Ao;have Bg:=E4.1;have Z8:=(Ext.refl h).trans E4;refine ALw [.bool false,.slice none 0 0] ALz rfl (fun _=>trivial) fun Aa Bh Aq Ab Ar Bi=>?_;have Bj:Array.size h<=Aa:=Nat.le_trans E4.1 Ar;have nebq1bq9:Ag≠Aa:=by have:=V3.lt;omega
 have Bl:=Ab.1;have Au:=Z8.trans Ab;have Ai:=E4.trans Ab;have Av:=E4.trans Ab;refine ACt (q_t (ACu (ACv (AJq (fs:=1) AQd (by kernel_rfl) (by decide) rfl (AIr ANk rfl ((V3.ext Ab).cell (i:=1) rfl) (AIa trivial rfl (AQ0 false (HDa.ext Ai) hna hba) fun Bm Bn hk=>?_))))));obtain ⟨Ac,Aw⟩:=hk;refine ⟨trivial,?_⟩;have Bo:=Ac.1;have Ax:=Au.trans Ac;have Ay:=Ai.trans Ac;have Az:=Av.trans Ac;have A3:=Aq.ext Ac;have A4:=Ab.trans Ac;obtain ⟨Aj,s3,L3,rfl,Am,A6,A7,A8⟩:=Aw.out;refine AIw [.bool Aj,s3] AH9 rfl rfl rfl rfl (ALx Am.cap) A3 fun Bp A9 Ad=>?_;have Ba:=Ay.thenUpd Ad (fun k hk=>by have Af:k=Aa:=hk;omega);have Bq:=Ad.1;have Br:=Ax.thenUpd Ad (fun k hk=>by have Af:k=Aa:=hk;omega);have Bt:=A4.thenUpd Ad (fun k hk=>by have Af:k=Aa:=hk;omega);have Bu:=Az.thenUpd Ad (fun k hk=>by have Af:k=Aa:=hk;omega);have Bb:=Am.updLo Ad (by omega);refine ACt (q_t (AH1 (⟨_,AJ7 AH9 rfl rfl A9,?_⟩)));exact ⟨Ba,⟨Aj,s3,L3,rfl,Bb.mono (by omega),A6,A7,by rw [<- A8,AL0 hza];rfl⟩⟩
theorem As2 {h:AHr} {la lb:Nat} {va vb:Value} {a b:Int} (HA:ZV h la va a) (HB:ZV h lb vb b):AIj Tryz.prog 127 #[va,vb] h fun x h'=>Ext h h'/\x= .int .i64 (AVt a b):=by
 obtain ⟨na,sa,LA,rfl,HDa,htla,hla,hza⟩:=HA.out;obtain ⟨nb,sb,LB,rfl,HDb,htlb,hlb,hzb⟩:=HB.out;refine AHx (l:=[_,_]) mx Tryz.func127 rfl rfl rfl rfl rfl (by kernel_rfl) (ACu (ACv (AN1 [.bool na,sa] (fun _=>trivial) rfl rfl fun Aq h2 V3 E4 A7 B4=>?_)));have B5:Array.size h<=Aq:=A7;have B6:=E4.1;have Z8:=(Ext.refl h).trans E4;refine AN1 [.bool nb,sb] (fun _=>trivial) rfl rfl fun Au Av Aw Ag A9 B7=>?_;have B8:Array.size h<=Au:=Nat.le_trans E4.1 A9;have nebq1bq9:Aq≠Au:=by have:=V3.lt;omega
 have B9:=Ag.1;have Ba:=Z8.trans Ag;have Ax:=E4.trans Ag;have Ay:=V3.ext Ag;have Bb:=E4.trans Ag;refine AHq (ACt (q_t (ACu (AKf (fun h'=>Ext Av h') (by kernel_rfl) ?_))));have Af:=Ext.refl Av;refine AKk [.bool na,sa] AH9 rfl rfl Af (fun h' hb=>(Ay.ext hb).agg) (AIa Af rfl (AXe (HA.ext Ax)) fun Ca Cb hk=>?_);obtain ⟨Ab,rfl⟩:=hk;have Ai:=Af.trans Ab;refine ⟨Ai,?_⟩;have Cd:=Ab.1;have Bc:=Ba.trans Ab;have Az:=Ax.trans Ab;have Be:=Ay.ext Ab;have Bf:=Bb.trans Ab;have Bg:=Aw.ext Ab;have Bh:=Ag.trans Ab;refine AKk [.bool nb,sb] AH9 rfl rfl Ai (fun h' hb=>(Aw.ext hb).agg) (AIa Ai rfl (AXe (HB.ext Az)) fun Ce A3 hk=>?_);obtain ⟨Ac,rfl⟩:=hk;have Bi:=Ai.trans Ac;refine ⟨Bi,?_⟩;have Cf:=Ac.1;have Bj:=Bc.trans Ac;have Ad:=Az.trans Ac;have A4:=Be.ext Ac;have Bl:=Bf.trans Ac;have A5:=Bg.ext Ac;have Bm:=Bh.trans Ac;refine AHq (AHq (ACt (q_t (ACu (ACu (ACv (AHo (AHo (Agm rfl rfl (fun Bn=>?_) (fun Bn=>?_))))))))))
 ·refine ACt (q_t (AIh rfl (ACu (ACu (ACv (AHo (AHo (ALo rfl rfl (fun Bo=>?_) (fun Bo=>?_)))))))))
  ·refine ACt (q_t (AIh rfl (ACu (ACv (AHq (ACt (q_t (AH1 (AIi (AIi (⟨_,AH5,?_⟩)))))))))));first | exact ⟨Ad,congrArg (Value.int .i64) (by rw [Ak,Am];exact Afx hza hzb (by omega))⟩ | exact ⟨Ad,congrArg (Value.int .i64) (Aji (by assumption) (by assumption)).symm⟩ | exact ⟨Ad,congrArg (Value.int .i64) (Ajj (by assumption) (by omega)).symm⟩
  ·refine ACt (q_t (AId rfl (AH2 (q_t (ACu (ACv (AHq (ACt (q_t (AH1 (AIi (⟨_,AH5,?_⟩))))))))))));first | exact ⟨Ad,congrArg (Value.int .i64) (by rw [Ak,Am];exact Afx hza hzb (by omega))⟩ | exact ⟨Ad,congrArg (Value.int .i64) (Aji (by assumption) (by assumption)).symm⟩ | exact ⟨Ad,congrArg (Value.int .i64) (Ajj (by assumption) (by omega)).symm⟩
 ·refine ACt (q_t (AId rfl (AH2 (q_t (ACu (AKf (fun h'=>Ext A3 h') (by kernel_rfl) ?_))))));have Af:=Ext.refl A3;refine AHo (AJq (fs:=1) AQd (by kernel_rfl) (by decide) rfl (AK1 ANk rfl Af (fun h' hb=>(A4.ext hb).cell (i:=1) rfl) (AIa Af rfl (AOe (DS.ext HDa Ad) (by omega)) fun Cg Ch hk=>?_)));obtain ⟨Ae,L1,Bp,Bq,Ak,Cj⟩:=hk;have Aj:=Af.trans Ae;refine ⟨Aj,?_⟩;have Ck:=Ae.1;have Br:=Bj.trans Ae;have A6:=Ad.trans Ae;have Bt:=A4.ext Ae;have Bu:=Bl.trans Ae;have Bv:=A5.ext Ae;have Bw:=Bm.trans Ae;refine AJq (fs:=1) AQd (by kernel_rfl) (by decide) rfl (AK1 ANk rfl Aj (fun h' hb=>(A5.ext hb).cell (i:=1) rfl) (AIa Aj rfl (AOe (DS.ext HDb A6) (by omega)) fun Cm Bx hk=>?_));obtain ⟨Aa,L2,By,Bz,Am,Co⟩:=hk;have Ao:=Aj.trans Aa;refine ⟨Ao,?_⟩;have Cp:=Aa.1;have Cq:=Br.trans Aa;have Ap:=A6.trans Aa;have Cr:=Bt.ext Aa;have Ct:=Bu.trans Aa;have Cu:=Bv.ext Aa;have Cv:=Bw.trans Aa;have B1:=Bp.ext Aa;refine AIa Ao rfl (Abu B1 By Bq Bz (by omega) (by omega)) fun Cw Bx hk=>?_;obtain ⟨rfl,rfl⟩:=hk;refine ⟨Ao,?_⟩;refine Akf rfl rfl ?_;rw [As0 (Asz _) (Asy _ _)];refine AHq (ACt (q_t (AH1 (⟨_,AH5,?_⟩))));first | exact ⟨Ap,congrArg (Value.int .i64) (by rw [Ak,Am];exact Afx hza hzb (by omega))⟩ | exact ⟨Ap,congrArg (Value.int .i64) (Aji (by assumption) (by assumption)).symm⟩ | exact ⟨Ap,congrArg (Value.int .i64) (Ajj (by assumption) (by omega)).symm⟩
def Ak5 (fuel:Nat) (a:Int):Option Int:=some (a.natAbs:Int)
def Aek (fuel:Nat) (a b:Int):Option Int:=some (AVt a b)
theorem Ajk {fuel:Nat} {h:AHr} {u:Value} {a r:Int} (H1:ZZ h u a) (hp:Ak5 fuel a=some r):AIj Tryz.prog 187 #[u] h (fun x h'=>Ext h h'/\ ∃ (x0:Value),x=x0/\ZZ h' x0 r):=by
 cases hp;exact (As1 H1).mono fun x h' hk=>⟨hk.1,x,rfl,hk.2.zz⟩
theorem Ada {fuel:Nat} {h:AHr} {u v:Value} {a b r:Int} (H1:ZZ h u a) (H2:ZZ h v b) (hp:Aek fuel a b=some r):AIj Tryz.prog 127 #[u,v] h (fun x h'=>Ext h h'/\x= .int .i64 r):=by
 cases hp;exact As2 H1 H2
end Go.Proofs.YtmmckalinicpaaaGreatDoor
namespace Go.Proofs.YtmmckalinicpaaaGreatDoor
open Go Go.QF
set_option maxRecDepth 100000
set_option maxHeartbeats 4000000
def AOo (fuel:Nat) (a3:LiI) (Ab:Int) (Af:LiA) (Aa:Int) (Ac:LiI):Option ((Int × LiI) ⊕ (((LiI × Bool)) ⊕ (LiI))):=
  (if Aa < (Af.length:Int) then ((gI a3 Ab).bind fun Ag=>((gI Ag Aa).bind fun Ah=>((Afv fuel Ah).bind fun (Ai,Aj)=>(if (!Aj)=true then (some (Sum.inr<| Sum.inl <| ([],false))) else ((gI Ac Ab).bind fun Ad=>((gI Ad Aa).bind fun Ak=>(some (Sum.inl ((w64 (Aa + 1)),(sI Ac Ab (sI Ad Aa Ai))))))))))) else (some (Sum.inr<| Sum.inr <| Ac)))
def AOp (fuel:Nat) (a3:LiI) (x5:Int) (x6:Int) (Aa:Int) (Ac:LiI):Option ((Int × LiI) ⊕ (((LiI × Bool)) ⊕ (LiI))):=
  (if Aa < ((List.replicate (Int.toNat x5) ([]:List Int)).length:Int) then (if 0<=x6/\x6<=100000000 then ((gI Ac Aa).bind fun Ai=>((gI (sI Ac Aa (List.replicate (Int.toNat x6) (0:Int))) Aa).bind fun Af=>((iter (fun s=>AOo fuel a3 Aa Af s.1 s.2) fuel (0,(sI Ac Aa (List.replicate (Int.toNat x6) (0:Int))))).bind (fun ex=>match ex with | Sum.inl Ag=>(some (Sum.inr<| Sum.inl <| Ag)) | Sum.inr (Ah)=>(some (Sum.inl ((w64 (Aa + 1)),Ah))))))) else none) else (some (Sum.inr<| Sum.inr <| Ac)))
def AMl (fuel:Nat) (a3:LiI):Option (LiI × Bool):=
  ((AJi fuel a3).bind fun (x5,x6,x7)=>(if (!x7)=true then (some ([],false)) else (if 0<=x5/\x5<=100000000 then ((iter (fun s=>AOp fuel a3 x5 x6 s.1 s.2) fuel (0,(List.replicate (Int.toNat x5) ([]:List Int)))).bind (fun ex=>match ex with | Sum.inl Ae=>(some Ae) | Sum.inr (Af)=>(some (Af,true)))) else none)))
theorem AUl {fuel:Nat} {h:AHr} {By:Value} {a3:LiI} {r:(LiI × Bool)} (H2:AM9 cZ h By a3) (hp:AMl fuel a3=some r):AIj Tryz.prog 88 #[By] h (fun x h'=>Ext h h'/\ ∃ (x0:Value) (F0:List Nat) (Cx:List LnA) (Cy:List Value),x= .tuple #[x0,.bool r.2]/\AI4 (cI .i64) 60 2 h' F0 Cx Cy x0 r.1/\Sp h' h.size [F0]):=by
 unfold AMl at hp;refine AHx (l:=[_]) mx Tryz.func88 rfl rfl rfl rfl rfl (by kernel_rfl) (ACu (ACv (AHq (AHq (ACt (q_t (ACu (ACv (AHo ?_)))))))));obtain ⟨⟨x5,x6,x7⟩,C1,A5⟩:=AHv hp;dsimp only at A5;refine AHy trivial tt2 rfl (ANb H2 C1) fun Ek C2 Af C3=>?_;subst C3;refine AHo (AI7 rfl rfl (AI7 rfl rfl (AI7 rfl rfl (AHq (AHq (AHq (ACt (q_t (ACu (ACu (ACv (AHo (AMj rfl (ACt (q_t ?_)))))))))))))));have El:=Af.1;have B5:=(AJ8 h h.size).keep Af.1;refine ⟨_,rfl,fun A6=>?_,fun A6=>?_⟩
 ·refine ACu (ACv (AHq (AHq (ACt (q_t (AH1 (AIi ?_)))))));obtain rfl:=AHw (ifT A5 A6);exact ⟨_,AKj,Af,_,_,_,_,rfl,(AMc (cI .i64) 60 2 C2),B5.addnil⟩
 ·refine AH2 (q_t (ACu (ACv (AHo ?_))));obtain ⟨C4,C5⟩:=ifN (AQm A5 A6);refine AYe (cI .i64) 2 AJg AYr rfl trivial tt2 rfl rfl (by decide) C4 fun Ap C6 C7 Aq A7 A8 A9 C8=>AHq (ACt (q_t (ACu (ACu (ACv (AHo (AKc AJg rfl A8.rd (AHo (ACt (q_t (AHz ?_)))))))))));have Em:=A9.1;have B6:=B5.app C8 A9.1 Af.1;obtain ⟨Ba,C9,B7⟩:=AHv C5;obtain ⟨Da,Db,Dc⟩:=AI0 C9;refine AIy 4611686018410614540 (fun x:(Int) × (LiI) × LnA × LnN × LvA=>[(24,(.int .i64 x.1))]) (fun (k:Nat) (x:(Int) × (LiI) × LnA × LnN × LvA) (h':AHr)=>iter Da k (x.1,x.2.1)=some Ba/\UpT (Ap ++ []) A7 h'/\Sp h' h.size [x.2.2.1]/\AI4 (cI .i64) 60 2 h' x.2.2.1 x.2.2.2.1 x.2.2.2.2 Aq x.2.1/\(∀ z∈x.2.2.1,z∈(Ap ++ [])∨Array.size A7<=z)) (by kernel_rfl) fuel ((0,(List.replicate (Int.toNat x5) ([]:List Int)),Ap,C6,C7):(Int) × (LiI) × LnA × LnN × LvA) ?_ ⟨rfl,trivial⟩ ?_
  ·exact ⟨Dc,UpT.start (AHp A8.notD all_nil),B6,A8,(AH4 rfl)⟩
  rintro En ⟨Aa,B8,Ar,Ab,B9⟩ Dd Bb ⟨De,Bc,Au,Av,Ag⟩;replace Av:AI4 (cI .i64) 60 2 Bb Ar Ab B9 Aq B8:=Av;replace Ag:∀ z∈Ar,z∈(Ap ++ [])∨Array.size A7<=z:=Ag;replace Au:Sp Bb h.size [Ar]:=Au;refine (show W _ _ _ (setL [(24,(.int .i64 Aa))] (mix _ Dd _)) Bb from ?_);have Eo:=Bc.size;have Be:=(Af.trans A9).thenT Bc (AHp (B6.loAll 0 rfl) all_nil);obtain ⟨Df,Ep,rfl,Ah,Bf⟩:=AIs De;rw [Db] at Ah;dsimp only at Ah;unfold AOp at Ah;refine ACu (ACv (AIp rfl rfl (AI6 _ _) (ACt (q_t (ACu (⟨_,rfl,fun Bg=>?_,fun Bg=>?_⟩))))))
  ·refine AH2 (q_t (ACu (AHz (ACu (ACv (AHo (AHq (ACt (q_t (ACu (ACv (AHo (AHo (AHo ?_))))))))))))));obtain ⟨Dg,Dh⟩:=ifN (AJ2 Ah Bg);refine Aag (c:=(cI .i64)) (a:=0) AJp AW7 rfl rfl (fun _=>rfl) rfl trivial tt2 rfl rfl (by decide) Dg fun Ac Di Dj Dk Ai Dl Dn=>?_;have Ca:=ARl Dl Dn;have Er:=Ai.1;have Cb:=Be.trans Ai;have Bh:=Au.app Ca Ai.1 Be.1;have Cd:=Ca.loAll 0 rfl;obtain ⟨Es,Ce,Do⟩:=AHv Dh;have Cf:=Av.ext Ai;refine AJs AJg rfl Cf rfl Ce fun Ad Et Dp Eu Ev=>AZg AKg Cf Ce Dp rfl rfl Dk (Bh.dj 1 0 rfl rfl (by decide)) fun Aw Ae Ax Dq=>?_;have Bi:∀ z∈(Ad :: (Ab.set (Int.toNat Aa) [Ac]).flatten),z∈Ar ++ [Ac]∨Array.size Dj<=z:=(fun z hz=> .inl (Dq z hz));have Ew:=Ax.size;have Cg:Sp Aw h.size [(Ad :: (Ab.set (Int.toNat Aa) [Ac]).flatten)]:=(((Bh.sel [0,1] (by decide))).mrg).put 0 rfl Ae.nodup Ax.size Cb.1 Ae.lt Bi;refine ACt (q_t (ACu (ACv (AHo (AHo ?_)))));obtain ⟨Ey,Ch,Dr⟩:=AHv Do;refine AJs AJg rfl Ae rfl Ch fun Ez Fa Fb Ds Dt=>AIr AKg rfl Dt (ALe AJp rfl (Ae.rowI Ds Ch) (AHo (ACt (q_t (AHz ?_)))));obtain ⟨Bj,Du,Ci⟩:=AHv Dr;obtain ⟨Dv,Dw,Dx⟩:=AI0 Du;refine AIy 2305842871774744076 (fun x:(Int) × (LiI) × LnA × LnN × LvA=>[(37,(.int .i64 x.1))]) (fun (k:Nat) (x:(Int) × (LiI) × LnA × LnN × LvA) (h':AHr)=>iter Dv k (x.1,x.2.1)=some Bj/\UpT ((Ad :: (Ab.set (Int.toNat Aa) [Ac]).flatten) ++ []) Aw h'/\Sp h' h.size [x.2.2.1]/\AI4 (cI .i64) 60 2 h' x.2.2.1 x.2.2.2.1 x.2.2.2.2 Aq x.2.1/\(∀ z∈x.2.2.1,z∈((Ad :: (Ab.set (Int.toNat Aa) [Ac]).flatten) ++ [])∨Array.size Aw<=z)) (by kernel_rfl) fuel ((0,(sI B8 Aa (List.replicate (Int.toNat x6) (0:Int))),(Ad :: (Ab.set (Int.toNat Aa) [Ac]).flatten),(Ab.set (Int.toNat Aa) [Ac]),(B9.set (Int.toNat Aa) Di)):(Int) × (LiI) × LnA × LnN × LvA) ?_ ⟨rfl,trivial⟩ ?_
   ·exact ⟨Dx,UpT.start (AHp Ae.notD all_nil),Cg,Ae,(AH4 rfl)⟩
   rintro Fc ⟨Bl,Bm,Aj,Bn,Bo⟩ Dy Bp ⟨Dz,Ay,Az,A3,Ak⟩;replace A3:AI4 (cI .i64) 60 2 Bp Aj Bn Bo Aq Bm:=A3;replace Ak:∀ z∈Aj,z∈((Ad :: (Ab.set (Int.toNat Aa) [Ac]).flatten) ++ [])∨Array.size Aw<=z:=Ak;replace Az:Sp Bp h.size [Aj]:=Az;refine (show W _ _ _ (setL [(37,(.int .i64 Bl))] (mix _ Dy _)) Bp from ?_);have Fd:=Ay.size;have A4:=(Cb.thenT Ax (Bh.loAll 0 rfl)).thenT Ay (AHp (Cg.loAll 0 rfl) all_nil);obtain ⟨D0,Fe,rfl,Am,Bq⟩:=AIs Dz;rw [Dw] at Am;dsimp only at Am;unfold AOo at Am;refine ACu (ACv (AIp rfl rfl (AI6 _ _) (ACt (q_t (ACu (⟨_,rfl,fun Br=>?_,fun Br=>?_⟩))))))
   ·refine AH2 (q_t (ACu (AHz (ACu (ACv (AHo (AHq (ACt (q_t (ACu (ACv (AHo (AHo ?_)))))))))))));obtain ⟨Ff,D1,D2⟩:=AHv (AJ2 Am Br);refine AQz AJe rfl H2 rfl D1 fun Fg Fh Fi D3 D4=>AIr AK8 rfl (AIc D3 A4) (AHo ?_);obtain ⟨Fj,D5,D6⟩:=AHv D2;refine AR4 (c:=cZ) AKh rfl D4 rfl D5 fun Fk Fl Fm D7 D8=>?_;have Cj:=cZ.upT D7 A4.upT;refine AUv (c:=cZ) AH9 rfl Cj (fun j u hu=>(AIc (D8 j u hu) A4)) ?_;obtain ⟨⟨Ck,Fo⟩,D9,Bt⟩:=AHv D6;dsimp only at Bt;refine AHy trivial tt2 rfl (Ag8 Cj.2 D9) fun Fp Ea Ao Eb=>?_;subst Eb;refine AHo (AI7 rfl rfl (AI7 rfl rfl (AHq (AHq (ACt (q_t (ACu (ACu (ACv (AHo (AMj rfl (ACt (q_t ?_)))))))))))));have Fq:=Ao.1;have Cm:=Az.keep Ao.1;refine ⟨_,rfl,fun Bu=>?_,fun Bu=>?_⟩
    ·refine ACu (ACv (AHq (AHq (ACt (q_t ?_)))));obtain rfl:=AHw (ifT Bt Bu);have Cn:=Bq;change _=Bj at Cn;subst Cn;have Co:=Ci;(try dsimp only at Co);obtain rfl:=AHw Co;have Cp:=Bf;change _=Ba at Cp;subst Cp;have Cq:=B7;(try dsimp only at Cq);refine AH1 (AIi (AJ0 (AIi (AIi (AJ0 (AJ0 (AIi (AIi (AJ0 (AIi ?_))))))))));obtain rfl:=AHw Cq;exact ⟨_,AKj,(A4.trans Ao),_,_,_,_,rfl,(AMc (cI .i64) 60 2 Ea),Cm.addnil.sel [1] (by decide)⟩
    ·refine AH2 (q_t (ACv (AHo (AHo ?_))));obtain ⟨Ec,Bv,Ed⟩:=AHv (AQm Bt Bu);have Bw:=A3.ext Ao;refine AJs AJg rfl Bw rfl Bv fun Fr Ft Fu Ee Ef=>AIr AKg rfl Ef (AHo (AHo ?_));obtain ⟨Fv,Cr,Eg⟩:=AHv Ed;refine ALr (m:=Aa) AJp rfl Bw Ee Bv rfl Cr fun Fw Eh=>APj (m:=Aa) (APe ALy rfl rfl rfl) Bw Eh Bv Cr (show ((cI .i64)).rep _ Ck _ from rfl) fun Fx Ei Bx=>ACt (q_b (q_t (ACv (AJd rfl rfl (AHo (ACt (q_t ?_)))))));have Fy:=Bx.size;obtain rfl:=AHw Eg;exact ⟨D0,(((w64 (Bl + 1)),(sI Bm Aa (sI Ec Bl Ck)),Aj,Bn,Bo):(Int) × (LiI) × LnA × LnN × LvA),Nat.lt_succ_self _,⟨Bq,((Ay.thenE Ao).then Bx (AH6 Ak (AHp (AH4 rfl) all_nil) (by omega))),(Cm.keep Bx.size),Ei,(AH6 Ak (AHp (AH4 rfl) all_nil) (by omega))⟩,rfl,trivial⟩
   ·obtain rfl:=AHw (AJ3 Am Br);have Ct:=Bq;change _=Bj at Ct;subst Ct;have Cu:=Ci;(try dsimp only at Cu);refine AIo (AIq (AIq (AJ5 (q_b (q_t (ACv (AJd rfl rfl (AHo (ACt (q_t ?_))))))))));obtain rfl:=AHw Cu;exact ⟨Df,(((w64 (Aa + 1)),Bm,Aj,Bn,Bo):(Int) × (LiI) × LnA × LnN × LvA),Nat.lt_succ_self _,⟨Bf,(((Bc.thenE Ai).then Ax (AH6 Ag (AHp (AH4 rfl) all_nil) (by omega))).then Ay (AHp (AH6 Bi (AHp (AH6 Ag (AHp (AH4 rfl) all_nil) (by omega)) (AJw Cd (by omega))) (by omega)) all_nil)),Az,A3,(AH6 Ak (AHp (AH6 Bi (AHp (AH6 Ag (AHp (AH4 rfl) all_nil) (by omega)) (AJw Cd (by omega))) (by omega)) all_nil) (by omega))⟩,rfl,trivial⟩
  ·obtain rfl:=AHw (AJ3 Ah Bg);have Cv:=Bf;change _=Ba at Cv;subst Cv;have Cw:=B7;(try dsimp only at Cw);refine AIo (AIq (AIq (AJ5 (q_t (ACu (ACv (AHo (AHq (AHq (ACt (q_t (AH1 ?_))))))))))));obtain rfl:=AHw Cw;exact ⟨_,AKj,Be,_,_,_,_,rfl,Av,Au⟩
def AN7 (fuel:Nat) (Ad:LiI) (Aa:Int) (Ab:LiI):Option ((Int × LiI) ⊕ ((LiI))):=
  (if Aa < (Ad.length:Int) then ((gI Ab Aa).bind fun Ac=>((AQq fuel 1).bind fun Ae=>((gI Ac Aa).bind fun Af=>(some (Sum.inl ((w64 (Aa + 1)),(sI Ab Aa (sI Ac Aa Ae)))))))) else (some (Sum.inr<| Ab)))
def AK5 (fuel:Nat) (a1:Int):Option (LiI × Bool):=
  (((if a1 < 1 then (some (Sum.inl <| ([],false))) else (if 16 < a1 then (some (Sum.inl <| ([],false))) else (some (Sum.inr <| ())))):Option (((LiI × Bool)) ⊕ (Unit))).bind (fun ex=>match ex with | Sum.inl Ac=>(some Ac) | Sum.inr (_)=>((AKt fuel a1 a1).bind fun Ab=>((iter (fun s=>AN7 fuel Ab s.1 s.2) fuel (0,Ab)).bind (fun (Ad:LiI)=>(some (Ad,true)))))))
theorem AQs {fuel:Nat} {h:AHr} {a1:Int} {r:(LiI × Bool)} (hp:AK5 fuel a1=some r):AIj Tryz.prog 86 #[(.int .i64 a1)] h (fun x h'=>Ext h h'/\ ∃ (x0:Value) (F0:List Nat) (Br:List LnA) (Bt:List Value),x= .tuple #[x0,.bool r.2]/\AI4 cZ 149 104 h' F0 Br Bt x0 r.1/\Sp h' h.size [F0]):=by
 unfold AK5 at hp;refine AHx (l:=[_]) mx Tryz.func86 rfl rfl rfl rfl rfl (by kernel_rfl) (ACu (ACv (AHq (AHq (ACt (q_t ?_))))));have S0:=AJ8 h h.size;obtain ⟨Bu,A7,Ao⟩:=AHv hp;refine AMu 4044 (fun x:Unit=>[]) (fun (x:Unit) (h':AHr)=>(Sum.inr <| ())=Bu/\UpT [] h h'/\Sp h' h.size []) (by kernel_rfl) ?_ ?_
 ·refine ACu (ACv (AHo (AIp rfl rfl (AI6 _ _) (AHo ?_))));rcases Decidable.em (a1 < 1) with Ae | Ae
  ·rw [show decide (a1 < 1)=true from decide_eq_true Ae];refine AH0 8 true (by kernel_rfl) rfl rfl (AH0 8 true (by kernel_rfl) rfl rfl (AIt rfl (ACt (q_t (AIh rfl (ACu (ACv (AHq (AHq (ACt (q_t ?_)))))))))));obtain rfl:=AHw (ifT A7 Ae);have A8:=Ao;(try dsimp only at A8);refine AH1 (AIi ?_);obtain rfl:=AHw A8;exact ⟨_,AKj,(Ext.refl _),_,_,_,_,rfl,(AMc cZ 149 104 h),S0.addnil⟩
  ·have A9:=ifF A7 Ae;rw [show decide (a1 < 1)=false from decide_eq_false Ae];refine AH3 8 false (by kernel_rfl) rfl rfl (AHo (AH3 8 false (by kernel_rfl) rfl rfl (AIp rfl rfl (APf _ _) (AIv rfl (ACt (q_t (⟨_,rfl,fun Ap=>?_,fun Ap=>?_⟩)))))))
   ·refine ACu (ACv (AHq (AHq (ACt (q_t ?_)))));obtain rfl:=AHw (AJ2 A9 Ap);have Ba:=Ao;(try dsimp only at Ba);refine AH1 (AIi ?_);obtain rfl:=AHw Ba;exact ⟨_,AKj,(Ext.refl _),_,_,_,_,rfl,(AMc cZ 149 104 h),S0.addnil⟩
   ·refine AH2 (q_t ?_);have Bv:UpT [] h h:=UpT.start all_nil;exact ⟨(():Unit),⟨AHw (AJ3 A9 Ap),Bv,S0⟩,trivial⟩
 rintro ⟨⟩ Bw Bb ⟨Bx,Bc,Aq⟩;replace Aq:Sp Bb h.size []:=Aq;refine (show W _ _ _ (setL [] (mix _ Bw _)) Bb from ?_);have Cu:=Bc.size;have Be:=(Ext.refl _).thenT Bc all_nil;subst Bx;have Bf:=Ao;(try dsimp only at Bf);refine ACu (ACv (AHo (AHo ?_)));obtain ⟨By,Bz,B1⟩:=AHv Bf;refine AHy trivial tt2 rfl (ANh Bz) fun Bg Ar Au B3=>?_;obtain ⟨Cv,Ag,B4,B5,rfl,Av,B6⟩:=B3;refine AHq (ACt (q_t (ACu (ACu (ACv (AHo (AKc AJe rfl Av.rd (AHo (ACt (q_t (AHz ?_)))))))))));have Cw:=Au.1;have Bh:=Aq.app B6 Au.1 Be.1;obtain ⟨Bi,B7,B8⟩:=AHv B1;obtain ⟨B9,Ca,Cb⟩:=AI0 B7;refine AIy 268304416 (fun x:(Int) × (LiI) × LnA × LnN × LvA=>[(17,(.int .i64 x.1))]) (fun (k:Nat) (x:(Int) × (LiI) × LnA × LnN × LvA) (h':AHr)=>iter B9 k (x.1,x.2.1)=some Bi/\UpT (Ag ++ []) Ar h'/\Sp h' h.size [x.2.2.1]/\AI4 cZ 149 104 h' x.2.2.1 x.2.2.2.1 x.2.2.2.2 Bg x.2.1/\(∀ z∈x.2.2.1,z∈(Ag ++ [])∨Array.size Ar<=z)) (by kernel_rfl) fuel ((0,By,Ag,B4,B5):(Int) × (LiI) × LnA × LnN × LvA) ?_ ⟨rfl,trivial⟩ ?_
 ·exact ⟨Cb,UpT.start (AHp Av.notD all_nil),Bh,Av,(AH4 rfl)⟩
 rintro Cx ⟨Aa,Bj,Ah,Bl,Bm⟩ Cd Ab ⟨Ce,Aw,Ai,Ac,Aj⟩;replace Ac:AI4 cZ 149 104 Ab Ah Bl Bm Bg Bj:=Ac;replace Aj:∀ z∈Ah,z∈(Ag ++ [])∨Array.size Ar<=z:=Aj;replace Ai:Sp Ab h.size [Ah]:=Ai;refine (show W _ _ _ (setL [(17,(.int .i64 Aa))] (mix _ Cd _)) Ab from ?_);have Cy:=Aw.size;obtain ⟨Cf,Cz,rfl,Af,Bn⟩:=AIs Ce;rw [Ca] at Af;dsimp only at Af;unfold AN7 at Af;refine ACu (ACv (AIp rfl rfl (AI6 _ _) (ACt (q_t (ACu (⟨_,rfl,fun Ax=>?_,fun Ax=>?_⟩))))))
 ·refine AH2 (q_t (ACu (AHz (ACu (ACv (AHo (AHq (ACt (q_t (AKf (fun h'=>UpT [] Ab h') (by kernel_rfl) ?_))))))))));have Ay:UpT [] Ab Ab:=UpT.start all_nil;refine AHo (AHo ?_);obtain ⟨Cg,Az,Ch⟩:=AHv (AJ2 Af Ax);refine AJs AJe rfl Ac rfl Az fun C0 C1 C2 Ci Cj=>AK1 AK8 rfl Ay (fun h' hb=>AIc Cj hb.ext) (AHo ?_);obtain ⟨Ck,Cm,Cn⟩:=AHv Ch;refine AHy Ay (fun _ E=>Ay.thenE E) rfl (APk Cm) fun C3 C4 Ak Co=>?_;obtain ⟨C5,rfl,Cp⟩:=Co;have C6:=Ak.1;obtain ⟨C7,rfl,A3⟩:=Cp.cs;obtain ⟨C8,Bo,Cq⟩:=AHv Cn;refine ALr (m:=Aa) AKh rfl Ac Ci Az rfl Bo fun C9 Cr=>APj (m:=Aa) (AUw AH9 (cZ.klen A3) rfl rfl (cZ.one A3)) (Ac.ext Ak) Cr Az Bo A3 fun Da Ct A4=>ACt (q_b (q_t (ACv (AJd rfl rfl (AHo (ACt (q_t ?_)))))));have Db:=A4.size;obtain rfl:=AHw Cq;exact ⟨Cf,(((w64 (Aa + 1)),(sI Bj Aa (sI Cg Aa Ck)),Ah,Bl,Bm):(Int) × (LiI) × LnA × LnN × LvA),Nat.lt_succ_self _,⟨Bn,((Aw.thenE Ak).then A4 (AH6 Aj (AHp (AH4 rfl) all_nil) (by omega))),((Ai.keep Ak.1).keep A4.size),Ct,(AH6 Aj (AHp (AH4 rfl) all_nil) (by omega))⟩,rfl,trivial⟩
 ·obtain rfl:=AHw (AJ3 Af Ax);have Bp:=Bn;change _=Bi at Bp;subst Bp;have Bq:=B8;(try dsimp only at Bq);refine AIo (AIq (AIq (AJ5 (q_t (ACu (ACv (AHo (AHq (AHq (ACt (q_t (AH1 ?_))))))))))));obtain rfl:=AHw Bq;exact ⟨_,AKj,((Be.trans Au).thenT Aw (AHp (Bh.loAll 0 rfl) all_nil)),_,_,_,_,rfl,Ac,Ai⟩
def ANm (fuel:Nat) (a3:LiI) (Ab:Int) (Af:LiA) (Aa:Int) (Ac:LiI):Option ((Int × LiI) ⊕ ((LiI))):=
  (if Aa < (Af.length:Int) then ((gI Ac Aa).bind fun Ad=>((gI a3 Ab).bind fun Ag=>((gI Ag Aa).bind fun Ah=>((AUz fuel Ah).bind fun Ai=>((gI Ad Ab).bind fun Aj=>(some (Sum.inl ((w64 (Aa + 1)),(sI Ac Aa (sI Ad Ab Ai)))))))))) else (some (Sum.inr<| Ac)))
def ANn (fuel:Nat) (a3:LiI) (Aa:Int) (Ac:LiI):Option ((Int × LiI) ⊕ ((LiI))):=
  (if Aa < (a3.length:Int) then ((gI a3 Aa).bind fun Ad=>((iter (fun s=>ANm fuel a3 Aa Ad s.1 s.2) fuel (0,Ac)).bind (fun (Ae:LiI)=>(some (Sum.inl ((w64 (Aa + 1)),Ae)))))) else (some (Sum.inr<| Ac)))
def AKu (fuel:Nat) (a3:LiI):Option (LiI × Bool):=
  ((AJi fuel a3).bind fun (x5,x6,x7)=>(if (!x7)=true then (some ([],false)) else ((AKt fuel x6 x5).bind fun Ae=>((iter (fun s=>ANn fuel a3 s.1 s.2) fuel (0,Ae)).bind (fun (Af:LiI)=>(some (Af,true)))))))
theorem AQe {fuel:Nat} {h:AHr} {Bi:Value} {a3:LiI} {r:(LiI × Bool)} (H2:AM9 cZ h Bi a3) (hp:AKu fuel a3=some r):AIj Tryz.prog 153 #[Bi] h (fun x h'=>Ext h h'/\ ∃ (x0:Value) (F0:List Nat) (B6:List LnA) (B7:List Value),x= .tuple #[x0,.bool r.2]/\AI4 cZ 149 104 h' F0 B6 B7 x0 r.1/\Sp h' h.size [F0]):=by
 unfold AKu at hp;refine AHx (l:=[_]) mx Tryz.func153 rfl rfl rfl rfl rfl (by kernel_rfl) (ACu (ACv (AHq (AHq (ACt (q_t (ACu (ACv (AHo ?_)))))))));obtain ⟨⟨x5,x6,x7⟩,B8,Ay⟩:=AHv hp;dsimp only at Ay;refine AHy trivial tt2 rfl (ANb H2 B8) fun Ds B9 Ae Ca=>?_;subst Ca;refine AHo (AI7 rfl rfl (AI7 rfl rfl (AI7 rfl rfl (AHq (AHq (AHq (ACt (q_t (ACu (ACu (ACv (AHo (AMj rfl (ACt (q_t ?_)))))))))))))));have Dt:=Ae.1;have Bn:=(AJ8 h h.size).keep Ae.1;refine ⟨_,rfl,fun Az=>?_,fun Az=>?_⟩
 ·refine ACu (ACv (AHq (AHq (ACt (q_t (AH1 (AIi ?_)))))));obtain rfl:=AHw (ifT Ay Az);exact ⟨_,AKj,Ae,_,_,_,_,rfl,(AMc cZ 149 104 B9),Bn.addnil⟩
 ·refine AH2 (q_t (ACu (ACv (AHo (AHo ?_)))));obtain ⟨Cb,Cd,Ce⟩:=AHv (AQm Ay Az);refine AHy trivial tt2 rfl (ANh Cd) fun Aq A3 A4 Cf=>?_;obtain ⟨v30,Ar,Cg,Ch,rfl,Bo,Ci⟩:=Cf;refine AHq (ACt (q_t (ACu (ACu (ACv (AHo (AKc AJe rfl H2 (AHo (ACt (q_t (AHz ?_)))))))))));have Du:=A4.1;have Bp:=Bn.app Ci A4.1 Ae.1;obtain ⟨Bq,Cj,Ck⟩:=AHv Ce;obtain ⟨Cm,Cn,Co⟩:=AI0 Cj;refine AIy 1125899898454784 (fun x:(Int) × (LiI) × LnA × LnN × LvA=>[(23,(.int .i64 x.1))]) (fun (k:Nat) (x:(Int) × (LiI) × LnA × LnN × LvA) (h':AHr)=>iter Cm k (x.1,x.2.1)=some Bq/\UpT (Ar ++ []) A3 h'/\Sp h' h.size [x.2.2.1]/\AI4 cZ 149 104 h' x.2.2.1 x.2.2.2.1 x.2.2.2.2 Aq x.2.1/\(∀ z∈x.2.2.1,z∈(Ar ++ [])∨Array.size A3<=z)) (by kernel_rfl) fuel ((0,Cb,Ar,Cg,Ch):(Int) × (LiI) × LnA × LnN × LvA) ?_ ⟨rfl,trivial⟩ ?_
  ·exact ⟨Co,UpT.start (AHp Bo.notD all_nil),Bp,Bo,(AH4 rfl)⟩
  rintro Dv ⟨A5,Br,Aa,Bt,Bu⟩ Cp Ab ⟨Cq,A6,Af,Ag,Au⟩;replace Ag:AI4 cZ 149 104 Ab Aa Bt Bu Aq Br:=Ag;replace Au:∀ z∈Aa,z∈(Ar ++ [])∨Array.size A3<=z:=Au;replace Af:Sp Ab h.size [Aa]:=Af;refine (show W _ _ _ (setL [(23,(.int .i64 A5))] (mix _ Cp _)) Ab from ?_);have Dw:=A6.size;have A7:=(Ae.trans A4).thenT A6 (AHp (Bp.loAll 0 rfl) all_nil);obtain ⟨Cr,Dx,rfl,Ah,Bv⟩:=AIs Cq;rw [Cn] at Ah;dsimp only at Ah;unfold ANn at Ah;refine ACu (ACv (AIp rfl rfl (AI6 _ _) (ACt (q_t (ACu (⟨_,rfl,fun A8=>?_,fun A8=>?_⟩))))))
  ·refine AH2 (q_t (ACu (AHz (ACu (ACv (AHo (AHq (ACt (q_t (ACu (ACv (AHo (AHo ?_)))))))))))));obtain ⟨Dy,Ct,Cu⟩:=AHv (AJ2 Ah A8);refine AQz AJe rfl H2 rfl Ct fun Dz D0 D1 Cv Cw=>AIr AK8 rfl (AIc Cv A7) (ALe AKh rfl Cw (AHo (ACt (q_t (AHz ?_)))));obtain ⟨Bw,Cx,Cy⟩:=AHv Cu;obtain ⟨Cz,C0,C1⟩:=AI0 Cx;refine AIy 562947805938176 (fun x:(Int) × (LiI) × LnA × LnN × LvA=>[(31,(.int .i64 x.1))]) (fun (k:Nat) (x:(Int) × (LiI) × LnA × LnN × LvA) (h':AHr)=>iter Cz k (x.1,x.2.1)=some Bw/\UpT (Aa ++ []) Ab h'/\Sp h' h.size [x.2.2.1]/\AI4 cZ 149 104 h' x.2.2.1 x.2.2.2.1 x.2.2.2.2 Aq x.2.1/\(∀ z∈x.2.2.1,z∈(Aa ++ [])∨Array.size Ab<=z)) (by kernel_rfl) fuel ((0,Br,Aa,Bt,Bu):(Int) × (LiI) × LnA × LnN × LvA) ?_ ⟨rfl,trivial⟩ ?_
   ·exact ⟨C1,UpT.start (AHp Ag.notD all_nil),Af,Ag,(AH4 rfl)⟩
   rintro D2 ⟨Ai,A9,Aj,Ba,Bb⟩ C2 Ac ⟨C3,Av,Aw,Ad,Ak⟩;replace Ad:AI4 cZ 149 104 Ac Aj Ba Bb Aq A9:=Ad;replace Ak:∀ z∈Aj,z∈(Aa ++ [])∨Array.size Ab<=z:=Ak;replace Aw:Sp Ac h.size [Aj]:=Aw;refine (show W _ _ _ (setL [(31,(.int .i64 Ai))] (mix _ C2 _)) Ac from ?_);have D3:=Av.size;have Bc:=A7.thenT Av (AHp (Af.loAll 0 rfl) all_nil);obtain ⟨C4,D4,rfl,Am,Bx⟩:=AIs C3;rw [C0] at Am;dsimp only at Am;unfold ANm at Am;refine ACu (ACv (AIp rfl rfl (AI6 _ _) (ACt (q_t (ACu (⟨_,rfl,fun Be=>?_,fun Be=>?_⟩))))))
   ·refine AH2 (q_t (ACu (AHz (ACu (ACv (AHo (AHq (ACt (q_t (AKf (fun h'=>UpT [] Ac h') (by kernel_rfl) ?_))))))))));have Ao:UpT [] Ac Ac:=UpT.start all_nil;refine AHo (AHo ?_);obtain ⟨C5,Bf,C6⟩:=AHv (AJ2 Am Be);refine AJs AJe rfl Ad rfl Bf fun D5 D6 D7 C7 C8=>AK1 AK8 rfl Ao (fun h' hb=>AIc C8 hb.ext) (AHo (AHo (AHo ?_)));obtain ⟨D8,C9,Da⟩:=AHv C6;refine AQz AJe rfl H2 rfl C9 fun D9 Ea Eb Db Dc=>AK1 AK8 rfl Ao (fun h' hb=>AIc Db (Bc.trans hb.ext)) (AHo ?_);obtain ⟨Ec,Dd,De⟩:=AHv Da;refine AR4 (c:=cZ) AKh rfl Dc rfl Dd fun Ed Ee Ef By Df=>AU8 (c:=cZ) AH9 rfl By Ao (fun h' hb j u hu=>AIc (Df j u hu) (Bc.trans hb.ext)) ?_;obtain ⟨Dg,Dh,Di⟩:=AHv De;refine AHy Ao (fun _ E=>Ao.thenE E) rfl (AWf (cZ.upT By Bc.upT).2 Dh) fun Eg Eh Ax Dj=>?_;obtain ⟨Ei,rfl,Dk⟩:=Dj;have Ej:=Ax.1;obtain ⟨Ek,rfl,Bg⟩:=Dk.cs;obtain ⟨El,Bz,Dl⟩:=AHv Di;refine ALr (m:=Ai) AKh rfl Ad C7 Bf rfl Bz fun Em Dn=>APj (m:=Ai) (AUw AH9 (cZ.klen Bg) rfl rfl (cZ.one Bg)) (Ad.ext Ax) Dn Bf Bz Bg fun En Do Bh=>ACt (q_b (q_t (ACv (AJd rfl rfl (AHo (ACt (q_t ?_)))))));have Eo:=Bh.size;obtain rfl:=AHw Dl;exact ⟨C4,(((w64 (Ai + 1)),(sI A9 Ai (sI C5 A5 Dg)),Aj,Ba,Bb):(Int) × (LiI) × LnA × LnN × LvA),Nat.lt_succ_self _,⟨Bx,((Av.thenE Ax).then Bh (AH6 Ak (AHp (AH4 rfl) all_nil) (by omega))),((Aw.keep Ax.1).keep Bh.size),Do,(AH6 Ak (AHp (AH4 rfl) all_nil) (by omega))⟩,rfl,trivial⟩
   ·obtain rfl:=AHw (AJ3 Am Be);have B1:=Bx;change _=Bw at B1;subst B1;have B3:=Cy;(try dsimp only at B3);refine AIo (AIq (AIq (AJ5 (q_b (q_t (ACv (AJd rfl rfl (AHo (ACt (q_t ?_))))))))));obtain rfl:=AHw B3;exact ⟨Cr,(((w64 (A5 + 1)),A9,Aj,Ba,Bb):(Int) × (LiI) × LnA × LnN × LvA),Nat.lt_succ_self _,⟨Bv,(A6.then Av (AHp (AH6 Au (AHp (AH4 rfl) all_nil) (by omega)) all_nil)),Aw,Ad,(AH6 Ak (AHp (AH6 Au (AHp (AH4 rfl) all_nil) (by omega)) all_nil) (by omega))⟩,rfl,trivial⟩
  ·obtain rfl:=AHw (AJ3 Ah A8);have B4:=Bv;change _=Bq at B4;subst B4;have B5:=Ck;(try dsimp only at B5);refine AIo (AIq (AIq (AJ5 (q_t (ACu (ACv (AHo (AHq (AHq (ACt (q_t (AH1 ?_))))))))))));obtain rfl:=AHw B5;exact ⟨_,AKj,A7,_,_,_,_,rfl,Ag,Af⟩
def AP8 (fuel:Nat) (a3:LiA) (a7:LiA) (Aa:Int) (Ac:Int):Option ((Int × Int) ⊕ ((Int))):=
  (if Aa < (a3.length:Int) then ((gI a3 Aa).bind fun Ae=>((gI a7 Aa).bind fun Af=>((AUy fuel Ae Af).bind fun Ag=>((Ak4 fuel Ac Ag).bind fun Ah=>(some (Sum.inl ((w64 (Aa + 1)),Ah))))))) else (some (Sum.inr<| Ac)))
def ANu (fuel:Nat) (a3:LiA) (a7:LiA):Option Int:=
  ((iter (fun s=>AP8 fuel a3 a7 s.1 s.2) fuel (0,0)).bind (fun (Ac:Int)=>(some Ac)))
theorem AWh {fuel:Nat} {h:AHr} {A3:Value} {a3:LiA} {A5:Value} {a7:LiA} {r:Int} (H2:SlC cZ h A3 a3) (H6:SlC cZ h A5 a7) (hp:ANu fuel a3 a7=some r):AIj Tryz.prog 199 #[A3,A5] h (fun x h'=>Ext h h'/\ ∃ (x0:Value),x=x0/\ZZ h' x0 r):=by
 unfold ANu at hp;refine AHx (l:=[_,_]) mx Tryz.func199 rfl rfl rfl rfl rfl (by kernel_rfl) (ACu (ACv (AI9 [.bool false,.slice none 0 0] ALz rfl trivial tt2 fun b9 Ba Bv Am Bw=>ACt (q_t (ACu (ACv (AM7 (ASi ) (AI9 [.bool false,.slice none 0 0] ALz rfl trivial tt2 fun Af Cw Bb Ac Bx=>?_))))))));have Ar:=((AJ8 h h.size).app Bw Am.1 (Nat.le_refl _)).app Bx Ac.1 Am.1;have Au:=cZ.upT (AIk Ba) Ac.upT;refine AIw [Value.bool false,Value.slice none 0 0] AH9 (cZ.klen Au) (cZ.klen (cZ.upT (AIk Ba) Ac.upT)) rfl rfl (cZ.one Au) Bb fun By Av Bz=>ACt (q_t (ACu (ACu (ACv (AHo (ALe AKh rfl H2 (AHo (ACt (q_t (AHz ?_))))))))));have Ag:=Av.stA Bz (AH8 Bb rfl) rfl;have Aw:=Ar.keep Ag.size;obtain ⟨Bc,B1,B3⟩:=AHv hp;obtain ⟨B4,B5,B6⟩:=AI0 B1;refine AIy 33553472 (fun x:(Int) × (Int) × LvA=>[(10,(.int .i64 x.1))]) (fun (k:Nat) (x:(Int) × (Int) × LvA) (h':AHr)=>iter B4 k (x.1,x.2.1)=some Bc/\UpT ([Af] ++ []) By h'/\Sp h' h.size [[b9],[Af]]/\cZ.rep h' x.2.1 x.2.2/\AI1 104 h' Af x.2.2) (by kernel_rfl) fuel ((0,0,[Value.bool false,Value.slice none 0 0]):(Int) × (Int) × LvA) ?_ ⟨rfl,trivial⟩ ?_
 ·exact ⟨B6,UpT.start (AHp (AH8 Av rfl) all_nil),Aw,(cZ.upT Au Ag),Av⟩
 rintro Cx ⟨Be,B7,Ah⟩ B8 Ab ⟨B9,Ao,Ap,Aa,Ai⟩;replace Aa:cZ.rep Ab B7 Ah:=Aa;replace Ai:AI1 104 Ab Af Ah:=Ai;replace Ap:Sp Ab h.size [[b9],[Af]]:=Ap;refine (show W _ _ _ (setL [(10,(.int .i64 Be))] (mix _ B8 _)) Ab from ?_);have Aj:=((Am.trans Ac).thenT Ag (Ar.loAll 1 rfl)).thenT Ao (AHp (Aw.loAll 1 rfl) all_nil);obtain ⟨Ca,Cy,rfl,Ak,Bf⟩:=AIs B9;rw [B5] at Ak;dsimp only at Ak;unfold AP8 at Ak;refine ACu (ACv (AIp rfl rfl (AI6 _ _) (ACt (q_t (ACu (⟨_,rfl,fun Ax=>?_,fun Ax=>?_⟩))))))
 ·refine AH2 (q_t (ACu (AHz (ACu (ACv (AHo (AHq (ACt (q_t (AKf (fun h'=>UpT [] Ab h') (by kernel_rfl) ?_))))))))));have Ad:UpT [] Ab Ab:=UpT.start all_nil;refine AKk Ah AH9 (cZ.klen Aa) rfl Ad (fun h' hb=>(Ai.ext hb.ext).agg) (AHo (AHo ?_));obtain ⟨Cz,Cb,Cd⟩:=AHv (AJ2 Ak Ax);refine AR4 (c:=cZ) AKh rfl H2 rfl Cb fun C0 C1 C2 Bg Ce=>AU8 (c:=cZ) AH9 rfl Bg Ad (fun h' hb j u hu=>AIc (Ce j u hu) (Aj.trans hb.ext)) (AHo (AHo ?_));obtain ⟨C3,Cf,Cg⟩:=AHv Cd;refine AR4 (c:=cZ) AKh rfl H6 rfl Cf fun C4 C5 C6 Bh Ch=>AU8 (c:=cZ) AH9 rfl Bh Ad (fun h' hb j u hu=>AIc (Ch j u hu) (Aj.trans hb.ext)) ?_;obtain ⟨C7,Ci,Cj⟩:=AHv Cg;refine AHy Ad (fun _ E=>Ad.thenE E) rfl (ATb (cZ.upT Bg Aj.upT).2 (cZ.upT Bh Aj.upT).2 Ci) fun C8 C9 Ae Ck=>?_;obtain ⟨Da,rfl,Cm⟩:=Ck;have Bi:=Ad.thenE Ae;obtain ⟨Db,rfl,Cn⟩:=Cm.cs;obtain ⟨Co,Cp,Cq⟩:=AHv Cj;refine AHy Bi (fun _ E=>Bi.thenE E) rfl (Ajh (cZ.upT Aa Ae.upT).2 Cn.2 Cp) fun Dc Dd Aq Cr=>?_;obtain ⟨De,rfl,Ct⟩:=Cr;obtain ⟨Bj,rfl,Ay⟩:=Ct.cs;have Bl:=(Ai.ext Ae).ext Aq;refine AIw Bj AH9 (cZ.klen Ay) (cZ.klen (cZ.upT (cZ.upT Aa Ae.upT) Aq.upT)) rfl rfl (cZ.one Ay) Bl fun Df Bm Cu=>ACt (q_b (q_t (ACv (AJd rfl rfl (AHo (ACt (q_t ?_)))))));have Az:=Bm.stA Cu (AH8 Bl rfl) rfl;obtain rfl:=AHw Cq;exact ⟨Ca,(((w64 (Be + 1)),Co,Bj):(Int) × (Int) × LvA),Nat.lt_succ_self _,⟨Bf,(((Ao.thenE Ae).thenE Aq).then Az (AH4 rfl)),(((Ap.keep Ae.1).keep Aq.1).keep Az.size),(cZ.upT Ay Az),Bm⟩,rfl,trivial⟩
 ·obtain rfl:=AHw (AJ3 Ak Ax);have Bn:=Bf;change _=Bc at Bn;subst Bn;have Bo:=B3;(try dsimp only at Bo);refine AIo (AIq (AIq (AJ5 (q_t (ACu (ACv (AKr Ah AH9 (cZ.klen Aa) rfl Ai.agg ?_)))))));have Bp:=((Bv.ext Ac).upT Ag (Ar.dj 0 1 rfl rfl (by decide))).upT Ao (AJc (Aw.dj 0 1 rfl rfl (by decide)) AI3);refine AIw Ah AH9 (cZ.klen Aa) (cZ.klen (cZ.upT (cZ.upT (cZ.upT (cZ.upT (AIk h) Am.upT) Ac.upT) Ag) Ao)) rfl rfl (cZ.one Aa) Bp fun Dg Bq Cv=>ACt (q_t (AH1 ?_));have Br:=Bq.stA Cv (AH8 Bp rfl) rfl;obtain rfl:=AHw Bo;have Bt:=cZ.upT Aa Br;exact ⟨_,AJ7 AH9 (cZ.klen Bt) rfl Bq,(Aj.thenT Br (Ap.loAll 0 rfl)),_,rfl,Bt.2⟩
def AP9 (fuel:Nat) (a3:LiI) (Ad:LiI) (Ab:Int) (Aa:Int) (Ac:LiI):Option ((Int × LiI) ⊕ ((LiI))):=
  (if Aa < (Ad.length:Int) then ((gI Ac Ab).bind fun Ae=>((gI a3 Ab).bind fun Ag=>((gI Ad Aa).bind fun Ah=>((ANu fuel Ag Ah).bind fun Ai=>((gI Ae Aa).bind fun Aj=>(some (Sum.inl ((w64 (Aa + 1)),(sI Ac Ab (sI Ae Aa Ai)))))))))) else (some (Sum.inr<| Ac)))
def AQa (fuel:Nat) (a3:LiI) (Ad:LiI) (Aa:Int) (Ac:LiI):Option ((Int × LiI) ⊕ ((LiI))):=
  (if Aa < (a3.length:Int) then ((iter (fun s=>AP9 fuel a3 Ad Aa s.1 s.2) fuel (0,Ac)).bind (fun (Ae:LiI)=>(some (Sum.inl ((w64 (Aa + 1)),Ae))))) else (some (Sum.inr<| Ac)))
def ANv (fuel:Nat) (a3:LiI) (a7:LiI):Option (LiI × Bool):=
  ((AJi fuel a3).bind fun (x9,Ad,Ae)=>((AKu fuel a7).bind fun (Ac,Af)=>(((if (!Ae)=true then (some (Sum.inl <| ([],false))) else (if (!Af)=true then (some (Sum.inl <| ([],false))) else (if ¬ (a7.length:Int)=Ad then (some (Sum.inl <| ([],false))) else (some (Sum.inr <| ()))))):Option (((LiI × Bool)) ⊕ (Unit))).bind (fun ex=>match ex with | Sum.inl Ag=>(some Ag) | Sum.inr (_)=>((AKt fuel (a3.length:Int) (Ac.length:Int)).bind fun Ah=>((iter (fun s=>AQa fuel a3 Ac s.1 s.2) fuel (0,Ah)).bind (fun (Ai:LiI)=>(some (Ai,true)))))))))
theorem AWi {fuel:Nat} {h:AHr} {Bp:Value} {a3:LiI} {Br:Value} {a7:LiI} {r:(LiI × Bool)} (H2:AM9 cZ h Bp a3) (H6:AM9 cZ h Br a7) (hp:ANv fuel a3 a7=some r):AIj Tryz.prog 154 #[Bp,Br] h (fun x h'=>Ext h h'/\ ∃ (x0:Value) (F0:List Nat) (Cy:List LnA) (Cz:List Value),x= .tuple #[x0,.bool r.2]/\AI4 cZ 149 104 h' F0 Cy Cz x0 r.1/\Sp h' h.size [F0]):=by
 unfold ANv at hp;refine AHx (l:=[_,_]) mx Tryz.func154 rfl rfl rfl rfl rfl (by kernel_rfl) (ACu (ACv (AHq (AHq (ACt (q_t (ACu (ACv (AHo ?_)))))))));obtain ⟨⟨x9,Ek,C0⟩,C1,Bx⟩:=AHv hp;dsimp only at Bx;refine AHy trivial tt2 rfl (ANb H2 C1) fun El Em Ah C2=>?_;subst C2;refine AHo (AI7 rfl rfl (AI7 rfl rfl (AI7 rfl rfl (AHq (AHq (AHq (ACt (q_t (ACu (ACv (AHo ?_)))))))))));have En:=Ah.1;obtain ⟨⟨Eo,C3⟩,C4,By⟩:=AHv Bx;dsimp only at By;refine AHy trivial tt2 rfl (AQe (H6.ext Ah) C4) fun Ep Ab A8 C5=>?_;obtain ⟨Er,Ac,Es,Et,rfl,C6,C7⟩:=C5;refine AHo (AI7 rfl rfl (AI7 rfl rfl (AHq (AHq (ACt (q_t ?_))))));have Eu:=A8.1;have Av:=Ah.trans A8;have Aw:=((AJ8 h h.size).keep Ah.1).app C7 A8.1 Ah.1;obtain ⟨C8,Bz,Ax⟩:=AHv By;refine AMu 137405399088 (fun x:Unit=>[]) (fun (x:Unit) (h':AHr)=>(Sum.inr <| ())=C8/\UpT [] Ab h'/\Sp h' h.size [Ac]) (by kernel_rfl) ?_ ?_
 ·refine ACu (ACv (AHo (AMj rfl (AHo ?_))));cases B1:(!C0)
  ·refine AH3 27 false (by kernel_rfl) rfl rfl (AHo (AH3 27 false (by kernel_rfl) rfl rfl (AMj rfl (AIv rfl (AHo ?_)))));have B3:=AQm Bz B1;cases B4:(!C3)
   ·refine AH3 31 false (by kernel_rfl) rfl rfl (AHo (AH3 31 false (by kernel_rfl) rfl rfl (AKc AJe rfl H6 (AH3 31 false (by kernel_rfl) rfl rfl (AHo (AH3 31 false (by kernel_rfl) rfl rfl (AIp rfl rfl (AP7 _ _) (AIv rfl (ACt (q_t ?_))))))))));have B5:=AQm B3 B4;refine ⟨_,rfl,fun A9=>?_,fun A9=>?_⟩
    ·refine ACu (ACv (AHq (AHq (ACt (q_t ?_)))));obtain rfl:=AHw (AJ2 B5 A9);have B6:=Ax;(try dsimp only at B6);refine AH1 (AIi ?_);obtain rfl:=AHw B6;exact ⟨_,AKj,Av,_,_,_,_,rfl,(AMc cZ 149 104 Ab),Aw.addnil.sel [1] (by decide)⟩
    ·refine AH2 (q_t ?_);have C9:UpT [] Ab Ab:=UpT.start all_nil;exact ⟨(():Unit),⟨AHw (AJ3 B5 A9),C9,Aw⟩,trivial⟩
   ·refine AH0 31 true (by kernel_rfl) rfl rfl (AH0 31 true (by kernel_rfl) rfl rfl (AH0 31 true (by kernel_rfl) rfl rfl (AH0 31 true (by kernel_rfl) rfl rfl (AIt rfl (ACt (q_t (AIh rfl (ACu (ACv (AHq (AHq (ACt (q_t ?_)))))))))))));obtain rfl:=AHw (ifT B3 B4);have B7:=Ax;(try dsimp only at B7);refine AH1 (AIi ?_);obtain rfl:=AHw B7;exact ⟨_,AKj,Av,_,_,_,_,rfl,(AMc cZ 149 104 Ab),Aw.addnil.sel [1] (by decide)⟩
  ·refine AH0 27 true (by kernel_rfl) rfl rfl (AH0 27 true (by kernel_rfl) rfl rfl (AIt rfl (AHo (AH0 31 true (by kernel_rfl) rfl rfl (AH0 31 true (by kernel_rfl) rfl rfl (AH0 31 true (by kernel_rfl) rfl rfl (AH0 31 true (by kernel_rfl) rfl rfl (AIt rfl (ACt (q_t (AIh rfl (ACu (ACv (AHq (AHq (ACt (q_t ?_)))))))))))))))));obtain rfl:=AHw (ifT Bz B1);have B8:=Ax;(try dsimp only at B8);refine AH1 (AIi ?_);obtain rfl:=AHw B8;exact ⟨_,AKj,Av,_,_,_,_,rfl,(AMc cZ 149 104 Ab),Aw.addnil.sel [1] (by decide)⟩
 rintro ⟨⟩ Da B9 ⟨Db,Ba,Bb⟩;replace Bb:Sp B9 h.size [Ac]:=Bb;refine (show W _ _ _ (setL [] (mix _ Da _)) B9 from ?_);have Ev:=Ba.size;have Ca:=Av.thenT Ba all_nil;subst Db;have Cb:=Ax;(try dsimp only at Cb);refine ACu (ACv (AHo (AKc AJe rfl H2 (AHo ?_))));have Cd:=C6.upT Ba AI3;refine AKc AJe rfl Cd.rd ?_;obtain ⟨Dc,Dd,De⟩:=AHv Cb;refine AHy trivial tt2 rfl (ANh Dd) fun Ay Bc Az Df=>?_;obtain ⟨Ew,A3,Dg,Dh,rfl,Ce,Di⟩:=Df;refine AHq (ACt (q_t (ACu (ACu (ACv (AHo (AKc AJe rfl H2 (AHo (ACt (q_t (AHz ?_)))))))))));have Ey:=Az.1;have Be:=Bb.app Di Az.1 Ca.1;obtain ⟨Cf,Dj,Dk⟩:=AHv De;obtain ⟨Dl,Dn,Do⟩:=AI0 Dj;refine AIy 590295792766519619584 (fun x:(Int) × (LiI) × LnA × LnN × LvA=>[(44,(.int .i64 x.1))]) (fun (k:Nat) (x:(Int) × (LiI) × LnA × LnN × LvA) (h':AHr)=>iter Dl k (x.1,x.2.1)=some Cf/\UpT (A3 ++ []) Bc h'/\Sp h' h.size [Ac,x.2.2.1]/\AI4 cZ 149 104 h' x.2.2.1 x.2.2.2.1 x.2.2.2.2 Ay x.2.1/\(∀ z∈x.2.2.1,z∈(A3 ++ [])∨Array.size Bc<=z)) (by kernel_rfl) fuel ((0,Dc,A3,Dg,Dh):(Int) × (LiI) × LnA × LnN × LvA) ?_ ⟨rfl,trivial⟩ ?_
 ·exact ⟨Do,UpT.start (AHp Ce.notD all_nil),Be,Ce,(AH4 rfl)⟩
 rintro Ez ⟨Ai,Cg,Aa,Ch,Ci⟩ Dp Ad ⟨Dq,A4,Ae,Aj,A5⟩;replace Aj:AI4 cZ 149 104 Ad Aa Ch Ci Ay Cg:=Aj;replace A5:∀ z∈Aa,z∈(A3 ++ [])∨Array.size Bc<=z:=A5;replace Ae:Sp Ad h.size [Ac,Aa]:=Ae;refine (show W _ _ _ (setL [(44,(.int .i64 Ai))] (mix _ Dp _)) Ad from ?_);have Fa:=A4.size;have Cj:=(Ca.trans Az).thenT A4 (AHp (Be.loAll 1 rfl) all_nil);obtain ⟨Dr,Fb,rfl,Ak,Ck⟩:=AIs Dq;rw [Dn] at Ak;dsimp only at Ak;unfold AQa at Ak;refine ACu (ACv (AIp rfl rfl (AI6 _ _) (ACt (q_t (ACu (⟨_,rfl,fun Bf=>?_,fun Bf=>?_⟩))))))
 ·refine AH2 (q_t (ACu (AHz (ACu (ACv (AHo (AHq (ACt (q_t (ACu (ACv (AHo ?_))))))))))));have Cm:=(Cd.ext Az).upT A4 (AJc (Be.dj 0 1 rfl rfl (by decide)) AI3);refine AKc AJe rfl Cm.rd (AHo (ACt (q_t (AHz ?_))));obtain ⟨Cn,Ds,Dt⟩:=AHv (AJ2 Ak Bf);obtain ⟨Du,Dv,Dw⟩:=AI0 Ds;refine AIy 295147342229399412736 (fun x:(Int) × (LiI) × LnA × LnN × LvA=>[(49,(.int .i64 x.1))]) (fun (k:Nat) (x:(Int) × (LiI) × LnA × LnN × LvA) (h':AHr)=>iter Du k (x.1,x.2.1)=some Cn/\UpT (Aa ++ []) Ad h'/\Sp h' h.size [Ac,x.2.2.1]/\AI4 cZ 149 104 h' x.2.2.1 x.2.2.2.1 x.2.2.2.2 Ay x.2.1/\(∀ z∈x.2.2.1,z∈(Aa ++ [])∨Array.size Ad<=z)) (by kernel_rfl) fuel ((0,Cg,Aa,Ch,Ci):(Int) × (LiI) × LnA × LnN × LvA) ?_ ⟨rfl,trivial⟩ ?_
  ·exact ⟨Dw,UpT.start (AHp Aj.notD all_nil),Ae,Aj,(AH4 rfl)⟩
  rintro Fc ⟨Bg,Bh,Am,Bi,Bj⟩ Dx Af ⟨Dy,Ao,A6,Ag,Ap⟩;replace Ag:AI4 cZ 149 104 Af Am Bi Bj Ay Bh:=Ag;replace Ap:∀ z∈Am,z∈(Aa ++ [])∨Array.size Ad<=z:=Ap;replace A6:Sp Af h.size [Ac,Am]:=A6;refine (show W _ _ _ (setL [(49,(.int .i64 Bg))] (mix _ Dx _)) Af from ?_);have Fd:=Ao.size;have Co:=Cj.thenT Ao (AHp (Ae.loAll 1 rfl) all_nil);obtain ⟨Dz,Fe,rfl,Aq,Cp⟩:=AIs Dy;rw [Dv] at Aq;dsimp only at Aq;unfold AP9 at Aq;refine ACu (ACv (AIp rfl rfl (AI6 _ _) (ACt (q_t (ACu (⟨_,rfl,fun Bl=>?_,fun Bl=>?_⟩))))))
  ·refine AH2 (q_t (ACu (AHz (ACu (ACv (AHo (AHq (ACt (q_t (AKf (fun h'=>UpT [] Af h') (by kernel_rfl) ?_))))))))));have Ar:UpT [] Af Af:=UpT.start all_nil;refine AHo (AHo ?_);obtain ⟨D0,Bm,D1⟩:=AHv (AJ2 Aq Bl);refine AJs AJe rfl Ag rfl Bm fun Ff Fg Fh D2 D3=>AK1 AK8 rfl Ar (fun h' hb=>AIc D3 hb.ext) (AHo (AHo (AHo ?_)));obtain ⟨Fi,D4,D5⟩:=AHv D1;refine AQz AJe rfl H2 rfl D4 fun Fj Fk Fl D6 D7=>AK1 AK8 rfl Ar (fun h' hb=>AIc D6 (Co.trans hb.ext)) (AHo (AHo ?_));obtain ⟨Fm,Cq,D8⟩:=AHv D5;have Cr:=Cm.upT Ao (AJc (Ae.dj 0 1 rfl rfl (by decide)) AI3);refine AJs AJe rfl Cr rfl Cq fun Fo Fp Fq D9 Ea=>AK1 AK8 rfl Ar (fun h' hb=>AIc Ea hb.ext) ?_;obtain ⟨Eb,Ec,Ed⟩:=AHv D8;refine AHy Ar (fun _ E=>Ar.thenE E) rfl (AWh (D7.ext Co) (Cr.rowI D9 Cq) Ec) fun Fr Ft A7 Ee=>?_;obtain ⟨Fu,rfl,Ef⟩:=Ee;have Fv:=A7.1;obtain ⟨Fw,rfl,Bn⟩:=Ef.cs;obtain ⟨Fx,Ct,Eg⟩:=AHv Ed;refine ALr (m:=Ai) AKh rfl Ag D2 Bm rfl Ct fun Fy Eh=>APj (m:=Ai) (AUw AH9 (cZ.klen Bn) rfl rfl (cZ.one Bn)) (Ag.ext A7) Eh Bm Ct Bn fun Fz Ei Bo=>ACt (q_b (q_t (ACv (AJd rfl rfl (AHo (ACt (q_t ?_)))))));have F4:=Bo.size;obtain rfl:=AHw Eg;exact ⟨Dz,(((w64 (Bg + 1)),(sI Bh Ai (sI D0 Bg Eb)),Am,Bi,Bj):(Int) × (LiI) × LnA × LnN × LvA),Nat.lt_succ_self _,⟨Cp,((Ao.thenE A7).then Bo (AH6 Ap (AHp (AH4 rfl) all_nil) (by omega))),((A6.keep A7.1).keep Bo.size),Ei,(AH6 Ap (AHp (AH4 rfl) all_nil) (by omega))⟩,rfl,trivial⟩
  ·obtain rfl:=AHw (AJ3 Aq Bl);have Cu:=Cp;change _=Cn at Cu;subst Cu;have Cv:=Dt;(try dsimp only at Cv);refine AIo (AIq (AIq (AJ5 (q_b (q_t (ACv (AJd rfl rfl (AHo (ACt (q_t ?_))))))))));obtain rfl:=AHw Cv;exact ⟨Dr,(((w64 (Ai + 1)),Bh,Am,Bi,Bj):(Int) × (LiI) × LnA × LnN × LvA),Nat.lt_succ_self _,⟨Ck,(A4.then Ao (AHp (AH6 A5 (AHp (AH4 rfl) all_nil) (by omega)) all_nil)),A6,Ag,(AH6 Ap (AHp (AH6 A5 (AHp (AH4 rfl) all_nil) (by omega)) all_nil) (by omega))⟩,rfl,trivial⟩
 ·obtain rfl:=AHw (AJ3 Ak Bf);have Cw:=Ck;change _=Cf at Cw;subst Cw;have Cx:=Dk;(try dsimp only at Cx);refine AIo (AIq (AIq (AJ5 (q_t (ACu (ACv (AHo (AHq (AHq (ACt (q_t (AH1 ?_))))))))))));obtain rfl:=AHw Cx;exact ⟨_,AKj,Cj,_,_,_,_,rfl,Aj,Ae.sel [1] (by decide)⟩
def AJu (fuel:Nat) (a3:LiI) (a7:LiI):Option LiI:=
  ((ANv fuel a3 a7).bind fun (x9,Ad)=>(some x9))
theorem AOf {fuel:Nat} {h:AHr} {Aa:Value} {a3:LiI} {Ac:Value} {a7:LiI} {r:LiI} (H2:AM9 cZ h Aa a3) (H6:AM9 cZ h Ac a7) (hp:AJu fuel a3 a7=some r):AIj Tryz.prog 90 #[Aa,Ac] h (fun x h'=>Ext h h'/\ ∃ (x0:Value) (F0:List Nat) (Ak:List LnA) (Am:List Value),x=x0/\AI4 cZ 149 104 h' F0 Ak Am x0 r/\Sp h' h.size [F0]):=by
 unfold AJu at hp;refine AHx (l:=[_,_]) mx Tryz.func90 rfl rfl rfl rfl rfl (by kernel_rfl) (ACu (ACv (AHq (ACt (q_t (ACu (ACv (AHo (AHo ?_)))))))));obtain ⟨⟨x9,Av⟩,Ao,Ag⟩:=AHv hp;dsimp only at Ag;refine AHy trivial tt2 rfl (AWi H2 H6 Ao) fun Aw Ax Ah Ap=>?_;obtain ⟨Ay,Az,A3,A4,rfl,Aq,Ar⟩:=Ap;refine AHo (AI7 rfl rfl (AI7 rfl rfl (AHq (AHq (ACt (q_t (ACu (ACv (AHo (AHq (ACt (q_t (AH1 ?_)))))))))))));obtain rfl:=AHw Ag;exact ⟨_,AH5,Ah,_,_,_,_,rfl,Aq,((AJ8 h h.size).app Ar Ah.1 (Nat.le_refl _))⟩
def APa (fuel:Nat) (a1:Int) (Aa:LiA) (Ab:Int):Option ((LiA × Int) ⊕ ((LiA))):=
  (if Ab < a1 then (if Aa.length<=100000000 then (some (Sum.inl ((Aa ++ [Ab]),(w64 (Ab + 1))))) else none) else (some (Sum.inr<| Aa)))
def AL2 (fuel:Nat) (a1:Int) (a2:Int):Option LiA:=
  ((iter (fun s=>APa fuel a1 s.1 s.2) fuel ([],0)).bind (fun (Aa:LiA)=>(if Aa.length<=100000000 then (some (Aa ++ [a2])) else none)))
theorem ARu {fuel:Nat} {h:AHr} {a1:Int} {a2:Int} {r:LiA} (hp:AL2 fuel a1 a2=some r):AIj Tryz.prog 186 #[(.int .i64 a1),(.int .i64 a2)] h (fun x h'=>Ext h h'/\ ∃ (x0:Value) (F0:List Nat),x=x0/\OwC (cI .i64) 3 h' F0 x0 r/\Sp h' h.size [F0]):=by
 unfold AL2 at hp;refine AHx (l:=[_,_]) mx Tryz.func186 rfl rfl rfl rfl rfl (by kernel_rfl) (ACu (ACv (AHq (ACt (q_t (ACu (ACv (AHq (ACt (q_t (ACu (ACu (ACv (AHq (ACt (q_t (AHz ?_)))))))))))))))));have I4:=AXx (cI .i64) 3 h;have S5:=(AJ8 h h.size).addnil;obtain ⟨Ay,A8,A9⟩:=AHv hp;obtain ⟨Ba,Bb,Bc⟩:=AI0 A8;refine AIy 65504 (fun x:(LiA) × (Value) × LnA × (Int)=>[(5,x.2.1),(6,(.int .i64 x.2.2.2))]) (fun (k:Nat) (x:(LiA) × (Value) × LnA × (Int)) (h':AHr)=>iter Ba k (x.1,x.2.2.2)=some Ay/\UpT ([] ++ []) h h'/\Sp h' h.size [x.2.2.1]/\OwC (cI .i64) 3 h' x.2.2.1 x.2.1 x.1/\(∀ z∈x.2.2.1,z∈([] ++ [])∨Array.size h<=z)) (by kernel_rfl) fuel (([],(.slice none 0 0),[],0):(LiA) × (Value) × LnA × (Int)) ?_ ⟨rfl,rfl,trivial⟩ ?_
 ·exact ⟨Bc,UpT.start (AHp I4.notD all_nil),S5,I4,(AH4 rfl)⟩
 rintro Bp ⟨Az,A3,Ag,Aa⟩ Be Ah ⟨Bf,Ai,Ab,Ae,Af⟩;replace Ae:OwC (cI .i64) 3 Ah Ag A3 Az:=Ae;replace Af:∀ z∈Ag,z∈([] ++ [])∨Array.size h<=z:=Af;replace Ab:Sp Ah h.size [Ag]:=Ab;refine (show W _ _ _ (setL [(5,A3),(6,(.int .i64 Aa))] (mix _ Be _)) Ah from ?_);have Bq:=Ai.size;have Aj:=(Ext.refl _).thenT Ai (AHp (S5.loAll 0 rfl) all_nil);obtain ⟨Bg,Br,rfl,Ac,A4⟩:=AIs Bf;rw [Bb] at Ac;dsimp only at Ac;unfold APa at Ac;refine ACu (ACu (ACv (AHo (AHo (AIp rfl rfl (AI6 _ _) (ACt (q_t (⟨_,rfl,fun Ak=>?_,fun Ak=>?_⟩))))))))
 ·refine AH2 (q_t (ACu (AHz (ACv (AHo (AHo ?_))))));obtain ⟨Bh,Bi⟩:=ifN (AJ2 Ac Ak);refine AS2 AYc AYs rfl rfl trivial tt2 (fun _=>rfl) rfl (show ((cI .i64)).rep _ Aa [(.int .i64 Aa)] from rfl) Ae (by decide) Bh fun Bt Bj Bl Bu Am Ao A5=>AHq (ACt (q_b (q_t (ACv (AHo (AJd rfl rfl (AHq (ACt (q_t ?_)))))))));have Bv:=Ao.size;obtain rfl:=AHw Bi;exact ⟨Bg,(((Az ++ [Aa]),Bl,Bj,(w64 (Aa + 1))):(LiA) × (Value) × LnA × (Int)),Nat.lt_succ_self _,⟨A4,(Ai.then Ao (AH6 Af (AHp (AH4 rfl) all_nil) (by omega))),(Ab.put 0 rfl Am.nodup Ao.size Aj.1 Am.lt A5),Am,(AH6 A5 (AH6 Af (AHp (AH4 rfl) all_nil) (by omega)) (by omega))⟩,rfl,rfl,trivial⟩
 ·obtain rfl:=AHw (AJ3 Ac Ak);have A6:=A4;change _=Ay at A6;subst A6;have A7:=A9;(try dsimp only at A7);refine AIo (AIq (AIq (AJ5 (q_t (ACu (ACv (AHo (AHo ?_))))))));obtain ⟨Bm,Bn⟩:=ifN A7;refine AS2 AYc AYs rfl rfl trivial tt2 (fun _=>rfl) rfl (show ((cI .i64)).rep _ a2 [(.int .i64 a2)] from rfl) Ae (by decide) Bm fun Bw Bx By Bz Ap Aq Bo=>AHq (ACt (q_t (AH1 ?_)));have B1:=Aq.size;obtain rfl:=AHw Bn;exact ⟨_,AH5,(Aj.thenT Aq (Ab.loAll 0 rfl)),_,_,rfl,Ap,(Ab.put 0 rfl Ap.nodup Aq.size Aj.1 Ap.lt Bo)⟩
def AOg (fuel:Nat) (a3:LiI) (x5:Int) (Ab:LiA) (Aa:Int):Option ((LiA × Int) ⊕ ((LiA))):=
  (if Aa < x5 then ((AL2 fuel Aa Aa).bind fun Ae=>((AL2 fuel Aa Aa).bind fun Af=>((ALs fuel a3 Ae Af).bind fun Ag=>((AI8 fuel Ag).bind fun Ah=>(if Ab.length<=100000000 then (some (Sum.inl ((Ab ++ [Ah]),(w64 (Aa + 1))))) else none))))) else (some (Sum.inr<| Ab)))
def AKo (fuel:Nat) (a3:LiI):Option (LiA × Bool):=
  ((AKz fuel a3).bind fun (x5,x6)=>(if (!x6)=true then (some ([],false)) else ((iter (fun s=>AOg fuel a3 x5 s.1 s.2) fuel ([],0)).bind (fun (Ad:LiA)=>(some (Ad,true))))))
theorem AOh {fuel:Nat} {h:AHr} {Ay:Value} {a3:LiI} {r:(LiA × Bool)} (H2:AM9 cZ h Ay a3) (hp:AKo fuel a3=some r):AIj Tryz.prog 128 #[Ay] h (fun x h'=>Ext h h'/\ ∃ (x0:Value) (F0:List Nat),x= .tuple #[x0,.bool r.2]/\OwC cZ 104 h' F0 x0 r.1/\Sp h' h.size [F0]):=by
 unfold AKo at hp;refine AHx (l:=[_]) mx Tryz.func128 rfl rfl rfl rfl rfl (by kernel_rfl) (ACu (ACv (AHq (AHq (ACt (q_t (ACu (ACv (AHo ?_)))))))));obtain ⟨⟨x5,x6⟩,Bj,Ak⟩:=AHv hp;dsimp only at Ak;refine AHy trivial tt2 rfl (ARg H2 Bj) fun Cq Ab E9 Bl=>?_;subst Bl;refine AHo (AI7 rfl rfl (AI7 rfl rfl (AHq (AHq (ACt (q_t (ACu (ACu (ACv (AHo (AMj rfl (ACt (q_t ?_)))))))))))));have Cr:=E9.1;have A6:=(AJ8 h h.size).keep E9.1;refine ⟨_,rfl,fun Am=>?_,fun Am=>?_⟩
 ·refine ACu (ACv (AHq (AHq (ACt (q_t (AH1 (AIi ?_)))))));obtain rfl:=AHw (ifT Ak Am);exact ⟨_,AKj,E9,_,_,rfl,(AXx cZ 104 Ab),A6.addnil⟩
 ·refine AH2 (q_t (ACu (ACv (AHq (ACt (q_t (ACu (ACu (ACv (AHq (ACt (q_t (AHz ?_)))))))))))));have A7:=AXx cZ 104 Ab;have A8:=A6.addnil;obtain ⟨A9,Bm,Bn⟩:=AHv (AQm Ak Am);obtain ⟨Bo,Bp,Bq⟩:=AI0 Bm;refine AIy 4294934720 (fun x:(LiA) × (Value) × LnA × (Int)=>[(6,x.2.1),(7,(.int .i64 x.2.2.2))]) (fun (k:Nat) (x:(LiA) × (Value) × LnA × (Int)) (h':AHr)=>iter Bo k (x.1,x.2.2.2)=some A9/\UpT ([] ++ []) Ab h'/\Sp h' h.size [x.2.2.1]/\OwC cZ 104 h' x.2.2.1 x.2.1 x.1/\(∀ z∈x.2.2.1,z∈([] ++ [])∨Array.size Ab<=z)) (by kernel_rfl) fuel (([],(.slice none 0 0),[],0):(LiA) × (Value) × LnA × (Int)) ?_ ⟨rfl,rfl,trivial⟩ ?_
  ·exact ⟨Bq,UpT.start (AHp A7.notD all_nil),A8,A7,(AH4 rfl)⟩
  rintro Ct ⟨Ba,Bb,Ao,Bc⟩ Br Ap ⟨Bt,Aq,Ah,Ai,Aj⟩;replace Ai:OwC cZ 104 Ap Ao Bb Ba:=Ai;replace Aj:∀ z∈Ao,z∈([] ++ [])∨Array.size Ab<=z:=Aj;replace Ah:Sp Ap h.size [Ao]:=Ah;refine (show W _ _ _ (setL [(6,Bb),(7,(.int .i64 Bc))] (mix _ Br _)) Ap from ?_);have Cu:=Aq.size;have Ar:=E9.thenT Aq (AHp (A8.loAll 0 rfl) all_nil);obtain ⟨Bu,Cv,rfl,Ac,Be⟩:=AIs Bt;rw [Bp] at Ac;dsimp only at Ac;unfold AOg at Ac;refine ACu (ACu (ACv (AHo (AHo (AIp rfl rfl (AI6 _ _) (ACt (q_t (⟨_,rfl,fun Au=>?_,fun Au=>?_⟩))))))))
  ·refine AH2 (q_t (ACu (AHz (ACv (AHo (AHo (AHo (AHo ?_))))))));obtain ⟨Cw,Bv,Bw⟩:=AHv (AJ2 Ac Au);refine AHy trivial tt2 rfl (ARu Bv) fun Cx Cy Ad Bx=>?_;obtain ⟨Cz,C0,rfl,By,Bz⟩:=Bx;refine AHo (AHo ?_);have C1:=Ad.1;have Bf:=Ar.trans Ad;obtain ⟨C2,B1,B3⟩:=AHv Bw;refine AHy trivial tt2 rfl (ARu B1) fun C3 C4 Aa B4=>?_;obtain ⟨C5,C6,rfl,B5,B6⟩:=B4;have C7:=Aa.1;have Av:=Bf.trans Aa;obtain ⟨C8,B7,B8⟩:=AHv B3;refine AHy trivial tt2 rfl (ARh (H2.ext Av) (By.ext Aa).rd B5.rd B7) fun C9 Da Ae B9=>?_;obtain ⟨Db,Dc,Dd,De,rfl,Ca,Cb⟩:=B9;have Df:=Ae.1;obtain ⟨Cd,Ce,Cf⟩:=AHv B8;refine AHy trivial tt2 rfl (AKn Ca.rd Ce) fun Dg Dh Af Cg=>?_;obtain ⟨Di,rfl,Ch⟩:=Cg;have Dj:=Af.1;obtain ⟨Dk,rfl,Ci⟩:=Ch.cs;obtain ⟨Cj,Ck⟩:=ifN Cf;refine AS2 AKh ALz rfl rfl trivial tt2 (fun _=>rfl) rfl Ci ((((Ai.ext Ad).ext Aa).ext Ae).ext Af) (by decide) Cj fun Dl Cm Cn Dn Aw Ax Bg=>AHq (ACt (q_b (q_t (ACv (AHo (AJd rfl rfl (AHq (ACt (q_t ?_)))))))));have Do:=Ax.size;obtain rfl:=AHw Ck;exact ⟨Bu,(((Ba ++ [Cd]),Cn,Cm,(w64 (Bc + 1))):(LiA) × (Value) × LnA × (Int)),Nat.lt_succ_self _,⟨Be,(((((Aq.thenE Ad).thenE Aa).thenE Ae).thenE Af).then Ax (AH6 Aj (AHp (AH4 rfl) all_nil) (by omega))),((((((Ah.app Bz Ad.1 Ar.1).app B6 Aa.1 Bf.1).app Cb Ae.1 Av.1).keep Af.1).put 0 rfl Aw.nodup Ax.size ((Av.trans Ae).trans Af).1 Aw.lt Bg).sel [0] (by decide)),Aw,(AH6 Bg (AH6 Aj (AHp (AH4 rfl) all_nil) (by omega)) (by omega))⟩,rfl,rfl,trivial⟩
  ·obtain rfl:=AHw (AJ3 Ac Au);have Bh:=Be;change _=A9 at Bh;subst Bh;have Bi:=Bn;(try dsimp only at Bi);refine AIo (AIq (AIq (AJ5 (q_t (ACu (ACv (AHo (AHq (AHq (ACt (q_t (AH1 ?_))))))))))));obtain rfl:=AHw Bi;exact ⟨_,AKj,Ar,_,_,rfl,Ai,Ah⟩
def ANo (fuel:Nat) (a3:LiI) (Ab:Int) (Aa:Int):Option ((Int) ⊕ ((Bool) ⊕ (Unit))):=
  (if Aa < Ab then ((gI a3 Ab).bind fun Ad=>((gI Ad Aa).bind fun Ae=>((gI a3 Aa).bind fun Af=>((gI Af Ab).bind fun Ag=>((Aek fuel Ae Ag).bind fun Ah=>(if ¬ Ah=0 then (some (Sum.inr<| Sum.inl <| false)) else (some (Sum.inl (w64 (Aa + 1)))))))))) else (some (Sum.inr<| Sum.inr <| ())))
def ANp (fuel:Nat) (a3:LiI) (Aa:Int):Option ((Int) ⊕ ((Bool) ⊕ (Unit))):=
  (if Aa < (a3.length:Int) then ((iter (fun s=>ANo fuel a3 Aa s) fuel 0).bind (fun ex=>match ex with | Sum.inl Ac=>(some (Sum.inr<| Sum.inl <| Ac)) | Sum.inr (_)=>(some (Sum.inl (w64 (Aa + 1)))))) else (some (Sum.inr<| Sum.inr <| ())))
def AKv (fuel:Nat) (a3:LiI):Option Bool:=
  ((iter (fun s=>ANp fuel a3 s) fuel 0).bind (fun ex=>match ex with | Sum.inl Ab=>(some Ab) | Sum.inr (_)=>(some true)))
theorem AQf {fuel:Nat} {h:AHr} {Au:Value} {a3:LiI} {r:Bool} (H2:AM9 cZ h Au a3) (hp:AKv fuel a3=some r):AIj Tryz.prog 125 #[Au] h (fun x h'=>Ext h h'/\x= .bool r):=by
 unfold AKv at hp;refine AHx (l:=[_]) mx Tryz.func125 rfl rfl rfl rfl rfl (by kernel_rfl) (ACu (ACv (AHq (ACt (q_t (ACu (ACu (ACv (AHo (AKc AJe rfl H2 (AHo (ACt (q_t (AHz ?_))))))))))))));obtain ⟨Af,Bi,Aw⟩:=AHv hp;obtain ⟨Bj,Bl,Bm⟩:=AI0 Bi;refine AIy 4294967196 (fun x:(Int)=>[(7,(.int .i64 x))]) (fun (k:Nat) (x:(Int)) (h':AHr)=>iter Bj k x=some Af/\UpT [] h h'/\Sp h' h.size []) (by kernel_rfl) fuel (0:(Int)) ?_ ⟨rfl,trivial⟩ ?_
 ·exact ⟨Bm,UpT.start all_nil,(AJ8 h h.size)⟩
 rintro Cj Ax Bn Ag ⟨Bo,Ay,Ah⟩;replace Ah:Sp Ag h.size []:=Ah;refine (show W _ _ _ (setL [(7,(.int .i64 Ax))] (mix _ Bn _)) Ag from ?_);have Az:=(Ext.refl _).thenT Ay all_nil;obtain ⟨Bp,Ck,rfl,Ab,Ai⟩:=AIs Bo;rw [Bl] at Ab;dsimp only at Ab;unfold ANp at Ab;refine ACu (ACv (AIp rfl rfl (AI6 _ _) (ACt (q_t (ACu (⟨_,rfl,fun Aj=>?_,fun Aj=>?_⟩))))))
 ·refine AH2 (q_t (ACu (AHz (ACu (ACv (AHo (AHq (ACt (q_t (ACu (ACv (AHq (ACt (q_t (AHz ?_)))))))))))))));obtain ⟨Ak,Bq,A3⟩:=AHv (AJ2 Ab Aj);obtain ⟨Br,Bt,Bu⟩:=AI0 Bq;refine AIy 2147482644 (fun x:(Int)=>[(4,(.int .i64 x))]) (fun (k:Nat) (x:(Int)) (h':AHr)=>iter Br k x=some Ak/\UpT [] Ag h'/\Sp h' h.size []) (by kernel_rfl) fuel (0:(Int)) ?_ ⟨rfl,trivial⟩ ?_
  ·exact ⟨Bu,UpT.start all_nil,Ah⟩
  rintro Cm A4 Bv A5 ⟨Bw,Am,Ad⟩;replace Ad:Sp A5 h.size []:=Ad;refine (show W _ _ _ (setL [(4,(.int .i64 A4))] (mix _ Bv _)) A5 from ?_);have Aa:=Az.thenT Am all_nil;obtain ⟨Bx,Cn,rfl,Ac,Ao⟩:=AIs Bw;rw [Bt] at Ac;dsimp only at Ac;unfold ANo at Ac;refine ACu (ACu (ACv (AHo (AHo (AIp rfl rfl (AI6 _ _) (ACt (q_t (⟨_,rfl,fun Ap=>?_,fun Ap=>?_⟩))))))))
  ·refine AH2 (q_t (ACu (AHz (ACu (ALp (by kernel_rfl) (AHo (AHo ?_)))))));obtain ⟨Co,By,Bz⟩:=AHv (AJ2 Ac Ap);refine AQz AJe rfl H2 rfl By fun Cp Cq Cr B1 B3=>AIr AK8 rfl (AIc B1 Aa) (AHo ?_);obtain ⟨Ct,B4,B5⟩:=AHv Bz;refine AR4 (c:=cZ) AKh rfl B3 rfl B4 fun Cu Cv Cw B6 B7=>?_;have A6:=cZ.upT B6 Aa.upT;refine AUv (c:=cZ) AH9 rfl A6 (fun j u hu=>(AIc (B7 j u hu) Aa)) (AHo (AHo ?_));obtain ⟨Cx,B8,B9⟩:=AHv B5;refine AQz AJe rfl H2 rfl B8 fun Cy Cz C0 Ca Cb=>AIr AK8 rfl (AIc Ca Aa) (AHo ?_);obtain ⟨C1,Cd,Ce⟩:=AHv B9;refine AR4 (c:=cZ) AKh rfl Cb rfl Cd fun C2 C3 C4 Cf Cg=>?_;have A7:=cZ.upT Cf Aa.upT;refine AUv (c:=cZ) AH9 rfl A7 (fun j u hu=>(AIc (Cg j u hu) Aa)) ?_;obtain ⟨C5,Ch,A8⟩:=AHv Ce;refine AHy trivial tt2 rfl (Ada A6.2 A7.2 Ch) fun C6 C7 Aq Ci=>?_;subst Ci;refine AIp rfl rfl (AP7 _ _) (ACt (q_t (⟨_,rfl,fun Ar=>?_,fun Ar=>?_⟩)))
   ·refine ACu (ACv (AHq (ACt (q_t ?_))));obtain rfl:=AHw (AJ2 A8 Ar);have A9:=Ao;change _=Ak at A9;subst A9;have Ba:=A3;(try dsimp only at Ba);obtain rfl:=AHw Ba;have Bb:=Ai;change _=Af at Bb;subst Bb;have Bc:=Aw;(try dsimp only at Bc);refine AH1 (AJ0 (AIi (AIi (AJ0 (AJ0 (AIi (AIi (AJ0 (AIi ?_)))))))));obtain rfl:=AHw Bc;exact ⟨_,AH5,(Aa.trans Aq),rfl⟩
   ·refine AH2 (q_b (q_t (ACv (AHo (AJd rfl rfl (AHq (ACt (q_t ?_))))))));obtain rfl:=AHw (AJ3 A8 Ar);exact ⟨Bx,((w64 (A4 + 1)):(Int)),Nat.lt_succ_self _,⟨Ao,(Am.thenE Aq),(Ad.keep Aq.1)⟩,rfl,trivial⟩
  ·obtain rfl:=AHw (AJ3 Ac Ap);have Be:=Ao;change _=Ak at Be;subst Be;have Bf:=A3;(try dsimp only at Bf);refine AIo (AIq (AIq (AJ5 (q_b (q_t (ACv (AJd rfl rfl (AHo (ACt (q_t ?_))))))))));obtain rfl:=AHw Bf;exact ⟨Bp,((w64 (Ax + 1)):(Int)),Nat.lt_succ_self _,⟨Ai,(Ay.then Am all_nil),Ad⟩,rfl,trivial⟩
 ·obtain rfl:=AHw (AJ3 Ab Aj);have Bg:=Ai;change _=Af at Bg;subst Bg;have Bh:=Aw;(try dsimp only at Bh);refine AIo (AIq (AIq (AJ5 (q_t (ACu (ACv (AHq (ACt (q_t (AH1 ?_))))))))));obtain rfl:=AHw Bh;exact ⟨_,AH5,Az,rfl⟩
def AN8 (fuel:Nat) (x5:LiA) (Aa:Int):Option ((Int) ⊕ ((Bool) ⊕ (Unit))):=
  (if Aa < (x5.length:Int) then ((gI x5 Aa).bind fun Ac=>((Aar fuel Ac).bind fun Ad=>(if Ad<=0 then (some (Sum.inr<| Sum.inl <| false)) else (some (Sum.inl (w64 (Aa + 1))))))) else (some (Sum.inr<| Sum.inr <| ())))
def AL6 (fuel:Nat) (a3:LiI):Option Bool:=
  ((AKo fuel a3).bind fun (x5,x6)=>(((if (!x6)=true then (some (Sum.inl <| false)) else ((AKv fuel a3).bind fun Ad=>(if (!Ad)=true then (some (Sum.inl <| false)) else (some (Sum.inr <| ()))))):Option ((Bool) ⊕ (Unit))).bind (fun ex=>match ex with | Sum.inl Ae=>(some Ae) | Sum.inr (_)=>((iter (fun s=>AN8 fuel x5 s) fuel 0).bind (fun ex=>match ex with | Sum.inl Af=>(some Af) | Sum.inr (_)=>(some true))))))
theorem ATl {fuel:Nat} {h:AHr} {A3:Value} {a3:LiI} {r:Bool} (H2:AM9 cZ h A3 a3) (hp:AL6 fuel a3=some r):AIj Tryz.prog 126 #[A3] h (fun x h'=>Ext h h'/\x= .bool r):=by
 unfold AL6 at hp;refine AHx (l:=[_]) mx Tryz.func126 rfl rfl rfl rfl rfl (by kernel_rfl) (ACu (ACv (AHq (ACt (q_t (ACu (ACv (AHo ?_))))))));obtain ⟨⟨x5,x6⟩,By,A6⟩:=AHv hp;dsimp only at A6;refine AHy trivial tt2 rfl (AOh H2 By) fun Ct Ai E9 Bz=>?_;obtain ⟨Cu,Ae,rfl,B1,B3⟩:=Bz;refine AHo (AI7 rfl rfl (AI7 rfl rfl (AHq (AHq (ACt (q_t ?_))))));have Cv:=E9.1;obtain ⟨B4,A7,Aj⟩:=AHv A6;refine AMu 520196 (fun x:Unit=>[]) (fun (x:Unit) (h':AHr)=>(Sum.inr <| ())=B4/\UpT [] Ai h'/\Sp h' h.size [Ae]) (by kernel_rfl) ?_ ?_
 ·refine ACu (ACv (AHo (AMj rfl (AHo ?_))));cases A8:(!x6)
  ·refine AH3 14 false (by kernel_rfl) rfl rfl (AHo (AH3 14 false (by kernel_rfl) rfl rfl ?_));obtain ⟨Cw,B5,A9⟩:=AHv (AQm A7 A8);refine AHy trivial tt2 rfl (AQf (H2.ext E9) B5) fun Cx Cy Af B6=>?_;subst B6;refine AH3 14 false (by kernel_rfl) rfl rfl (AMj rfl (AIv rfl (ACt (q_t ?_))));have Cz:=Af.1;refine ⟨_,rfl,fun Ak=>?_,fun Ak=>?_⟩
   ·refine ACu (ACv (AHq (ACt (q_t ?_))));obtain rfl:=AHw (ifT A9 Ak);have Ba:=Aj;(try dsimp only at Ba);refine AH1 (AIi ?_);obtain rfl:=AHw Ba;exact ⟨_,AH5,(E9.trans Af),rfl⟩
   ·refine AH2 (q_t ?_);have B7:UpT [] Ai Ai:=UpT.start all_nil;exact ⟨(():Unit),⟨AHw (AQm A9 Ak),(B7.thenE Af),(((AJ8 h h.size).app B3 E9.1 (Nat.le_refl _)).keep Af.1)⟩,trivial⟩
  ·refine AH0 14 true (by kernel_rfl) rfl rfl (AH0 14 true (by kernel_rfl) rfl rfl (AH0 14 true (by kernel_rfl) rfl rfl (AIt rfl (ACt (q_t (AIh rfl (ACu (ACv (AHq (ACt (q_t ?_)))))))))));obtain rfl:=AHw (ifT A7 A8);have Bb:=Aj;(try dsimp only at Bb);refine AH1 (AIi ?_);obtain rfl:=AHw Bb;exact ⟨_,AH5,E9,rfl⟩
 rintro ⟨⟩ B8 Am ⟨B9,Ao,Ap⟩;replace Ap:Sp Am h.size [Ae]:=Ap;refine (show W _ _ _ (setL [] (mix _ B8 _)) Am from ?_);have C0:=Ao.size;subst B9;have Bc:=Aj;(try dsimp only at Bc);refine ACu (ACu (ACv (AHo ?_)));have Be:=B1.upT Ao AI3;refine ALe AKh rfl Be.rd (AHo (ACt (q_t (AHz ?_))));obtain ⟨Aq,Ca,Bf⟩:=AHv Bc;obtain ⟨Cb,Cd,Ce⟩:=AI0 Ca;refine AIy 534773828 (fun x:(Int)=>[(21,(.int .i64 x))]) (fun (k:Nat) (x:(Int)) (h':AHr)=>iter Cb k x=some Aq/\UpT [] Am h'/\Sp h' h.size [Ae]) (by kernel_rfl) fuel (0:(Int)) ?_ ⟨rfl,trivial⟩ ?_
 ·exact ⟨Ce,UpT.start all_nil,Ap⟩
 rintro C1 Bg Cf Ar ⟨Cg,Ag,Au⟩;replace Au:Sp Ar h.size [Ae]:=Au;refine (show W _ _ _ (setL [(21,(.int .i64 Bg))] (mix _ Cf _)) Ar from ?_);have C2:=Ag.size;have Av:=(E9.thenT Ao all_nil).thenT Ag all_nil;obtain ⟨Ch,C3,rfl,Ac,Aw⟩:=AIs Cg;rw [Cd] at Ac;dsimp only at Ac;unfold AN8 at Ac;refine ACu (ACv (AIp rfl rfl (AI6 _ _) (ACt (q_t (ACu (⟨_,rfl,fun Ax=>?_,fun Ax=>?_⟩))))))
 ·refine AH2 (q_t (ACu (AHz (ACu (ACv ?_)))));obtain ⟨C4,Bh,Ci⟩:=AHv (AJ2 Ac Ax);have Bi:=Be.upT Ag AI3;refine Aeb AKh rfl Bi rfl Bh fun C5 Cj=>?_;obtain ⟨Bj,Ck,Cm⟩:=Bi.cells Cj Bh;have Bl:=Ck;refine AUv (c:=cZ) AH9 rfl Bl (fun j u hu=>(Cm j u hu)) (AI9 [.bool false,.slice none 0 0] ALz rfl trivial tt2 fun C6 C7 Bm Ab Bn=>?_);have C8:=Ab.1;have Bo:=Au.app Bn Ab.1 Av.1;have Cn:=Bn.loAll 0 rfl;have Ay:=cZ.upT Bl Ab.upT;refine AIw Bj AH9 (cZ.klen Ay) (cZ.klen (cZ.upT (AIk Ar) Ab.upT)) rfl rfl (cZ.one Ay) Bm fun C9 Bp Co=>ACt (q_t (ACu (ACv ?_)));have Ad:=Bp.stA Co (AH8 Bm rfl) rfl;have Da:=Ad.size;have Bq:=cZ.upT Ay Ad;refine AKr Bj AH9 (cZ.klen Bq) rfl Bp.agg ?_;obtain ⟨Db,Cp,Br⟩:=AHv Ci;refine AHy trivial tt2 rfl (AZt Bq.2 Cp) fun Dc Dd Ah Cq=>?_;subst Cq;refine AIp rfl rfl (Abz _ _) (ACt (q_t ?_));have De:=Ah.1;refine ⟨_,rfl,fun Az=>?_,fun Az=>?_⟩
  ·refine ACu (ACv (AHq (ACt (q_t ?_))));obtain rfl:=AHw (AJ2 Br Az);have Bt:=Aw;change _=Aq at Bt;subst Bt;have Bu:=Bf;(try dsimp only at Bu);refine AH1 (AJ0 (AIi (AIi (AJ0 (AIi ?_)))));obtain rfl:=AHw Bu;exact ⟨_,AH5,(((Av.trans Ab).thenT Ad (Bo.loAll 1 rfl)).trans Ah),rfl⟩
  ·refine AH2 (q_b (q_t (ACv (AJd rfl rfl (AHo (ACt (q_t ?_)))))));obtain rfl:=AHw (AJ3 Br Az);exact ⟨Ch,((w64 (Bg + 1)):(Int)),Nat.lt_succ_self _,⟨Aw,(((Ag.thenE Ab).then Ad (AJw Cn (by omega))).thenE Ah),(((Bo.keep Ad.size).keep Ah.1).sel [0] (by decide))⟩,rfl,trivial⟩
 ·obtain rfl:=AHw (AJ3 Ac Ax);have Bv:=Aw;change _=Aq at Bv;subst Bv;have Bw:=Bf;(try dsimp only at Bw);refine AIo (AIq (AIq (AJ5 (q_t (ACu (ACv (AHq (ACt (q_t (AH1 ?_))))))))));obtain rfl:=AHw Bw;exact ⟨_,AH5,Av,rfl⟩
def AJ4 (fuel:Nat) (a3:LiI):Option Int:=
  ((AKz fuel a3).bind fun (x5,x6)=>(if (!x6)=true then (some 3) else (if 8 < x5 then (some 3) else ((AKv fuel a3).bind fun Ad=>(if (!Ad)=true then (some 4) else ((AL6 fuel a3).bind fun Ae=>(if (!Ae)=true then (some 5) else (some 0))))))))
theorem AN9 {fuel:Nat} {h:AHr} {Ah:Value} {a3:LiI} {r:Int} (H2:AM9 cZ h Ah a3) (hp:AJ4 fuel a3=some r):AIj Tryz.prog 71 #[Ah] h (fun x h'=>Ext h h'/\x= .int .i64 r):=by
 unfold AJ4 at hp;refine AHx (l:=[_]) mx Tryz.func71 rfl rfl rfl rfl rfl (by kernel_rfl) (ACu (ACv (AHq (ACt (q_t (ACu (ACv (AHo ?_))))))));obtain ⟨⟨x5,x6⟩,Ar,Ac⟩:=AHv hp;dsimp only at Ac;refine AHy trivial tt2 rfl (ARg H2 Ar) fun A5 A6 E9 Au=>?_;subst Au;refine AHo (AI7 rfl rfl (AI7 rfl rfl (AHq (AHq (ACt (q_t (ACu (AHz (ACu (ACv (AHo (AMj rfl (AHo ?_)))))))))))));cases Aj:(!x6)
 ·refine AH3 13 false (by kernel_rfl) rfl rfl (AHo (AH3 13 false (by kernel_rfl) rfl rfl (AIp rfl rfl (APf _ _) (AIv rfl (AHq (ACt (q_t ?_)))))));have Ak:=AQm Ac Aj;refine ⟨_,rfl,fun Ad=>?_,fun Ad=>?_⟩
  ·refine ACu (ACv (AHq (ACt (q_t (AH1 (AJ0 (AIi ?_)))))));obtain rfl:=AHw (AJ2 Ak Ad);exact ⟨_,AH5,E9,rfl⟩
  ·refine ACu (ACv (AHo ?_));obtain ⟨A7,Av,Am⟩:=AHv (AJ3 Ak Ad);refine AHy trivial tt2 rfl (AQf (H2.ext E9) Av) fun A8 A9 Aw Ax=>?_;subst Ax;refine AMj rfl (AHq (ACt (q_t ?_)));have Ae:=E9.trans Aw;refine ⟨_,rfl,fun Af=>?_,fun Af=>?_⟩
   ·refine ACu (ACv (AHq (ACt (q_t (AH1 (AJ0 (AIi ?_)))))));obtain rfl:=AHw (ifT Am Af);exact ⟨_,AH5,Ae,rfl⟩
   ·refine ACu (ACv (AHo ?_));obtain ⟨Ba,Ay,Ao⟩:=AHv (AQm Am Af);refine AHy trivial tt2 rfl (ATl (H2.ext Ae) Ay) fun Bb Bc Az A3=>?_;subst A3;refine AMj rfl (AHq (ACt (q_t ?_)));have Ap:=Ae.trans Az;refine ⟨_,rfl,fun Ag=>?_,fun Ag=>?_⟩
    ·refine ACu (ACv (AHq (ACt (q_t (AH1 (AJ0 (AIi ?_)))))));obtain rfl:=AHw (ifT Ao Ag);exact ⟨_,AH5,Ap,rfl⟩
    ·refine AH2 (q_b (q_t (ACu (ACv (AHq (ACt (q_t (AH1 ?_))))))));obtain rfl:=AHw (AQm Ao Ag);exact ⟨_,AH5,Ap,rfl⟩
 ·refine AH0 13 true (by kernel_rfl) rfl rfl (AH0 13 true (by kernel_rfl) rfl rfl (AIt rfl (AHq (ACt (q_t (AIh rfl (ACu (ACv (AHq (ACt (q_t (AH1 (AJ0 (AIi ?_))))))))))))));obtain rfl:=AHw (ifT Ac Aj);exact ⟨_,AH5,E9,rfl⟩
def AKw (fuel:Nat) (a3:LiI) (a7:LiI):Option LiI:=
  ((AKu fuel a7).bind fun (x9,Af)=>((AJu fuel x9 a3).bind fun Ad=>((AJu fuel Ad a7).bind fun Ae=>(some Ae))))
theorem ATc {fuel:Nat} {h:AHr} {Ac:Value} {a3:LiI} {Ae:Value} {a7:LiI} {r:LiI} (H2:AM9 cZ h Ac a3) (H6:AM9 cZ h Ae a7) (hp:AKw fuel a3 a7=some r):AIj Tryz.prog 89 #[Ac,Ae] h (fun x h'=>Ext h h'/\ ∃ (x0:Value) (F0:List Nat) (Ap:List LnA) (Aq:List Value),x=x0/\AI4 cZ 149 104 h' F0 Ap Aq x0 r/\Sp h' h.size [F0]):=by
 unfold AKw at hp;refine AHx (l:=[_,_]) mx Tryz.func89 rfl rfl rfl rfl rfl (by kernel_rfl) (ACu (ACv (AHq (ACt (q_t (ACu (ACv (AHo ?_))))))));obtain ⟨⟨x9,Bb⟩,Ar,Aj⟩:=AHv hp;dsimp only at Aj;refine AHy trivial tt2 rfl (AQe H6 Ar) fun Bc Be Aa Au=>?_;obtain ⟨Bf,Bg,Bh,Bi,rfl,Av,Aw⟩:=Au;refine AHo (AI7 rfl rfl (AI7 rfl rfl (AHq (AHq (ACt (q_t (ACu (ACv (AHo (AHo ?_))))))))));obtain ⟨Bj,Ax,Ay⟩:=AHv Aj;refine AHy trivial tt2 rfl (AOf Av.rd (H2.ext Aa) Ax) fun Bl Bm Ak Az=>?_;obtain ⟨Bn,Bo,Bp,Bq,rfl,A3,A4⟩:=Az;refine AHo ?_;have Ab:=Aa.trans Ak;obtain ⟨Br,A5,A6⟩:=AHv Ay;refine AHy trivial tt2 rfl (AOf A3.rd (H6.ext Ab) A5) fun Bt Bu Am A7=>?_;obtain ⟨Bv,Bw,Bx,By,rfl,A8,A9⟩:=A7;refine AHq (ACt (q_t (AH1 ?_)));obtain rfl:=AHw A6;exact ⟨_,AH5,(Ab.trans Am),_,_,_,_,rfl,A8,((((AJ8 h h.size).app Aw Aa.1 (Nat.le_refl _)).app A4 Ak.1 Aa.1).app A9 Am.1 Ab.1).sel [2] (by decide)⟩
def AOq (fuel:Nat) (a6:Int) (Ab:LiA) (Ac:LiA) (Aa:Int):Option ((LiA × LiA × Int) ⊕ ((LiA × LiA))):=
  (if Aa < a6 then (if Ab.length<=100000000 then (if Ac.length<=100000000 then (some (Sum.inl ((Ab ++ [Aa]),(Ac ++ [Aa]),(w64 (Aa + 1))))) else none) else none) else (some (Sum.inr<| (Ab,Ac))))
def AK0 (fuel:Nat) (a3:LiI) (a5:Int) (a6:Int):Option Int:=
  ((iter (fun s=>AOq fuel a6 s.1 s.2.1 s.2.2) fuel ([],[],0)).bind (fun ((Ab,Ac):LiA × LiA)=>(if Ab.length<=100000000 then (if Ac.length<=100000000 then ((ALs fuel a3 (Ab ++ [a5]) (Ac ++ [a6])).bind fun Af=>((AI8 fuel Af).bind fun Ag=>(some Ag))) else none) else none)))
theorem AOr {fuel:Nat} {h:AHr} {Be:Value} {a3:LiI} {a5:Int} {a6:Int} {r:Int} (H2:AM9 cZ h Be a3) (hp:AK0 fuel a3 a5 a6=some r):AIj Tryz.prog 150 #[Be,(.int .i64 a5),(.int .i64 a6)] h (fun x h'=>Ext h h'/\ ∃ (x0:Value),x=x0/\ZZ h' x0 r):=by
 unfold AK0 at hp;refine AHx (l:=[_,_,_]) mx Tryz.func150 rfl rfl rfl rfl rfl (by kernel_rfl) (ACu (ACv (AI9 [.bool false,.slice none 0 0] ALz rfl trivial tt2 fun b7 h8 V9 Ap B5=>ACt (q_t (ACu (ACv (AHq (AHq (ACt (q_t (ACu (ACu (ACv (AHq (ACt (q_t (AHz ?_)))))))))))))))));have C6:=Ap.1;have Bi:=AXx (cI .i64) 3 h8;have Bj:=AXx (cI .i64) 3 h8;have Af:=((AJ8 h h.size).app B5 Ap.1 (Nat.le_refl _)).addnil.addnil;obtain ⟨Bl,B6,B7⟩:=AHv hp;obtain ⟨B8,B9,Ca⟩:=AI0 B6;refine AIy 8388480 (fun x:(LiA) × (Value) × LnA × (LiA) × (Value) × LnA × (Int)=>[(7,x.2.1),(8,x.2.2.2.2.1),(9,(.int .i64 x.2.2.2.2.2.2))]) (fun (k:Nat) (x:(LiA) × (Value) × LnA × (LiA) × (Value) × LnA × (Int)) (h':AHr)=>iter B8 k (x.1,x.2.2.2.1,x.2.2.2.2.2.2)=some Bl/\UpT ([] ++ ([] ++ [])) h8 h'/\Sp h' h.size [[b7],x.2.2.1,x.2.2.2.2.2.1]/\OwC (cI .i64) 3 h' x.2.2.1 x.2.1 x.1/\(∀ z∈x.2.2.1,z∈([] ++ ([] ++ []))∨Array.size h8<=z)/\OwC (cI .i64) 3 h' x.2.2.2.2.2.1 x.2.2.2.2.1 x.2.2.2.1/\(∀ z∈x.2.2.2.2.2.1,z∈([] ++ ([] ++ []))∨Array.size h8<=z)) (by kernel_rfl) fuel (([],(.slice none 0 0),[],[],(.slice none 0 0),[],0):(LiA) × (Value) × LnA × (LiA) × (Value) × LnA × (Int)) ?_ ⟨rfl,rfl,rfl,trivial⟩ ?_
 ·exact ⟨Ca,UpT.start (AHp Bi.notD (AHp Bj.notD all_nil)),Af,Bi,(AH4 rfl),Bj,(AH4 rfl)⟩
 rintro C7 ⟨Bm,Bn,A3,Bo,Bp,A4,Ab⟩ Cb Aq ⟨Cd,Ag,Aa,Ar,Au,Av,Aw⟩;replace Ar:OwC (cI .i64) 3 Aq A3 Bn Bm:=Ar;replace Au:∀ z∈A3,z∈([] ++ ([] ++ []))∨Array.size h8<=z:=Au;replace Av:OwC (cI .i64) 3 Aq A4 Bp Bo:=Av;replace Aw:∀ z∈A4,z∈([] ++ ([] ++ []))∨Array.size h8<=z:=Aw;replace Aa:Sp Aq h.size [[b7],A3,A4]:=Aa;refine (show W _ _ _ (setL [(7,Bn),(8,Bp),(9,(.int .i64 Ab))] (mix _ Cb _)) Aq from ?_);have C8:=Ag.size;have Ax:=Ap.thenT Ag (AHp (Af.loAll 1 rfl) (AHp (Af.loAll 2 rfl) all_nil));obtain ⟨Ce,C9,rfl,Ah,Bq⟩:=AIs Cd;rw [B9] at Ah;dsimp only at Ah;unfold AOq at Ah;refine ACu (ACu (ACv (AHo (AHo (AIp rfl rfl (AI6 _ _) (ACt (q_t (⟨_,rfl,fun A5=>?_,fun A5=>?_⟩))))))))
 ·refine AH2 (q_t (ACu (AHz (ACu (ACv (AHo (AHo ?_)))))));obtain ⟨Cf,Cg⟩:=ifN (AJ2 Ah A5);refine AS2 AYc AYs rfl rfl trivial tt2 (fun _=>rfl) rfl (show ((cI .i64)).rep _ Ab [(.int .i64 Ab)] from rfl) Ar (by decide) Cf fun Da Ch Ci Db A6 Ai Br=>AHq (ACt (q_t (ACv (AHo (AHo ?_)))));have Dc:=Ai.size;have Bt:=Aa.put 1 rfl A6.nodup Ai.size Ax.1 A6.lt Br;obtain ⟨Cj,Ck⟩:=ifN Cg;refine AS2 AYc AYs rfl rfl trivial tt2 (fun _=>rfl) rfl (show ((cI .i64)).rep _ Ab [(.int .i64 Ab)] from rfl) (Av.upT Ai (Aa.dj 2 1 rfl rfl (by decide))) (by decide) Cj fun Dd Cm Cn De A7 Ay Bu=>AHq (ACt (q_b (q_t (ACv (AHo (AJd rfl rfl (AHq (ACt (q_t ?_)))))))));have Df:=Ay.size;obtain rfl:=AHw Ck;exact ⟨Ce,(((Bm ++ [Ab]),Ci,Ch,(Bo ++ [Ab]),Cn,Cm,(w64 (Ab + 1))):(LiA) × (Value) × LnA × (LiA) × (Value) × LnA × (Int)),Nat.lt_succ_self _,⟨Bq,((Ag.then Ai (AH6 Au (AHp (AH4 rfl) (AHp (AH4 rfl) all_nil)) (by omega))).then Ay (AH6 Aw (AHp (AH4 rfl) (AHp (AH4 rfl) all_nil)) (by omega))),(Bt.put 2 rfl A7.nodup Ay.size (Ax.thenT Ai (Aa.loAll 1 rfl)).1 A7.lt Bu),(A6.upT Ay (Bt.dj 1 2 rfl rfl (by decide))),(AH6 Br (AH6 Au (AHp (AH4 rfl) (AHp (AH4 rfl) all_nil)) (by omega)) (by omega)),A7,(AH6 Bu (AH6 Aw (AHp (AH4 rfl) (AHp (AH4 rfl) all_nil)) (by omega)) (by omega))⟩,rfl,rfl,rfl,trivial⟩
 ·obtain rfl:=AHw (AJ3 Ah A5);have Bv:=Bq;change _=Bl at Bv;subst Bv;have Bw:=B7;(try dsimp only at Bw);refine AIo (AIq (AIq (AJ5 (q_t (ACu (ACv (AHo (AHo (AHo ?_)))))))));obtain ⟨Co,Cp⟩:=ifN Bw;refine AS2 AYc AYs rfl rfl trivial tt2 (fun _=>rfl) rfl (show ((cI .i64)).rep _ a5 [(.int .i64 a5)] from rfl) Ar (by decide) Co fun Dg Dh Di Dj A8 Ad Cq=>AHo (AHo ?_);have Dk:=Ad.size;have Bx:=Ax.thenT Ad (Aa.loAll 1 rfl);have Az:=Aa.put 1 rfl A8.nodup Ad.size Ax.1 A8.lt Cq;obtain ⟨Cr,Ct⟩:=ifN Cp;refine AS2 AYc AYs rfl rfl trivial tt2 (fun _=>rfl) rfl (show ((cI .i64)).rep _ a6 [(.int .i64 a6)] from rfl) (Av.upT Ad (Aa.dj 2 1 rfl rfl (by decide))) (by decide) Cr fun Dl Dn Do Dp A9 Ae Cu=>?_;have Dq:=Ae.size;have Ba:=Bx.thenT Ae (Az.loAll 2 rfl);obtain ⟨Dr,Cv,Cw⟩:=AHv Ct;refine AHy trivial tt2 rfl (ARh (H2.ext Ba) (A8.upT Ae (Az.dj 1 2 rfl rfl (by decide))).rd A9.rd Cv) fun Ds Dt Aj Cx=>?_;obtain ⟨Du,Dv,Dw,Dx,rfl,Cy,Cz⟩:=Cx;have Dy:=Aj.1;obtain ⟨Dz,C0,C1⟩:=AHv Cw;refine AHy trivial tt2 rfl (AKn Cy.rd C0) fun D0 D1 Ak C2=>?_;obtain ⟨D2,rfl,C3⟩:=C2;have D3:=Ak.1;obtain ⟨C4,rfl,Bb⟩:=C3.cs;have By:=((((V9.upT Ag (AJc (Af.dj 0 1 rfl rfl (by decide)) (AJc (Af.dj 0 2 rfl rfl (by decide)) AI3))).upT Ad (Aa.dj 0 1 rfl rfl (by decide))).upT Ae (Az.dj 0 2 rfl rfl (by decide))).ext Aj).ext Ak;refine AIw C4 AH9 (cZ.klen Bb) (cZ.klen (cZ.upT (cZ.upT (cZ.upT (cZ.upT (cZ.upT (cZ.upT (AIk h) Ap.upT) Ag) Ad) Ae) Aj.upT) Ak.upT)) rfl rfl (cZ.one Bb) By fun D4 Bz C5=>ACt (q_t (AH1 ?_));have Bc:=Bz.stA C5 (AH8 By rfl) rfl;have D5:=Bc.size;obtain rfl:=AHw C1;have B1:=cZ.upT Bb Bc;exact ⟨_,AJ7 AH9 (cZ.klen B1) rfl Bz,(((Ba.trans Aj).trans Ak).thenT Bc ((((Az.put 2 rfl A9.nodup Ae.size Bx.1 A9.lt Cu).app Cz Aj.1 Ba.1).keep Ak.1).loAll 0 rfl)),_,rfl,B1.2⟩
def AJv (fuel:Nat) (a3:LiA) (a5:Int):Option Int:=
  (if a5=0 then ((AQq fuel 1).bind fun Ac=>(some Ac)) else ((gI a3 (w64 (a5 - 1))).bind fun Ad=>(some Ad)))
theorem AK6 {fuel:Nat} {h:AHr} {Ag:Value} {a3:LiA} {a5:Int} {r:Int} (H2:SlC cZ h Ag a3) (hp:AJv fuel a3 a5=some r):AIj Tryz.prog 151 #[Ag,(.int .i64 a5)] h (fun x h'=>Ext h h'/\ ∃ (x0:Value),x=x0/\ZZ h' x0 r):=by
 unfold AJv at hp;refine AHx (l:=[_,_]) mx Tryz.func151 rfl rfl rfl rfl rfl (by kernel_rfl) (ACu (ACv (AI9 [.bool false,.slice none 0 0] ALz rfl trivial tt2 fun b6 h7 V8 E9 Ay=>ACt (q_t (ACu (ACu (ACv (AHo (AIp rfl rfl (AMi _ _) (ACt (q_t ?_)))))))))));have Ak:=AIk h;have Am:=(AJ8 h h.size).app Ay E9.1 (Nat.le_refl _);refine ⟨_,rfl,fun Ae=>?_,fun Ae=>?_⟩
 ·refine ACu (ACv ?_);obtain ⟨Bh,Az,A3⟩:=AHv (AJ2 hp Ae);refine AHy trivial tt2 rfl (APk Az) fun Bi Bj Ab A4=>?_;obtain ⟨Bl,rfl,A5⟩:=A4;obtain ⟨A6,rfl,Af⟩:=A5.cs;have Ao:=V8.ext Ab;refine AIw A6 AH9 (cZ.klen Af) (cZ.klen (cZ.upT (cZ.upT Ak E9.upT) Ab.upT)) rfl rfl (cZ.one Af) Ao fun Bm Ap A7=>ACt (q_t (AH1 (AIi ?_)));have Aq:=Ap.stA A7 (AH8 Ao rfl) rfl;obtain rfl:=AHw A3;have Ar:=cZ.upT Af Aq;exact ⟨_,AJ7 AH9 (cZ.klen Ar) rfl Ap,((E9.trans Ab).thenT Aq ((Am.keep Ab.1).loAll 0 rfl)),_,rfl,Ar.2⟩
 ·refine AH2 (q_t (ACu (ACv (AHo (AHo (AOv rfl rfl ?_))))));obtain ⟨Bn,A8,A9⟩:=AHv (AJ3 hp Ae);refine AR4 (c:=cZ) AKh rfl H2 rfl A8 fun Bo Bp Ba Bb Bc=>?_;have Ac:=cZ.upT Bb E9.upT;refine AUv (c:=cZ) AH9 rfl Ac (fun j u hu=>(AIc (Bc j u hu) E9)) (AIw Ba AH9 (cZ.klen Ac) (cZ.klen (cZ.upT Ak E9.upT)) rfl rfl (cZ.one Ac) V8 fun Bq Au Be=>ACt (q_t (AH1 ?_)));have Av:=Au.stA Be (AH8 V8 rfl) rfl;obtain rfl:=AHw A9;have Aw:=cZ.upT Ac Av;exact ⟨_,AJ7 AH9 (cZ.klen Aw) rfl Au,(E9.thenT Av (Am.loAll 0 rfl)),_,rfl,Aw.2⟩
def AL3 (fuel:Nat) (a3:LiI) (a7:LiA) (a9:Int) (Aa:Int):Option Bool:=
  ((AQq fuel 2).bind fun Ae=>((AK0 fuel a3 a9 Aa).bind fun Af=>((Ak5 fuel Af).bind fun Ag=>((AUy fuel Ae Ag).bind fun Ah=>((AJv fuel a7 (w64 (Aa + 1))).bind fun Ai=>((Aek fuel Ah Ai).bind fun Aj=>(some (decide (Aj<=0)))))))))
theorem ARv {fuel:Nat} {h:AHr} {Aa:Value} {a3:LiI} {Ac:Value} {a7:LiA} {a9:Int} {Af:Int} {r:Bool} (H2:AM9 cZ h Aa a3) (H6:SlC cZ h Ac a7) (hp:AL3 fuel a3 a7 a9 Af=some r):AIj Tryz.prog 129 #[Aa,Ac,(.int .i64 a9),(.int .i64 Af)] h (fun x h'=>Ext h h'/\x= .bool r):=by
 unfold AL3 at hp;refine AHx (l:=[_,_,_,_]) mx Tryz.func129 rfl rfl rfl rfl rfl (by kernel_rfl) (ACu (ACv (AHq (ACt (q_t (ACu (ACv ?_)))))));obtain ⟨Bq,Ap,Aq⟩:=AHv hp;refine AHy trivial tt2 rfl (APk Ap) fun Br Bt Ag Ar=>?_;obtain ⟨Bu,rfl,Au⟩:=Ar;obtain ⟨Bv,rfl,Av⟩:=Au.cs;refine AHo (AHo (AHo ?_));obtain ⟨Bw,Aw,Ax⟩:=AHv Aq;refine AHy trivial tt2 rfl (AOr (H2.ext Ag) Aw) fun Bx By Ah Ay=>?_;obtain ⟨Bz,rfl,Az⟩:=Ay;obtain ⟨B1,rfl,A3⟩:=Az.cs;obtain ⟨B3,A4,A5⟩:=AHv Ax;refine AHy trivial tt2 rfl (Ajk A3.2 A4) fun B4 B5 Ai A6=>?_;obtain ⟨B6,rfl,A7⟩:=A6;obtain ⟨B7,rfl,A8⟩:=A7.cs;obtain ⟨B8,A9,Ba⟩:=AHv A5;refine AHy trivial tt2 rfl (ATb (cZ.upT (cZ.upT Av Ah.upT) Ai.upT).2 A8.2 A9) fun B9 Ca Bb Bc=>?_;obtain ⟨Cb,rfl,Be⟩:=Bc;have Aj:=((Ag.trans Ah).trans Ai).trans Bb;obtain ⟨Cd,rfl,Bf⟩:=Be.cs;refine AHo (AHo (AJd rfl rfl ?_));obtain ⟨Ce,Bg,Bh⟩:=AHv Ba;refine AHy trivial tt2 rfl (AK6 (H6.ext Aj) Bg) fun Cf Cg Ak Bi=>?_;obtain ⟨Ch,rfl,Bj⟩:=Bi;obtain ⟨Ci,rfl,Bl⟩:=Bj.cs;obtain ⟨Cj,Bm,Bn⟩:=AHv Bh;refine AHy trivial tt2 rfl (Ada (cZ.upT Bf Ak.upT).2 Bl.2 Bm) fun Ck Cm Bo Bp=>?_;subst Bp;refine AIp rfl rfl (Abz _ _) (AHq (ACt (q_t (AH1 ?_))));obtain rfl:=AHw Bn;exact ⟨_,AH5,((Aj.trans Ak).trans Bo),rfl⟩
def AL4 (fuel:Nat) (a3:LiI):Option Bool:=
  ((AI8 fuel a3).bind fun x5=>((AQq fuel 10000).bind fun Ac=>((Aek fuel x5 Ac).bind fun Ad=>(some (decide (Ad<=0))))))
theorem ARw {fuel:Nat} {h:AHr} {Aa:Value} {a3:LiI} {r:Bool} (H2:AM9 cZ h Aa a3) (hp:AL4 fuel a3=some r):AIj Tryz.prog 72 #[Aa] h (fun x h'=>Ext h h'/\x= .bool r):=by
 unfold AL4 at hp;refine AHx (l:=[_]) mx Tryz.func72 rfl rfl rfl rfl rfl (by kernel_rfl) (ACu (ACv (AHq (ACt (q_t (ACu (ACv (AHo ?_))))))));obtain ⟨x5,Ae,Af⟩:=AHv hp;refine AHy trivial tt2 rfl (AKn H2 Ae) fun Ay h9 E8 Ah=>?_;obtain ⟨A3,rfl,Ai⟩:=Ah;obtain ⟨A4,rfl,Aj⟩:=Ai.cs;obtain ⟨A5,Ak,Am⟩:=AHv Af;refine AHy trivial tt2 rfl (APk Ak) fun A6 A7 Ac Ao=>?_;obtain ⟨A8,rfl,Ap⟩:=Ao;obtain ⟨A9,rfl,Aq⟩:=Ap.cs;obtain ⟨Ba,Ar,Au⟩:=AHv Am;refine AHy trivial tt2 rfl (Ada (cZ.upT Aj Ac.upT).2 Aq.2 Ar) fun Bb Bc Av Aw=>?_;subst Aw;refine AIp rfl rfl (Abz _ _) (AHq (ACt (q_t (AH1 ?_))));obtain rfl:=AHw Au;exact ⟨_,AH5,((E8.trans Ac).trans Av),rfl⟩
def APo (fuel:Nat) (a1:Int) (a2:Bool) (Aa:Int) (Ac:LiI):Option ((Int × LiI) ⊕ ((LiI))):=
  (if Aa < ((List.replicate (Int.toNat a1) ([]:List Int)).length:Int) then (if 0<=a1/\a1<=100000000 then ((gI Ac Aa).bind fun Ai=>((gI (sI Ac Aa (List.replicate (Int.toNat a1) (0:Int))) Aa).bind fun Ae=>((gI Ae Aa).bind fun Aj=>(((if a2=true then (if Aa=(w64 (a1 - 1)) then (if 3 < a1 then (some ( (w64 (Aa - 2)))) else (some ( (w64 (Aa - 1))))) else (some ( (w64 (Aa - 1))))) else (some ( (w64 (Aa - 1))))):Option ((Int))).bind (fun (Ad:Int)=>(if 0<=Ad then ((gI (sI (sI Ac Aa (List.replicate (Int.toNat a1) (0:Int))) Aa (sI Ae Aa 2)) Aa).bind fun Af=>((gI (sI (sI Ac Aa (List.replicate (Int.toNat a1) (0:Int))) Aa (sI Ae Aa 2)) Ad).bind fun Ak=>((gI Af Ad).bind fun Am=>((gI (sI (sI (sI Ac Aa (List.replicate (Int.toNat a1) (0:Int))) Aa (sI Ae Aa 2)) Aa (sI Af Ad (-1))) Ad).bind fun Ag=>((gI Ag Aa).bind fun Ao=>(some (Sum.inl ((w64 (Aa + 1)),(sI (sI (sI (sI Ac Aa (List.replicate (Int.toNat a1) (0:Int))) Aa (sI Ae Aa 2)) Aa (sI Af Ad (-1))) Ad (sI Ag Aa (-1))))))))))) else (some (Sum.inl ((w64 (Aa + 1)),(sI (sI Ac Aa (List.replicate (Int.toNat a1) (0:Int))) Aa (sI Ae Aa 2))))))))))) else none) else (some (Sum.inr<| Ac)))
def AMf (fuel:Nat) (a1:Int) (a2:Bool):Option LiI:=
  (if 0<=a1/\a1<=100000000 then ((iter (fun s=>APo fuel a1 a2 s.1 s.2) fuel (0,(List.replicate (Int.toNat a1) ([]:List Int)))).bind (fun (Ac:LiI)=>(some Ac))) else none)
theorem AR7 {fuel:Nat} {h:AHr} {a1:Int} {a2:Bool} {r:LiI} (hp:AMf fuel a1 a2=some r):AIj Tryz.prog 92 #[(.int .i64 a1),(.bool a2)] h (fun x h'=>Ext h h'/\ ∃ (x0:Value) (F0:List Nat) (Ci:List LnA) (Cj:List Value),x=x0/\AI4 (cI .i64) 60 2 h' F0 Ci Cj x0 r/\Sp h' h.size [F0]):=by
 unfold AMf at hp;refine AHx (l:=[_,_]) mx Tryz.func92 rfl rfl rfl rfl rfl (by kernel_rfl) (ACu (ACv (AHq (ACt (q_t (ACu (ACv (AHo ?_))))))));obtain ⟨Ck,Cm⟩:=ifN hp;refine AYe (cI .i64) 2 AJg AYr rfl trivial tt2 rfl rfl (by decide) Ck fun Ar Cn Co v9 h7 I8 E5 S6=>AHq (ACt (q_t (ACu (ACu (ACv (AHo (AKc AJg rfl I8.rd (AHo (ACt (q_t (AHz ?_)))))))))));have D6:=E5.1;have Bt:=(AJ8 h h.size).app S6 E5.1 (Nat.le_refl _);obtain ⟨Bu,Cq,Cr⟩:=AHv Cm;obtain ⟨Ct,Cu,Cv⟩:=AI0 Cq;refine AIy 72057594037924032 (fun x:(Int) × (LiI) × LnA × LnN × LvA=>[(12,(.int .i64 x.1))]) (fun (k:Nat) (x:(Int) × (LiI) × LnA × LnN × LvA) (h':AHr)=>iter Ct k (x.1,x.2.1)=some Bu/\UpT (Ar ++ []) h7 h'/\Sp h' h.size [x.2.2.1]/\AI4 (cI .i64) 60 2 h' x.2.2.1 x.2.2.2.1 x.2.2.2.2 v9 x.2.1/\(∀ z∈x.2.2.1,z∈(Ar ++ [])∨Array.size h7<=z)) (by kernel_rfl) fuel ((0,(List.replicate (Int.toNat a1) ([]:List Int)),Ar,Cn,Co):(Int) × (LiI) × LnA × LnN × LvA) ?_ ⟨rfl,trivial⟩ ?_
 ·exact ⟨Cv,UpT.start (AHp I8.notD all_nil),Bt,I8,(AH4 rfl)⟩
 rintro D7 ⟨Aa,Ba,Au,Ab,Bb⟩ Cw Bc ⟨Cx,Av,Aw,Ax,Ad⟩;replace Ax:AI4 (cI .i64) 60 2 Bc Au Ab Bb v9 Ba:=Ax;replace Ad:∀ z∈Au,z∈(Ar ++ [])∨Array.size h7<=z:=Ad;replace Aw:Sp Bc h.size [Au]:=Aw;refine (show W _ _ _ (setL [(12,(.int .i64 Aa))] (mix _ Cw _)) Bc from ?_);have D8:=Av.size;have Be:=E5.thenT Av (AHp (Bt.loAll 0 rfl) all_nil);obtain ⟨Bv,D9,rfl,Ak,Bf⟩:=AIs Cx;rw [Cu] at Ak;dsimp only at Ak;unfold APo at Ak;refine ACu (ACv (AIp rfl rfl (AI6 _ _) (ACt (q_t (ACu (⟨_,rfl,fun Bg=>?_,fun Bg=>?_⟩))))))
 ·refine AH2 (q_t (ACu (AHz (ACu (ACv (AHo (AHq (ACt (q_t (ACu (ACv (AHo (AHo (AHo ?_))))))))))))));obtain ⟨Cy,Cz⟩:=ifN (AJ2 Ak Bg);refine Aag (c:=(cI .i64)) (a:=0) AJp AW7 rfl rfl (fun _=>rfl) rfl trivial tt2 rfl rfl (by decide) Cy fun Ac Bw C0 C1 Ai C2 C3=>?_;have Bx:=ARl C2 C3;have Ea:=Ai.1;have By:=Aw.app Bx Ai.1 Be.1;have Aj:=Bx.loAll 0 rfl;obtain ⟨Eb,Bz,C4⟩:=AHv Cz;have B1:=Ax.ext Ai;refine AJs AJg rfl B1 rfl Bz fun Af Ec C5 Ed Ee=>AZg AKg B1 Bz C5 rfl rfl C1 (By.dj 1 0 rfl rfl (by decide)) fun C6 Am Ay C7=>?_;have Ah:∀ z∈(Af :: (Ab.set (Int.toNat Aa) [Ac]).flatten),z∈Au ++ [Ac]∨Array.size C0<=z:=(fun z hz=> .inl (C7 z hz));have Ef:=Ay.size;have C8:Sp C6 h.size [(Af :: (Ab.set (Int.toNat Aa) [Ac]).flatten)]:=(((By.sel [0,1] (by decide))).mrg).put 0 rfl Am.nodup Ay.size (Be.trans Ai).1 Am.lt Ah;refine ACt (q_t (ACu (ACv (AHo (AHo ?_)))));obtain ⟨B3,Bh,C9⟩:=AHv C4;refine AJs AJg rfl Am rfl Bh fun Eg Eh Ei Da Db=>AIr AKg rfl Db (AHo ?_);obtain ⟨Ej,B4,Dc⟩:=AHv C9;refine ALr (m:=Aa) AJp rfl Am Da Bh rfl B4 fun Ek Dd=>APj (m:=Aa) (APe ALy rfl rfl rfl) Am Dd Bh B4 (show ((cI .i64)).rep _ 2 _ from rfl) fun Ae B5 Az=>?_;have El:=Az.size;have A3:Sp Ae h.size [(Af :: (Ab.set (Int.toNat Aa) [Ac]).flatten)]:=C8.keep Az.size;refine ACt (q_t (ACu (ACv (AHo (AOv rfl rfl (AHq (ACt (q_t ?_))))))));obtain ⟨De,B6,Df⟩:=AHv Dc;refine AMu 2198754820224 (fun x:(Int)=>[(7,(.int .i64 x))]) (fun (x:(Int)) (h':AHr)=>( x)=De/\UpT [] Ae h'/\Sp h' h.size [(Af :: (Ab.set (Int.toNat Aa) [Ac]).flatten)]) (by kernel_rfl) ?_ ?_
  ·refine ACu (ACv (AHo (AHo ?_)));cases B7:a2
   ·refine AH0 29 false (by kernel_rfl) rfl rfl (AH0 29 false (by kernel_rfl) rfl rfl (AH0 29 false (by kernel_rfl) rfl rfl (AH0 29 false (by kernel_rfl) rfl rfl (AIv rfl (AHo (AH0 35 false (by kernel_rfl) rfl rfl (AH0 35 false (by kernel_rfl) rfl rfl (AIv rfl (ACt (q_t (AId rfl (AH2 (q_t ?_)))))))))))));have Dg:UpT [] Ae Ae:=UpT.start all_nil;exact ⟨((w64 (Aa - 1)):(Int)),⟨AHw (AQm B6 B7),Dg,A3⟩,rfl,trivial⟩
   ·refine AH3 29 true (by kernel_rfl) rfl rfl (AHo (AH3 29 true (by kernel_rfl) rfl rfl (AHo (AH3 29 true (by kernel_rfl) rfl rfl (AOv rfl rfl (AH3 29 true (by kernel_rfl) rfl rfl (AIp rfl rfl (AMi _ _) (AIt rfl (AHo ?_)))))))));have B8:=ifT B6 B7;rcases Decidable.em (Aa=(w64 (a1 - 1))) with Ao | Ao
    ·have B9:=ifT B8 Ao;rw [show decide (Aa=(w64 (a1 - 1)))=true from decide_eq_true Ao];refine AH3 35 true (by kernel_rfl) rfl rfl (AHo (AH3 35 true (by kernel_rfl) rfl rfl (AIp rfl rfl (APf _ _) (AIt rfl (ACt (q_t (⟨_,rfl,fun Bi=>?_,fun Bi=>?_⟩)))))))
     ·refine ACv (AHo (AOv rfl rfl (AHq (ACt (q_t ?_)))));have Dh:UpT [] Ae Ae:=UpT.start all_nil;exact ⟨((w64 (Aa - 2)):(Int)),⟨AHw (AJ2 B9 Bi),Dh,A3⟩,rfl,trivial⟩
     ·refine AH2 (q_t ?_);have Di:UpT [] Ae Ae:=UpT.start all_nil;exact ⟨((w64 (Aa - 1)):(Int)),⟨AHw (AJ3 B9 Bi),Di,A3⟩,rfl,trivial⟩
    ·rw [show decide (Aa=(w64 (a1 - 1)))=false from decide_eq_false Ao];refine AH0 35 false (by kernel_rfl) rfl rfl (AH0 35 false (by kernel_rfl) rfl rfl (AIv rfl (ACt (q_t (AId rfl (AH2 (q_t ?_)))))));have Dj:UpT [] Ae Ae:=UpT.start all_nil;exact ⟨((w64 (Aa - 1)):(Int)),⟨AHw (ifF B8 Ao),Dj,A3⟩,rfl,trivial⟩
  rintro Ap Dk Ca ⟨Dl,Aq,A4⟩;replace A4:Sp Ca h.size [(Af :: (Ab.set (Int.toNat Aa) [Ac]).flatten)]:=A4;refine (show W _ _ _ (setL [(7,(.int .i64 Ap))] (mix _ Dk _)) Ca from ?_);have Em:=Aq.size;subst Dl;have Bj:=Df;(try dsimp only at Bj);refine ACu (ACv (AHo (AIp rfl rfl (ASm _ _) (ACt (q_t (⟨_,rfl,fun Bl=>?_,fun Bl=>?_⟩))))))
  ·refine ALp (by kernel_rfl) (AHo (AHo ?_));obtain ⟨Dn,Bm,Do⟩:=AHv (AJ2 Bj Bl);have A5:=B5.upT Aq AI3;refine AJs AJg rfl A5 rfl Bm fun En Eo Ep Dp Dq=>AIr AKg rfl Dq (AHo (AHo (AHo ?_)));obtain ⟨Er,Dr,Ds⟩:=AHv Do;refine AJs AJg rfl A5 rfl Dr fun Es Et Eu Dt Du=>AIr AKg rfl Du (AHo ?_);obtain ⟨Ev,Cb,Dv⟩:=AHv Ds;refine ALr (m:=Aa) AJp rfl A5 Dp Bm rfl Cb fun Ew Dw=>APj (m:=Aa) (APe ALy rfl rfl rfl) A5 Dw Bm Cb (show ((cI .i64)).rep _ (-1) _ from rfl) fun Dx Cd Bn=>?_;have Ey:=Bn.size;have Dy:Sp Dx h.size [(Af :: (Ab.set (Int.toNat Aa) [Ac]).flatten)]:=A4.keep Bn.size;obtain ⟨Dz,Ce,D0⟩:=AHv Dv;obtain ⟨Ez,Cf,D1⟩:=AHv D0;refine ALr (m:=Ap) AJp rfl Cd Dt Ce rfl Cf fun Fa D2=>APj (m:=Ap) (APe ALy rfl rfl rfl) Cd D2 Ce Cf (show ((cI .i64)).rep _ (-1) _ from rfl) fun D3 D4 Bo=>?_;have Fb:=Bo.size;have D5:Sp D3 h.size [(Af :: (Ab.set (Int.toNat Aa) [Ac]).flatten)]:=Dy.keep Bo.size;refine ACt (q_b (q_t (ACv (AJd rfl rfl (AHo (ACt (q_t ?_)))))));obtain rfl:=AHw D1;exact ⟨Bv,(((w64 (Aa + 1)),(sI (sI (sI (sI Ba Aa (List.replicate (Int.toNat a1) (0:Int))) Aa (sI B3 Aa 2)) Aa (sI Dn Ap (-1))) Ap (sI Dz Aa (-1))),(Af :: (Ab.set (Int.toNat Aa) [Ac]).flatten),(Ab.set (Int.toNat Aa) [Ac]),(Bb.set (Int.toNat Aa) Bw)):(Int) × (LiI) × LnA × LnN × LvA),Nat.lt_succ_self _,⟨Bf,((((((Av.thenE Ai).then Ay (AH6 Ad (AHp (AH4 rfl) all_nil) (by omega))).then Az (AH6 Ah (AHp (AH6 Ad (AHp (AH4 rfl) all_nil) (by omega)) (AJw Aj (by omega))) (by omega))).then Aq all_nil).then Bn (AH6 Ah (AHp (AH6 Ad (AHp (AH4 rfl) all_nil) (by omega)) (AJw Aj (by omega))) (by omega))).then Bo (AH6 Ah (AHp (AH6 Ad (AHp (AH4 rfl) all_nil) (by omega)) (AJw Aj (by omega))) (by omega))),D5,D4,(AH6 Ah (AHp (AH6 Ad (AHp (AH4 rfl) all_nil) (by omega)) (AJw Aj (by omega))) (by omega))⟩,rfl,trivial⟩
  ·refine AH2 (q_b (q_t (ACv (AJd rfl rfl (AHo (ACt (q_t ?_)))))));obtain rfl:=AHw (AJ3 Bj Bl);exact ⟨Bv,(((w64 (Aa + 1)),(sI (sI Ba Aa (List.replicate (Int.toNat a1) (0:Int))) Aa (sI B3 Aa 2)),(Af :: (Ab.set (Int.toNat Aa) [Ac]).flatten),(Ab.set (Int.toNat Aa) [Ac]),(Bb.set (Int.toNat Aa) Bw)):(Int) × (LiI) × LnA × LnN × LvA),Nat.lt_succ_self _,⟨Bf,((((Av.thenE Ai).then Ay (AH6 Ad (AHp (AH4 rfl) all_nil) (by omega))).then Az (AH6 Ah (AHp (AH6 Ad (AHp (AH4 rfl) all_nil) (by omega)) (AJw Aj (by omega))) (by omega))).then Aq all_nil),A4,(B5.upT Aq AI3),(AH6 Ah (AHp (AH6 Ad (AHp (AH4 rfl) all_nil) (by omega)) (AJw Aj (by omega))) (by omega))⟩,rfl,trivial⟩
 ·obtain rfl:=AHw (AJ3 Ak Bg);have Cg:=Bf;change _=Bu at Cg;subst Cg;have Ch:=Cr;(try dsimp only at Ch);refine AIo (AIq (AIq (AJ5 (q_t (ACu (ACv (AHo (AHq (ACt (q_t (AH1 ?_)))))))))));obtain rfl:=AHw Ch;exact ⟨_,AH5,Be,_,_,_,_,rfl,Ax,Aw⟩
def ANw (fuel:Nat) (a3:LiI):Option Bool:=
  ((ALm fuel a3).bind fun x5=>((AJ4 fuel x5).bind fun Ac=>(if Ac=0 then ((AI8 fuel x5).bind fun Ad=>((AQq fuel 10000).bind fun Ae=>((Aek fuel Ad Ae).bind fun Af=>(some (decide (Af<=0)))))) else (some false))))
theorem AWj {fuel:Nat} {h:AHr} {Ac:Value} {a3:LiI} {r:Bool} (H2:AM9 (cI .i64) h Ac a3) (hp:ANw fuel a3=some r):AIj Tryz.prog 95 #[Ac] h (fun x h'=>Ext h h'/\x= .bool r):=by
 unfold ANw at hp;refine AHx (l:=[_]) mx Tryz.func95 rfl rfl rfl rfl rfl (by kernel_rfl) (ACu (ACv (AHq (ACt (q_t (ACu (ACv (AHo ?_))))))));obtain ⟨x5,Ak,Am⟩:=AHv hp;refine AHy trivial tt2 rfl (AQn H2 Ak) fun Be h9 E8 Ap=>?_;obtain ⟨Bg,Bh,Bi,Bj,rfl,Ae,Bl⟩:=Ap;refine AHq (ACt (q_t (ACu (ACv (AHo ?_)))));obtain ⟨Ab,Aq,Af⟩:=AHv Am;refine AHy trivial tt2 rfl (AN9 Ae.rd Aq) fun Bm Bn Ag Ar=>?_;subst Ar;refine AIp rfl rfl (AMi _ _) (AHo ?_);have Ah:=E8.trans Ag;rcases Decidable.em (Ab=0) with Aa | Aa
 ·rw [show decide (Ab=0)=true from decide_eq_true Aa];refine AH3 9 true (by kernel_rfl) rfl rfl (AHo (AH3 9 true (by kernel_rfl) rfl rfl ?_));obtain ⟨Bo,Au,Av⟩:=AHv (ifT Af Aa);refine AHy trivial tt2 rfl (AKn (Ae.ext Ag).rd Au) fun Bp Bq Aw Ax=>?_;obtain ⟨Br,rfl,Ay⟩:=Ax;obtain ⟨Bt,rfl,Az⟩:=Ay.cs;refine AH3 9 true (by kernel_rfl) rfl rfl ?_;obtain ⟨Bu,A3,A4⟩:=AHv Av;refine AHy trivial tt2 rfl (APk A3) fun Bv Bw Ai A5=>?_;obtain ⟨Bx,rfl,A6⟩:=A5;obtain ⟨By,rfl,A7⟩:=A6.cs;refine AH3 9 true (by kernel_rfl) rfl rfl ?_;obtain ⟨Bz,A8,A9⟩:=AHv A4;refine AHy trivial tt2 rfl (Ada (cZ.upT Az Ai.upT).2 A7.2 A8) fun B1 B3 Ba Bb=>?_;subst Bb;refine AH3 9 true (by kernel_rfl) rfl rfl (AIp rfl rfl (Abz _ _) (AIt rfl (AHq (ACt (q_t (AH1 ?_))))));obtain rfl:=AHw A9;exact ⟨_,AH5,(((Ah.trans Aw).trans Ai).trans Ba),rfl⟩
 ·rw [show decide (Ab=0)=false from decide_eq_false Aa];refine AH0 9 false (by kernel_rfl) rfl rfl (AH0 9 false (by kernel_rfl) rfl rfl (AH0 9 false (by kernel_rfl) rfl rfl (AH0 9 false (by kernel_rfl) rfl rfl (AH0 9 false (by kernel_rfl) rfl rfl (AIv rfl (AHq (ACt (q_t (AH1 ?_)))))))));obtain rfl:=AHw (ifF Af Aa);exact ⟨_,AH5,Ah,rfl⟩
end Go.Proofs.YtmmckalinicpaaaGreatDoor
namespace Go.QF
open Go
section
variable {P:Program} {ops:Array Oper} {B:AHr->Prop}
def AR8 (o:Oper):Bool:=match kindOf o.op with | .pure=>false | .read=>false | _=>true
theorem AU0 {o:Oper} (hl:AR8 o=false):kindOf o.op= .pure∨kindOf o.op= .read:=by
 unfold AR8 at hl;cases h:kindOf o.op <;> simp only [h] at hl <;> first | exact .inl rfl | exact .inr rfl | cases hl
theorem AUa {o:Oper} {e:Env} {h:AHr} {K:Env->AHr->Prop} (hl:AR8 o=false) (H:GOp P B true ops o e h K):GOp P B true ops o e h fun e' h'=>h'=h/\K e' h':=by
 unfold GOp at H ⊢;split
 ·rename_i hw;rw [if_pos hw] at H;unfold SOp at H ⊢;rcases AU0 hl with hk | hk
  ·simp only [hk] at H ⊢;obtain ⟨v,h1,h2⟩:=H;exact ⟨v,h1,trivial,h2⟩
  ·simp only [hk] at H ⊢;obtain ⟨v,h0,h1,h2⟩:=H;exact ⟨v,h0,h1,trivial,h2⟩
 ·rename_i hw;rw [if_neg hw] at H;exact ⟨rfl,H⟩
theorem Adb {o:Oper} {e:Env} {h1 h2:AHr} {K K':Env->AHr->Prop} (hl:AR8 o=false) (H:GOp P B true ops o e h1 K) (hB:B h1->B h2) (hK:∀ v,K (e.put o.dst v) h1->K' (e.put o.dst v) h2):GOp P B true ops o e h2 K':=by
 unfold GOp at H ⊢;split
 ·rename_i hw;rw [if_pos hw] at H;unfold SOp at H ⊢;rcases AU0 hl with hk | hk
  ·simp only [hk] at H ⊢;obtain ⟨v,a1,a2⟩:=H;exact ⟨v,a1,hK v a2⟩
  ·simp only [hk] at H ⊢;obtain ⟨v,a0,a1,a2⟩:=H;exact ⟨v,hB a0,a1,hK v a2⟩
 ·rename_i hw;rw [if_neg hw] at H;exact hK undef H
theorem Adc {o:Oper} {e:Env} {h:AHr} {K:Env->AHr->Prop} (hl:AR8 o=false) (H:GOp P B true ops o e h K):∃ v,K (e.put o.dst v) h:=by
 unfold GOp at H;split at H
 ·unfold SOp at H;rcases AU0 hl with hk | hk
  ·simp only [hk] at H;obtain ⟨v,a1,a2⟩:=H;exact ⟨v,a2⟩
  ·simp only [hk] at H;obtain ⟨v,a0,a1,a2⟩:=H;exact ⟨v,a2⟩
 ·exact ⟨undef,H⟩
abbrev Off (a c b:Nat):Prop:=b < a∨c<=b
def HI (P:Program) (B:AHr->Prop) (ops:Array Oper):List Nat->Env->AHr->(Nat->Prop)->(Env->AHr->(Nat->Prop)->Prop)->Prop
  | [],e,h,N,K=> ∀ h',Ext h h'->K e h' N
  | i :: l,e,h,N,K=>match ops[i]? with
    | none=>False
    | some o=>bif AR8 o then ∀ h1,Ext h h1->GOp P B true ops o e h1 fun e' h'=>Ext h1 h'/\HI P B ops l e' h' (fun b=>N b/\Off h1.size h'.size b) K
      else GOp P B true ops o e h fun e' h'=>HI P B ops l e' h' N K
def HRf (P:Program) (B:AHr->Prop) (ops:Array Oper):List Oper->Env->AHr->(Nat->Prop)->(Env->AHr->(Nat->Prop)->Prop)->Prop
  | [],e,h,N,K=> ∀ h',Ext h h'->K e h' N
  | o :: l,e,h,N,K=>bif AR8 o then ∀ h1,Ext h h1->GOp P B true ops o e h1 fun e' h'=>Ext h1 h'/\HRf P B ops l e' h' (fun b=>N b/\Off h1.size h'.size b) K
      else GOp P B true ops o e h fun e' h'=>HRf P B ops l e' h' N K
variable {K:Env->AHr->(Nat->Prop)->Prop}
theorem Ap2:∀ (I:List Nat) (L:List Oper),I.map (fun i=>ops[i]?)=L.map some-> ∀ e h N,HRf P B ops L e h N K->HI P B ops I e h N K:=by
 intro I
 induction I with
 | nil=>intro L hI e h N H;cases L with | nil=>exact H | cons o L=>cases hI
 | cons i I ih=>
   intro L hI e h N H
   cases L with
   | nil=>cases hI
   | cons o L=>
     simp only [List.map_cons,List.cons.injEq] at hI
     simp only [HI,hI.1]
     simp only [HRf] at H
     cases he:AR8 o with
     | true=>simp only [he,cond_true] at H ⊢;exact fun h1 E=>(H h1 E).mono fun v h' hh=>⟨hh.1,ih L hI.2 _ _ _ hh.2⟩
     | false=>simp only [he,cond_false] at H ⊢;exact H.mono fun v h' hh=>ih L hI.2 _ _ _ hh
theorem HI.anti (hKN:∀ e h (N N':Nat->Prop),(∀ b,N' b->N b)->K e h N->K e h N'):∀ (l:List Nat) {e:Env} {h:AHr} {N N':Nat->Prop},(∀ b,N' b->N b)->HI P B ops l e h N K->HI P B ops l e h N' K:=by
 intro l
 induction l with
 | nil=>intro e h N N' hN H h' E;exact hKN _ _ _ _ hN (H h' E)
 | cons i l ih=>
   intro e h N N' hN H
   simp only [HI] at H ⊢
   cases hoi:ops[i]? with
   | none=>simp only [hoi] at H
   | some o=>
     simp only [hoi] at H ⊢
     cases he:AR8 o with
     | true=>simp only [he,cond_true] at H ⊢;exact fun h1 E=>(H h1 E).mono fun v h' hh=>⟨hh.1,ih (fun b hb=>⟨hN b hb.1,hb.2⟩) hh.2⟩
     | false=>simp only [he,cond_false] at H ⊢;exact H.mono fun v h' hh=>ih hN hh
theorem HI.ext (hBx:∀ h h',B h->Ext h h'->B h'):∀ (l:List Nat) {e:Env} {h h2:AHr} {N:Nat->Prop},Ext h h2->HI P B ops l e h N K->HI P B ops l e h2 N K:=by
 intro l
 induction l with
 | nil=>intro e h h2 N E H h' E';exact H h' (E.trans E')
 | cons i l ih=>
   intro e h h2 N E H
   simp only [HI] at H ⊢
   cases hoi:ops[i]? with
   | none=>simp only [hoi] at H
   | some o=>
     simp only [hoi] at H ⊢
     cases he:AR8 o with
     | true=>simp only [he,cond_true] at H ⊢;exact fun h1 E1=>H h1 (E.trans E1)
     | false=>simp only [he,cond_false] at H ⊢;exact Adb he H (fun hb=>hBx _ _ hb E) fun v hh=>ih E hh
theorem HI.swap (hBx:∀ h h',B h->Ext h h'->B h') {i j:Nat} {x y:Oper} (hi:ops[i]? =some x) (hj:ops[j]? =some y) (hx:ANc x=true) (hy:ANc y=true) (hin:indep true ops x y=true) {R:List Nat} {e:Env} {h:AHr} {N:Nat->Prop}
    (H:HI P B ops (i :: j :: R) e h N K):HI P B ops (j :: i :: R) e h N K:=by
 simp only [HI,hi,hj] at H ⊢
 cases hex:AR8 x with
 | false=>
   simp only [hex,cond_false] at H ⊢
   cases hey:AR8 y with
   | false=>
     simp only [hey,cond_false] at H ⊢
     exact GOp.swap hx hy hin H
   | true=>
     simp only [hey,cond_true] at H ⊢
     intro h2 E2
     have H1:GOp P B true ops x e h2 fun e' h'=>GOp P B true ops y e' h' fun e2 h3=>Ext h2 h3/\HI P B ops R e2 h3 (fun b=>N b/\Off h2.size h3.size b) K:=
       Adb hex H (fun hb=>hBx _ _ hb E2) fun v hh=>hh h2 E2
     refine (GOp.swap hx hy hin H1).mono fun v h3 hh=>?_
     obtain ⟨u,hu⟩:=Adc hex hh
     exact ⟨hu.1,(AUa hex hh).mono fun v h' hk=>by obtain ⟨rfl,hk⟩:=hk;exact hk.2⟩
 | true=>
   simp only [hex,cond_true] at H ⊢
   have hey:AR8 y=false:=by
     simp only [indep,Bool.and_eq_true] at hin
     unfold AR8 at hex ⊢
     cases h1:kindOf x.op <;> cases h2:kindOf y.op <;> simp_all
   simp only [hey,cond_false] at H ⊢
   have key:∀ h2,Ext h h2->GOp P B true ops y e h2 fun e1 h'=>GOp P B true ops x e1 h2 fun e2 h3=>Ext h2 h3/\HI P B ops R e2 h3 (fun b=>N b/\Off h2.size h3.size b) K:=by
     intro h2 E2
     have H1:GOp P B true ops x e h2 fun e' h'=>GOp P B true ops y e' h' fun e2 h3=>Ext h2 h3/\HI P B ops R e2 h3 (fun b=>N b/\Off h2.size h3.size b) K:=
       (H h2 E2).mono fun v h' hh=>(AUa hey hh.2).mono fun v2 h3 hk=>by obtain ⟨rfl,hk⟩:=hk;exact ⟨hh.1,hk⟩
     refine (AUa hey (GOp.swap hx hy hin H1)).mono fun v h' hh=>?_
     obtain ⟨rfl,hh⟩:=hh
     exact hh
   have k0:=key h (Ext.refl h)
   obtain ⟨v0,-⟩:=Adc hey k0
   have kk:GOp P B true ops y e h fun e1 h'=>h'=h/\ ∀ h2,Ext h h2->GOp P B true ops x e1 h2 fun e2 h3=>Ext h2 h3/\HI P B ops R e2 h3 (fun b=>N b/\Off h2.size h3.size b) K:=by
     by_cases hw:Region.wanted y (AO2 ops e)=true
     · have k1:=k0
       unfold GOp at k1 ⊢
       rw [if_pos hw] at k1 ⊢
       unfold SOp at k1 ⊢
       rcases AU0 hey with hk | hk
       · simp only [hk] at k1 ⊢
         obtain ⟨v,a1,a2⟩:=k1
         refine ⟨v,a1,trivial,fun h2 E2=>?_⟩
         have k2:=key h2 E2
         unfold GOp at k2
         rw [if_pos hw] at k2
         unfold SOp at k2
         simp only [hk] at k2
         obtain ⟨u,b1,b2⟩:=k2
         have e1:=a1 (ASc h)
         rw [b1 (ASc h)] at e1
         cases e1
         exact b2
       · simp only [hk] at k1 ⊢
         obtain ⟨v,a0,a1,a2⟩:=k1
         refine ⟨v,a0,a1,trivial,fun h2 E2=>?_⟩
         have k2:=key h2 E2
         unfold GOp at k2
         rw [if_pos hw] at k2
         unfold SOp at k2
         simp only [hk] at k2
         obtain ⟨u,b0,b1,b2⟩:=k2
         have e1:=a1 (ASc h) a0
         rw [b1 (ASc h) a0] at e1
         cases e1
         exact b2
     · unfold GOp
       rw [if_neg hw]
       refine ⟨rfl,fun h2 E2=>?_⟩
       have k2:=key h2 E2
       unfold GOp at k2
       rw [if_neg hw] at k2
       exact k2
   refine kk.mono fun v h' hh=>?_
   obtain ⟨rfl,hh⟩:=hh
   exact hh
theorem HI.bubble (hBx:∀ h h',B h->Ext h h'->B h') {i:Nat} {oi:Oper} (hi:ops[i]? =some oi) (hsi:ANc oi=true) (R1:List Nat):∀ {R2:List Nat} {e:Env} {h:AHr} {N:Nat->Prop},
    (∀ k∈R1,∃ ok,ops[k]? =some ok/\ANc ok=true/\indep true ops ok oi=true)->HI P B ops (R1 ++ i :: R2) e h N K->HI P B ops (i :: (R1 ++ R2)) e h N K:=by
 induction R1 with
 | nil=>intro R2 e h N _ H;exact H
 | cons k R1 ih=>
   intro R2 e h N hind H
   obtain ⟨ok,hok,hsk,hik⟩:=hind k (List.mem_cons_self ..)
   have H2:HI P B ops (k :: i :: (R1 ++ R2)) e h N K:=by
     simp only [List.cons_append] at H
     rw [HI] at H ⊢
     simp only [hok] at H ⊢
     cases he:AR8 ok with
     | true=>simp only [he,cond_true] at H ⊢;exact fun h1 E=>(H h1 E).mono fun v h' hh=>⟨hh.1,ih (fun k' hk'=>hind k' (List.mem_cons_of_mem _ hk')) hh.2⟩
     | false=>simp only [he,cond_false] at H ⊢;exact H.mono fun v h' hh=>ih (fun k' hk'=>hind k' (List.mem_cons_of_mem _ hk')) hh
   exact HI.swap hBx hok hi hsk hsi hik H2
theorem Ap3:∀ (l:List Nat) {e:Env} {h:AHr} {N:Nat->Prop},HI P B ops l e h N K->LI P B true ops l e h fun e' h'=>Ext h h'/\ ∃ N':Nat->Prop,(∀ b,N b->b < h.size->N' b)/\K e' h' N':=by
  intro l;induction l with
  | nil=>intro e h N H;exact ⟨Ext.refl h,N,fun b hb _=>hb,H h (Ext.refl h)⟩
  | cons i l ih=>
    intro e h N H;simp only [HI] at H;simp only [LI];cases hoi:ops[i]? with
    | none=>simp only [hoi] at H
    | some o=>
      simp only [hoi] at H ⊢;cases he:AR8 o with
      | true=>
        simp only [he,cond_true] at H;refine (H h (Ext.refl h)).mono fun v h' hh=>?_;refine LI.mono (fun e2 h2 hk=>?_) (ih hh.2);obtain ⟨E2,N',hN,hk⟩:=hk;exact ⟨hh.1.trans E2,N',fun b hb hlt=>hN b ⟨hb,.inl hlt⟩ (Nat.lt_of_lt_of_le hlt hh.1.1),hk⟩
      | false=>
        simp only [he,cond_false] at H;refine (AUa he H).mono fun v h' hh=>?_;obtain ⟨rfl,hh⟩:=hh;exact ih hh
end
end Go.QF
namespace Go.QF
open Go
section
variable {P:Program} {ops:Array Oper} {B:AHr->Prop}
theorem Ael {st:Bool} {n:Nat} {Q:Exit->Act->World->Prop} (G:Nat->Prop) (hb:AZ8 n ops=true) (hdep:∀ (j:Nat) (oj:Oper),ops[j]? =some oj-> ∀ ed∈oj.after,Region.binds .any ed=true->ed.on < j)
    (hpair:∀ (i j:Nat) (oi oj:Oper),G i->G j->i < j->ops[i]? =some oi->ops[j]? =some oj->(∃ n,reach ops n i j=true)∨indep st ops oi oj=true):∀ (fuel:Nat) (R:List Nat) (listed:Array Bool) (e:Env) (a:Act) (w:World) (K:Env->AHr->Prop),
    (∀ j∈R,G j)->R.length=fuel->LsF ops R listed->Rep n e a->LI P B st ops R e w.heap K->(∀ e' a' w',Rep n e' a'->Same w w'->K e' w'.heap->Q .normal a' w')->
    wpAny P .any ops Q fuel listed a w:=by
 intro fuel
 induction fuel with
 | zero=>
   intro R listed e a w K hG hlen L r H hK
   obtain rfl:R=[]:=List.length_eq_zero_iff.1 hlen
   refine ⟨?_,hK _ _ _ r (.refl w) H⟩
   refine List.eq_nil_iff_forall_not_mem.2 fun j hj=>?_
   obtain ⟨hjl,oj,hoj,_⟩:=mem_ready.1 hj
   have:=(L.mem j).2 ⟨(Array.getElem?_eq_some_iff.1 hoj).1,hjl⟩
   cases this
 | succ fuel ih=>
   intro R listed e a w K hG hlen L r H hK
   constructor
   · intro hr
     exfalso
     cases R with
     | nil=>simp at hlen
     | cons j R=>
       obtain ⟨hjs,hjl⟩:=(L.mem j).1 (List.mem_cons_self ..)
       obtain ⟨oj,hoj⟩:∃ oj,ops[j]? =some oj:=⟨ops[j],Array.getElem?_eq_getElem hjs⟩
       have:j∈Region.ready .any ops listed:=mem_ready.2 ⟨hjl,oj,hoj,fun ed hed hbd=>by
         have hlt:=hdep j oj hoj ed hed hbd
         cases hl:listed.getD ed.on false with
         | true=>rfl
         | false=>
           exfalso
           have hs:ed.on < ops.size:=Nat.lt_trans hlt hjs
           have hm:ed.on∈j :: R:=(L.mem ed.on).2 ⟨hs,by
             have h':ed.on < listed.size:=by rw [L.size];exact hs
             simp [h'] at hl ⊢;exact hl⟩
           rcases List.mem_cons.1 hm with he | he
           · omega
           · have:=(List.pairwise_cons.1 L.pw).1 _ he
             omega⟩
       rw [hr] at this
       cases this
   · intro i hi
     obtain ⟨hil,oi,hoi,hall⟩:=mem_ready.1 hi
     have his:i < ops.size:=(Array.getElem?_eq_some_iff.1 hoi).1
     have hiR:i∈R:=(L.mem i).2 ⟨his,hil⟩
     obtain ⟨R1,R2,rfl⟩:=List.append_of_mem hiR
     obtain ⟨hdi,hsi⟩:=AS5 hb hoi
     have hpw':=List.pairwise_append.1 L.pw
     have hbu:LI P B st ops (i :: (R1 ++ R2)) e w.heap K:=by
       refine LI.bubble hoi hsi R1 (fun k hk=>?_) H
       have hki:k < i:=hpw'.2.2 k hk i (List.mem_cons_self ..)
       have hks:k < ops.size:=Nat.lt_trans hki his
       obtain ⟨ok,hok'⟩:∃ ok,ops[k]? =some ok:=⟨ops[k],Array.getElem?_eq_getElem hks⟩
       refine ⟨ok,hok',(AS5 hb hok').2,?_⟩
       rcases hpair k i ok oi (hG k (List.mem_append_left _ hk)) (hG i hiR) hki hok' hoi with ⟨nre,hre⟩ | h
       · exfalso
         have h1:listed.getD k false=true:=AOu (L:=fun j=>listed.getD j false=true) L.cl nre k i oi hoi hall hre
         rw [L.notListed (List.mem_append_left _ hk)] at h1
         cases h1
       · exact h
     simp only [LI,hoi] at hbu
     refine AMt hoi hdi r hbu fun e' a' w' r' hs hk=>?_
     exact ih (R1 ++ R2) _ e' a' w' K (fun j hj=>hG j (by rcases List.mem_append.1 hj with h | h;exact List.mem_append_left _ h;exact List.mem_append_right _ (List.mem_cons_of_mem _ h))) (by simp at hlen ⊢;omega) (L.step hoi hall) r' hk (fun e2 a2 w2 r2 s2 k2=>hK _ _ _ r2 (hs.trans s2) k2)
structure Alv where
  d:Nat
  t:Nat
  z:List Value
def AX9 (b:Nat):Value:= .pointer (some ⟨b,0,none⟩)
def setO:List Alv->List (Option Nat)->Env->Env
  | a :: A,some b :: bs,e=>(setO A bs e).set a.d (AX9 b)
  | _ :: A,none :: bs,e=>setO A bs e
  | _,_,e=>e
theorem Amw:∀ (A:List Alv) (e:Env),setO A (List.replicate A.length none) e=e:=by
 intro A e
 induction A with
 | nil=>rfl
 | cons a A ih=>exact ih
theorem As3 {A:List Alv}:∀ {bs:List (Option Nat)} {e:Env} {t:Nat},(∀ a∈A,a.d≠t)->setO A bs e t=e t:=by
 induction A with
 | nil=>intro bs e t _;cases bs <;> rfl
 | cons a A ih=>
   intro bs e t h
   cases bs with
   | nil=>rfl
   | cons b bs=>
     cases b with
     | none=>exact ih fun a ha=>h a (List.mem_cons_of_mem _ ha)
     | some b=>
       show (setO A bs e).set a.d (AX9 b) t=e t
       rw [Env.set_other _ _ (fun he=>h a (List.mem_cons_self ..) he.symm)]
       exact ih fun a ha=>h a (List.mem_cons_of_mem _ ha)
theorem Ag9 {A:List Alv}:∀ {bs:List (Option Nat)} {e:Env} {d:Option Nat} {v:Value},(∀ a∈A,d≠some a.d)->(setO A bs e).put d v=setO A bs (e.put d v):=by
 induction A with
 | nil=>intro bs e d v _;cases bs <;> rfl
 | cons a A ih=>
   intro bs e d v h
   cases bs with
   | nil=>rfl
   | cons b bs=>
     have ih':=ih (bs:=bs) (e:=e) (v:=v) fun a ha=>h a (List.mem_cons_of_mem _ ha)
     cases b with
     | none=>exact ih'
     | some b=>
       show ((setO A bs e).set a.d (AX9 b)).put d v=(setO A bs (e.put d v)).set a.d (AX9 b)
       rw [<- ih']
       exact Env.put_comm (x:=some a.d) (y:=d) (setO A bs e) (AX9 b) v (fun k hk=>by cases hk;exact h a (List.mem_cons_self ..))
theorem Ap4 {A:List Alv}:∀ {bs:List (Option Nat)} {e:Env} {q:Nat} {a:Alv} {b:Nat},(A.map Alv.d).Nodup->bs.length=A.length->A[q]? =some a->bs[q]? =some none->setO A (bs.set q (some b)) e=(setO A bs e).set a.d (AX9 b):=by
 induction A with
 | nil=>intro bs e q a b _ _ h;cases h
 | cons c A ih=>
   intro bs e q a b hn hl ha hb
   cases bs with
   | nil=>cases hb
   | cons x bs=>
     cases q with
     | zero=>
       simp only [List.getElem?_cons_zero,Option.some.injEq] at ha hb
       subst ha;subst hb
       rfl
     | succ q=>
       simp only [List.getElem?_cons_succ] at ha hb
       simp only [List.map_cons,List.nodup_cons] at hn
       have ih':=ih (e:=e) (b:=b) hn.2 (by simpa using hl) ha hb
       cases x with
       | none=>exact ih'
       | some x=>
         show (setO A (bs.set q (some b)) e).set c.d (AX9 x)=((setO A bs e).set c.d (AX9 x)).set a.d (AX9 b)
         rw [ih']
         have hne:a.d≠c.d:=fun he=>hn.1 (List.mem_map.2 ⟨a,List.mem_of_getElem? ha,he⟩)
         exact Env.put_comm (x:=some a.d) (y:=some c.d) (setO A bs e) (AX9 b) (AX9 x) (fun k hk he=>by cases hk;exact hne (Option.some.inj he).symm)
theorem Amx {o:Oper} (hs:ANc o=true) {A:List Alv} (hA:∀ a∈A,a.d ∉ o.looksAt ops):∀ {bs:List (Option Nat)} {e:Env},execOp (setO A bs e).ev o=execOp e.ev o/\Region.wanted o (AO2 ops (setO A bs e))=Region.wanted o (AO2 ops e):=by
 induction A with
 | nil=>intro bs e;cases bs <;> exact ⟨rfl,rfl⟩
 | cons a A ih=>
   intro bs e
   cases bs with
   | nil=>exact ⟨rfl,rfl⟩
   | cons b bs=>
     have ih':=ih (fun a ha=>hA a (List.mem_cons_of_mem _ ha)) (bs:=bs) (e:=e)
     cases b with
     | none=>exact ih'
     | some b=>exact ⟨(AW0 (ops:=ops) o hs (setO A bs e) (some a.d) (AX9 b) (fun k hk=>by cases hk;exact hA a (List.mem_cons_self ..))).trans ih'.1,(AW1 (ops:=ops) o (setO A bs e) (some a.d) (AX9 b) (fun k hk=>by cases hk;exact hA a (List.mem_cons_self ..))).trans ih'.2⟩
def Avt (ops:Array Oper) (A:List Alv) (o:Oper):Prop:=(∀ a∈A,a.d ∉ o.looksAt ops)/\ ∀ a∈A,o.dst≠some a.d
theorem GOp.setO {st:Bool} {o:Oper} {A:List Alv} {bs:List (Option Nat)} {e:Env} {h:AHr} {K:Env->AHr->Prop} (hs:ANc o=true) (hf:Avt ops A o) (H:GOp P B st ops o e h K):GOp P B st ops o (setO A bs e) h fun e2 h'=> ∃ e',e2=Go.QF.setO A bs e'/\K e' h':=by
 obtain ⟨h1,h2⟩:=Amx hs hf.1 (bs:=bs) (e:=e);unfold GOp at H ⊢;rw [h2];split
 ·rename_i hw;rw [if_pos hw] at H;exact SOp.congr h1 (fun v h' hk=>⟨_,Ag9 hf.2,hk⟩) H
 ·rename_i hw;rw [if_neg hw] at H;exact ⟨_,Ag9 hf.2,H⟩
theorem LI.setO {st:Bool} {A:List Alv} {bs:List (Option Nat)}:∀ {l:List Nat} {e:Env} {h:AHr} {K:Env->AHr->Prop},(∀ i∈l,∀ o,ops[i]? =some o->ANc o=true/\Avt ops A o)->LI P B st ops l e h K->LI P B st ops l (setO A bs e) h fun e2 h'=> ∃ e',e2=Go.QF.setO A bs e'/\K e' h':=by
 intro l
 induction l with
 | nil=>intro e h K _ H;exact ⟨e,rfl,H⟩
 | cons i l ih=>
   intro e h K hl H
   simp only [LI] at H ⊢
   cases hoi:ops[i]? with
   | none=>simp only [hoi] at H;exact ih (fun i hi=>hl i (List.mem_cons_of_mem _ hi)) H
   | some o=>
     simp only [hoi] at H
     obtain ⟨h1,h2⟩:=hl i (List.mem_cons_self ..) o hoi
     refine (GOp.setO h1 h2 H).mono fun v h' hk=>?_
     obtain ⟨e',he,hk⟩:=hk
     rw [he]
     exact ih (fun i hi=>hl i (List.mem_cons_of_mem _ hi)) hk
theorem Amy {st:Bool} {l1 l2:List Nat} {e:Env} {h:AHr} {K:Env->AHr->Prop} (H:LI P B st ops l1 e h fun e' h'=>LI P B st ops l2 e' h' K):LI P B st ops (l1 ++ l2) e h K:=by
 induction l1 generalizing e h with
 | nil=>exact H
 | cons i l ih=>
   simp only [LI,List.cons_append] at H ⊢
   cases hoi:ops[i]? with
   | none=>simp only [hoi] at H;exact ih H
   | some o=>simp only [hoi] at H;exact H.mono fun v h' hk=>ih hk
def KA (A:List Alv) (h0:AHr) (G:List Nat->Env->AHr->Prop) (e:Env) (h:AHr) (N:Nat->Prop):Prop:=
  ∀ bl:List Nat,bl.length=A.length->bl.Nodup->(∀ (q:Nat) (b:Nat) (a:Alv),bl[q]? =some b->A[q]? =some a->AI1 a.t h b a.z/\h0.size<=b/\N b)->G bl e h
theorem KA.anti {A:List Alv} {h0:AHr} {G:List Nat->Env->AHr->Prop} (e:Env) (h:AHr) (N N':Nat->Prop) (hN:∀ b,N' b->N b) (H:KA A h0 G e h N):KA A h0 G e h N':=
  fun bl h1 h2 h3=>H bl h1 h2 fun q b a hb ha=>let ⟨x,y,z⟩:=h3 q b a hb ha;⟨x,y,hN b z⟩
structure Ak6 (ops:Array Oper) (m:Nat) (A:List Alv):Prop where
  le:m + A.length<=ops.size
  dep:∀ (j:Nat) (oj:Oper),ops[j]? =some oj-> ∀ ed∈oj.after,Region.binds .any ed=true->ed.on < j
  pair:∀ (i j:Nat) (oi oj:Oper),(i < m∨m + A.length<=i)->(j < m∨m + A.length<=j)->i < j->ops[i]? =some oi->ops[j]? =some oj->(∃ n,reach ops n i j=true)∨indep true ops oi oj=true
  tail:∀ (i j:Nat) (oj:Oper),m<=i->i < m + A.length->m + A.length<=j->ops[j]? =some oj-> ∃ n,reach ops n i j=true
  far:∀ (j:Nat) (oj:Oper),j < m->ops[j]? =some oj->Avt ops A oj
  nd:(A.map Alv.d).Nodup
  al:∀ (q:Nat) (a:Alv),A[q]? =some a-> ∃ o,ops[m + q]? =some o/\o.dst=some a.d
def As4 (P:Program) (B:AHr->Prop) (ops:Array Oper) (m:Nat) (A:List Alv):Prop:=
  ∀ (q:Nat) (a:Alv) (o:Oper),A[q]? =some a->ops[m + q]? =some o-> ∀ (e:Env) (h:AHr),B h->GOp P B true ops o e h fun e' h'=> ∃ b,e'=e.set a.d (AX9 b)/\Ext h h'/\AI1 a.t h' b a.z/\h.size<=b
theorem Ap5 {n m:Nat} {A:List Alv} {h0:AHr} {T:List Nat} {Q:Exit->Act->World->Prop} {Kq:Env->AHr->Prop} (S:Ak6 ops m A) (hb:AZ8 n ops=true) (hBx:∀ h h',B h->Ext h h'->B h') (hal:As4 P B ops m A) (hT:∀ j∈T,m + A.length<=j):
    ∀ (fuel:Nat) (Rp Ra:List Nat) (bs:List (Option Nat)) (listed:Array Bool) (e:Env) (a:Act) (w:World) (N:Nat->Prop),
    (∀ j∈Rp,j < m)->(∀ j∈Ra,m<=j/\j < m + A.length/\bs[j - m]? =some none)->(∀ q:Nat,bs[q]? =some none->m + q∈Ra)->bs.length=A.length->(Rp ++ (Ra ++ T)).length=fuel->LsF ops (Rp ++ (Ra ++ T)) listed->Rep n (setO A bs e) a->Ext h0 w.heap->B w.heap->
    (∀ (q b:Nat) (x:Alv),bs[q]? =some (some b)->A[q]? =some x->AI1 x.t w.heap b x.z/\h0.size<=b/\N b)->(∀ q q' b:Nat,bs[q]? =some (some b)->bs[q']? =some (some b)->q=q')->(∀ b:Nat,w.heap.size<=b->N b)->
    HI P B ops Rp e w.heap N (KA A h0 fun bl e' h'=>LI P B true ops T (setO A (bl.map some) e') h' Kq)->
    (∀ e' a' w',Rep n e' a'->Same w w'->Kq e' w'.heap->Q .normal a' w')->wpAny P .any ops Q fuel listed a w:=by
 intro fuel
 induction fuel with
 | zero=>
   intro Rp Ra bs listed e a w N hRp hRa hbsR hbl hlen L r hE hB hbox hdis hNn H hK
   have Ap:Rp ++ (Ra ++ T)=[]:=List.length_eq_zero_iff.1 hlen
   simp only [List.append_eq_nil_iff] at Ap
   obtain ⟨rfl,rfl,rfl⟩:=Ap
   refine Ael (B:=B) (st:=true) (fun j=>j < m∨m + A.length<=j) hb S.dep S.pair 0 [] listed _ a w Kq (fun j hj=>by cases hj) rfl L r ?_ hK
   obtain ⟨bl,rfl⟩:∃ bl:List Nat,bs=bl.map some:=by
     have:∀ bs:List (Option Nat),(∀ q:Nat,bs[q]? ≠some none)-> ∃ bl:List Nat,bs=bl.map some:=by
       intro bs
       induction bs with
       | nil=>intro _;exact ⟨[],rfl⟩
       | cons b bs ih=>
         intro h
         obtain ⟨bl,rfl⟩:=ih fun q=>by have:=h (q + 1);simpa using this
         cases b with
         | none=>exact absurd rfl (h 0)
         | some b=>exact ⟨b :: bl,rfl⟩
     exact this bs fun q hq=>by have:=hbsR q hq;cases this
   refine H w.heap (Ext.refl _) bl (by simpa using hbl) ?_ fun q b x hq hx=>hbox q b x (by simp [hq]) hx
   refine List.pairwise_iff_getElem.2 fun i j hi hj hij he=>?_
   have h1:bl[i]? =some bl[i]:=List.getElem?_eq_getElem hi
   have h2:bl[j]? =some bl[i]:=by rw [he];exact List.getElem?_eq_getElem hj
   have:=hdis i j bl[i] (by simp [h1]) (by simp [h2])
   omega
 | succ fuel ih=>
   intro Rp Ra bs listed e a w N hRp hRa hbsR hbl hlen L r hE hB hbox hdis hNn H hK
   by_cases Aq:Ra=[]
   · subst Aq
     obtain ⟨bl,rfl⟩:∃ bl:List Nat,bs=bl.map some:=by
       have:∀ bs:List (Option Nat),(∀ q:Nat,bs[q]? ≠some none)-> ∃ bl:List Nat,bs=bl.map some:=by
         intro bs
         induction bs with
         | nil=>intro _;exact ⟨[],rfl⟩
         | cons b bs ih=>
           intro h
           obtain ⟨bl,rfl⟩:=ih fun q=>by have:=h (q + 1);simpa using this
           cases b with
           | none=>exact absurd rfl (h 0)
           | some b=>exact ⟨b :: bl,rfl⟩
       exact this bs fun q hq=>by have:=hbsR q hq;cases this
     have hnod:bl.Nodup:=by
       refine List.pairwise_iff_getElem.2 fun i j hi hj hij he=>?_
       have h1:bl[i]? =some bl[i]:=List.getElem?_eq_getElem hi
       have h2:bl[j]? =some bl[i]:=by rw [he];exact List.getElem?_eq_getElem hj
       have:=hdis i j bl[i] (by simp [h1]) (by simp [h2])
       omega
     simp only [List.nil_append] at hlen L
     refine Ael (B:=B) (st:=true) (fun j=>j < m∨m + A.length<=j) hb S.dep S.pair (fuel + 1) (Rp ++ T) listed _ a w Kq (fun j hj=>?_) hlen L r ?_ hK
     · rcases List.mem_append.1 hj with h | h
       · exact .inl (hRp j h)
       · exact .inr (hT j h)
     · refine Amy ?_
       have h1:=LI.setO (A:=A) (bs:=bl.map some) (fun i hi o ho=>⟨(AS5 hb ho).2,S.far i o (hRp i hi) ho⟩) (Ap3 Rp H)
       refine LI.mono (fun e2 h2 hk=>?_) h1
       obtain ⟨e',rfl,E2,N',hN',hk⟩:=hk
       refine hk bl (by simpa using hbl) hnod fun q b x hq hx=>?_
       obtain ⟨x1,x2,x3⟩:=hbox q b x (by simp [hq]) hx
       exact ⟨by unfold AI1;rw [E2.2 b x1.lt];exact x1,x2,hN' b x3 x1.lt⟩
   · refine ⟨fun hr=>?_,fun i hi=>?_⟩
     · exfalso
       cases hR:Rp ++ (Ra ++ T) with
       | nil=>rw [hR] at hlen;simp at hlen
       | cons j R=>
         rw [hR] at L
         obtain ⟨hjs,hjl⟩:=(L.mem j).1 (List.mem_cons_self ..)
         obtain ⟨oj,hoj⟩:∃ oj,ops[j]? =some oj:=⟨ops[j],Array.getElem?_eq_getElem hjs⟩
         have:j∈Region.ready .any ops listed:=mem_ready.2 ⟨hjl,oj,hoj,fun ed hed hbd=>by
           have hlt:=S.dep j oj hoj ed hed hbd
           cases hl:listed.getD ed.on false with
           | true=>rfl
           | false=>
             exfalso
             have hs:ed.on < ops.size:=Nat.lt_trans hlt hjs
             have hm:ed.on∈j :: R:=(L.mem ed.on).2 ⟨hs,by
               have h':ed.on < listed.size:=by rw [L.size];exact hs
               simp [h'] at hl ⊢;exact hl⟩
             rcases List.mem_cons.1 hm with he | he
             · omega
             · have:=(List.pairwise_cons.1 L.pw).1 _ he
               omega⟩
         rw [hr] at this
         cases this
     · obtain ⟨hil,oi,hoi,hall⟩:=mem_ready.1 hi
       have his:i < ops.size:=(Array.getElem?_eq_some_iff.1 hoi).1
       obtain ⟨hdi,hsi⟩:=AS5 hb hoi
       have hnl:∀ (k nre:Nat),k∈Rp ++ (Ra ++ T)->reach ops nre k i=true->False:=fun k nre hk hre=>by
         have h1:listed.getD k false=true:=AOu (L:=fun j=>listed.getD j false=true) L.cl nre k i oi hoi hall hre
         rw [L.notListed hk] at h1
         cases h1
       rcases List.mem_append.1 ((L.mem i).2 ⟨his,hil⟩) with hip | hit
       ·
         obtain ⟨R1,R2,rfl⟩:=List.append_of_mem hip
         have hpw':=List.pairwise_append.1 (List.pairwise_append.1 L.pw).1
         have hbu:HI P B ops (i :: (R1 ++ R2)) e w.heap N (KA A h0 fun bl e' h'=>LI P B true ops T (setO A (bl.map some) e') h' Kq):=by
           refine HI.bubble hBx hoi hsi R1 (fun k hk=>?_) H
           have hki:k < i:=hpw'.2.2 k hk i (List.mem_cons_self ..)
           have hks:k < ops.size:=Nat.lt_trans hki his
           obtain ⟨ok,hok'⟩:∃ ok,ops[k]? =some ok:=⟨ops[k],Array.getElem?_eq_getElem hks⟩
           refine ⟨ok,hok',(AS5 hb hok').2,?_⟩
           rcases S.pair k i ok oi (.inl (hRp k (List.mem_append_left _ hk))) (.inl (hRp i hip)) hki hok' hoi with ⟨nre,hre⟩ | h
           · exact (hnl k nre (List.mem_append_left _ (List.mem_append_left _ hk)) hre).elim
           · exact h
         have hg:GOp P B true ops oi e w.heap fun e' h'=>Ext w.heap h'/\HI P B ops (R1 ++ R2) e' h' (fun b=>N b/\Off w.heap.size h'.size b) (KA A h0 fun bl e' h'=>LI P B true ops T (setO A (bl.map some) e') h' Kq):=by
           simp only [HI,hoi] at hbu
           cases he:AR8 oi with
           | true=>simp only [he,cond_true] at hbu;exact hbu w.heap (Ext.refl _)
           | false=>
             simp only [he,cond_false] at hbu
             refine (AUa he hbu).mono fun v h' hk=>?_
             obtain ⟨rfl,hk⟩:=hk
             exact ⟨Ext.refl _,HI.anti KA.anti _ (fun b hb=>hb.1) hk⟩
         refine AMt hoi hdi r (GOp.setO (bs:=bs) hsi (S.far i oi (hRp i hip) hoi) hg) fun e' a' w' r' hs hk=>?_
         obtain ⟨e1,rfl,hE',hk⟩:=hk
         refine ih (R1 ++ R2) Ra bs _ e1 a' w' _ (fun j hj=>hRp j (by rcases List.mem_append.1 hj with h | h;exact List.mem_append_left _ h;exact List.mem_append_right _ (List.mem_cons_of_mem _ h))) hRa hbsR hbl (by simp at hlen ⊢;omega) ?_ r' (hE.trans hE') (hBx _ _ hB hE') (fun q b x hq hx=>?_) hdis (fun b hb=>⟨hNn b (Nat.le_trans hE'.1 hb),.inr hb⟩) hk (fun e2 a2 w2 r2 s2 k2=>hK _ _ _ r2 (hs.trans s2) k2)
         · have L2:LsF ops (R1 ++ i :: (R2 ++ (Ra ++ T))) listed:=by simpa using L
           have:=L2.step hoi hall
           simpa using this
         · obtain ⟨x1,x2,x3⟩:=hbox q b x hq hx
           exact ⟨by unfold AI1;rw [hE'.2 b x1.lt];exact x1,x2,x3,.inl x1.lt⟩
       · rcases List.mem_append.1 hit with hia | hiT
         ·
           obtain ⟨A1,A2,rfl⟩:=List.append_of_mem hia
           obtain ⟨Au,Av,hbq⟩:=hRa i hia
           obtain ⟨x,hx⟩:∃ x,A[i - m]? =some x:=⟨A[i - m]'(by omega),List.getElem?_eq_getElem (by omega)⟩
           have hoi':ops[m + (i - m)]? =some oi:=by rw [show m + (i - m)=i by omega];exact hoi
           have hg:=hal (i - m) x oi hx hoi' (setO A bs e) w.heap hB
           refine AMt hoi hdi r hg fun e' a' w' r' hs hk=>?_
           obtain ⟨b,rfl,hE',hbx,hbh⟩:=hk
           rw [<- Ap4 S.nd hbl hx hbq] at r'
           have hpwA:=List.pairwise_append.1 (List.pairwise_append.1 (List.pairwise_append.1 L.pw).2.1).1
           have hlq:i - m < bs.length:=by omega
           refine ih Rp (A1 ++ A2) (bs.set (i - m) (some b)) _ e a' w' N hRp (fun j hj=>?_) (fun q hq=>?_) (by simpa using hbl) (by simp at hlen ⊢;omega) ?_ r' (hE.trans hE') (hBx _ _ hB hE') (fun q c y hq hy=>?_) (fun q q' c hq hq'=>?_) (fun c hc=>hNn c (Nat.le_trans hE'.1 hc)) (HI.ext hBx _ hE' H) (fun e2 a2 w2 r2 s2 k2=>hK _ _ _ r2 (hs.trans s2) k2)
           · have hj':j∈A1 ++ i :: A2:=by
               rcases List.mem_append.1 hj with h | h
               · exact List.mem_append_left _ h
               · exact List.mem_append_right _ (List.mem_cons_of_mem _ h)
             obtain ⟨j1,j2,j3⟩:=hRa j hj'
             have hne:i≠j:=by
               rintro rfl
               rcases List.mem_append.1 hj with h | h
               · have:=hpwA.2.2 i h i (List.mem_cons_self ..);omega
               · have:=(List.pairwise_cons.1 hpwA.2.1).1 i h;omega
             exact ⟨j1,j2,by rw [List.getElem?_set_ne (by omega)];exact j3⟩
           · by_cases hqi:i - m=q
             · subst hqi;rw [List.getElem?_set_self hlq] at hq;cases hq
             · rw [List.getElem?_set_ne hqi] at hq
               have:=hbsR q hq
               rcases List.mem_append.1 this with h | h
               · exact List.mem_append_left _ h
               · rcases List.mem_cons.1 h with h | h
                 · omega
                 · exact List.mem_append_right _ h
           · have L2:LsF ops ((Rp ++ A1) ++ i :: (A2 ++ T)) listed:=by simpa using L
             have:=L2.step hoi hall
             simpa using this
           · by_cases hqi:i - m=q
             · subst hqi
               rw [List.getElem?_set_self hlq] at hq
               cases hq
               rw [hx] at hy;cases hy
               exact ⟨hbx,Nat.le_trans hE.1 hbh,hNn b hbh⟩
             · rw [List.getElem?_set_ne hqi] at hq
               obtain ⟨x1,x2,x3⟩:=hbox q c y hq hy
               exact ⟨by unfold AI1;rw [hE'.2 c x1.lt];exact x1,x2,x3⟩
           · have old:∀ {q:Nat},bs[q]? =some (some c)->c < w.heap.size:=fun {q} hq=>by
               have hql:q < A.length:=by rw [<- hbl];exact (List.getElem?_eq_some_iff.1 hq).1
               exact (hbox q c A[q] hq (List.getElem?_eq_getElem hql)).1.lt
             by_cases hqi:i - m=q
             · by_cases hqi':i - m=q'
               · omega
               · subst hqi
                 rw [List.getElem?_set_self hlq] at hq
                 rw [List.getElem?_set_ne hqi'] at hq'
                 cases hq
                 have:=old hq'
                 omega
             · rw [List.getElem?_set_ne hqi] at hq
               by_cases hqi':i - m=q'
               · subst hqi'
                 rw [List.getElem?_set_self hlq] at hq'
                 cases hq'
                 have:=old hq
                 omega
               · rw [List.getElem?_set_ne hqi'] at hq'
                 exact hdis q q' c hq hq'
         ·
           exfalso
           cases hA:Ra with
           | nil=>exact Aq hA
           | cons j Ra'=>
             have hj:j∈Ra:=by rw [hA];exact List.mem_cons_self ..
             obtain ⟨Au,Av,_⟩:=hRa j hj
             obtain ⟨nre,hre⟩:=S.tail j i oi Au Av (hT i hiT) hoi
             exact hnl j nre (List.mem_append_right _ (List.mem_append_left _ hj)) hre
end
end Go.QF
namespace Go.QF
open Go
section
variable {P:Program} {ops:Array Oper} {B:AHr->Prop}
def isA (m k i:Nat):Bool:=Nat.ble m i && Nat.blt i (m + k)
def Ap6 (ops:Array Oper) (m:Nat) (ds:List Nat):Bool:=
  Nat.ble (m + ds.length) ops.size && (decide ds.Nodup && (List.range ds.length).all fun q=>match ops[m + q]?,ds[q]? with | some o,some d=>o.dst == some d | _,_=>false) && (List.range ops.size).all fun j=>match ops[j]? with
    | none=>false
    | some oj=>oj.after.all (fun ed=> !Region.binds .any ed || Nat.blt ed.on j) && (!Nat.blt j m || ds.all fun d=> !(oj.looksAt ops).contains d && oj.dst != some d) &&
      (List.range j).all fun i=>match ops[i]? with
        | none=>false
        | some oi=>match isA m ds.length i,isA m ds.length j with
          | false,false=>ahead ops i j || indep true ops oi oj
          | true,false=>ahead ops i j
          | _,true=>true
theorem Aha {m k i:Nat}:(isA m k i=true↔m<=i/\i < m + k):=by
 unfold isA;rw [Bool.and_eq_true];constructor
 ·rintro ⟨h1,h2⟩;exact ⟨Nat.le_of_ble_eq_true h1,Ac0 h2⟩
 ·rintro ⟨h1,h2⟩;exact ⟨Nat.ble_eq_true_of_le h1,Nat.ble_eq_true_of_le h2⟩
theorem Aas {m k i:Nat} (h:i < m∨m + k<=i):isA m k i=false:=by
 cases hh:isA m k i with
 | false=>rfl
 | true=>have:=Aha.1 hh;omega
theorem Amz {m:Nat} {A:List Alv} (H:Ap6 ops m (A.map Alv.d)=true):Ak6 ops m A:=by
 unfold Ap6 at H;rw [Bool.and_eq_true,Bool.and_eq_true] at H;obtain ⟨⟨h0,h1⟩,H⟩:=H;rw [Bool.and_eq_true] at h1;have h0:=Nat.le_of_ble_eq_true h0;rw [List.length_map] at h0 H
 have key:∀ {j:Nat} {oj:Oper},ops[j]? =some oj->(oj.after.all (fun ed=> !Region.binds .any ed || Nat.blt ed.on j)=true/\(!Nat.blt j m || (A.map Alv.d).all fun d=> !(oj.looksAt ops).contains d && oj.dst != some d)=true)/\
     ((List.range j).all fun i=>match ops[i]? with
       | none=>false
       | some oi=>match isA m A.length i,isA m A.length j with
         | false,false=>ahead ops i j || indep true ops oi oj
         | true,false=>ahead ops i j
         | _,true=>true)=true:=by
   intro j oj hj
   have hlt:j < ops.size:=(Array.getElem?_eq_some_iff.1 hj).1
   have H:=List.all_eq_true.1 H j (List.mem_range.2 hlt)
   simp only [hj,Bool.and_eq_true] at H
   exact H
 refine ⟨h0,fun j oj hj ed hed hbd=>?_,fun i j oi oj hi hj hij hoi hoj=>?_,fun i j oj Ae Af hj hoj=>?_,fun j oj hj hoj=>?_,of_decide_eq_true h1.1,fun q a ha=>?_⟩
 ·have:=Array.all_eq_true_iff_forall_mem.1 (key hj).1.1 ed hed;rw [hbd] at this;exact Ac0 (by simpa using this)
 ·have:=List.all_eq_true.1 (key hoj).2 i (List.mem_range.2 hij);simp only [hoi,Aas hi,Aas hj,Bool.or_eq_true] at this;rcases this with h | h
  ·exact .inl (AP0 h)
  ·exact .inr h
 ·have hij:i < j:=by omega
  have hs:i < ops.size:=Nat.lt_trans hij (Array.getElem?_eq_some_iff.1 hoj).1;have:=List.all_eq_true.1 (key hoj).2 i (List.mem_range.2 hij);simp only [Array.getElem?_eq_getElem hs,Aha.2 ⟨Ae,Af⟩,Aas (.inr hj)] at this;exact AP0 this
 ·have:=(key hoj).1.2;have hb:Nat.blt j m=true:=Nat.ble_eq_true_of_le hj;rw [hb,Bool.not_true,Bool.false_or] at this
  have h2:∀ a∈A,a.d ∉ oj.looksAt ops/\oj.dst≠some a.d:=fun a ha=>by
    have:=List.all_eq_true.1 this a.d (List.mem_map.2 ⟨a,ha,rfl⟩)
    simpa using this
  exact ⟨fun a ha=>(h2 a ha).1,fun a ha=>(h2 a ha).2⟩
 ·have hq:q < A.length:=(List.getElem?_eq_some_iff.1 ha).1;have h2:=List.all_eq_true.1 h1.2 q (List.mem_range.2 (by simpa using hq));have h3:ops[m + q]? =some (ops[m + q]'(by omega)):=Array.getElem?_eq_getElem (by omega);simp only [h3,List.getElem?_map,ha,Option.map_some,beq_iff_eq] at h2;exact ⟨_,h3,h2⟩
variable {Q:Exit->Env->AHr->Prop} {e:Env} {h:AHr}
theorem AZv {id:Nat} {l:List Oper} (m:Nat) (A:List Alv) (hBx:∀ h h',B h->Ext h h'->B h') (hok:Ap6 l.toArray m (A.map Alv.d)=true) (hB:B h) (hal:As4 P B l.toArray m A)
    (H:HRf P B l.toArray (l.take m) e h (fun _=>True) (KA A h fun bl e' h'=>RL P B true l.toArray (l.drop (m + A.length)) (setO A (bl.map some) e') h' (Q .normal))):W P (.region id l.toArray true) Q e h:=by
 intro hmx n id a w Q' hb r hw hQ;subst hw;have S:=Amz hok;have hle:=S.le;simp only [List.size_toArray] at hle;have hsz:l.toArray.size=l.length:=by simp
 have Ad:∀ (s n:Nat),s + n<=l.length->(List.range' s n).map (fun i=>l.toArray[i]?)=((l.drop s).take n).map some:=by
   intro s n hn
   apply List.ext_getElem?
   intro k
   simp only [List.getElem?_map,List.getElem?_take,List.getElem?_drop]
   by_cases hk:k < n
   · rw [List.getElem?_range' hk,if_pos hk]
     have:s + k < l.length:=by omega
     simp [this]
   · rw [if_neg hk,List.getElem?_eq_none (by simp;omega)]
     rfl
 refine wp_region_draw fun t=>?_;simp only [Region.schedule,hmx,Bool.true_or,if_true]
 have hs:List.range l.toArray.size=List.range m ++ (List.range' m A.length ++ List.range' (m + A.length) (l.length - (m + A.length))):=by
   rw [hsz,List.range_eq_range',List.range_eq_range']
   rw [List.range'_append_1]
   have:List.range' m (A.length + (l.length - (m + A.length)))=List.range' (0 + m) (A.length + (l.length - (m + A.length))):=by rw [Nat.zero_add]
   rw [this,List.range'_append_1]
   congr 1
   omega
 have htl:((l.drop (m + A.length)).take (l.length - (m + A.length)))=l.drop (m + A.length):=List.take_of_length_le (by simp)
 have Hi:HI P B l.toArray (List.range m) e w.heap (fun _=>True) (KA A w.heap fun bl e' h'=>LI P B true l.toArray (List.range' (m + A.length) (l.length - (m + A.length))) (setO A (bl.map some) e') h' fun e2 h2=>Q .normal e2 h2/\ ∀ t,(∀ o∈l,o.dst≠some t)->e2 t=e t):=by
   refine Ap2 (List.range m) (l.take m) (by rw [List.range_eq_range'];have:=Ad 0 m (by omega);simpa using this) e w.heap _ ?_
   have frame:∀ (L:List Oper) (e:Env) (h:AHr) (N:Nat->Prop) (K K':Env->AHr->(Nat->Prop)->Prop),(∀ e1 h N,(∀ t,(∀ o∈L,o.dst≠some t)->e1 t=e t)->K e1 h N->K' e1 h N)->HRf P B l.toArray L e h N K->HRf P B l.toArray L e h N K':=by
     intro L
     induction L with
     | nil=>intro e h N K K' hK H h' E;exact hK _ _ _ (fun t _=>rfl) (H h' E)
     | cons o L ih=>
       intro e h N K K' hK H
       have put:∀ v t,(∀ o'∈o :: L,o'.dst≠some t)->e.put o.dst v t=e t:=fun v t ht=>by
         cases hd:o.dst with
         | none=>rfl
         | some d=>exact Env.set_other _ _ (fun he=>ht o (List.mem_cons_self ..) (by rw [hd,he]))
       simp only [HRf] at H ⊢
       cases he:AR8 o with
       | true=>simp only [he,cond_true] at H ⊢;exact fun h1 E=>(H h1 E).mono fun v h' hh=>⟨hh.1,ih _ _ _ _ _ (fun e1 h2 N2 hf hk=>hK _ _ _ (fun t ht=>(hf t fun o' ho'=>ht o' (List.mem_cons_of_mem _ ho')).trans (put v t ht)) hk) hh.2⟩
       | false=>simp only [he,cond_false] at H ⊢;exact H.mono fun v h' hh=>ih _ _ _ _ _ (fun e1 h2 N2 hf hk=>hK _ _ _ (fun t ht=>(hf t fun o' ho'=>ht o' (List.mem_cons_of_mem _ ho')).trans (put v t ht)) hk) hh
   refine frame _ _ _ _ _ _ (fun e1 h1 N1 hf hk bl b1 b2 b3=>?_) H
   refine AXz _ (l.drop (m + A.length)) ?_ _ _ (RL.mono (fun e2 h2 hq=>⟨hq.1,fun t ht=>?_⟩) (RL.frame0 (hk bl b1 b2 b3)))
   · rw [Ad _ _ (by omega),htl]
   · rw [hq.2 t fun o ho=>ht o (List.mem_of_mem_drop ho),As3,hf t fun o ho=>ht o (List.mem_of_mem_take ho)]
     intro x hx he
     obtain ⟨q,Aj⟩:=List.getElem?_of_mem hx
     obtain ⟨o,ho,hd⟩:=S.al q x Aj
     exact ht o (List.mem_of_getElem? (by simpa using ho)) (by rw [hd,he])
 refine wpAny_sound l.toArray.size t _ a _ (Ap5 (B:=B) (T:=List.range' (m + A.length) (l.length - (m + A.length))) S hb hBx hal (fun j hj=>(List.mem_range'_1.1 hj).1) l.toArray.size (List.range m) (List.range' m A.length) (List.replicate A.length none) (Array.replicate l.toArray.size false) e a { w with drawn:=w.drawn + 1 } (fun _=>True) (fun j hj=>List.mem_range.1 hj)
   (fun j hj=>by
     have:=List.mem_range'_1.1 hj
     exact ⟨this.1,this.2,by rw [List.getElem?_replicate,if_pos (by omega)]⟩)
   (fun q hq=>by
     rw [List.getElem?_replicate] at hq
     split at hq
     · exact List.mem_range'_1.2 ⟨by omega,by omega⟩
     · cases hq)
   (by simp) (by rw [<- hs];simp) (by rw [<- hs];exact Aec l.toArray) (by rw [Amw];exact r) (Ext.refl _) hB
   (fun q b x hq hx=>by rw [List.getElem?_replicate] at hq;split at hq <;> cases hq) (fun q q' b hq=>by rw [List.getElem?_replicate] at hq;split at hq <;> cases hq) (fun b _=>trivial) Hi
   (fun e' a' w' r' s k=>hQ e' a' w' r' ⟨s.os,s.tape,s.output⟩ k.1 fun t ht=>k.2 t fun o ho=>ht o (by simpa using ho)))
variable {K:Env->AHr->(Nat->Prop)->Prop} {N:Nat->Prop}
theorem h_l {o:Oper} {l:List Oper} (hl:AR8 o=false) (H:RL P B true ops [o] e h fun e' h'=>HRf P B ops l e' h' N K):HRf P B ops (o :: l) e h N K:=by
 simp only [HRf,hl,cond_false];exact H
theorem h_e {o:Oper} {l:List Oper} (hl:AR8 o=true) (H:∀ h1,Ext h h1->RL P B true ops [o] e h1 fun e' h'=>Ext h1 h'/\HRf P B ops l e' h' (fun b=>N b/\Off h1.size h'.size b) K):HRf P B ops (o :: l) e h N K:=by
 simp only [HRf,hl,cond_true];exact H
theorem Ahb (H:∀ h1,Ext h h1->K e h1 N):HRf P B ops [] e h N K:=H
theorem Avu {a:Alv} {h0:AHr} {G:List Nat->Env->AHr->Prop} (H:∀ b,AI1 a.t h b a.z->h0.size<=b->N b->G [b] e h):KA [a] h0 G e h N:=by
 intro bl hl hn hb
 match bl,hl with
 | [b],_=>
   obtain ⟨h1,h2,h3⟩:=hb 0 b a rfl rfl
   exact H b h1 h2 h3
theorem Axu {a c:Alv} {h0:AHr} {G:List Nat->Env->AHr->Prop} (H:∀ b d,AI1 a.t h b a.z->AI1 c.t h d c.z->b≠d->h0.size<=b->h0.size<=d->N b->N d->G [b,d] e h):KA [a,c] h0 G e h N:=by
 intro bl hl hn hb
 match bl,hl with
 | [b,d],_=>
   obtain ⟨h1,h2,h3⟩:=hb 0 b a rfl rfl
   obtain ⟨g1,g2,g3⟩:=hb 1 d c rfl rfl
   exact H b d h1 g1 (fun he=>by simp [he] at hn) h2 g2 h3 g3
theorem Ajm {t bytes d:Nat} {z:Value} {ty:TypeId} {pos:String} {af:Array Edge} {l:List Value} (hz:ZeT P t z bytes) (hl:z.cells=l.toArray) (hBx:∀ h h',B h->Ext h h'->B h') (e:Env) (h:AHr) (hb:B h):GOp P B true ops ⟨some d,.alloc t,ty,pos,af,none⟩ e h fun e' h'=> ∃ b,e'=e.set d (AX9 b)/\Ext h h'/\AI1 t h' b l/\h.size<=b:=
  AI9 (rest:=[]) (K:=fun e' h'=> ∃ b,e'=e.set d (AX9 b)/\Ext h h'/\AI1 t h' b l/\h.size<=b) l hz hl hb (fun h' E=>hBx _ _ hb E) fun b h' hx E S=>⟨b,rfl,E,hx,(S.lo 0 rfl b (by simp)).1⟩
theorem Ajn {m:Nat} {a:Alv} {ty:TypeId} {pos:String} {af:Array Edge} {bytes:Nat} {z:Value} (ho:ops[m]? =some ⟨some a.d,.alloc a.t,ty,pos,af,none⟩) (hz:ZeT P a.t z bytes) (hl:z.cells=a.z.toArray) (hBx:∀ h h',B h->Ext h h'->B h'):As4 P B ops m [a]:=by
 intro q x o hq hoq e h hb
 match q,hq with
 | 0,hq=>
   cases hq
   rw [Nat.add_zero,ho] at hoq
   cases hoq
   exact Ajm hz hl hBx e h hb
theorem Ap7 {m:Nat} {a c:Alv} {ty ty':TypeId} {pos pos':String} {af af':Array Edge} {bytes bytes':Nat} {z z':Value} (ho:ops[m]? =some ⟨some a.d,.alloc a.t,ty,pos,af,none⟩) (ho':ops[m + 1]? =some ⟨some c.d,.alloc c.t,ty',pos',af',none⟩) (hz:ZeT P a.t z bytes) (hl:z.cells=a.z.toArray) (hz':ZeT P c.t z' bytes') (hl':z'.cells=c.z.toArray) (hBx:∀ h h',B h->Ext h h'->B h'):As4 P B ops m [a,c]:=by
 intro q x o hq hoq e h hb
 match q,hq with
 | 0,hq=>
   cases hq
   rw [Nat.add_zero,ho] at hoq
   cases hoq
   exact Ajm hz hl hBx e h hb
 | 1,hq=>
   cases hq
   rw [ho'] at hoq
   cases hoq
   exact Ajm hz' hl' hBx e h hb
theorem Ap8 {h h':AHr} {b d:Nat} (h1:h.size<=b) (h2:h.size<=d) (h3:b < h'.size) (h4:d < h'.size) (hne:b≠d):Sp h' h.size [[b],[d]]:=⟨by simp [hne],fun x hx=>by simp at hx;omega⟩
end
end Go.QF
namespace Go.QF
open Go
def Abm (h:AHr) (v:Value) (n d:Int):Prop:= ∃ c1 c2,v= .agg (c1 ++ c2).toArray/\cZ.rep h n c1/\cZ.rep h d c2
theorem AJm {h h':AHr} {n d:Int} {c1 c2:List Value} (H1:cZ.rep h n c1) (H2:cZ.rep h' d c2):(c1 ++ c2).length=4:=by
 rw [List.length_append,cZ.klen H1,cZ.klen H2];rfl
theorem AQt {h h':AHr} {n d:Int} {c1 c2:List Value} (H1:cZ.rep h n c1) (H2:cZ.rep h' d c2):∀ u∈c1 ++ c2,isOne u=true:=fun u hu=>
  (List.mem_append.1 hu).elim (cZ.one H1 u) (cZ.one H2 u)
theorem AI1.aggL {t:Nat} {h:AHr} {b:Nat} {l l2:List Value} (H:AI1 t h b (l ++ l2)):∀ i u,l[i]? =some u->AKe h ((⟨b,0,none⟩:Addr).add i)=some u:=by
 intro i u hu;refine H.agg i u ?_;rw [List.getElem?_append_left (List.getElem?_eq_some_iff.1 hu).1];exact hu
theorem AI1.aggR {t:Nat} {h:AHr} {b:Nat} {l l2:List Value} (H:AI1 t h b (l ++ l2)) (hl:l.length=2):∀ i u,l2[i]? =some u->AKe h ((⟨b,2,none⟩:Addr).add i)=some u:=by
 intro i u hu;have h1:=H.cell (i:=2 + i) (u:=u) (by rw [List.getElem?_append_right (by omega),hl,show 2 + i - 2=i by omega];exact hu);rw [AMk];exact h1
theorem Ahc {h:AHr} {z:Int} {cs:List Value} (H:cZ.rep h z cs):∃ b a n c,cs=[.bool b,.slice a n c]:=by
 obtain ⟨hl,n,s,L,h1,h2,h3⟩:=H;obtain ⟨a,m,c,rfl,_⟩:=h2.cap;refine ⟨n,a,m,c,?_⟩;injection h1 with h1;have:=congrArg Array.toList h1;simpa using this
end Go.QF
namespace Go.Proofs.YtmmckalinicpaaaGreatDoor
open Go Go.QF
theorem AMm:AgT Tryz.prog 170 4:=Afa Tryz.underlying170 rfl (by kernel_rfl)
theorem ATd:ZeT Tryz.prog 170 (.agg #[.bool false,.slice none 0 0,.bool false,.slice none 0 0]) 64:=AYo (by kernel_rfl)
theorem Ab0:FdT Tryz.prog 170 0 0 104:=⟨_,_,Tryz.underlying170,rfl,rfl,rfl⟩
theorem AX0:FdT Tryz.prog 170 1 2 104:=⟨_,_,Tryz.underlying170,rfl,rfl,rfl⟩
theorem Ajo (w:World):(Instr.build 170 #[]).run Tryz.prog w= .ok (.agg #[.bool false,.slice none 0 0,.bool false,.slice none 0 0]) w:=by kernel_rfl
theorem Ajp (b b':Bool) (a a':Option Addr) (n n' c c':Nat) (w:World):(Instr.build 170 #[(0,.agg #[.bool b,.slice a n c]),(1,.agg #[.bool b',.slice a' n' c'])]).run Tryz.prog w= .ok (.agg #[.bool b,.slice a n c,.bool b',.slice a' n' c']) w:=by kernel_rfl
theorem AX1 {h h':AHr} {n d:Int} {c1 c2:List Value} (H1:cZ.rep h n c1) (H2:cZ.rep h' d c2) (w:World):(Instr.build 170 #[(0,.agg c1.toArray),(1,.agg c2.toArray)]).run Tryz.prog w= .ok (.agg (c1 ++ c2).toArray) w:=by
 obtain ⟨b,a,n,c,rfl⟩:=Ahc H1;obtain ⟨b',a',n',c',rfl⟩:=Ahc H2;exact Ajp _ _ _ _ _ _ _ _ w
end Go.Proofs.YtmmckalinicpaaaGreatDoor
