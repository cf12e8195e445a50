/-
  Texts of a proof, joined. Conditions stand in each statement.
-/
import Derived.Test.YtiegjkmfpcgjjaaGreatDoorMLineIs2
set_option linter.unusedVariables false
set_option linter.unusedSimpArgs false
namespace Go.QF
open Go
section
variable {P:Program} {ops:Array Oper} {B:ABh->Prop}
def isA (m k i:Nat):Bool:=Nat.ble m i && Nat.blt i (m + k)
def Ak8 (ops:Array Oper) (m:Nat) (ds:List Nat):Bool:=
  Nat.ble (m + ds.length) ops.size && (decide ds.Nodup && (List.range ds.length).all fun q=>match ops[m + q]?,ds[q]? with | some o,some d=>o.dst == some d | _,_=>false) && (List.range ops.size).all fun j=>match ops[j]? with
    | none=>false
    | some oj=>oj.after.all (fun ed=> !Region.binds .any ed || Nat.blt ed.on j) && (!Nat.blt j m || ds.all fun d=> !(oj.looksAt ops).contains d && oj.dst != some d) &&
      (List.range j).all fun i=>match ops[i]? with
        | none=>false
        | some oi=>match isA m ds.length i,isA m ds.length j with
          | false,false=>ahead ops i j || indep true ops oi oj
          | true,false=>ahead ops i j
          | _,true=>true
theorem Acz {m k i:Nat}:(isA m k i=true↔m<=i/\i < m + k):=by
 unfold isA;rw [Bool.and_eq_true];constructor
 ·rintro ⟨h1,h2⟩;exact ⟨Nat.le_of_ble_eq_true h1,AX5 h2⟩
 ·rintro ⟨h1,h2⟩;exact ⟨Nat.ble_eq_true_of_le h1,Nat.ble_eq_true_of_le h2⟩
theorem AVr {m k i:Nat} (h:i < m∨m + k<=i):isA m k i=false:=by
 cases hh:isA m k i with
 | false=>rfl
 | true=>have:=Acz.1 hh;omega
theorem Ain {m:Nat} {A:List Alv} (H:Ak8 ops m (A.map Alv.d)=true):Ag3 ops m A:=by
 unfold Ak8 at H;rw [Bool.and_eq_true,Bool.and_eq_true] at H;obtain ⟨⟨h0,h1⟩,H⟩:=H;rw [Bool.and_eq_true] at h1;have h0:=Nat.le_of_ble_eq_true h0;rw [List.length_map] at h0 H
 have key:∀ {j:Nat} {oj:Oper},ops[j]? =some oj->(oj.after.all (fun ed=> !Region.binds .any ed || Nat.blt ed.on j)=true/\(!Nat.blt j m || (A.map Alv.d).all fun d=> !(oj.looksAt ops).contains d && oj.dst != some d)=true)/\
     ((List.range j).all fun i=>match ops[i]? with
       | none=>false
       | some oi=>match isA m A.length i,isA m A.length j with
         | false,false=>ahead ops i j || indep true ops oi oj
         | true,false=>ahead ops i j
         | _,true=>true)=true:=by
   intro j oj hj
   have hlt:j < ops.size:=(Array.getElem?_eq_some_iff.1 hj).1
   have H:=List.all_eq_true.1 H j (List.mem_range.2 hlt)
   simp only [hj,Bool.and_eq_true] at H
   exact H
 refine ⟨h0,fun j oj hj ed hed hbd=>?_,fun i j oi oj hi hj hij hoi hoj=>?_,fun i j oj Ae Af hj hoj=>?_,fun j oj hj hoj=>?_,of_decide_eq_true h1.1,fun q a ha=>?_⟩
 ·have:=Array.all_eq_true_iff_forall_mem.1 (key hj).1.1 ed hed;rw [hbd] at this;exact AX5 (by simpa using this)
 ·have:=List.all_eq_true.1 (key hoj).2 i (List.mem_range.2 hij);simp only [hoi,AVr hi,AVr hj,Bool.or_eq_true] at this;rcases this with h | h
  ·exact .inl (AL5 h)
  ·exact .inr h
 ·have hij:i < j:=by omega
  have hs:i < ops.size:=Nat.lt_trans hij (Array.getElem?_eq_some_iff.1 hoj).1;have:=List.all_eq_true.1 (key hoj).2 i (List.mem_range.2 hij);simp only [Array.getElem?_eq_getElem hs,Acz.2 ⟨Ae,Af⟩,AVr (.inr hj)] at this;exact AL5 this
 ·have:=(key hoj).1.2;have hb:Nat.blt j m=true:=Nat.ble_eq_true_of_le hj;rw [hb,Bool.not_true,Bool.false_or] at this
  have h2:∀ a∈A,a.d ∉ oj.looksAt ops/\oj.dst≠some a.d:=fun a ha=>by
    have:=List.all_eq_true.1 this a.d (List.mem_map.2 ⟨a,ha,rfl⟩)
    simpa using this
  exact ⟨fun a ha=>(h2 a ha).1,fun a ha=>(h2 a ha).2⟩
 ·have hq:q < A.length:=(List.getElem?_eq_some_iff.1 ha).1;have h2:=List.all_eq_true.1 h1.2 q (List.mem_range.2 (by simpa using hq));have h3:ops[m + q]? =some (ops[m + q]'(by omega)):=Array.getElem?_eq_getElem (by omega);simp only [h3,List.getElem?_map,ha,Option.map_some,beq_iff_eq] at h2;exact ⟨_,h3,h2⟩
variable {Q:Exit->Env->ABh->Prop} {e:Env} {h:ABh}
theorem AWw {id:Nat} {l:List Oper} (m:Nat) (A:List Alv) (hBx:∀ h h',B h->Ext h h'->B h') (hok:Ak8 l.toArray m (A.map Alv.d)=true) (hB:B h) (hal:Aog P B l.toArray m A) (H:HRf P B l.toArray (l.take m) e h (fun _=>True) (KA A h fun bl e' h'=>RL P B true l.toArray (l.drop (m + A.length)) (setO A (bl.map some) e') h' (Q .normal))):W P (.region id l.toArray true) Q e h:=by
 intro hmx n id a w Q' hb r hw hQ;subst hw;have S:=Ain hok;have hle:=S.le;simp only [List.size_toArray] at hle;have hsz:l.toArray.size=l.length:=by simp
 have Ad:∀ (s n:Nat),s + n<=l.length->(List.range' s n).map (fun i=>l.toArray[i]?)=((l.drop s).take n).map some:=by
   intro s n hn
   apply List.ext_getElem?
   intro k
   simp only [List.getElem?_map,List.getElem?_take,List.getElem?_drop]
   by_cases hk:k < n
   · rw [List.getElem?_range' hk,if_pos hk]
     have:s + k < l.length:=by omega
     simp [this]
   · rw [if_neg hk,List.getElem?_eq_none (by simp;omega)]
     rfl
 refine wp_region_draw fun t=>?_;simp only [Region.schedule,hmx,Bool.true_or,if_true]
 have hs:List.range l.toArray.size=List.range m ++ (List.range' m A.length ++ List.range' (m + A.length) (l.length - (m + A.length))):=by
   rw [hsz,List.range_eq_range',List.range_eq_range']
   rw [List.range'_append_1]
   have:List.range' m (A.length + (l.length - (m + A.length)))=List.range' (0 + m) (A.length + (l.length - (m + A.length))):=by rw [Nat.zero_add]
   rw [this,List.range'_append_1]
   congr 1
   omega
 have htl:((l.drop (m + A.length)).take (l.length - (m + A.length)))=l.drop (m + A.length):=List.take_of_length_le (by simp)
 have Hi:HI P B l.toArray (List.range m) e w.heap (fun _=>True) (KA A w.heap fun bl e' h'=>LI P B true l.toArray (List.range' (m + A.length) (l.length - (m + A.length))) (setO A (bl.map some) e') h' fun e2 h2=>Q .normal e2 h2/\ ∀ t,(∀ o∈l,o.dst≠some t)->e2 t=e t):=by
   refine Ak4 (List.range m) (l.take m) (by rw [List.range_eq_range'];have:=Ad 0 m (by omega);simpa using this) e w.heap _ ?_
   have frame:∀ (L:List Oper) (e:Env) (h:ABh) (N:Nat->Prop) (K K':Env->ABh->(Nat->Prop)->Prop),(∀ e1 h N,(∀ t,(∀ o∈L,o.dst≠some t)->e1 t=e t)->K e1 h N->K' e1 h N)->HRf P B l.toArray L e h N K->HRf P B l.toArray L e h N K':=by
     intro L
     induction L with
     | nil=>intro e h N K K' hK H h' E;exact hK _ _ _ (fun t _=>rfl) (H h' E)
     | cons o L ih=>
       intro e h N K K' hK H
       have put:∀ v t,(∀ o'∈o :: L,o'.dst≠some t)->e.put o.dst v t=e t:=fun v t ht=>by
         cases hd:o.dst with
         | none=>rfl
         | some d=>exact Env.set_other _ _ (fun he=>ht o (List.mem_cons_self ..) (by rw [hd,he]))
       simp only [HRf] at H ⊢
       cases he:AL9 o with
       | true=>simp only [he,cond_true] at H ⊢;exact fun h1 E=>(H h1 E).mono fun v h' hh=>⟨hh.1,ih _ _ _ _ _ (fun e1 h2 N2 hf hk=>hK _ _ _ (fun t ht=>(hf t fun o' ho'=>ht o' (List.mem_cons_of_mem _ ho')).trans (put v t ht)) hk) hh.2⟩
       | false=>simp only [he,cond_false] at H ⊢;exact H.mono fun v h' hh=>ih _ _ _ _ _ (fun e1 h2 N2 hf hk=>hK _ _ _ (fun t ht=>(hf t fun o' ho'=>ht o' (List.mem_cons_of_mem _ ho')).trans (put v t ht)) hk) hh
   refine frame _ _ _ _ _ _ (fun e1 h1 N1 hf hk bl b1 b2 b3=>?_) H
   refine AS6 _ (l.drop (m + A.length)) ?_ _ _ (RL.mono (fun e2 h2 hq=>⟨hq.1,fun t ht=>?_⟩) (RL.frame0 (hk bl b1 b2 b3)))
   · rw [Ad _ _ (by omega),htl]
   · rw [hq.2 t fun o ho=>ht o (List.mem_of_mem_drop ho),Aof,hf t fun o ho=>ht o (List.mem_of_mem_take ho)]
     intro x hx he
     obtain ⟨q,Aj⟩:=List.getElem?_of_mem hx
     obtain ⟨o,ho,hd⟩:=S.al q x Aj
     exact ht o (List.mem_of_getElem? (by simpa using ho)) (by rw [hd,he])
 refine wpAny_sound l.toArray.size t _ a _ (Ak7 (B:=B) (T:=List.range' (m + A.length) (l.length - (m + A.length))) S hb hBx hal (fun j hj=>(List.mem_range'_1.1 hj).1) l.toArray.size (List.range m) (List.range' m A.length) (List.replicate A.length none) (Array.replicate l.toArray.size false) e a { w with drawn:=w.drawn + 1 } (fun _=>True) (fun j hj=>List.mem_range.1 hj)
   (fun j hj=>by
     have:=List.mem_range'_1.1 hj
     exact ⟨this.1,this.2,by rw [List.getElem?_replicate,if_pos (by omega)]⟩)
   (fun q hq=>by
     rw [List.getElem?_replicate] at hq
     split at hq
     · exact List.mem_range'_1.2 ⟨by omega,by omega⟩
     · cases hq)
   (by simp) (by rw [<- hs];simp) (by rw [<- hs];exact AZm l.toArray) (by rw [Aik];exact r) (Ext.refl _) hB
   (fun q b x hq hx=>by rw [List.getElem?_replicate] at hq;split at hq <;> cases hq) (fun q q' b hq=>by rw [List.getElem?_replicate] at hq;split at hq <;> cases hq) (fun b _=>trivial) Hi
   (fun e' a' w' r' s k=>hQ e' a' w' r' ⟨s.os,s.tape,s.output⟩ k.1 fun t ht=>k.2 t fun o ho=>ht o (by simpa using ho)))
variable {K:Env->ABh->(Nat->Prop)->Prop} {N:Nat->Prop}
theorem h_l {o:Oper} {l:List Oper} (hl:AL9 o=false) (H:RL P B true ops [o] e h fun e' h'=>HRf P B ops l e' h' N K):HRf P B ops (o :: l) e h N K:=by
 simp only [HRf,hl,cond_false];exact H
theorem h_e {o:Oper} {l:List Oper} (hl:AL9 o=true) (H:∀ h1,Ext h h1->RL P B true ops [o] e h1 fun e' h'=>Ext h1 h'/\HRf P B ops l e' h' (fun b=>N b/\Off h1.size h'.size b) K):HRf P B ops (o :: l) e h N K:=by
 simp only [HRf,hl,cond_true];exact H
theorem Ag4 (H:∀ h1,Ext h h1->K e h1 N):HRf P B ops [] e h N K:=H
theorem Asy {a:Alv} {h0:ABh} {G:List Nat->Env->ABh->Prop} (H:∀ b,AEf a.t h b a.z->h0.size<=b->N b->G [b] e h):KA [a] h0 G e h N:=by
 intro bl hl hn hb
 match bl,hl with
 | [b],_=>
   obtain ⟨h1,h2,h3⟩:=hb 0 b a rfl rfl
   exact H b h1 h2 h3
theorem Asz {a c:Alv} {h0:ABh} {G:List Nat->Env->ABh->Prop} (H:∀ b d,AEf a.t h b a.z->AEf c.t h d c.z->b≠d->h0.size<=b->h0.size<=d->N b->N d->G [b,d] e h):KA [a,c] h0 G e h N:=by
 intro bl hl hn hb
 match bl,hl with
 | [b,d],_=>
   obtain ⟨h1,h2,h3⟩:=hb 0 b a rfl rfl
   obtain ⟨g1,g2,g3⟩:=hb 1 d c rfl rfl
   exact H b d h1 g1 (fun he=>by simp [he] at hn) h2 g2 h3 g3
theorem Afd {t bytes d:Nat} {z:Value} {ty:TypeId} {pos:String} {af:Array Edge} {l:List Value} (hz:ZeT P t z bytes) (hl:z.cells=l.toArray) (hBx:∀ h h',B h->Ext h h'->B h') (e:Env) (h:ABh) (hb:B h):GOp P B true ops ⟨some d,.alloc t,ty,pos,af,none⟩ e h fun e' h'=> ∃ b,e'=e.set d (ATj b)/\Ext h h'/\AEf t h' b l/\h.size<=b:=
  ADx (rest:=[]) (K:=fun e' h'=> ∃ b,e'=e.set d (ATj b)/\Ext h h'/\AEf t h' b l/\h.size<=b) l hz hl hb (fun h' E=>hBx _ _ hb E) fun b h' hx E S=>⟨b,rfl,E,hx,(S.lo 0 rfl b (by simp)).1⟩
theorem Ak9 {m:Nat} {a:Alv} {ty:TypeId} {pos:String} {af:Array Edge} {bytes:Nat} {z:Value} (ho:ops[m]? =some ⟨some a.d,.alloc a.t,ty,pos,af,none⟩) (hz:ZeT P a.t z bytes) (hl:z.cells=a.z.toArray) (hBx:∀ h h',B h->Ext h h'->B h'):Aog P B ops m [a]:=by
 intro q x o hq hoq e h hb
 match q,hq with
 | 0,hq=>
   cases hq
   rw [Nat.add_zero,ho] at hoq
   cases hoq
   exact Afd hz hl hBx e h hb
theorem Ala {m:Nat} {a c:Alv} {ty ty':TypeId} {pos pos':String} {af af':Array Edge} {bytes bytes':Nat} {z z':Value} (ho:ops[m]? =some ⟨some a.d,.alloc a.t,ty,pos,af,none⟩) (ho':ops[m + 1]? =some ⟨some c.d,.alloc c.t,ty',pos',af',none⟩) (hz:ZeT P a.t z bytes) (hl:z.cells=a.z.toArray) (hz':ZeT P c.t z' bytes') (hl':z'.cells=c.z.toArray) (hBx:∀ h h',B h->Ext h h'->B h'):Aog P B ops m [a,c]:=by
 intro q x o hq hoq e h hb
 match q,hq with
 | 0,hq=>
   cases hq
   rw [Nat.add_zero,ho] at hoq
   cases hoq
   exact Afd hz hl hBx e h hb
 | 1,hq=>
   cases hq
   rw [ho'] at hoq
   cases hoq
   exact Afd hz' hl' hBx e h hb
theorem Afe {h h':ABh} {b d:Nat} (h1:h.size<=b) (h2:h.size<=d) (h3:b < h'.size) (h4:d < h'.size) (hne:b≠d):Sp h' h.size [[b],[d]]:=⟨by simp [hne],fun x hx=>by simp at hx;omega⟩
end
end Go.QF
namespace Go.QF
open Go
def AWo (h:ABh) (v:Value) (n d:Int):Prop:= ∃ c1 c2,v= .agg (c1 ++ c2).toArray/\cZ.rep h n c1/\cZ.rep h d c2
theorem ADl {h h':ABh} {n d:Int} {c1 c2:List Value} (H1:cZ.rep h n c1) (H2:cZ.rep h' d c2):(c1 ++ c2).length=4:=by
 rw [List.length_append,cZ.klen H1,cZ.klen H2];rfl
theorem AKw {h h':ABh} {n d:Int} {c1 c2:List Value} (H1:cZ.rep h n c1) (H2:cZ.rep h' d c2):∀ u∈c1 ++ c2,isOne u=true:=fun u hu=>
  (List.mem_append.1 hu).elim (cZ.one H1 u) (cZ.one H2 u)
theorem AEf.aggL {t:Nat} {h:ABh} {b:Nat} {l l2:List Value} (H:AEf t h b (l ++ l2)):∀ i u,l[i]? =some u->AEs h ((⟨b,0,none⟩:Addr).add i)=some u:=by
 intro i u hu;refine H.agg i u ?_;rw [List.getElem?_append_left (List.getElem?_eq_some_iff.1 hu).1];exact hu
theorem AEf.aggR {t:Nat} {h:ABh} {b:Nat} {l l2:List Value} (H:AEf t h b (l ++ l2)) (hl:l.length=2):∀ i u,l2[i]? =some u->AEs h ((⟨b,2,none⟩:Addr).add i)=some u:=by
 intro i u hu;have h1:=H.cell (i:=2 + i) (u:=u) (by rw [List.getElem?_append_right (by omega),hl,show 2 + i - 2=i by omega];exact hu);rw [AGm];exact h1
theorem Ac0 {h:ABh} {z:Int} {cs:List Value} (H:cZ.rep h z cs):∃ b a n c,cs=[.bool b,.slice a n c]:=by
 obtain ⟨hl,n,s,L,h1,h2,h3⟩:=H;obtain ⟨a,m,c,rfl,_⟩:=h2.cap;refine ⟨n,a,m,c,?_⟩;injection h1 with h1;have:=congrArg Array.toList h1;simpa using this
end Go.QF
namespace Go.Proofs.YtiegjkmfpcgjjaaGreatDoor
open Go Go.QF
theorem AGa:AgT Tryz.prog 120 4:=Aag Tryz.underlying120 rfl (by kernel_rfl)
theorem AN4:ZeT Tryz.prog 120 (.agg #[.bool false,.slice none 0 0,.bool false,.slice none 0 0]) 64:=ASh (by kernel_rfl)
theorem AWx:FdT Tryz.prog 120 0 0 109:=⟨_,_,Tryz.underlying120,rfl,rfl,rfl⟩
theorem AS7:FdT Tryz.prog 120 1 2 109:=⟨_,_,Tryz.underlying120,rfl,rfl,rfl⟩
theorem Aff (w:World):(Instr.build 120 #[]).run Tryz.prog w= .ok (.agg #[.bool false,.slice none 0 0,.bool false,.slice none 0 0]) w:=by kernel_rfl
theorem Afg (b b':Bool) (a a':Option Addr) (n n' c c':Nat) (w:World):(Instr.build 120 #[(0,.agg #[.bool b,.slice a n c]),(1,.agg #[.bool b',.slice a' n' c'])]).run Tryz.prog w= .ok (.agg #[.bool b,.slice a n c,.bool b',.slice a' n' c']) w:=by kernel_rfl
theorem AS8 {h h':ABh} {n d:Int} {c1 c2:List Value} (H1:cZ.rep h n c1) (H2:cZ.rep h' d c2) (w:World):(Instr.build 120 #[(0,.agg c1.toArray),(1,.agg c2.toArray)]).run Tryz.prog w= .ok (.agg (c1 ++ c2).toArray) w:=by
 obtain ⟨b,a,n,c,rfl⟩:=Ac0 H1;obtain ⟨b',a',n',c',rfl⟩:=Ac0 H2;exact Afg _ _ _ _ _ _ _ _ w
end Go.Proofs.YtiegjkmfpcgjjaaGreatDoor
namespace Go.Proofs.YtiegjkmfpcgjjaaGreatDoor
open Go Go.QF
set_option maxRecDepth 100000
structure Asr where
  F:List Nat
  P:ABh->Prop
  up:∀ {G:List Nat} {h h':ABh},UpT G h h'->(∀ b∈F,b ∉ G)->P h->P h'
def aZ (cs:List Value) (x:Int):Asr:=⟨[],fun h=>cZ.rep h x cs,fun U _ H=>cZ.upT H U⟩
def aB (t b:Nat) (l:List Value):Asr:=⟨[b],fun h=>AEf t h b l,fun U d H=>H.upT U d⟩
def aO {α:Type} (c:Cod α) (el:Nat) (F:List Nat) (v:Value) (x:List α):Asr:=⟨F,fun h=>OwC c el h F v x,fun U d H=>H.upT U d⟩
def aO2 {α:Type} (c:Cod α) (er el:Nat) (F:List Nat) (Gs:List (List Nat)) (rs:List Value) (v:Value) (x:List (List α)):Asr:=⟨F,fun h=>AFg c er el h F Gs rs v x,fun U d H=>H.upT U d⟩
def aC (p:Prop):Asr:=⟨[],fun _=>p,fun _ _ H=>H⟩
def ASq (h:ABh):List Asr->Prop
  | []=>True
  | a :: l=>a.P h/\ASq h l
def fps:List Asr->List (List Nat)
  | []=>[]
  | a :: l=>a.F :: fps l
def ALr:List Asr->Nat->Asr
  | [],_=>aC True
  | a :: _,0=>a
  | _ :: l,i + 1=>ALr l i
def AI0 (l:List Asr):List Nat->List Asr
  | []=>[]
  | i :: is=>ALr l i :: AI0 l is
theorem Aoh (l m:List Asr):fps (l ++ m)=fps l ++ fps m:=by
 induction l with
 | nil=>rfl
 | cons a l ih=>simp [fps,ih]
theorem AL0 {l:List Asr} {i:Nat} {a:Asr} (h:l[i]? =some a):(fps l)[i]? =some a.F:=by
 induction l generalizing i with
 | nil=>simp at h
 | cons b l ih=>
   cases i with
   | zero=>simp at h;subst h;rfl
   | succ i=>exact ih (by simpa using h)
theorem AUu {l:List Asr} {i:Nat} {a:Asr}:fps (l.set i a)=(fps l).set i a.F:=by
 induction l generalizing i with
 | nil=>rfl
 | cons b l ih=>
   cases i with
   | zero=>rfl
   | succ i=>simp [fps,ih]
theorem Aoi (l:List Asr) (i:Nat):(ALr l i).F=((fps l)[i]?).getD []:=by
 induction l generalizing i with
 | nil=>rfl
 | cons a l ih=>
   cases i with
   | zero=>rfl
   | succ i=>exact ih i
theorem Aoj (l:List Asr) (is:List Nat):fps (AI0 l is)=is.map fun i=>((fps l)[i]?).getD []:=by
 induction is with
 | nil=>rfl
 | cons i is ih=>simp [AI0,fps,ih,Aoi]
theorem AMp {h:ABh} {l:List Asr} (H:ASq h l) {i:Nat} {a:Asr} (e:l[i]? =some a):a.P h:=by
 induction l generalizing i with
 | nil=>simp at e
 | cons b l ih=>
   cases i with
   | zero=>simp at e;subst e;exact H.1
   | succ i=>exact ih H.2 (by simpa using e)
theorem Alb {h:ABh} {l:List Asr} (H:ASq h l) (i:Nat):(ALr l i).P h:=by
 induction l generalizing i with
 | nil=>exact trivial
 | cons b l ih=>
   cases i with
   | zero=>exact H.1
   | succ i=>exact ih H.2 i
theorem Alc {h:ABh} {l m:List Asr} (H:ASq h l) (K:ASq h m):ASq h (l ++ m):=by
 induction l with
 | nil=>exact K
 | cons b l ih=>exact ⟨H.1,ih H.2⟩
theorem Ag5 {h h':ABh} {l:List Asr} {G:List Nat} (H:ASq h l) (U:UpT G h h') (d:∀ F∈fps l,∀ b∈F,b ∉ G):ASq h' l:=by
 induction l with
 | nil=>exact trivial
 | cons b l ih=>exact ⟨b.up U (d _ (by simp [fps])) H.1,ih H.2 fun F hF=>d F (by simp [fps,hF])⟩
theorem Ac1 {h h':ABh} {l:List Asr} {i:Nat} {a a':Asr} {lo:Nat} (H:ASq h l) (S:Sp h lo (fps l)) (e:l[i]? =some a) (U:UpT a.F h h') (Ha:a'.P h'):ASq h' (l.set i a'):=by
 have key:∀ (m:List Asr) (q:Nat),(∀ j x,m[j]? =some x->j≠q-> ∀ b∈x.F,b ∉ a.F)->ASq h m->ASq h' (m.set q a'):=by
   intro m
   induction m with
   | nil=>intro q _ _;exact trivial
   | cons x m ih=>
     intro q hd hm
     cases q with
     | zero=>
       refine ⟨Ha,Ag5 hm.2 U fun F hF b hb=>?_⟩
       have:∃ (j:Nat) (y:Asr),m[j]? =some y/\y.F=F:=by
         clear ih hd hm e
         induction m with
         | nil=>simp [fps] at hF
         | cons y m ih=>
           simp only [fps,List.mem_cons] at hF
           rcases hF with rfl | hF
           · exact ⟨0,y,rfl,rfl⟩
           · obtain ⟨j,z,h1,h2⟩:=ih hF
             exact ⟨j + 1,z,by simpa using h1,h2⟩
       obtain ⟨j,y,h1,rfl⟩:=this
       exact hd (j + 1) y (by simpa using h1) (by omega) b hb
     | succ q=>
       refine ⟨x.up U (hd 0 x rfl (by omega)) hm.1,ih q (fun j y hj hn=>hd (j + 1) y (by simpa using hj) (by omega)) hm.2⟩
 exact key l i (fun j x hj hn=>S.dj j i (AL0 hj) (AL0 e) hn) H
theorem AZq {h:ABh} {l:List Asr} (H:ASq h l) (j:Nat):ASq h (l.set j (aC True)):=by
 induction l generalizing j with
 | nil=>exact trivial
 | cons a l ih=>
   cases j with
   | zero=>exact ⟨trivial,H.2⟩
   | succ j=>exact ⟨H.1,ih H.2 j⟩
theorem _root_.Go.QF.Sp.appF {h h':ABh} {lo:Nat} {Fs Ks:List (List Nat)} (S:Sp h lo Fs) (S':Sp h' h.size Ks) (hs:h.size<=h'.size) (hl:lo<=h.size):Sp h' lo (Ks ++ Fs):=by
 have A:=S.app S' hs hl;refine ⟨?_,fun b hb=>A.2 b (by simp only [List.flatten_append,List.mem_append] at hb ⊢;exact hb.symm)⟩;have:=A.1;simp only [List.flatten_append] at this ⊢;exact (List.perm_append_comm.nodup_iff).1 this
theorem _root_.Go.QF.Sp.put2 {h h':ABh} {lo:Nat} {Fs:List (List Nat)} (S:Sp h lo Fs) (i j:Nat) {F R F':List Nat} (hi:Fs[i]? =some F) (hj:Fs[j]? =some R) (hij:i≠j) (hn:F'.Nodup) (hs:h.size<=h'.size) (hl:lo<=h.size) (hF:∀ x∈F',x < h'.size) (hsub:∀ x∈F',x∈F∨x∈R∨h.size<=x):Sp h' lo ((Fs.set j []).set i F'):=by
 have S1:=S.put j hj List.nodup_nil (Nat.le_refl _) hl (fun x hx=>by simp at hx) (fun x hx=>by simp at hx)
 have at':∀ {k:Nat} {G:List Nat} {x:Nat},(Fs.set j [])[k]? =some G->x∈G->k≠j/\Fs[k]? =some G:=fun {k G x} hG hx=>by
   by_cases hk:k=j
   · subst hk
     have h1:=(List.getElem?_eq_some_iff.1 hj).1
     rw [List.getElem?_set_self h1] at hG
     cases hG;simp at hx
   · rw [List.getElem?_set_ne (Ne.symm hk)] at hG;exact ⟨hk,hG⟩
 refine ⟨AMn S1.1 hn fun x hx k G hk hG hxG=>?_,fun b hb=>?_⟩
 ·obtain ⟨hkj,hG⟩:=at' hG hxG;rcases hsub x hx with h1 | h1 | h1
  ·exact S.dj i k hi hG (fun he=>hk he.symm) x h1 hxG
  ·exact S.dj j k hj hG (fun he=>hkj he.symm) x h1 hxG
  ·have:=(S.lo k hG x hxG).2;omega
 ·rcases AJ1 hb with h1 | ⟨k,G,hk,hG,hb⟩
  ·refine ⟨?_,hF b h1⟩;rcases hsub b h1 with h2 | h2 | h2
   ·exact (S.lo i hi b h2).1
   ·exact (S.lo j hj b h2).1
   ·omega
  ·obtain ⟨_,hG⟩:=at' hG hb;have:=S.lo k hG b hb;exact ⟨this.1,by omega⟩
def Rep (i:Nat) (l:List Asr) (a a':Asr) (l':List Asr):Prop:=l[i]? =some a/\l'=l.set i a'
theorem p0 {a a':Asr} {l:List Asr}:Rep 0 (a :: l) a a' (a' :: l):=⟨rfl,rfl⟩
theorem p1 {x0 a a':Asr} {l:List Asr}:Rep 1 (x0 :: a :: l) a a' (x0 :: a' :: l):=⟨rfl,rfl⟩
theorem p2 {x0 x1 a a':Asr} {l:List Asr}:Rep 2 (x0 :: x1 :: a :: l) a a' (x0 :: x1 :: a' :: l):=⟨rfl,rfl⟩
theorem p3 {x0 x1 x2 a a':Asr} {l:List Asr}:Rep 3 (x0 :: x1 :: x2 :: a :: l) a a' (x0 :: x1 :: x2 :: a' :: l):=⟨rfl,rfl⟩
theorem p4 {x0 x1 x2 x3 a a':Asr} {l:List Asr}:Rep 4 (x0 :: x1 :: x2 :: x3 :: a :: l) a a' (x0 :: x1 :: x2 :: x3 :: a' :: l):=⟨rfl,rfl⟩
theorem p5 {x0 x1 x2 x3 x4 a a':Asr} {l:List Asr}:Rep 5 (x0 :: x1 :: x2 :: x3 :: x4 :: a :: l) a a' (x0 :: x1 :: x2 :: x3 :: x4 :: a' :: l):=⟨rfl,rfl⟩
theorem p6 {x0 x1 x2 x3 x4 x5 a a':Asr} {l:List Asr}:Rep 6 (x0 :: x1 :: x2 :: x3 :: x4 :: x5 :: a :: l) a a' (x0 :: x1 :: x2 :: x3 :: x4 :: x5 :: a' :: l):=⟨rfl,rfl⟩
theorem p7 {x0 x1 x2 x3 x4 x5 x6 a a':Asr} {l:List Asr}:Rep 7 (x0 :: x1 :: x2 :: x3 :: x4 :: x5 :: x6 :: a :: l) a a' (x0 :: x1 :: x2 :: x3 :: x4 :: x5 :: x6 :: a' :: l):=⟨rfl,rfl⟩
theorem p8 {x0 x1 x2 x3 x4 x5 x6 x7 a a':Asr} {l:List Asr}:Rep 8 (x0 :: x1 :: x2 :: x3 :: x4 :: x5 :: x6 :: x7 :: a :: l) a a' (x0 :: x1 :: x2 :: x3 :: x4 :: x5 :: x6 :: x7 :: a' :: l):=⟨rfl,rfl⟩
theorem p9 {x0 x1 x2 x3 x4 x5 x6 x7 x8 a a':Asr} {l:List Asr}:Rep 9 (x0 :: x1 :: x2 :: x3 :: x4 :: x5 :: x6 :: x7 :: x8 :: a :: l) a a' (x0 :: x1 :: x2 :: x3 :: x4 :: x5 :: x6 :: x7 :: x8 :: a' :: l):=⟨rfl,rfl⟩
theorem p10 {x0 x1 x2 x3 x4 x5 x6 x7 x8 x9 a a':Asr} {l:List Asr}:Rep 10 (x0 :: x1 :: x2 :: x3 :: x4 :: x5 :: x6 :: x7 :: x8 :: x9 :: a :: l) a a' (x0 :: x1 :: x2 :: x3 :: x4 :: x5 :: x6 :: x7 :: x8 :: x9 :: a' :: l):=⟨rfl,rfl⟩
theorem p13 {x0 x1 x2 x3 x4 x5 x6 x7 x8 x9 Ak Am Ao a a':Asr} {l:List Asr}:Rep 13 (x0 :: x1 :: x2 :: x3 :: x4 :: x5 :: x6 :: x7 :: x8 :: x9 :: Ak :: Am :: Ao :: a :: l) a a' (x0 :: x1 :: x2 :: x3 :: x4 :: x5 :: x6 :: x7 :: x8 :: x9 :: Ak :: Am :: Ao :: a' :: l):=⟨rfl,rfl⟩
structure Kst (h0 h:ABh) (l:List Asr):Prop where
  x:Ext h0 h
  s:Sp h h0.size (fps l)
  p:ASq h l
namespace Kst
variable {h0 h h':ABh} {l l':List Asr}
abbrev L (_:Kst h0 h l):List Asr:=l
theorem k0 (h:ABh):Kst h h []:=⟨Ext.refl h,Aq5 _ _,trivial⟩
theorem z (k:Kst h0 h l) {i:Nat} {cs:List Value} {x:Int} (e:Rep i l (aZ cs x) (aZ cs x) l'):cZ.rep h x cs:=AMp k.p e.1
theorem b (k:Kst h0 h l) {i t b:Nat} {c:List Value} (e:Rep i l (aB t b c) (aB t b c) l'):AEf t h b c:=AMp k.p e.1
theorem o {α:Type} {c:Cod α} (k:Kst h0 h l) {i el:Nat} {F:List Nat} {v:Value} {x:List α} (e:Rep i l (aO c el F v x) (aO c el F v x) l'):OwC c el h F v x:=AMp k.p e.1
theorem o2 {α:Type} {c:Cod α} (k:Kst h0 h l) {i er el:Nat} {F:List Nat} {Gs:List (List Nat)} {rs:List Value} {v:Value} {x:List (List α)} (e:Rep i l (aO2 c er el F Gs rs v x) (aO2 c er el F Gs rs v x) l'):AFg c er el h F Gs rs v x:=AMp k.p e.1
theorem c (k:Kst h0 h l) {i:Nat} {p:Prop} (e:Rep i l (aC p) (aC p) l'):p:=AMp k.p e.1
theorem zx (k:Kst h0 h l) {cs:List Value} {x:Int} (H:cZ.rep h0 x cs):cZ.rep h x cs:=cZ.upT H k.x.upT
theorem lo (k:Kst h0 h l) {i:Nat} {a:Asr} (e:Rep i l a a l'):∀ b∈a.F,h0.size<=b:=k.s.loAll i (AL0 e.1)
theorem dj {l2:List Asr} (k:Kst h0 h l) {i j:Nat} {a b:Asr} (e:Rep i l a a l') (f:Rep j l b b l2) (hij:i≠j):∀ x∈a.F,x ∉ b.F:=k.s.dj i j (AL0 e.1) (AL0 f.1) hij
theorem e (k:Kst h0 h l) (E:Ext h h'):Kst h0 h' l:=⟨k.x.trans E,k.s.keep E.1,Ag5 k.p E.upT fun _ _ _ _=>by simp⟩
theorem n (k:Kst h0 h l) (E:Ext h h') (m:List Asr) (S:Sp h' h.size (fps m)) (P:ASq h' m):Kst h0 h' (m ++ l):=⟨k.x.trans E,by rw [Aoh];exact k.s.appF S E.1 k.x.1,Alc P (k.e E).p⟩
theorem nb (k:Kst h0 h l) (E:Ext h h') {t b:Nat} {c:List Value} (S:Sp h' h.size [[b]]) (V:AEf t h' b c):Kst h0 h' (aB t b c :: l):=k.n E [aB t b c] S ⟨V,trivial⟩
theorem nb2 (k:Kst h0 h l) (E:Ext h h') {t b t2 b2:Nat} {c c2:List Value} (S:Sp h' h.size [[b],[b2]]) (V:AEf t h' b c) (V2:AEf t2 h' b2 c2):Kst h0 h' (aB t b c :: aB t2 b2 c2 :: l):=k.n E [aB t b c,aB t2 b2 c2] S ⟨V,V2,trivial⟩
theorem no {α:Type} {c:Cod α} (k:Kst h0 h l) (E:Ext h h') {el:Nat} {F:List Nat} {v:Value} {x:List α} (S:Sp h' h.size [F]) (V:OwC c el h' F v x):Kst h0 h' (aO c el F v x :: l):=k.n E [aO c el F v x] S ⟨V,trivial⟩
theorem no2 {α:Type} {c:Cod α} (k:Kst h0 h l) (E:Ext h h') {er el:Nat} {F:List Nat} {Gs:List (List Nat)} {rs:List Value} {v:Value} {x:List (List α)} (S:Sp h' h.size [F]) (V:AFg c er el h' F Gs rs v x):Kst h0 h' (aO2 c er el F Gs rs v x :: l):=k.n E [aO2 c er el F Gs rs v x] S ⟨V,trivial⟩
theorem az (k:Kst h0 h l) {cs:List Value} {x:Int} (Z:cZ.rep h x cs):Kst h0 h (aZ cs x :: l):=k.n (Ext.refl h) [aZ cs x] (by exact ⟨by simp [fps,aZ],fun b hb=>by simp [fps,aZ] at hb⟩) ⟨Z,trivial⟩
theorem anil {α:Type} (c:Cod α) (el:Nat) (k:Kst h0 h l):Kst h0 h (aO c el [] (.slice none 0 0) [] :: l):=k.n (Ext.refl h) [aO c el [] (.slice none 0 0) []] (by exact ⟨by simp [fps,aO],fun b hb=>by simp [fps,aO] at hb⟩) ⟨Agr c el h,trivial⟩
theorem anil2 {α:Type} (c:Cod α) (er el:Nat) (k:Kst h0 h l):Kst h0 h (aO2 c er el [] [] [] (.slice none 0 0) [] :: l):=k.n (Ext.refl h) [aO2 c er el [] [] [] (.slice none 0 0) []] (by exact ⟨by simp [fps,aO2],fun b hb=>by simp [fps,aO2] at hb⟩) ⟨Akq c er el h,trivial⟩
theorem u (k:Kst h0 h l) {i:Nat} {a a':Asr} (e:Rep i l a a' l') (U:UpT a.F h h') (Ha:a'.P h') (hn:a'.F.Nodup) (hF:∀ x∈a'.F,x < h'.size) (hs:∀ x∈a'.F,x∈a.F∨h.size<=x):Kst h0 h' l':=by
 obtain ⟨e,rfl⟩:=e;exact ⟨k.x.thenT U (k.s.loAll i (AL0 e)),by rw [AUu];exact k.s.put i (AL0 e) hn U.size k.x.1 hF hs,Ac1 k.p k.s e U Ha⟩
theorem ub (k:Kst h0 h l) {i t b:Nat} {c c':List Value} (e:Rep i l (aB t b c) (aB t b c') l') (U:UpT [b] h h') (V:AEf t h' b c'):Kst h0 h' l':=k.u e U V (by simp [aB]) (fun x hx=>by simp [aB] at hx;subst hx;exact V.lt) fun x hx=> .inl hx
theorem sb (k:Kst h0 h l) {i t b:Nat} {c c':List Value} (e:Rep i l (aB t b c) (aB t b c') l') (U:Upd (· =b) h h') (V:AEf t h' b c') (ht:Nat.beq t 147=false):Kst h0 h' l':=k.ub e (V.stA U (AGl (AMp k.p e.1) ht) ht) V
theorem uo {α:Type} {c:Cod α} (k:Kst h0 h l) {i el:Nat} {F F':List Nat} {v v':Value} {x x':List α} (e:Rep i l (aO c el F v x) (aO c el F' v' x') l') (U:UpT F h h') (V:OwC c el h' F' v' x') (hs:∀ z∈F',z∈F∨h.size<=z):Kst h0 h' l':=k.u e U V V.nodup V.lt hs
theorem uO {α:Type} {c:Cod α} (k:Kst h0 h l) {i el:Nat} {F:List Nat} {v v':Value} {x x':List α} (e:Rep i l (aO c el F v x) (aO c el F v' x') l') (U:UpT F h h') (V:OwC c el h' F v' x'):Kst h0 h' l':=k.uo e U V fun _ h=> .inl h
theorem uo2 {α:Type} {c:Cod α} (k:Kst h0 h l) {i er el:Nat} {F F':List Nat} {Gs Gs':List (List Nat)} {rs rs':List Value} {v v':Value} {x x':List (List α)} (e:Rep i l (aO2 c er el F Gs rs v x) (aO2 c er el F' Gs' rs' v' x') l') (U:UpT F h h') (V:AFg c er el h' F' Gs' rs' v' x') (hs:∀ z∈F',z∈F∨h.size<=z):Kst h0 h' l':=k.u e U V V.nodup V.lt hs
theorem uO2 {α:Type} {c:Cod α} (k:Kst h0 h l) {i er el:Nat} {F:List Nat} {Gs Gs':List (List Nat)} {rs rs':List Value} {v v':Value} {x x':List (List α)} (e:Rep i l (aO2 c er el F Gs rs v x) (aO2 c er el F Gs' rs' v' x') l') (U:UpT F h h') (V:AFg c er el h' F Gs' rs' v' x'):Kst h0 h' l':=k.uo2 e U V fun _ h=> .inl h
theorem sel (k:Kst h0 h l) (is:List Nat) (hn:is.Nodup):Kst h0 h (AI0 l is):=
  ⟨k.x,by rw [Aoj];exact k.s.sel is hn,by
    have:∀ is:List Nat,ASq h (AI0 l is):=fun is=>by
      induction is with
      | nil=>exact trivial
      | cons i is ih=>exact ⟨Alb k.p i,ih⟩
    exact this is⟩
theorem m (k:Kst h0 h l) {i j:Nat} {l1:List Asr} {a a' r:Asr} (er:Rep j l r (aC True) l1) (e:Rep i l1 a a' l') (hij:i≠j) (U:UpT a.F h h') (Ha:a'.P h') (hn:a'.F.Nodup) (hF:∀ x∈a'.F,x < h'.size) (hs:∀ x∈a'.F,x∈a.F ++ r.F∨h.size<=x):Kst h0 h' l':=by
  obtain ⟨er,rfl⟩:=er;obtain ⟨e',rfl⟩:=e;have e:l[i]? =some a:=by rw [List.getElem?_set_ne (Ne.symm hij)] at e';exact e'
  have S1:Sp h h0.size (fps (l.set j (aC True))):=by
    rw [AUu];exact k.s.put j (AL0 er) List.nodup_nil (Nat.le_refl _) k.x.1 (fun x hx=>by simp [aC] at hx) (fun x hx=>by simp [aC] at hx)
  refine ⟨k.x.thenT U (k.s.loAll i (AL0 e)),?_,Ac1 (AZq k.p j) S1 e' U Ha⟩;rw [AUu,AUu];exact k.s.put2 i j (AL0 e) (AL0 er) hij hn U.size k.x.1 hF fun x hx=>(hs x hx).elim (fun h=>(List.mem_append.1 h).elim .inl fun h=> .inr (.inl h)) fun h=> .inr (.inr h)
theorem m2 {α:Type} {c:Cod α} (k:Kst h0 h l) {i j:Nat} {l1:List Asr} {er el:Nat} {F F' R:List Nat} {Gs Gs':List (List Nat)} {rs rs':List Value} {v v' w:Value} {x x':List (List α)} {y:List α} (er':Rep j l (aO c el R w y) (aC True) l1) (e:Rep i l1 (aO2 c er el F Gs rs v x) (aO2 c er el F' Gs' rs' v' x') l') (hij:i≠j) (U:UpT F h h') (V:AFg c er el h' F' Gs' rs' v' x') (hs:∀ z∈F',z∈F ++ R∨h.size<=z):Kst h0 h' l':=k.m er' e hij U V V.nodup V.lt hs
end Kst
end Go.Proofs.YtiegjkmfpcgjjaaGreatDoor
namespace Go.Proofs.YtiegjkmfpcgjjaaGreatDoor
open Go Go.QF
set_option maxRecDepth 100000
set_option maxHeartbeats 4000000
abbrev LnN:=List (List Nat)
abbrev LnA:=List Nat
abbrev LvA:=List Value
abbrev LiI:=List (List Int)
abbrev LiA:=List Int
theorem ABk {α:Type _} {a b:α} (h:some a=some b):a=b:=Option.some.inj h
theorem tt2 {α:Sort _} {β:α->Sort _}:∀ x,β x->True:=fun _ _=>trivial
def AD9 (fuel:Nat) (a1 a5:Int):Option Int:=
  ((AUt fuel a1 a5).bind fun (Ac,Ad,Ae)=>(some Ac))
theorem AH5 {fuel:Nat} {h:ABh} {Ag:Value} {a1:Int} {Ai:Value} {a5 r:Int} (H3:ZZ h Ag a1) (H7:ZZ h Ai a5) (hp:AD9 fuel a1 a5=some r):AB7 Tryz.prog 110 #[Ag,Ai] h (fun x h'=>Ext h h'/\ ∃ (x0:Value),x=x0/\ZZ h' x0 r):=by
 unfold AD9 at hp;obtain ⟨Am,rfl,Ao⟩:=H3.cs;obtain ⟨Ap,rfl,Aq⟩:=H7.cs;refine cwf (l:=[_,_]) Tryz.func110 rfl rfl (ABi (AHi Am trivial tt2 rfl rfl fun b9 Bz Aw Ax Ay=>AHi Ap trivial tt2 rfl rfl fun B1 B2 Az A3 A4=>ADx [.bool false,.slice none 0 0] AJ3 rfl trivial tt2 fun B3 B4 A5 A6 A7=>AMg ?_));have Aa:=(((Kst.k0 h).nb Ax Ay Aw).nb A3 A4 Az).nb A6 A7 A5;refine AG6 Am ACp (cZ.klen (Aa.zx Ao)) rfl (Aa.b p2).agg (AG6 Ap ACp (cZ.klen (Aa.zx Aq)) rfl (Aa.b p1).agg ?_);obtain ⟨⟨B5,B6,B7⟩,A8,Ar⟩:=ABl hp;dsimp only at Ar;refine ACu rfl (AZo (Aa.zx Ao).2 (Aa.zx Aq).2 A8) fun B8 B9 A9 Ba=>?_;obtain ⟨Ca,Cb,rfl,Bb,Bc⟩:=Ba;obtain ⟨Af,rfl,Be⟩:=Bb.cs;obtain ⟨Bf,rfl,Bg⟩:=Bc.cs;refine Wk (ACz rfl rfl (ACz rfl rfl (ACz rfl rfl (ADx [.bool false,.slice none 0 0] AJ3 rfl trivial tt2 fun Cd Ce Bh Bi Bj=>ADx [.bool false,.slice none 0 0] AJ3 rfl trivial tt2 fun Cf Bl Bm Bn Bo=>?_))));have Ac:=((((Aa.e A9).az Be).az Bg).nb Bi Bj Bh).nb Bn Bo Bm;refine ADi Af ACp (cZ.klen (Ac.z p3)) (cZ.klen (ACj Bl)) rfl rfl (cZ.one (Ac.z p3)) (Ac.b p1) fun Bp Bq Br=>?_;have Ad:=Ac.sb p1 Br Bq rfl;refine ADi Bf ACp (cZ.klen (Ad.z p2)) (cZ.klen (ACj Bp)) rfl rfl (cZ.one (Ad.z p2)) (Ad.b p0) fun Bt Bu Bv=>ACq ?_;have Ab:=Ad.sb p0 Bv Bu rfl;refine AG6 Af ACp (cZ.klen (Ab.z p3)) rfl (Ab.b p1).agg (ADi Af ACp (cZ.klen (Ab.z p3)) (cZ.klen (ACj Bt)) rfl rfl (cZ.one (Ab.z p3)) (Ab.b p4) fun Cg Bw Bx=>ABo (ABr ?_));have Ae:=Ab.sb p4 Bx Bw rfl;obtain rfl:=ABk Ar;exact ⟨_,AFi ACp (cZ.klen (Ae.z p3)) rfl (Ae.b p4),Ae.x,_,rfl,(Ae.z p3).2⟩
def AHu (fuel:Nat) (a1 a5:Int):Option Int:=
  ((AUt fuel a1 a5).bind fun (Ad,Ac,Ae)=>(some Ac))
theorem ARj {fuel:Nat} {h:ABh} {Ag:Value} {a1:Int} {Ai:Value} {a5 r:Int} (H3:ZZ h Ag a1) (H7:ZZ h Ai a5) (hp:AHu fuel a1 a5=some r):AB7 Tryz.prog 135 #[Ag,Ai] h (fun x h'=>Ext h h'/\ ∃ (x0:Value),x=x0/\ZZ h' x0 r):=by
 unfold AHu at hp;obtain ⟨Am,rfl,Ao⟩:=H3.cs;obtain ⟨Ap,rfl,Aq⟩:=H7.cs;refine cwf (l:=[_,_]) Tryz.func135 rfl rfl (ABi (AHi Am trivial tt2 rfl rfl fun b9 Bz Aw Ax Ay=>AHi Ap trivial tt2 rfl rfl fun B1 B2 Az A3 A4=>ADx [.bool false,.slice none 0 0] AJ3 rfl trivial tt2 fun B3 B4 A5 A6 A7=>AMg ?_));have Aa:=(((Kst.k0 h).nb Ax Ay Aw).nb A3 A4 Az).nb A6 A7 A5;refine AG6 Am ACp (cZ.klen (Aa.zx Ao)) rfl (Aa.b p2).agg (AG6 Ap ACp (cZ.klen (Aa.zx Aq)) rfl (Aa.b p1).agg ?_);obtain ⟨⟨B5,B6,B7⟩,A8,Ar⟩:=ABl hp;dsimp only at Ar;refine ACu rfl (AZo (Aa.zx Ao).2 (Aa.zx Aq).2 A8) fun B8 B9 A9 Ba=>?_;obtain ⟨Ca,Cb,rfl,Bb,Bc⟩:=Ba;obtain ⟨Be,rfl,Bf⟩:=Bb.cs;obtain ⟨Af,rfl,Bg⟩:=Bc.cs;refine Wk (ACz rfl rfl (ACz rfl rfl (ACz rfl rfl (ADx [.bool false,.slice none 0 0] AJ3 rfl trivial tt2 fun Cd Ce Bh Bi Bj=>ADx [.bool false,.slice none 0 0] AJ3 rfl trivial tt2 fun Cf Bl Bm Bn Bo=>?_))));have Ac:=((((Aa.e A9).az Bf).az Bg).nb Bi Bj Bh).nb Bn Bo Bm;refine ADi Be ACp (cZ.klen (Ac.z p3)) (cZ.klen (ACj Bl)) rfl rfl (cZ.one (Ac.z p3)) (Ac.b p1) fun Bp Bq Br=>?_;have Ad:=Ac.sb p1 Br Bq rfl;refine ADi Af ACp (cZ.klen (Ad.z p2)) (cZ.klen (ACj Bp)) rfl rfl (cZ.one (Ad.z p2)) (Ad.b p0) fun Bt Bu Bv=>ACq ?_;have Ab:=Ad.sb p0 Bv Bu rfl;refine AG6 Af ACp (cZ.klen (Ab.z p2)) rfl (Ab.b p0).agg (ADi Af ACp (cZ.klen (Ab.z p2)) (cZ.klen (ACj Bt)) rfl rfl (cZ.one (Ab.z p2)) (Ab.b p4) fun Cg Bw Bx=>ABo (ABr ?_));have Ae:=Ab.sb p4 Bx Bw rfl;obtain rfl:=ABk Ar;exact ⟨_,AFi ACp (cZ.klen (Ae.z p2)) rfl (Ae.b p4),Ae.x,_,rfl,(Ae.z p2).2⟩
def AJq (fuel:Nat) (a1 a2 Aa:Int) (Ac:LiI):Option ((Int × LiI) ⊕ ((LiI))):=
  (if Aa < ((List.replicate (Int.toNat a1) ([]:List Int)).length:Int) then (if 0<=a2/\a2<=100000000 then ((gI Ac Aa).bind fun Ae=>(some (Sum.inl ((w64 (Aa + 1)),(sI Ac Aa (List.replicate (Int.toNat a2) (0:Int))))))) else none) else (some (Sum.inr<| Ac)))
def AEg (fuel:Nat) (a1 a2:Int):Option LiI:=
  (if 0<=a1/\a1<=100000000 then ((iter (fun s=>AJq fuel a1 a2 s.1 s.2) fuel (0,(List.replicate (Int.toNat a1) ([]:List Int)))).bind (fun (Ac:LiI)=>(some Ac))) else none)
theorem AHe {fuel:Nat} {h:ABh} {a1 a2:Int} {r:LiI} (hp:AEg fuel a1 a2=some r):AB7 Tryz.prog 88 #[(.int .i64 a1),(.int .i64 a2)] h (fun x h'=>Ext h h'/\ ∃ (x0:Value) (F0:List Nat) (Ar:List LnA) (Au:List Value),x=x0/\AFg cZ 112 109 h' F0 Ar Au x0 r/\Sp h' h.size [F0]):=by
 unfold AEg at hp;refine cwf (l:=[_,_]) Tryz.func88 rfl rfl (ABi (ACq (Wk ?_)));obtain ⟨Av,Aw⟩:=ifN hp;refine AUp cZ 109 AD8 Ak0 rfl trivial tt2 rfl rfl (by decide) Av fun Ax Ay Az v9 h7 I8 E5 S6=>ABp (ABm (ABi (Wk ?_)));have Ag:=(Kst.k0 h).no2 E5 S6 I8;refine ADg AD8 rfl (Ag.o2 p0).rd (Wk (ABo (ABq ?_)));obtain ⟨Am,A7,A8⟩:=ABl Aw;obtain ⟨A9,Ba,Bb⟩:=ACg A7;refine ACi 1046592 (fun x:(Int) × (LiI) × LnA × LnN × LvA=>[(11,(.int .i64 x.1))]) (fun k x h'=>iter A9 k (x.1,x.2.1)=some Am/\Kst h h' (Ag.L.set 0 (aO2 cZ 112 109 x.2.2.1 x.2.2.2.1 x.2.2.2.2 v9 x.2.1))) (by kernel_rfl) fuel ((0,(List.replicate (Int.toNat a1) ([]:List Int)),Ax,Ay,Az):(Int) × (LiI) × LnA × LnN × LvA) ?_ ⟨rfl,trivial⟩ ?_
 ·exact ⟨Bb,Ag⟩
 rintro Bx ⟨Aa,Bc,By,Ao,Be⟩ Bz B1 ⟨Bf,Ad⟩;obtain ⟨Bg,B2,rfl,Ab,Ah⟩:=AB3 Bf;rw [Ba] at Ab;dsimp only at Ab;unfold AJq at Ab;refine ABi (ACx rfl rfl (ABo (ABm (⟨_,rfl,fun Ai=>?_,fun Ai=>?_⟩))))
 ·refine ABs (q_t (ABm (ABq (ABi (Wk (ABp (ABw (Wk (Wk (Wk ?_))))))))));obtain ⟨Bh,Bi⟩:=ifN (AC1 Ab Ai);refine Aq8 AG7 AJ3 rfl trivial tt2 rfl rfl (by decide) Bh fun Ap Bj B3 Bl Bm Bn Bo=>?_;have Ac:=Ad.no Bm (AGu Bn Bo) Bl;obtain ⟨B4,Aq,Bp⟩:=ABl Bi;refine ADu AD8 rfl (Ac.o2 p1) rfl Aq fun Bq B5 Br B6 B7=>AWc AHs (Ac.o2 p1) Aq Br rfl rfl (Ac.o p0) (Ac.dj p0 p1 (by decide)) fun B8 Bt Bu Bv=>ACl (q_b (q_t (ABw (ACy rfl rfl (Wk (ABo ?_))))));obtain rfl:=ABk Bp;exact ⟨Bg,(((w64 (Aa + 1)),(sI Bc Aa (List.replicate (Int.toNat a2) (0:Int))),(Bq :: (Ao.set (Int.toNat Aa) [Ap]).flatten),(Ao.set (Int.toNat Aa) [Ap]),(Be.set (Int.toNat Aa) Bj)):(Int) × (LiI) × LnA × LnN × LvA),Nat.lt_succ_self _,⟨Ah,(Ac.m2 p0 p1 (by decide) Bu Bt (fun z hz=> .inl (Bv z hz))).sel [1] (by decide)⟩,rfl,trivial⟩
 ·obtain rfl:=ABk (AC2 Ab Ai);change _=Am at Ah;subst Ah;refine ACb (AB9 (AB9 (ADj (q_t (ABi (Wk (ABp (ABr ?_))))))));obtain rfl:=ABk A8;exact ⟨_,ABt,Ad.x,_,_,_,_,rfl,(Ad.o2 p0),Ad.s.sel [0] (by decide)⟩
def AH6 (fuel:Nat) (a3:LiI) (Ab:Int) (Af:LiA) (Aa:Int) (Ac:LiI):Option ((Int × LiI) ⊕ ((LiI))):=
  (if Aa < (Af.length:Int) then ((gI Ac Ab).bind fun Ad=>((gI a3 Ab).bind fun Ag=>((gI Ag Aa).bind fun Ah=>((AKv fuel Ah).bind fun Ai=>((gI Ad Aa).bind fun Aj=>(some (Sum.inl ((w64 (Aa + 1)),(sI Ac Ab (sI Ad Aa Ai)))))))))) else (some (Sum.inr<| Ac)))
def AH7 (fuel:Nat) (a3:LiI) (Aa:Int) (Ac:LiI):Option ((Int × LiI) ⊕ ((LiI))):=
  (if Aa < (a3.length:Int) then ((gI a3 Aa).bind fun Ad=>((iter (fun s=>AH6 fuel a3 Aa Ad s.1 s.2) fuel (0,Ac)).bind (fun (Ae:LiI)=>(some (Sum.inl ((w64 (Aa + 1)),Ae)))))) else (some (Sum.inr<| Ac)))
def AH8 (fuel:Nat) (a3:LiI) (Ab:Int):Option ((Int) ⊕ (((LiI × Bool)) ⊕ (Unit))):=
  (if Ab < (a3.length:Int) then ((gI a3 Ab).bind fun Ac=>(if (Ac.length:Int) < 1 then (some (Sum.inr<| Sum.inl <| ([],false))) else (if 16 < (Ac.length:Int) then (some (Sum.inr<| Sum.inl <| ([],false))) else ((gI a3 0).bind fun Ad=>(if ¬ (Ac.length:Int)=(Ad.length:Int) then (some (Sum.inr<| Sum.inl <| ([],false))) else (some (Sum.inl (w64 (Ab + 1))))))))) else (some (Sum.inr<| Sum.inr <| ())))
def ADm (fuel:Nat) (a3:LiI):Option (LiI × Bool):=
  (((if (a3.length:Int) < 1 then (some (Sum.inl <| ([],false))) else (if 16 < (a3.length:Int) then (some (Sum.inl <| ([],false))) else (some (Sum.inr <| ())))):Option (((LiI × Bool)) ⊕ (Unit))).bind (fun ex=>match ex with | Sum.inl Ab=>(some Ab) | Sum.inr (_)=>((iter (fun s=>AH8 fuel a3 s) fuel 0).bind (fun ex=>match ex with | Sum.inl Ac=>(some Ac) | Sum.inr (_)=>((gI a3 0).bind fun Ad=>((AEg fuel (a3.length:Int) (Ad.length:Int)).bind fun Ae=>((iter (fun s=>AH7 fuel a3 s.1 s.2) fuel (0,Ae)).bind (fun (Af:LiI)=>(some (Af,true))))))))))
theorem AKx {fuel:Nat} {h:ABh} {Bg:Value} {a3:LiI} {r:(LiI × Bool)} (H2:AFl (cI .i64) h Bg a3) (hp:ADm fuel a3=some r):AB7 Tryz.prog 59 #[Bg] h (fun x h'=>Ext h h'/\ ∃ (x0:Value) (F0:List Nat) (B3:List LnA) (B4:List Value),x= .tuple #[x0,.bool r.2]/\AFg cZ 112 109 h' F0 B3 B4 x0 r.1/\Sp h' h.size [F0]):=by
 unfold ADm at hp;refine cwf (l:=[_]) Tryz.func59 rfl rfl (ABi (ACd (ABp ?_)));have K0:=Kst.k0 h;obtain ⟨B5,Bj,Aw⟩:=ABl hp;refine AN1 130572 (fun x:Unit=>[]) (fun x h'=>(Sum.inr <| ())=B5/\Kst h h' (K0.L)) ?_ ?_
 ·refine ABi (Wk (ADg AB2 rfl H2 (ACx rfl rfl (Wk ?_))));by_cases Ao:(a3.length:Int) < 1
  ·rw [decide_eq_true Ao];refine AJx 12 true (ABy rfl (ABo (AB8 rfl (ABi (ACd (ABp ?_))))));obtain rfl:=ABk (ifT Bj Ao);refine ABr (AB0 ?_);have Ax:=Kst.anil2 cZ 112 109 K0;obtain rfl:=ABk Aw;exact ⟨_,AC8,Ax.x,_,_,_,_,rfl,(Ax.o2 p0),Ax.s.sel [0] (by decide)⟩
  ·have Bl:=ifF Bj Ao;rw [decide_eq_false Ao];refine ACk 12 false (Wk (ACk 12 false (ADg AB2 rfl H2 (ACk 12 false (AIm rfl rfl (ABu rfl (ABo (⟨_,rfl,fun Ay=>?_,fun Ay=>?_⟩))))))))
   ·refine ABi (ACd (ABp ?_));obtain rfl:=ABk (AC1 Bl Ay);refine ABr (AB0 ?_);have Az:=Kst.anil2 cZ 112 109 K0;obtain rfl:=ABk Aw;exact ⟨_,AC8,Az.x,_,_,_,_,rfl,(Az.o2 p0),Az.s.sel [0] (by decide)⟩
   ·refine ABs (q_t ?_);exact ⟨(():Unit),⟨ABk (AC2 Bl Ay),K0⟩,trivial⟩
 rintro ⟨⟩ Ea Eb ⟨B6,Bm⟩;subst B6;refine ABm (ABi (Wk (ADg AB2 rfl H2 (Wk (ABo (ABq ?_))))));obtain ⟨Af,B7,Ap⟩:=ABl Aw;obtain ⟨B8,B9,Ca⟩:=ACg B7;refine ACi 2199022731308 (fun x:(Int)=>[(19,(.int .i64 x))]) (fun k x h'=>iter B8 k x=some Af/\Kst h h' (Bm.L)) (by kernel_rfl) fuel (0:(Int)) ?_ ⟨rfl,trivial⟩ ?_
 ·exact ⟨Ca,Bm⟩
 rintro Ec Cb Ed Ee ⟨Cd,Ac⟩;obtain ⟨Ce,Ef,rfl,Ag,Ab⟩:=AB3 Cd;rw [B9] at Ag;dsimp only at Ag;unfold AH8 at Ag;refine ABi (ACx rfl rfl (ABo (ABm (⟨_,rfl,fun A3=>?_,fun A3=>?_⟩))))
 ·refine ABs (q_t (ABm (ABq (ABi ?_))));obtain ⟨Bn,Cf,Bo⟩:=ABl (AC1 Ag A3);refine AIj AB2 rfl H2 rfl Cf fun Eg Eh Ei Cg A4=>AB4 ACn rfl (ABx Cg Ac.x) (ACq (Wk (ADr ABv rfl A4 (ACx rfl rfl (Wk ?_)))));by_cases Aq:(Bn.length:Int) < 1
  ·rw [decide_eq_true Aq];refine AJx 26 true (ABy rfl (Wk (ALh 31 true (AF9 31 true (ABy rfl (ABo (AB8 rfl (ABi (ACd (ABp ?_))))))))));obtain rfl:=ABk (ifT Bo Aq);change _=Af at Ab;subst Ab;refine ABr (ADn (AB0 (AB0 (ADn (AB0 ?_)))));have A5:=Kst.anil2 cZ 112 109 Ac;obtain rfl:=ABk Ap;exact ⟨_,AC8,A5.x,_,_,_,_,rfl,(A5.o2 p0),A5.s.sel [0] (by decide)⟩
  ·have Bp:=ifF Bo Aq;rw [decide_eq_false Aq];refine ACk 26 false (Wk (ACk 26 false (ADr ABv rfl A4 (ACk 26 false (AIm rfl rfl (ABu rfl (Wk ?_)))))));by_cases Ar:16 < (Bn.length:Int)
   ·rw [decide_eq_true Ar];refine ALh 31 true (AF9 31 true (ABy rfl (ABo (AB8 rfl (ABi (ACd (ABp ?_)))))));obtain rfl:=ABk (ifT Bp Ar);change _=Af at Ab;subst Ab;refine ABr (ADn (AB0 (AB0 (ADn (AB0 ?_)))));have A6:=Kst.anil2 cZ 112 109 Ac;obtain rfl:=ABk Ap;exact ⟨_,AC8,A6.x,_,_,_,_,rfl,(A6.o2 p0),A6.s.sel [0] (by decide)⟩
   ·rw [decide_eq_false Ar];refine ACk 31 false (Wk (ACk 31 false (ADr ABv rfl A4 (ACk 31 false (Wk (ACk 31 false ?_))))));obtain ⟨Ej,Ch,Bq⟩:=ABl (ifF Bp Ar);refine AIj AB2 rfl H2 rfl Ch fun Ek El Em Ci Cj=>ACk 31 false (AB4 ACn rfl (ABx Ci Ac.x) (ACk 31 false (ADr ABv rfl Cj (ACk 31 false (AG8 rfl rfl (ABu rfl (ABo (⟨_,rfl,fun A7=>?_,fun A7=>?_⟩))))))))
    ·refine ABi (ACd (ABp ?_));obtain rfl:=ABk (AC1 Bq A7);change _=Af at Ab;subst Ab;refine ABr (ADn (AB0 (AB0 (ADn (AB0 ?_)))));have A8:=Kst.anil2 cZ 112 109 Ac;obtain rfl:=ABk Ap;exact ⟨_,AC8,A8.x,_,_,_,_,rfl,(A8.o2 p0),A8.s.sel [0] (by decide)⟩
    ·refine ABs (q_b (q_t (ABw (ACy rfl rfl (Wk (ABo ?_))))));obtain rfl:=ABk (AC2 Bq A7);exact ⟨Ce,((w64 (Cb + 1)):(Int)),Nat.lt_succ_self _,⟨Ab,Ac⟩,rfl,trivial⟩
 ·obtain rfl:=ABk (AC2 Ag A3);change _=Af at Ab;subst Ab;refine ACb (AB9 (AB9 (ADj (q_t (ABi (Wk (ADg AB2 rfl H2 (Wk ?_))))))));obtain ⟨En,Ck,Cm⟩:=ABl Ap;refine AIj AB2 rfl H2 rfl Ck fun Eo Ep Er Cn Co=>AB4 ACn rfl (ABx Cn Ac.x) (ADr ABv rfl Co ?_);obtain ⟨Cp,Cq,Cr⟩:=ABl Cm;refine ACu rfl (AHe Cq) fun Br Es Ct Cu=>?_;obtain ⟨Et,Cv,Cw,Cx,rfl,Cy,Cz⟩:=Cu;refine ABp (ABm (ABi (Wk (ADg AB2 rfl H2 (Wk (ABo (ABq ?_)))))));have Bt:=Ac.no2 Ct Cz Cy;obtain ⟨Bu,C0,C1⟩:=ABl Cr;obtain ⟨C2,C3,C4⟩:=ACg C0;refine ACi 151115726325928739996032 (fun x:(Int) × (LiI) × LnA × LnN × LvA=>[(50,(.int .i64 x.1))]) (fun k x h'=>iter C2 k (x.1,x.2.1)=some Bu/\Kst h h' (Bt.L.set 0 (aO2 cZ 112 109 x.2.2.1 x.2.2.2.1 x.2.2.2.2 Br x.2.1))) (by kernel_rfl) fuel ((0,Cp,Cv,Cw,Cx):(Int) × (LiI) × LnA × LnN × LvA) ?_ ⟨rfl,trivial⟩ ?_
  ·exact ⟨C4,Bt⟩
  rintro Eu ⟨Au,C5,C6,C7,C8⟩ Ev Ew ⟨C9,Ad⟩;obtain ⟨Da,Ey,rfl,Ah,A9⟩:=AB3 C9;rw [C3] at Ah;dsimp only at Ah;unfold AH7 at Ah;refine ABi (ACx rfl rfl (ABo (ABm (⟨_,rfl,fun Ba=>?_,fun Ba=>?_⟩))))
  ·refine ABs (q_t (ABm (ABq (ABi (Wk (ACq (Wk (Wk ?_))))))));obtain ⟨Ez,Db,Dc⟩:=ABl (AC1 Ah Ba);refine AIj AB2 rfl H2 rfl Db fun Fa Fb Fc Dd De=>AB4 ACn rfl (ABx Dd Ad.x) (ADr ABv rfl De (Wk (ABo (ABq ?_))));obtain ⟨Bv,Df,Dg⟩:=ABl Dc;obtain ⟨Dh,Di,Dj⟩:=ACg Df;refine ACi 75557575495538171707648 (fun x:(Int) × (LiI) × LnA × LnN × LvA=>[(58,(.int .i64 x.1))]) (fun k x h'=>iter Dh k (x.1,x.2.1)=some Bv/\Kst h h' (Ad.L.set 0 (aO2 cZ 112 109 x.2.2.1 x.2.2.2.1 x.2.2.2.2 Br x.2.1))) (by kernel_rfl) fuel ((0,C5,C6,C7,C8):(Int) × (LiI) × LnA × LnN × LvA) ?_ ⟨rfl,trivial⟩ ?_
   ·exact ⟨Dj,Ad⟩
   rintro Fd ⟨Bw,Bx,By,Bz,B1⟩ Fe Bb ⟨Dk,Ae⟩;obtain ⟨Dl,Ff,rfl,Ai,Bc⟩:=AB3 Dk;rw [Di] at Ai;dsimp only at Ai;unfold AH6 at Ai;refine ABi (ACx rfl rfl (ABo (ABm (⟨_,rfl,fun Be=>?_,fun Be=>?_⟩))))
   ·refine ABs (q_t (ABm (ABq (ABi (Wk (ABp (AEl (fun h'=>UpT [] Bb h') (by kernel_rfl) ?_)))))));have Aj:UpT [] Bb Bb:=UpT.start all_nil;refine Wk (Wk ?_);obtain ⟨Dn,Bf,Do⟩:=ABl (AC1 Ai Be);refine ADu AD8 rfl (Ae.o2 p0) rfl Bf fun Fg Fh Fi Dp Dq=>AGj AHs rfl Aj (fun h' hb=>ABx Dq hb.ext) (Wk (Wk (Wk ?_)));obtain ⟨Fj,Dr,Ds⟩:=ABl Do;refine AIj AB2 rfl H2 rfl Dr fun Fk Fl Fm Dt Du=>AGj ACn rfl Aj (fun h' hb=>ABx Dt (Ae.x.trans hb.ext)) (Wk ?_);obtain ⟨Fo,Dv,Dw⟩:=ABl Ds;refine AIf (c:=(cI .i64)) ABv rfl Du rfl Dv fun Fp Fq Fr Dx Dy=>?_;obtain rfl:=Dx;refine AGj ACr rfl Aj (fun h' hb=>ABx (Dy 0 _ rfl) (Ae.x.trans hb.ext)) ?_;obtain ⟨Dz,D0,D1⟩:=ABl Dw;refine AC9 Aj (fun _ E=>Aj.thenE E) rfl (AJp D0) fun Ft Fu D2 D3=>?_;obtain ⟨Fv,rfl,D4⟩:=D3;obtain ⟨Fw,rfl,D5⟩:=D4.cs;have Ak:=(Ae.e D2).az D5;obtain ⟨Fx,B2,D6⟩:=ABl D1;refine AE7 (m:=Au) AG7 rfl (Ae.o2 p0) Dp Bf rfl B2 fun Fy D7=>AJo (m:=Au) (AS5 ACp (cZ.klen (Ak.z p0)) rfl rfl (cZ.one (Ak.z p0))) (Ak.o2 p1) D7 Bf B2 (Ak.z p0) fun Fz D8 D9=>ACl (q_b (q_t (ABw (ACy rfl rfl (Wk (ABo ?_))))));obtain rfl:=ABk D6;exact ⟨Dl,(((w64 (Bw + 1)),(sI Bx Au (sI Dn Bw Dz)),By,Bz,B1):(Int) × (LiI) × LnA × LnN × LvA),Nat.lt_succ_self _,⟨Bc,(Ak.uO2 p1 D9 D8).sel [1] (by decide)⟩,rfl,trivial⟩
   ·obtain rfl:=ABk (AC2 Ai Be);change _=Bv at Bc;subst Bc;refine ACb (AB9 (AB9 (ADj (q_b (q_t (ABw (ACy rfl rfl (Wk (ABo ?_)))))))));obtain rfl:=ABk Dg;exact ⟨Da,(((w64 (Au + 1)),Bx,By,Bz,B1):(Int) × (LiI) × LnA × LnN × LvA),Nat.lt_succ_self _,⟨A9,Ae⟩,rfl,trivial⟩
  ·obtain rfl:=ABk (AC2 Ah Ba);change _=Bu at A9;subst A9;refine ACb (AB9 (AB9 (ADj (q_t (ABi (Wk (ACd (ABp (ABr ?_)))))))));obtain rfl:=ABk C1;exact ⟨_,AC8,Ad.x,_,_,_,_,rfl,(Ad.o2 p0),Ad.s.sel [0] (by decide)⟩
def AE8 (fuel:Nat) (a3:LiI):Option LiI:=
  ((ADm fuel a3).bind fun (x5,x6)=>(some x5))
theorem AKq {fuel:Nat} {h:ABh} {Ab:Value} {a3 r:LiI} (H2:AFl (cI .i64) h Ab a3) (hp:AE8 fuel a3=some r):AB7 Tryz.prog 29 #[Ab] h (fun x h'=>Ext h h'/\ ∃ (x0:Value) (F0:List Nat) (Ai:List LnA) (Aj:List Value),x=x0/\AFg cZ 112 109 h' F0 Ai Aj x0 r/\Sp h' h.size [F0]):=by
 unfold AE8 at hp;refine cwf (l:=[_]) Tryz.func29 rfl rfl (ABi (ACq (Wk ?_)));have K0:=Kst.k0 h;obtain ⟨⟨x5,x6⟩,Ak,Ag⟩:=ABl hp;dsimp only at Ag;refine ACu rfl (AKx (H2.ext K0.x) Ak) fun Av Aw E9 Ao=>?_;obtain ⟨Ax,Ay,Az,A3,rfl,Ap,Aq⟩:=Ao;refine Wk (ACz rfl rfl (ACz rfl rfl (ACd (ACq (Wk (ABp (ABr ?_)))))));have Aa:=K0.no2 E9 Aq Ap;obtain rfl:=ABk Ag;exact ⟨_,ABt,Aa.x,_,_,_,_,rfl,(Aa.o2 p0),Aa.s.sel [0] (by decide)⟩
def AFq (fuel:Nat) (a3:LiI) (Ab:Int):Option ((Int) ⊕ (((Int × Int × Bool)) ⊕ (Unit))):=
  (if Ab < (a3.length:Int) then ((gI a3 Ab).bind fun Ac=>(if (Ac.length:Int) < 1 then (some (Sum.inr<| Sum.inl <| (0,0,false))) else (if 16 < (Ac.length:Int) then (some (Sum.inr<| Sum.inl <| (0,0,false))) else ((gI a3 0).bind fun Ad=>(if ¬ (Ac.length:Int)=(Ad.length:Int) then (some (Sum.inr<| Sum.inl <| (0,0,false))) else (some (Sum.inl (w64 (Ab + 1))))))))) else (some (Sum.inr<| Sum.inr <| ())))
def ADh (fuel:Nat) (a3:LiI):Option (Int × Int × Bool):=
  (((if (a3.length:Int) < 1 then (some (Sum.inl <| (0,0,false))) else (if 16 < (a3.length:Int) then (some (Sum.inl <| (0,0,false))) else (some (Sum.inr <| ())))):Option (((Int × Int × Bool)) ⊕ (Unit))).bind (fun ex=>match ex with | Sum.inl Ab=>(some Ab) | Sum.inr (_)=>((iter (fun s=>AFq fuel a3 s) fuel 0).bind (fun ex=>match ex with | Sum.inl Ac=>(some Ac) | Sum.inr (_)=>((gI a3 0).bind fun Ad=>(some ((a3.length:Int),(Ad.length:Int),true)))))))
theorem AG2 {fuel:Nat} {h:ABh} {Au:Value} {a3:LiI} {r:(Int × Int × Bool)} (H2:AFl cZ h Au a3) (hp:ADh fuel a3=some r):AB7 Tryz.prog 97 #[Au] h (fun x h'=>Ext h h'/\x= .tuple #[.int .i64 r.1,.int .i64 r.2.1,.bool r.2.2]):=by
 unfold ADh at hp;refine cwf (l:=[_]) Tryz.func97 rfl rfl (ABi (ACd (ACd (ABp ?_))));have K0:=Kst.k0 h;obtain ⟨A5,Av,Am⟩:=ABl hp;refine AN1 32668 (fun x:Unit=>[]) (fun x h'=>(Sum.inr <| ())=A5/\Kst h h' (K0.L)) ?_ ?_
 ·refine ABi (Wk (ADg AD8 rfl H2 (ACx rfl rfl (Wk ?_))));by_cases Ag:(a3.length:Int) < 1
  ·rw [decide_eq_true Ag];refine AJx 10 true (ABy rfl (ABo (AB8 rfl (ABi (ACd (ACd (ABp ?_)))))));obtain rfl:=ABk (ifT Av Ag);refine ABr (AB0 ?_);obtain rfl:=ABk Am;exact ⟨_,AQ3,K0.x,rfl⟩
  ·have Aw:=ifF Av Ag;rw [decide_eq_false Ag];refine ACk 10 false (Wk (ACk 10 false (ADg AD8 rfl H2 (ACk 10 false (AIm rfl rfl (ABu rfl (ABo (⟨_,rfl,fun Ao=>?_,fun Ao=>?_⟩))))))))
   ·refine ABi (ACd (ACd (ABp ?_)));obtain rfl:=ABk (AC1 Aw Ao);refine ABr (AB0 ?_);obtain rfl:=ABk Am;exact ⟨_,AQ3,K0.x,rfl⟩
   ·refine ABs (q_t ?_);exact ⟨(():Unit),⟨ABk (AC2 Aw Ao),K0⟩,trivial⟩
 rintro ⟨⟩ Bp Bq ⟨A6,Ax⟩;subst A6;refine ABm (ABi (Wk (ADg AD8 rfl H2 (Wk (ABo (ABq ?_))))));obtain ⟨Ad,A7,Ah⟩:=ABl Am;obtain ⟨A8,A9,Ba⟩:=ACg A7;refine ACi 549755682908 (fun x:(Int)=>[(17,(.int .i64 x))]) (fun k x h'=>iter A8 k x=some Ad/\Kst h h' (Ax.L)) (by kernel_rfl) fuel (0:(Int)) ?_ ⟨rfl,trivial⟩ ?_
 ·exact ⟨Ba,Ax⟩
 rintro Br Bb Bt Bu ⟨Bc,Ab⟩;obtain ⟨Be,Bv,rfl,Ae,Aa⟩:=AB3 Bc;rw [A9] at Ae;dsimp only at Ae;unfold AFq at Ae;refine ABi (ACx rfl rfl (ABo (ABm (⟨_,rfl,fun Ap=>?_,fun Ap=>?_⟩))))
 ·refine ABs (q_t (ABm (ABq (ABi ?_))));obtain ⟨Ay,Bf,Az⟩:=ABl (AC1 Ae Ap);refine AIj AD8 rfl H2 rfl Bf fun Bw Bx By Bg Aq=>AB4 AHs rfl (ABx Bg Ab.x) (ACq (Wk (ADr AG7 rfl Aq (ACx rfl rfl (Wk ?_)))));by_cases Ai:(Ay.length:Int) < 1
  ·rw [decide_eq_true Ai];refine AJx 24 true (ABy rfl (Wk (ALh 29 true (AF9 29 true (ABy rfl (ABo (AB8 rfl (ABi (ACd (ACd (ABp ?_)))))))))));obtain rfl:=ABk (ifT Az Ai);change _=Ad at Aa;subst Aa;refine ABr (ADn (AB0 (AB0 (ADn (AB0 ?_)))));obtain rfl:=ABk Ah;exact ⟨_,AQ3,Ab.x,rfl⟩
  ·have A3:=ifF Az Ai;rw [decide_eq_false Ai];refine ACk 24 false (Wk (ACk 24 false (ADr AG7 rfl Aq (ACk 24 false (AIm rfl rfl (ABu rfl (Wk ?_)))))));by_cases Aj:16 < (Ay.length:Int)
   ·rw [decide_eq_true Aj];refine ALh 29 true (AF9 29 true (ABy rfl (ABo (AB8 rfl (ABi (ACd (ACd (ABp ?_))))))));obtain rfl:=ABk (ifT A3 Aj);change _=Ad at Aa;subst Aa;refine ABr (ADn (AB0 (AB0 (ADn (AB0 ?_)))));obtain rfl:=ABk Ah;exact ⟨_,AQ3,Ab.x,rfl⟩
   ·rw [decide_eq_false Aj];refine ACk 29 false (Wk (ACk 29 false (ADr AG7 rfl Aq (ACk 29 false (Wk (ACk 29 false ?_))))));obtain ⟨Bz,Bh,A4⟩:=ABl (ifF A3 Aj);refine AIj AD8 rfl H2 rfl Bh fun B1 B2 B3 Bi Bj=>ACk 29 false (AB4 AHs rfl (ABx Bi Ab.x) (ACk 29 false (ADr AG7 rfl Bj (ACk 29 false (AG8 rfl rfl (ABu rfl (ABo (⟨_,rfl,fun Ar=>?_,fun Ar=>?_⟩))))))))
    ·refine ABi (ACd (ACd (ABp ?_)));obtain rfl:=ABk (AC1 A4 Ar);change _=Ad at Aa;subst Aa;refine ABr (ADn (AB0 (AB0 (ADn (AB0 ?_)))));obtain rfl:=ABk Ah;exact ⟨_,AQ3,Ab.x,rfl⟩
    ·refine ABs (q_b (q_t (ABw (ACy rfl rfl (Wk (ABo ?_))))));obtain rfl:=ABk (AC2 A4 Ar);exact ⟨Be,((w64 (Bb + 1)):(Int)),Nat.lt_succ_self _,⟨Aa,Ab⟩,rfl,trivial⟩
 ·obtain rfl:=ABk (AC2 Ae Ap);change _=Ad at Aa;subst Aa;refine ACb (AB9 (AB9 (ADj (q_t (ABm (AMh (Wk (ADg AD8 rfl H2 (Wk ?_)))))))));obtain ⟨B4,Bl,Bm⟩:=ABl Ah;refine AIj AD8 rfl H2 rfl Bl fun B5 B6 B7 Bn Bo=>AB4 AHs rfl (ABx Bn Ab.x) (ADr AG7 rfl Bo (ACd (ACd (ABp (ABr ?_)))));obtain rfl:=ABk Bm;exact ⟨_,AQ3,Ab.x,rfl⟩
def AEm (fuel:Nat) (a3:LiI):Option (Int × Bool):=
  ((ADh fuel a3).bind fun (x5,x6,x7)=>(if (!x7)=true then (some (0,false)) else (if ¬ x5=x6 then (some (0,false)) else (some (x5,true)))))
theorem ALj {fuel:Nat} {h:ABh} {Ad:Value} {a3:LiI} {r:(Int × Bool)} (H2:AFl cZ h Ad a3) (hp:AEm fuel a3=some r):AB7 Tryz.prog 81 #[Ad] h (fun x h'=>Ext h h'/\x= .tuple #[.int .i64 r.1,.bool r.2]):=by
 unfold AEm at hp;refine cwf (l:=[_]) Tryz.func81 rfl rfl (ABi (ACd (ACq (Wk ?_))));have K0:=Kst.k0 h;obtain ⟨⟨x5,x6,x7⟩,Ak,Aa⟩:=ABl hp;dsimp only at Aa;refine ACu rfl (AG2 (H2.ext K0.x) Ak) fun Ar Au Am Ao=>?_;subst Ao;refine Wk (ACz rfl rfl (ACz rfl rfl (ACz rfl rfl (ACd (ACd (ABp (ABm (ABi (Wk (AF8 rfl (Wk ?_)))))))))));have Ab:=K0.e Am;cases Ag:(!x7)
 ·refine ACk 15 false (Wk (ACk 15 false (Wk (ACk 15 false (AG8 rfl rfl (ABu rfl (ABo ?_)))))));have Ah:=AIz Aa Ag;refine ⟨_,rfl,fun Ac=>?_,fun Ac=>?_⟩
  ·refine ABi (ACd (ABp (ABr (AB0 ?_))));obtain rfl:=ABk (AC1 Ah Ac);exact ⟨_,AC8,Ab.x,rfl⟩
  ·refine ABs (q_t (ABi (Wk (ACd (ABp (ABr ?_))))));obtain rfl:=ABk (AC2 Ah Ac);exact ⟨_,AC8,Ab.x,rfl⟩
 ·refine AJx 15 true (ABy rfl (ABo (AB8 rfl (ABi (ACd (ABp (ABr (AB0 ?_))))))));obtain rfl:=ABk (ifT Aa Ag);exact ⟨_,AC8,Ab.x,rfl⟩
def AJr (fuel:Nat) (Ac:Int) (Ad:LiA) (Aa:Int) (Ab:LiI):Option ((Int × LiI) ⊕ ((LiI))):=
  (if Aa < (Ad.length:Int) then ((gI Ad Aa).bind fun Af=>((gI Ab Ac).bind fun Ae=>((APt fuel Af).bind fun Ag=>(if Ae.length<=100000000 then (some (Sum.inl ((w64 (Aa + 1)),(sI Ab Ac (Ae ++ [Ag]))))) else none)))) else (some (Sum.inr<| Ab)))
def AJs (fuel:Nat) (a3:LiI) (Aa:Int) (Ac:LiI):Option ((Int × LiI) ⊕ ((LiI))):=
  (if Aa < (a3.length:Int) then ((gI a3 Aa).bind fun Ad=>((iter (fun s=>AJr fuel Aa Ad s.1 s.2) fuel (0,Ac)).bind (fun (Ae:LiI)=>(some (Sum.inl ((w64 (Aa + 1)),Ae)))))) else (some (Sum.inr<| Ac)))
def AFz (fuel:Nat) (a3:LiI):Option LiI:=
  (if 0<=(a3.length:Int)/\(a3.length:Int)<=100000000 then ((iter (fun s=>AJs fuel a3 s.1 s.2) fuel (0,(List.replicate (Int.toNat (a3.length:Int)) ([]:List Int)))).bind (fun (Ab:LiI)=>(some Ab))) else none)
theorem AMa {fuel:Nat} {h:ABh} {Av:Value} {a3 r:LiI} (H2:AFl cZ h Av a3) (hp:AFz fuel a3=some r):AB7 Tryz.prog 53 #[Av] h (fun x h'=>Ext h h'/\ ∃ (x0:Value) (F0:List Nat) (Ba:List LnA) (Bb:List Value),x=x0/\AFg cZ 112 109 h' F0 Ba Bb x0 r/\Sp h' h.size [F0]):=by
 unfold AFz at hp;refine cwf (l:=[_]) Tryz.func53 rfl rfl (ABi (ACq (Wk (ADg AD8 rfl H2 ?_))));obtain ⟨Bc,Be⟩:=ifN hp;refine AUp cZ 109 AD8 Ak0 rfl trivial tt2 rfl rfl (by decide) Bc fun Bf Bg Bh v11 h9 Bi E7 S8=>ABp (ABm (ABi (Wk (ADg AD8 rfl H2 (Wk (ABo (ABq ?_)))))));have Ay:=(Kst.k0 h).no2 E7 S8 Bi;obtain ⟨Az,Bm,Bn⟩:=ABl Be;obtain ⟨Bo,Bp,Bq⟩:=ACg Bm;refine ACi 137438949456 (fun x:(Int) × (LiI) × LnA × LnN × LvA=>[(12,(.int .i64 x.1))]) (fun k x h'=>iter Bo k (x.1,x.2.1)=some Az/\Kst h h' (Ay.L.set 0 (aO2 cZ 112 109 x.2.2.1 x.2.2.2.1 x.2.2.2.2 v11 x.2.1))) (by kernel_rfl) fuel ((0,(List.replicate (Int.toNat (a3.length:Int)) ([]:List Int)),Bf,Bg,Bh):(Int) × (LiI) × LnA × LnN × LvA) ?_ ⟨rfl,trivial⟩ ?_
 ·exact ⟨Bq,Ay⟩
 rintro Dd ⟨A3,Br,Bt,Bu,Bv⟩ De Df ⟨Bw,Ab⟩;obtain ⟨Bx,Dg,rfl,Ac,Ak⟩:=AB3 Bw;rw [Bp] at Ac;dsimp only at Ac;unfold AJs at Ac;refine ABi (ACx rfl rfl (ABo (ABm (⟨_,rfl,fun Am=>?_,fun Am=>?_⟩))))
 ·refine ABs (q_t (ABm (ABq (ABi (Wk (ACq (Wk (Wk ?_))))))));obtain ⟨Dh,By,Bz⟩:=ABl (AC1 Ac Am);refine AIj AD8 rfl H2 rfl By fun Di Dj Dk B1 A4=>AB4 AHs rfl (ABx B1 Ab.x) (ADr AG7 rfl A4 (Wk (ABo (ABq ?_))));obtain ⟨A5,B2,B3⟩:=ABl Bz;obtain ⟨B4,B5,B6⟩:=ACg B2;refine ACi 68718428224 (fun x:(Int) × (LiI) × LnA × LnN × LvA=>[(20,(.int .i64 x.1))]) (fun k x h'=>iter B4 k (x.1,x.2.1)=some A5/\Kst h h' (Ab.L.set 0 (aO2 cZ 112 109 x.2.2.1 x.2.2.2.1 x.2.2.2.2 v11 x.2.1))) (by kernel_rfl) fuel ((0,Br,Bt,Bu,Bv):(Int) × (LiI) × LnA × LnN × LvA) ?_ ⟨rfl,trivial⟩ ?_
  ·exact ⟨B6,Ab⟩
  rintro Dl ⟨B7,u64,B8,B9,Ca⟩ Dn Do ⟨Cb,Ag⟩;obtain ⟨Cd,Dp,rfl,Ad,Ao⟩:=AB3 Cb;rw [B5] at Ad;dsimp only at Ad;unfold AJr at Ad;refine ABi (ACx rfl rfl (ABo (ABm (⟨_,rfl,fun Ap=>?_,fun Ap=>?_⟩))))
  ·refine ABs (q_t (ABm (ABq (ABi ?_))));obtain ⟨Dq,Ce,Cf⟩:=ABl (AC1 Ad Ap);refine AIf (c:=cZ) AG7 rfl A4 rfl Ce fun Dr Ds A6 Ae Cg=>AUo (c:=cZ) ACp rfl (Ag.zx Ae) (fun j u hu=>(ABx (Cg j u hu) Ag.x)) (ADx [.bool false,.slice none 0 0] AJ3 rfl trivial tt2 fun Dt Ch Ci Cj Ck=>?_);have Ah:=Ag.nb Cj Ck Ci;refine ADi A6 ACp (cZ.klen (Ah.zx Ae)) (cZ.klen (ACj Ch)) rfl rfl (cZ.one (Ah.zx Ae)) (Ah.b p0) fun Aq Cm Cn=>ABo ?_;have Aa:=Ah.sb p0 Cn Cm rfl;obtain ⟨Co,Ar,Cp⟩:=ABl Cf;obtain ⟨A7,Cq,Cr,Ct,Cu⟩:=(Aa.o2 p1).rowG Ar;refine AEl (fun h'=>UpT (A7 ++ []) Aq h') (by kernel_rfl) ?_;have Af:UpT (A7 ++ []) Aq Aq:=UpT.start (AD5 Ct all_nil);refine Wk (Wk (Wk (Wk (ADu AD8 rfl (Aa.o2 p1) rfl Ar fun Du Dv Cv Cw Cx=>AGj AHs rfl Af (fun h' hb=>AKk Cx hb (AP7 (Cu _ Cv) AP8)) (AEt A6 ACp (cZ.klen (Aa.zx Ae)) rfl Af (fun h' hb=>((Aa.b p0).upT hb (Akr (fun b hb hg=>(Aa.dj p0 p1 (by decide)) b hb (Cr b hg)) Aks)).agg) ?_)))));obtain ⟨Cy,Cz,C0⟩:=ABl Cp;refine AC9 Af (fun _ E=>Af.thenE E) rfl (ARi (Aa.zx Ae).2 Cz) fun Dw Dx A8 C1=>?_;obtain ⟨Dy,rfl,C2⟩:=C1;have A9:=Af.thenE A8;obtain ⟨Dz,rfl,C3⟩:=C2.cs;have Au:=(Aa.e A8).az C3;obtain ⟨C4,C5⟩:=ifN C0;refine Aij AG7 AJ3 rfl rfl AD8 AHs (Au.o2 p2) Cw Ar Cq A9 (fun _ U=>A9.then U (ALi rfl)) (fun _=>rfl) rfl (Au.z p0) (fun _ _=>rfl) (fun _ _=>rfl) rfl (by decide) C4 fun D0 D1 C6 C7 C8 D2 D3 C9 Da Db=>ACl (q_b (q_t (ABw (ACy rfl rfl (Wk (ABo ?_))))));obtain rfl:=ABk C5;exact ⟨Cd,(((w64 (B7 + 1)),(sI u64 A3 (Co ++ [Cy])),C6,C7,C8):(Int) × (LiI) × LnA × LnN × LvA),Nat.lt_succ_self _,⟨Ao,(Au.uo2 p2 Da C9 Db).sel [2] (by decide)⟩,rfl,trivial⟩
  ·obtain rfl:=ABk (AC2 Ad Ap);change _=A5 at Ao;subst Ao;refine ACb (AB9 (AB9 (ADj (q_b (q_t (ABw (ACy rfl rfl (Wk (ABo ?_)))))))));obtain rfl:=ABk B3;exact ⟨Bx,(((w64 (A3 + 1)),u64,B8,B9,Ca):(Int) × (LiI) × LnA × LnN × LvA),Nat.lt_succ_self _,⟨Ak,Ag⟩,rfl,trivial⟩
 ·obtain rfl:=ABk (AC2 Ac Am);change _=Az at Ak;subst Ak;refine ACb (AB9 (AB9 (ADj (q_t (ABi (Wk (ABp (ABr ?_))))))));obtain rfl:=ABk Bn;exact ⟨_,ABt,Ab.x,_,_,_,_,rfl,(Ab.o2 p0),Ab.s.sel [0] (by decide)⟩
def AI1 (fuel:Nat) (a3:LiI) (Ac:LiA) (Ae:Int) (Aa:LiA) (Ab:Int):Option ((LiA × Int) ⊕ ((LiA))):=
  (if Ab < (Ac.length:Int) then ((gI Ac Ab).bind fun Af=>((gI a3 Ae).bind fun Ag=>((gI Ag Af).bind fun Ah=>(if Aa.length<=100000000 then (some (Sum.inl ((Aa ++ [Ah]),(w64 (Ab + 1))))) else none)))) else (some (Sum.inr<| Aa)))
def AI2 (fuel:Nat) (a3:LiI) (a7 Ae:LiA) (Aa:LiI) (Ab:Int):Option ((LiI × Int) ⊕ ((LiI))):=
  (if Ab < (a7.length:Int) then ((gI a7 Ab).bind fun Af=>((iter (fun s=>AI1 fuel a3 Ae Af s.1 s.2) fuel ([],0)).bind (fun (Ag:LiA)=>(if Aa.length<=100000000 then (some (Sum.inl ((Aa ++ [Ag]),(w64 (Ab + 1))))) else none)))) else (some (Sum.inr<| Aa)))
def AFb (fuel:Nat) (a3:LiI) (a7 Ac:LiA):Option LiI:=
  ((iter (fun s=>AI2 fuel a3 a7 Ac s.1 s.2) fuel ([],0)).bind (fun (Ad:LiI)=>(some Ad)))
theorem ALk {fuel:Nat} {h:ABh} {Ai:Value} {a3:LiI} {Ak:Value} {a7:LiA} {Ao:Value} {Ap:LiA} {r:LiI} (H2:AFl cZ h Ai a3) (H6:SlC (cI .i64) h Ak a7) (Ar:SlC (cI .i64) h Ao Ap) (hp:AFb fuel a3 a7 Ap=some r):AB7 Tryz.prog 115 #[Ai,Ak,Ao] h (fun x h'=>Ext h h'/\ ∃ (x0:Value) (F0:List Nat) (A6:List LnA) (A7:List Value),x=x0/\AFg cZ 112 109 h' F0 A6 A7 x0 r/\Sp h' h.size [F0]):=by
 unfold AFb at hp;refine cwf (l:=[_,_,_]) Tryz.func115 rfl rfl (ABi (ACq (ABp (ABm (ABi (Wk (ADr ATr rfl H6 (Wk (ABo (ABq ?_))))))))));have Aw:=Kst.anil2 cZ 112 109 (Kst.k0 h);obtain ⟨Ax,A8,A9⟩:=ABl hp;obtain ⟨Ba,Bb,Bc⟩:=ACg A8;refine ACi 2199023228544 (fun x:(LiI) × (Value) × LnA × LnN × LvA × (Int)=>[(7,x.2.1),(15,(.int .i64 x.2.2.2.2.2))]) (fun k x h'=>iter Ba k (x.1,x.2.2.2.2.2)=some Ax/\Kst h h' (Aw.L.set 0 (aO2 cZ 112 109 x.2.2.1 x.2.2.2.1 x.2.2.2.2.1 x.2.1 x.1))) (by kernel_rfl) fuel (([],(.slice none 0 0),[],[],[],0):(LiI) × (Value) × LnA × LnN × LvA × (Int)) ?_ ⟨rfl,rfl,trivial⟩ ?_
 ·exact ⟨Bc,Aw⟩
 rintro Ct ⟨Be,Cu,Cv,Bf,Bg,u32⟩ Cw Cx ⟨Bh,Ab⟩;obtain ⟨Bi,Cy,rfl,Ac,Ae⟩:=AB3 Bh;rw [Bb] at Ac;dsimp only at Ac;unfold AI2 at Ac;refine ABi (ACx rfl rfl (ABo (ABm (⟨_,rfl,fun Af=>?_,fun Af=>?_⟩))))
 ·refine ABs (q_t (ABm (ABq (ABi ?_))));obtain ⟨Cz,Bj,Bl⟩:=ABl (AC1 Ac Af);refine AIf (c:=(cI .i64)) ATr rfl H6 rfl Bj fun C0 C1 C2 Bm Bn=>?_;obtain rfl:=Bm;refine AB4 AEz rfl (ABx (Bn 0 _ rfl) Ab.x) (ACq (ABp (ABm (ABi (Wk (ADr ATr rfl Ar (Wk (ABo (ABq ?_)))))))));have Ay:=Kst.anil cZ 109 Ab;obtain ⟨Az,Bo,Bp⟩:=ABl Bl;obtain ⟨Bq,Br,Bt⟩:=ACg Bo;refine ACi 68717384704 (fun x:(LiA) × (Value) × LnA × (Int)=>[(10,x.2.1),(21,(.int .i64 x.2.2.2))]) (fun k x h'=>iter Bq k (x.1,x.2.2.2)=some Az/\Kst h h' (Ay.L.set 0 (aO cZ 109 x.2.2.1 x.2.1 x.1))) (by kernel_rfl) fuel (([],(.slice none 0 0),[],0):(LiA) × (Value) × LnA × (Int)) ?_ ⟨rfl,rfl,trivial⟩ ?_
  ·exact ⟨Bt,Ay⟩
  rintro C3 ⟨A3,Bu,Bv,Bw⟩ C4 C5 ⟨Bx,Aa⟩;obtain ⟨By,C6,rfl,Ad,Ag⟩:=AB3 Bx;rw [Br] at Ad;dsimp only at Ad;unfold AI1 at Ad;refine ABi (ACx rfl rfl (ABo (ABm (⟨_,rfl,fun Ah=>?_,fun Ah=>?_⟩))))
  ·refine ABs (q_t (ABm (ABq (ABi ?_))));obtain ⟨C7,Bz,B1⟩:=ABl (AC1 Ad Ah);refine AIf (c:=(cI .i64)) ATr rfl Ar rfl Bz fun C8 C9 Da B2 B3=>?_;obtain rfl:=B2;refine AB4 AEz rfl (ABx (B3 0 _ rfl) Aa.x) (ABp (ABw (Wk (Wk (Wk ?_)))));obtain ⟨Db,B4,B5⟩:=ABl B1;refine AIj AD8 rfl H2 rfl B4 fun Dc Dd De B6 B7=>AB4 AHs rfl (ABx B6 Aa.x) (Wk ?_);obtain ⟨B8,B9,Ca⟩:=ABl B5;refine AIf (c:=cZ) AG7 rfl B7 rfl B9 fun Df Dg Dh A4 Cb=>AUo (c:=cZ) ACp rfl (Aa.zx A4) (fun j u hu=>(ABx (Cb j u hu) Aa.x)) ?_;obtain ⟨Cd,Ce⟩:=ifN Ca;refine ANi AG7 AJ3 rfl rfl trivial tt2 (fun _=>rfl) rfl (Aa.zx A4) (Aa.o p0) (by decide) Cd fun Di Cf Cg Dj Ch Ci Cj=>ACd (ACl (q_b (q_t (ABw (ACy rfl rfl (Wk (ABo ?_)))))));obtain rfl:=ABk Ce;exact ⟨By,(((A3 ++ [B8]),Cg,Cf,(w64 (Bw + 1))):(LiA) × (Value) × LnA × (Int)),Nat.lt_succ_self _,⟨Ag,(Aa.uo p0 Ci Ch Cj)⟩,rfl,rfl,trivial⟩
  ·obtain rfl:=ABk (AC2 Ad Ah);change _=Az at Ag;subst Ag;refine ACb (AB9 (AB9 (ADj (q_t (ABw (Wk (Wk ?_)))))));obtain ⟨Ck,Cm⟩:=ifN Bp;refine Agu AD8 Ak0 rfl rfl trivial tt2 (fun _=>rfl) rfl (Aa.o p0) (Aa.o2 p1) (Aa.dj p0 p1 (by decide)) (by decide) Ck fun Dk Cn Co Dl Cp Cq Cr=>ACd (ACl (q_b (q_t (ABw (ACy rfl rfl (Wk (ABo ?_)))))));obtain rfl:=ABk Cm;exact ⟨Bi,(((Be ++ [A3]),Co,Cn,(Bf ++ [Bv]),(Bg ++ [Bu]),(w64 (u32 + 1))):(LiI) × (Value) × LnA × LnN × LvA × (Int)),Nat.lt_succ_self _,⟨Ae,(Aa.m2 p0 p1 (by decide) Cq Cp Cr).sel [1] (by decide)⟩,rfl,rfl,trivial⟩
 ·obtain rfl:=ABk (AC2 Ac Af);change _=Ax at Ae;subst Ae;refine ACb (AB9 (AB9 (ADj (q_t (ABi (Wk (ABp (ABr ?_))))))));obtain rfl:=ABk A9;exact ⟨_,ABt,Ab.x,_,_,_,_,rfl,(Ab.o2 p0),Ab.s.sel [0] (by decide)⟩
def AGv (fuel:Nat) (Ab:LiI) (Ac:Int) (Ad:LiI) (Aa:Int):Option ((Int) ⊕ ((Int))):=
  (((if Aa < (Ab.length:Int) then ((gI Ad Aa).bind fun Ae=>((gI Ae Ac).bind fun Af=>((AVq fuel Af).bind fun Ag=>(if Ag=0 then (some (Sum.inl <| ())) else (some (Sum.inr <| ())))))) else (some (Sum.inr <| ()))):Option ((Unit) ⊕ (Unit))).bind (fun ex=>match ex with | Sum.inl _=>(some (Sum.inl (w64 (Aa + 1)))) | Sum.inr (_)=>(some (Sum.inr<| Aa))))
def AGw (fuel:Nat) (Ag:LiI) (Ac Ah Ae Aa:Int) (Ab:LiI):Option ((Int × LiI) ⊕ ((LiI))):=
  (if Aa < (Ag.length:Int) then ((gI Ab Ae).bind fun Ad=>((gI Ab Ac).bind fun Af=>((gI Af Ac).bind fun Ai=>((gI Ad Aa).bind fun Aj=>((APs fuel Ai Aj).bind fun Ak=>((gI Ad Ac).bind fun Am=>((gI Af Aa).bind fun Ao=>((APs fuel Am Ao).bind fun Ap=>((Aqd fuel Ak Ap).bind fun Aq=>((AD9 fuel Aq Ah).bind fun Ar=>(some (Sum.inl ((w64 (Aa + 1)),(sI Ab Ae (sI Ad Aa Ar))))))))))))))) else (some (Sum.inr<| Ab)))
def AGx (fuel:Nat) (Ab:LiI) (Ac Ae Aa:Int) (Ad:LiI):Option ((Int × LiI) ⊕ ((LiI))):=
  (if Aa < (Ab.length:Int) then ((iter (fun s=>AGw fuel Ab Ac Ae Aa s.1 s.2) fuel ((w64 (Ac + 1)),Ad)).bind (fun (Af:LiI)=>(some (Sum.inl ((w64 (Aa + 1)),Af))))) else (some (Sum.inr<| Ad)))
def AGy (fuel:Nat) (Ac:LiI) (Ae:Bool) (Aa:Int) (Ab:LiI) (Af:Int):Option ((Bool × Int × LiI × Int) ⊕ ((Int) ⊕ (Bool × Int))):=
  (if Aa < (Ac.length:Int) then ((((((iter (fun s=>AGv fuel Ac Aa Ab s) fuel Aa).bind (fun (Ah:Int)=>(some ( Ah)))):Option ((Int))).bind (fun (Ad:Int)=>(if Ad=(Ac.length:Int) then (some (Sum.inl <| 0)) else (((if Aa < Ad then ((gI Ab Aa).bind fun Ai=>((gI Ab Ad).bind fun Aj=>(some ( ((!Ae),(sI (sI Ab Ad Ai) Aa Aj)))))) else (some ( (Ae,Ab)))):Option ((Bool × LiI))).bind (fun ((Ak,Am):Bool × LiI)=>((iter (fun s=>AGx fuel Ac Aa Af s.1 s.2) fuel ((w64 (Aa + 1)),Am)).bind (fun (Ag:LiI)=>((gI Ag Aa).bind fun Ao=>((gI Ao Aa).bind fun Ap=>(some (Sum.inr <| (Ak,Ag,Ap)))))))))))):Option ((Int) ⊕ (Bool × LiI × Int))).bind (fun ex=>match ex with | Sum.inl Aq=>(some (Sum.inr<| Sum.inl <| Aq)) | Sum.inr ((Ar,Au,Av))=>(some (Sum.inl (Ar,(w64 (Aa + 1)),Au,Av))))) else (some (Sum.inr<| Sum.inr <| (Ae,Af))))
def AC4 (fuel:Nat) (a3:LiI):Option Int:=
  ((AFz fuel a3).bind fun Aa=>((AKv fuel 1).bind fun Ad=>((iter (fun s=>AGy fuel Aa s.1 s.2.1 s.2.2.1 s.2.2.2) fuel (false,0,Aa,Ad)).bind (fun ex=>match ex with | Sum.inl Ae=>(some Ae) | Sum.inr ((Af,Ab))=>(if Af=true then ((Acw fuel Ab).bind fun Ag=>(some Ag)) else (some Ab))))))
theorem AEb {fuel:Nat} {h:ABh} {B1:Value} {a3:LiI} {r:Int} (H2:AFl cZ h B1 a3) (hp:AC4 fuel a3=some r):AB7 Tryz.prog 85 #[B1] h (fun x h'=>Ext h h'/\ ∃ (x0:Value),x=x0/\ZZ h' x0 r):=by
 unfold AC4 at hp;refine cwf (l:=[_]) Tryz.func85 rfl rfl (ABi (ADx [.bool false,.slice none 0 0] AJ3 rfl trivial tt2 fun b5 h6 V7 E8 S9=>AMg (Wk ?_)));have B4:=(Kst.k0 h).nb E8 S9 V7;obtain ⟨B5,Dj,Dk⟩:=ABl hp;refine ACu rfl (AMa (H2.ext B4.x) Dj) fun Ao Jo Dl Dn=>?_;obtain ⟨Jp,Do,Dp,Dq,rfl,Dr,Ds⟩:=Dn;refine ACq (Wk ?_);have B6:=B4.no2 Dl Ds Dr;refine ADg AD8 rfl (B6.o2 p0).rd (ACq ?_);obtain ⟨Dt,Du,Dv⟩:=ABl Dk;refine ACu rfl (AJp Du) fun Jq Jr Dw Dx=>?_;obtain ⟨Js,rfl,Dy⟩:=Dx;obtain ⟨B7,rfl,Dz⟩:=Dy.cs;refine ADx [.bool false,.slice none 0 0] AJ3 rfl trivial tt2 fun B8 D0 D1 D2 D3=>?_;have Ay:=((B6.e Dw).az Dz).nb D2 D3 D1;refine ADi B7 ACp (cZ.klen (Ay.z p1)) (cZ.klen (ACj D0)) rfl rfl (cZ.one (Ay.z p1)) (Ay.b p0) fun Jt D4 D5=>ABp (ABm (ABi (ABp (ABq ?_))));have B9:=Ay.sb p0 D5 D4 rfl;obtain ⟨Ba,D6,Bb⟩:=ABl Dv;obtain ⟨D7,D8,D9⟩:=ACg D6;refine ACi 2658455991569831745807614120560625600 (fun x:(Bool) × (Int) × (LiI) × LnA × LnN × LvA × (Int) × LvA=>[(6,(.bool x.1)),(7,(.int .i64 x.2.1))]) (fun k x h'=>iter D7 k (x.1,x.2.1,x.2.2.1,x.2.2.2.2.2.2.1)=some Ba/\Kst h h' (((B9.L.set 2 (aO2 cZ 112 109 x.2.2.2.1 x.2.2.2.2.1 x.2.2.2.2.2.1 Ao x.2.2.1)).set 1 (aZ x.2.2.2.2.2.2.2 x.2.2.2.2.2.2.1)).set 0 (aB 109 B8 x.2.2.2.2.2.2.2))) (by kernel_rfl) fuel ((false,0,B5,Do,Dp,Dq,Dt,B7):(Bool) × (Int) × (LiI) × LnA × LnN × LvA × (Int) × LvA) ?_ ⟨rfl,rfl,trivial⟩ ?_
 ·exact ⟨D9,B9⟩
 rintro Ju ⟨Ca,Af,Cb,Ea,Eb,Ec,Jv,Az⟩ Jw Ed ⟨Ee,Ab⟩;obtain ⟨Ef,Jx,rfl,Ap,Aq⟩:=AB3 Ee;rw [D8] at Ap;dsimp only at Ap;unfold AGy at Ap;refine ABm (ABi (Wk (Wk (ACx rfl rfl (ABo (⟨_,rfl,fun Bc=>?_,fun Bc=>?_⟩))))))
 ·refine ABs (q_t ?_);obtain ⟨Eg,Eh,Cd⟩:=ABl (AC1 Ap Bc);refine AN1 2658455991569831745807614120558593856 (fun x:(Bool) × (LiI) × LnA × LnN × LvA × (Int) × LvA=>[(6,(.bool x.1))]) (fun x h'=>(Sum.inr <| (x.1,x.2.1,x.2.2.2.2.2.1))=Eg/\Kst h h' (((Ab.L.set 2 (aO2 cZ 112 109 x.2.2.1 x.2.2.2.1 x.2.2.2.2.1 Ao x.2.1)).set 1 (aZ x.2.2.2.2.2.2 x.2.2.2.2.2.1)).set 0 (aB 109 B8 x.2.2.2.2.2.2))) ?_ ?_
  ·refine ABq (ABi (Wk (ABp ?_)));obtain ⟨Ei,Ej,Ce⟩:=ABl Eh;refine AN1 274873712896 (fun x:(Int)=>[(8,(.int .i64 x))]) (fun x h'=>( x)=Ei/\Kst h h' (Ab.L)) ?_ ?_
   ·refine ABq ?_;obtain ⟨Be,Ek,Cf⟩:=ABl Ej;obtain ⟨El,Em,En⟩:=ACg Ek;refine ACi 274873712896 (fun x:(Int)=>[(8,(.int .i64 x))]) (fun k x h'=>iter El k x=some Be/\Kst h h' (Ab.L)) (by kernel_rfl) fuel (Af:(Int)) ?_ ⟨rfl,trivial⟩ ?_
    ·exact ⟨En,Ab⟩
    rintro Jy Ar Jz J0 ⟨Eo,Ah⟩;obtain ⟨Ep,J1,rfl,A3,Au⟩:=AB3 Eo;rw [Em] at A3;dsimp only at A3;unfold AGv at A3;obtain ⟨Er,Cg,Bf⟩:=ABl A3;refine AN1 68715282432 (fun x:Unit=>[]) (fun x h'=>(Sum.inl <| ())=Er/\Kst h h' (Ah.L)) ?_ ?_
    ·refine ABi (Wk (Wk (ACx rfl rfl (Wk ?_))));by_cases A4:Ar < (B5.length:Int)
     ·rw [decide_eq_true A4];refine ACk 25 true (Wk (ACk 25 true (Wk (ACk 25 true ?_))));obtain ⟨J2,Bg,Es⟩:=ABl (ifT Cg A4);refine ADu AD8 rfl (Ah.o2 p2) rfl Bg fun J3 J4 J5 Et Eu=>ACk 25 true (AB4 AHs rfl Eu (ACk 25 true (Wk (ACk 25 true ?_))));obtain ⟨J6,Ch,Ev⟩:=ABl Es;refine AE7 (m:=Ar) AG7 rfl (Ah.o2 p2) Et Bg rfl Ch fun J7 Ew=>ACk 25 true ?_;obtain ⟨J8,Ey,Ez⟩:=(Ah.o2 p2).cells Ew Bg Ch;have Bh:=Ah.az Ey;refine AUo (c:=cZ) ACp rfl (Bh.z p0) (fun j u hu=>(Ez j u hu)) (ACk 25 true ?_);obtain ⟨J9,Fa,Ci⟩:=ABl Ev;refine ACu rfl (AUs (Bh.z p0).2 Fa) fun Ka Kb Fb Fc=>?_;subst Fc;refine ACk 25 true (ADo rfl rfl (ABy rfl (ABo ?_)));have Cj:=Bh.e Fb;refine ⟨_,rfl,fun Bi=>?_,fun Bi=>?_⟩
      ·refine ABs (q_t ?_);exact ⟨(():Unit),⟨ABk (AC1 Ci Bi),Cj.sel [1,2,3,4] (by decide)⟩,trivial⟩
      ·obtain rfl:=ABk (AC2 Ci Bi);obtain rfl:=ABk Bf;change _=Be at Au;subst Au;refine ACb (AB9 (AB9 (ADj (q_t ?_))));exact ⟨(Ar:(Int)),⟨ABk Cf,Cj.sel [1,2,3,4] (by decide)⟩,rfl,trivial⟩
     ·rw [decide_eq_false A4];refine ALh 25 false (AOf 25 false (ABu rfl (ABo (ACc rfl ?_))));obtain rfl:=ABk (ifF Cg A4);obtain rfl:=ABk Bf;change _=Be at Au;subst Au;refine ACb (AB9 (AB9 (ADj (q_t ?_))));exact ⟨(Ar:(Int)),⟨ABk Cf,Ah⟩,rfl,trivial⟩
    rintro ⟨⟩ Kc Kd ⟨Fd,Fe⟩;subst Fd;refine ABq (ABw (Wk (ACy rfl rfl (ACd (ACl (q_b (q_t ?_)))))));obtain rfl:=ABk Bf;exact ⟨Ep,((w64 (Ar + 1)):(Int)),Nat.lt_succ_self _,⟨Au,Fe⟩,rfl,trivial⟩
   rintro Ff Ke Bj ⟨Fg,Ag⟩;subst Fg;refine ABm (ABi (Wk (Wk (ADo rfl rfl (ABo (⟨_,rfl,fun Bl=>?_,fun Bl=>?_⟩))))))
   ·refine ABi (ALa (Aco ) (ADi [Value.bool false,Value.slice none 0 0] ACp (cZ.klen (ACj Bj)) (cZ.klen (ACj Bj)) rfl rfl (cZ.one (ACj Bj)) (Ag.b p3) fun Ck Fh Fi=>ABo ?_));have Cm:=Ag.sb p3 Fi Fh rfl;obtain rfl:=ABk (AC1 Ce Bl);obtain rfl:=ABk Cd;change _=Ba at Aq;subst Aq;refine ABr (AB0 (ADn (AB0 (AB0 (ADn (AB0 ?_))))));obtain rfl:=ABk Bb;exact ⟨_,AFi ACp (cZ.klen (ACj Ck)) rfl (Cm.b p3),Cm.x,_,rfl,(ACj Ck).2⟩
   ·refine ABs (q_t ?_);obtain ⟨Fj,Cn,Fk⟩:=ABl (AC2 Ce Bl);refine AN1 2305838611167182912 (fun x:(Bool) × (LiI) × LnA × LnN × LvA=>[(6,(.bool x.1))]) (fun x h'=>( (x.1,x.2.1))=Fj/\Kst h h' (Ag.L.set 2 (aO2 cZ 112 109 x.2.2.1 x.2.2.2.1 x.2.2.2.2 Ao x.2.1))) ?_ ?_
    ·refine ABi (Wk (Wk (AIm rfl rfl (ABo (⟨_,rfl,fun Bm=>?_,fun Bm=>?_⟩)))))
     ·refine ABm (AMh (Wk (Wk (Wk (Wk (Wk (Wk ?_)))))));obtain ⟨Fl,Co,Fm⟩:=ABl (AC1 Cn Bm);refine ADu AD8 rfl (Ag.o2 p2) rfl Co fun Kf Kg Kh Fo Fp=>AB4 AHs rfl Fp (Wk (Wk ?_));obtain ⟨Fq,Cp,Fr⟩:=ABl Fm;refine ADu AD8 rfl (Ag.o2 p2) rfl Cp fun Ki Kj Kk Ft Fu=>AB4 AHs rfl Fu (AT8 AD8 AHs (Ag.o2 p2) Ft Fo Cp Co rfl rfl (fun _=>rfl) (fun _=>rfl) (fun _=>rfl) (fun _ _=>rfl) fun Kl Km Fv Fw Fx Kn Fy Fz F4=>ABo (ABw (Wk (AF8 rfl (ABp ?_)))));exact ⟨(((!Ca),(sI (sI Cb Ff Fl) Af Fq),Fv,Fw,Fx):(Bool) × (LiI) × LnA × LnN × LvA),⟨ABk Fr,(Ag.uo2 p2 Fz Fy F4)⟩,rfl,trivial⟩
     ·refine ABs (q_t ?_);exact ⟨((Ca,Cb,Ea,Eb,Ec):(Bool) × (LiI) × LnA × LnN × LvA),⟨ABk (AC2 Cn Bm),Ag⟩,rfl,trivial⟩
    rintro ⟨F5,F6,F7,F8,F9⟩ Ko Kp ⟨Ga,Cq⟩;subst Ga;refine ABm (ABi (Wk (ACy rfl rfl (ABp (ABq ?_)))));obtain ⟨Cr,Gb,Gc⟩:=ABl Fk;obtain ⟨Gd,Ge,Gf⟩:=ACg Gb;refine ACi 20769187434139301290749948462106112 (fun x:(Int) × (LiI) × LnA × LnN × LvA=>[(9,(.int .i64 x.1))]) (fun k x h'=>iter Gd k (x.1,x.2.1)=some Cr/\Kst h h' (Cq.L.set 2 (aO2 cZ 112 109 x.2.2.1 x.2.2.2.1 x.2.2.2.2 Ao x.2.1))) (by kernel_rfl) fuel (((w64 (Af + 1)),F6,F7,F8,F9):(Int) × (LiI) × LnA × LnN × LvA) ?_ ⟨rfl,trivial⟩ ?_
    ·exact ⟨Gf,Cq⟩
    rintro Kr ⟨Ai,Ct,Cu,Cv,Cw⟩ Kt Ku ⟨Gg,Aj⟩;obtain ⟨Gh,Kv,rfl,Av,Bn⟩:=AB3 Gg;rw [Ge] at Av;dsimp only at Av;unfold AGx at Av;refine ABm (ABi (Wk (Wk (ACx rfl rfl (ABo (⟨_,rfl,fun Bo=>?_,fun Bo=>?_⟩))))))
    ·refine ABs (q_t (ABm (ABq (ABi (Wk (ACy rfl rfl (ABp (ABq ?_))))))));obtain ⟨Cx,Gi,Gj⟩:=ABl (AC1 Av Bo);obtain ⟨Gk,Gl,Gm⟩:=ACg Gi;refine ACi 20769187434138129922501267905577984 (fun x:(Int) × (LiI) × LnA × LnN × LvA=>[(10,(.int .i64 x.1))]) (fun k x h'=>iter Gk k (x.1,x.2.1)=some Cx/\Kst h h' (Aj.L.set 2 (aO2 cZ 112 109 x.2.2.1 x.2.2.2.1 x.2.2.2.2 Ao x.2.1))) (by kernel_rfl) fuel (((w64 (Af + 1)),Ct,Cu,Cv,Cw):(Int) × (LiI) × LnA × LnN × LvA) ?_ ⟨rfl,trivial⟩ ?_
     ·exact ⟨Gm,Aj⟩
     rintro Kw ⟨Cy,Cz,C0,C1,C2⟩ Kx Bp ⟨Gn,Aa⟩;obtain ⟨Gp,Ky,rfl,Aw,Bq⟩:=AB3 Gn;rw [Gl] at Aw;dsimp only at Aw;unfold AGw at Aw;refine ABm (ABi (Wk (Wk (ACx rfl rfl (ABo (⟨_,rfl,fun Br=>?_,fun Br=>?_⟩))))))
     ·refine ABs (q_t (ABm (ABq (AEl (fun h'=>UpT [] Bp h') (by kernel_rfl) ?_))));have Ac:UpT [] Bp Bp:=UpT.start all_nil;refine Wk (Wk ?_);obtain ⟨Gq,Ad,Gr⟩:=ABl (AC1 Aw Br);refine ADu AD8 rfl (Aa.o2 p2) rfl Ad fun Kz K3 K5 Gt Gu=>AGj AHs rfl Ac (fun h' hb=>ABx Gu hb.ext) (Wk (Wk (Wk ?_)));obtain ⟨K6,Ak,Gv⟩:=ABl Gr;refine ADu AD8 rfl (Aa.o2 p2) rfl Ak fun K9 La Lb Gw Gx=>AGj AHs rfl Ac (fun h' hb=>ABx Gx hb.ext) (Wk ?_);obtain ⟨Lc,C3,Gy⟩:=ABl Gv;refine AE7 (m:=Af) AG7 rfl (Aa.o2 p2) Gw Ak rfl C3 fun Ld Gz=>?_;obtain ⟨Le,C4,G3⟩:=(Aa.o2 p2).cells Gz Ak C3;refine AT7 (c:=cZ) ACp rfl C4 Ac (fun h' hb j u hu=>ABx (G3 j u hu) hb.ext) (Wk (Wk (ADu AD8 rfl (Aa.o2 p2) rfl Ad fun Lf Lg Lh G4 G5=>AGj AHs rfl Ac (fun h' hb=>ABx G5 hb.ext) (Wk ?_))));obtain ⟨Li,A5,G6⟩:=ABl Gy;refine AE7 (m:=Ai) AG7 rfl (Aa.o2 p2) G4 Ad rfl A5 fun Lj G7=>?_;obtain ⟨Lk,C5,G8⟩:=(Aa.o2 p2).cells G7 Ad A5;refine AT7 (c:=cZ) ACp rfl C5 Ac (fun h' hb j u hu=>ABx (G8 j u hu) hb.ext) ?_;have Bt:=(Aa.az (cZ.upT C4 Ac)).az (cZ.upT C5 Ac);obtain ⟨Ll,G9,Hb⟩:=ABl G6;refine AC9 Ac (fun _ E=>Ac.thenE E) rfl (AN3 (Bt.z p1).2 (Bt.z p0).2 G9) fun Lm Ln C6 Hc=>?_;obtain ⟨Lo,rfl,Hd⟩:=Hc;have Ae:=Ac.thenE C6;obtain ⟨Lq,rfl,He⟩:=Hd.cs;refine Wk (Wk (ADu AD8 rfl (Aa.o2 p2) rfl Ad fun Lr Lu Lv Hf Hg=>AGj AHs rfl Ae (fun h' hb=>ABx Hg hb.ext) (Wk ?_)));obtain ⟨Lw,C7,Hh⟩:=ABl Hb;refine AE7 (m:=Ai) AG7 rfl (Aa.o2 p2) Hf Ad rfl C7 fun Lx Hj=>?_;obtain ⟨Ly,C8,Hk⟩:=(Aa.o2 p2).cells Hj Ad C7;refine AT7 (c:=cZ) ACp rfl C8 Ae (fun h' hb j u hu=>ABx (Hk j u hu) hb.ext) (Wk (Wk (ADu AD8 rfl (Aa.o2 p2) rfl Ak fun Lz Ma Mb Hl Hm=>AGj AHs rfl Ae (fun h' hb=>ABx Hm hb.ext) (Wk ?_))));obtain ⟨Mc,C9,Hn⟩:=ABl Hh;refine AE7 (m:=Af) AG7 rfl (Aa.o2 p2) Hl Ak rfl C9 fun Md Ho=>?_;obtain ⟨Me,Da,Hq⟩:=(Aa.o2 p2).cells Ho Ak C9;refine AT7 (c:=cZ) ACp rfl Da Ae (fun h' hb j u hu=>ABx (Hq j u hu) hb.ext) ?_;have Bu:=(((Bt.e C6).az He).az (cZ.upT C8 Ae)).az (cZ.upT Da Ae);obtain ⟨Mf,Hr,Hs⟩:=ABl Hn;refine AC9 Ae (fun _ E=>Ae.thenE E) rfl (AN3 (Bu.z p1).2 (Bu.z p0).2 Hr) fun Mg Mh Db Ht=>?_;obtain ⟨Mi,rfl,Hu⟩:=Ht;have Bv:=Ae.thenE Db;obtain ⟨Mj,rfl,Hv⟩:=Hu.cs;have Bw:=(Bu.e Db).az Hv;obtain ⟨Mk,Hw,Hx⟩:=ABl Hs;refine AC9 Bv (fun _ E=>Bv.thenE E) rfl (Ard (Bw.z p3).2 (Bw.z p0).2 Hw) fun Ml Mm Dc Hy=>?_;obtain ⟨Mo,rfl,Hz⟩:=Hy;have Bx:=Bv.thenE Dc;obtain ⟨Mq,rfl,H5⟩:=Hz.cs;have A6:=(Bw.e Dc).az H5;refine AEt Az ACp (cZ.klen (A6.z p8)) rfl Bx (fun h' hb=>((Aa.b p0).ext hb.ext).agg) ?_;obtain ⟨H9,Ia,Ib⟩:=ABl Hx;refine AC9 Bx (fun _ E=>Bx.thenE E) rfl (AH5 (A6.z p0).2 (A6.z p8).2 Ia) fun Mr Ms Ic Id=>?_;obtain ⟨Mt,rfl,Ie⟩:=Id;obtain ⟨Mu,rfl,If⟩:=Ie.cs;refine AE7 (m:=Ai) AG7 rfl (Aa.o2 p2) Gt Ad rfl A5 fun Mv Ih=>?_;have Ax:=(A6.e Ic).az If;refine AJo (m:=Ai) (AS5 ACp (cZ.klen (Ax.z p0)) rfl rfl (cZ.one (Ax.z p0))) (Ax.o2 p10) Ih Ad A5 (Ax.z p0) fun Mw Ii Ij=>ACl (q_b (q_t (ABw (Wk (ACy rfl rfl (ABp ?_))))));obtain rfl:=ABk Ib;exact ⟨Gp,(((w64 (Cy + 1)),(sI Cz Ai (sI Gq Cy H9)),C0,C1,C2):(Int) × (LiI) × LnA × LnN × LvA),Nat.lt_succ_self _,⟨Bq,(Ax.uO2 p10 Ij Ii).sel [8,9,10,11] (by decide)⟩,rfl,trivial⟩
     ·obtain rfl:=ABk (AC2 Aw Br);change _=Cx at Bq;subst Bq;refine ACb (AB9 (AB9 (ADj (q_b (q_t (ABw (Wk (ACy rfl rfl (ABp ?_)))))))));obtain rfl:=ABk Gj;exact ⟨Gh,(((w64 (Ai + 1)),Cz,C0,C1,C2):(Int) × (LiI) × LnA × LnN × LvA),Nat.lt_succ_self _,⟨Bn,Aa⟩,rfl,trivial⟩
    ·obtain rfl:=ABk (AC2 Av Bo);change _=Cr at Bn;subst Bn;refine ACb (AB9 (AB9 (ADj (q_t (ABw (Wk (Wk ?_)))))));obtain ⟨Mx,By,Ik⟩:=ABl Gc;refine ADu AD8 rfl (Aj.o2 p2) rfl By fun My Mz M1 Il Im=>AB4 AHs rfl Im (Wk ?_);obtain ⟨Io,Dd,Ip⟩:=ABl Ik;refine AE7 (m:=Af) AG7 rfl (Aj.o2 p2) Il By rfl Dd fun M2 Iq=>?_;obtain ⟨De,Ir,It⟩:=(Aj.o2 p2).cells Iq By Dd;have Am:=Aj.az Ir;refine AUo (c:=cZ) ACp rfl (Am.z p0) (fun j u hu=>(It j u hu)) (ADi De ACp (cZ.klen (Am.z p0)) (cZ.klen (Am.z p2)) rfl rfl (cZ.one (Am.z p0)) (Am.b p1) fun M3 Iu Iv=>ACl (q_b (q_t ?_)));exact ⟨((F5,Ct,Cu,Cv,Cw,Io,De):(Bool) × (LiI) × LnA × LnN × LvA × (Int) × LvA),⟨ABk Ip,(Am.sb p1 Iv Iu rfl).sel [1,0,3,4] (by decide)⟩,rfl,trivial⟩
  rintro ⟨Iw,Ix,Iy,Iz,I0,I1,I2⟩ M4 M5 ⟨I3,I6⟩;subst I3;refine ABw (Wk (ACy rfl rfl (ABp ?_)));obtain rfl:=ABk Cd;exact ⟨Ef,((Iw,(w64 (Af + 1)),Ix,Iy,Iz,I0,I1,I2):(Bool) × (Int) × (LiI) × LnA × LnN × LvA × (Int) × LvA),Nat.lt_succ_self _,⟨Aq,I6⟩,rfl,rfl,trivial⟩
 ·obtain rfl:=ABk (AC2 Ap Bc);change _=Ba at Aq;subst Aq;refine ACb (AB9 (AB9 (ADj (q_t (ABm (ABi (Wk (ABo (⟨_,rfl,fun Bz=>?_,fun Bz=>?_⟩)))))))))
  ·refine ABi (AG6 Az ACp (cZ.klen (Ab.z p1)) rfl (Ab.b p0).agg ?_);obtain ⟨M6,I7,I9⟩:=ABl (ifT Bb Bz);refine ACu rfl (Aa7 (Ab.z p1).2 I7) fun M7 Ja Jc Je=>?_;obtain ⟨M8,rfl,Jf⟩:=Je;obtain ⟨Jg,rfl,Jh⟩:=Jf.cs;have A7:=(Ab.e Jc).az Jh;refine ADi Jg ACp (cZ.klen (A7.z p0)) (cZ.klen (ACj Ja)) rfl rfl (cZ.one (A7.z p0)) (A7.b p4) fun M9 Ji Jj=>ABo (ABr (AB0 ?_));have A8:=A7.sb p4 Jj Ji rfl;obtain rfl:=ABk I9;exact ⟨_,AFi ACp (cZ.klen (A8.z p0)) rfl (A8.b p4),A8.x,_,rfl,(A8.z p0).2⟩
  ·refine ABs (q_t (ABi (AG6 Az ACp (cZ.klen (Ab.z p1)) rfl (Ab.b p0).agg (ADi Az ACp (cZ.klen (Ab.z p1)) (cZ.klen (ACj Ed)) rfl rfl (cZ.one (Ab.z p1)) (Ab.b p3) fun Na Jk Jl=>ABo (ABr ?_)))));have A9:=Ab.sb p3 Jl Jk rfl;obtain rfl:=ABk (AIz Bb Bz);exact ⟨_,AFi ACp (cZ.klen (A9.z p1)) rfl (A9.b p3),A9.x,_,rfl,(A9.z p1).2⟩
end Go.Proofs.YtiegjkmfpcgjjaaGreatDoor
namespace Go.Proofs.YtiegjkmfpcgjjaaGreatDoor
open Go Go.QF
set_option maxRecDepth 100000
theorem Ald {na:Bool} {m:Nat} {z:Int} (h:z=sgn na m):AHb z=1->z=m:=by
 cases na
 ·intro _;rw [h];rfl
 ·intro h1;rw [h] at h1 ⊢;unfold AHb sgn at h1;unfold sgn;simp at h1 ⊢;split at h1 <;> (try split at h1) <;> omega
theorem Ale {na:Bool} {m:Nat} {z:Int} (h:z=sgn na m):AHb z= -1->z= -(m:Int):=by
 cases na
 ·intro h1;rw [h] at h1 ⊢;unfold AHb sgn at h1;unfold sgn;simp at h1 ⊢;split at h1 <;> (try split at h1) <;> omega
 ·intro _;rw [h];rfl
def AQo (a b:Int):Int:=if a < b then -1 else if a=b then 0 else 1
theorem Afh {a b:Int} (h:AHb a≠AHb b) (h2:AHb a < AHb b):AQo a b= -1:=by
 unfold AHb at h h2;unfold AQo;repeat' split at h2
 all_goals (rw [if_pos (by omega)])
theorem Afi {a b:Int} (h:AHb a≠AHb b) (h2: ¬ AHb a < AHb b):AQo a b=1:=by
 unfold AHb at h h2;unfold AQo
 rw [if_neg (by
   repeat' split at h2
   all_goals (repeat' split at h)
   all_goals omega),if_neg (by
     repeat' split at h2
     all_goals (repeat' split at h)
     all_goals omega)]
theorem Aa8 {na nb:Bool} {m k:Nat} {a b:Int} (ha:a=sgn na m) (hb:b=sgn nb k) (h:AHb a=AHb b):AHb a * AR9 m k=AQo a b:=by
 have h3:AHb a= -1∨AHb a=0∨AHb a=1:=by unfold AHb;split;exact .inl rfl;split;exact .inr (.inl rfl);exact .inr (.inr rfl)
 rcases h3 with h1 | h1 | h1
 ·have e1:=Ale ha h1;have e2:=Ale hb (h ▸ h1);rw [h1];unfold AR9 AQo;repeat' split
  all_goals omega
 ·have z:∀ x:Int,AHb x=0->x=0:=fun x hx=>by unfold AHb at hx;repeat' split at hx;all_goals omega
  have e1:=z a h1;have e2:=z b (h ▸ h1);rw [h1,e1,e2];simp [AQo]
 ·have e1:=Ald ha h1;have e2:=Ald hb (h ▸ h1);rw [h1];unfold AR9 AQo;repeat' split
  all_goals omega
theorem Aok (a b:Nat): -1<=AR9 a b/\AR9 a b<=1:=by
 unfold AR9;repeat' split;all_goals omega
theorem Aol (a:Int): -1<=AHb a/\AHb a<=1:=by
 unfold AHb;repeat' split;all_goals omega
theorem Aom {x y:Int} (hx: -1<=x/\x<=1) (hy: -1<=y/\y<=1):IntKind.i64.wrap (x * y)=x * y:=by
 obtain ⟨x1,x2⟩:=hx;obtain ⟨y1,y2⟩:=hy;have Aa:x= -1∨x=0∨x=1:=by omega
 have Ab:y= -1∨y=0∨y=1:=by omega
 rcases Aa with rfl | rfl | rfl <;> rcases Ab with rfl | rfl | rfl <;> decide
theorem Aon {h:ABh} {lo:Nat} {va:Value} {z:Int} (HA:ZV h lo va z):AB7 Tryz.prog 117 #[va] h fun x h'=>Ext h h'/\ZV h' (Array.size h) x (z.natAbs:Int):=by
 obtain ⟨na,sa,LA,rfl,HDa,htla,hla,hza⟩:=HA.out;have hna:LA.length<=1000000:=by omega
 have hba:nv LA < 4294967296 ^ 100:=Nat.lt_of_lt_of_le (AOy HDa.dig) (Nat.pow_le_pow_right (by decide) hla);refine ACw (l:=[_]) mx Tryz.func117 rfl rfl rfl rfl rfl (by kernel_rfl) (ABi (AL3 [.bool na,sa] (fun _=>trivial) rfl rfl fun Ag h2 V3 E4 Ao Be=>?_));have Bf:Array.size h<=Ag:=Ao;have Bg:=E4.1;have Z8:=(Ext.refl h).trans E4;refine AJn [.bool false,.slice none 0 0] AJ3 rfl (fun _=>trivial) fun Aa Bh Aq Ab Ar Bi=>?_;have Bj:Array.size h<=Aa:=Nat.le_trans E4.1 Ar;have nebq1bq9:Ag≠Aa:=by have:=V3.lt;omega
 have Bl:=Ab.1;have Au:=Z8.trans Ab;have Ai:=E4.trans Ab;have Av:=E4.trans Ab;refine AMg (AJj (fs:=1) AOh (by kernel_rfl) (by decide) rfl (AB4 ALq rfl ((V3.ext Ab).cell (i:=1) rfl) (ACm trivial rfl (AK3 false (HDa.ext Ai) hna hba) fun Bm Bn hk=>?_)));obtain ⟨Ac,Aw⟩:=hk;refine ⟨trivial,?_⟩;have Bo:=Ac.1;have Ax:=Au.trans Ac;have Ay:=Ai.trans Ac;have Az:=Av.trans Ac;have A3:=Aq.ext Ac;have A4:=Ab.trans Ac;obtain ⟨Aj,s3,L3,rfl,Am,A6,A7,A8⟩:=Aw.out;refine ADi [.bool Aj,s3] ACp rfl rfl rfl rfl (AIy Am.cap) A3 fun Bp A9 Ad=>?_;have Ba:=Ay.thenUpd Ad (fun k hk=>by have Af:k=Aa:=hk;omega);have Bq:=Ad.1;have Br:=Ax.thenUpd Ad (fun k hk=>by have Af:k=Aa:=hk;omega);have Bt:=A4.thenUpd Ad (fun k hk=>by have Af:k=Aa:=hk;omega);have Bu:=Az.thenUpd Ad (fun k hk=>by have Af:k=Aa:=hk;omega);have Bb:=Am.updLo Ad (by omega);refine ABo (ABr (⟨_,AFi ACp rfl rfl A9,?_⟩));exact ⟨Ba,⟨Aj,s3,L3,rfl,Bb.mono (by omega),A6,A7,by rw [<- A8,AJa hza];rfl⟩⟩
theorem Aoo {h:ABh} {la lb:Nat} {va vb:Value} {a b:Int} (HA:ZV h la va a) (HB:ZV h lb vb b):AB7 Tryz.prog 84 #[va,vb] h fun x h'=>Ext h h'/\x= .int .i64 (AQo a b):=by
 obtain ⟨na,sa,LA,rfl,HDa,htla,hla,hza⟩:=HA.out;obtain ⟨nb,sb,LB,rfl,HDb,htlb,hlb,hzb⟩:=HB.out;refine ACw (l:=[_,_]) mx Tryz.func84 rfl rfl rfl rfl rfl (by kernel_rfl) (ABi (AL3 [.bool na,sa] (fun _=>trivial) rfl rfl fun Aq h2 V3 E4 A7 B3=>?_));have B4:Array.size h<=Aq:=A7;have B5:=E4.1;have Z8:=(Ext.refl h).trans E4;refine AL3 [.bool nb,sb] (fun _=>trivial) rfl rfl fun Au Av Aw Ag A9 B6=>?_;have B7:Array.size h<=Au:=Nat.le_trans E4.1 A9;have nebq1bq9:Aq≠Au:=by have:=V3.lt;omega
 have B8:=Ag.1;have Ba:=Z8.trans Ag;have Ax:=E4.trans Ag;have Ay:=V3.ext Ag;have Bb:=E4.trans Ag;refine ABp (ABm (AEl (fun h'=>Ext Av h') (by kernel_rfl) ?_));have Af:=Ext.refl Av;refine AEt [.bool na,sa] ACp rfl rfl Af (fun h' hb=>(Ay.ext hb).agg) (ACm Af rfl (ASn (HA.ext Ax)) fun B9 Ca hk=>?_);obtain ⟨Ab,rfl⟩:=hk;have Ai:=Af.trans Ab;refine ⟨Ai,?_⟩;have Cb:=Ab.1;have Bc:=Ba.trans Ab;have Az:=Ax.trans Ab;have Be:=Ay.ext Ab;have Bf:=Bb.trans Ab;have Bg:=Aw.ext Ab;have Bh:=Ag.trans Ab;refine AEt [.bool nb,sb] ACp rfl rfl Ai (fun h' hb=>(Aw.ext hb).agg) (ACm Ai rfl (ASn (HB.ext Az)) fun Cd A3 hk=>?_);obtain ⟨Ac,rfl⟩:=hk;have Bi:=Ai.trans Ac;refine ⟨Bi,?_⟩;have Ce:=Ac.1;have Bj:=Bc.trans Ac;have Ad:=Az.trans Ac;have A4:=Be.ext Ac;have Bl:=Bf.trans Ac;have A5:=Bg.ext Ac;have Bm:=Bh.trans Ac;refine ACd (ABp (ABm (ABi (Wk (Wk (ATp rfl rfl (fun Bn=>?_) (fun Bn=>?_)))))))
 ·refine ABo (AB8 rfl (ABm (ABi (Wk (Wk (AFf rfl rfl (fun Bo=>?_) (fun Bo=>?_)))))))
  ·refine ABo (AB8 rfl (ABi (ABp (ABr (AB0 (AB0 (⟨_,ABt,?_⟩)))))));first | exact ⟨Ad,congrArg (Value.int .i64) (by rw [Ak,Am];exact Aa8 hza hzb (by omega))⟩ | exact ⟨Ad,congrArg (Value.int .i64) (Afh (by assumption) (by assumption)).symm⟩ | exact ⟨Ad,congrArg (Value.int .i64) (Afi (by assumption) (by omega)).symm⟩
  ·refine ABo (ACc rfl (ABs (q_t (ABi (ABp (ABr (AB0 (⟨_,ABt,?_⟩))))))));first | exact ⟨Ad,congrArg (Value.int .i64) (by rw [Ak,Am];exact Aa8 hza hzb (by omega))⟩ | exact ⟨Ad,congrArg (Value.int .i64) (Afh (by assumption) (by assumption)).symm⟩ | exact ⟨Ad,congrArg (Value.int .i64) (Afi (by assumption) (by omega)).symm⟩
 ·refine ABo (ACc rfl (ABs (q_t (ABm (AEl (fun h'=>Ext A3 h') (by kernel_rfl) ?_)))));have Af:=Ext.refl A3;refine Wk (AJj (fs:=1) AOh (by kernel_rfl) (by decide) rfl (AGj ALq rfl Af (fun h' hb=>(A4.ext hb).cell (i:=1) rfl) (ACm Af rfl (AIl (DS.ext HDa Ad) (by omega)) fun Cf Cg hk=>?_)));obtain ⟨Ae,L1,Bp,Bq,Ak,Ci⟩:=hk;have Aj:=Af.trans Ae;refine ⟨Aj,?_⟩;have Cj:=Ae.1;have Br:=Bj.trans Ae;have A6:=Ad.trans Ae;have Bt:=A4.ext Ae;have Bu:=Bl.trans Ae;have Bv:=A5.ext Ae;have Bw:=Bm.trans Ae;refine AJj (fs:=1) AOh (by kernel_rfl) (by decide) rfl (AGj ALq rfl Aj (fun h' hb=>(A5.ext hb).cell (i:=1) rfl) (ACm Aj rfl (AIl (DS.ext HDb A6) (by omega)) fun Ck Bx hk=>?_));obtain ⟨Aa,L2,By,Bz,Am,Cn⟩:=hk;have Ao:=Aj.trans Aa;refine ⟨Ao,?_⟩;have Co:=Aa.1;have Cp:=Br.trans Aa;have Ap:=A6.trans Aa;have Cq:=Bt.ext Aa;have Cr:=Bu.trans Aa;have Ct:=Bv.ext Aa;have Cu:=Bw.trans Aa;have B1:=Bp.ext Aa;refine ACm Ao rfl (AWu B1 By Bq Bz (by omega) (by omega)) fun Cv Bx hk=>?_;obtain ⟨rfl,rfl⟩:=hk;refine ⟨Ao,?_⟩;refine AL8 rfl rfl ?_;rw [Aom (Aol _) (Aok _ _)];refine ABp (ABr (⟨_,ABt,?_⟩));first | exact ⟨Ap,congrArg (Value.int .i64) (by rw [Ak,Am];exact Aa8 hza hzb (by omega))⟩ | exact ⟨Ap,congrArg (Value.int .i64) (Afh (by assumption) (by assumption)).symm⟩ | exact ⟨Ap,congrArg (Value.int .i64) (Afi (by assumption) (by omega)).symm⟩
def Ag6 (fuel:Nat) (a:Int):Option Int:=some (a.natAbs:Int)
def AZr (fuel:Nat) (a b:Int):Option Int:=some (AQo a b)
theorem Afj {fuel:Nat} {h:ABh} {u:Value} {a r:Int} (H1:ZZ h u a) (hp:Ag6 fuel a=some r):AB7 Tryz.prog 117 #[u] h (fun x h'=>Ext h h'/\ ∃ (x0:Value),x=x0/\ZZ h' x0 r):=by
 cases hp;exact (Aon H1).mono fun x h' hk=>⟨hk.1,x,rfl,hk.2.zz⟩
theorem AYd {fuel:Nat} {h:ABh} {u v:Value} {a b r:Int} (H1:ZZ h u a) (H2:ZZ h v b) (hp:AZr fuel a b=some r):AB7 Tryz.prog 84 #[u,v] h (fun x h'=>Ext h h'/\x= .int .i64 r):=by
 cases hp;exact Aoo H1 H2
end Go.Proofs.YtiegjkmfpcgjjaaGreatDoor
namespace Go.Proofs.YtiegjkmfpcgjjaaGreatDoor
open Go Go.QF
set_option maxRecDepth 100000
set_option maxHeartbeats 4000000
def AI3 (fuel:Nat) (a3:LiI) (Ab:Int) (Af:LiA) (Aa:Int) (Ac:LiI):Option ((Int × LiI) ⊕ (((LiI × Bool)) ⊕ (LiI))):=
  (if Aa < (Af.length:Int) then ((gI a3 Ab).bind fun Ag=>((gI Ag Aa).bind fun Ah=>((Aa6 fuel Ah).bind fun (Ai,Aj)=>(if (!Aj)=true then (some (Sum.inr<| Sum.inl <| ([],false))) else ((gI Ac Ab).bind fun Ad=>((gI Ad Aa).bind fun Ak=>(some (Sum.inl ((w64 (Aa + 1)),(sI Ac Ab (sI Ad Aa Ai))))))))))) else (some (Sum.inr<| Sum.inr <| Ac)))
def AI4 (fuel:Nat) (a3:LiI) (x5 x6 Aa:Int) (Ac:LiI):Option ((Int × LiI) ⊕ (((LiI × Bool)) ⊕ (LiI))):=
  (if Aa < ((List.replicate (Int.toNat x5) ([]:List Int)).length:Int) then (if 0<=x6/\x6<=100000000 then ((gI Ac Aa).bind fun Ai=>((gI (sI Ac Aa (List.replicate (Int.toNat x6) (0:Int))) Aa).bind fun Af=>((iter (fun s=>AI3 fuel a3 Aa Af s.1 s.2) fuel (0,(sI Ac Aa (List.replicate (Int.toNat x6) (0:Int))))).bind (fun ex=>match ex with | Sum.inl Ag=>(some (Sum.inr<| Sum.inl <| Ag)) | Sum.inr (Ah)=>(some (Sum.inl ((w64 (Aa + 1)),Ah))))))) else none) else (some (Sum.inr<| Sum.inr <| Ac)))
def AGb (fuel:Nat) (a3:LiI):Option (LiI × Bool):=
  ((ADh fuel a3).bind fun (x5,x6,x7)=>(if (!x7)=true then (some ([],false)) else (if 0<=x5/\x5<=100000000 then ((iter (fun s=>AI4 fuel a3 x5 x6 s.1 s.2) fuel (0,(List.replicate (Int.toNat x5) ([]:List Int)))).bind (fun ex=>match ex with | Sum.inl Ae=>(some Ae) | Sum.inr (Af)=>(some (Af,true)))) else none)))
theorem APh {fuel:Nat} {h:ABh} {A4:Value} {a3:LiI} {r:(LiI × Bool)} (H2:AFl cZ h A4 a3) (hp:AGb fuel a3=some r):AB7 Tryz.prog 56 #[A4] h (fun x h'=>Ext h h'/\ ∃ (x0:Value) (F0:List Nat) (Bt:List LnA) (Bu:List Value),x= .tuple #[x0,.bool r.2]/\AFg (cI .i64) 23 2 h' F0 Bt Bu x0 r.1/\Sp h' h.size [F0]):=by
 unfold AGb at hp;refine cwf (l:=[_]) Tryz.func56 rfl rfl (ABi (ACd (ACq (Wk ?_))));have K0:=Kst.k0 h;obtain ⟨⟨x5,x6,x7⟩,Bx,Aj⟩:=ABl hp;dsimp only at Aj;refine ACu rfl (AG2 (H2.ext K0.x) Bx) fun Dq Dr By Bz=>?_;subst Bz;refine Wk (ACz rfl rfl (ACz rfl rfl (ACz rfl rfl (ACd (ACd (ABp (ABm (ABi (Wk (AF8 rfl (ABo ?_)))))))))));have Ba:=K0.e By;refine ⟨_,rfl,fun Ak=>?_,fun Ak=>?_⟩
 ·refine ABi (ACd (ABp (ABr (AB0 ?_))));have Am:=Kst.anil2 (cI .i64) 23 2 Ba;obtain rfl:=ABk (ifT Aj Ak);exact ⟨_,AC8,Am.x,_,_,_,_,rfl,(Am.o2 p0),Am.s.sel [0] (by decide)⟩
 ·refine ABs (q_t (ABi (Wk ?_)));obtain ⟨B1,B2⟩:=ifN (AIz Aj Ak);refine AUp (cI .i64) 2 AB2 AMl rfl trivial tt2 rfl rfl (by decide) B1 fun B3 B4 B5 Bb Ds B6 B7 B8=>ABp (ABm (ABi (Wk ?_)));have Ao:=Ba.no2 B7 B8 B6;refine ADg AB2 rfl (Ao.o2 p0).rd (Wk (ABo (ABq ?_)));obtain ⟨Ap,B9,Bc⟩:=ABl B2;obtain ⟨Ca,Cb,Cd⟩:=ACg B9;refine ACi 4611686018410614540 (fun x:(Int) × (LiI) × LnA × LnN × LvA=>[(24,(.int .i64 x.1))]) (fun k x h'=>iter Ca k (x.1,x.2.1)=some Ap/\Kst h h' (Ao.L.set 0 (aO2 (cI .i64) 23 2 x.2.2.1 x.2.2.2.1 x.2.2.2.2 Bb x.2.1))) (by kernel_rfl) fuel ((0,(List.replicate (Int.toNat x5) ([]:List Int)),B3,B4,B5):(Int) × (LiI) × LnA × LnN × LvA) ?_ ⟨rfl,trivial⟩ ?_
  ·exact ⟨Cd,Ao⟩
  rintro Dt ⟨Aa,Ce,Du,Be,Cf⟩ Dv Dw ⟨Cg,Ai⟩;obtain ⟨Ch,Dx,rfl,Ac,Ad⟩:=AB3 Cg;rw [Cb] at Ac;dsimp only at Ac;unfold AI4 at Ac;refine ABi (ACx rfl rfl (ABo (ABm (⟨_,rfl,fun Aq=>?_,fun Aq=>?_⟩))))
  ·refine ABs (q_t (ABm (ABq (ABi (Wk (ACq (Wk (Wk (Wk ?_)))))))));obtain ⟨Ci,Cj⟩:=ifN (AC1 Ac Aq);refine ARf (c:=(cI .i64)) (a:=0) ABv AHg rfl rfl (fun _=>rfl) rfl trivial tt2 rfl rfl (by decide) Ci fun Bf Ck Dy Cm Cn Co Cp=>?_;have Ae:=Ai.no Cn (AGu Co Cp) Cm;obtain ⟨Dz,Bg,Cq⟩:=ABl Cj;refine ADu AB2 rfl (Ae.o2 p1) rfl Bg fun Cr D0 Ct D1 D2=>AWc ACn (Ae.o2 p1) Bg Ct rfl rfl (Ae.o p0) (Ae.dj p0 p1 (by decide)) fun D3 Cu Cv Cw=>AMg (Wk (Wk ?_));have Ar:=Ae.m2 p0 p1 (by decide) Cv Cu (fun z hz=> .inl (Cw z hz));obtain ⟨D4,Bh,Cx⟩:=ABl Cq;refine ADu AB2 rfl (Ar.o2 p1) rfl Bh fun D5 D6 D7 Cy Cz=>AB4 ACn rfl Cz (ADr ABv rfl ((Ar.o2 p1).rowI Cy Bh) (Wk (ABo (ABq ?_))));obtain ⟨Au,C0,Bi⟩:=ABl Cx;obtain ⟨C1,C2,C3⟩:=ACg C0;have Av:=Ar.sel [1] (by decide);dsimp only [AI0,ALr] at Av;refine ACi 2305842871774744076 (fun x:(Int) × (LiI) × LnA × LnN × LvA=>[(37,(.int .i64 x.1))]) (fun k x h'=>iter C1 k (x.1,x.2.1)=some Au/\Kst h h' (Av.L.set 0 (aO2 (cI .i64) 23 2 x.2.2.1 x.2.2.2.1 x.2.2.2.2 Bb x.2.1))) (by kernel_rfl) fuel ((0,(sI Ce Aa (List.replicate (Int.toNat x6) (0:Int))),(Cr :: (Be.set (Int.toNat Aa) [Bf]).flatten),(Be.set (Int.toNat Aa) [Bf]),(Cf.set (Int.toNat Aa) Ck)):(Int) × (LiI) × LnA × LnN × LvA) ?_ ⟨rfl,trivial⟩ ?_
   ·exact ⟨C3,Av⟩
   rintro D8 ⟨Bj,Bl,Bm,Bn,Bo⟩ D9 Ea ⟨C4,Ab⟩;obtain ⟨C5,Eb,rfl,Af,Ag⟩:=AB3 C4;rw [C2] at Af;dsimp only at Af;unfold AI3 at Af;refine ABi (ACx rfl rfl (ABo (ABm (⟨_,rfl,fun Aw=>?_,fun Aw=>?_⟩))))
   ·refine ABs (q_t (ABm (ABq (ABi (Wk (ACq (Wk (Wk ?_))))))));obtain ⟨Ec,C6,C7⟩:=ABl (AC1 Af Aw);refine AIj AD8 rfl H2 rfl C6 fun Ed Ee Ef C8 C9=>AB4 AHs rfl (ABx C8 Ab.x) (Wk ?_);obtain ⟨Eg,Da,Db⟩:=ABl C7;refine AIf (c:=cZ) AG7 rfl C9 rfl Da fun Eh Ei Ej Bp Dc=>AUo (c:=cZ) ACp rfl (Ab.zx Bp) (fun j u hu=>(ABx (Dc j u hu) Ab.x)) ?_;obtain ⟨⟨Bq,Ek⟩,Dd,Ax⟩:=ABl Db;dsimp only at Ax;refine ACu rfl (Acx (Ab.zx Bp).2 Dd) fun El Em De Df=>?_;subst Df;refine Wk (ACz rfl rfl (ACz rfl rfl (ACd (ABp (ABm (ABi (Wk (AF8 rfl (ABo ?_)))))))));have Ah:=Ab.e De;refine ⟨_,rfl,fun Ay=>?_,fun Ay=>?_⟩
    ·refine ABi (ACd (ABp ?_));obtain rfl:=ABk (ifT Ax Ay);change _=Au at Ag;subst Ag;obtain rfl:=ABk Bi;change _=Ap at Ad;subst Ad;refine ABr (AB0 (ADn (AB0 (AB0 (ADn (ADn (AB0 (AB0 (ADn (AB0 ?_))))))))));have Az:=Kst.anil2 (cI .i64) 23 2 Ah;obtain rfl:=ABk Bc;exact ⟨_,AC8,Az.x,_,_,_,_,rfl,(Az.o2 p0),Az.s.sel [0] (by decide)⟩
    ·refine ABs (q_t (ABw (Wk (Wk ?_))));obtain ⟨Dg,A3,Dh⟩:=ABl (AIz Ax Ay);refine ADu AB2 rfl (Ah.o2 p0) rfl A3 fun En Eo Ep Di Dj=>AB4 ACn rfl Dj (Wk (Wk ?_));obtain ⟨Er,Br,Dk⟩:=ABl Dh;refine AE7 (m:=Aa) ABv rfl (Ah.o2 p0) Di A3 rfl Br fun Es Dl=>AJo (m:=Aa) (AF6 ACr rfl rfl rfl) (Ah.o2 p0) Dl A3 Br (show ((cI .i64)).rep _ Bq _ from rfl) fun Et Dn Do=>ACl (q_b (q_t (ABw (ACy rfl rfl (Wk (ABo ?_))))));obtain rfl:=ABk Dk;exact ⟨C5,(((w64 (Bj + 1)),(sI Bl Aa (sI Dg Bj Bq)),Bm,Bn,Bo):(Int) × (LiI) × LnA × LnN × LvA),Nat.lt_succ_self _,⟨Ag,(Ah.uO2 p0 Do Dn)⟩,rfl,trivial⟩
   ·obtain rfl:=ABk (AC2 Af Aw);change _=Au at Ag;subst Ag;refine ACb (AB9 (AB9 (ADj (q_b (q_t (ABw (ACy rfl rfl (Wk (ABo ?_)))))))));obtain rfl:=ABk Bi;exact ⟨Ch,(((w64 (Aa + 1)),Bl,Bm,Bn,Bo):(Int) × (LiI) × LnA × LnN × LvA),Nat.lt_succ_self _,⟨Ad,Ab⟩,rfl,trivial⟩
  ·obtain rfl:=ABk (AC2 Ac Aq);change _=Ap at Ad;subst Ad;refine ACb (AB9 (AB9 (ADj (q_t (ABi (Wk (ACd (ABp (ABr ?_)))))))));obtain rfl:=ABk Bc;exact ⟨_,AC8,Ai.x,_,_,_,_,rfl,(Ai.o2 p0),Ai.s.sel [0] (by decide)⟩
def AH9 (fuel:Nat) (Ad:LiI) (Aa:Int) (Ab:LiI):Option ((Int × LiI) ⊕ ((LiI))):=
  (if Aa < (Ad.length:Int) then ((gI Ab Aa).bind fun Ac=>((AKv fuel 1).bind fun Ae=>((gI Ac Aa).bind fun Af=>(some (Sum.inl ((w64 (Aa + 1)),(sI Ab Aa (sI Ac Aa Ae)))))))) else (some (Sum.inr<| Ab)))
def AEu (fuel:Nat) (a1:Int):Option (LiI × Bool):=
  (((if a1 < 1 then (some (Sum.inl <| ([],false))) else (if 16 < a1 then (some (Sum.inl <| ([],false))) else (some (Sum.inr <| ())))):Option (((LiI × Bool)) ⊕ (Unit))).bind (fun ex=>match ex with | Sum.inl Ac=>(some Ac) | Sum.inr (_)=>((AEg fuel a1 a1).bind fun Ab=>((iter (fun s=>AH9 fuel Ab s.1 s.2) fuel (0,Ab)).bind (fun (Ad:LiI)=>(some (Ad,true)))))))
theorem AKy {fuel:Nat} {h:ABh} {a1:Int} {r:(LiI × Bool)} (hp:AEu fuel a1=some r):AB7 Tryz.prog 54 #[(.int .i64 a1)] h (fun x h'=>Ext h h'/\ ∃ (x0:Value) (F0:List Nat) (A4:List LnA) (A5:List Value),x= .tuple #[x0,.bool r.2]/\AFg cZ 112 109 h' F0 A4 A5 x0 r.1/\Sp h' h.size [F0]):=by
 unfold AEu at hp;refine cwf (l:=[_]) Tryz.func54 rfl rfl (ABi (ACd (ABp ?_)));have K0:=Kst.k0 h;obtain ⟨A6,Ax,Ah⟩:=ABl hp;refine AN1 4044 (fun x:Unit=>[]) (fun x h'=>(Sum.inr <| ())=A6/\Kst h h' (K0.L)) ?_ ?_
 ·refine ABi (Wk (ACx rfl rfl (Wk ?_)));by_cases Af:a1 < 1
  ·rw [decide_eq_true Af];refine AF9 8 true (ABy rfl (ABo (AB8 rfl (ABi (ACd (ABp ?_))))));obtain rfl:=ABk (ifT Ax Af);refine ABr (AB0 ?_);have Ai:=Kst.anil2 cZ 112 109 K0;obtain rfl:=ABk Ah;exact ⟨_,AC8,Ai.x,_,_,_,_,rfl,(Ai.o2 p0),Ai.s.sel [0] (by decide)⟩
  ·have Ay:=ifF Ax Af;rw [decide_eq_false Af];refine ACk 8 false (Wk (ACk 8 false (AIm rfl rfl (ABu rfl (ABo (⟨_,rfl,fun Aj=>?_,fun Aj=>?_⟩))))))
   ·refine ABi (ACd (ABp ?_));obtain rfl:=ABk (AC1 Ay Aj);refine ABr (AB0 ?_);have Ak:=Kst.anil2 cZ 112 109 K0;obtain rfl:=ABk Ah;exact ⟨_,AC8,Ak.x,_,_,_,_,rfl,(Ak.o2 p0),Ak.s.sel [0] (by decide)⟩
   ·refine ABs (q_t ?_);exact ⟨(():Unit),⟨ABk (AC2 Ay Aj),K0⟩,trivial⟩
 rintro ⟨⟩ Cf Cg ⟨A7,A8⟩;subst A7;refine ABi (Wk (Wk ?_));obtain ⟨A9,Ba,Bb⟩:=ABl Ah;refine ACu rfl (AHe Ba) fun Bc Ch Be Bf=>?_;obtain ⟨Ci,Bg,Bh,Bi,rfl,Bj,Bl⟩:=Bf;refine ABp (ABm (ABi (Wk ?_)));have Am:=A8.no2 Be Bl Bj;refine ADg AD8 rfl (Am.o2 p0).rd (Wk (ABo (ABq ?_)));obtain ⟨Az,Bm,Bn⟩:=ABl Bb;obtain ⟨Bo,Bp,Bq⟩:=ACg Bm;refine ACi 268304416 (fun x:(Int) × (LiI) × LnA × LnN × LvA=>[(17,(.int .i64 x.1))]) (fun k x h'=>iter Bo k (x.1,x.2.1)=some Az/\Kst h h' (Am.L.set 0 (aO2 cZ 112 109 x.2.2.1 x.2.2.2.1 x.2.2.2.2 Bc x.2.1))) (by kernel_rfl) fuel ((0,A9,Bg,Bh,Bi):(Int) × (LiI) × LnA × LnN × LvA) ?_ ⟨rfl,trivial⟩ ?_
 ·exact ⟨Bq,Am⟩
 rintro Cj ⟨Ab,Br,Bt,Bu,Bv⟩ Ck Ao ⟨Bw,Aa⟩;obtain ⟨Bx,Cm,rfl,Ac,Ap⟩:=AB3 Bw;rw [Bp] at Ac;dsimp only at Ac;unfold AH9 at Ac;refine ABi (ACx rfl rfl (ABo (ABm (⟨_,rfl,fun Aq=>?_,fun Aq=>?_⟩))))
 ·refine ABs (q_t (ABm (ABq (ABi (Wk (ABp (AEl (fun h'=>UpT [] Ao h') (by kernel_rfl) ?_)))))));have Ar:UpT [] Ao Ao:=UpT.start all_nil;refine Wk (Wk ?_);obtain ⟨By,Au,Bz⟩:=ABl (AC1 Ac Aq);refine ADu AD8 rfl (Aa.o2 p0) rfl Au fun Cn Co Cp B1 B2=>AGj AHs rfl Ar (fun h' hb=>ABx B2 hb.ext) (Wk ?_);obtain ⟨B3,B4,B5⟩:=ABl Bz;refine AC9 Ar (fun _ E=>Ar.thenE E) rfl (AJp B4) fun Cq Cr B6 B7=>?_;obtain ⟨Ct,rfl,B8⟩:=B7;obtain ⟨Cu,rfl,B9⟩:=B8.cs;have Ad:=(Aa.e B6).az B9;obtain ⟨Cv,A3,Ca⟩:=ABl B5;refine AE7 (m:=Ab) AG7 rfl (Aa.o2 p0) B1 Au rfl A3 fun Cw Cb=>AJo (m:=Ab) (AS5 ACp (cZ.klen (Ad.z p0)) rfl rfl (cZ.one (Ad.z p0))) (Ad.o2 p1) Cb Au A3 (Ad.z p0) fun Cx Cd Ce=>ACl (q_b (q_t (ABw (ACy rfl rfl (Wk (ABo ?_))))));obtain rfl:=ABk Ca;exact ⟨Bx,(((w64 (Ab + 1)),(sI Br Ab (sI By Ab B3)),Bt,Bu,Bv):(Int) × (LiI) × LnA × LnN × LvA),Nat.lt_succ_self _,⟨Ap,(Ad.uO2 p1 Ce Cd).sel [1] (by decide)⟩,rfl,trivial⟩
 ·obtain rfl:=ABk (AC2 Ac Aq);change _=Az at Ap;subst Ap;refine ACb (AB9 (AB9 (ADj (q_t (ABi (Wk (ACd (ABp (ABr ?_)))))))));obtain rfl:=ABk Bn;exact ⟨_,AC8,Aa.x,_,_,_,_,rfl,(Aa.o2 p0),Aa.s.sel [0] (by decide)⟩
def AHm (fuel:Nat) (a3:LiI) (Ab:Int) (Af:LiA) (Aa:Int) (Ac:LiI):Option ((Int × LiI) ⊕ ((LiI))):=
  (if Aa < (Af.length:Int) then ((gI Ac Aa).bind fun Ad=>((gI a3 Ab).bind fun Ag=>((gI Ag Aa).bind fun Ah=>((APt fuel Ah).bind fun Ai=>((gI Ad Ab).bind fun Aj=>(some (Sum.inl ((w64 (Aa + 1)),(sI Ac Aa (sI Ad Ab Ai)))))))))) else (some (Sum.inr<| Ac)))
def AHn (fuel:Nat) (a3:LiI) (Aa:Int) (Ac:LiI):Option ((Int × LiI) ⊕ ((LiI))):=
  (if Aa < (a3.length:Int) then ((gI a3 Aa).bind fun Ad=>((iter (fun s=>AHm fuel a3 Aa Ad s.1 s.2) fuel (0,Ac)).bind (fun (Ae:LiI)=>(some (Sum.inl ((w64 (Aa + 1)),Ae)))))) else (some (Sum.inr<| Ac)))
def AEh (fuel:Nat) (a3:LiI):Option (LiI × Bool):=
  ((ADh fuel a3).bind fun (x5,x6,x7)=>(if (!x7)=true then (some ([],false)) else ((AEg fuel x6 x5).bind fun Ae=>((iter (fun s=>AHn fuel a3 s.1 s.2) fuel (0,Ae)).bind (fun (Af:LiI)=>(some (Af,true)))))))
theorem AKf {fuel:Nat} {h:ABh} {Av:Value} {a3:LiI} {r:(LiI × Bool)} (H2:AFl cZ h Av a3) (hp:AEh fuel a3=some r):AB7 Tryz.prog 99 #[Av] h (fun x h'=>Ext h h'/\ ∃ (x0:Value) (F0:List Nat) (Bg:List LnA) (Bh:List Value),x= .tuple #[x0,.bool r.2]/\AFg cZ 112 109 h' F0 Bg Bh x0 r.1/\Sp h' h.size [F0]):=by
 unfold AEh at hp;refine cwf (l:=[_]) Tryz.func99 rfl rfl (ABi (ACd (ACq (Wk ?_))));have K0:=Kst.k0 h;obtain ⟨⟨x5,x6,x7⟩,Bi,Ai⟩:=ABl hp;dsimp only at Ai;refine ACu rfl (AG2 (H2.ext K0.x) Bi) fun Dc Dd Bj Bl=>?_;subst Bl;refine Wk (ACz rfl rfl (ACz rfl rfl (ACz rfl rfl (ACd (ACd (ABp (ABm (ABi (Wk (AF8 rfl (ABo ?_)))))))))));have A3:=K0.e Bj;refine ⟨_,rfl,fun Aj=>?_,fun Aj=>?_⟩
 ·refine ABi (ACd (ABp (ABr (AB0 ?_))));have Ak:=Kst.anil2 cZ 112 109 A3;obtain rfl:=ABk (ifT Ai Aj);exact ⟨_,AC8,Ak.x,_,_,_,_,rfl,(Ak.o2 p0),Ak.s.sel [0] (by decide)⟩
 ·refine ABs (q_t (ABi (Wk (Wk ?_))));obtain ⟨Bm,Bn,Bo⟩:=ABl (AIz Ai Aj);refine ACu rfl (AHe Bn) fun A4 De Bp Bq=>?_;obtain ⟨Df,Br,Bt,Bu,rfl,Bv,Bw⟩:=Bq;refine ABp (ABm (ABi (Wk (ADg AD8 rfl H2 (Wk (ABo (ABq ?_)))))));have A5:=A3.no2 Bp Bw Bv;obtain ⟨A6,Bx,By⟩:=ABl Bo;obtain ⟨Bz,B1,B2⟩:=ACg Bx;refine ACi 1125899898454784 (fun x:(Int) × (LiI) × LnA × LnN × LvA=>[(23,(.int .i64 x.1))]) (fun k x h'=>iter Bz k (x.1,x.2.1)=some A6/\Kst h h' (A5.L.set 0 (aO2 cZ 112 109 x.2.2.1 x.2.2.2.1 x.2.2.2.2 A4 x.2.1))) (by kernel_rfl) fuel ((0,Bm,Br,Bt,Bu):(Int) × (LiI) × LnA × LnN × LvA) ?_ ⟨rfl,trivial⟩ ?_
  ·exact ⟨B2,A5⟩
  rintro Dg ⟨A7,B3,B4,B5,B6⟩ Dh Di ⟨B7,Ab⟩;obtain ⟨B8,Dj,rfl,Ac,Am⟩:=AB3 B7;rw [B1] at Ac;dsimp only at Ac;unfold AHn at Ac;refine ABi (ACx rfl rfl (ABo (ABm (⟨_,rfl,fun Ao=>?_,fun Ao=>?_⟩))))
  ·refine ABs (q_t (ABm (ABq (ABi (Wk (ACq (Wk (Wk ?_))))))));obtain ⟨Dk,B9,Ca⟩:=ABl (AC1 Ac Ao);refine AIj AD8 rfl H2 rfl B9 fun Dl Dn Do Cb Cd=>AB4 AHs rfl (ABx Cb Ab.x) (ADr AG7 rfl Cd (Wk (ABo (ABq ?_))));obtain ⟨A8,Ce,Cf⟩:=ABl Ca;obtain ⟨Cg,Ch,Ci⟩:=ACg Ce;refine ACi 562947805938176 (fun x:(Int) × (LiI) × LnA × LnN × LvA=>[(31,(.int .i64 x.1))]) (fun k x h'=>iter Cg k (x.1,x.2.1)=some A8/\Kst h h' (Ab.L.set 0 (aO2 cZ 112 109 x.2.2.1 x.2.2.2.1 x.2.2.2.2 A4 x.2.1))) (by kernel_rfl) fuel ((0,B3,B4,B5,B6):(Int) × (LiI) × LnA × LnN × LvA) ?_ ⟨rfl,trivial⟩ ?_
   ·exact ⟨Ci,Ab⟩
   rintro Dp ⟨Ah,A9,Ba,Bb,Bc⟩ Dq Ap ⟨Cj,Aa⟩;obtain ⟨Ck,Dr,rfl,Ad,Aq⟩:=AB3 Cj;rw [Ch] at Ad;dsimp only at Ad;unfold AHm at Ad;refine ABi (ACx rfl rfl (ABo (ABm (⟨_,rfl,fun Ar=>?_,fun Ar=>?_⟩))))
   ·refine ABs (q_t (ABm (ABq (ABi (Wk (ABp (AEl (fun h'=>UpT [] Ap h') (by kernel_rfl) ?_)))))));have Ae:UpT [] Ap Ap:=UpT.start all_nil;refine Wk (Wk ?_);obtain ⟨Cm,Au,Cn⟩:=ABl (AC1 Ad Ar);refine ADu AD8 rfl (Aa.o2 p0) rfl Au fun Ds Dt Du Co Cp=>AGj AHs rfl Ae (fun h' hb=>ABx Cp hb.ext) (Wk (Wk (Wk ?_)));obtain ⟨Dv,Cq,Cr⟩:=ABl Cn;refine AIj AD8 rfl H2 rfl Cq fun Dw Dx Dy Ct Cu=>AGj AHs rfl Ae (fun h' hb=>ABx Ct (Aa.x.trans hb.ext)) (Wk ?_);obtain ⟨Dz,Cv,Cw⟩:=ABl Cr;refine AIf (c:=cZ) AG7 rfl Cu rfl Cv fun D0 D1 D2 Be Cx=>AT7 (c:=cZ) ACp rfl Be Ae (fun h' hb j u hu=>ABx (Cx j u hu) (Aa.x.trans hb.ext)) ?_;obtain ⟨Cy,Cz,C0⟩:=ABl Cw;refine AC9 Ae (fun _ E=>Ae.thenE E) rfl (ARi (Aa.zx Be).2 Cz) fun D3 D4 C1 C2=>?_;obtain ⟨D5,rfl,C3⟩:=C2;obtain ⟨D6,rfl,C4⟩:=C3.cs;have Af:=(Aa.e C1).az C4;obtain ⟨D7,Bf,C5⟩:=ABl C0;refine AE7 (m:=Ah) AG7 rfl (Aa.o2 p0) Co Au rfl Bf fun D8 C6=>AJo (m:=Ah) (AS5 ACp (cZ.klen (Af.z p0)) rfl rfl (cZ.one (Af.z p0))) (Af.o2 p1) C6 Au Bf (Af.z p0) fun D9 C7 C8=>ACl (q_b (q_t (ABw (ACy rfl rfl (Wk (ABo ?_))))));obtain rfl:=ABk C5;exact ⟨Ck,(((w64 (Ah + 1)),(sI A9 Ah (sI Cm A7 Cy)),Ba,Bb,Bc):(Int) × (LiI) × LnA × LnN × LvA),Nat.lt_succ_self _,⟨Aq,(Af.uO2 p1 C8 C7).sel [1] (by decide)⟩,rfl,trivial⟩
   ·obtain rfl:=ABk (AC2 Ad Ar);change _=A8 at Aq;subst Aq;refine ACb (AB9 (AB9 (ADj (q_b (q_t (ABw (ACy rfl rfl (Wk (ABo ?_)))))))));obtain rfl:=ABk Cf;exact ⟨B8,(((w64 (A7 + 1)),A9,Ba,Bb,Bc):(Int) × (LiI) × LnA × LnN × LvA),Nat.lt_succ_self _,⟨Am,Aa⟩,rfl,trivial⟩
  ·obtain rfl:=ABk (AC2 Ac Ao);change _=A6 at Am;subst Am;refine ACb (AB9 (AB9 (ADj (q_t (ABi (Wk (ACd (ABp (ABr ?_)))))))));obtain rfl:=ABk By;exact ⟨_,AC8,Ab.x,_,_,_,_,rfl,(Ab.o2 p0),Ab.s.sel [0] (by decide)⟩
def AJ4 (fuel:Nat) (a3 a7:LiA) (Aa Ac:Int):Option ((Int × Int) ⊕ ((Int))):=
  (if Aa < (a3.length:Int) then ((gI a3 Aa).bind fun Ae=>((gI a7 Aa).bind fun Af=>((APs fuel Ae Af).bind fun Ag=>((Ag2 fuel Ac Ag).bind fun Ah=>(some (Sum.inl ((w64 (Aa + 1)),Ah))))))) else (some (Sum.inr<| Ac)))
def AHv (fuel:Nat) (a3 a7:LiA):Option Int:=
  ((iter (fun s=>AJ4 fuel a3 a7 s.1 s.2) fuel (0,0)).bind (fun (Ac:Int)=>(some Ac)))
theorem ARk {fuel:Nat} {h:ABh} {Am:Value} {a3:LiA} {Ap:Value} {a7:LiA} {r:Int} (H2:SlC cZ h Am a3) (H6:SlC cZ h Ap a7) (hp:AHv fuel a3 a7=some r):AB7 Tryz.prog 124 #[Am,Ap] h (fun x h'=>Ext h h'/\ ∃ (x0:Value),x=x0/\ZZ h' x0 r):=by
 unfold AHv at hp;refine cwf (l:=[_,_]) Tryz.func124 rfl rfl (ABi (ADx [.bool false,.slice none 0 0] AJ3 rfl trivial tt2 fun b9 Ch A7 A8 A9=>AMg (ALa (Aco ) (ADx [.bool false,.slice none 0 0] AJ3 rfl trivial tt2 fun Ba Ag Bb Bc Be=>?_))));have Av:=((Kst.k0 h).nb A8 A9 A7).nb Bc Be Bb;refine ADi [Value.bool false,Value.slice none 0 0] ACp (cZ.klen (ACj Ag)) (cZ.klen (ACj Ag)) rfl rfl (cZ.one (ACj Ag)) (Av.b p0) fun Bf Bg Bh=>ABo (ABm (ABi (Wk (ADr AG7 rfl H2 (Wk (ABo (ABq ?_)))))));obtain ⟨Aw,Bi,Bj⟩:=ABl hp;obtain ⟨Bl,Bm,Bn⟩:=ACg Bi;have Ax:=(Av.sb p0 Bh Bg rfl).az (ACj Bf);refine ACi 33553472 (fun x:(Int) × (Int) × LvA=>[(10,(.int .i64 x.1))]) (fun k x h'=>iter Bl k (x.1,x.2.1)=some Aw/\Kst h h' ((Ax.L.set 0 (aZ x.2.2 x.2.1)).set 1 (aB 109 Ba x.2.2))) (by kernel_rfl) fuel ((0,0,[Value.bool false,Value.slice none 0 0]):(Int) × (Int) × LvA) ?_ ⟨rfl,trivial⟩ ?_
 ·exact ⟨Bn,Ax⟩
 rintro Ci ⟨Bo,Cj,Ah⟩ Ck Ae ⟨Bp,Aa⟩;obtain ⟨Bq,Cm,rfl,Ac,Ai⟩:=AB3 Bp;rw [Bm] at Ac;dsimp only at Ac;unfold AJ4 at Ac;refine ABi (ACx rfl rfl (ABo (ABm (⟨_,rfl,fun Aj=>?_,fun Aj=>?_⟩))))
 ·refine ABs (q_t (ABm (ABq (ABi (Wk (ABp (AEl (fun h'=>UpT [] Ae h') (by kernel_rfl) ?_)))))));have Ab:UpT [] Ae Ae:=UpT.start all_nil;refine AEt Ah ACp (cZ.klen (Aa.z p0)) rfl Ab (fun h' hb=>((Aa.b p1).ext hb.ext).agg) (Wk (Wk ?_));obtain ⟨Cn,Br,Bt⟩:=ABl (AC1 Ac Aj);refine AIf (c:=cZ) AG7 rfl H2 rfl Br fun Co Cp Cq Ay Bu=>AT7 (c:=cZ) ACp rfl Ay Ab (fun h' hb j u hu=>ABx (Bu j u hu) (Aa.x.trans hb.ext)) (Wk (Wk ?_));obtain ⟨Cr,Bv,Bw⟩:=ABl Bt;refine AIf (c:=cZ) AG7 rfl H6 rfl Bv fun Ct Cu Cv Az Bx=>AT7 (c:=cZ) ACp rfl Az Ab (fun h' hb j u hu=>ABx (Bx j u hu) (Aa.x.trans hb.ext)) ?_;obtain ⟨Cw,By,Bz⟩:=ABl Bw;refine AC9 Ab (fun _ E=>Ab.thenE E) rfl (AN3 (Aa.zx Ay).2 (Aa.zx Az).2 By) fun Cx Cy A3 B1=>?_;obtain ⟨Cz,rfl,B2⟩:=B1;have A4:=Ab.thenE A3;obtain ⟨C0,rfl,B3⟩:=B2.cs;have Ak:=(Aa.e A3).az B3;obtain ⟨B4,B5,B6⟩:=ABl Bz;refine AC9 A4 (fun _ E=>A4.thenE E) rfl (Afb (Ak.z p1).2 (Ak.z p0).2 B5) fun C1 C2 B7 B8=>?_;obtain ⟨C3,rfl,B9⟩:=B8;obtain ⟨A5,rfl,Ca⟩:=B9.cs;have Ad:=(Ak.e B7).az Ca;refine ADi A5 ACp (cZ.klen (Ad.z p0)) (cZ.klen (Ad.z p2)) rfl rfl (cZ.one (Ad.z p0)) (Ad.b p3) fun C4 Cb Cd=>ACl (q_b (q_t (ABw (ACy rfl rfl (Wk (ABo ?_))))));obtain rfl:=ABk B6;exact ⟨Bq,(((w64 (Bo + 1)),B4,A5):(Int) × (Int) × LvA),Nat.lt_succ_self _,⟨Ai,(Ad.sb p3 Cd Cb rfl).sel [0,3,4] (by decide)⟩,rfl,trivial⟩
 ·obtain rfl:=ABk (AC2 Ac Aj);change _=Aw at Ai;subst Ai;refine ACb (AB9 (AB9 (ADj (q_t (ABi (AG6 Ah ACp (cZ.klen (Aa.z p0)) rfl (Aa.b p1).agg (ADi Ah ACp (cZ.klen (Aa.z p0)) (cZ.klen (ACj Ae)) rfl rfl (cZ.one (Aa.z p0)) (Aa.b p2) fun C5 Ce Cf=>ABo (ABr ?_))))))));have Af:=Aa.sb p2 Cf Ce rfl;obtain rfl:=ABk Bj;exact ⟨_,AFi ACp (cZ.klen (Af.z p0)) rfl (Af.b p2),Af.x,_,rfl,(Af.z p0).2⟩
def AJ5 (fuel:Nat) (a3 Ad:LiI) (Ab Aa:Int) (Ac:LiI):Option ((Int × LiI) ⊕ ((LiI))):=
  (if Aa < (Ad.length:Int) then ((gI Ac Ab).bind fun Ae=>((gI a3 Ab).bind fun Ag=>((gI Ad Aa).bind fun Ah=>((AHv fuel Ag Ah).bind fun Ai=>((gI Ae Aa).bind fun Aj=>(some (Sum.inl ((w64 (Aa + 1)),(sI Ac Ab (sI Ae Aa Ai)))))))))) else (some (Sum.inr<| Ac)))
def AJ6 (fuel:Nat) (a3 Ad:LiI) (Aa:Int) (Ac:LiI):Option ((Int × LiI) ⊕ ((LiI))):=
  (if Aa < (a3.length:Int) then ((iter (fun s=>AJ5 fuel a3 Ad Aa s.1 s.2) fuel (0,Ac)).bind (fun (Ae:LiI)=>(some (Sum.inl ((w64 (Aa + 1)),Ae))))) else (some (Sum.inr<| Ac)))
def AHw (fuel:Nat) (a3 a7:LiI):Option (LiI × Bool):=
  ((ADh fuel a3).bind fun (x9,Ad,Ae)=>((AEh fuel a7).bind fun (Ac,Af)=>(((if (!Ae)=true then (some (Sum.inl <| ([],false))) else (if (!Af)=true then (some (Sum.inl <| ([],false))) else (if ¬ (a7.length:Int)=Ad then (some (Sum.inl <| ([],false))) else (some (Sum.inr <| ()))))):Option (((LiI × Bool)) ⊕ (Unit))).bind (fun ex=>match ex with | Sum.inl Ag=>(some Ag) | Sum.inr (_)=>((AEg fuel (a3.length:Int) (Ac.length:Int)).bind fun Ah=>((iter (fun s=>AJ6 fuel a3 Ac s.1 s.2) fuel (0,Ah)).bind (fun (Ai:LiI)=>(some (Ai,true)))))))))
theorem ARl {fuel:Nat} {h:ABh} {Ay:Value} {a3:LiI} {A3:Value} {a7:LiI} {r:(LiI × Bool)} (H2:AFl cZ h Ay a3) (H6:AFl cZ h A3 a7) (hp:AHw fuel a3 a7=some r):AB7 Tryz.prog 100 #[Ay,A3] h (fun x h'=>Ext h h'/\ ∃ (x0:Value) (F0:List Nat) (Bw:List LnA) (Bx:List Value),x= .tuple #[x0,.bool r.2]/\AFg cZ 112 109 h' F0 Bw Bx x0 r.1/\Sp h' h.size [F0]):=by
 unfold AHw at hp;refine cwf (l:=[_,_]) Tryz.func100 rfl rfl (ABi (ACd (ACq (Wk ?_))));have K0:=Kst.k0 h;obtain ⟨⟨x9,Du,By⟩,Bz,A9⟩:=ABl hp;dsimp only at A9;refine ACu rfl (AG2 (H2.ext K0.x) Bz) fun Dv Dw B1 B2=>?_;subst B2;refine Wk (ACz rfl rfl (ACz rfl rfl (ACz rfl rfl (ACd (ACd (ACq (Wk ?_)))))));have Ba:=K0.e B1;obtain ⟨⟨Dx,B3⟩,B4,Bb⟩:=ABl A9;dsimp only at Bb;refine ACu rfl (AKf (H6.ext Ba.x) B4) fun Dy Dz B5 B6=>?_;obtain ⟨D0,D1,D2,D3,rfl,B7,B8⟩:=B6;refine Wk (ACz rfl rfl (ACz rfl rfl (ACd (ABp ?_))));have Ac:=Ba.no2 B5 B8 B7;obtain ⟨B9,Bc,Ai⟩:=ABl Bb;refine AN1 137405399088 (fun x:Unit=>[]) (fun x h'=>(Sum.inr <| ())=B9/\Kst h h' (Ac.L)) ?_ ?_
 ·refine ABi (Wk (AF8 rfl (Wk ?_)));cases Be:(!By)
  ·refine ACk 27 false (Wk (ACk 27 false (AF8 rfl (ABu rfl (Wk ?_)))));have Bf:=AIz Bc Be;cases Bg:(!B3)
   ·refine ACk 31 false (Wk (ACk 31 false (ADg AD8 rfl H6 (ACk 31 false (Wk (ACk 31 false (AG8 rfl rfl (ABu rfl (ABo ?_)))))))));have Bh:=AIz Bf Bg;refine ⟨_,rfl,fun Ak=>?_,fun Ak=>?_⟩
    ·refine ABi (ACd (ABp ?_));obtain rfl:=ABk (AC1 Bh Ak);refine ABr (AB0 ?_);have Am:=Kst.anil2 cZ 112 109 Ac;obtain rfl:=ABk Ai;exact ⟨_,AC8,Am.x,_,_,_,_,rfl,(Am.o2 p0),Am.s.sel [0] (by decide)⟩
    ·refine ABs (q_t ?_);exact ⟨(():Unit),⟨ABk (AC2 Bh Ak),Ac⟩,trivial⟩
   ·refine AOf 31 true (ABy rfl (ABo (AB8 rfl (ABi (ACd (ABp ?_))))));obtain rfl:=ABk (ifT Bf Bg);refine ABr (AB0 ?_);have Ao:=Kst.anil2 cZ 112 109 Ac;obtain rfl:=ABk Ai;exact ⟨_,AC8,Ao.x,_,_,_,_,rfl,(Ao.o2 p0),Ao.s.sel [0] (by decide)⟩
  ·refine AF9 27 true (ABy rfl (Wk (AOf 31 true (ABy rfl (ABo (AB8 rfl (ABi (ACd (ABp ?_)))))))));obtain rfl:=ABk (ifT Bc Be);refine ABr (AB0 ?_);have Ap:=Kst.anil2 cZ 112 109 Ac;obtain rfl:=ABk Ai;exact ⟨_,AC8,Ap.x,_,_,_,_,rfl,(Ap.o2 p0),Ap.s.sel [0] (by decide)⟩
 rintro ⟨⟩ D4 D5 ⟨Ca,Bi⟩;subst Ca;refine ABi (Wk (ADg AD8 rfl H2 (Wk (ADg AD8 rfl (Bi.o2 p0).rd ?_))));obtain ⟨Cb,Cd,Ce⟩:=ABl Ai;refine ACu rfl (AHe Cd) fun Bj D6 Cf Cg=>?_;obtain ⟨D7,Ch,Ci,Cj,rfl,Ck,Cm⟩:=Cg;refine ABp (ABm (ABi (Wk (ADg AD8 rfl H2 (Wk (ABo (ABq ?_)))))));have Bl:=Bi.no2 Cf Cm Ck;obtain ⟨Bm,Cn,Co⟩:=ABl Ce;obtain ⟨Cp,Cq,Cr⟩:=ACg Cn;refine ACi 590295792766519619584 (fun x:(Int) × (LiI) × LnA × LnN × LvA=>[(44,(.int .i64 x.1))]) (fun k x h'=>iter Cp k (x.1,x.2.1)=some Bm/\Kst h h' (Bl.L.set 0 (aO2 cZ 112 109 x.2.2.1 x.2.2.2.1 x.2.2.2.2 Bj x.2.1))) (by kernel_rfl) fuel ((0,Cb,Ch,Ci,Cj):(Int) × (LiI) × LnA × LnN × LvA) ?_ ⟨rfl,trivial⟩ ?_
 ·exact ⟨Cr,Bl⟩
 rintro D8 ⟨Aj,Ct,Cu,Cv,Cw⟩ D9 Ea ⟨Cx,Ab⟩;obtain ⟨Cy,Eb,rfl,Ad,Aq⟩:=AB3 Cx;rw [Cq] at Ad;dsimp only at Ad;unfold AJ6 at Ad;refine ABi (ACx rfl rfl (ABo (ABm (⟨_,rfl,fun Ar=>?_,fun Ar=>?_⟩))))
 ·refine ABs (q_t (ABm (ABq (ABi (Wk (ACq (Wk (ADg AD8 rfl (Ab.o2 p1).rd (Wk (ABo (ABq ?_)))))))))));obtain ⟨Bn,Cz,C0⟩:=ABl (AC1 Ad Ar);obtain ⟨C1,C2,C3⟩:=ACg Cz;refine ACi 295147342229399412736 (fun x:(Int) × (LiI) × LnA × LnN × LvA=>[(49,(.int .i64 x.1))]) (fun k x h'=>iter C1 k (x.1,x.2.1)=some Bn/\Kst h h' (Ab.L.set 0 (aO2 cZ 112 109 x.2.2.1 x.2.2.2.1 x.2.2.2.2 Bj x.2.1))) (by kernel_rfl) fuel ((0,Ct,Cu,Cv,Cw):(Int) × (LiI) × LnA × LnN × LvA) ?_ ⟨rfl,trivial⟩ ?_
  ·exact ⟨C3,Ab⟩
  rintro Ec ⟨Bo,Bp,Bq,Br,Bt⟩ Ed Au ⟨C4,Aa⟩;obtain ⟨C5,Ee,rfl,Ae,Av⟩:=AB3 C4;rw [C2] at Ae;dsimp only at Ae;unfold AJ5 at Ae;refine ABi (ACx rfl rfl (ABo (ABm (⟨_,rfl,fun Aw=>?_,fun Aw=>?_⟩))))
  ·refine ABs (q_t (ABm (ABq (ABi (Wk (ABp (AEl (fun h'=>UpT [] Au h') (by kernel_rfl) ?_)))))));have Af:UpT [] Au Au:=UpT.start all_nil;refine Wk (Wk ?_);obtain ⟨C6,Ax,C7⟩:=ABl (AC1 Ae Aw);refine ADu AD8 rfl (Aa.o2 p0) rfl Ax fun Ef Eg Eh C8 C9=>AGj AHs rfl Af (fun h' hb=>ABx C9 hb.ext) (Wk (Wk (Wk ?_)));obtain ⟨Ei,Da,Db⟩:=ABl C7;refine AIj AD8 rfl H2 rfl Da fun Ej Ek El Dc Dd=>AGj AHs rfl Af (fun h' hb=>ABx Dc (Aa.x.trans hb.ext)) (Wk (Wk ?_));obtain ⟨Em,Bu,De⟩:=ABl Db;refine ADu AD8 rfl (Aa.o2 p1) rfl Bu fun En Eo Ep Df Dg=>AGj AHs rfl Af (fun h' hb=>ABx Dg hb.ext) ?_;obtain ⟨Dh,Di,Dj⟩:=ABl De;refine AC9 Af (fun _ E=>Af.thenE E) rfl (ARk (Dd.ext Aa.x) ((Aa.o2 p1).rowI Df Bu) Di) fun Er Es Dk Dl=>?_;obtain ⟨Et,rfl,Dn⟩:=Dl;obtain ⟨Eu,rfl,Do⟩:=Dn.cs;have Ag:=(Aa.e Dk).az Do;obtain ⟨Ev,Bv,Dp⟩:=ABl Dj;refine AE7 (m:=Aj) AG7 rfl (Aa.o2 p0) C8 Ax rfl Bv fun Ew Dq=>AJo (m:=Aj) (AS5 ACp (cZ.klen (Ag.z p0)) rfl rfl (cZ.one (Ag.z p0))) (Ag.o2 p1) Dq Ax Bv (Ag.z p0) fun Ey Dr Ds=>ACl (q_b (q_t (ABw (ACy rfl rfl (Wk (ABo ?_))))));obtain rfl:=ABk Dp;exact ⟨C5,(((w64 (Bo + 1)),(sI Bp Aj (sI C6 Bo Dh)),Bq,Br,Bt):(Int) × (LiI) × LnA × LnN × LvA),Nat.lt_succ_self _,⟨Av,(Ag.uO2 p1 Ds Dr).sel [1,2] (by decide)⟩,rfl,trivial⟩
  ·obtain rfl:=ABk (AC2 Ae Aw);change _=Bn at Av;subst Av;refine ACb (AB9 (AB9 (ADj (q_b (q_t (ABw (ACy rfl rfl (Wk (ABo ?_)))))))));obtain rfl:=ABk C0;exact ⟨Cy,(((w64 (Aj + 1)),Bp,Bq,Br,Bt):(Int) × (LiI) × LnA × LnN × LvA),Nat.lt_succ_self _,⟨Aq,Aa⟩,rfl,trivial⟩
 ·obtain rfl:=ABk (AC2 Ad Ar);change _=Bm at Aq;subst Aq;refine ACb (AB9 (AB9 (ADj (q_t (ABi (Wk (ACd (ABp (ABr ?_)))))))));obtain rfl:=ABk Co;exact ⟨_,AC8,Ab.x,_,_,_,_,rfl,(Ab.o2 p0),Ab.s.sel [0] (by decide)⟩
def ADp (fuel:Nat) (a3 a7:LiI):Option LiI:=
  ((AHw fuel a3 a7).bind fun (x9,Ad)=>(some x9))
theorem AIn {fuel:Nat} {h:ABh} {Ac:Value} {a3:LiI} {Ae:Value} {a7 r:LiI} (H2:AFl cZ h Ac a3) (H6:AFl cZ h Ae a7) (hp:ADp fuel a3 a7=some r):AB7 Tryz.prog 58 #[Ac,Ae] h (fun x h'=>Ext h h'/\ ∃ (x0:Value) (F0:List Nat) (Am:List LnA) (Ao:List Value),x=x0/\AFg cZ 112 109 h' F0 Am Ao x0 r/\Sp h' h.size [F0]):=by
 unfold ADp at hp;refine cwf (l:=[_,_]) Tryz.func58 rfl rfl (ABi (ACq (Wk (Wk ?_))));have K0:=Kst.k0 h;obtain ⟨⟨x9,Ax⟩,Ap,Ai⟩:=ABl hp;dsimp only at Ai;refine ACu rfl (ARl (H2.ext K0.x) (H6.ext K0.x) Ap) fun Ay Az Aq Ar=>?_;obtain ⟨A3,A4,A5,A6,rfl,Au,Av⟩:=Ar;refine Wk (ACz rfl rfl (ACz rfl rfl (ACd (ACq (Wk (ABp (ABr ?_)))))));have Ab:=K0.no2 Aq Av Au;obtain rfl:=ABk Ai;exact ⟨_,ABt,Ab.x,_,_,_,_,rfl,(Ab.o2 p0),Ab.s.sel [0] (by decide)⟩
def AJf (fuel:Nat) (a1:Int) (Aa:LiA) (Ab:Int):Option ((LiA × Int) ⊕ ((LiA))):=
  (if Ab < a1 then (if Aa.length<=100000000 then (some (Sum.inl ((Aa ++ [Ab]),(w64 (Ab + 1))))) else none) else (some (Sum.inr<| Aa)))
def AFn (fuel:Nat) (a1 a2:Int):Option LiA:=
  ((iter (fun s=>AJf fuel a1 s.1 s.2) fuel ([],0)).bind (fun (Aa:LiA)=>(if Aa.length<=100000000 then (some (Aa ++ [a2])) else none)))
theorem ALv {fuel:Nat} {h:ABh} {a1 a2:Int} {r:LiA} (hp:AFn fuel a1 a2=some r):AB7 Tryz.prog 116 #[(.int .i64 a1),(.int .i64 a2)] h (fun x h'=>Ext h h'/\ ∃ (x0:Value) (F0:List Nat),x=x0/\OwC (cI .i64) 3 h' F0 x0 r/\Sp h' h.size [F0]):=by
 unfold AFn at hp;refine cwf (l:=[_,_]) Tryz.func116 rfl rfl (ABi (ACq (ABp (ABm (ABi (ABp (ABq ?_)))))));have K4:=Kst.anil (cI .i64) 3 (Kst.k0 h);obtain ⟨Am,Ao,Ap⟩:=ABl hp;obtain ⟨Aq,Ar,Au⟩:=ACg Ao;refine ACi 65504 (fun x:(LiA) × (Value) × LnA × (Int)=>[(5,x.2.1),(6,(.int .i64 x.2.2.2))]) (fun k x h'=>iter Aq k (x.1,x.2.2.2)=some Am/\Kst h h' (K4.L.set 0 (aO (cI .i64) 3 x.2.2.1 x.2.1 x.1))) (by kernel_rfl) fuel (([],(.slice none 0 0),[],0):(LiA) × (Value) × LnA × (Int)) ?_ ⟨rfl,rfl,trivial⟩ ?_
 ·exact ⟨Au,K4⟩
 rintro Be ⟨Av,Bf,Bg,Ac⟩ Bh Bi ⟨Aw,Ad⟩;obtain ⟨Ax,Bj,rfl,Aa,Ae⟩:=AB3 Aw;rw [Ar] at Aa;dsimp only at Aa;unfold AJf at Aa;refine ABm (ABi (Wk (Wk (ACx rfl rfl (ABo (⟨_,rfl,fun Af=>?_,fun Af=>?_⟩))))))
 ·refine ABs (q_t (ABm (ABq (ABw (Wk (Wk ?_))))));obtain ⟨Ay,Az⟩:=ifN (AC1 Aa Af);refine ANi ATr AVe rfl rfl trivial tt2 (fun _=>rfl) rfl (show ((cI .i64)).rep _ Ac [(.int .i64 Ac)] from rfl) (Ad.o p0) (by decide) Ay fun Bl A3 A4 Bm A5 A6 A7=>ACd (ACl (q_b (q_t (ABw (Wk (ACy rfl rfl (ABp ?_)))))));obtain rfl:=ABk Az;exact ⟨Ax,(((Av ++ [Ac]),A4,A3,(w64 (Ac + 1))):(LiA) × (Value) × LnA × (Int)),Nat.lt_succ_self _,⟨Ae,(Ad.uo p0 A6 A5 A7)⟩,rfl,rfl,trivial⟩
 ·obtain rfl:=ABk (AC2 Aa Af);change _=Am at Ae;subst Ae;refine ACb (AB9 (AB9 (ADj (q_t (ABi (Wk (Wk ?_)))))));obtain ⟨A8,A9⟩:=ifN Ap;refine ANi ATr AVe rfl rfl trivial tt2 (fun _=>rfl) rfl (show ((cI .i64)).rep _ a2 [(.int .i64 a2)] from rfl) (Ad.o p0) (by decide) A8 fun Bn Bo Bp Bq Ba Bb Bc=>ABp (ABr ?_);have Ag:=Ad.uo p0 Bb Ba Bc;obtain rfl:=ABk A9;exact ⟨_,ABt,Ag.x,_,_,rfl,(Ag.o p0),Ag.s.sel [0] (by decide)⟩
def AIo (fuel:Nat) (a3:LiI) (x5:Int) (Ab:LiA) (Aa:Int):Option ((LiA × Int) ⊕ ((LiA))):=
  (if Aa < x5 then ((AFn fuel Aa Aa).bind fun Ae=>((AFn fuel Aa Aa).bind fun Af=>((AFb fuel a3 Ae Af).bind fun Ag=>((AC4 fuel Ag).bind fun Ah=>(if Ab.length<=100000000 then (some (Sum.inl ((Ab ++ [Ah]),(w64 (Aa + 1))))) else none))))) else (some (Sum.inr<| Ab)))
def AEc (fuel:Nat) (a3:LiI):Option (LiA × Bool):=
  ((AEm fuel a3).bind fun (x5,x6)=>(if (!x6)=true then (some ([],false)) else ((iter (fun s=>AIo fuel a3 x5 s.1 s.2) fuel ([],0)).bind (fun (Ad:LiA)=>(some (Ad,true))))))
theorem AIp {fuel:Nat} {h:ABh} {Aj:Value} {a3:LiI} {r:(LiA × Bool)} (H2:AFl cZ h Aj a3) (hp:AEc fuel a3=some r):AB7 Tryz.prog 89 #[Aj] h (fun x h'=>Ext h h'/\ ∃ (x0:Value) (F0:List Nat),x= .tuple #[x0,.bool r.2]/\OwC cZ 109 h' F0 x0 r.1/\Sp h' h.size [F0]):=by
 unfold AEc at hp;refine cwf (l:=[_]) Tryz.func89 rfl rfl (ABi (ACd (ACq (Wk ?_))));have K0:=Kst.k0 h;obtain ⟨⟨x5,x6⟩,Ax,Ad⟩:=ABl hp;dsimp only at Ad;refine ACu rfl (ALj (H2.ext K0.x) Ax) fun Cf Cg E9 Az=>?_;subst Az;refine Wk (ACz rfl rfl (ACz rfl rfl (ACd (ABp (ABm (ABi (Wk (AF8 rfl (ABo ?_)))))))));have Ar:=K0.e E9;refine ⟨_,rfl,fun Ae=>?_,fun Ae=>?_⟩
 ·refine ABi (ACd (ABp (ABr (AB0 ?_))));have Af:=Kst.anil cZ 109 Ar;obtain rfl:=ABk (ifT Ad Ae);exact ⟨_,AC8,Af.x,_,_,rfl,(Af.o p0),Af.s.sel [0] (by decide)⟩
 ·refine ABs (q_t (ABi (ABp (ABm (ABi (ABp (ABq ?_)))))));have Au:=Kst.anil cZ 109 Ar;obtain ⟨Av,A3,A4⟩:=ABl (AIz Ad Ae);obtain ⟨A5,A6,A7⟩:=ACg A3;refine ACi 4294934720 (fun x:(LiA) × (Value) × LnA × (Int)=>[(6,x.2.1),(7,(.int .i64 x.2.2.2))]) (fun k x h'=>iter A5 k (x.1,x.2.2.2)=some Av/\Kst h h' (Au.L.set 0 (aO cZ 109 x.2.2.1 x.2.1 x.1))) (by kernel_rfl) fuel (([],(.slice none 0 0),[],0):(LiA) × (Value) × LnA × (Int)) ?_ ⟨rfl,rfl,trivial⟩ ?_
  ·exact ⟨A7,Au⟩
  rintro Ch ⟨A8,Ci,Cj,A9⟩ Ck Cm ⟨Ba,Ab⟩;obtain ⟨Bb,Cn,rfl,Aa,Ag⟩:=AB3 Ba;rw [A6] at Aa;dsimp only at Aa;unfold AIo at Aa;refine ABm (ABi (Wk (Wk (ACx rfl rfl (ABo (⟨_,rfl,fun Ah=>?_,fun Ah=>?_⟩))))))
  ·refine ABs (q_t (ABm (ABq (ABw (Wk (Wk (Wk (Wk ?_))))))));obtain ⟨Co,Bc,Be⟩:=ABl (AC1 Aa Ah);refine ACu rfl (ALv Bc) fun Cp Cq Bf Bg=>?_;obtain ⟨Cr,Ct,rfl,Bh,Bi⟩:=Bg;refine Wk (Wk ?_);obtain ⟨Cu,Bj,Bl⟩:=ABl Be;refine ACu rfl (ALv Bj) fun Cv Cw Bm Bn=>?_;obtain ⟨Cx,Cy,rfl,Bo,Bp⟩:=Bn;have Ac:=(Ab.no Bf Bi Bh).no Bm Bp Bo;obtain ⟨Cz,Bq,Br⟩:=ABl Bl;refine ACu rfl (ALk (H2.ext Ac.x) (Ac.o p1).rd (Ac.o p0).rd Bq) fun C0 C1 Bt Bu=>?_;obtain ⟨C2,C3,C4,C5,rfl,Bv,Bw⟩:=Bu;have Aw:=Ac.no2 Bt Bw Bv;obtain ⟨Bx,By,Bz⟩:=ABl Br;refine ACu rfl (AEb (Aw.o2 p0).rd By) fun C6 C7 B1 B2=>?_;obtain ⟨C8,rfl,B3⟩:=B2;obtain ⟨C9,rfl,B4⟩:=B3.cs;have Ai:=(Aw.e B1).az B4;obtain ⟨B5,B6⟩:=ifN Bz;refine ANi AG7 AJ3 rfl rfl trivial tt2 (fun _=>rfl) rfl (Ai.z p0) (Ai.o p4) (by decide) B5 fun Da B7 B8 Db B9 Ca Cb=>ACd (ACl (q_b (q_t (ABw (Wk (ACy rfl rfl (ABp ?_)))))));obtain rfl:=ABk B6;exact ⟨Bb,(((A8 ++ [Bx]),B8,B7,(w64 (A9 + 1))):(LiA) × (Value) × LnA × (Int)),Nat.lt_succ_self _,⟨Ag,(Ai.uo p4 Ca B9 Cb).sel [4] (by decide)⟩,rfl,rfl,trivial⟩
  ·obtain rfl:=ABk (AC2 Aa Ah);change _=Av at Ag;subst Ag;refine ACb (AB9 (AB9 (ADj (q_t (ABi (Wk (ACd (ABp (ABr ?_)))))))));obtain rfl:=ABk A4;exact ⟨_,AC8,Ab.x,_,_,rfl,(Ab.o p0),Ab.s.sel [0] (by decide)⟩
def AHo (fuel:Nat) (a3:LiI) (Ab Aa:Int):Option ((Int) ⊕ ((Bool) ⊕ (Unit))):=
  (if Aa < Ab then ((gI a3 Ab).bind fun Ad=>((gI Ad Aa).bind fun Ae=>((gI a3 Aa).bind fun Af=>((gI Af Ab).bind fun Ag=>((AZr fuel Ae Ag).bind fun Ah=>(if ¬ Ah=0 then (some (Sum.inr<| Sum.inl <| false)) else (some (Sum.inl (w64 (Aa + 1)))))))))) else (some (Sum.inr<| Sum.inr <| ())))
def AHp (fuel:Nat) (a3:LiI) (Aa:Int):Option ((Int) ⊕ ((Bool) ⊕ (Unit))):=
  (if Aa < (a3.length:Int) then ((iter (fun s=>AHo fuel a3 Aa s) fuel 0).bind (fun ex=>match ex with | Sum.inl Ac=>(some (Sum.inr<| Sum.inl <| Ac)) | Sum.inr (_)=>(some (Sum.inl (w64 (Aa + 1)))))) else (some (Sum.inr<| Sum.inr <| ())))
def AEi (fuel:Nat) (a3:LiI):Option Bool:=
  ((iter (fun s=>AHp fuel a3 s) fuel 0).bind (fun ex=>match ex with | Sum.inl Ab=>(some Ab) | Sum.inr (_)=>(some true)))
theorem AKg {fuel:Nat} {h:ABh} {Ao:Value} {a3:LiI} {r:Bool} (H2:AFl cZ h Ao a3) (hp:AEi fuel a3=some r):AB7 Tryz.prog 82 #[Ao] h (fun x h'=>Ext h h'/\x= .bool r):=by
 unfold AEi at hp;refine cwf (l:=[_]) Tryz.func82 rfl rfl (ABi (ABp (ABm (ABi (Wk (ADg AD8 rfl H2 (Wk (ABo (ABq ?_)))))))));have K0:=Kst.k0 h;obtain ⟨Ag,Az,Ar⟩:=ABl hp;obtain ⟨A3,A4,A5⟩:=ACg Az;refine ACi 4294967196 (fun x:(Int)=>[(7,(.int .i64 x))]) (fun k x h'=>iter A3 k x=some Ag/\Kst h h' (K0.L)) (by kernel_rfl) fuel (0:(Int)) ?_ ⟨rfl,trivial⟩ ?_
 ·exact ⟨A5,K0⟩
 rintro Bz u16 B1 B2 ⟨A6,Ah⟩;obtain ⟨A7,B3,rfl,Ab,Ac⟩:=AB3 A6;rw [A4] at Ab;dsimp only at Ab;unfold AHp at Ab;refine ABi (ACx rfl rfl (ABo (ABm (⟨_,rfl,fun Ai=>?_,fun Ai=>?_⟩))))
 ·refine ABs (q_t (ABm (ABq (ABi (Wk (ACq (ABp (ABq ?_))))))));obtain ⟨Aj,A8,Au⟩:=ABl (AC1 Ab Ai);obtain ⟨A9,Ba,Bb⟩:=ACg A8;refine ACi 2147482644 (fun x:(Int)=>[(4,(.int .i64 x))]) (fun k x h'=>iter A9 k x=some Aj/\Kst h h' (Ah.L)) (by kernel_rfl) fuel (0:(Int)) ?_ ⟨rfl,trivial⟩ ?_
  ·exact ⟨Bb,Ah⟩
  rintro B4 Bc B5 B6 ⟨Be,Aa⟩;obtain ⟨Bf,B7,rfl,Ad,Ae⟩:=AB3 Be;rw [Ba] at Ad;dsimp only at Ad;unfold AHo at Ad;refine ABm (ABi (Wk (Wk (ACx rfl rfl (ABo (⟨_,rfl,fun Ak=>?_,fun Ak=>?_⟩))))))
  ·refine ABs (q_t (ABm (ABq (ABm (AMh (Wk (Wk ?_)))))));obtain ⟨B8,Bg,Bh⟩:=ABl (AC1 Ad Ak);refine AIj AD8 rfl H2 rfl Bg fun B9 Ca Cb Bi Bj=>AB4 AHs rfl (ABx Bi Aa.x) (Wk ?_);obtain ⟨Cd,Bl,Bm⟩:=ABl Bh;refine AIf (c:=cZ) AG7 rfl Bj rfl Bl fun Ce Cf Cg Av Bn=>AUo (c:=cZ) ACp rfl (Aa.zx Av) (fun j u hu=>(ABx (Bn j u hu) Aa.x)) (Wk (Wk ?_));obtain ⟨Ch,Bo,Bp⟩:=ABl Bm;refine AIj AD8 rfl H2 rfl Bo fun Ci Cj Ck Bq Br=>AB4 AHs rfl (ABx Bq Aa.x) (Wk ?_);obtain ⟨Cm,Bt,Bu⟩:=ABl Bp;refine AIf (c:=cZ) AG7 rfl Br rfl Bt fun Cn Co Cp Aw Bv=>AUo (c:=cZ) ACp rfl (Aa.zx Aw) (fun j u hu=>(ABx (Bv j u hu) Aa.x)) ?_;obtain ⟨Cq,Bw,Ax⟩:=ABl Bu;refine ACu rfl (AYd (Aa.zx Av).2 (Aa.zx Aw).2 Bw) fun Cr Ct Bx By=>?_;subst By;refine AG8 rfl rfl (ABo ?_);have Ay:=Aa.e Bx;refine ⟨_,rfl,fun Am=>?_,fun Am=>?_⟩
   ·refine ABi (ABp ?_);obtain rfl:=ABk (AC1 Ax Am);change _=Aj at Ae;subst Ae;obtain rfl:=ABk Au;change _=Ag at Ac;subst Ac;refine ABr (ADn (AB0 (AB0 (ADn (ADn (AB0 (AB0 (ADn (AB0 ?_)))))))));obtain rfl:=ABk Ar;exact ⟨_,ABt,Ay.x,rfl⟩
   ·refine ABs (q_b (q_t (ABw (Wk (ACy rfl rfl (ABp ?_))))));obtain rfl:=ABk (AC2 Ax Am);exact ⟨Bf,((w64 (Bc + 1)):(Int)),Nat.lt_succ_self _,⟨Ae,Ay⟩,rfl,trivial⟩
  ·obtain rfl:=ABk (AC2 Ad Ak);change _=Aj at Ae;subst Ae;refine ACb (AB9 (AB9 (ADj (q_b (q_t (ABw (ACy rfl rfl (Wk (ABo ?_)))))))));obtain rfl:=ABk Au;exact ⟨A7,((w64 (u16 + 1)):(Int)),Nat.lt_succ_self _,⟨Ac,Aa⟩,rfl,trivial⟩
 ·obtain rfl:=ABk (AC2 Ab Ai);change _=Ag at Ac;subst Ac;refine ACb (AB9 (AB9 (ADj (q_t (ABi (ABp (ABr ?_)))))));obtain rfl:=ABk Ar;exact ⟨_,ABt,Ah.x,rfl⟩
def AIa (fuel:Nat) (x5:LiA) (Aa:Int):Option ((Int) ⊕ ((Bool) ⊕ (Unit))):=
  (if Aa < (x5.length:Int) then ((gI x5 Aa).bind fun Ac=>((AVq fuel Ac).bind fun Ad=>(if Ad<=0 then (some (Sum.inr<| Sum.inl <| false)) else (some (Sum.inl (w64 (Aa + 1))))))) else (some (Sum.inr<| Sum.inr <| ())))
def AFr (fuel:Nat) (a3:LiI):Option Bool:=
  ((AEc fuel a3).bind fun (x5,x6)=>(((if (!x6)=true then (some (Sum.inl <| false)) else ((AEi fuel a3).bind fun Ad=>(if (!Ad)=true then (some (Sum.inl <| false)) else (some (Sum.inr <| ()))))):Option ((Bool) ⊕ (Unit))).bind (fun ex=>match ex with | Sum.inl Ae=>(some Ae) | Sum.inr (_)=>((iter (fun s=>AIa fuel x5 s) fuel 0).bind (fun ex=>match ex with | Sum.inl Af=>(some Af) | Sum.inr (_)=>(some true))))))
theorem AOn {fuel:Nat} {h:ABh} {Ao:Value} {a3:LiI} {r:Bool} (H2:AFl cZ h Ao a3) (hp:AFr fuel a3=some r):AB7 Tryz.prog 83 #[Ao] h (fun x h'=>Ext h h'/\x= .bool r):=by
 unfold AFr at hp;refine cwf (l:=[_]) Tryz.func83 rfl rfl (ABi (ACq (Wk ?_)));have K0:=Kst.k0 h;obtain ⟨⟨x5,x6⟩,A9,Au⟩:=ABl hp;dsimp only at Au;refine ACu rfl (AIp (H2.ext K0.x) A9) fun B8 B9 E9 Bb=>?_;obtain ⟨Ca,Cb,rfl,Bc,Be⟩:=Bb;refine Wk (ACz rfl rfl (ACz rfl rfl (ACd (ABp ?_))));have Ac:=K0.no E9 Be Bc;obtain ⟨Bf,Av,Ag⟩:=ABl Au;refine AN1 520196 (fun x:Unit=>[]) (fun x h'=>(Sum.inr <| ())=Bf/\Kst h h' (Ac.L)) ?_ ?_
 ·refine ABi (Wk (AF8 rfl (Wk ?_)));cases Aw:(!x6)
  ·refine ACk 14 false (Wk (ACk 14 false ?_));obtain ⟨Cd,Bg,Ax⟩:=ABl (AIz Av Aw);refine ACu rfl (AKg (H2.ext Ac.x) Bg) fun Ce Cf Bh Bi=>?_;subst Bi;refine ACk 14 false (AF8 rfl (ABu rfl (ABo ?_)));have Ay:=Ac.e Bh;refine ⟨_,rfl,fun Ah=>?_,fun Ah=>?_⟩
   ·refine ABi (ABp ?_);obtain rfl:=ABk (ifT Ax Ah);refine ABr (AB0 ?_);obtain rfl:=ABk Ag;exact ⟨_,ABt,Ay.x,rfl⟩
   ·refine ABs (q_t ?_);exact ⟨(():Unit),⟨ABk (AIz Ax Ah),Ay⟩,trivial⟩
  ·refine AJx 14 true (ABy rfl (ABo (AB8 rfl (ABi (ABp ?_)))));obtain rfl:=ABk (ifT Av Aw);refine ABr (AB0 ?_);obtain rfl:=ABk Ag;exact ⟨_,ABt,Ac.x,rfl⟩
 rintro ⟨⟩ Cg Ch ⟨Bj,Ai⟩;subst Bj;refine ABm (ABi (Wk (ADr AG7 rfl (Ai.o p0).rd (Wk (ABo (ABq ?_))))));obtain ⟨Aj,Bl,Az⟩:=ABl Ag;obtain ⟨Bm,Bn,Bo⟩:=ACg Bl;refine ACi 534773828 (fun x:(Int)=>[(21,(.int .i64 x))]) (fun k x h'=>iter Bm k x=some Aj/\Kst h h' (Ai.L)) (by kernel_rfl) fuel (0:(Int)) ?_ ⟨rfl,trivial⟩ ?_
 ·exact ⟨Bo,Ai⟩
 rintro Ci Bp Cj Ck ⟨Bq,Ad⟩;obtain ⟨Br,Cm,rfl,Aa,Ab⟩:=AB3 Bq;rw [Bn] at Aa;dsimp only at Aa;unfold AIa at Aa;refine ABi (ACx rfl rfl (ABo (ABm (⟨_,rfl,fun Ak=>?_,fun Ak=>?_⟩))))
 ·refine ABs (q_t (ABm (ABq (ABi ?_))));obtain ⟨Cn,A3,Bt⟩:=ABl (AC1 Aa Ak);refine AOg AG7 rfl (Ad.o p0) rfl A3 fun Co Bu=>?_;obtain ⟨A4,Bv,Bw⟩:=(Ad.o p0).cells Bu A3;have A5:=Ad.az Bv;refine AUo (c:=cZ) ACp rfl (A5.z p0) (fun j u hu=>(Bw j u hu)) (ADx [.bool false,.slice none 0 0] AJ3 rfl trivial tt2 fun Cp Bx By Bz B1=>?_);have Ae:=A5.nb Bz B1 By;refine ADi A4 ACp (cZ.klen (Ae.z p1)) (cZ.klen (ACj Bx)) rfl rfl (cZ.one (Ae.z p1)) (Ae.b p0) fun Cq B2 B3=>AMg ?_;have Af:=Ae.sb p0 B3 B2 rfl;refine AG6 A4 ACp (cZ.klen (Af.z p1)) rfl (Af.b p0).agg ?_;obtain ⟨Cr,B4,A6⟩:=ABl Bt;refine ACu rfl (AUs (Af.z p1).2 B4) fun Ct Cu B5 B6=>?_;subst B6;refine AYa rfl rfl (ABo ?_);have A7:=Af.e B5;refine ⟨_,rfl,fun Am=>?_,fun Am=>?_⟩
  ·refine ABi (ABp ?_);obtain rfl:=ABk (AC1 A6 Am);change _=Aj at Ab;subst Ab;refine ABr (ADn (AB0 (AB0 (ADn (AB0 ?_)))));obtain rfl:=ABk Az;exact ⟨_,ABt,A7.x,rfl⟩
  ·refine ABs (q_b (q_t (ABw (ACy rfl rfl (Wk (ABo ?_))))));obtain rfl:=ABk (AC2 A6 Am);exact ⟨Br,((w64 (Bp + 1)):(Int)),Nat.lt_succ_self _,⟨Ab,A7.sel [2] (by decide)⟩,rfl,trivial⟩
 ·obtain rfl:=ABk (AC2 Aa Ak);change _=Aj at Ab;subst Ab;refine ACb (AB9 (AB9 (ADj (q_t (ABi (ABp (ABr ?_)))))));obtain rfl:=ABk Az;exact ⟨_,ABt,Ad.x,rfl⟩
def ADw (fuel:Nat) (a3:LiI):Option Int:=
  ((AEm fuel a3).bind fun (x5,x6)=>(if (!x6)=true then (some 3) else (if 8 < x5 then (some 3) else ((AEi fuel a3).bind fun Ad=>(if (!Ad)=true then (some 4) else ((AFr fuel a3).bind fun Ae=>(if (!Ae)=true then (some 5) else (some 0))))))))
theorem AIb {fuel:Nat} {h:ABh} {Ah:Value} {a3:LiI} {r:Int} (H2:AFl cZ h Ah a3) (hp:ADw fuel a3=some r):AB7 Tryz.prog 51 #[Ah] h (fun x h'=>Ext h h'/\x= .int .i64 r):=by
 unfold ADw at hp;refine cwf (l:=[_]) Tryz.func51 rfl rfl (ABi (ACq (Wk ?_)));have K0:=Kst.k0 h;obtain ⟨⟨x5,x6⟩,Au,Ac⟩:=ABl hp;dsimp only at Ac;refine ACu rfl (ALj (H2.ext K0.x) Au) fun A7 A8 E9 Aw=>?_;subst Aw;refine Wk (ACz rfl rfl (ACz rfl rfl (ACd (ABp (ABm (ABq (ABi (Wk (AF8 rfl (Wk ?_))))))))));have Aa:=K0.e E9;cases Ak:(!x6)
 ·refine ACk 13 false (Wk (ACk 13 false (AIm rfl rfl (ABu rfl (ABp ?_)))));have Am:=AIz Ac Ak;refine ⟨_,rfl,fun Ad=>?_,fun Ad=>?_⟩
  ·refine ABi (ABp (ABr (ADn (AB0 ?_))));obtain rfl:=ABk (AC1 Am Ad);exact ⟨_,ABt,Aa.x,rfl⟩
  ·refine ABi (Wk ?_);obtain ⟨A9,Ax,Ao⟩:=ABl (AC2 Am Ad);refine ACu rfl (AKg (H2.ext Aa.x) Ax) fun Ba Bb Ay Az=>?_;subst Az;refine AF8 rfl (ABp ?_);have Ae:=Aa.e Ay;refine ⟨_,rfl,fun Af=>?_,fun Af=>?_⟩
   ·refine ABi (ABp (ABr (ADn (AB0 ?_))));obtain rfl:=ABk (ifT Ao Af);exact ⟨_,ABt,Ae.x,rfl⟩
   ·refine ABi (Wk ?_);obtain ⟨Bc,A3,Ap⟩:=ABl (AIz Ao Af);refine ACu rfl (AOn (H2.ext Ae.x) A3) fun Be Bf A4 A5=>?_;subst A5;refine AF8 rfl (ABp ?_);have Aq:=Ae.e A4;refine ⟨_,rfl,fun Ag=>?_,fun Ag=>?_⟩
    ·refine ABi (ABp (ABr (ADn (AB0 ?_))));obtain rfl:=ABk (ifT Ap Ag);exact ⟨_,ABt,Aq.x,rfl⟩
    ·refine ABs (q_b (q_t (ABi (ABp (ABr ?_)))));obtain rfl:=ABk (AIz Ap Ag);exact ⟨_,ABt,Aq.x,rfl⟩
 ·refine AF9 13 true (ABy rfl (ABp (AB8 rfl (ABi (ABp (ABr (ADn (AB0 ?_))))))));obtain rfl:=ABk (ifT Ac Ak);exact ⟨_,ABt,Aa.x,rfl⟩
def AEj (fuel:Nat) (a3 a7:LiI):Option LiI:=
  ((AEh fuel a7).bind fun (x9,Af)=>((ADp fuel x9 a3).bind fun Ad=>((ADp fuel Ad a7).bind fun Ae=>(some Ae))))
theorem AN5 {fuel:Nat} {h:ABh} {Ad:Value} {a3:LiI} {Af:Value} {a7 r:LiI} (H2:AFl cZ h Ad a3) (H6:AFl cZ h Af a7) (hp:AEj fuel a3 a7=some r):AB7 Tryz.prog 57 #[Ad,Af] h (fun x h'=>Ext h h'/\ ∃ (x0:Value) (F0:List Nat) (Ap:List LnA) (Aq:List Value),x=x0/\AFg cZ 112 109 h' F0 Ap Aq x0 r/\Sp h' h.size [F0]):=by
 unfold AEj at hp;refine cwf (l:=[_,_]) Tryz.func57 rfl rfl (ABi (ACq (Wk ?_)));have K0:=Kst.k0 h;obtain ⟨⟨x9,Bf⟩,Ar,Am⟩:=ABl hp;dsimp only at Am;refine ACu rfl (AKf (H6.ext K0.x) Ar) fun Bg Bh Au Av=>?_;obtain ⟨Bi,Bj,Bl,Bm,rfl,Aw,Ax⟩:=Av;refine Wk (ACz rfl rfl (ACz rfl rfl (ACd (ACq (Wk (Wk ?_))))));have Aa:=K0.no2 Au Ax Aw;obtain ⟨Bn,Ay,Az⟩:=ABl Am;refine ACu rfl (AIn (Aa.o2 p0).rd (H2.ext Aa.x) Ay) fun Bo Bp A3 A4=>?_;obtain ⟨Bq,Br,Bt,Bu,rfl,A5,A6⟩:=A4;refine Wk ?_;have Ab:=Aa.no2 A3 A6 A5;obtain ⟨Bv,A7,A8⟩:=ABl Az;refine ACu rfl (AIn (Ab.o2 p0).rd (H6.ext Ab.x) A7) fun Bw Bx A9 Ba=>?_;obtain ⟨By,Bz,B1,B2,rfl,Bb,Bc⟩:=Ba;refine ABp (ABr ?_);have Ac:=Ab.no2 A9 Bc Bb;obtain rfl:=ABk A8;exact ⟨_,ABt,Ac.x,_,_,_,_,rfl,(Ac.o2 p0),Ac.s.sel [0] (by decide)⟩
def AI5 (fuel:Nat) (a6:Int) (Ab Ac:LiA) (Aa:Int):Option ((LiA × LiA × Int) ⊕ ((LiA × LiA))):=
  (if Aa < a6 then (if Ab.length<=100000000 then (if Ac.length<=100000000 then (some (Sum.inl ((Ab ++ [Aa]),(Ac ++ [Aa]),(w64 (Aa + 1))))) else none) else none) else (some (Sum.inr<| (Ab,Ac))))
def AEn (fuel:Nat) (a3:LiI) (a5 a6:Int):Option Int:=
  ((iter (fun s=>AI5 fuel a6 s.1 s.2.1 s.2.2) fuel ([],[],0)).bind (fun ((Ab,Ac):LiA × LiA)=>(if Ab.length<=100000000 then (if Ac.length<=100000000 then ((AFb fuel a3 (Ab ++ [a5]) (Ac ++ [a6])).bind fun Af=>((AC4 fuel Af).bind fun Ag=>(some Ag))) else none) else none)))
theorem AI6 {fuel:Nat} {h:ABh} {Ak:Value} {a3:LiI} {a5 a6 r:Int} (H2:AFl cZ h Ak a3) (hp:AEn fuel a3 a5 a6=some r):AB7 Tryz.prog 94 #[Ak,(.int .i64 a5),(.int .i64 a6)] h (fun x h'=>Ext h h'/\ ∃ (x0:Value),x=x0/\ZZ h' x0 r):=by
 unfold AEn at hp;refine cwf (l:=[_,_,_]) Tryz.func94 rfl rfl (ABi (ADx [.bool false,.slice none 0 0] AJ3 rfl trivial tt2 fun b7 h8 V9 Ay Az=>AMg (ACd (ABp (ABm (ABi (ABp (ABq ?_))))))));have Ap:=Kst.anil (cI .i64) 3 (Kst.anil (cI .i64) 3 ((Kst.k0 h).nb Ay Az V9));obtain ⟨Aq,A3,A4⟩:=ABl hp;obtain ⟨A5,A6,A7⟩:=ACg A3;refine ACi 8388480 (fun x:(LiA) × (Value) × LnA × (LiA) × (Value) × LnA × (Int)=>[(7,x.2.1),(8,x.2.2.2.2.1),(9,(.int .i64 x.2.2.2.2.2.2))]) (fun k x h'=>iter A5 k (x.1,x.2.2.2.1,x.2.2.2.2.2.2)=some Aq/\Kst h h' ((Ap.L.set 1 (aO (cI .i64) 3 x.2.2.1 x.2.1 x.1)).set 0 (aO (cI .i64) 3 x.2.2.2.2.2.1 x.2.2.2.2.1 x.2.2.2.1))) (by kernel_rfl) fuel (([],(.slice none 0 0),[],[],(.slice none 0 0),[],0):(LiA) × (Value) × LnA × (LiA) × (Value) × LnA × (Int)) ?_ ⟨rfl,rfl,rfl,trivial⟩ ?_
 ·exact ⟨A7,Ap⟩
 rintro Co ⟨A8,Cp,Cq,A9,Cr,Ct,Aa⟩ Cu Cv ⟨Ba,Ae⟩;obtain ⟨Bb,Cw,rfl,Ab,Ai⟩:=AB3 Ba;rw [A6] at Ab;dsimp only at Ab;unfold AI5 at Ab;refine ABm (ABi (Wk (Wk (ACx rfl rfl (ABo (⟨_,rfl,fun Aj=>?_,fun Aj=>?_⟩))))))
 ·refine ABs (q_t (ABm (ABq (ABi (Wk (Wk ?_))))));obtain ⟨Bc,Be⟩:=ifN (AC1 Ab Aj);refine ANi ATr AVe rfl rfl trivial tt2 (fun _=>rfl) rfl (show ((cI .i64)).rep _ Aa [(.int .i64 Aa)] from rfl) (Ae.o p1) (by decide) Bc fun Cx Bf Bg Cy Bh Bi Bj=>ABp (ABw (Wk (Wk ?_)));have Ar:=Ae.uo p1 Bi Bh Bj;obtain ⟨Bl,Bm⟩:=ifN Be;refine ANi ATr AVe rfl rfl trivial tt2 (fun _=>rfl) rfl (show ((cI .i64)).rep _ Aa [(.int .i64 Aa)] from rfl) (Ar.o p0) (by decide) Bl fun Cz Bn Bo C0 Bp Bq Br=>ACd (ACl (q_b (q_t (ABw (Wk (ACy rfl rfl (ABp ?_)))))));obtain rfl:=ABk Bm;exact ⟨Bb,(((A8 ++ [Aa]),Bg,Bf,(A9 ++ [Aa]),Bo,Bn,(w64 (Aa + 1))):(LiA) × (Value) × LnA × (LiA) × (Value) × LnA × (Int)),Nat.lt_succ_self _,⟨Ai,(Ar.uo p0 Bq Bp Br)⟩,rfl,rfl,rfl,trivial⟩
 ·obtain rfl:=ABk (AC2 Ab Aj);change _=Aq at Ai;subst Ai;refine ACb (AB9 (AB9 (ADj (q_t (ABi (Wk (Wk (Wk ?_))))))));obtain ⟨Bt,Bu⟩:=ifN A4;refine ANi ATr AVe rfl rfl trivial tt2 (fun _=>rfl) rfl (show ((cI .i64)).rep _ a5 [(.int .i64 a5)] from rfl) (Ae.o p1) (by decide) Bt fun C1 C2 C3 C4 Bv Bw Bx=>Wk (Wk ?_);have Au:=Ae.uo p1 Bw Bv Bx;obtain ⟨By,Bz⟩:=ifN Bu;refine ANi ATr AVe rfl rfl trivial tt2 (fun _=>rfl) rfl (show ((cI .i64)).rep _ a6 [(.int .i64 a6)] from rfl) (Au.o p0) (by decide) By fun C5 C6 C7 C8 B1 B2 B3=>?_;have Af:=Au.uo p0 B2 B1 B3;obtain ⟨C9,B4,B5⟩:=ABl Bz;refine ACu rfl (ALk (H2.ext Af.x) (Af.o p1).rd (Af.o p0).rd B4) fun Da Db B6 B7=>?_;obtain ⟨Dc,Dd,De,Df,rfl,B8,B9⟩:=B7;have Av:=Af.no2 B6 B9 B8;obtain ⟨Dg,Ca,Cb⟩:=ABl B5;refine ACu rfl (AEb (Av.o2 p0).rd Ca) fun Dh Cd Ce Cf=>?_;obtain ⟨Di,rfl,Cg⟩:=Cf;obtain ⟨Ch,rfl,Ci⟩:=Cg.cs;have Ag:=(Av.e Ce).az Ci;refine ADi Ch ACp (cZ.klen (Ag.z p0)) (cZ.klen (ACj Cd)) rfl rfl (cZ.one (Ag.z p0)) (Ag.b p4) fun Dj Cj Ck=>ABo (ABr ?_);have Ah:=Ag.sb p4 Ck Cj rfl;obtain rfl:=ABk Cb;exact ⟨_,AFi ACp (cZ.klen (Ah.z p0)) rfl (Ah.b p4),Ah.x,_,rfl,(Ah.z p0).2⟩
def ADq (fuel:Nat) (a3:LiA) (a5:Int):Option Int:=
  (if a5=0 then ((AKv fuel 1).bind fun Ac=>(some Ac)) else ((gI a3 (w64 (a5 - 1))).bind fun Ad=>(some Ad)))
theorem AEv {fuel:Nat} {h:ABh} {Ag:Value} {a3:LiA} {a5 r:Int} (H2:SlC cZ h Ag a3) (hp:ADq fuel a3 a5=some r):AB7 Tryz.prog 95 #[Ag,(.int .i64 a5)] h (fun x h'=>Ext h h'/\ ∃ (x0:Value),x=x0/\ZZ h' x0 r):=by
 unfold ADq at hp;refine cwf (l:=[_,_]) Tryz.func95 rfl rfl (ABi (ADx [.bool false,.slice none 0 0] AJ3 rfl trivial tt2 fun b6 h7 V8 E9 Aq=>ABo (ABm (ABi (Wk (ADo rfl rfl (ABo ?_)))))));have Aa:=(Kst.k0 h).nb E9 Aq V8;refine ⟨_,rfl,fun Af=>?_,fun Af=>?_⟩
 ·refine ABi ?_;obtain ⟨Be,Ar,Au⟩:=ABl (AC1 hp Af);refine ACu rfl (AJp Ar) fun Bf Av Aw Ax=>?_;obtain ⟨Bg,rfl,Ay⟩:=Ax;obtain ⟨Az,rfl,A3⟩:=Ay.cs;have Ac:=(Aa.e Aw).az A3;refine ADi Az ACp (cZ.klen (Ac.z p0)) (cZ.klen (ACj Av)) rfl rfl (cZ.one (Ac.z p0)) (Ac.b p1) fun Bh A4 A5=>ABo (ABr (AB0 ?_));have Ad:=Ac.sb p1 A5 A4 rfl;obtain rfl:=ABk Au;exact ⟨_,AFi ACp (cZ.klen (Ad.z p0)) rfl (Ad.b p1),Ad.x,_,rfl,(Ad.z p0).2⟩
 ·refine ABs (q_t (ABi (Wk (Wk (AHd rfl rfl ?_)))));obtain ⟨Bi,A6,A7⟩:=ABl (AC2 hp Af);refine AIf (c:=cZ) AG7 rfl H2 rfl A6 fun Bj Bl A8 Ab A9=>AUo (c:=cZ) ACp rfl (Aa.zx Ab) (fun j u hu=>(ABx (A9 j u hu) Aa.x)) (ADi A8 ACp (cZ.klen (Aa.zx Ab)) (cZ.klen (ACj h7)) rfl rfl (cZ.one (Aa.zx Ab)) (Aa.b p0) fun Bm Ba Bb=>ABo (ABr ?_));have Ae:=Aa.sb p0 Bb Ba rfl;obtain rfl:=ABk A7;exact ⟨_,AFi ACp (cZ.klen (Ae.zx Ab)) rfl (Ae.b p0),Ae.x,_,rfl,(Ae.zx Ab).2⟩
def AFo (fuel:Nat) (a3:LiI) (a7:LiA) (a9 Aa:Int):Option Bool:=
  ((AKv fuel 2).bind fun Ae=>((AEn fuel a3 a9 Aa).bind fun Af=>((Ag6 fuel Af).bind fun Ag=>((APs fuel Ae Ag).bind fun Ah=>((ADq fuel a7 (w64 (Aa + 1))).bind fun Ai=>((AZr fuel Ah Ai).bind fun Aj=>(some (decide (Aj<=0)))))))))
theorem ALw {fuel:Nat} {h:ABh} {Ac:Value} {a3:LiI} {Ae:Value} {a7:LiA} {a9 Ah:Int} {r:Bool} (H2:AFl cZ h Ac a3) (H6:SlC cZ h Ae a7) (hp:AFo fuel a3 a7 a9 Ah=some r):AB7 Tryz.prog 90 #[Ac,Ae,(.int .i64 a9),(.int .i64 Ah)] h (fun x h'=>Ext h h'/\x= .bool r):=by
 unfold AFo at hp;refine cwf (l:=[_,_,_,_]) Tryz.func90 rfl rfl (ABi (ACq ?_));obtain ⟨Bv,Ap,Aq⟩:=ABl hp;refine ACu rfl (AJp Ap) fun Bw Bx Ar Au=>?_;obtain ⟨By,rfl,Av⟩:=Au;obtain ⟨Bz,rfl,Aw⟩:=Av.cs;refine Wk (Wk (Wk ?_));have Ai:=((Kst.k0 h).e Ar).az Aw;obtain ⟨B1,Ax,Ay⟩:=ABl Aq;refine ACu rfl (AI6 (H2.ext Ai.x) Ax) fun B2 B3 Az A3=>?_;obtain ⟨B4,rfl,A4⟩:=A3;obtain ⟨B5,rfl,A5⟩:=A4.cs;have Aj:=(Ai.e Az).az A5;obtain ⟨B6,A6,A7⟩:=ABl Ay;refine ACu rfl (Afj (Aj.z p0).2 A6) fun B7 B8 A8 A9=>?_;obtain ⟨B9,rfl,Ba⟩:=A9;obtain ⟨Ca,rfl,Bb⟩:=Ba.cs;have Aa:=(Aj.e A8).az Bb;obtain ⟨Cb,Bc,Be⟩:=ABl A7;refine ACu rfl (AN3 (Aa.z p2).2 (Aa.z p0).2 Bc) fun Cd Ce Bf Bg=>?_;obtain ⟨Cf,rfl,Bh⟩:=Bg;obtain ⟨Cg,rfl,Bi⟩:=Bh.cs;refine Wk (Wk (ACy rfl rfl ?_));have Ak:=(Aa.e Bf).az Bi;obtain ⟨Ch,Bj,Bl⟩:=ABl Be;refine ACu rfl (AEv (H6.ext Ak.x) Bj) fun Ci Cj Bm Bn=>?_;obtain ⟨Ck,rfl,Bo⟩:=Bn;obtain ⟨Cm,rfl,Bp⟩:=Bo.cs;have Ab:=(Ak.e Bm).az Bp;obtain ⟨Cn,Bq,Br⟩:=ABl Bl;refine ACu rfl (AYd (Ab.z p1).2 (Ab.z p0).2 Bq) fun Co Cp Bt Bu=>?_;subst Bu;refine AYa rfl rfl (ABp (ABr ?_));obtain rfl:=ABk Br;exact ⟨_,ABt,(Ab.e Bt).x,rfl⟩
def AFp (fuel:Nat) (a3:LiI):Option Bool:=
  ((AC4 fuel a3).bind fun x5=>((AKv fuel 10000).bind fun Ac=>((AZr fuel x5 Ac).bind fun Ad=>(some (decide (Ad<=0))))))
theorem ALx {fuel:Nat} {h:ABh} {Ab:Value} {a3:LiI} {r:Bool} (H2:AFl cZ h Ab a3) (hp:AFp fuel a3=some r):AB7 Tryz.prog 52 #[Ab] h (fun x h'=>Ext h h'/\x= .bool r):=by
 unfold AFp at hp;refine cwf (l:=[_]) Tryz.func52 rfl rfl (ABi (ACq (Wk ?_)));have K0:=Kst.k0 h;obtain ⟨x5,Af,Ag⟩:=ABl hp;refine ACu rfl (AEb (H2.ext K0.x) Af) fun A3 h9 E8 Ai=>?_;obtain ⟨A5,rfl,Aj⟩:=Ai;obtain ⟨A6,rfl,Ak⟩:=Aj.cs;obtain ⟨A7,Am,Ao⟩:=ABl Ag;refine ACu rfl (AJp Am) fun A8 A9 Ap Aq=>?_;obtain ⟨Ba,rfl,Ar⟩:=Aq;obtain ⟨Bb,rfl,Au⟩:=Ar.cs;have Aa:=(((K0.e E8).az Ak).e Ap).az Au;obtain ⟨Bc,Av,Aw⟩:=ABl Ao;refine ACu rfl (AYd (Aa.z p1).2 (Aa.z p0).2 Av) fun Be Bf Ax Ay=>?_;subst Ay;refine AYa rfl rfl (ABp (ABr ?_));obtain rfl:=ABk Aw;exact ⟨_,ABt,(Aa.e Ax).x,rfl⟩
def AJt (fuel:Nat) (a1:Int) (a2:Bool) (Aa:Int) (Ac:LiI):Option ((Int × LiI) ⊕ ((LiI))):=
  (if Aa < ((List.replicate (Int.toNat a1) ([]:List Int)).length:Int) then (if 0<=a1/\a1<=100000000 then ((gI Ac Aa).bind fun Ai=>((gI (sI Ac Aa (List.replicate (Int.toNat a1) (0:Int))) Aa).bind fun Ae=>((gI Ae Aa).bind fun Aj=>(((if a2=true then (if Aa=(w64 (a1 - 1)) then (if 3 < a1 then (some ( (w64 (Aa - 2)))) else (some ( (w64 (Aa - 1))))) else (some ( (w64 (Aa - 1))))) else (some ( (w64 (Aa - 1))))):Option ((Int))).bind (fun (Ad:Int)=>(if 0<=Ad then ((gI (sI (sI Ac Aa (List.replicate (Int.toNat a1) (0:Int))) Aa (sI Ae Aa 2)) Aa).bind fun Af=>((gI (sI (sI Ac Aa (List.replicate (Int.toNat a1) (0:Int))) Aa (sI Ae Aa 2)) Ad).bind fun Ak=>((gI Af Ad).bind fun Am=>((gI (sI (sI (sI Ac Aa (List.replicate (Int.toNat a1) (0:Int))) Aa (sI Ae Aa 2)) Aa (sI Af Ad (-1))) Ad).bind fun Ag=>((gI Ag Aa).bind fun Ao=>(some (Sum.inl ((w64 (Aa + 1)),(sI (sI (sI (sI Ac Aa (List.replicate (Int.toNat a1) (0:Int))) Aa (sI Ae Aa 2)) Aa (sI Af Ad (-1))) Ad (sI Ag Aa (-1))))))))))) else (some (Sum.inl ((w64 (Aa + 1)),(sI (sI Ac Aa (List.replicate (Int.toNat a1) (0:Int))) Aa (sI Ae Aa 2))))))))))) else none) else (some (Sum.inr<| Ac)))
def AF0 (fuel:Nat) (a1:Int) (a2:Bool):Option LiI:=
  (if 0<=a1/\a1<=100000000 then ((iter (fun s=>AJt fuel a1 a2 s.1 s.2) fuel (0,(List.replicate (Int.toNat a1) ([]:List Int)))).bind (fun (Ac:LiI)=>(some Ac))) else none)
theorem AMb {fuel:Nat} {h:ABh} {a1:Int} {a2:Bool} {r:LiI} (hp:AF0 fuel a1 a2=some r):AB7 Tryz.prog 61 #[(.int .i64 a1),(.bool a2)] h (fun x h'=>Ext h h'/\ ∃ (x0:Value) (F0:List Nat) (Bn:List LnA) (Bo:List Value),x=x0/\AFg (cI .i64) 23 2 h' F0 Bn Bo x0 r/\Sp h' h.size [F0]):=by
 unfold AF0 at hp;refine cwf (l:=[_,_]) Tryz.func61 rfl rfl (ABi (ACq (Wk ?_)));obtain ⟨Bp,Bq⟩:=ifN hp;refine AUp (cI .i64) 2 AB2 AMl rfl trivial tt2 rfl rfl (by decide) Bp fun Br Bt Bu v9 h7 I8 E5 S6=>ABp (ABm (ABi (Wk ?_)));have Aq:=(Kst.k0 h).no2 E5 S6 I8;refine ADg AB2 rfl (Aq.o2 p0).rd (Wk (ABo (ABq ?_)));obtain ⟨A4,Bz,B1⟩:=ABl Bq;obtain ⟨B2,B3,B4⟩:=ACg Bz;refine ACi 72057594037924032 (fun x:(Int) × (LiI) × LnA × LnN × LvA=>[(12,(.int .i64 x.1))]) (fun k x h'=>iter B2 k (x.1,x.2.1)=some A4/\Kst h h' (Aq.L.set 0 (aO2 (cI .i64) 23 2 x.2.2.1 x.2.2.2.1 x.2.2.2.2 v9 x.2.1))) (by kernel_rfl) fuel ((0,(List.replicate (Int.toNat a1) ([]:List Int)),Br,Bt,Bu):(Int) × (LiI) × LnA × LnN × LvA) ?_ ⟨rfl,trivial⟩ ?_
 ·exact ⟨B4,Aq⟩
 rintro Dc ⟨Aa,A5,Dd,Ag,A6⟩ De Df ⟨B5,Ah⟩;obtain ⟨A7,Dg,rfl,Ad,Ai⟩:=AB3 B5;rw [B3] at Ad;dsimp only at Ad;unfold AJt at Ad;refine ABi (ACx rfl rfl (ABo (ABm (⟨_,rfl,fun Ar=>?_,fun Ar=>?_⟩))))
 ·refine ABs (q_t (ABm (ABq (ABi (Wk (ACq (Wk (Wk (Wk ?_)))))))));obtain ⟨B6,B7⟩:=ifN (AC1 Ad Ar);refine ARf (c:=(cI .i64)) (a:=0) ABv AHg rfl rfl (fun _=>rfl) rfl trivial tt2 rfl rfl (by decide) B6 fun Aj A8 Dh B8 B9 Ca Cb=>?_;have Ae:=Ah.no B9 (AGu Ca Cb) B8;obtain ⟨Di,A9,Cd⟩:=ABl B7;refine ADu AB2 rfl (Ae.o2 p1) rfl A9 fun Ba Dj Ce Dk Dl=>AWc ACn (Ae.o2 p1) A9 Ce rfl rfl (Ae.o p0) (Ae.dj p0 p1 (by decide)) fun Dn Cf Cg Ch=>AMg (Wk (Wk ?_));have Ak:=Ae.m2 p0 p1 (by decide) Cg Cf (fun z hz=> .inl (Ch z hz));obtain ⟨Bb,Au,Ci⟩:=ABl Cd;refine ADu AB2 rfl (Ak.o2 p1) rfl Au fun Do Dp Dq Cj Ck=>AB4 ACn rfl Ck (Wk ?_);obtain ⟨Dr,Bc,Cm⟩:=ABl Ci;refine AE7 (m:=Aa) ABv rfl (Ak.o2 p1) Cj Au rfl Bc fun Ds Cn=>AJo (m:=Aa) (AF6 ACr rfl rfl rfl) (Ak.o2 p1) Cn Au Bc (show ((cI .i64)).rep _ 2 _ from rfl) fun Dt Co Cp=>AMg (Wk (AHd rfl rfl (ABp ?_)));have Af:=Ak.uO2 p1 Cp Co;obtain ⟨Cq,Be,Bf⟩:=ABl Cm;refine AN1 2198754820224 (fun x:(Int)=>[(7,(.int .i64 x))]) (fun x h'=>( x)=Cq/\Kst h h' (AI0 Af.L [1])) ?_ ?_
  ·refine ABi (Wk (Wk ?_));cases Bg:a2
   ·refine AOf 29 false (ABu rfl (Wk (AF9 35 false (ABu rfl (ABo (ACc rfl (ABs (q_t ?_))))))));exact ⟨((w64 (Aa - 1)):(Int)),⟨ABk (AIz Be Bg),Af.sel [1] (by decide)⟩,rfl,trivial⟩
   ·refine ACk 29 true (Wk (ACk 29 true (Wk (ACk 29 true (AHd rfl rfl (ACk 29 true (ADo rfl rfl (ABy rfl (Wk ?_)))))))));have Bh:=ifT Be Bg;by_cases Am:Aa=(w64 (a1 - 1))
    ·have Bi:=ifT Bh Am;rw [decide_eq_true Am];refine ACk 35 true (Wk (ACk 35 true (AIm rfl rfl (ABy rfl (ABo (⟨_,rfl,fun Av=>?_,fun Av=>?_⟩))))))
     ·refine ABw (Wk (AHd rfl rfl (ABp ?_)));exact ⟨((w64 (Aa - 2)):(Int)),⟨ABk (AC1 Bi Av),Af.sel [1] (by decide)⟩,rfl,trivial⟩
     ·refine ABs (q_t ?_);exact ⟨((w64 (Aa - 1)):(Int)),⟨ABk (AC2 Bi Av),Af.sel [1] (by decide)⟩,rfl,trivial⟩
    ·rw [decide_eq_false Am];refine AF9 35 false (ABu rfl (ABo (ACc rfl (ABs (q_t ?_)))));exact ⟨((w64 (Aa - 1)):(Int)),⟨ABk (ifF Bh Am),Af.sel [1] (by decide)⟩,rfl,trivial⟩
  rintro Ao Du Dv ⟨Cr,Ac⟩;subst Cr;refine ABi (Wk (AMo rfl rfl (ABo (⟨_,rfl,fun Aw=>?_,fun Aw=>?_⟩))))
  ·refine AMh (Wk (Wk ?_));obtain ⟨Ct,Ax,Cu⟩:=ABl (AC1 Bf Aw);refine ADu AB2 rfl (Ac.o2 p0) rfl Ax fun Dw Dx Dy Cv Cw=>AB4 ACn rfl Cw (Wk (Wk (Wk ?_)));obtain ⟨Dz,Cx,Cy⟩:=ABl Cu;refine ADu AB2 rfl (Ac.o2 p0) rfl Cx fun D0 D1 D2 Cz C0=>AB4 ACn rfl C0 (Wk ?_);obtain ⟨D3,Bj,C1⟩:=ABl Cy;refine AE7 (m:=Aa) ABv rfl (Ac.o2 p0) Cv Ax rfl Bj fun D4 C2=>AJo (m:=Aa) (AF6 ACr rfl rfl rfl) (Ac.o2 p0) C2 Ax Bj (show ((cI .i64)).rep _ (-1) _ from rfl) fun D5 C3 C4=>?_;have Ay:=Ac.uO2 p0 C4 C3;obtain ⟨C5,Bl,C6⟩:=ABl C1;obtain ⟨D6,Bm,C7⟩:=ABl C6;refine AE7 (m:=Ao) ABv rfl (Ay.o2 p0) Cz Bl rfl Bm fun D7 C8=>AJo (m:=Ao) (AF6 ACr rfl rfl rfl) (Ay.o2 p0) C8 Bl Bm (show ((cI .i64)).rep _ (-1) _ from rfl) fun D8 C9 Da=>ACl (q_b (q_t (ABw (ACy rfl rfl (Wk (ABo ?_))))));obtain rfl:=ABk C7;exact ⟨A7,(((w64 (Aa + 1)),(sI (sI (sI (sI A5 Aa (List.replicate (Int.toNat a1) (0:Int))) Aa (sI Bb Aa 2)) Aa (sI Ct Ao (-1))) Ao (sI C5 Aa (-1))),(Ba :: (Ag.set (Int.toNat Aa) [Aj]).flatten),(Ag.set (Int.toNat Aa) [Aj]),(A6.set (Int.toNat Aa) A8)):(Int) × (LiI) × LnA × LnN × LvA),Nat.lt_succ_self _,⟨Ai,(Ay.uO2 p0 Da C9)⟩,rfl,trivial⟩
  ·refine ABs (q_b (q_t (ABw (ACy rfl rfl (Wk (ABo ?_))))));obtain rfl:=ABk (AC2 Bf Aw);exact ⟨A7,(((w64 (Aa + 1)),(sI (sI A5 Aa (List.replicate (Int.toNat a1) (0:Int))) Aa (sI Bb Aa 2)),(Ba :: (Ag.set (Int.toNat Aa) [Aj]).flatten),(Ag.set (Int.toNat Aa) [Aj]),(A6.set (Int.toNat Aa) A8)):(Int) × (LiI) × LnA × LnN × LvA),Nat.lt_succ_self _,⟨Ai,Ac⟩,rfl,trivial⟩
 ·obtain rfl:=ABk (AC2 Ad Ar);change _=A4 at Ai;subst Ai;refine ACb (AB9 (AB9 (ADj (q_t (ABi (Wk (ABp (ABr ?_))))))));obtain rfl:=ABk B1;exact ⟨_,ABt,Ah.x,_,_,_,_,rfl,(Ah.o2 p0),Ah.s.sel [0] (by decide)⟩
def AHx (fuel:Nat) (a3:LiI):Option Bool:=
  ((AE8 fuel a3).bind fun x5=>((ADw fuel x5).bind fun Ac=>(if Ac=0 then ((AC4 fuel x5).bind fun Ad=>((AKv fuel 10000).bind fun Ae=>((AZr fuel Ad Ae).bind fun Af=>(some (decide (Af<=0)))))) else (some false))))
theorem ARm {fuel:Nat} {h:ABh} {Ad:Value} {a3:LiI} {r:Bool} (H2:AFl (cI .i64) h Ad a3) (hp:AHx fuel a3=some r):AB7 Tryz.prog 64 #[Ad] h (fun x h'=>Ext h h'/\x= .bool r):=by
 unfold AHx at hp;refine cwf (l:=[_]) Tryz.func64 rfl rfl (ABi (ACq (Wk ?_)));have K0:=Kst.k0 h;obtain ⟨x5,Aj,Ak⟩:=ABl hp;refine ACu rfl (AKq (H2.ext K0.x) Aj) fun Bi h9 E8 Ao=>?_;obtain ⟨Bl,Bm,Bn,Bo,rfl,Ap,Aq⟩:=Ao;refine ACq (Wk ?_);have Ag:=K0.no2 E8 Aq Ap;obtain ⟨Ar,Au,Ah⟩:=ABl Ak;refine ACu rfl (AIb (Ag.o2 p0).rd Au) fun Bp Bq Av Aw=>?_;subst Aw;refine ADo rfl rfl (Wk ?_);have Ab:=Ag.e Av;by_cases Aa:Ar=0
 ·rw [decide_eq_true Aa];refine ACk 9 true (Wk (ACk 9 true ?_));obtain ⟨Br,Ax,Ay⟩:=ABl (ifT Ah Aa);refine ACu rfl (AEb (Ab.o2 p0).rd Ax) fun Bt Bu Az A3=>?_;obtain ⟨Bv,rfl,A4⟩:=A3;obtain ⟨Bw,rfl,A5⟩:=A4.cs;refine ACk 9 true ?_;obtain ⟨Bx,A6,A7⟩:=ABl Ay;refine ACu rfl (AJp A6) fun By Bz A8 A9=>?_;obtain ⟨B1,rfl,Ba⟩:=A9;obtain ⟨B2,rfl,Bb⟩:=Ba.cs;refine ACk 9 true ?_;have Ac:=(((Ab.e Az).az A5).e A8).az Bb;obtain ⟨B3,Bc,Be⟩:=ABl A7;refine ACu rfl (AYd (Ac.z p1).2 (Ac.z p0).2 Bc) fun B4 B5 Bf Bg=>?_;subst Bg;refine ACk 9 true (AYa rfl rfl (ABy rfl (ABp (ABr ?_))));obtain rfl:=ABk Be;exact ⟨_,ABt,(Ac.e Bf).x,rfl⟩
 ·rw [decide_eq_false Aa];refine ALh 9 false (ABu rfl (ABp (ABr ?_)));obtain rfl:=ABk (ifF Ah Aa);exact ⟨_,ABt,Ab.x,rfl⟩
def AJ7 (fuel:Nat) (Ab Aa:Int):Option ((Int × Int) ⊕ ((Int))):=
  ((AVq fuel Aa).bind fun Ac=>(if ¬ Ac=0 then ((AHu fuel Ab Aa).bind fun Ad=>(some (Sum.inl (Aa,Ad)))) else (some (Sum.inr<| Ab))))
def AHy (fuel:Nat) (a1 a5:Int):Option Int:=
  ((Ag6 fuel a1).bind fun Ac=>((Ag6 fuel a5).bind fun Ad=>((iter (fun s=>AJ7 fuel s.1 s.2) fuel (Ac,Ad)).bind (fun (Ae:Int)=>(some Ae)))))
theorem ARn {fuel:Nat} {h:ABh} {A3:Value} {a1:Int} {A5:Value} {a5 r:Int} (H3:ZZ h A3 a1) (H7:ZZ h A5 a5) (hp:AHy fuel a1 a5=some r):AB7 Tryz.prog 132 #[A3,A5] h (fun x h'=>Ext h h'/\ ∃ (x0:Value),x=x0/\ZZ h' x0 r):=by
 unfold AHy at hp;obtain ⟨A8,rfl,A9⟩:=H3.cs;obtain ⟨Ba,rfl,Bb⟩:=H7.cs;refine cwf (l:=[_,_]) Tryz.func132 rfl rfl (ABi (AHi A8 trivial tt2 rfl rfl fun b9 Dn Bw Bx By=>AHi Ba trivial tt2 rfl rfl fun Do Dp Bz B1 B2=>ADx [.bool false,.slice none 0 0] AJ3 rfl trivial tt2 fun Dq Ao B3 B4 B5=>ABo (ABm ?_)));have Ab:=(((Kst.k0 h).nb Bx By Bw).nb B1 B2 Bz).nb B4 B5 B3;have Ap:UpT [] Ao Ao:=UpT.start all_nil;refine AWw (B:=fun h'=>UpT [] Ao h') 4 [⟨5,109,[.bool false,.slice none 0 0]⟩,⟨6,109,[.bool false,.slice none 0 0]⟩] (fun _ _ U E=>U.thenE E) (by kernel_rfl) Ap (Ala rfl rfl AJ3 rfl AJ3 rfl (fun _ _ U E=>U.thenE E)) (h_l rfl (AEt A8 ACp (cZ.klen (Ab.zx A9)) rfl Ap (fun h' hb=>((Ab.b p2).ext hb.ext).agg) (ACl (h_e rfl fun Dr Bc=>?_))));have Aq:=Ap.thenE Bc;have Be:=Ab.e Bc;obtain ⟨B6,B7,B8⟩:=ABl hp;refine AC9 Aq (fun _ E=>Aq.thenE E) rfl (Afj (Be.zx A9).2 B7) fun Ds Dt Ar B9=>?_;obtain ⟨Du,rfl,Ca⟩:=B9;have Bf:=Aq.thenE Ar;obtain ⟨Bg,rfl,Cb⟩:=Ca.cs;have Bh:=(Be.e Ar).az Cb;refine ACl ⟨Ar,?_⟩;refine h_l rfl (AEt Ba ACp (cZ.klen (Bh.zx Bb)) rfl Bf (fun h' hb=>((Ab.b p1).ext hb.ext).agg) (ACl (h_e rfl fun Dv Bi=>?_)));have Au:=Bf.thenE Bi;have Bj:=Bh.e Bi;obtain ⟨Cd,Ce,Cf⟩:=ABl B8;refine AC9 Au (fun _ E=>Au.thenE E) rfl (Afj (Bj.zx Bb).2 Ce) fun Dw Dx Av Cg=>?_;obtain ⟨Dy,rfl,Ch⟩:=Cg;have Ci:=Au.thenE Av;obtain ⟨Bl,rfl,Cj⟩:=Ch.cs;refine ACl ⟨Av,?_⟩;refine Ag4 fun Ck Bm=>Asz fun Cm Cn Bn Bo Co Cp Cq Dz D0=>?_;have Bp:=((Bj.e Av).az Cj).e Bm;have Ag:=((Ab.nb2 (Ci.thenE Bm).ext (Afe Cp Cq Bn.lt Bo.lt Co) Bn Bo).az (Bp.z p1)).az (Bp.z p0);refine ADi Bg ACp (cZ.klen (Ag.z p1)) (cZ.klen (ACj Ck)) rfl rfl (cZ.one (Ag.z p1)) (Ag.b p2) fun Cr Ct Cu=>?_;have Ah:=Ag.sb p2 Cu Ct rfl;refine ADi Bl ACp (cZ.klen (Ah.z p0)) (cZ.klen (ACj Cr)) rfl rfl (cZ.one (Ah.z p0)) (Ah.b p3) fun D1 Cv Cw=>ABo (ABm (ABq ?_));obtain ⟨Bq,Cx,Cy⟩:=ABl Cf;obtain ⟨Cz,C0,C1⟩:=ACg Cx;have Aw:=(Ah.sb p3 Cw Cv rfl).sel [0,1,2,3,4] (by decide);dsimp only [AI0,ALr] at Aw;refine ACi 260096 (fun x:(Int) × LvA × (Int) × LvA=>[]) (fun k x h'=>iter Cz k (x.1,x.2.2.1)=some Bq/\Kst h h' ((((Aw.L.set 1 (aZ x.2.1 x.1)).set 0 (aZ x.2.2.2 x.2.2.1)).set 2 (aB 109 Cm x.2.1)).set 3 (aB 109 Cn x.2.2.2))) (by kernel_rfl) fuel ((B6,Bg,Cd,Bl):(Int) × LvA × (Int) × LvA) ?_ trivial ?_
 ·exact ⟨C1,Aw⟩
 rintro D2 ⟨D3,Ax,C2,Ac⟩ D4 D5 ⟨C3,Ai⟩;obtain ⟨C4,D6,rfl,Aj,Ay⟩:=AB3 C3;rw [C0] at Aj;dsimp only at Aj;unfold AJ7 at Aj;refine ABm (ABi (AG6 Ac ACp (cZ.klen (Ai.z p0)) rfl (Ai.b p3).agg ?_));obtain ⟨D7,C5,Br⟩:=ABl Aj;refine ACu rfl (AUs (Ai.z p0).2 C5) fun D8 Ak C6 C7=>?_;subst C7;refine AG8 rfl rfl (ABo ?_);have Aa:=Ai.e C6;refine ⟨_,rfl,fun Az=>?_,fun Az=>?_⟩
 ·refine ABs (q_t (ABq (AEl (fun h'=>UpT [] Ak h') (by kernel_rfl) ?_)));have Ad:UpT [] Ak Ak:=UpT.start all_nil;refine AEt Ac ACp (cZ.klen (Aa.z p0)) rfl Ad (fun h' hb=>((Aa.b p3).ext hb.ext).agg) (AEt Ax ACp (cZ.klen (Aa.z p1)) rfl Ad (fun h' hb=>((Aa.b p2).ext hb.ext).agg) (AEt Ac ACp (cZ.klen (Aa.z p0)) rfl Ad (fun h' hb=>((Aa.b p3).ext hb.ext).agg) ?_));obtain ⟨C8,C9,Da⟩:=ABl (AC1 Br Az);refine AC9 Ad (fun _ E=>Ad.thenE E) rfl (ARj (Aa.z p1).2 (Aa.z p0).2 C9) fun D9 Ea Db Dc=>?_;obtain ⟨Eb,rfl,Dd⟩:=Dc;obtain ⟨Bt,rfl,De⟩:=Dd.cs;have Ae:=(Aa.e Db).az De;refine ADi Ac ACp (cZ.klen (Ae.z p1)) (cZ.klen (Ae.z p2)) rfl rfl (cZ.one (Ae.z p1)) (Ae.b p3) fun Ec Df Dg=>?_;have Af:=Ae.sb p3 Dg Df rfl;refine ADi Bt ACp (cZ.klen (Af.z p0)) (cZ.klen (Af.z p1)) rfl rfl (cZ.one (Af.z p0)) (Af.b p4) fun Ed Dh Di=>ACl (q_b (q_t ?_));obtain rfl:=ABk Da;exact ⟨C4,((C2,Ac,C8,Bt):(Int) × LvA × (Int) × LvA),Nat.lt_succ_self _,⟨Ay,(Af.sb p4 Di Dh rfl).sel [0,1,3,4,5] (by decide)⟩,trivial⟩
 ·obtain rfl:=ABk (AC2 Br Az);change _=Bq at Ay;subst Ay;refine ACb (AB9 (AB9 (ADj (q_t (ABi (AG6 Ax ACp (cZ.klen (Aa.z p1)) rfl (Aa.b p2).agg (ADi Ax ACp (cZ.klen (Aa.z p1)) (cZ.klen (ACj Ak)) rfl rfl (cZ.one (Aa.z p1)) (Aa.b p4) fun Ee Dj Dk=>ABo (ABr ?_))))))));have Am:=Aa.sb p4 Dk Dj rfl;obtain rfl:=ABk Cy;exact ⟨_,AFi ACp (cZ.klen (Am.z p1)) rfl (Am.b p4),Am.x,_,rfl,(Am.z p1).2⟩
def AGg (fuel:Nat) (a1 a5:Int):Option ((Int × Int) × Bool):=
  ((AVq fuel a5).bind fun Af=>(if Af=0 then (some ((0,0),false)) else ((((AVq fuel a5).bind fun Ag=>(if Ag < 0 then ((Acw fuel a1).bind fun Ah=>((Acw fuel a5).bind fun Ai=>(some ( (Ah,Ai))))) else (some ( (a1,a5))))):Option ((Int × Int))).bind (fun ((Ac,Ad):Int × Int)=>((AHy fuel Ac Ad).bind fun Ae=>((AD9 fuel Ac Ae).bind fun Aj=>((AD9 fuel Ad Ae).bind fun Ak=>(some ((Aj,Ak),true)))))))))
theorem AMq {fuel:Nat} {h:ABh} {Ba:Value} {a1:Int} {Bb:Value} {a5:Int} {r:((Int × Int) × Bool)} (H3:ZZ h Ba a1) (H7:ZZ h Bb a5) (hp:AGg fuel a1 a5=some r):AB7 Tryz.prog 127 #[Ba,Bb] h (fun x h'=>Ext h h'/\ ∃ (x0:Value),x= .tuple #[x0,.bool r.2]/\AWo h' x0 r.1.1 r.1.2):=by
 unfold AGg at hp;obtain ⟨Az,rfl,Ap⟩:=H3.cs;obtain ⟨Ai,rfl,Ab⟩:=H7.cs;refine cwf (l:=[_,_]) Tryz.func127 rfl rfl (ABi (AHi Az trivial tt2 rfl rfl fun b9 Dt Bu Bv Bw=>AHi Ai trivial tt2 rfl rfl fun Bx Du By Bz B1=>ADx [.bool false,.slice none 0 0,.bool false,.slice none 0 0] AN4 rfl trivial tt2 fun Dv Dw B2 B3 B4=>ABp (ABm (ABi ?_))));have Aq:=(((Kst.k0 h).nb Bv Bw Bu).nb Bz B1 By).nb B3 B4 B2;refine AG6 Ai ACp (cZ.klen (Aq.zx Ab)) rfl (Aq.b p1).agg ?_;obtain ⟨Dx,B5,Be⟩:=ABl hp;refine ACu rfl (AUs (Aq.zx Ab).2 B5) fun Dy Ag B6 B7=>?_;subst B7;refine ADo rfl rfl (ABo ?_);have Ad:=Aq.e B6;refine ⟨_,rfl,fun A3=>?_,fun A3=>?_⟩
 ·refine ABi (ALa (Aff ) (ADi ([Value.bool false,Value.slice none 0 0] ++ [Value.bool false,Value.slice none 0 0]) AGa (ADl (ACj Ag) (ACj Ag)) (ADl (ACj Ag) (ACj Ag)) rfl rfl (AKw (ACj Ag) (ACj Ag)) (Ad.b p0) fun Ar B8 B9=>ABp (ABr (AB0 ?_))));have Bf:=Ad.sb p0 B9 B8 rfl;obtain rfl:=ABk (AC1 Be A3);exact ⟨_,Agk AGa (ADl (ACj Ar) (ACj Ar)) rfl (Bf.b p0),Bf.x,_,rfl,⟨_,_,rfl,(ACj Ar),(ACj Ar)⟩⟩
 ·refine ABs (q_t ?_);obtain ⟨Ca,Cb,Cd⟩:=ABl (AC2 Be A3);refine AN1 260096 (fun x:(Int) × LvA × (Int) × LvA=>[]) (fun x h'=>( (x.1,x.2.2.1))=Ca/\Kst h h' (aZ x.2.1 x.1 :: aZ x.2.2.2 x.2.2.1 :: ((Ad.L.set 2 (aB 109 b9 x.2.1)).set 1 (aB 109 Bx x.2.2.2)))) ?_ ?_
  ·refine ABi (AG6 Ai ACp (cZ.klen (Ad.zx Ab)) rfl (Ad.b p1).agg ?_);obtain ⟨Dz,Ce,Bg⟩:=ABl Cb;refine ACu rfl (AUs (Ad.zx Ab).2 Ce) fun D0 A4 Cf Cg=>?_;subst Cg;refine ACx rfl rfl (ABo ?_);have Ae:=Ad.e Cf;refine ⟨_,rfl,fun A5=>?_,fun A5=>?_⟩
   ·refine AEl (fun h'=>UpT [] A4 h') (by kernel_rfl) ?_;have Au:UpT [] A4 A4:=UpT.start all_nil;refine AEt Az ACp (cZ.klen (Ae.zx Ap)) rfl Au (fun h' hb=>((Ae.b p2).ext hb.ext).agg) ?_;obtain ⟨Ch,Ci,Cj⟩:=ABl (AC1 Bg A5);refine AC9 Au (fun _ E=>Au.thenE E) rfl (Aa7 (Ae.zx Ap).2 Ci) fun D1 D2 Bh Ck=>?_;obtain ⟨D3,rfl,Cm⟩:=Ck;have A6:=Au.thenE Bh;obtain ⟨Bi,rfl,Cn⟩:=Cm.cs;have A7:=(Ae.e Bh).az Cn;refine AEt Ai ACp (cZ.klen (A7.zx Ab)) rfl A6 (fun h' hb=>((Ae.b p1).ext hb.ext).agg) ?_;obtain ⟨Co,Cp,Cq⟩:=ABl Cj;refine AC9 A6 (fun _ E=>A6.thenE E) rfl (Aa7 (A7.zx Ab).2 Cp) fun D4 D5 Cr Ct=>?_;obtain ⟨D6,rfl,Cu⟩:=Ct;obtain ⟨Bj,rfl,Cv⟩:=Cu.cs;have Aj:=(A7.e Cr).az Cv;refine ADi Bi ACp (cZ.klen (Aj.z p1)) (cZ.klen (Aj.zx Ap)) rfl rfl (cZ.one (Aj.z p1)) (Aj.b p4) fun D7 Cw Cx=>?_;have Ak:=Aj.sb p4 Cx Cw rfl;refine ADi Bj ACp (cZ.klen (Ak.z p0)) (cZ.klen (Ak.zx Ab)) rfl rfl (cZ.one (Ak.z p0)) (Ak.b p3) fun D8 Cy Cz=>ABo ?_;exact ⟨((Ch,Bi,Co,Bj):(Int) × LvA × (Int) × LvA),⟨ABk Cq,(Ak.sb p3 Cz Cy rfl).sel [1,0,2,3,4] (by decide)⟩,trivial⟩
   ·refine ABs (q_t ?_);have Bl:=Ae.az (Ae.zx Ap);exact ⟨((a1,Az,a5,Ai):(Int) × LvA × (Int) × LvA),⟨ABk (AC2 Bg A5),(Bl.az (Bl.zx Ab)).sel [1,0,2,3,4] (by decide)⟩,trivial⟩
  rintro ⟨D9,Bm,Ea,Bn⟩ Eb Ec ⟨C0,Af⟩;subst C0;refine ABi (AG6 Bm ACp (cZ.klen (Af.z p0)) rfl (Af.b p4).agg (AG6 Bn ACp (cZ.klen (Af.z p1)) rfl (Af.b p3).agg ?_));obtain ⟨Ed,C1,C2⟩:=ABl Cd;refine ACu rfl (ARn (Af.z p0).2 (Af.z p1).2 C1) fun Ee Ef C3 C4=>?_;obtain ⟨Eg,rfl,C5⟩:=C4;obtain ⟨A8,rfl,C6⟩:=C5.cs;refine ADx [.bool false,.slice none 0 0] AJ3 rfl trivial tt2 fun Eh C7 C8 C9 Da=>?_;have Av:=((Af.e C3).az C6).nb C9 Da C8;refine ADi A8 ACp (cZ.klen (Av.z p1)) (cZ.klen (ACj C7)) rfl rfl (cZ.one (Av.z p1)) (Av.b p0) fun A9 Db Dc=>ABo (ABm (AEl (fun h'=>UpT [] A9 h') (by kernel_rfl) ?_));have Aa:=Av.sb p0 Dc Db rfl;have Am:UpT [] A9 A9:=UpT.start all_nil;refine AEt Bm ACp (cZ.klen (Aa.z p2)) rfl Am (fun h' hb=>((Aa.b p6).ext hb.ext).agg) (AEt A8 ACp (cZ.klen (Aa.z p1)) rfl Am (fun h' hb=>((Aa.b p0).ext hb.ext).agg) ?_);obtain ⟨Ei,Dd,De⟩:=ABl C2;refine AC9 Am (fun _ E=>Am.thenE E) rfl (AH5 (Aa.z p2).2 (Aa.z p1).2 Dd) fun Ej Ek Bo Df=>?_;obtain ⟨El,rfl,Dg⟩:=Df;have Aw:=Am.thenE Bo;obtain ⟨Dh,rfl,Di⟩:=Dg.cs;have Ao:=(Aa.e Bo).az Di;refine AEt Bn ACp (cZ.klen (Ao.z p4)) rfl Aw (fun h' hb=>((Aa.b p5).ext hb.ext).agg) (AEt A8 ACp (cZ.klen (Ao.z p2)) rfl Aw (fun h' hb=>((Aa.b p0).ext hb.ext).agg) ?_);obtain ⟨Em,Dj,Dk⟩:=ABl De;refine AC9 Aw (fun _ E=>Aw.thenE E) rfl (AH5 (Ao.z p4).2 (Ao.z p2).2 Dj) fun En Bp Dl Dn=>?_;obtain ⟨Eo,rfl,Do⟩:=Dn;obtain ⟨Dp,rfl,Dq⟩:=Do.cs;have Ac:=(Ao.e Dl).az Dq;refine ALa (AS8 (Ac.z p1) (Ac.z p0)) (ADi (Dh ++ Dp) AGa (ADl (Ac.z p1) (Ac.z p0)) (ADl (ACj Bp) (ACj Bp)) rfl rfl (AKw (Ac.z p1) (Ac.z p0)) (Ac.b p6) fun Ep Dr Ds=>ABp (ABr ?_));have Ah:=Ac.sb p6 Ds Dr rfl;obtain rfl:=ABk Dk;exact ⟨_,Agk AGa (ADl (Ah.z p1) (Ah.z p0)) rfl (Ah.b p6),Ah.x,_,rfl,⟨_,_,rfl,(Ah.z p1),(Ah.z p0)⟩⟩
def AKr (fuel:Nat) (a1:Int):Option (Int × Int):=
  ((APt fuel a1).bind fun Ab=>((AKv fuel 1).bind fun Ac=>(some (Ab,Ac))))
theorem AQa {fuel:Nat} {h:ABh} {Ad:Value} {a1:Int} {r:(Int × Int)} (H3:ZZ h Ad a1) (hp:AKr fuel a1=some r):AB7 Tryz.prog 133 #[Ad] h (fun x h'=>Ext h h'/\ ∃ (x0:Value),x=x0/\AWo h' x0 r.1 r.2):=by
 unfold AKr at hp;obtain ⟨Ag,rfl,Ah⟩:=H3.cs;refine cwf (l:=[_]) Tryz.func133 rfl rfl (ABi (AHi Ag trivial tt2 rfl rfl fun b5 h6 V7 E8 S9=>ADx [.bool false,.slice none 0 0,.bool false,.slice none 0 0] AN4 rfl trivial tt2 fun Bg Bh Ap Aq Ar=>AMg ?_));have Ac:=((Kst.k0 h).nb E8 S9 V7).nb Aq Ar Ap;refine AG6 Ag ACp (cZ.klen (Ac.zx Ah)) rfl (Ac.b p1).agg ?_;obtain ⟨Bi,Au,Av⟩:=ABl hp;refine ACu rfl (ARi (Ac.zx Ah).2 Au) fun Bj Bl Aw Ax=>?_;obtain ⟨Bm,rfl,Ay⟩:=Ax;obtain ⟨Az,rfl,A3⟩:=Ay.cs;obtain ⟨Bn,A4,A5⟩:=ABl Av;refine ACu rfl (AJp A4) fun Bo Ai A6 A7=>?_;obtain ⟨Bp,rfl,A8⟩:=A7;obtain ⟨A9,rfl,Ba⟩:=A8.cs;have Aa:=(((Ac.e Aw).az A3).e A6).az Ba;refine ALa (AS8 (Aa.z p1) (Aa.z p0)) (ADi (Az ++ A9) AGa (ADl (Aa.z p1) (Aa.z p0)) (ADl (ACj Ai) (ACj Ai)) rfl rfl (AKw (Aa.z p1) (Aa.z p0)) (Aa.b p2) fun Bq Bb Bc=>ABo (ABr ?_));have Ab:=Aa.sb p2 Bc Bb rfl;obtain rfl:=ABk A5;exact ⟨_,AFi AGa (ADl (Ab.z p1) (Ab.z p0)) rfl (Ab.b p2),Ab.x,_,rfl,⟨_,_,rfl,(Ab.z p1),(Ab.z p0)⟩⟩
def AKs (fuel:Nat) (a1:Int):Option (Int × Int):=
  ((AKv fuel a1).bind fun x8=>((AKr fuel x8).bind fun Aa=>(some (Aa.1,Aa.2))))
theorem AQb {fuel:Nat} {h:ABh} {a1:Int} {r:(Int × Int)} (hp:AKs fuel a1=some r):AB7 Tryz.prog 128 #[(.int .i64 a1)] h (fun x h'=>Ext h h'/\ ∃ (x0:Value),x=x0/\AWo h' x0 r.1 r.2):=by
 unfold AKs at hp;refine cwf (l:=[_]) Tryz.func128 rfl rfl (ABi (ADx [.bool false,.slice none 0 0,.bool false,.slice none 0 0] AN4 rfl trivial tt2 fun b2 h3 V4 E5 S6=>AMg (Wk ?_)));obtain ⟨x9,Aj,Ak⟩:=ABl hp;refine ACu rfl (AJp Aj) fun Ba Bb Am Ao=>?_;obtain ⟨Bc,rfl,Ap⟩:=Ao;obtain ⟨Be,rfl,Aq⟩:=Ap.cs;have Ae:=(((Kst.k0 h).nb E5 S6 V4).e Am).az Aq;obtain ⟨Bf,Ar,Au⟩:=ABl Ak;refine ACu rfl (AQa (Ae.z p0).2 Ar) fun Bg Af Av Aw=>?_;obtain ⟨Bh,rfl,Ax⟩:=Aw;obtain ⟨Ay,Az,rfl,A3,A4⟩:=Ax;have Aa:=((Ae.e Av).az A3).az A4;refine ADi (Ay ++ Az) AGa (ADl (Aa.z p1) (Aa.z p0)) (ADl (ACj Af) (ACj Af)) rfl rfl (AKw (Aa.z p1) (Aa.z p0)) (Aa.b p3) fun Bi A5 A6=>ABo (ABr ?_);have Ab:=Aa.sb p3 A6 A5 rfl;obtain rfl:=ABk Au;exact ⟨_,AFi AGa (ADl (Ab.z p1) (Ab.z p0)) rfl (Ab.b p3),Ab.x,_,rfl,⟨_,_,rfl,(Ab.z p1),(Ab.z p0)⟩⟩
def ADt (fuel:Nat) (a3 a5:Int):Option (Int × Int):=
  ((AGg fuel a3 a5).bind fun (Aa,Ae)=>(if (!Ae)=true then ((AKs fuel 0).bind fun Ab=>(some (Ab.1,Ab.2))) else (some (Aa.1,Aa.2))))
theorem AFv {fuel:Nat} {h:ABh} {Ak:Value} {a3 a5:Int} {r:(Int × Int)} (H2:AWo h Ak a3 a5) (hp:ADt fuel a3 a5=some r):AB7 Tryz.prog 121 #[Ak] h (fun x h'=>Ext h h'/\ ∃ (x0:Value),x=x0/\AWo h' x0 r.1 r.2):=by
 unfold ADt at hp;obtain ⟨Aq,Ar,rfl,H2z0,H2z1⟩:=H2;refine cwf (l:=[_]) Tryz.func121 rfl rfl (ABi (AHi (Aq ++ Ar) trivial tt2 rfl rfl fun b7 h8 V9 Az A3=>ADx [.bool false,.slice none 0 0,.bool false,.slice none 0 0] AN4 rfl trivial tt2 fun B1 B2 A4 A5 A6=>AMg (AJj (fs:=2) AWx (by kernel_rfl) (by decide) rfl ?_)));have Ab:=((Kst.k0 h).nb Az A3 V9).nb A5 A6 A4;refine AG6 Aq ACp (cZ.klen (Ab.zx H2z0)) rfl ((Ab.b p1).aggL) (AJj (fs:=2) AS7 (by kernel_rfl) (by decide) rfl (AG6 Ar ACp (cZ.klen (Ab.zx H2z1)) rfl ((Ab.b p1).aggR (cZ.klen (Ab.zx H2z0))) ?_));obtain ⟨⟨B3,B4⟩,A7,Ag⟩:=ABl hp;dsimp only at Ag;refine ACu rfl (AMq (Ab.zx H2z0).2 (Ab.zx H2z1).2 A7) fun B5 B6 A8 A9=>?_;obtain ⟨B7,rfl,Ba⟩:=A9;obtain ⟨Ah,Ai,rfl,Bb,Bc⟩:=Ba;refine Wk (ACz rfl rfl (ACz rfl rfl (ADx [.bool false,.slice none 0 0,.bool false,.slice none 0 0] AN4 rfl trivial tt2 fun B8 Au Be Bf Bg=>?_)));have Ac:=(((Ab.e A8).az Bb).az Bc).nb Bf Bg Be;refine ADi (Ah ++ Ai) AGa (ADl (Ac.z p2) (Ac.z p1)) (ADl (ACj Au) (ACj Au)) rfl rfl (AKw (Ac.z p2) (Ac.z p1)) (Ac.b p0) fun Av Bh Bi=>ABp (ABm (ABi (Wk (AF8 rfl (ABo ?_)))));have Aa:=Ac.sb p0 Bi Bh rfl;refine ⟨_,rfl,fun Aj=>?_,fun Aj=>?_⟩
 ·refine ABi ?_;obtain ⟨B9,Bj,Bl⟩:=ABl (ifT Ag Aj);refine ACu rfl (AQb Bj) fun Ca Aw Bm Bn=>?_;obtain ⟨Cb,rfl,Bo⟩:=Bn;obtain ⟨Bp,Bq,rfl,Br,Bt⟩:=Bo;have Ad:=((Aa.e Bm).az Br).az Bt;refine ADi (Bp ++ Bq) AGa (ADl (Ad.z p1) (Ad.z p0)) (ADl (ACj Aw) (ACj Aw)) rfl rfl (AKw (Ad.z p1) (Ad.z p0)) (Ad.b p5) fun Cd Bu Bv=>ABo (ABr (AB0 ?_));have Ae:=Ad.sb p5 Bv Bu rfl;obtain rfl:=ABk Bl;exact ⟨_,AFi AGa (ADl (Ae.z p1) (Ae.z p0)) rfl (Ae.b p5),Ae.x,_,rfl,⟨_,_,rfl,(Ae.z p1),(Ae.z p0)⟩⟩
 ·refine ABs (q_t (ABi (AG6 (Ah ++ Ai) AGa (ADl (Aa.z p2) (Aa.z p1)) rfl ((Aa.b p0).agg) (ADi (Ah ++ Ai) AGa (ADl (Aa.z p2) (Aa.z p1)) (ADl (ACj Av) (ACj Av)) rfl rfl (AKw (Aa.z p2) (Aa.z p1)) (Aa.b p3) fun Ce Bw Bx=>ABo (ABr ?_)))));have Af:=Aa.sb p3 Bx Bw rfl;obtain rfl:=ABk (AIz Ag Aj);exact ⟨_,AFi AGa (ADl (Af.z p2) (Af.z p1)) rfl (Af.b p3),Af.x,_,rfl,⟨_,_,rfl,(Af.z p2),(Af.z p1)⟩⟩
def AFs (fuel:Nat) (a1 a5:Int):Option (Int × Int):=
  ((ADt fuel a1 a5).bind fun Aa=>(some (Aa.1,Aa.2)))
theorem AOo {fuel:Nat} {h:ABh} {Af:Value} {a1:Int} {Ah:Value} {a5:Int} {r:(Int × Int)} (H3:ZZ h Af a1) (H7:ZZ h Ah a5) (hp:AFs fuel a1 a5=some r):AB7 Tryz.prog 93 #[Af,Ah] h (fun x h'=>Ext h h'/\ ∃ (x0:Value),x=x0/\AWo h' x0 r.1 r.2):=by
 unfold AFs at hp;obtain ⟨Ak,rfl,Ad⟩:=H3.cs;obtain ⟨Am,rfl,Ae⟩:=H7.cs;refine cwf (l:=[_,_]) Tryz.func93 rfl rfl (ABi (AHi Ak trivial tt2 rfl rfl fun b9 Bi Ar Au Av=>AHi Am trivial tt2 rfl rfl fun Bj Bl Aw Ax Ay=>ADx [.bool false,.slice none 0 0,.bool false,.slice none 0 0] AN4 rfl trivial tt2 fun Bm Bn Az A3 A4=>AMg ?_));have Aa:=(((Kst.k0 h).nb Au Av Ar).nb Ax Ay Aw).nb A3 A4 Az;refine AG6 Ak ACp (cZ.klen (Aa.zx Ad)) rfl (Aa.b p2).agg (AG6 Am ACp (cZ.klen (Aa.zx Ae)) rfl (Aa.b p1).agg (ALa (AS8 (Aa.zx Ad) (Aa.zx Ae)) ?_));obtain ⟨Bo,A5,A6⟩:=ABl hp;refine ACu rfl (AFv ⟨_,_,rfl,(Aa.zx Ad),(Aa.zx Ae)⟩ A5) fun Bp Ao A7 A8=>?_;obtain ⟨Bq,rfl,A9⟩:=A8;obtain ⟨Ba,Bb,rfl,Bc,Be⟩:=A9;have Ab:=((Aa.e A7).az Bc).az Be;refine ADi (Ba ++ Bb) AGa (ADl (Ab.z p1) (Ab.z p0)) (ADl (ACj Ao) (ACj Ao)) rfl rfl (AKw (Ab.z p1) (Ab.z p0)) (Ab.b p2) fun Br Bf Bg=>ABo (ABr ?_);have Ac:=Ab.sb p2 Bg Bf rfl;obtain rfl:=ABk A6;exact ⟨_,AFi AGa (ADl (Ac.z p1) (Ac.z p0)) rfl (Ac.b p2),Ac.x,_,rfl,⟨_,_,rfl,(Ac.z p1),(Ac.z p0)⟩⟩
def AJb (fuel:Nat):Option (Int × Int):=
  ((AKv fuel 1).bind fun x7=>((AKv fuel 2).bind fun Ab=>(some (x7,Ab))))
theorem AQp {fuel:Nat} {h:ABh} {r:(Int × Int)} (hp:AJb fuel=some r):AB7 Tryz.prog 120 #[] h (fun x h'=>Ext h h'/\ ∃ (x0:Value),x=x0/\AWo h' x0 r.1 r.2):=by
 unfold AJb at hp;refine cwf (l:=[]) Tryz.func120 rfl rfl (ABi (ADx [.bool false,.slice none 0 0,.bool false,.slice none 0 0] AN4 rfl trivial tt2 fun b1 h2 V3 E4 S5=>AMg ?_));obtain ⟨x8,Ah,Ai⟩:=ABl hp;refine ACu rfl (AJp Ah) fun A7 A8 Aj Ak=>?_;obtain ⟨A9,rfl,Am⟩:=Ak;obtain ⟨Ao,rfl,Ap⟩:=Am.cs;obtain ⟨Ba,Aq,Ar⟩:=ABl Ai;refine ACu rfl (AJp Aq) fun Bb Ad Au Av=>?_;obtain ⟨Bc,rfl,Aw⟩:=Av;obtain ⟨Ax,rfl,Ay⟩:=Aw.cs;have Aa:=(((((Kst.k0 h).nb E4 S5 V3).e Aj).az Ap).e Au).az Ay;refine ALa (AS8 (Aa.z p1) (Aa.z p0)) (ADi (Ao ++ Ax) AGa (ADl (Aa.z p1) (Aa.z p0)) (ADl (ACj Ad) (ACj Ad)) rfl rfl (AKw (Aa.z p1) (Aa.z p0)) (Aa.b p2) fun Be Az A3=>ABo (ABr ?_));have Ab:=Aa.sb p2 A3 Az rfl;obtain rfl:=ABk Ar;exact ⟨_,AFi AGa (ADl (Ab.z p1) (Ab.z p0)) rfl (Ab.b p2),Ab.x,_,rfl,⟨_,_,rfl,(Ab.z p1),(Ab.z p0)⟩⟩
def AJm (fuel:Nat) (a3 a5 a9 Ag:Int):Option (Int × Int):=
  ((ADt fuel a3 a5).bind fun Aa=>((ADt fuel a9 Ag).bind fun Ab=>((APs fuel Aa.1 Ab.2).bind fun Ah=>((APs fuel Ab.1 Aa.2).bind fun Ai=>((Ag2 fuel Ah Ai).bind fun Aj=>((APs fuel Aa.2 Ab.2).bind fun Ak=>((AGg fuel Aj Ak).bind fun (Ac,Am)=>(some (Ac.1,Ac.2)))))))))
theorem ARo {fuel:Nat} {h:ABh} {Bq:Value} {a3 a5:Int} {Bu:Value} {a9 Bw:Int} {r:(Int × Int)} (H2:AWo h Bq a3 a5) (H8:AWo h Bu a9 Bw) (hp:AJm fuel a3 a5 a9 Bw=some r):AB7 Tryz.prog 119 #[Bq,Bu] h (fun x h'=>Ext h h'/\ ∃ (x0:Value),x=x0/\AWo h' x0 r.1 r.2):=by
 unfold AJm at hp;obtain ⟨By,Bz,rfl,H2z0,H2z1⟩:=H2;obtain ⟨B1,B2,rfl,H8z0,H8z1⟩:=H8;refine cwf (l:=[_,_]) Tryz.func119 rfl rfl (ABi (AHi (By ++ Bz) trivial tt2 rfl rfl fun Ej Ek Cr Ct Cu=>AHi (B1 ++ B2) trivial tt2 rfl rfl fun El Em Cv Cw Cx=>ADx [.bool false,.slice none 0 0,.bool false,.slice none 0 0] AN4 rfl trivial tt2 fun En Ao Cy Cz C0=>ABo (ABm ?_)));have Ac:=(((Kst.k0 h).nb Ct Cu Cr).nb Cw Cx Cv).nb Cz C0 Cy;have Ap:UpT [] Ao Ao:=UpT.start all_nil;refine AWw (B:=fun h'=>UpT [] Ao h') 4 [⟨5,120,[.bool false,.slice none 0 0,.bool false,.slice none 0 0]⟩,⟨6,120,[.bool false,.slice none 0 0,.bool false,.slice none 0 0]⟩] (fun _ _ U E=>U.thenE E) (by kernel_rfl) Ap (Ala rfl rfl AN4 rfl AN4 rfl (fun _ _ U E=>U.thenE E)) (h_l rfl (AEt (By ++ Bz) AGa (ADl (Ac.zx H2z0) (Ac.zx H2z1)) rfl Ap (fun h' hb=>((Ac.b p2).ext hb.ext).agg) (ACl (h_e rfl fun Eo B3=>?_))));have Aq:=Ap.thenE B3;have Ar:=Ac.e B3;obtain ⟨Ep,C1,C2⟩:=ABl hp;refine AC9 Aq (fun _ E=>Aq.thenE E) rfl (AFv ⟨_,_,rfl,(Ar.zx H2z0),(Ar.zx H2z1)⟩ C1) fun Er Es Au C3=>?_;obtain ⟨Et,rfl,C4⟩:=C3;have B4:=Aq.thenE Au;obtain ⟨B5,Av,rfl,C5,C6⟩:=C4;have Aw:=((Ar.e Au).az C5).az C6;refine ACl ⟨Au,?_⟩;refine h_l rfl (AEt (B1 ++ B2) AGa (ADl (Aw.zx H8z0) (Aw.zx H8z1)) rfl B4 (fun h' hb=>((Ac.b p1).ext hb.ext).agg) (ACl (h_e rfl fun Eu B6=>?_)));have Ax:=B4.thenE B6;have Ay:=Aw.e B6;obtain ⟨Ev,C7,C8⟩:=ABl C2;refine AC9 Ax (fun _ E=>Ax.thenE E) rfl (AFv ⟨_,_,rfl,(Ay.zx H8z0),(Ay.zx H8z1)⟩ C7) fun Ew Ey Az C9=>?_;obtain ⟨Ez,rfl,Da⟩:=C9;have Db:=Ax.thenE Az;obtain ⟨B7,A3,rfl,Dc,Dd⟩:=Da;refine ACl ⟨Az,?_⟩;refine Ag4 fun B8 B9=>Asz fun Fa Fb Ca Cb De Df Dg Fc Fd=>?_;have Aj:=(((Ay.e Az).az Dc).az Dd).e B9;have Ad:=((((Ac.nb2 (Db.thenE B9).ext (Afe Df Dg Ca.lt Cb.lt De) Ca Cb).az (Aj.z p3)).az (Aj.z p2)).az (Aj.z p1)).az (Aj.z p0);refine ADi (B5 ++ Av) AGa (ADl (Ad.z p3) (Ad.z p2)) (ADl (ACj B8) (ACj B8)) rfl rfl (AKw (Ad.z p3) (Ad.z p2)) (Ad.b p4) fun Cd Dh Di=>?_;have Ae:=Ad.sb p4 Di Dh rfl;refine ADi (B7 ++ A3) AGa (ADl (Ae.z p1) (Ae.z p0)) (ADl (ACj Cd) (ACj Cd)) rfl rfl (AKw (Ae.z p1) (Ae.z p0)) (Ae.b p5) fun A4 Dj Dk=>ABo (ABm ?_);have Aa:=Ae.sb p5 Dk Dj rfl;have Ak:UpT [] A4 A4:=UpT.start all_nil;refine AWw (B:=fun h'=>UpT [] A4 h') 20 [⟨7,120,[.bool false,.slice none 0 0,.bool false,.slice none 0 0]⟩] (fun _ _ U E=>U.thenE E) (by kernel_rfl) Ak (Ak9 rfl AN4 rfl (fun _ _ U E=>U.thenE E)) (h_l rfl (AJj (fs:=2) AWx (by kernel_rfl) (by decide) rfl (ACl (h_l rfl (AEt B5 ACp (cZ.klen (Aa.z p3)) rfl Ak (fun h' hb=>((Aa.b p4).ext hb.ext).aggL) (ACl (h_l rfl (AJj (fs:=2) AS7 (by kernel_rfl) (by decide) rfl (ACl (h_l rfl (AEt A3 ACp (cZ.klen (Aa.z p0)) rfl Ak (fun h' hb=>((Aa.b p5).ext hb.ext).aggR (cZ.klen (Aa.z p1))) (ACl (h_e rfl fun Fe Ce=>?_)))))))))))));have A5:=Ak.thenE Ce;have A6:=Aa.e Ce;obtain ⟨Ff,Dl,Dn⟩:=ABl C8;refine AC9 A5 (fun _ E=>A5.thenE E) rfl (AN3 (A6.z p3).2 (A6.z p0).2 Dl) fun Fg Fh A7 Do=>?_;obtain ⟨Fi,rfl,Dp⟩:=Do;have A8:=A5.thenE A7;obtain ⟨Fj,rfl,Dq⟩:=Dp.cs;have Am:=(A6.e A7).az Dq;refine ACl ⟨A7,?_⟩;refine h_l rfl (AJj (fs:=2) AWx (by kernel_rfl) (by decide) rfl (ACl (h_l rfl (AEt B7 ACp (cZ.klen (Am.z p2)) rfl A8 (fun h' hb=>((Aa.b p5).ext hb.ext).aggL) (ACl (h_l rfl (AJj (fs:=2) AS7 (by kernel_rfl) (by decide) rfl (ACl (h_l rfl (AEt Av ACp (cZ.klen (Am.z p3)) rfl A8 (fun h' hb=>((Aa.b p4).ext hb.ext).aggR (cZ.klen (Am.z p4))) (ACl (h_e rfl fun Fk Cf=>?_))))))))))));have A9:=A8.thenE Cf;have Ba:=Am.e Cf;obtain ⟨Fl,Dr,Ds⟩:=ABl Dn;refine AC9 A9 (fun _ E=>A9.thenE E) rfl (AN3 (Ba.z p2).2 (Ba.z p3).2 Dr) fun Fm Fo Bb Dt=>?_;obtain ⟨Fp,rfl,Du⟩:=Dt;have Dv:=A9.thenE Bb;obtain ⟨Fq,rfl,Dw⟩:=Du.cs;refine ACl ⟨Bb,?_⟩;refine h_e rfl fun Fr Cg=>?_;have Bc:=Dv.thenE Cg;have Be:=((Ba.e Bb).az Dw).e Cg;obtain ⟨Ft,Dx,Dy⟩:=ABl Ds;refine AC9 Bc (fun _ E=>Bc.thenE E) rfl (Afb (Be.z p1).2 (Be.z p0).2 Dx) fun Fu Fv Bf Dz=>?_;obtain ⟨Fw,rfl,D0⟩:=Dz;have Bg:=Bc.thenE Bf;obtain ⟨Fx,rfl,D1⟩:=D0.cs;have Ai:=(Be.e Bf).az D1;refine ACl ⟨Bf,?_⟩;refine h_l rfl (AJj (fs:=2) AS7 (by kernel_rfl) (by decide) rfl (ACl (h_l rfl (AEt Av ACp (cZ.klen (Ai.z p5)) rfl Bg (fun h' hb=>((Aa.b p4).ext hb.ext).aggR (cZ.klen (Ai.z p6))) (ACl (h_l rfl (AJj (fs:=2) AS7 (by kernel_rfl) (by decide) rfl (ACl (h_l rfl (AEt A3 ACp (cZ.klen (Ai.z p3)) rfl Bg (fun h' hb=>((Aa.b p5).ext hb.ext).aggR (cZ.klen (Ai.z p4))) (ACl (h_e rfl fun Fy Ch=>?_))))))))))));have Bh:=Bg.thenE Ch;have Bi:=Ai.e Ch;obtain ⟨Fz,D2,D3⟩:=ABl Dy;refine AC9 Bh (fun _ E=>Bh.thenE E) rfl (AN3 (Bi.z p5).2 (Bi.z p3).2 D2) fun F4 F5 Bj D4=>?_;obtain ⟨F6,rfl,D5⟩:=D4;have D6:=Bh.thenE Bj;obtain ⟨F7,rfl,D7⟩:=D5.cs;refine ACl ⟨Bj,?_⟩;refine h_e rfl fun F8 Ci=>?_;have Bl:=D6.thenE Ci;have Bm:=((Bi.e Bj).az D7).e Ci;obtain ⟨⟨F9,Ga⟩,D8,Cj⟩:=ABl D3;dsimp only at Cj;refine AC9 Bl (fun _ E=>Bl.thenE E) rfl (AMq (Bm.z p1).2 (Bm.z p0).2 D8) fun Gb Gc Bn D9=>?_;obtain ⟨Gd,rfl,Ea⟩:=D9;have Eb:=Bl.thenE Bn;obtain ⟨Bo,Bp,rfl,Ec,Ed⟩:=Ea;refine ACl ⟨Bn,?_⟩;refine h_l rfl (Wk (ACl (h_l rfl (ACz rfl rfl (ACl (h_l rfl (ACz rfl rfl (ACl (Ag4 fun Ck Cm=>Asy fun Ge Cn Ee Gf=>?_)))))))));have Af:=(((Bm.e Bn).az Ec).az Ed).e Cm;have Ag:=((((((Aa.nb (Eb.thenE Cm).ext (AGu Ee Cn.lt) Cn).az (Af.z p5)).az (Af.z p4)).az (Af.z p3)).az (Af.z p2)).az (Af.z p1)).az (Af.z p0);refine ADi (Bo ++ Bp) AGa (ADl (Ag.z p1) (Ag.z p0)) (ADl (ACj Ck) (ACj Ck)) rfl rfl (AKw (Ag.z p1) (Ag.z p0)) (Ag.b p6) fun Co Ef Eg=>ACq ?_;have Ab:=Ag.sb p6 Eg Ef rfl;refine AG6 (Bo ++ Bp) AGa (ADl (Ab.z p1) (Ab.z p0)) rfl ((Ab.b p6).agg) (ADi (Bo ++ Bp) AGa (ADl (Ab.z p1) (Ab.z p0)) (ADl (ACj Co) (ACj Co)) rfl rfl (AKw (Ab.z p1) (Ab.z p0)) (Ab.b p13) fun Gg Eh Ei=>ABo (ABr ?_));have Ah:=Ab.sb p13 Ei Eh rfl;obtain rfl:=ABk Cj;exact ⟨_,AFi AGa (ADl (Ah.z p1) (Ah.z p0)) rfl (Ah.b p13),Ah.x,_,rfl,⟨_,_,rfl,(Ah.z p1),(Ah.z p0)⟩⟩
def AIs (fuel:Nat) (a3 a5:Int):Option Int:=
  ((ADt fuel a3 a5).bind fun Aa=>((AD9 fuel Aa.1 Aa.2).bind fun Ad=>(some Ad)))
theorem AQc {fuel:Nat} {h:ABh} {Af:Value} {a3 a5 r:Int} (H2:AWo h Af a3 a5) (hp:AIs fuel a3 a5=some r):AB7 Tryz.prog 118 #[Af] h (fun x h'=>Ext h h'/\ ∃ (x0:Value),x=x0/\ZZ h' x0 r):=by
 unfold AIs at hp;obtain ⟨Aj,Ak,rfl,H2z0,H2z1⟩:=H2;refine cwf (l:=[_]) Tryz.func118 rfl rfl (ABi (AHi (Aj ++ Ak) trivial tt2 rfl rfl fun b7 h8 V9 Au Av=>ADx [.bool false,.slice none 0 0] AJ3 rfl trivial tt2 fun Br Bt Aw Ax Ay=>AMg ?_));have Ab:=((Kst.k0 h).nb Au Av V9).nb Ax Ay Aw;refine AG6 (Aj ++ Ak) AGa (ADl (Ab.zx H2z0) (Ab.zx H2z1)) rfl ((Ab.b p1).agg) ?_;obtain ⟨Bu,Az,A3⟩:=ABl hp;refine ACu rfl (AFv ⟨_,_,rfl,(Ab.zx H2z0),(Ab.zx H2z1)⟩ Az) fun Bv Bw A4 A5=>?_;obtain ⟨Bx,rfl,A6⟩:=A5;obtain ⟨Am,Ao,rfl,A7,A8⟩:=A6;refine ADx [.bool false,.slice none 0 0,.bool false,.slice none 0 0] AN4 rfl trivial tt2 fun By Ap A9 Ba Bb=>?_;have Ac:=(((Ab.e A4).az A7).az A8).nb Ba Bb A9;refine ADi (Am ++ Ao) AGa (ADl (Ac.z p2) (Ac.z p1)) (ADl (ACj Ap) (ACj Ap)) rfl rfl (AKw (Ac.z p2) (Ac.z p1)) (Ac.b p0) fun Bz Bc Be=>AMg (AJj (fs:=2) AWx (by kernel_rfl) (by decide) rfl ?_);have Aa:=Ac.sb p0 Be Bc rfl;refine AG6 Am ACp (cZ.klen (Aa.z p2)) rfl ((Aa.b p0).aggL) (AJj (fs:=2) AS7 (by kernel_rfl) (by decide) rfl (AG6 Ao ACp (cZ.klen (Aa.z p1)) rfl ((Aa.b p0).aggR (cZ.klen (Aa.z p2))) ?_));obtain ⟨B1,Bf,Bg⟩:=ABl A3;refine ACu rfl (AH5 (Aa.z p2).2 (Aa.z p1).2 Bf) fun B2 Bh Bi Bj=>?_;obtain ⟨B3,rfl,Bl⟩:=Bj;obtain ⟨Bm,rfl,Bn⟩:=Bl.cs;have Ad:=(Aa.e Bi).az Bn;refine ADi Bm ACp (cZ.klen (Ad.z p0)) (cZ.klen (ACj Bh)) rfl rfl (cZ.one (Ad.z p0)) (Ad.b p4) fun B4 I64 Bo=>ABo (ABr ?_);have Ae:=Ad.sb p4 Bo I64 rfl;obtain rfl:=ABk Bg;exact ⟨_,AFi ACp (cZ.klen (Ae.z p0)) rfl (Ae.b p4),Ae.x,_,rfl,(Ae.z p0).2⟩
def AF1 (fuel:Nat) (a3 a5:Int):Option Int:=
  ((AJb fuel).bind fun Aa=>((AJm fuel a3 a5 Aa.1 Aa.2).bind fun Ab=>((AIs fuel Ab.1 Ab.2).bind fun Ae=>(some Ae))))
theorem AO4 {fuel:Nat} {h:ABh} {Ai:Value} {a3 a5 r:Int} (H2:AWo h Ai a3 a5) (hp:AF1 fuel a3 a5=some r):AB7 Tryz.prog 92 #[Ai] h (fun x h'=>Ext h h'/\ ∃ (x0:Value),x=x0/\ZZ h' x0 r):=by
 unfold AF1 at hp;obtain ⟨Ao,Ap,rfl,H2z0,H2z1⟩:=H2;refine cwf (l:=[_]) Tryz.func92 rfl rfl (ABi (AHi (Ao ++ Ap) trivial tt2 rfl rfl fun b7 h8 V9 Ax Ay=>ADx [.bool false,.slice none 0 0] AJ3 rfl trivial tt2 fun Bw Af Az A3 A4=>ABo (ABm (AEl (fun h'=>UpT [] Af h') (by kernel_rfl) ?_))));have Ab:=((Kst.k0 h).nb Ax Ay V9).nb A3 A4 Az;have Ac:UpT [] Af Af:=UpT.start all_nil;refine AEt (Ao ++ Ap) AGa (ADl (Ab.zx H2z0) (Ab.zx H2z1)) rfl Ac (fun h' hb=>((Ab.b p1).ext hb.ext).agg) ?_;obtain ⟨Bx,A5,A6⟩:=ABl hp;refine AC9 Ac (fun _ E=>Ac.thenE E) rfl (AQp A5) fun By Bz Aq A7=>?_;obtain ⟨B1,rfl,A8⟩:=A7;have Ag:=Ac.thenE Aq;obtain ⟨B2,B3,rfl,A9,Ba⟩:=A8;have Aa:=((Ab.e Aq).az A9).az Ba;obtain ⟨B4,Bb,Bc⟩:=ABl A6;refine AC9 Ag (fun _ E=>Ag.thenE E) rfl (ARo ⟨_,_,rfl,(Aa.zx H2z0),(Aa.zx H2z1)⟩ ⟨_,_,rfl,(Aa.z p1),(Aa.z p0)⟩ Bb) fun B5 B6 Ar Be=>?_;obtain ⟨B7,rfl,Bf⟩:=Be;have Au:=Ag.thenE Ar;obtain ⟨B8,B9,rfl,Bg,Bh⟩:=Bf;have Ah:=((Aa.e Ar).az Bg).az Bh;obtain ⟨Ca,Bi,Bj⟩:=ABl Bc;refine AC9 Au (fun _ E=>Au.thenE E) rfl (AQc ⟨_,_,rfl,(Ah.z p1),(Ah.z p0)⟩ Bi) fun Cb Bl Bm Bn=>?_;obtain ⟨Cd,rfl,Bo⟩:=Bn;obtain ⟨Bp,rfl,Bq⟩:=Bo.cs;have Ad:=(Ah.e Bm).az Bq;refine ADi Bp ACp (cZ.klen (Ad.z p0)) (cZ.klen (ACj Bl)) rfl rfl (cZ.one (Ad.z p0)) (Ad.b p5) fun Ce Br Bt=>ABo (ABr ?_);have Ae:=Ad.sb p5 Bt Br rfl;obtain rfl:=ABk Bj;exact ⟨_,AFi ACp (cZ.klen (Ae.z p0)) rfl (Ae.b p5),Ae.x,_,rfl,(Ae.z p0).2⟩
def AFc (fuel:Nat) (a3:LiI) (a7:LiA) (a9:Int):Option Bool:=
  ((AEn fuel a3 a9 (w64 (a9 - 1))).bind fun Ac=>((AKv fuel 4).bind fun Ae=>((ADq fuel a7 (w64 (a9 - 1))).bind fun Af=>((ADq fuel a7 (w64 (a9 + 1))).bind fun Ag=>((APs fuel Af Ag).bind fun Ah=>((APs fuel Ac Ac).bind fun Ai=>((Ag2 fuel Ah Ai).bind fun Aj=>((APs fuel Ae Aj).bind fun Ak=>((AKv fuel 3).bind fun Am=>((ADq fuel a7 a9).bind fun Ao=>((ADq fuel a7 a9).bind fun Ap=>((APs fuel Ao Ap).bind fun Aq=>((APs fuel Am Aq).bind fun Ar=>((AZr fuel Ak Ar).bind fun Au=>(some (decide (0<=Au)))))))))))))))))
theorem ALl {fuel:Nat} {h:ABh} {Bj:Value} {a3:LiI} {Bm:Value} {a7:LiA} {a9:Int} {r:Bool} (H2:AFl cZ h Bj a3) (H6:SlC cZ h Bm a7) (hp:AFc fuel a3 a7 a9=some r):AB7 Tryz.prog 96 #[Bj,Bm,(.int .i64 a9)] h (fun x h'=>Ext h h'/\x= .bool r):=by
 unfold AFc at hp;refine cwf (l:=[_,_,_]) Tryz.func96 rfl rfl (ABi (ACq (Wk (Wk (Wk (AHd rfl rfl ?_))))));have K0:=Kst.k0 h;obtain ⟨Ey,Cf,Cg⟩:=ABl hp;refine ACu rfl (AI6 (H2.ext K0.x) Cf) fun Ez Fa Ch Ci=>?_;obtain ⟨Fb,rfl,Cj⟩:=Ci;obtain ⟨Ag,rfl,Ck⟩:=Cj.cs;refine ADx [.bool false,.slice none 0 0] AJ3 rfl trivial tt2 fun Fc Cm Cn Co Cp=>?_;have Ac:=((K0.e Ch).az Ck).nb Co Cp Cn;refine ADi Ag ACp (cZ.klen (Ac.z p1)) (cZ.klen (ACj Cm)) rfl rfl (cZ.one (Ac.z p1)) (Ac.b p0) fun Ah Cq Cr=>ABo (ABm ?_);have Ad:=Ac.sb p0 Cr Cq rfl;have Bq:UpT [] Ah Ah:=UpT.start all_nil;refine AWw (B:=fun h'=>UpT [] Ah h') 15 [⟨8,109,[.bool false,.slice none 0 0]⟩] (fun _ _ U E=>U.thenE E) (by kernel_rfl) Bq (Ak9 rfl AJ3 rfl (fun _ _ U E=>U.thenE E)) (h_e rfl fun Fd Br=>?_);have Ai:=Bq.thenE Br;obtain ⟨Fe,Ct,Cu⟩:=ABl Cg;refine AC9 Ai (fun _ E=>Ai.thenE E) rfl (AJp Ct) fun Ff Fg Aj Cv=>?_;obtain ⟨Fh,rfl,Cw⟩:=Cv;have Cx:=Ai.thenE Aj;obtain ⟨Fi,rfl,Cy⟩:=Cw.cs;refine ACl ⟨Aj,?_⟩;refine h_l rfl (Wk (ACl (h_l rfl (Wk (ACl (h_l rfl (AHd rfl rfl (ACl (h_e rfl fun Fj Bt=>?_)))))))));have Ak:=Cx.thenE Bt;have Bu:=(((Ad.e Br).e Aj).az Cy).e Bt;obtain ⟨Fk,Cz,C0⟩:=ABl Cu;refine AC9 Ak (fun _ E=>Ak.thenE E) rfl (AEv (H6.ext Bu.x) Cz) fun Fl Fm Am C1=>?_;obtain ⟨Fo,rfl,C2⟩:=C1;have C3:=Ak.thenE Am;obtain ⟨Fp,rfl,C4⟩:=C2.cs;refine ACl ⟨Am,?_⟩;refine h_l rfl (Wk (ACl (h_l rfl (Wk (ACl (h_l rfl (ACy rfl rfl (ACl (h_e rfl fun Fq Bv=>?_)))))))));have Ao:=C3.thenE Bv;have Bw:=((Bu.e Am).az C4).e Bv;obtain ⟨Fr,C5,C6⟩:=ABl C0;refine AC9 Ao (fun _ E=>Ao.thenE E) rfl (AEv (H6.ext Bw.x) C5) fun Ft Fu Ap C7=>?_;obtain ⟨Fv,rfl,C8⟩:=C7;have C9:=Ao.thenE Ap;obtain ⟨Fw,rfl,Da⟩:=C8.cs;refine ACl ⟨Ap,?_⟩;refine h_e rfl fun Fx Bx=>?_;have Aq:=C9.thenE Bx;have Ar:=((Bw.e Ap).az Da).e Bx;obtain ⟨Fy,Db,Dc⟩:=ABl C6;refine AC9 Aq (fun _ E=>Aq.thenE E) rfl (AN3 (Ar.z p1).2 (Ar.z p0).2 Db) fun Fz F4 Au Dd=>?_;obtain ⟨F5,rfl,De⟩:=Dd;have Av:=Aq.thenE Au;obtain ⟨F6,rfl,Df⟩:=De.cs;have Aw:=(Ar.e Au).az Df;refine ACl ⟨Au,?_⟩;refine h_l rfl (AEt Ag ACp (cZ.klen (Aw.z p5)) rfl Av (fun h' hb=>((Ad.b p0).ext hb.ext).agg) (ACl (h_l rfl (AEt Ag ACp (cZ.klen (Aw.z p5)) rfl Av (fun h' hb=>((Ad.b p0).ext hb.ext).agg) (ACl (h_e rfl fun F7 By=>?_))))));have Ax:=Av.thenE By;have Ay:=Aw.e By;obtain ⟨F8,Dg,Dh⟩:=ABl Dc;refine AC9 Ax (fun _ E=>Ax.thenE E) rfl (AN3 (Ay.z p5).2 (Ay.z p5).2 Dg) fun F9 Ga Az Di=>?_;obtain ⟨Gb,rfl,Dj⟩:=Di;have Dk:=Ax.thenE Az;obtain ⟨Gc,rfl,Dl⟩:=Dj.cs;refine ACl ⟨Az,?_⟩;refine h_e rfl fun Gd Bz=>?_;have A3:=Dk.thenE Bz;have A4:=((Ay.e Az).az Dl).e Bz;obtain ⟨Ge,Dn,Do⟩:=ABl Dh;refine AC9 A3 (fun _ E=>A3.thenE E) rfl (Afb (A4.z p1).2 (A4.z p0).2 Dn) fun Gf Gg A5 Dp=>?_;obtain ⟨Gh,rfl,Dq⟩:=Dp;have Dr:=A3.thenE A5;obtain ⟨Gi,rfl,Ds⟩:=Dq.cs;refine ACl ⟨A5,?_⟩;refine h_e rfl fun Gj B1=>?_;have A6:=Dr.thenE B1;have A7:=((A4.e A5).az Ds).e B1;obtain ⟨Gk,Dt,Du⟩:=ABl Do;refine AC9 A6 (fun _ E=>A6.thenE E) rfl (AN3 (A7.z p5).2 (A7.z p0).2 Dt) fun Gl Gm A8 Dv=>?_;obtain ⟨Gn,rfl,Dw⟩:=Dv;have Dx:=A6.thenE A8;obtain ⟨B2,rfl,Dy⟩:=Dw.cs;refine ACl ⟨A8,?_⟩;refine Ag4 fun Dz B3=>Asy fun Gp B4 D0 Gq=>?_;have Aa:=((A7.e A8).az Dy).e B3;have Ae:=(((((((Ad.nb (Dx.thenE B3).ext (AGu D0 B4.lt) B4).az (Aa.z p6)).az (Aa.z p5)).az (Aa.z p4)).az (Aa.z p3)).az (Aa.z p2)).az (Aa.z p1)).az (Aa.z p0);refine ADi B2 ACp (cZ.klen (Ae.z p0)) (cZ.klen (ACj Dz)) rfl rfl (cZ.one (Ae.z p0)) (Ae.b p7) fun A9 D1 D2=>ABo (ABm (AEl (fun h'=>UpT [] A9 h') (by kernel_rfl) ?_));have Ba:=Ae.sb p7 D2 D1 rfl;have Af:UpT [] A9 A9:=UpT.start all_nil;refine AEt B2 ACp (cZ.klen (Ba.z p0)) rfl Af (fun h' hb=>((Ba.b p7).ext hb.ext).agg) ?_;obtain ⟨Gr,D3,D4⟩:=ABl Du;refine AC9 Af (fun _ E=>Af.thenE E) rfl (AJp D3) fun Gt Gu B5 D5=>?_;obtain ⟨Gv,rfl,D6⟩:=D5;have Bb:=Af.thenE B5;obtain ⟨Gw,rfl,D7⟩:=D6.cs;refine Wk (Wk ?_);have B6:=(Ba.e B5).az D7;obtain ⟨Gx,D8,D9⟩:=ABl D4;refine AC9 Bb (fun _ E=>Bb.thenE E) rfl (AEv (H6.ext B6.x) D8) fun Gy Gz B7 Ea=>?_;obtain ⟨G3,rfl,Eb⟩:=Ea;have Bc:=Bb.thenE B7;obtain ⟨G4,rfl,Ec⟩:=Eb.cs;refine Wk (Wk ?_);have B8:=(B6.e B7).az Ec;obtain ⟨G5,Ed,Ee⟩:=ABl D9;refine AC9 Bc (fun _ E=>Bc.thenE E) rfl (AEv (H6.ext B8.x) Ed) fun G6 G7 B9 Ef=>?_;obtain ⟨G8,rfl,Eg⟩:=Ef;have Be:=Bc.thenE B9;obtain ⟨G9,rfl,Eh⟩:=Eg.cs;have Bf:=(B8.e B9).az Eh;obtain ⟨Hb,Ei,Ej⟩:=ABl Ee;refine AC9 Be (fun _ E=>Be.thenE E) rfl (AN3 (Bf.z p1).2 (Bf.z p0).2 Ei) fun Hc Hd Ca Ek=>?_;obtain ⟨He,rfl,El⟩:=Ek;have Bg:=Be.thenE Ca;obtain ⟨Hf,rfl,Em⟩:=El.cs;have Bh:=(Bf.e Ca).az Em;obtain ⟨Hg,En,Eo⟩:=ABl Ej;refine AC9 Bg (fun _ E=>Bg.thenE E) rfl (AN3 (Bh.z p3).2 (Bh.z p0).2 En) fun Hh Hj Cb Ep=>?_;obtain ⟨Hk,rfl,Er⟩:=Ep;have Cd:=Bg.thenE Cb;obtain ⟨Hl,rfl,Es⟩:=Er.cs;have Bi:=(Bh.e Cb).az Es;obtain ⟨Hm,Et,Eu⟩:=ABl Eo;refine AC9 Cd (fun _ E=>Cd.thenE E) rfl (AYd (Bi.z p5).2 (Bi.z p0).2 Et) fun Hn Ho Ev Ew=>?_;subst Ew;refine AMo rfl rfl (ABp (ABr ?_));obtain rfl:=ABk Eu;exact ⟨_,ABt,(Bi.e Ev).x,rfl⟩
def AJu (fuel:Nat) (a3:LiI) (x5:LiA) (Ab Aa:Int) (Ac:LiI):Option ((Int × LiI) ⊕ (((LiI × Bool)) ⊕ (LiI))):=
  (if 0<=Aa then ((AFo fuel a3 x5 Ab Aa).bind fun Ah=>(if (!Ah)=true then ((gI Ac Aa).bind fun Af=>((AEn fuel a3 Ab Aa).bind fun Ai=>((ADq fuel x5 (w64 (Aa + 1))).bind fun Aj=>((AFs fuel Ai Aj).bind fun Ag=>((AF1 fuel Ag.1 Ag.2).bind fun Ak=>((Acw fuel Ak).bind fun Am=>((gI Af Ab).bind fun Ao=>(some (Sum.inr<| Sum.inl <| ((sI Ac Aa (sI Af Ab Am)),true)))))))))) else (some (Sum.inl ((w64 (Aa - 1)),Ac))))) else (some (Sum.inr<| Sum.inr <| Ac)))
def AJv (fuel:Nat) (a3:LiI) (x5:LiA) (Aa:Int) (Ae:LiI):Option ((Int × LiI) ⊕ (((LiI × Bool)) ⊕ (Unit))):=
  (if Aa < (a3.length:Int) then ((iter (fun s=>AJu fuel a3 x5 Aa s.1 s.2) fuel ((w64 (Aa - 1)),Ae)).bind (fun ex=>match ex with | Sum.inl Af=>(some (Sum.inr<| Sum.inl <| Af)) | Sum.inr (Ab)=>(if 0 < Aa then ((AFc fuel a3 x5 Aa).bind fun Ag=>(if (!Ag)=true then ((gI Ab (w64 (Aa - 1))).bind fun Ah=>((gI Ab Aa).bind fun Ai=>(some (Sum.inr<| Sum.inl <| ((sI (sI Ab Aa Ah) (w64 (Aa - 1)) Ai),true))))) else (some (Sum.inl ((w64 (Aa + 1)),Ab))))) else (some (Sum.inl ((w64 (Aa + 1)),Ab)))))) else (some (Sum.inr<| Sum.inr <| ())))
def AG9 (fuel:Nat) (a3:LiI):Option (LiI × Bool):=
  ((AEc fuel a3).bind fun (x5,x6)=>((AEu fuel (a3.length:Int)).bind fun (Ac,Af)=>((iter (fun s=>AJv fuel a3 x5 s.1 s.2) fuel (0,Ac)).bind (fun ex=>match ex with | Sum.inl Ad=>(some Ad) | Sum.inr (_)=>(some ([],false))))))
theorem AQq {fuel:Nat} {h:ABh} {Bi:Value} {a3:LiI} {r:(LiI × Bool)} (H2:AFl cZ h Bi a3) (hp:AG9 fuel a3=some r):AB7 Tryz.prog 55 #[Bi] h (fun x h'=>Ext h h'/\ ∃ (x0:Value) (F0:List Nat) (B7:List LnA) (B8:List Value),x= .tuple #[x0,.bool r.2]/\AFg cZ 112 109 h' F0 B7 B8 x0 r.1/\Sp h' h.size [F0]):=by
 unfold AG9 at hp;refine cwf (l:=[_]) Tryz.func55 rfl rfl (ABi (ACd (ACq (Wk ?_))));have K0:=Kst.k0 h;obtain ⟨⟨x5,x6⟩,B9,Bo⟩:=ABl hp;dsimp only at Bo;refine ACu rfl (AIp (H2.ext K0.x) B9) fun El Em E9 Cb=>?_;obtain ⟨En,Eo,rfl,Cd,Ce⟩:=Cb;refine Wk (ACz rfl rfl (ACz rfl rfl (ACd (ACq (Wk (ADg AD8 rfl H2 ?_))))));obtain ⟨⟨Cf,Ep⟩,Cg,Bp⟩:=ABl Bo;dsimp only at Bp;refine ACu rfl (AKy Cg) fun Er Es Ch Ci=>?_;obtain ⟨Bq,Cj,Ck,Cm,rfl,Cn,Co⟩:=Ci;refine Wk (ACz rfl rfl (ACz rfl rfl (ACd (ABp (ABm (ABi (Wk (ADg AD8 rfl H2 (Wk (ABo (ABq ?_)))))))))));have Br:=(K0.no E9 Ce Cd).no2 Ch Co Cn;obtain ⟨Aj,Cp,Ap⟩:=ABl Bp;obtain ⟨Cq,Cr,Ct⟩:=ACg Cp;refine ACi 9671406556917033389261580 (fun x:(Int) × (LiI) × LnA × LnN × LvA=>[(23,(.int .i64 x.1))]) (fun k x h'=>iter Cq k (x.1,x.2.1)=some Aj/\Kst h h' (Br.L.set 0 (aO2 cZ 112 109 x.2.2.1 x.2.2.2.1 x.2.2.2.2 Bq x.2.1))) (by kernel_rfl) fuel ((0,Cf,Cj,Ck,Cm):(Int) × (LiI) × LnA × LnN × LvA) ?_ ⟨rfl,trivial⟩ ?_
 ·exact ⟨Ct,Br⟩
 rintro Et ⟨Ak,Cu,Cv,Cw,Cx⟩ Eu Ev ⟨Cy,Aq⟩;obtain ⟨Bt,Ew,rfl,Ad,Aa⟩:=AB3 Cy;rw [Cr] at Ad;dsimp only at Ad;unfold AJv at Ad;refine ABi (ACx rfl rfl (ABo (ABm (⟨_,rfl,fun Ar=>?_,fun Ar=>?_⟩))))
 ·refine ABs (q_t (ABm (ABq (ABi (Wk (ABp (ABm (ABi (Wk (AHd rfl rfl (ABp (ABq ?_))))))))))));obtain ⟨Au,Cz,Av⟩:=ABl (AC1 Ad Ar);obtain ⟨C0,C1,C2⟩:=ACg Cz;refine ACi 72057593769493004 (fun x:(Int) × (LiI) × LnA × LnN × LvA=>[(9,(.int .i64 x.1))]) (fun k x h'=>iter C0 k (x.1,x.2.1)=some Au/\Kst h h' (Aq.L.set 0 (aO2 cZ 112 109 x.2.2.1 x.2.2.2.1 x.2.2.2.2 Bq x.2.1))) (by kernel_rfl) fuel (((w64 (Ak - 1)),Cu,Cv,Cw,Cx):(Int) × (LiI) × LnA × LnN × LvA) ?_ ⟨rfl,trivial⟩ ?_
  ·exact ⟨C2,Aq⟩
  rintro Ey ⟨Aw,Ax,Ay,Az,A3⟩ Ez Fa ⟨C3,Ab⟩;obtain ⟨C4,Fb,rfl,Ae,Af⟩:=AB3 C3;rw [C1] at Ae;dsimp only at Ae;unfold AJu at Ae;refine ABm (ABi (Wk (AMo rfl rfl (ABo (⟨_,rfl,fun A4=>?_,fun A4=>?_⟩)))))
  ·refine ABs (q_t (ABm (ABq (ABi (Wk (Wk (Wk (Wk ?_))))))));obtain ⟨Fc,C5,Bu⟩:=ABl (AC1 Ae A4);refine ACu rfl (ALw (H2.ext Ab.x) (Ab.o p1).rd C5) fun Fd A5 C6 C7=>?_;subst C7;refine AF8 rfl (ABo ?_);have Ag:=Ab.e C6;refine ⟨_,rfl,fun A6=>?_,fun A6=>?_⟩
   ·refine ABm (AEl (fun h'=>UpT [] A5 h') (by kernel_rfl) ?_);have Am:UpT [] A5 A5:=UpT.start all_nil;refine Wk (Wk ?_);obtain ⟨Fe,A7,C8⟩:=ABl (ifT Bu A6);refine ADu AD8 rfl (Ag.o2 p0) rfl A7 fun Ff Fg Fh C9 Da=>AGj AHs rfl Am (fun h' hb=>ABx Da hb.ext) (Wk (Wk (Wk (Wk ?_))));obtain ⟨Fi,Db,Dc⟩:=ABl C8;refine AC9 Am (fun _ E=>Am.thenE E) rfl (AI6 (H2.ext Ag.x) Db) fun Fj Fk Bv Dd=>?_;obtain ⟨Fl,rfl,De⟩:=Dd;have A8:=Am.thenE Bv;obtain ⟨Fm,rfl,Df⟩:=De.cs;refine Wk (Wk (ACy rfl rfl ?_));have Bw:=(Ag.e Bv).az Df;obtain ⟨Fo,Dg,Dh⟩:=ABl Dc;refine AC9 A8 (fun _ E=>A8.thenE E) rfl (AEv (Bw.o p2).rd Dg) fun Fp Fq Bx Di=>?_;obtain ⟨Fr,rfl,Dj⟩:=Di;have A9:=A8.thenE Bx;obtain ⟨Ft,rfl,Dk⟩:=Dj.cs;have Ba:=(Bw.e Bx).az Dk;obtain ⟨Fu,Dl,Dn⟩:=ABl Dh;refine AC9 A9 (fun _ E=>A9.thenE E) rfl (AOo (Ba.z p1).2 (Ba.z p0).2 Dl) fun Fv Fw By Do=>?_;obtain ⟨Fx,rfl,Dp⟩:=Do;have Bb:=A9.thenE By;obtain ⟨Fy,Fz,rfl,Dq,Dr⟩:=Dp;have Bc:=((Ba.e By).az Dq).az Dr;obtain ⟨F4,Ds,Dt⟩:=ABl Dn;refine AC9 Bb (fun _ E=>Bb.thenE E) rfl (AO4 ⟨_,_,rfl,(Bc.z p1),(Bc.z p0)⟩ Ds) fun F5 F6 Bz Du=>?_;obtain ⟨F7,rfl,Dv⟩:=Du;have B1:=Bb.thenE Bz;obtain ⟨F8,rfl,Dw⟩:=Dv.cs;have B2:=(Bc.e Bz).az Dw;obtain ⟨F9,Dx,Dy⟩:=ABl Dt;refine AC9 B1 (fun _ E=>B1.thenE E) rfl (Aa7 (B2.z p0).2 Dx) fun Ga Gb Dz D0=>?_;obtain ⟨Gc,rfl,D1⟩:=D0;obtain ⟨Gd,rfl,D2⟩:=D1.cs;have Ah:=(B2.e Dz).az D2;obtain ⟨Ge,B3,D3⟩:=ABl Dy;refine AE7 (m:=Aw) AG7 rfl (Ag.o2 p0) C9 A7 rfl B3 fun Gf D4=>AJo (m:=Aw) (AS5 ACp (cZ.klen (Ah.z p0)) rfl rfl (cZ.one (Ah.z p0))) (Ah.o2 p6) D4 A7 B3 (Ah.z p0) fun Gg D5 D6=>AMg (Wk (ACd (ABp ?_)));have Be:=Ah.uO2 p6 D6 D5;obtain rfl:=ABk D3;change _=Au at Af;subst Af;obtain rfl:=ABk Av;change _=Aj at Aa;subst Aa;refine ABr (ADn (AB0 (AB0 (ADn (AB0 (ADn (AB0 (AB0 (ADn (AB0 ?_))))))))));obtain rfl:=ABk Ap;exact ⟨_,AC8,Be.x,_,_,_,_,rfl,(Be.o2 p6),Be.s.sel [6] (by decide)⟩
   ·refine ABs (q_b (q_t (ABw (Wk (AHd rfl rfl (ABp ?_))))));obtain rfl:=ABk (AIz Bu A6);exact ⟨C4,(((w64 (Aw - 1)),Ax,Ay,Az,A3):(Int) × (LiI) × LnA × LnN × LvA),Nat.lt_succ_self _,⟨Af,Ag⟩,rfl,trivial⟩
  ·obtain rfl:=ABk (AC2 Ae A4);change _=Au at Af;subst Af;refine ACb (AB9 (AB9 (ADj (q_t (ABi (Wk (AIm rfl rfl (Wk ?_))))))));by_cases Ao:0 < Ak
   ·rw [decide_eq_true Ao];refine ACk 58 true (Wk (ACk 58 true (Wk (ACk 58 true (Wk (ACk 58 true ?_))))));obtain ⟨Gh,D7,B4⟩:=ABl (ifT Av Ao);refine ACu rfl (ALl (H2.ext Ab.x) (Ab.o p1).rd D7) fun Gi Gj D8 D9=>?_;subst D9;refine ACk 58 true (AF8 rfl (ABy rfl (ABo ?_)));have Ai:=Ab.e D8;refine ⟨_,rfl,fun Bf=>?_,fun Bf=>?_⟩
    ·refine ABm (AMh (Wk (Wk (Wk (Wk (AHd rfl rfl (Wk (Wk (AHd rfl rfl ?_)))))))));obtain ⟨Gk,B5,Ea⟩:=ABl (ifT B4 Bf);refine ADu AD8 rfl (Ai.o2 p0) rfl B5 fun Gl Gm Gn Eb Ec=>AB4 AHs rfl Ec (Wk (Wk ?_));obtain ⟨Gp,B6,Ed⟩:=ABl Ea;refine ADu AD8 rfl (Ai.o2 p0) rfl B6 fun Gq Gr Gt Ee Ef=>AB4 AHs rfl Ef (AT8 AD8 AHs (Ai.o2 p0) Ee Eb B6 B5 rfl rfl (fun _=>rfl) (fun _=>rfl) (fun _=>rfl) (fun _ _=>rfl) fun Gu Gv Gw Gx Gy Gz Eg Eh Ei=>AMg (Wk (ACd (ABp ?_))));have Bg:=Ai.uo2 p0 Eh Eg Ei;obtain rfl:=ABk Ed;change _=Aj at Aa;subst Aa;refine ABr (ADn (AB0 (AB0 (ADn (AB0 ?_)))));obtain rfl:=ABk Ap;exact ⟨_,AC8,Bg.x,_,_,_,_,rfl,(Bg.o2 p0),Bg.s.sel [0] (by decide)⟩
    ·refine ABs (q_b (q_t (ABw (ACy rfl rfl (Wk (ABo ?_))))));obtain rfl:=ABk (AIz B4 Bf);exact ⟨Bt,(((w64 (Ak + 1)),Ax,Ay,Az,A3):(Int) × (LiI) × LnA × LnN × LvA),Nat.lt_succ_self _,⟨Aa,Ai⟩,rfl,trivial⟩
   ·rw [decide_eq_false Ao];refine ALh 58 false (ABu rfl (ABo (ACc rfl (ABs (q_b (q_t (ABw (ACy rfl rfl (Wk (ABo ?_))))))))));obtain rfl:=ABk (ifF Av Ao);exact ⟨Bt,(((w64 (Ak + 1)),Ax,Ay,Az,A3):(Int) × (LiI) × LnA × LnN × LvA),Nat.lt_succ_self _,⟨Aa,Ab⟩,rfl,trivial⟩
 ·obtain rfl:=ABk (AC2 Ad Ar);change _=Aj at Aa;subst Aa;refine ACb (AB9 (AB9 (ADj (q_t (ABi (ACd (ABp (ABr ?_))))))));have Bh:=Kst.anil2 cZ 112 109 Aq;obtain rfl:=ABk Ap;exact ⟨_,AC8,Bh.x,_,_,_,_,rfl,(Bh.o2 p0),Bh.s.sel [0] (by decide)⟩
def AI7 (fuel:Nat) (Aa Ab:LiI):Option ((LiI × LiI) ⊕ (((LiI × LiI × Int)))):=
  ((AG9 fuel Aa).bind fun (Ac,Ad)=>(if (!Ad)=true then ((AGb fuel Aa).bind fun (Ae,Ah)=>(some (Sum.inr<| (Ae,Ab,0)))) else ((AEj fuel Aa Ac).bind fun Af=>((ADp fuel Ab Ac).bind fun Ag=>(some (Sum.inl (Af,Ag)))))))
def AGc (fuel:Nat) (a3:LiI):Option (LiI × LiI × Int):=
  ((ADw fuel a3).bind fun x5=>(if ¬ x5=0 then (some ([],[],x5)) else ((AFp fuel a3).bind fun Ac=>(if (!Ac)=true then (some ([],[],7)) else ((AFz fuel a3).bind fun Ad=>((AEu fuel (a3.length:Int)).bind fun (Ae,Ag)=>((iter (fun s=>AI7 fuel s.1 s.2) fuel (Ad,Ae)).bind (fun (Af:(LiI × LiI × Int))=>(some Af)))))))))
theorem APi {fuel:Nat} {h:ABh} {Aq:Value} {a3:LiI} {r:(LiI × LiI × Int)} (H2:AFl cZ h Aq a3) (hp:AGc fuel a3=some r):AB7 Tryz.prog 28 #[Aq] h (fun x h'=>Ext h h'/\ ∃ (x0:Value) (F0:List Nat) (A9:List LnA) (Ba:List Value) (x1:Value) (F1:List Nat) (Bb:List LnA) (Bc:List Value),x= .tuple #[x0,x1,.int .i64 r.2.2]/\AFg (cI .i64) 23 2 h' F0 A9 Ba x0 r.1/\AFg cZ 112 109 h' F1 Bb Bc x1 r.2.1/\Sp h' h.size [F0,F1]):=by
 unfold AGc at hp;refine cwf (l:=[_]) Tryz.func28 rfl rfl (ABi (ACd (ACd (ABp (ABm (ABi (Wk ?_)))))));have K0:=Kst.k0 h;obtain ⟨x5,Be,Az⟩:=ABl hp;refine ACu rfl (AIb (H2.ext K0.x) Be) fun Df h9 E8 Bg=>?_;subst Bg;refine ACq (Wk (AG8 rfl rfl (ABo ?_)));have Ag:=K0.e E8;refine ⟨_,rfl,fun Ah=>?_,fun Ah=>?_⟩
 ·refine ABi (Wk (ACd (ACd (ABp (ABr (AB0 ?_))))));have Ac:=Kst.anil2 cZ 112 109 (Kst.anil2 (cI .i64) 23 2 Ag);obtain rfl:=ABk (AC1 Az Ah);exact ⟨_,AQ3,Ac.x,_,_,_,_,_,_,_,_,rfl,(Ac.o2 p1),(Ac.o2 p0),Ac.s.sel [1,0] (by decide)⟩
 ·refine ABs (q_t (ABm (ABi (Wk ?_))));obtain ⟨Dh,Bh,A3⟩:=ABl (AC2 Az Ah);refine ACu rfl (ALx (H2.ext Ag.x) Bh) fun Di Dj Bi Bj=>?_;subst Bj;refine AF8 rfl (ABo ?_);have Ai:=Ag.e Bi;refine ⟨_,rfl,fun Aj=>?_,fun Aj=>?_⟩
  ·refine ABi (ACd (ACd (ABp (ABr (AB0 ?_)))));have Ad:=Kst.anil2 cZ 112 109 (Kst.anil2 (cI .i64) 23 2 Ai);obtain rfl:=ABk (ifT A3 Aj);exact ⟨_,AQ3,Ad.x,_,_,_,_,_,_,_,_,rfl,(Ad.o2 p1),(Ad.o2 p0),Ad.s.sel [1,0] (by decide)⟩
  ·refine ABs (q_t (ABi (Wk ?_)));obtain ⟨Bl,Bm,Bn⟩:=ABl (AIz A3 Aj);refine ACu rfl (AMa (H2.ext Ai.x) Bm) fun Bo Dk Bp Bq=>?_;obtain ⟨Dl,Br,Bt,Bu,rfl,Bv,Bw⟩:=Bq;refine ACq (Wk (ADg AD8 rfl H2 ?_));obtain ⟨⟨Bx,Dn⟩,By,A4⟩:=ABl Bn;dsimp only at A4;refine ACu rfl (AKy By) fun Do Dp Bz B1=>?_;obtain ⟨B2,B3,B4,B5,rfl,B6,B7⟩:=B1;refine Wk (ACz rfl rfl (ACz rfl rfl (ACd (ABp (ABq ?_)))));have A5:=(Ai.no2 Bp Bw Bv).no2 Bz B7 B6;obtain ⟨A6,B8,B9⟩:=ABl A4;obtain ⟨Ca,Cb,Cd⟩:=ACg B8;refine ACi 562949416558300 (fun x:(LiI) × (Value) × LnA × LnN × LvA × (LiI) × (Value) × LnA × LnN × LvA=>[(6,x.2.1),(7,x.2.2.2.2.2.2.1)]) (fun k x h'=>iter Ca k (x.1,x.2.2.2.2.2.1)=some A6/\Kst h h' ((A5.L.set 1 (aO2 cZ 112 109 x.2.2.1 x.2.2.2.1 x.2.2.2.2.1 x.2.1 x.1)).set 0 (aO2 cZ 112 109 x.2.2.2.2.2.2.2.1 x.2.2.2.2.2.2.2.2.1 x.2.2.2.2.2.2.2.2.2 x.2.2.2.2.2.2.1 x.2.2.2.2.2.1))) (by kernel_rfl) fuel ((Bl,Bo,Br,Bt,Bu,Bx,B2,B3,B4,B5):(LiI) × (Value) × LnA × LnN × LvA × (LiI) × (Value) × LnA × LnN × LvA) ?_ ⟨rfl,rfl,trivial⟩ ?_
   ·exact ⟨Cd,A5⟩
   rintro Dq ⟨Dr,Ds,Dt,Du,Dv,Dw,Dx,Dy,Dz,D0⟩ D1 D2 ⟨Ce,A7⟩;obtain ⟨Cf,D3,rfl,Ae,Ak⟩:=AB3 Ce;rw [Cb] at Ae;dsimp only at Ae;unfold AI7 at Ae;refine ABq (ABi (Wk ?_));obtain ⟨⟨D4,D5⟩,Cg,Am⟩:=ABl Ae;dsimp only at Am;refine ACu rfl (AQq (A7.o2 p1).rd Cg) fun D6 D7 Ch Ci=>?_;obtain ⟨D8,D9,Ea,Eb,rfl,Cj,Ck⟩:=Ci;refine Wk (ACz rfl rfl (ACz rfl rfl (ACd (ABp (ABm (ABi (Wk (AF8 rfl (ABo ?_)))))))));have Aa:=A7.no2 Ch Ck Cj;refine ⟨_,rfl,fun Ao=>?_,fun Ao=>?_⟩
   ·refine ABi (Wk ?_);obtain ⟨⟨Ec,Ed⟩,Cm,A8⟩:=ABl (ifT Am Ao);dsimp only at A8;refine ACu rfl (APh (Aa.o2 p2).rd Cm) fun Ee Ef Cn Co=>?_;obtain ⟨Eg,Eh,Ei,Ej,rfl,Cp,Cq⟩:=Co;refine Wk (ACz rfl rfl (ACz rfl rfl (ACd (ACq (Wk (Wk (ACd (ACd (ABp ?_)))))))));have Af:=Aa.no2 Cn Cq Cp;obtain rfl:=ABk A8;change _=A6 at Ak;subst Ak;refine ABr (AB0 (ADn (AB0 (ADn ?_))));obtain rfl:=ABk B9;exact ⟨_,AQ3,Af.x,_,_,_,_,_,_,_,_,rfl,(Af.o2 p0),(Af.o2 p2),Af.s.sel [0,2] (by decide)⟩
   ·refine ABs (q_t (ABw (Wk (Wk ?_))));obtain ⟨Cr,Ct,Cu⟩:=ABl (AIz Am Ao);refine ACu rfl (AN5 (Aa.o2 p2).rd (Aa.o2 p0).rd Ct) fun Cv Ek Cw Cx=>?_;obtain ⟨El,Cy,Cz,C0,rfl,C1,C2⟩:=Cx;refine Wk (Wk ?_);have Ap:=Aa.no2 Cw C2 C1;obtain ⟨C3,C4,C5⟩:=ABl Cu;refine ACu rfl (AIn (Ap.o2 p2).rd (Ap.o2 p1).rd C4) fun C6 Em C7 C8=>?_;obtain ⟨En,C9,Da,Db,rfl,Dc,Dd⟩:=C8;refine ACd (ACd (ACl (q_b (q_t ?_))));obtain rfl:=ABk C5;exact ⟨Cf,((Cr,Cv,Cy,Cz,C0,C3,C6,C9,Da,Db):(LiI) × (Value) × LnA × LnN × LvA × (LiI) × (Value) × LnA × LnN × LvA),Nat.lt_succ_self _,⟨Ak,(Ap.no2 C7 Dd Dc).sel [0,1] (by decide)⟩,rfl,rfl,trivial⟩
def AIq (fuel:Nat) (a3:LiI) (x5:LiA) (Ab Aa:Int):Option ((Int) ⊕ ((Bool) ⊕ (Unit))):=
  (if Aa < Ab then ((AFo fuel a3 x5 Ab Aa).bind fun Ae=>(if (!Ae)=true then (some (Sum.inr<| Sum.inl <| false)) else (some (Sum.inl (w64 (Aa + 1)))))) else (some (Sum.inr<| Sum.inr <| ())))
def AIr (fuel:Nat) (a3:LiI) (x5:LiA) (Aa:Int):Option ((Int) ⊕ ((Bool) ⊕ (Unit))):=
  (if Aa < (a3.length:Int) then ((iter (fun s=>AIq fuel a3 x5 Aa s) fuel 0).bind (fun ex=>match ex with | Sum.inl Ad=>(some (Sum.inr<| Sum.inl <| Ad)) | Sum.inr (_)=>(if 0 < Aa then ((AFc fuel a3 x5 Aa).bind fun Ae=>(if (!Ae)=true then (some (Sum.inr<| Sum.inl <| false)) else (some (Sum.inl (w64 (Aa + 1)))))) else (some (Sum.inl (w64 (Aa + 1))))))) else (some (Sum.inr<| Sum.inr <| ())))
def AF2 (fuel:Nat) (a3:LiI):Option Bool:=
  ((AEc fuel a3).bind fun (x5,x6)=>((iter (fun s=>AIr fuel a3 x5 s) fuel 0).bind (fun ex=>match ex with | Sum.inl Ac=>(some Ac) | Sum.inr (_)=>(some true))))
theorem AO5 {fuel:Nat} {h:ABh} {Av:Value} {a3:LiI} {r:Bool} (H2:AFl cZ h Av a3) (hp:AF2 fuel a3=some r):AB7 Tryz.prog 106 #[Av] h (fun x h'=>Ext h h'/\x= .bool r):=by
 unfold AF2 at hp;refine cwf (l:=[_]) Tryz.func106 rfl rfl (ABi (ACq (Wk ?_)));have K0:=Kst.k0 h;obtain ⟨⟨x5,x6⟩,A8,Ay⟩:=ABl hp;dsimp only at Ay;refine ACu rfl (AIp (H2.ext K0.x) A8) fun B1 B2 E9 Ba=>?_;obtain ⟨B3,B4,rfl,Bb,Bc⟩:=Ba;refine Wk (ACz rfl rfl (ACz rfl rfl (ACd (ABp (ABm (ABi (Wk (ADg AD8 rfl H2 (Wk (ABo (ABq ?_)))))))))));have Az:=K0.no E9 Bc Bb;obtain ⟨Ag,Be,Ai⟩:=ABl Ay;obtain ⟨Bf,Bg,Bh⟩:=ACg Be;refine ACi 274877890660 (fun x:(Int)=>[(14,(.int .i64 x))]) (fun k x h'=>iter Bf k x=some Ag/\Kst h h' (Az.L)) (by kernel_rfl) fuel (0:(Int)) ?_ ⟨rfl,trivial⟩ ?_
 ·exact ⟨Bh,Az⟩
 rintro B5 Aj B6 B7 ⟨Bi,Ak⟩;obtain ⟨A3,B8,rfl,Ac,Aa⟩:=AB3 Bi;rw [Bg] at Ac;dsimp only at Ac;unfold AIr at Ac;refine ABi (ACx rfl rfl (ABo (ABm (⟨_,rfl,fun Am=>?_,fun Am=>?_⟩))))
 ·refine ABs (q_t (ABm (ABq (ABi (Wk (ABp (ABm (ABi (ABp (ABq ?_))))))))));obtain ⟨Ao,Bj,Ap⟩:=ABl (AC1 Ac Am);obtain ⟨Bl,Bm,Bn⟩:=ACg Bj;refine ACi 268304452 (fun x:(Int)=>[(6,(.int .i64 x))]) (fun k x h'=>iter Bl k x=some Ao/\Kst h h' (Ak.L)) (by kernel_rfl) fuel (0:(Int)) ?_ ⟨rfl,trivial⟩ ?_
  ·exact ⟨Bn,Ak⟩
  rintro B9 Bo Ca Cb ⟨Bp,Ab⟩;obtain ⟨Bq,Cd,rfl,Ad,Ae⟩:=AB3 Bp;rw [Bm] at Ad;dsimp only at Ad;unfold AIq at Ad;refine ABm (ABi (Wk (Wk (ACx rfl rfl (ABo (⟨_,rfl,fun Aq=>?_,fun Aq=>?_⟩))))))
  ·refine ABs (q_t (ABm (ABq (ABi (Wk (Wk (Wk (Wk ?_))))))));obtain ⟨Ce,Br,A4⟩:=ABl (AC1 Ad Aq);refine ACu rfl (ALw (H2.ext Ab.x) (Ab.o p0).rd Br) fun Cf Cg Bt Bu=>?_;subst Bu;refine AF8 rfl (ABo ?_);have A5:=Ab.e Bt;refine ⟨_,rfl,fun Ar=>?_,fun Ar=>?_⟩
   ·refine ABi (ABp ?_);obtain rfl:=ABk (ifT A4 Ar);change _=Ao at Ae;subst Ae;obtain rfl:=ABk Ap;change _=Ag at Aa;subst Aa;refine ABr (ADn (AB0 (AB0 (ADn (AB0 (ADn (AB0 (AB0 (ADn (AB0 ?_))))))))));obtain rfl:=ABk Ai;exact ⟨_,ABt,A5.x,rfl⟩
   ·refine ABs (q_b (q_t (ABw (Wk (ACy rfl rfl (ABp ?_))))));obtain rfl:=ABk (AIz A4 Ar);exact ⟨Bq,((w64 (Bo + 1)):(Int)),Nat.lt_succ_self _,⟨Ae,A5⟩,rfl,trivial⟩
  ·obtain rfl:=ABk (AC2 Ad Aq);change _=Ao at Ae;subst Ae;refine ACb (AB9 (AB9 (ADj (q_t (ABi (Wk (AIm rfl rfl (Wk ?_))))))));by_cases Ah:0 < Aj
   ·rw [decide_eq_true Ah];refine ACk 30 true (Wk (ACk 30 true (Wk (ACk 30 true (Wk (ACk 30 true ?_))))));obtain ⟨Ch,Bv,A6⟩:=ABl (ifT Ap Ah);refine ACu rfl (ALl (H2.ext Ab.x) (Ab.o p0).rd Bv) fun Ci Cj Bw Bx=>?_;subst Bx;refine ACk 30 true (AF8 rfl (ABy rfl (ABo ?_)));have A7:=Ab.e Bw;refine ⟨_,rfl,fun Au=>?_,fun Au=>?_⟩
    ·refine ABi (ABp ?_);obtain rfl:=ABk (ifT A6 Au);change _=Ag at Aa;subst Aa;refine ABr (ADn (AB0 (AB0 (ADn (AB0 ?_)))));obtain rfl:=ABk Ai;exact ⟨_,ABt,A7.x,rfl⟩
    ·refine ABs (q_b (q_t (ABw (ACy rfl rfl (Wk (ABo ?_))))));obtain rfl:=ABk (AIz A6 Au);exact ⟨A3,((w64 (Aj + 1)):(Int)),Nat.lt_succ_self _,⟨Aa,A7⟩,rfl,trivial⟩
   ·rw [decide_eq_false Ah];refine ALh 30 false (ABu rfl (ABo (ACc rfl (ABs (q_b (q_t (ABw (ACy rfl rfl (Wk (ABo ?_))))))))));obtain rfl:=ABk (ifF Ap Ah);exact ⟨A3,((w64 (Aj + 1)):(Int)),Nat.lt_succ_self _,⟨Aa,Ab⟩,rfl,trivial⟩
 ·obtain rfl:=ABk (AC2 Ac Am);change _=Ag at Aa;subst Aa;refine ACb (AB9 (AB9 (ADj (q_t (ABi (ABp (ABr ?_)))))));obtain rfl:=ABk Ai;exact ⟨_,ABt,Ak.x,rfl⟩
def AEk (fuel:Nat) (a3:LiI):Option Bool:=
  ((ADm fuel a3).bind fun (x5,x6)=>(if x6=true then ((ADw fuel x5).bind fun Ad=>(if Ad=0 then ((AFp fuel x5).bind fun Ae=>(if Ae=true then ((AF2 fuel x5).bind fun Af=>(some Af)) else (some false))) else (some false))) else (some false)))
theorem AN6 {fuel:Nat} {h:ABh} {Af:Value} {a3:LiI} {r:Bool} (H2:AFl (cI .i64) h Af a3) (hp:AEk fuel a3=some r):AB7 Tryz.prog 77 #[Af] h (fun x h'=>Ext h h'/\x= .bool r):=by
 unfold AEk at hp;refine cwf (l:=[_]) Tryz.func77 rfl rfl (ABi (ACq (Wk ?_)));have K0:=Kst.k0 h;obtain ⟨⟨x5,x6⟩,Aq,Ab⟩:=ABl hp;dsimp only at Ab;refine ACu rfl (AKx (H2.ext K0.x) Aq) fun Be Bf E9 Au=>?_;obtain ⟨Bg,Bh,Bi,Bj,rfl,Av,Aw⟩:=Au;refine Wk (ACz rfl rfl (ACz rfl rfl (ACd (ACq (Wk (Wk ?_))))));have Ac:=K0.no2 E9 Aw Av;cases Ai:x6
 ·refine AJx 11 false (ABu rfl (Wk (AF9 16 false (ABu rfl (Wk (AF9 20 false (ABu rfl (ABp (ABr ?_)))))))));obtain rfl:=ABk (AIz Ab Ai);exact ⟨_,ABt,Ac.x,rfl⟩
 ·refine ACk 11 true (Wk (ACk 11 true ?_));obtain ⟨Ax,Ay,Aj⟩:=ABl (ifT Ab Ai);refine ACu rfl (AIb (Ac.o2 p0).rd Ay) fun Bl Bm Az A3=>?_;subst A3;refine ACk 11 true (ADo rfl rfl (ABy rfl (Wk ?_)));have Ad:=Ac.e Az;by_cases Aa:Ax=0
  ·rw [decide_eq_true Aa];refine ACk 16 true (Wk (ACk 16 true ?_));obtain ⟨A4,A5,Ak⟩:=ABl (ifT Aj Aa);refine ACu rfl (ALx (Ad.o2 p0).rd A5) fun Bn Bo A6 A7=>?_;subst A7;refine ABy rfl (Wk ?_);have Ae:=Ad.e A6;cases Am:A4
   ·refine AF9 20 false (ABu rfl (ABp (ABr ?_)));obtain rfl:=ABk (AIz Ak Am);exact ⟨_,ABt,Ae.x,rfl⟩
   ·refine ACk 20 true (Wk (ACk 20 true ?_));obtain ⟨Bp,A8,A9⟩:=ABl (ifT Ak Am);refine ACu rfl (AO5 (Ae.o2 p0).rd A8) fun Bq Br Ba Bb=>?_;subst Bb;refine ABy rfl (ABp (ABr ?_));obtain rfl:=ABk A9;exact ⟨_,ABt,(Ae.e Ba).x,rfl⟩
  ·rw [decide_eq_false Aa];refine AF9 16 false (ABu rfl (Wk (AF9 20 false (ABu rfl (ABp (ABr ?_))))));obtain rfl:=ABk (ifF Aj Aa);exact ⟨_,ABt,Ad.x,rfl⟩
end Go.Proofs.YtiegjkmfpcgjjaaGreatDoor
namespace Go.QF
open Go
def Ok {α:Type} (o:Option α) (Q:α->Prop):Prop:= ∃ r,o=some r/\Q r
theorem ABj {α:Type} {a:α} {Q:α->Prop} (h:Q a):Ok (some a) Q:=⟨a,rfl,h⟩
theorem ABn {α β:Type} {o:Option α} {f:α->Option β} {Q:α->Prop} {R:β->Prop} (h:Ok o Q) (k:∀ x,Q x->Ok (f x) R):Ok (o.bind f) R:=by
 obtain ⟨x,rfl,hx⟩:=h;exact k x hx
theorem AB5 {c:Prop} [Decidable c] {α:Type} {a b:Option α} {R:α->Prop} (ht:c->Ok a R) (hf: ¬ c->Ok b R):Ok (if c then a else b) R:=by
 by_cases h:c
 ·rw [if_pos h];exact ht h
 ·rw [if_neg h];exact hf h
theorem AEo {c:Prop} [Decidable c] {α:Type} {a:Option α} {R:α->Prop} (hc:c) (h:Ok a R):Ok (if c then a else none) R:=by rw [if_pos hc];exact h
theorem Aop {α:Type} {o:Option α} {Q R:α->Prop} (h:Ok o Q) (k:∀ x,Q x->R x):Ok o R:=let ⟨x,h1,h2⟩:=h;⟨x,h1,k x h2⟩
theorem ok_eq {α:Type} {o:Option α} {a:α} (h:Ok o (· =a)):o=some a:=by obtain ⟨x,h1,rfl⟩:=h;exact h1
theorem AC6 {α:Type} {o:Option α} {a:α} (h:o=some a):Ok o (· =a):=⟨a,h,rfl⟩
theorem ACa {α β:Type} {L:List α} {i:Int} {n:Nat} {x:α} {f:α->Option β} {R:β->Prop} (hx:L[n]? =some x) (hi:i=n) (k:Ok (f x) R):Ok ((gI L i).bind f) R:=by
 subst hi;unfold gI;rw [if_pos (by omega),Int.toNat_natCast,hx];exact k
theorem AC0 {S E:Type} {body:S->Option (S ⊕ E)} {fuel:Nat} {s0:S} (I:Nat->S->Prop) (n:Nat) {Q:E->Prop} (h0:I 0 s0) (hf:n < fuel) (hs:∀ i s,i<=n->I i s->Ok (body s) fun r=>match r with | .inl s'=>i < n/\I (i + 1) s' | .inr e=>Q e):Ok (iter body fuel s0) Q:=by
  have key:∀ k fuel i s,n - i=k->k < fuel->i<=n->I i s->Ok (iter body fuel s) Q:=by
    intro k;induction k with
    | zero=>
      intro fuel i s hk hf hi hI;obtain ⟨r,hr,hq⟩:=hs i s hi hI;cases fuel with
      | zero=>omega
      | succ f=>
        cases r with
        | inl s'=>simp at hq;omega
        | inr e=>exact ⟨e,by simp [iter,hr],hq⟩
    | succ k ih=>
      intro fuel i s hk hf hi hI;obtain ⟨r,hr,hq⟩:=hs i s hi hI;cases fuel with
      | zero=>omega
      | succ f=>
        cases r with
        | inl s'=>
          obtain ⟨e,he,hQ⟩:=ih f (i + 1) s' (by omega) (by omega) (by omega) hq.2;exact ⟨e,by simp [iter,hr,he],hQ⟩
        | inr e=>exact ⟨e,by simp [iter,hr],hq⟩
  exact key n fuel 0 s0 (by omega) hf (by omega) h0
theorem AGd {x:Int} (h1: -9223372036854775808<=x) (h2:x<=9223372036854775807):w64 x=x:=by
 show IntKind.i64.wrap x=x;rw [IntKind.wrap_i64];omega
theorem wk {x:Int} (h: -9223372036854775808<=x/\x<=9223372036854775807):w64 x=x:=AGd h.1 h.2
def AD6 {α:Type} (m:Nat) (f:Nat->α):List α:=(List.range m).map f
theorem ADb {α:Type} (m:Nat) (f:Nat->α):(AD6 m f).length=m:=by simp [AD6]
theorem ACo {α:Type} {m:Nat} {f:Nat->α} {j:Nat} (h:j < m):(AD6 m f)[j]? =some (f j):=by simp [AD6,h]
theorem AC7 {α:Type} {m:Nat} {f g:Nat->α} (h:∀ j,j < m->f j=g j):AD6 m f=AD6 m g:=by
 unfold AD6;exact List.map_congr_left fun j hj=>h j (List.mem_range.1 hj)
theorem AFt {α:Type} {m j:Nat} {f:Nat->α} {x:α}:(AD6 m f).set j x=AD6 m fun c=>if c=j then x else f c:=by
 apply List.ext_getElem?;intro i;rw [List.getElem?_set];by_cases h:j=i
 ·subst h;simp only [if_true,ADb];by_cases hj:j < m
  ·simp [hj,ACo hj]
  ·simp [hj,AD6]
 ·rw [if_neg h];by_cases hi:i < m
  ·rw [ACo hi,ACo hi,if_neg (fun he=>h he.symm)]
  ·simp [AD6,hi]
theorem AM5 {α:Type} (m:Nat) (f:Nat->α):AD6 m f ++ [f m]=AD6 (m + 1) f:=by simp [AD6,List.range_succ]
theorem AHz {α:Type} (m:Nat) (a:α):List.replicate m a=AD6 m fun _=>a:=by
 apply List.ext_getElem?;intro i;by_cases h:i < m
 ·rw [ACo h];simp [h]
 ·simp [AD6,h]
theorem ANr (r c:Nat) (F:Nat->Nat->Int):tab r c F=AD6 r fun i=>AD6 c (F i):=rfl
theorem ADc {r c:Nat} {F:Nat->Nat->Int} {i:Nat} (h:i < r):(tab r c F)[i]? =some (AD6 c (F i)):=ACo (f:=fun i=>AD6 c (F i)) h
theorem Alf {r c i j:Nat} {F:Nat->Nat->Int} {x:Int}:(tab r c F).set i (AD6 c fun q=>if q=j then x else F i q)=tab r c (ADe F i fun q=>if q=j then x else F i q):=AHr
theorem AD1 {α:Type} (L:List α) (n:Nat) (x:α):sI L (n:Int) x=L.set n x:=by simp [sI]
end Go.QF
namespace Go.QF
theorem AVt (F:Nat->Nat->Int) (i:Nat) (f g:Nat->Int):ADe (ADe F i f) i g=ADe F i g:=by
 funext k;by_cases h:k=i
 ·subst h;rw [AC5,AC5]
 ·rw [AD4 _ _ h,AD4 _ _ h,AD4 _ _ h]
theorem AM6 (F:Nat->Nat->Int) (i:Nat):ADe F i (F i)=F:=by
 funext k;by_cases h:k=i
 ·subst h;rw [AC5]
 ·rw [AD4 _ _ h]
theorem ALy (f g:Nat->Int) (n:Nat):psum (fun i=>f i + g i) n=psum f n + psum g n:=by
 induction n with
 | zero=>rfl
 | succ n ih=>simp only [psum];rw [ih];omega
theorem AD2 (c:Int) (f:Nat->Int) (n:Nat):psum (fun i=>c * f i) n=c * psum f n:=by
 induction n with
 | zero=>simp [psum]
 | succ n ih=>simp only [psum];rw [ih,Int.mul_add]
theorem AOr (n:Nat):psum (fun _=>0) n=0:=by
 induction n with
 | zero=>rfl
 | succ n ih=>simp only [psum];rw [ih];rfl
theorem AM7 (f:Nat->Nat->Int) (n m:Nat):psum (fun i=>psum (fun j=>f i j) m) n=psum (fun j=>psum (fun i=>f i j) n) m:=by
 induction n with
 | zero=>simp only [psum];exact (AOr m).symm
 | succ n ih=>
   simp only [psum]
   rw [ih,<- ALy]
theorem AYe {f g:Nat->Int} {n a:Nat} (ha:a < n) (h:∀ i,i≠a->g i=f i):psum g n=psum f n + (g a - f a):=by
  induction n with
  | zero=>omega
  | succ n ih=>
    simp only [psum]
    by_cases hn:a=n
    · subst hn;rw [ABz (f:=g) (g:=f) (fun k hk=>h k (by omega))];omega
    · rw [ih (by omega),h n (fun he=>hn he.symm)];omega
theorem AF3 {f:Nat->Int} {n a:Nat} (ha:a < n) (h:∀ i,i≠a->f i=0):psum f n=f a:=by
 rw [AYe (f:=fun _=>0) ha h,AOr];omega
def Eqm (m a b:Int):Prop:=a % m=b % m
theorem Eqm.refl (m a:Int):Eqm m a a:=rfl
theorem Eqm.of_eq {m a b:Int} (h:a=b):Eqm m a b:=h ▸ rfl
theorem Eqm.symm {m a b:Int} (h:Eqm m a b):Eqm m b a:=Eq.symm h
theorem Eqm.trans {m a b c:Int} (h:Eqm m a b) (k:Eqm m b c):Eqm m a c:=Eq.trans h k
theorem Eqm.add {m a b c d:Int} (h:Eqm m a b) (k:Eqm m c d):Eqm m (a + c) (b + d):=by
 unfold Eqm at *;rw [Int.add_emod,h,k,<- Int.add_emod]
theorem Eqm.sub {m a b c d:Int} (h:Eqm m a b) (k:Eqm m c d):Eqm m (a - c) (b - d):=by
 unfold Eqm at *;rw [Int.sub_emod,h,k,<- Int.sub_emod]
theorem Eqm.mul {m a b c d:Int} (h:Eqm m a b) (k:Eqm m c d):Eqm m (a * c) (b * d):=by
 unfold Eqm at *;rw [Int.mul_emod,h,k,<- Int.mul_emod]
theorem Eqm.mod (m a:Int):Eqm m (a % m) a:=Int.emod_emod_of_dvd a (Int.dvd_refl m)
theorem Eqm.psum {m:Int} {f g:Nat->Int} {n:Nat} (h:∀ i,i < n->Eqm m (f i) (g i)):Eqm m (psum f n) (psum g n):=by
 induction n with
 | zero=>rfl
 | succ n ih=>exact (ih fun i hi=>h i (by omega)).add (h n (by omega))
def comb (r:Nat) (y:Nat->Int) (F:Nat->Nat->Int) (q:Nat):Int:=psum (fun i=>y i * F i q) r
def AVu (y:Nat->Int) (a:Nat) (t:Int):Nat->Int:=fun i=>if i=a then t else y i
theorem AHf (y:Nat->Int) (a:Nat) (t:Int):AVu y a t a=t:=if_pos rfl
theorem AIc (y:Nat->Int) {a i:Nat} (t:Int) (h:i≠a):AVu y a t i=y i:=if_neg h
theorem AS9 {r a:Nat} {y:Nat->Int} {F:Nat->Nat->Int} {g:Nat->Int} {q:Nat} (ha:a < r):comb r y (ADe F a g) q=comb r y F q + y a * (g q - F a q):=by
 unfold comb;rw [AYe (f:=fun i=>y i * F i q) ha (fun i hi=>by rw [AD4 _ _ hi]),AC5,Int.mul_sub]
theorem ATa {r a:Nat} {y:Nat->Int} {t:Int} {F:Nat->Nat->Int} {q:Nat} (ha:a < r):comb r (AVu y a t) F q=comb r y F q + (t - y a) * F a q:=by
 unfold comb;rw [AYe (f:=fun i=>y i * F i q) ha (fun i hi=>by rw [AIc _ _ hi]),AHf,Int.sub_mul]
theorem Ac2 {r:Nat} {m:Int} {y y':Nat->Int} {F:Nat->Nat->Int} {q:Nat} (h:∀ i,i < r->Eqm m (y i) (y' i)):Eqm m (comb r y F q) (comb r y' F q):=
  Eqm.psum fun i hi=>(h i hi).mul (Eqm.refl _ _)
theorem Aio {r a:Nat} {F:Nat->Nat->Int} {q:Nat} (ha:a < r):comb r (AVu (fun _=>0) a 1) F q=F a q:=by
 unfold comb;rw [AF3 ha (fun i hi=>by rw [AIc _ _ hi];simp),AHf];simp
def AOi (r c:Nat) (m:Int) (F F':Nat->Nat->Int):Prop:=
  (∀ y',∃ y,(∀ q,q < c->Eqm m (comb r y' F' q) (comb r y F q))/\((∀ i,i < r->Eqm m (y i) 0)-> ∀ i,i < r->Eqm m (y' i) 0))/\
  (∀ y,∃ y',∀ q,q < c->Eqm m (comb r y F q) (comb r y' F' q))
theorem AOi.refl (r c:Nat) (m:Int) (F:Nat->Nat->Int):AOi r c m F F:=⟨fun y=>⟨y,fun _ _=>rfl,fun h=>h⟩,fun y=>⟨y,fun _ _=>rfl⟩⟩
theorem AOi.trans {r c:Nat} {m:Int} {F G H:Nat->Nat->Int} (h:AOi r c m F G) (k:AOi r c m G H):AOi r c m F H:=by
 refine ⟨fun y2=>?_,fun y0=>?_⟩
 ·obtain ⟨y1,e1,z1⟩:=k.1 y2;obtain ⟨y0,e0,z0⟩:=h.1 y1;exact ⟨y0,fun q hq=>(e1 q hq).trans (e0 q hq),fun hz=>z1 (z0 hz)⟩
 ·obtain ⟨y1,e1⟩:=h.2 y0;obtain ⟨y2,e2⟩:=k.2 y1;exact ⟨y2,fun q hq=>(e1 q hq).trans (e2 q hq)⟩
theorem Afk {r c a b:Nat} {m:Int} {F:Nat->Nat->Int} (ha:a < r) (hb:b < r):AOi r c m F (AFk F a b):=by
 by_cases hab:a=b
 ·subst hab
  have:AFk F a a=F:=by
    funext k
    by_cases hk:k=a
    · subst hk;rw [AUk]
    · rw [ASl _ hk hk]
  rw [this];exact AOi.refl _ _ _ _
 ·have key:∀ y q,comb r y (AFk F a b) q=comb r (AVu (AVu y a (y b)) b (y a)) F q:=by
    intro y q
    unfold AFk
    rw [AS9 hb,AS9 ha,AD4 _ _ (Ne.symm hab),ATa hb,ATa ha,AIc _ _ (Ne.symm hab)]
    grind
  refine ⟨fun y'=>⟨_,fun q _=>Eqm.of_eq (key y' q),fun hz i hi=>?_⟩,fun y=>⟨AVu (AVu y a (y b)) b (y a),fun q _=>Eqm.of_eq ?_⟩⟩
  ·by_cases h1:i=a
   ·subst h1;have:=hz b hb;rw [AHf] at this;exact this
   ·by_cases h2:i=b
    ·subst h2;have:=hz a ha;rw [AIc _ _ hab,AHf] at this;exact this
    ·have:=hz i hi;rw [AIc _ _ h2,AIc _ _ h1] at this;exact this
  ·rw [key];congr 1;funext i;by_cases h1:i=b
   ·subst h1;rw [AHf,AIc _ _ hab,AHf]
   ·rw [AIc _ _ h1];by_cases h2:i=a
    ·subst h2;rw [AHf,AHf]
    ·rw [AIc _ _ h2,AIc _ _ h1,AIc _ _ h2]
theorem Ac3 {r c a:Nat} {m f g:Int} {F:Nat->Nat->Int} (ha:a < r) (hf:Eqm m (f * g) 1):AOi r c m F (ALp F a f m):=by
 have key:∀ y q,Eqm m (comb r y (ALp F a f m) q) (comb r (AVu y a (y a * f)) F q):=by
   intro y q
   unfold ALp
   rw [AS9 ha,ATa ha]
   refine (Eqm.refl _ _).add ?_
   refine ((Eqm.refl m (y a)).mul ((Eqm.mod m _).sub (Eqm.refl _ _))).trans (Eqm.of_eq ?_)
   grind
 refine ⟨fun y'=>⟨_,fun q _=>key y' q,fun hz i hi=>?_⟩,fun y=>⟨AVu y a (y a * g),fun q _=>((key _ q).trans (Ac2 fun i hi=>?_)).symm⟩⟩
 ·by_cases h1:i=a
  ·subst h1;have:=hz i ha;rw [AHf] at this;have h2:=this.mul (Eqm.refl m g);refine Eqm.trans ?_ (h2.trans (Eqm.of_eq (by omega)));refine Eqm.trans (Eqm.of_eq (show y' i=y' i * 1 by omega)) (((Eqm.refl m (y' i)).mul hf.symm).trans (Eqm.of_eq ?_));rw [Int.mul_assoc]
  ·have:=hz i hi;rw [AIc _ _ h1] at this;exact this
 ·by_cases h1:i=a
  ·subst h1;rw [AHf,AHf,Int.mul_assoc,Int.mul_comm g f];exact ((Eqm.refl m (y i)).mul hf).trans (Eqm.of_eq (by omega))
  ·rw [AIc _ _ h1,AIc _ _ h1];exact Eqm.refl _ _
theorem AZs {r c k top:Nat} {m e:Int} {F:Nat->Nat->Int} (hk:k < r) (ht:top < r) (hne:k≠top):AOi r c m F (ADe F k fun q=>(F k q + e * F top q) % m):=by
 have key:∀ y q,Eqm m (comb r y (ADe F k fun q=>(F k q + e * F top q) % m) q) (comb r (AVu y top (y top + y k * e)) F q):=by
   intro y q
   rw [AS9 hk,ATa ht]
   refine (Eqm.refl _ _).add ?_
   refine ((Eqm.refl m (y k)).mul ((Eqm.mod m _).sub (Eqm.refl _ _))).trans (Eqm.of_eq ?_)
   grind
 refine ⟨fun y'=>⟨_,fun q _=>key y' q,fun hz i hi=>?_⟩,fun y=>⟨AVu y top (y top - y k * e),fun q _=>((key _ q).trans (Ac2 fun i hi=>?_)).symm⟩⟩
 ·by_cases h1:i=top
  ·subst h1;have h2:=hz i ht;have h3:=hz k hk;rw [AHf] at h2;rw [AIc _ _ hne] at h3;have h4:=h2.sub (h3.mul (Eqm.refl m e));refine Eqm.trans (Eqm.of_eq ?_) (h4.trans (Eqm.of_eq ?_))
   ·omega
   ·simp
  ·have:=hz i hi;rw [AIc _ _ h1] at this;exact this
 ·by_cases h1:i=top
  ·subst h1;rw [AHf,AHf,AIc _ _ hne];exact Eqm.of_eq (by omega)
  ·rw [AIc _ _ h1,AIc _ _ h1];exact Eqm.refl _ _
theorem Afl {r c top j:Nat} {m:Int} {F:Nat->Nat->Int} (ht:top < r):∀ k,k<=r->AOi r c m F (AKe F top j m k):=by
 intro k
 induction k with
 | zero=>intro _;rw [AXo];exact AOi.refl _ _ _ _
 | succ k ih=>
   intro hk
   refine (ih (by omega)).trans ?_
   by_cases h:k=top
   · subst h;rw [Aez];exact AOi.refl _ _ _ _
   · rw [<- AXp h]
     have:=AZs (c:=c) (m:=m) (e:=m - F k j) (F:=AKe F top j m k) (k:=k) (top:=top) (by omega) ht h
     rw [Acb,AVk] at this
     exact this
theorem Afm {F:Nat->Nat->Int} {top j:Nat} {m:Int} {k i:Nat} (hi:i < k) (hne:i≠top) (q:Nat):AKe F top j m k i q=(F i q + (m - F i j) * F top q) % m:=by
 unfold AKe;rw [if_pos ⟨hi,hne⟩]
end Go.QF
namespace Go.QF
theorem Alg {f:Nat->Int} {k r:Nat} (hk:k<=r) (h:∀ i,k<=i->i < r->f i=0):psum f r=psum f k:=by
 induction r with
 | zero=>rw [Nat.le_zero.1 hk]
 | succ r ih=>
   rcases Nat.lt_or_ge k (r + 1) with h1 | h1
   · simp only [psum]
     rw [ih (by omega) (fun i h2 h3=>h i h2 (by omega)),h r (by omega) (by omega)];omega
   · obtain rfl:k=r + 1:=by omega
     rfl
def dl (a b:Nat):Int:=if a=b then 1 else 0
def skp (i a:Nat):Nat:=if a < i then a else a + 1
def usk (i r:Nat):Nat:=if r < i then r else r - 1
def sg (i:Nat):Int:=if i % 2=0 then 1 else -1
theorem Ag7 (i:Nat):sg (i + 1)= -sg i:=by unfold sg;split <;> split <;> first | omega | rfl
theorem Arh (i a:Nat):skp i a≠i:=by unfold skp;split <;> omega
theorem Alh {i a n:Nat} (ha:a < n):skp i a < n + 1:=by unfold skp;split <;> omega
theorem Aoq {i r:Nat} (h:r≠i):skp i (usk i r)=r:=by
 unfold usk;split <;> (unfold skp;split <;> omega)
theorem Aor {i a r:Nat} (h:skp i a=r):a=usk i r:=by unfold skp at h;unfold usk;split at h <;> split <;> omega
theorem Ali {i r n:Nat} (h:r≠i) (hi:i < n + 1) (hr:r < n + 1):usk i r < n:=by unfold usk;split <;> omega
theorem ACs (F:Nat->Nat->Int) (a:Nat) (g:Nat->Int) (i j:Nat):ADe F a g i j=if i=a then g j else F i j:=by
 unfold ADe;split <;> rfl
theorem AKl (F:Nat->Nat->Int) (a b i j:Nat):AFk F a b i j=if i=b then F a j else if i=a then F b j else F i j:=by
 unfold AFk;rw [ACs,ACs]
def AE2 (i:Nat) (F:Nat->Nat->Int):Nat->Nat->Int:=fun a b=>F (skp i a) (b + 1)
def det:Nat->(Nat->Nat->Int)->Int
  | 0,_=>1
  | n + 1,F=>psum (fun i=>sg i * F i 0 * det n (AE2 i F)) (n + 1)
theorem ADf:∀ {n:Nat} {F G:Nat->Nat->Int},(∀ i j,i < n->j < n->F i j=G i j)->det n F=det n G:=by
 intro n
 induction n with
 | zero=>intro _ _ _;rfl
 | succ n ih=>
   intro F G h
   refine ABz fun i hi=>?_
   rw [h i 0 hi (by omega),ih (F:=AE2 i F) (G:=AE2 i G) fun a b ha hb=>h _ _ (Alh ha) (by omega)]
theorem ARp {i r:Nat} {F:Nat->Nat->Int} {g:Nat->Int} (h:r≠i):AE2 i (ADe F r g)=ADe (AE2 i F) (usk i r) (fun b=>g (b + 1)):=by
 funext a b;unfold AE2 ADe;by_cases ha:skp i a=r
 ·rw [if_pos ha,if_pos (Aor ha)]
 ·rw [if_neg ha,if_neg (fun he=>ha (by rw [he,Aoq h]))]
theorem AR0 {i:Nat} {F:Nat->Nat->Int} {g:Nat->Int}:AE2 i (ADe F i g)=AE2 i F:=by
 funext a b;unfold AE2;rw [AD4 _ _ (Arh i a)]
theorem ARq:∀ {n:Nat} {F:Nat->Nat->Int} {r:Nat} (u v:Nat->Int) (c d:Int),r < n->det n (ADe F r fun q=>c * u q + d * v q)=c * det n (ADe F r u) + d * det n (ADe F r v):=by
 intro n
 induction n with
 | zero=>intro _ _ _ _ _ _ h;omega
 | succ n ih=>
   intro F r u v c d hr
   simp only [det]
   rw [<- AD2,<- AD2,<- ALy]
   refine ABz fun i hi=>?_
   by_cases h:r=i
   · subst h
     simp only [AR0,AC5]
     grind
   · rw [ARp h,ARp h,ARp h,AD4 _ _ (Ne.symm h),AD4 _ _ (Ne.symm h),AD4 _ _ (Ne.symm h),ih (fun b=>u (b + 1)) (fun b=>v (b + 1)) c d (Ali h hi hr)]
     grind
theorem Alj {f:Nat->Int} {n r s:Nat} (hr:r < n) (hs:s < n) (hrs:r≠s) (h:∀ i,i < n->i≠r->i≠s->f i=0):psum f n=f r + f s:=by
 have h1:psum f n=psum (fun i=>(if i=r then f r else 0) + (if i=s then f s else 0)) n:=ABz fun i hi=>by
   by_cases h1:i=r
   · subst h1;rw [if_pos rfl,if_neg hrs];omega
   · rw [if_neg h1]
     by_cases h2:i=s
     · subst h2;rw [if_pos rfl];omega
     · rw [if_neg h2,h i hi h1 h2];rfl
 rw [h1,ALy,AF3 (f:=fun i=>if i=r then f r else 0) hr (fun i hi=>if_neg hi),AF3 (f:=fun i=>if i=s then f s else 0) hs (fun i hi=>if_neg hi),if_pos rfl,if_pos rfl]
theorem Ag8:∀ {n:Nat} {F:Nat->Nat->Int} {r:Nat},r + 1 < n->(∀ q,q < n->F r q=F (r + 1) q)->det n F=0:=by
 intro n
 induction n with
 | zero=>intro _ _ h;omega
 | succ n ih=>
   intro F r hr h
   simp only [det]
   rw [Alj (r:=r) (s:=r + 1) (by omega) (by omega) (by omega)]
   · have:det n (AE2 r F)=det n (AE2 (r + 1) F):=ADf fun a b ha hb=>by
       unfold AE2 skp
       by_cases h1:a < r
       · rw [if_pos h1,if_pos (by omega)]
       · rw [if_neg h1]
         by_cases h2:a < r + 1
         · rw [if_pos h2]
           obtain rfl:a=r:=by omega
           exact (h (b + 1) (by omega)).symm
         · rw [if_neg h2]
     rw [this,Ag7,h 0 (by omega)]
     grind
   · intro i hi h1 h2
     rcases Nat.lt_or_ge i r with hlt | hge
     · rw [ih (F:=AE2 i F) (r:=r - 1) (by omega)]
       · simp
       · intro q hq
         unfold AE2 skp
         rw [if_neg (by omega),if_neg (by omega),show r - 1 + 1=r by omega]
         exact h (q + 1) (by omega)
     · rw [ih (F:=AE2 i F) (r:=r) (by omega)]
       · simp
       · intro q hq
         unfold AE2 skp
         rw [if_pos (by omega),if_pos (by omega)]
         exact h (q + 1) (by omega)
theorem AOs {F:Nat->Nat->Int} {a b:Nat} (h:a≠b) (u v:Nat->Int):ADe (ADe F a u) b v=ADe (ADe F b v) a u:=by
 funext k;unfold ADe;by_cases h1:k=a <;> by_cases h2:k=b
 ·omega
 ·simp [h1,h]
 ·simp [h2,Ne.symm h]
 ·simp [h1,h2]
theorem Ac4 {n:Nat} {F:Nat->Nat->Int} {a b:Nat} (ha:a < n) (hb:b < n) (hab:a≠b) (h0:∀ G:Nat->Nat->Int,G a=G b->det n G=0):det n (AFk F a b)= -det n F:=by
  have key:∀ u v:Nat->Int,det n (ADe (ADe F a u) b v)= -det n (ADe (ADe F a v) b u):=by
    intro u v;have h1:=h0 (ADe (ADe F a fun q=>1 * u q + 1 * v q) b fun q=>1 * u q + 1 * v q) (by rw [AC5,AD4 _ _ hab,AC5]);rw [ARq u v 1 1 hb,AOs hab,AOs hab,ARq u v 1 1 ha,ARq u v 1 1 ha,AOs (Ne.symm hab),AOs (Ne.symm hab),AOs (Ne.symm hab),AOs (Ne.symm hab)] at h1;have h2:=h0 (ADe (ADe F a u) b u) (by rw [AC5,AD4 _ _ hab,AC5]);have h3:=h0 (ADe (ADe F a v) b v) (by rw [AC5,AD4 _ _ hab,AC5]);omega
  unfold AFk;rw [key (F b) (F a),AM6];rw [show ADe F b (F b)=F from AM6 F b]
theorem Ag9:∀ {d n:Nat} {F:Nat->Nat->Int} {a:Nat},a + d + 1 < n->F a=F (a + d + 1)->det n F=0:=by
 intro d
 induction d with
 | zero=>intro n F a hn h;exact Ag8 hn fun q _=>by rw [h]
 | succ d ih=>
   intro n F a hn h
   have h1:=Ac4 (n:=n) (F:=F) (a:=a + d + 1) (b:=a + d + 1 + 1) (by omega) (by omega) (by omega) fun G hG=>Ag8 (r:=a + d + 1) (by omega) fun q _=>congrFun hG q
   have h2:=ih (n:=n) (F:=AFk F (a + d + 1) (a + d + 1 + 1)) (a:=a) (by omega) (by rw [AS2,ASl _ (by omega) (by omega),h];rfl)
   omega
theorem AMc {n:Nat} {F:Nat->Nat->Int} {a b:Nat} (ha:a < n) (hb:b < n) (hab:a≠b) (h:F a=F b):det n F=0:=by
 rcases Nat.lt_or_ge a b with hlt | hge
 ·exact Ag9 (d:=b - a - 1) (a:=a) (by omega) (by rw [h];congr 1;omega)
 ·exact Ag9 (d:=a - b - 1) (a:=b) (by omega) (by rw [<- h];congr 1;omega)
theorem AO6 {n:Nat} {F:Nat->Nat->Int} {a b:Nat} (ha:a < n) (hb:b < n) (hab:a≠b):det n (AFk F a b)= -det n F:=
  Ac4 ha hb hab fun _ h=>AMc ha hb hab h
theorem Aip {n:Nat} {F:Nat->Nat->Int} {r:Nat} (u:Nat->Int) (c:Int) (hr:r < n):det n (ADe F r fun q=>c * u q)=c * det n (ADe F r u):=by
 have:=ARq (F:=F) u (fun _=>0) c 0 hr;rw [show (fun q=>c * u q + 0 * (fun _:Nat=>(0:Int)) q)=fun q=>c * u q from by funext q;omega] at this;rw [this];omega
theorem ARr {n:Nat} {F:Nat->Nat->Int} {r:Nat} (hr:r < n) (h:∀ q,q < n->F r q=0):det n F=0:=by
 have:=Aip (F:=F) (F r) 0 hr;rw [Int.zero_mul] at this;rw [<- this]
 exact ADf fun i j hi hj=>by
   unfold ADe
   split
   · rename_i he;subst he;rw [h j hj];simp
   · rfl
theorem AK5 {n:Nat} {F:Nat->Nat->Int} {a b:Nat} (ha:a < n) (hb:b < n) (hab:a≠b) (q:Int):det n (ADe F a fun x=>F a x + q * F b x)=det n F:=by
 have:=ARq (F:=F) (F a) (F b) 1 q ha;rw [AM6,AMc (F:=ADe F a (F b)) ha hb hab (by rw [AC5,AD4 _ _ (Ne.symm hab)])] at this;rw [show (fun x=>F a x + q * F b x)=fun x=>1 * F a x + q * F b x from by funext x;omega,this];omega
theorem AYf {n:Nat} {F:Nat->Nat->Int} {r:Nat} (hr:r < n) (y:Nat->Int) (u:Nat->Nat->Int):∀ t,det n (ADe F r fun q=>psum (fun k=>y k * u k q) t)=psum (fun k=>y k * det n (ADe F r (u k))) t:=by
 intro t
 induction t with
 | zero=>exact ARr hr fun q _=>by rw [AC5];rfl
 | succ t ih=>
   have:=ARq (F:=F) (fun q=>psum (fun k=>y k * u k q) t) (u t) 1 (y t) hr
   simp only [psum]
   rw [<- ih,show (fun q=>psum (fun k=>y k * u k q) t + y t * u t q)=fun q=>1 * psum (fun k=>y k * u k q) t + y t * u t q from by funext q;omega,this];omega
theorem Alk {n:Nat} {F:Nat->Nat->Int} {r:Nat} (hr:r < n) (y:Nat->Int):det n (ADe F r fun q=>psum (fun k=>y k * F k q) n)=y r * det n F:=by
  rw [AYf hr y F n,ABz (g:=fun k=>if k=r then y r * det n F else 0),AF3 hr (fun i hi=>if_neg hi),if_pos rfl];intro k hk
  by_cases h:k=r
  · subst h;rw [if_pos rfl,AM6]
  · rw [if_neg h,AMc (F:=ADe F r (F k)) hr hk (Ne.symm h) (by rw [AC5,AD4 _ _ h])];simp
def AGk (f:Nat->Int):Nat->Int
  | 0=>1
  | n + 1=>AGk f n * f n
theorem AWe (f:Nat->Int) (n:Nat):AGk f (n + 1)=f 0 * AGk (fun i=>f (i + 1)) n:=by
 induction n with
 | zero=>simp [AGk]
 | succ n ih=>rw [AGk,ih,AGk];grind
theorem AWf {f g:Nat->Int} {n:Nat} (h:∀ i,i < n->f i=g i):AGk f n=AGk g n:=by
 induction n with
 | zero=>rfl
 | succ n ih=>rw [AGk,AGk,ih (fun i hi=>h i (by omega)),h n (by omega)]
theorem AQr:∀ {n:Nat} {F:Nat->Nat->Int},Zc n F n->det n F=AGk (fun i=>F i i) n:=by
 intro n
 induction n with
 | zero=>intro _ _;rfl
 | succ n ih=>
   intro F h
   rw [AWe,det,ABz (g:=fun i=>if i=0 then F 0 0 * det n (AE2 0 F) else 0),AF3 (a:=0) (by omega) (fun i hi=>if_neg hi),if_pos rfl]
   · rw [ih (F:=AE2 0 F) (fun c' i h1 h2 h3=>by unfold AE2 skp;rw [if_neg (by omega)];exact h (c' + 1) (i + 1) (by omega) (by omega) (by omega))]
     rfl
   · intro i hi
     by_cases h0:i=0
     · subst h0;simp [sg]
     · rw [if_neg h0,h 0 i (by omega) (by omega) hi];simp
theorem AZt:∀ {n:Nat} {F:Nat->Nat->Int},(∀ i j,i < j->j < n->F i j=0)->det n F=AGk (fun i=>F i i) n:=by
 intro n
 induction n with
 | zero=>intro _ _;rfl
 | succ n ih=>
   intro F h
   rw [AWe,det,ABz (g:=fun i=>if i=0 then F 0 0 * det n (AE2 0 F) else 0),AF3 (a:=0) (by omega) (fun i hi=>if_neg hi),if_pos rfl]
   · rw [ih (F:=AE2 0 F) (fun i j h1 h2=>by unfold AE2 skp;rw [if_neg (by omega)];exact h (i + 1) (j + 1) (by omega) (by omega))]
     rfl
   · intro i hi
     by_cases h0:i=0
     · subst h0;simp [sg]
     · rw [if_neg h0,ARr (F:=AE2 i F) (r:=0) (by omega) (fun q hq=>by unfold AE2 skp;rw [if_pos (by omega)];exact h 0 (q + 1) (by omega) (by omega))];simp
def ATv (F:Nat->Nat->Int) (c i:Nat) (q:Int):Nat->Nat->Int:=AFk (ADe F c fun x=>F c x + -q * F i x) c i
theorem Aha (F:Nat->Nat->Int) {c i:Nat} (q:Int):ATv F c i q i=fun x=>F c x + -q * F i x:=by
 unfold ATv;rw [AUk,AC5]
theorem Aos (F:Nat->Nat->Int) {c i:Nat} (h:c≠i) (q:Int):ATv F c i q c=F i:=by
 unfold ATv;rw [AS2,AD4 _ _ (Ne.symm h)]
theorem Ac5 (F:Nat->Nat->Int) {c i k:Nat} (hc:k≠c) (hi:k≠i) (q:Int):ATv F c i q k=F k:=by
 unfold ATv;rw [ASl _ hc hi,AD4 _ _ hc]
theorem Alm {n:Nat} {F:Nat->Nat->Int} {c i:Nat} {q:Int} (H:Zc n F c) (hci:c < i) (hi:i < n):Zc n (ATv F c i q) c:=by
 intro c' k h1 h2 h3;by_cases hk:k=i
 ·subst hk;rw [Aha];simp [H c' c h1 h1 (by omega),H c' k h1 h2 h3]
 ·by_cases Ad:k=c
  ·subst Ad;rw [Aos F hk];exact H c' i h1 (by omega) hi
  ·rw [Ac5 F Ad hk];exact H c' k h1 h2 h3
theorem Aln {F:Nat->Nat->Int} {c i:Nat} {q:Int} (H:Zi F c i):Zi (ATv F c i q) c i:=by
 intro k h1 h2;rw [Ac5 F (by omega) (by omega)];exact H k h1 h2
theorem Ahb {n:Nat} {P:(Nat->Nat->Int)->Prop} (hadd:∀ F a b q,a < n->b < n->a≠b->P (ADe F a fun x=>F a x + q * F b x)->P F) (hswap:∀ F a b,a < n->b < n->a≠b->P (AFk F a b)->P F) (htri:∀ F,Zc n F n->P F):∀ F,P F:=by
  have key:∀ d c,c + d=n-> ∀ F,Zc n F c->P F:=by
    intro d;induction d with
    | zero=>
        intro c hc F hF;obtain rfl:c=n:=by omega
        exact htri F hF
    | succ d ih=>
      intro c hc
      have inner:∀ e i,i + e=n->c < i-> ∀ F,Zc n F c->Zi F c i->P F:=by
        intro e;induction e with
        | zero=>
            intro i hi hci F hF hz;obtain rfl:i=n:=by omega
            exact ih (c + 1) (by omega) F (Aao hF hz)
        | succ e ihe=>
          intro i hi hci
          have strong:∀ k F,(F i c).natAbs=k->Zc n F c->Zi F c i->P F:=by
            intro k;induction k using Nat.strongRecOn with
            | _ k ihk=>
              intro F hk hF hz
              by_cases h0:F i c=0
              · exact ihe (i + 1) (by omega) (by omega) F hF (Aan hz h0)
              · refine hadd F c i (-(F c c / F i c)) (by omega) (by omega) (by omega) (hswap _ c i (by omega) (by omega) (by omega) ?_);refine ihk ((ATv F c i (F c c / F i c)) i c).natAbs ?_ (ATv F c i (F c c / F i c)) rfl (Alm hF hci (by omega)) (Aln hz);rw [Aha,<- hk];show (F c c + -(F c c / F i c) * F i c).natAbs < _;have h1:=Int.mul_ediv_add_emod (F c c) (F i c);have h2:F c c + -(F c c / F i c) * F i c=F c c % F i c:=by grind
                rw [h2];have h3:=Int.emod_nonneg (F c c) h0;have h4:=Int.emod_lt (F c c) h0;omega
          exact fun F=>strong _ F rfl
      exact fun F hF=>inner (n - (c + 1)) (c + 1) (by omega) (by omega) F hF fun k h1 h2=>by omega
  exact fun F=>key n 0 (by omega) F fun c' i h=>by omega
def AE3 (n:Nat) (A B:Nat->Nat->Int):Nat->Nat->Int:=fun i j=>psum (fun k=>A i k * B k j) n
theorem Alo {n:Nat} {A B:Nat->Nat->Int} {a b:Nat} {q:Int}:AE3 n (ADe A a fun x=>A a x + q * A b x) B=ADe (AE3 n A B) a fun x=>AE3 n A B a x + q * AE3 n A B b x:=by
 funext i j;unfold AE3 ADe;by_cases h:i=a
 ·simp only [if_pos h];rw [<- AD2,<- ALy];exact ABz fun k _=>by grind
 ·simp only [if_neg h]
theorem Ac6 {n:Nat} {A B:Nat->Nat->Int} {a:Nat} {u:Nat->Int}:AE3 n (ADe A a u) B=ADe (AE3 n A B) a fun x=>psum (fun k=>u k * B k x) n:=by
 funext i j;unfold AE3 ADe;by_cases h:i=a
 ·simp only [if_pos h]
 ·simp only [if_neg h]
theorem Aiq {n:Nat} {A B:Nat->Nat->Int} {a b:Nat}:AE3 n (AFk A a b) B=AFk (AE3 n A B) a b:=by
 unfold AFk;rw [Ac6,Ac6];rfl
theorem AUv {n:Nat} (A B:Nat->Nat->Int):det n (AE3 n A B)=det n A * det n B:=by
 refine Ahb (n:=n) (P:=fun A=>det n (AE3 n A B)=det n A * det n B) (fun F a b q ha hb hab h=>?_) (fun F a b ha hb hab h=>?_) (fun F hF=>?_) A
 ·rw [Alo,AK5 ha hb hab,AK5 ha hb hab] at h;exact h
 ·rw [Aiq,AO6 ha hb hab,AO6 ha hb hab] at h;rw [Int.neg_mul] at h;omega
 ·rw [AQr hF]
  have key:∀ j,j<=n->det n (fun i=>if i < j then AE3 n F B i else B i)=AGk (fun i=>F i i) j * det n B:=by
    intro j
    induction j with
    | zero=>intro _;simp [AGk]
    | succ j ih=>
      intro hj
      rw [AGk,Int.mul_assoc,Int.mul_comm (F j j),<- Int.mul_assoc,<- ih (by omega),Int.mul_comm]
      rw [<- Alk (F:=fun i=>if i < j then AE3 n F B i else B i) (r:=j) (by omega) (F j)]
      refine ADf fun i q hi hq=>?_
      unfold ADe
      by_cases h:i=j
      · subst h
        simp only [if_pos (Nat.lt_succ_self i),if_pos]
        unfold AE3
        refine ABz fun k hk=>?_
        by_cases hlt:k < i
        · rw [hF k i (by omega) hlt hi];simp
        · rw [if_neg hlt]
      · simp only [if_neg h]
        by_cases hlt:i < j
        · rw [if_pos hlt,if_pos (by omega)]
        · rw [if_neg hlt,if_neg (by omega)]
  rw [<- key n (Nat.le_refl _)];exact ADf fun i j hi hj=>by rw [if_pos hi]
def trF (F:Nat->Nat->Int):Nat->Nat->Int:=fun i j=>F j i
theorem Afn (n:Nat):det n dl=1:=by
 rw [AQr (fun c' i h1 h2 h3=>by unfold dl;rw [if_neg (by omega)])]
 have:∀ k,AGk (fun i=>dl i i) k=1:=by
   intro k
   induction k with
   | zero=>rfl
   | succ k ih=>rw [AGk,ih];simp [dl]
 exact this n
theorem Afo {n:Nat} {F:Nat->Nat->Int} {i j:Nat} (hj:j < n):psum (fun k=>F i k * dl k j) n=F i j:=by
 rw [AF3 hj (fun k hk=>by unfold dl;rw [if_neg hk];simp)];simp [dl]
theorem Afp {n:Nat} {F:Nat->Nat->Int} {a:Nat} (y:Nat->Int) (ha:a < n):det n (trF (ADe F a fun x=>psum (fun k=>y k * F k x) n))=det n (trF F) * det n (trF (ADe dl a y)):=by
  rw [<- AUv];refine ADf fun i j hi hj=>?_;unfold AE3 trF ADe
  by_cases h:j=a
  · simp only [if_pos h];exact ABz fun k _=>by grind
  · simp only [if_neg h];rw [AF3 hj (fun k hk=>by unfold dl;rw [if_neg (Ne.symm hk)];simp)];simp [dl]
theorem AM8 {n:Nat} (F:Nat->Nat->Int):det n (trF F)=det n F:=by
 refine Ahb (n:=n) (P:=fun F=>det n (trF F)=det n F) (fun F a b q ha hb hab h=>?_) (fun F a b ha hb hab h=>?_) (fun F hF=>?_) F
 ·rw [AK5 ha hb hab] at h;rw [<- h];have h1:=Afp (n:=n) (F:=F) (a:=a) (fun k=>dl k a + q * dl k b) ha
  have h2:det n (trF (ADe dl a fun k=>dl k a + q * dl k b))=1:=by
    rw [<- Afn n,<- AK5 (F:=dl) hb ha (Ne.symm hab) q]
    refine ADf fun i j hi hj=>?_
    clear h1 h
    simp only [trF,ACs,dl]
    grind
  rw [h2,Int.mul_one] at h1;rw [<- h1];refine ADf fun i j hi hj=>?_;unfold trF ADe;by_cases hja:j=a
  ·simp only [if_pos hja];rw [ABz (g:=fun k=>F k i * dl k a + q * (F k i * dl k b)) (fun k _=>by grind),ALy,AD2];rw [AF3 (a:=a) ha (fun k hk=>by unfold dl;rw [if_neg hk];simp),AF3 (a:=b) hb (fun k hk=>by unfold dl;rw [if_neg hk];simp)];simp [dl]
  ·simp only [if_neg hja]
 ·rw [AO6 ha hb hab] at h
  have h1:det n (trF (AFk F a b))=det n (trF F) * det n (AFk dl a b):=by
    rw [<- AUv]
    refine ADf fun i j hi hj=>?_
    unfold AE3 trF
    have hsym:∀ k,AFk dl a b k j=if j=a then dl k b else if j=b then dl k a else dl k j:=by
      intro k
      simp only [AKl,dl]
      grind
    rw [ABz (g:=fun k=>F k i * dl k (if j=a then b else if j=b then a else j)) (fun k _=>by rw [hsym];grind)]
    rw [AF3 (a:=if j=a then b else if j=b then a else j) (by grind) (fun k hk=>by unfold dl;rw [if_neg hk];simp)]
    simp only [dl,if_pos,Int.mul_one]
    by_cases h3:j=a
    · subst h3;rw [AS2,if_pos rfl]
    · rw [if_neg h3]
      by_cases h4:j=b
      · subst h4;rw [AUk,if_pos rfl]
      · rw [ASl _ h3 h4,if_neg h4]
  rw [AO6 ha hb hab,Afn] at h1;omega
 ·rw [AQr hF,AZt (F:=trF F) (fun i j h1 h2=>hF i j (by omega) h1 h2)];rfl
def shF (k:Nat) (F:Nat->Nat->Int):Nat->Nat->Int:=fun i j=>F (k + i) (k + j)
theorem AZu {i k a:Nat} (h:i < k + 1):skp i (k + a)=k + 1 + a:=by unfold skp;rw [if_neg (by omega)];omega
theorem AVv:∀ {k m:Nat} {T:Nat->Nat->Int},(∀ i j,k<=i->i < k + m->j < k->T i j=0)->det (k + m) T=det k T * det m (shF k T):=by
  intro k;induction k with
  | zero=>
    intro m T _;have e:shF 0 T=T:=by funext i j;simp [shF]
    rw [e,Nat.zero_add];simp [det]
  | succ k ih=>
    intro m T h;rw [show k + 1 + m=(k + m) + 1 by omega];simp only [det];rw [Alg (k:=k + 1) (by omega) (fun i h1 h2=>by rw [h i 0 h1 (by omega) (by omega)];simp)];rw [Int.mul_comm,<- AD2];refine ABz fun i hi=>?_
    rw [ih (T:=AE2 i T) (m:=m) (fun a b ha ha2 hb=>by
      obtain ⟨c,rfl⟩:∃ c,a=k + c:=⟨a - k,by omega⟩;unfold AE2;rw [AZu hi];exact h _ _ (by omega) (by omega) (by omega))]
    have e:shF k (AE2 i T)=shF (k + 1) T:=by
      funext a b;unfold shF AE2;rw [AZu hi,show k + b + 1=k + 1 + b by omega]
    rw [e];grind
theorem Aa9 {n:Nat} {F:Nat->Nat->Int} (h:∀ i,i < n + 1->F i 0=0):det (n + 1) F=0:=by
 simp only [det];rw [ABz (g:=fun _=>0) fun i hi=>by rw [h i hi];simp];exact AOr _
theorem Ac7 {n:Nat} {F:Nat->Nat->Int} {a b:Nat} (ha:a < n) (hb:b < n) (hab:a≠b) (h:∀ i,F i a=F i b):det n F=0:=by
 rw [<- AM8];exact AMc ha hb hab (by funext i;exact h i)
theorem Aot (F:Nat->Nat->Int):det 2 F=F 0 0 * F 1 1 - F 1 0 * F 0 1:=by
 simp [det,psum,AE2,skp,sg];grind
def bro (k i r:Nat):Nat:=if r < k then r else i
def Mn (k:Nat) (A:Nat->Nat->Int) (i j:Nat):Int:=det (k + 1) fun r c=>A (bro k i r) (bro k j c)
theorem ANk (A:Nat->Nat->Int) (i j:Nat):Mn 0 A i j=A i j:=by
 simp [Mn,det,psum,bro,sg]
theorem ALc (k:Nat) (A:Nat->Nat->Int):Mn k A k k=det (k + 1) A:=by
 refine ADf fun r c hr hc=>?_;have e:∀ r,r < k + 1->bro k k r=r:=fun r hr=>by unfold bro;split <;> omega
 rw [e r hr,e c hc]
theorem Aqh {k:Nat} (A:Nat->Nat->Int) (i:Nat) {j:Nat} (hj:j < k):Mn k A i j=0:=by
 refine Ac7 (a:=j) (b:=k) (by omega) (by omega) (by omega) fun r=>?_;unfold bro;simp [hj]
def cof (k:Nat) (A:Nat->Nat->Int) (i s:Nat):Int:=det (k + 1) (ADe (fun c r=>A (bro k i r) c) k (dl s))
theorem Aba {n:Nat} (f:Nat->Int) {q:Nat} (hq:q < n):psum (fun s=>f s * dl s q) n=f q:=by
 rw [AF3 hq (fun i hi=>by unfold dl;rw [if_neg hi,Int.mul_zero])];simp [dl]
theorem Ari (k:Nat) (A:Nat->Nat->Int) (i j:Nat):Mn k A i j=psum (fun s=>cof k A i s * A s j) k + det k A * A i j:=by
 have h1:Mn k A i j=det (k + 1) (ADe (fun c r=>A (bro k i r) c) k fun q=>psum (fun s=>A (bro k i s) j * dl s q) (k + 1)):=by
   unfold Mn
   rw [<- AM8]
   refine ADf fun c r hc hr=>?_
   rw [ACs,Aba _ hr]
   unfold trF
   split
   · subst_vars;simp [bro]
   · have:c < k:=by omega
     simp [bro,this]
 rw [h1,AYf (by omega)]
 have hk:det (k + 1) (ADe (fun c r=>A (bro k i r) c) k (dl k))=det k A:=by
   rw [AVv (k:=k) (m:=1) (T:=ADe (fun c r=>A (bro k i r) c) k (dl k)) (fun a b h1 h2 h3=>by
     obtain rfl:a=k:=by omega
     rw [ACs,if_pos rfl];unfold dl;rw [if_neg (by omega)])]
   have e1:det k (ADe (fun c r=>A (bro k i r) c) k (dl k))=det k A:=by
     rw [<- AM8]
     refine ADf fun r c hr hc=>?_
     unfold trF
     rw [ACs,if_neg (by omega)]
     simp [bro,hr]
   have e2:det 1 (shF k (ADe (fun c r=>A (bro k i r) c) k (dl k)))=1:=by
     simp [det,psum,shF,sg,ACs,dl]
   rw [e1,e2,Int.mul_one]
 show psum (fun s=>A (bro k i s) j * det (k + 1) (ADe (fun c r=>A (bro k i r) c) k (dl s))) k + A (bro k i k) j * det (k + 1) (ADe (fun c r=>A (bro k i r) c) k (dl k))=_;rw [hk];congr 1
 ·refine ABz fun s hs=>?_;show _=cof k A i s * A s j;unfold cof;rw [Int.mul_comm];simp [bro,hs]
 ·simp [bro,Int.mul_comm]
theorem Ac8 (f:Nat->Int) (k m:Nat):AGk f (k + m)=AGk f k * AGk (fun i=>f (k + i)) m:=by
 induction m with
 | zero=>simp [AGk]
 | succ m ih=>rw [<- Nat.add_assoc];simp only [AGk];rw [ih];grind
theorem AZv {f:Nat->Int}:∀ {n:Nat},(∀ i,i < n->f i=1)->AGk f n=1
  | 0,_=>rfl
  | n + 1,h=>by rw [AGk,AZv fun i hi=>h i (by omega),h n (by omega)];rfl
theorem Ac9 {f:Nat->Int}:∀ {n:Nat},(∀ i,i < n->f i≠0)->AGk f n≠0
  | 0,_=>by simp [AGk]
  | n + 1,h=>by rw [AGk];exact Int.mul_ne_zero (Ac9 fun i hi=>h i (by omega)) (h n (by omega))
def ASa (k:Nat) (A:Nat->Nat->Int) (ρ:Nat->Nat):Nat->Nat->Int:=fun r s=>if r < k then dl r s else if s < k then cof k A (ρ r) s else if s=r then det k A else 0
theorem Ada {k n:Nat} {A B:Nat->Nat->Int} {ρ γ:Nat->Nat} (hkn:k<=n) (hρ:∀ r,r < k->ρ r=r) (hB:∀ r c,B r c=A (ρ r) (γ c)) {r c:Nat} (hr:r < n):AE3 n (ASa k A ρ) B r c=if r < k then B r c else Mn k A (ρ r) (γ c):=by
 unfold AE3;by_cases h:r < k
 ·rw [if_pos h,AF3 hr (fun i hi=>by unfold ASa;rw [if_pos h];unfold dl;rw [if_neg (fun e=>hi e.symm),Int.zero_mul])];unfold ASa;rw [if_pos h];simp [dl]
 ·rw [if_neg h,Ari];obtain ⟨m,rfl⟩:∃ m,n=k + m:=⟨n - k,by omega⟩
  have hs:∀ t,psum (fun s=>ASa k A ρ r s * B s c) (k + t)=psum (fun s=>cof k A (ρ r) s * A s (γ c)) k + (if r < k + t then det k A * A (ρ r) (γ c) else 0):=by
    intro t
    induction t with
    | zero=>
      rw [if_neg (by omega),Int.add_zero,Nat.add_zero]
      refine ABz fun s hs=>?_
      unfold ASa
      rw [if_neg h,if_pos hs,hB,hρ s hs]
    | succ t ih=>
      show psum (fun s=>ASa k A ρ r s * B s c) (k + t) + ASa k A ρ r (k + t) * B (k + t) c=_
      rw [ih]
      have e:ASa k A ρ r (k + t)=if k + t=r then det k A else 0:=by unfold ASa;rw [if_neg h,if_neg (by omega)]
      rw [e,hB]
      rcases Nat.lt_trichotomy r (k + t) with h1 | h1 | h1
      · rw [if_pos h1,if_neg (by omega),if_pos (by omega)];simp
      · subst h1;rw [if_neg (by omega),if_pos rfl,if_pos (by omega)];omega
      · rw [if_neg (by omega),if_neg (by omega),if_neg (by omega)];simp
  rw [hs,if_pos hr]
theorem Adb {k m:Nat} {A:Nat->Nat->Int} {ρ:Nat->Nat}:det (k + m) (ASa k A ρ)=AGk (fun _=>det k A) m:=by
 rw [AZt (fun i j hij hj=>by
   unfold ASa
   split
   · unfold dl;rw [if_neg (by omega)]
   · rw [if_neg (by omega),if_neg (by omega)]),Ac8,AZv,Int.one_mul]
 ·refine AWf fun i hi=>?_;unfold ASa;rw [if_neg (by omega),if_neg (by omega),if_pos rfl]
 ·intro i hi;unfold ASa;rw [if_pos hi];simp [dl]
theorem AWy {k:Nat} {A:Nat->Nat->Int} (h0:det k A≠0) (i j:Nat):Mn k A k k * Mn k A i j - Mn k A i k * Mn k A k j=det k A * Mn (k + 1) A i j:=by
  have h1:=AUv (n:=k + 2) (ASa k A (bro (k + 1) i)) fun r c=>A (bro (k + 1) i r) (bro (k + 1) j c)
  have hm:∀ r c,r < k + 2->AE3 (k + 2) (ASa k A (bro (k + 1) i)) (fun r c=>A (bro (k + 1) i r) (bro (k + 1) j c)) r c=if r < k then A (bro (k + 1) i r) (bro (k + 1) j c) else Mn k A (bro (k + 1) i r) (bro (k + 1) j c):=fun r c hr=>
    Ada (k:=k) (n:=k + 2) (A:=A) (B:=fun r c=>A (bro (k + 1) i r) (bro (k + 1) j c)) (ρ:=bro (k + 1) i) (γ:=bro (k + 1) j) (by omega) (fun r hr=>by unfold bro;rw [if_pos (by omega)]) (fun r c=>rfl) hr
  rw [Adb,AVv (k:=k) (m:=2) (fun a b ha ha2 hb=>by
    rw [hm a b ha2,if_neg (by omega),show bro (k + 1) j b=b by unfold bro;rw [if_pos (by omega)]];exact Aqh _ _ hb)] at h1
  have e1:det k (AE3 (k + 2) (ASa k A (bro (k + 1) i)) fun r c=>A (bro (k + 1) i r) (bro (k + 1) j c))=det k A:=by
    refine ADf fun r c hr hc=>?_;rw [hm r c (by omega),if_pos hr];simp only [bro];rw [if_pos (by omega),if_pos (by omega)]
  have b0:∀ q,bro (k + 1) q (k + 0)=k:=fun q=>by unfold bro;rw [if_pos (by omega)];rfl
  have b1:∀ q,bro (k + 1) q (k + 1)=q:=fun q=>by unfold bro;rw [if_neg (by omega)]
  rw [e1,Aot] at h1;simp only [shF] at h1;rw [hm _ _ (by omega),hm _ _ (by omega),hm _ _ (by omega),hm _ _ (by omega),if_neg (by omega),if_neg (by omega),if_neg (by omega),if_neg (by omega),b0,b0,b1,b1] at h1;have e2:AGk (fun _=>det k A) 2=det k A * det k A:=by simp [AGk]
  have e3:(det (k + 2) fun r c=>A (bro (k + 1) i r) (bro (k + 1) j c))=Mn (k + 1) A i j:=rfl;rw [e2,e3,Int.mul_assoc] at h1;exact Int.eq_of_mul_eq_mul_left h0 h1
theorem Adc {k n:Nat} {A:Nat->Nat->Int} (h0:det k A≠0) (hk:k < n) (hz:∀ i,k<=i->i < n->Mn k A i k=0):det n A=0:=by
  obtain ⟨m,rfl⟩:∃ m,n=k + (m + 1):=⟨n - k - 1,by omega⟩;have h1:=AUv (n:=k + (m + 1)) (ASa k A id) A
  have hm:∀ r c,r < k + (m + 1)->AE3 (k + (m + 1)) (ASa k A id) A r c=if r < k then A r c else Mn k A r c:=fun r c hr=>
    Ada (k:=k) (n:=k + (m + 1)) (A:=A) (B:=A) (ρ:=id) (γ:=id) (by omega) (fun r hr=>rfl) (fun r c=>rfl) hr
  rw [Adb,AVv (k:=k) (m:=m + 1) (fun a b ha ha2 hb=>by rw [hm a b ha2,if_neg (by omega)];exact Aqh _ _ hb),Aa9 (F:=shF k _) (fun i hi=>by
    unfold shF;rw [hm _ _ (by omega),if_neg (by omega)];exact hz _ (by omega) (by omega)),Int.mul_zero] at h1
  rcases Int.mul_eq_zero.1 h1.symm with h2 | h2
  · exact absurd h2 (Ac9 fun i hi=>h0)
  · exact h2
def dBd (m:Nat):Nat->Nat
  | 0=>1
  | n + 1=>(n + 1) * m * dBd m n
theorem psum_abs {f:Nat->Int} {B:Nat}:∀ {n:Nat},(∀ i,i < n->(f i).natAbs<=B)->(psum f n).natAbs<=n * B
  | 0,_=>by simp [psum]
  | n + 1,h=>by
    have h1:=psum_abs (n:=n) fun i hi=>h i (by omega)
    have h2:=h n (by omega)
    have h3:=Int.natAbs_add_le (psum f n) (f n)
    show (psum f n + f n).natAbs<=_
    rw [Nat.add_mul,Nat.one_mul]
    omega
theorem AWz {m:Nat}:∀ {n:Nat} {F:Nat->Nat->Int},(∀ i j,(F i j).natAbs<=m)->(det n F).natAbs<=dBd m n
  | 0,_,_=>by simp [det,dBd]
  | n + 1,F,h=>by
    have h1:=psum_abs (f:=fun i=>sg i * F i 0 * det n (AE2 i F)) (B:=m * dBd m n) (n:=n + 1) fun i hi=>by
      have e:=AWz (n:=n) (F:=AE2 i F) fun a b=>h _ _
      have es:(sg i).natAbs=1:=by unfold sg;split <;> rfl
      rw [Int.natAbs_mul,Int.natAbs_mul,es,Nat.one_mul]
      exact Nat.mul_le_mul (h i 0) e
    rw [dBd,Nat.mul_assoc]
    exact h1
theorem Aou {k n p:Nat} {A:Nat->Nat->Int} (hp:k < p) {i j:Nat} (hi:k<=i):Mn k (AFk A p k) i j=Mn k A (if i=k then p else if i=p then k else i) j:=by
 refine ADf fun r c hr hc=>?_;rw [AKl];unfold bro;by_cases h:r < k
 ·rw [if_pos h,if_pos h,if_neg (by omega),if_neg (by omega)]
 ·rw [if_neg h,if_neg h];split
  ·rfl
  ·split <;> rfl
theorem Abb {k p:Nat} {A:Nat->Nat->Int} (hp:k < p):det k (AFk A p k)=det k A:=by
 refine ADf fun r c hr hc=>?_;rw [AKl,if_neg (by omega),if_neg (by omega)]
def sgB (neg:Bool):Int:=if neg then -1 else 1
def AVw (m:Nat) (A0:Nat->Nat->Int) (n k:Nat) (F:Nat->Nat->Int) (last:Int) (neg:Bool):Prop:=
  ∃ A:Nat->Nat->Int,det n A=sgB neg * det n A0/\(∀ i j,k<=i->i < n->k<=j->j < n->F i j=Mn k A i j)/\last=det k A/\last≠0/\ ∀ i j,(A i j).natAbs<=m
theorem Afq {m n:Nat} {A0:Nat->Nat->Int} (h:∀ i j,(A0 i j).natAbs<=m):AVw m A0 n 0 A0 1 false:=
  ⟨A0,by simp [sgB],fun i j _ _ _ _=>(ANk A0 i j).symm,rfl,by decide,h⟩
theorem Air {m n k p:Nat} {A0 F:Nat->Nat->Int} {last:Int} {neg:Bool} (H:AVw m A0 n k F last neg) (hkp:k < p) (hp:p < n):AVw m A0 n k (AFk F p k) last (!neg):=by
 obtain ⟨A,h1,h2,h3,h4,h5⟩:=H;refine ⟨AFk A p k,?_,fun i j hi hin hj hjn=>?_,by rw [Abb hkp];exact h3,h4,fun i j=>?_⟩
 ·rw [AO6 hp (by omega) (by omega),h1];cases neg <;> simp [sgB]
 ·rw [Aou (n:=n) hkp hi,AKl];split
  ·rw [h2 p j (by omega) hp hj hjn]
  ·split
   ·rw [h2 k j (by omega) (by omega) hj hjn]
   ·rw [h2 i j hi hin hj hjn]
 ·rw [AKl];split
  ·exact h5 _ _
  ·split <;> exact h5 _ _
def bQ (k:Nat) (F:Nat->Nat->Int) (last:Int) (r c:Nat):Int:=(F k k * F r c - F r k * F k c) / last
def bF (k:Nat) (F:Nat->Nat->Int) (last:Int) (i j:Nat):Nat->Nat->Int:=fun r c=>if k < r/\k < c/\(r < i∨r=i/\c < j) then bQ k F last r c else F r c
theorem Alq (k:Nat) (F:Nat->Nat->Int) (last:Int):bF k F last (k + 1) (k + 1)=F:=by
 funext r c;unfold bF;rw [if_neg (by omega)]
theorem Ark (k n:Nat) (F:Nat->Nat->Int) (last:Int) (i:Nat) {r c:Nat} (hc:c < n):bF k F last i n r c=bF k F last (i + 1) (k + 1) r c:=by
 unfold bF;by_cases h:k < r/\k < c/\(r < i∨r=i/\c < n)
 ·rw [if_pos h,if_pos (by omega)]
 ·rw [if_neg h,if_neg (by omega)]
theorem Arl (k:Nat) (F:Nat->Nat->Int) (last:Int) {i j:Nat} (hi:k < i) (hj:k < j):(ADe (bF k F last i j) i fun c=>if c=j then bQ k F last i j else bF k F last i j i c)=bF k F last i (j + 1):=by
 funext r c;rw [ACs];split
 ·subst_vars
  split
  ·subst_vars;unfold bF;rw [if_pos (by omega)]
  ·unfold bF;by_cases h:k < r/\k < c/\(r < r∨r=r/\c < j)
   ·rw [if_pos h,if_pos (by omega)]
   ·rw [if_neg h,if_neg (by omega)]
 ·unfold bF;by_cases h:k < r/\k < c/\(r < i∨r=i/\c < j)
  ·rw [if_pos h,if_pos (by omega)]
  ·rw [if_neg h,if_neg (by omega)]
theorem Alr (k:Nat) (F:Nat->Nat->Int) (last:Int) (i j c:Nat):bF k F last i j k c=F k c:=by unfold bF;rw [if_neg (by omega)]
theorem As1 (k:Nat) (F:Nat->Nat->Int) (last:Int) (i j r:Nat):bF k F last i j r k=F r k:=by unfold bF;rw [if_neg (by omega)]
theorem As2 (k:Nat) (F:Nat->Nat->Int) (last:Int) (i j:Nat):bF k F last i j i j=F i j:=by unfold bF;rw [if_neg (by omega)]
theorem Aqi {m n k:Nat} {A0 F:Nat->Nat->Int} {last:Int} {neg:Bool} (H:AVw m A0 n k F last neg) (hk:k < n):∃ A,(∀ i j,(A i j).natAbs<=m)/\det n A=sgB neg * det n A0/\F k k=det (k + 1) A/\ ∀ i j,k<=i->i < n->k<=j->j < n->F i j=Mn k A i j/\bQ k F last i j=Mn (k + 1) A i j:=by
 obtain ⟨A,h1,h2,h3,h4,h5⟩:=H;refine ⟨A,h5,h1,by rw [h2 k k (by omega) hk (by omega) hk,ALc],fun i j hi hin hj hjn=>⟨h2 i j hi hin hj hjn,?_⟩⟩;unfold bQ;rw [h2 k k (by omega) hk (by omega) hk,h2 i j hi hin hj hjn,h2 i k hi hin (by omega) hk,h2 k j (by omega) hk hj hjn,AWy (by rw [<- h3];exact h4),<- h3,Int.mul_ediv_cancel_left _ h4]
theorem Ais {m n k:Nat} {A0 F:Nat->Nat->Int} {last:Int} {neg:Bool} (H:AVw m A0 n k F last neg) (hk:k < n) (h0:F k k≠0):AVw m A0 n (k + 1) (bF k F last n (k + 1)) (F k k) neg:=by
 obtain ⟨A,h5,h1,h6,h2⟩:=Aqi H hk;refine ⟨A,h1,fun i j hi hin hj hjn=>?_,h6,h0,h5⟩;unfold bF;rw [if_pos (by omega)];exact (h2 i j (by omega) hin (by omega) hjn).2
theorem Ait {m n k:Nat} {A0 F:Nat->Nat->Int} {last:Int} {neg:Bool} (H:AVw m A0 n k F last neg) (hk:k < n) (hz:∀ i,k<=i->i < n->F i k=0):det n A0=0:=by
 obtain ⟨A,h1,h2,h3,h4,h5⟩:=H;have h:=Adc (A:=A) (by rw [<- h3];exact h4) hk fun i hi hin=>by rw [<- h2 i k hi hin (by omega) hk];exact hz i hi hin
 rw [h1] at h;rcases Int.mul_eq_zero.1 h with h6 | h6
 ·cases neg <;> simp [sgB] at h6
 ·exact h6
theorem Als {m n:Nat} {A0 F:Nat->Nat->Int} {last:Int} {neg:Bool} (H:AVw m A0 n n F last neg):det n A0=if neg then -last else last:=by
 obtain ⟨A,h1,h2,h3,h4,h5⟩:=H;rw [<- h3] at h1;rw [h1];cases neg
 ·simp [sgB]
 ·simp [sgB]
theorem Afr {m k:Nat} {A:Nat->Nat->Int} (h:∀ i j,(A i j).natAbs<=m) (i j:Nat):(Mn k A i j).natAbs<=dBd m (k + 1):=AWz fun r c=>h _ _
theorem AO7 {m:Nat} (hm:1<=m) {a b:Nat} (h:a<=b):dBd m a<=dBd m b:=by
 induction h with
 | refl=>exact Nat.le_refl _
 | step h ih=>
   refine Nat.le_trans ih ?_
   rw [dBd]
   exact Nat.le_mul_of_pos_left _ (Nat.mul_pos (by omega) (by omega))
theorem Alu {m n k:Nat} {A0 F:Nat->Nat->Int} {last:Int} {neg:Bool} (hm:1<=m) (H:AVw m A0 n k F last neg) (hk:k < n) {i j:Nat} (hi:k<=i) (hin:i < n) (hj:k<=j) (hjn:j < n):(F i j).natAbs<=dBd m n/\(bQ k F last i j).natAbs<=dBd m (n + 1):=by
  obtain ⟨A,h5,h1,h6,h2⟩:=Aqi H hk;obtain ⟨h7,h8⟩:=h2 i j hi hin hj hjn;rw [h7,h8];exact ⟨Nat.le_trans (Afr h5 _ _) (AO7 hm (by omega)),Nat.le_trans (Afr h5 _ _) (AO7 hm (by omega))⟩
theorem Aiu {m n k:Nat} {A0 F:Nat->Nat->Int} {last:Int} {neg:Bool} (hm:1<=m) (H:AVw m A0 n k F last neg) (hk:k<=n):last≠0/\last.natAbs<=dBd m n:=by
 obtain ⟨A,h1,h2,h3,h4,h5⟩:=H;exact ⟨h4,by rw [h3];exact Nat.le_trans (AWz h5) (AO7 hm hk)⟩
end Go.QF
namespace Go.Proofs.YtiegjkmfpcgjjaaGreatDoor
open Go Go.QF
theorem Aov {α:Type} {i n:Nat} {a b c:α} (h:i < n):(List.replicate i a ++ List.replicate (n - i) b).set i c=List.replicate i a ++ (c :: List.replicate (n - i - 1) b):=by
 rw [List.set_append_right _ _ (by simp),List.length_replicate,Nat.sub_self,show n - i=(n - i - 1) + 1 by omega,List.replicate_succ];rfl
theorem AW0 {fuel n m:Nat} (hn:n<=100000000) (hm:m<=100000000) (hf:n < fuel):AEg fuel n m=some (List.replicate n (List.replicate m 0)):=by
 apply ok_eq;unfold AEg;refine AEo (by omega) (ABn (AC0 (fun i s=>s=((i:Int),List.replicate i (List.replicate m 0) ++ List.replicate (n - i) [])) n (Q:=(· =List.replicate n (List.replicate m 0))) (by simp) hf fun i s hi hI=>?_) fun x hx=>ABj hx);subst hI;unfold AJq;dsimp only;rw [List.length_replicate,Int.toNat_natCast];refine AB5 (fun h=>AEo (by omega) (ACa (n:=i) (x:=[]) ?_ rfl (ABj ⟨by omega,?_⟩))) (fun h=>ABj ?_)
 ·rw [List.getElem?_append_right (by simp),List.length_replicate,Nat.sub_self,List.getElem?_replicate,if_pos (by omega)]
 ·rw [wk (by omega),AD1,Int.toNat_natCast,Aov (by omega)];congr 1;rw [show n - (i + 1)=n - i - 1 by omega,List.replicate_succ'];simp
 ·obtain rfl:i=n:=by omega
  simp
theorem Abc {α:Type} {A:List (List α)} {i:Nat} {row:List α} (hi:i < A.length):(A.take i ++ row :: List.replicate (A.length - i - 1) []).set i=fun r=>A.take i ++ r :: List.replicate (A.length - i - 1) []:=by
 funext r;rw [List.set_append_right _ _ (by simp;omega),List.length_take,Nat.min_eq_left (by omega),Nat.sub_self];rfl
theorem Ahc {fuel:Nat} {A:List (List Int)} (hn:A.length<=100000000) (hm:∀ z∈A,z.length<=100000000/\z.length < fuel) (hf:A.length < fuel):AFz fuel A=some A:=by
 apply ok_eq;unfold AFz;refine AEo (by omega) (ABn (AC0 (fun i s=>s=((i:Int),A.take i ++ List.replicate (A.length - i) [])) A.length (Q:=(· =A)) (by simp) hf fun i s hi hI=>?_) fun x hx=>ABj hx);subst hI;unfold AJs;dsimp only;refine AB5 (fun h=>?_) (fun h=>ABj ?_)
 ·have hi':i < A.length:=by omega
  obtain ⟨row,hrow⟩:∃ row,A[i]? =some row:=⟨A[i],List.getElem?_eq_getElem hi'⟩;have hr:=hm row (List.mem_of_getElem? hrow);refine ACa hrow rfl (ABn (AC0 (fun j s=>s=((j:Int),A.take i ++ row.take j :: List.replicate (A.length - i - 1) [])) row.length (Q:=(· =A.take i ++ row :: List.replicate (A.length - i - 1) [])) ?_ hr.2 fun j s hj hJ=>?_) fun x hx=>ABj ⟨hi',?_⟩)
  ·rw [show A.length - i=(A.length - i - 1) + 1 by omega,List.replicate_succ];simp
  ·subst hJ;unfold AJr;dsimp only;refine AB5 (fun h2=>?_) (fun h2=>ABj ?_)
   ·obtain ⟨x,hx⟩:∃ x,row[j]? =some x:=⟨row[j]'(by omega),List.getElem?_eq_getElem _⟩;refine ACa hx rfl (ACa (n:=i) (x:=row.take j) ?_ rfl (ABn (Q:=(· =x)) ⟨x,rfl,rfl⟩ fun y hy=>AEo ?_ (ABj ⟨by omega,?_⟩)))
    ·rw [List.getElem?_append_right (by simp;omega),List.length_take,Nat.min_eq_left (by omega),Nat.sub_self];rfl
    ·rw [List.length_take];omega
    ·subst hy;rw [wk (by omega),AD1,Abc hi',List.take_add_one,hx];rfl
   ·obtain rfl:j=row.length:=by omega
    rw [List.take_length]
  ·subst hx;rw [wk (by omega),List.take_add_one,hrow,show A.length - (i + 1)=A.length - i - 1 by omega];simp
 ·obtain rfl:i=A.length:=by omega
  simp
def okM (A:List (List Int)):Bool:=decide (1<=A.length/\A.length<=16/\ ∀ z∈A,1<=z.length/\z.length<=16/\z.length=AKz A)
theorem AVx {A:List (List Int)} {z:List Int} (h:A[0]? =some z):AKz A=z.length:=by unfold AKz;rw [h];rfl
theorem AWg {fuel:Nat} {A:List (List Int)} (hr:∀ z∈A,∀ x∈z,-9223372036854775808<=x/\x<=9223372036854775807) (hf:17 < fuel):ADm fuel A=some (if okM A then (A,true) else ([],false)):=by
 apply ok_eq;unfold ADm
 have key:∀ R:List (List Int) × Bool->Prop,(okM A=false->R ([],false))->(okM A=true->R (A,true))->Ok (ADm fuel A) R:=by
   intro R hF hT
   unfold ADm
   refine ABn (Q:=fun ex=>match ex with | .inl e=>e=([],false)/\okM A=false | .inr _=>1<=A.length/\A.length<=16) (AB5 (fun h=>ABj ⟨rfl,by unfold okM;rw [decide_eq_false_iff_not];omega⟩) fun h=>AB5 (fun h2=>ABj ⟨rfl,by unfold okM;rw [decide_eq_false_iff_not];omega⟩) fun h2=>ABj ⟨by omega,by omega⟩) fun ex hex=>?_
   cases ex with
   | inl e=>obtain ⟨rfl,h⟩:=hex;exact ABj (hF h)
   | inr u=>
     dsimp only at hex ⊢
     obtain ⟨z0,Ab⟩:∃ z,A[0]? =some z:=⟨A[0]'(by omega),List.getElem?_eq_getElem _⟩
     have hc:=AVx Ab
     refine ABn (AC0 (fun i (s:Int)=>s=(i:Int)/\ ∀ z∈A.take i,1<=z.length/\z.length<=16/\z.length=AKz A) A.length (Q:=fun ex=>match ex with | .inl e=>e=([],false)/\okM A=false | .inr _=>okM A=true) ⟨rfl,by simp⟩ (by omega) fun i s hi hI=>?_) fun ex Ac=>?_
     · obtain ⟨rfl,hI⟩:=hI
       unfold AH8
       refine AB5 (fun h=>?_) (fun h=>ABj ?_)
       · have hi':i < A.length:=by omega
         obtain ⟨row,hrow⟩:∃ row,A[i]? =some row:=⟨A[i],List.getElem?_eq_getElem hi'⟩
         have bad: ¬ (1<=row.length/\row.length<=16/\row.length=AKz A)->okM A=false:=fun hb=>by
           unfold okM;rw [decide_eq_false_iff_not];exact fun h=>hb (h.2.2 row (List.mem_of_getElem? hrow))
         refine ACa hrow rfl (AB5 (fun h1=>ABj ⟨rfl,bad (by omega)⟩) fun h1=>AB5 (fun h2=>ABj ⟨rfl,bad (by omega)⟩) fun h2=>ACa Ab rfl (AB5 (fun h3=>ABj ⟨rfl,bad (by omega)⟩) fun h3=>ABj ⟨hi',wk (by omega),?_⟩))
         rw [List.take_add_one,hrow]
         intro z hz
         rcases List.mem_append.1 hz with hz | hz
         · exact hI z hz
         · rw [show z=row by simpa using hz];omega
       · obtain rfl:i=A.length:=by omega
         rw [List.take_length] at hI
         unfold okM;rw [decide_eq_true_eq];exact ⟨hex.1,hex.2,hI⟩
     · cases ex with
       | inl e=>obtain ⟨rfl,h⟩:=Ac;exact ABj (hF h)
       | inr u=>
         dsimp only at Ac ⊢
         have hv:=Ac
         unfold okM at hv;rw [decide_eq_true_eq] at hv
         have hcA:∀ z∈A,z.length=AKz A:=fun z hz=>(hv.2.2 z hz).2.2
         have Ag:1<=AKz A/\AKz A<=16:=by have:=hv.2.2 z0 (List.mem_of_getElem? Ab);omega
         refine ACa Ab rfl (ABn (AC6 (AW0 (by omega) (by omega) (by omega))) fun O hO=>?_)
         subst hO
         rw [<- hc]
         refine ABn (AC0 (fun i s=>s=((i:Int),A.take i ++ List.replicate (A.length - i) (List.replicate (AKz A) 0))) A.length (Q:=(· =A)) (by simp) (by omega) fun i s hi hI=>?_) fun x hx=>ABj (hx ▸ hT Ac)
         subst hI
         unfold AH7
         dsimp only
         refine AB5 (fun h=>?_) (fun h=>ABj ?_)
         · have hi':i < A.length:=by omega
           obtain ⟨row,hrow⟩:∃ row,A[i]? =some row:=⟨A[i],List.getElem?_eq_getElem hi'⟩
           have hrl:=hcA row (List.mem_of_getElem? hrow)
           refine ACa hrow rfl (ABn (AC0 (fun j s=>s=((j:Int),A.take i ++ (row.take j ++ List.replicate (AKz A - j) 0) :: List.replicate (A.length - i - 1) (List.replicate (AKz A) 0))) row.length (Q:=(· =A.take i ++ row :: List.replicate (A.length - i - 1) (List.replicate (AKz A) 0))) ?_ (by omega) fun j s hj hJ=>?_) fun x hx=>ABj ⟨hi',?_⟩)
           · rw [show A.length - i=(A.length - i - 1) + 1 by omega,List.replicate_succ];simp
           · subst hJ
             unfold AH6
             dsimp only
             refine AB5 (fun h2=>?_) (fun h2=>ABj ?_)
             · obtain ⟨x,hx⟩:∃ x,row[j]? =some x:=⟨row[j]'(by omega),List.getElem?_eq_getElem _⟩
               have hxr:=hr row (List.mem_of_getElem? hrow) x (List.mem_of_getElem? hx)
               refine ACa (n:=i) (x:=row.take j ++ List.replicate (AKz A - j) 0) ?_ rfl (ACa hrow rfl (ACa hx rfl (ABn (Q:=(· =x)) ⟨x,if_pos hxr,rfl⟩ fun y hy=>ACa (n:=j) (x:=0) ?_ rfl (ABj ⟨by omega,?_⟩))))
               · rw [List.getElem?_append_right (by simp;omega),List.length_take,Nat.min_eq_left (by omega),Nat.sub_self];rfl
               · rw [List.getElem?_append_right (by simp;omega),List.length_take,Nat.min_eq_left (by omega),Nat.sub_self,List.getElem?_replicate,if_pos (by omega)]
               · subst hy
                 rw [wk (by omega),AD1,AD1]
                 congr 1
                 rw [List.set_append_right _ _ (by simp;omega),List.length_take,Nat.min_eq_left (by omega),Nat.sub_self,List.set_cons_zero]
                 congr 2
                 rw [List.set_append_right _ _ (by simp;omega),List.length_take,Nat.min_eq_left (by omega),Nat.sub_self,show AKz A - j=(AKz A - (j + 1)) + 1 by omega,List.replicate_succ,List.set_cons_zero,List.take_add_one,hx]
                 simp
             · obtain rfl:j=row.length:=by omega
               rw [List.take_length,show AKz A - row.length=0 by omega];simp
           · subst hx
             rw [wk (by omega),List.take_add_one,hrow,show A.length - (i + 1)=A.length - i - 1 by omega]
             simp
         · obtain rfl:i=A.length:=by omega
           simp
 have:=key (fun r=>r=if okM A then (A,true) else ([],false)) (fun h=>by rw [h];rfl) (fun h=>by rw [h];rfl);unfold ADm at this;exact this
theorem As3 {fuel:Nat} {A:List (List Int)} (hr:∀ z∈A,∀ x∈z,-9223372036854775808<=x/\x<=9223372036854775807) (hf:17 < fuel):AE8 fuel A=some (if okM A then A else []):=by
 unfold AE8;rw [AWg hr hf];cases okM A <;> rfl
theorem Ade {z:Int}:AHb z=0↔z=0:=by
 unfold AHb;split
 ·omega
 ·split <;> omega
theorem Abd {r c i j:Nat} {F:Nat->Nat->Int} {x:Int}:sI (tab r c F) (i:Int) (sI (AD6 c (F i)) (j:Int) x)=tab r c (ADe F i fun q=>if q=j then x else F i q):=by
 rw [AD1,AD1,AFt];exact Alf
theorem AWh {a b D:Nat} (hG:2 * (D * D) < AEr) (ha:a<=D) (hb:b<=D):a * b < AEr:=by
 have:=Nat.mul_le_mul ha hb;omega
theorem Aow {a D:Nat} (hG:2 * (D * D) < AEr) (ha:a<=D):a < AEr:=by
 rcases Nat.eq_zero_or_pos D with h | h
 ·subst h;have:0 < AEr:=by decide
  omega
 ·have h2:=Nat.mul_le_mul h (Nat.le_refl D);omega
theorem AVy {fuel D:Nat} {a b:Int} (hG:2 * (D * D) < AEr) (ha:a.natAbs<=D) (hb:b.natAbs<=D):APs fuel a b=some (a * b):=if_pos (AWh hG ha hb)
theorem AZx {D:Nat} {a b:Int} (hG:2 * (D * D) < AEr) (ha:a.natAbs<=D) (hb:b.natAbs<=D):(a * b).natAbs < AEr:=by rw [Int.natAbs_mul];exact AWh hG ha hb
theorem Alw {D:Nat} {a b c d:Int} (hG:2 * (D * D) < AEr) (ha:a.natAbs<=D) (hb:b.natAbs<=D) (hc:c.natAbs<=D) (hd:d.natAbs<=D):(a * b - c * d).natAbs < AEr:=by
 have h1:=Nat.mul_le_mul ha hb;have h2:=Nat.mul_le_mul hc hd;rw [<- Int.natAbs_mul] at h1 h2;omega
theorem Aox {fuel n M N:Nat} {F:Nat->Nat->Int} (hM:1<=M) (hG:2 * (dBd M (N + 1) * dBd M (N + 1)) < AEr) (hnN:n<=N) (hn:n<=16) (hb:∀ i j,(F i j).natAbs<=M) (hf:17 < fuel):AC4 fuel (tab n n F)=some (det n F):=by
 apply ok_eq;unfold AC4;refine ABn (AC6 (Ahc (by rw [ADa];omega) (fun z hz=>by rw [AXk z hz];omega) (by rw [ADa];omega))) fun A hA=>?_;subst hA;refine ABn (Q:=(· =1)) ⟨1,if_pos (by omega),rfl⟩ fun one h1=>?_;subst h1;have hD:dBd M n<=dBd M (N + 1):=AO7 hM (by omega);have Ap:dBd M (n + 1)<=dBd M (N + 1):=AO7 hM (by omega);refine ABn (AC0 (fun k s=> ∃ G last neg,s=(neg,((k:Int),tab n n G,last))/\AVw M F n k G last neg) n (Q:=fun ex=>match ex with | .inl e=>e=det n F | .inr (neg,last)=>det n F=if neg then -last else last) ⟨F,1,false,rfl,Afq hb⟩ (by omega) fun k s hk hI=>?_) fun ex hex=>?_
 ·obtain ⟨G,last,neg,rfl,hB⟩:=hI;unfold AGy;dsimp only;rw [ADa];refine AB5 (fun h=>?_) (fun h=>ABj ?_)
  ·have hk':k < n:=by omega
   refine ABn (Q:=fun ex=>match ex with | .inl e=>e=det n F | .inr (neg',a',last')=> ∃ G',a'=tab n n G'/\AVw M F n (k + 1) G' last' neg') ?_ fun ex hex=>?_
   ·refine ABn (Q:=fun (e:Int)=> ∃ p:Nat,e=p/\k<=p/\p<=n/\(∀ i,k<=i->i < p->G i k=0)/\(p < n->G p k≠0)) (ABn (AC0 (fun j (s:Int)=>s=((k + j:Nat):Int)/\k + j<=n/\ ∀ i,k<=i->i < k + j->G i k=0) (n - k) (Q:=fun (e:Int)=> ∃ p:Nat,e=p/\k<=p/\p<=n/\(∀ i,k<=i->i < p->G i k=0)/\(p < n->G p k≠0)) ⟨rfl,by omega,fun i h1 h2=>by omega⟩ (by omega) fun j s hj hJ=>?_) fun e he=>ABj he) fun e he=>?_
    ·obtain ⟨rfl,hjn,hz⟩:=hJ;unfold AGv;rw [ADa];refine ABn (Q:=fun ex=>match ex with | .inl _=>k + j < n/\G (k + j) k=0 | .inr _=>k + j < n->G (k + j) k≠0) (AB5 (fun h2=>ACa (ADc (by omega)) rfl (ACa (ACo (by omega)) rfl (ABn (AC6 (a:=AHb (G (k + j) k)) rfl) fun sg hsg=>AB5 (fun h3=>ABj ⟨by omega,?_⟩) fun h3=>ABj fun _=>?_))) fun h2=>ABj fun h3=>by omega) fun ex hex=>?_
     ·subst hsg;exact Ade.1 h3
     ·subst hsg;exact fun h4=>h3 (Ade.2 h4)
     ·cases ex with
      | inl u=>exact ABj ⟨by omega,by rw [wk (by omega)];omega,by omega,fun i h1 h2=>by
          rcases Nat.lt_or_ge i (k + j) with h3 | h3
          · exact hz i h1 h3
          · obtain rfl:i=k + j:=by omega
            exact hex.2⟩
      | inr u=>exact ABj ⟨k + j,rfl,by omega,hjn,hz,hex⟩
    ·obtain ⟨p,rfl,hkp,hpn,hz,hp⟩:=he;refine AB5 (fun h2=>ABj ?_) (fun h2=>?_)
     ·obtain rfl:p=n:=by omega
      exact (Ait hB hk' hz).symm
     ·have hp':p < n:=by omega
      refine ABn (Q:=fun (r:Bool × List (List Int))=> ∃ G',r.2=tab n n G'/\AVw M F n k G' last r.1/\G' k k≠0) (AB5 (fun h3=>ACa (ADc (by omega)) rfl (ACa (ADc (by omega)) rfl (ABj ⟨AFk G p k,?_,Air hB (by omega) hp',?_⟩))) fun h3=>ABj ⟨G,rfl,hB,?_⟩) fun r hr=>?_
      ·dsimp only;rw [AD1,AD1];show ((tab n n G).set p (AD6 n (G k))).set k (AD6 n (G p))=_;rw [show AD6 n (G k)=(List.range n).map (G k) from rfl,show AD6 n (G p)=(List.range n).map (G p) from rfl,AHr,AHr];rfl
      ·rw [AKl,if_pos rfl];exact hp hp'
      ·obtain rfl:p=k:=by omega
       exact hp hp'
      ·obtain ⟨Aq,a2⟩:=r;obtain ⟨G2,Ag,Af,hne⟩:=hr;dsimp only at Ag Af ⊢;subst Ag;have hlast:=Aiu hM Af (by omega);have habs:∀ i j,k<=i->i < n->k<=j->j < n->(G2 i j).natAbs<=dBd M (N + 1):=fun i j h1 h2 h3 h4=>Nat.le_trans (Alu hM Af hk' h1 h2 h3 h4).1 hD;have hl':last.natAbs<=dBd M (N + 1):=Nat.le_trans hlast.2 hD;rw [wk (by omega)];refine ABn (AC0 (fun i s=>s=(((k + 1 + i:Nat):Int),tab n n (bF k G2 last (k + 1 + i) (k + 1)))/\k + 1 + i<=n) (n - (k + 1)) (Q:=(· =tab n n (bF k G2 last n (k + 1)))) ⟨by rw [Nat.add_zero,Alq];simp,by omega⟩ (by omega) fun i s hi hI=>?_) fun a3 Ah=>?_
       ·obtain ⟨rfl,hin⟩:=hI;unfold AGx;dsimp only;rw [ADa];obtain ⟨q,hq⟩:∃ q,k + 1 + i=q:=⟨_,rfl⟩;rw [hq] at hin ⊢;refine AB5 (fun h3=>?_) (fun h3=>ABj ?_)
        ·have hqn:q < n:=by omega
         rw [wk (by omega)];refine ABn (AC0 (fun j s=>s=(((k + 1 + j:Nat):Int),tab n n (bF k G2 last q (k + 1 + j)))/\k + 1 + j<=n) (n - (k + 1)) (Q:=(· =tab n n (bF k G2 last q n))) ⟨by simp,by omega⟩ (by omega) fun j s hj hJ=>?_) fun a4 Ai=>ABj ?_
         ·obtain ⟨rfl,hjn⟩:=hJ;unfold AGw;dsimp only;rw [ADa];obtain ⟨c,hc⟩:∃ c,k + 1 + j=c:=⟨_,rfl⟩;rw [hc] at hjn ⊢;refine AB5 (fun h4=>?_) (fun h4=>ABj ?_)
          ·have hcn:c < n:=by omega
           refine ACa (ADc hqn) rfl (ACa (ADc hk') rfl (ACa (ACo hk') rfl (ACa (ACo hcn) rfl ?_)));rw [Alr,As2];refine ABn (AC6 (AVy hG (habs _ _ (by omega) (by omega) (by omega) (by omega)) (habs _ _ (by omega) (by omega) (by omega) (by omega)))) fun x1 Aj=>ACa (ACo hk') rfl (ACa (ACo hcn) rfl ?_);subst Aj;rw [As1,Alr];refine ABn (AC6 (AVy hG (habs _ _ (by omega) (by omega) (by omega) (by omega)) (habs _ _ (by omega) (by omega) (by omega) (by omega)))) fun x2 Ak=>?_;subst Ak;refine ABn (Q:=(· =G2 k k * G2 q c - G2 q k * G2 k c)) ⟨_,if_pos ⟨AZx hG (habs _ _ (by omega) (by omega) (by omega) (by omega)) (habs _ _ (by omega) (by omega) (by omega) (by omega)),AZx hG (habs _ _ (by omega) (by omega) (by omega) (by omega)) (habs _ _ (by omega) (by omega) (by omega) (by omega))⟩,rfl⟩ fun x3 Am=>?_
           ·subst Am;refine ABn (Q:=(· =bQ k G2 last q c)) ?_ fun x4 Ao=>ABj ⟨by omega,?_,by omega⟩
            ·unfold AD9 AUt;rw [if_pos ⟨Alw hG (habs _ _ (by omega) (by omega) (by omega) (by omega)) (habs _ _ (by omega) (by omega) (by omega) (by omega)) (habs _ _ (by omega) (by omega) (by omega) (by omega)) (habs _ _ (by omega) (by omega) (by omega) (by omega)),Aow hG hl',hlast.1⟩];exact ⟨_,rfl,rfl⟩
            ·subst Ao;rw [wk (by omega),Abd,Arl k G2 last (by omega) (by omega)];congr 1
             ·omega
             ·rw [<- Nat.add_assoc,hc]
          ·obtain rfl:c=n:=by omega
           rfl
         ·subst Ai;refine ⟨by omega,?_,by omega⟩;rw [wk (by omega)];congr 1
          ·omega
          ·refine AVi fun r c hr hc=>?_;rw [Ark k n G2 last q hc,<- Nat.add_assoc,hq]
        ·obtain rfl:q=n:=by omega
         rfl
       ·subst Ah;refine ACa (ADc hk') rfl (ACa (ACo hk') rfl (ABj ⟨_,rfl,?_⟩));rw [Alr];exact Ais Af hk' hne
   ·match ex,hex with
    | .inl e,hex=>exact ABj hex
    | .inr (neg',a',last'),hex=>
      obtain ⟨G',rfl,hB'⟩:=hex
      exact ABj ⟨hk',G',last',neg',by rw [wk (by omega)];rfl,hB'⟩
  ·obtain rfl:k=n:=by omega
   exact Als hB
 ·match ex,hex with
  | .inl e,hex=>exact ABj hex
  | .inr (neg,last),hex=>
    dsimp only at hex ⊢
    rw [hex]
    refine AB5 (fun h=>ABn (AC6 (a:= -last) rfl) fun x hx=>ABj ?_) (fun h=>ABj ?_)
    · rw [hx,h];rfl
    · rw [if_neg h]
def AGi:Nat:=2 ^ 100
theorem Ahd:2 * (dBd AGi (8 + 1) * dBd AGi (8 + 1)) < AEr:=by decide
theorem AUw {fuel n:Nat} {F:Nat->Nat->Int} (hn:n<=8) (hb:∀ i j,i < n->j < n->(F i j).natAbs<=AGi) (hf:17 < fuel):AC4 fuel (tab n n F)=some (det n F):=by
 have e1:tab n n F=tab n n fun i j=>if i < n/\j < n then F i j else 0:=by
   rw [ANr,ANr]
   exact AC7 fun i hi=>AC7 fun j hj=>by rw [if_pos ⟨hi,hj⟩]
 have e2:det n F=det n fun i j=>if i < n/\j < n then F i j else 0:=ADf fun i j hi hj=>by rw [if_pos ⟨hi,hj⟩]
 rw [e1,e2];refine Aox (by decide) Ahd hn (by omega) (fun i j=>?_) hf;split
 ·next h=>exact hb i j h.1 h.2
 ·exact Nat.zero_le _
theorem Aoy:FdT Tryz.prog 26 0 0 5:=⟨_,_,Tryz.underlying26,rfl,rfl,rfl⟩
theorem Aoz:FdT Tryz.prog 26 1 1 5:=⟨_,_,Tryz.underlying26,rfl,rfl,rfl⟩
theorem Ao0:FdT Tryz.prog 26 2 2 24:=⟨_,_,Tryz.underlying26,rfl,rfl,rfl⟩
theorem Alx:AgT Tryz.prog 26 4:=Aag Tryz.underlying26 rfl (by kernel_rfl)
end Go.Proofs.YtiegjkmfpcgjjaaGreatDoor
