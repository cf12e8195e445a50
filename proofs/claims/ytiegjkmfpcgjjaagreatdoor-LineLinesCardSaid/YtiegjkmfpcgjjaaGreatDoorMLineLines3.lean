/-
  Texts of a proof, joined. Conditions stand in each statement.
-/
import Derived.Test.YtiegjkmfpcgjjaaGreatDoorMLineLines2
set_option linter.unusedVariables false
set_option linter.unusedSimpArgs false
namespace Go.QF
open Go
section
variable {P:Program} {ops:Array Oper} {B:ABj->Prop}
def isA (m k i:Nat):Bool:=Nat.ble m i && Nat.blt i (m + k)
def Aow (ops:Array Oper) (m:Nat) (ds:List Nat):Bool:=
  Nat.ble (m + ds.length) ops.size && (decide ds.Nodup && (List.range ds.length).all fun q=>match ops[m + q]?,ds[q]? with | some o,some d=>o.dst == some d | _,_=>false) && (List.range ops.size).all fun j=>match ops[j]? with
    | none=>false
    | some oj=>oj.after.all (fun ed=> !Region.binds .any ed || Nat.blt ed.on j) && (!Nat.blt j m || ds.all fun d=> !(oj.looksAt ops).contains d && oj.dst != some d) &&
      (List.range j).all fun i=>match ops[i]? with
        | none=>false
        | some oi=>match isA m ds.length i,isA m ds.length j with
          | false,false=>ahead ops i j || indep true ops oi oj
          | true,false=>ahead ops i j
          | _,true=>true
theorem Afg {m k i:Nat}:(isA m k i=true↔m<=i/\i < m + k):=by
 unfold isA;rw [Bool.and_eq_true];constructor
 ·rintro ⟨h1,h2⟩;exact ⟨Nat.le_of_ble_eq_true h1,AZr h2⟩
 ·rintro ⟨h1,h2⟩;exact ⟨Nat.ble_eq_true_of_le h1,Nat.ble_eq_true_of_le h2⟩
theorem AWz {m k i:Nat} (h:i < m∨m + k<=i):isA m k i=false:=by
 cases hh:isA m k i with
 | false=>rfl
 | true=>have:=Afg.1 hh;omega
theorem Al1 {m:Nat} {A:List Alv} (H:Aow ops m (A.map Alv.d)=true):Ajw ops m A:=by
 unfold Aow at H;rw [Bool.and_eq_true,Bool.and_eq_true] at H;obtain ⟨⟨h0,h1⟩,H⟩:=H;rw [Bool.and_eq_true] at h1;have h0:=Nat.le_of_ble_eq_true h0;rw [List.length_map] at h0 H
 have key:∀ {j:Nat} {oj:Oper},ops[j]? =some oj->(oj.after.all (fun ed=> !Region.binds .any ed || Nat.blt ed.on j)=true/\(!Nat.blt j m || (A.map Alv.d).all fun d=> !(oj.looksAt ops).contains d && oj.dst != some d)=true)/\
     ((List.range j).all fun i=>match ops[i]? with
       | none=>false
       | some oi=>match isA m A.length i,isA m A.length j with
         | false,false=>ahead ops i j || indep true ops oi oj
         | true,false=>ahead ops i j
         | _,true=>true)=true:=by
   intro j oj hj
   have hlt:j < ops.size:=(Array.getElem?_eq_some_iff.1 hj).1
   have H:=List.all_eq_true.1 H j (List.mem_range.2 hlt)
   simp only [hj,Bool.and_eq_true] at H
   exact H
 refine ⟨h0,fun j oj hj ed hed hbd=>?_,fun i j oi oj hi hj hij hoi hoj=>?_,fun i j oj Ae Af hj hoj=>?_,fun j oj hj hoj=>?_,of_decide_eq_true h1.1,fun q a ha=>?_⟩
 ·have:=Array.all_eq_true_iff_forall_mem.1 (key hj).1.1 ed hed;rw [hbd] at this;exact AZr (by simpa using this)
 ·have:=List.all_eq_true.1 (key hoj).2 i (List.mem_range.2 hij);simp only [hoi,AWz hi,AWz hj,Bool.or_eq_true] at this;rcases this with h | h
  ·exact .inl (AM2 h)
  ·exact .inr h
 ·have hij:i < j:=by omega
  have hs:i < ops.size:=Nat.lt_trans hij (Array.getElem?_eq_some_iff.1 hoj).1;have:=List.all_eq_true.1 (key hoj).2 i (List.mem_range.2 hij);simp only [Array.getElem?_eq_getElem hs,Afg.2 ⟨Ae,Af⟩,AWz (.inr hj)] at this;exact AM2 this
 ·have:=(key hoj).1.2;have hb:Nat.blt j m=true:=Nat.ble_eq_true_of_le hj;rw [hb,Bool.not_true,Bool.false_or] at this
  have h2:∀ a∈A,a.d ∉ oj.looksAt ops/\oj.dst≠some a.d:=fun a ha=>by
    have:=List.all_eq_true.1 this a.d (List.mem_map.2 ⟨a,ha,rfl⟩)
    simpa using this
  exact ⟨fun a ha=>(h2 a ha).1,fun a ha=>(h2 a ha).2⟩
 ·have hq:q < A.length:=(List.getElem?_eq_some_iff.1 ha).1;have h2:=List.all_eq_true.1 h1.2 q (List.mem_range.2 (by simpa using hq));have h3:ops[m + q]? =some (ops[m + q]'(by omega)):=Array.getElem?_eq_getElem (by omega);simp only [h3,List.getElem?_map,ha,Option.map_some,beq_iff_eq] at h2;exact ⟨_,h3,h2⟩
variable {Q:Exit->Env->ABj->Prop} {e:Env} {h:ABj}
theorem AYd {id:Nat} {l:List Oper} (m:Nat) (A:List Alv) (hBx:∀ h h',B h->Ext h h'->B h') (hok:Aow l.toArray m (A.map Alv.d)=true) (hB:B h) (hal:Ash P B l.toArray m A) (H:HRf P B l.toArray (l.take m) e h (fun _=>True) (KA A h fun bl e' h'=>RL P B true l.toArray (l.drop (m + A.length)) (setO A (bl.map some) e') h' (Q .normal))):W P (.region id l.toArray true) Q e h:=by
 intro hmx n id a w Q' hb r hw hQ;subst hw;have S:=Al1 hok;have hle:=S.le;simp only [List.size_toArray] at hle;have hsz:l.toArray.size=l.length:=by simp
 have Ad:∀ (s n:Nat),s + n<=l.length->(List.range' s n).map (fun i=>l.toArray[i]?)=((l.drop s).take n).map some:=by
   intro s n hn
   apply List.ext_getElem?
   intro k
   simp only [List.getElem?_map,List.getElem?_take,List.getElem?_drop]
   by_cases hk:k < n
   · rw [List.getElem?_range' hk,if_pos hk]
     have:s + k < l.length:=by omega
     simp [this]
   · rw [if_neg hk,List.getElem?_eq_none (by simp;omega)]
     rfl
 refine wp_region_draw fun t=>?_;simp only [Region.schedule,hmx,Bool.true_or,if_true]
 have hs:List.range l.toArray.size=List.range m ++ (List.range' m A.length ++ List.range' (m + A.length) (l.length - (m + A.length))):=by
   rw [hsz,List.range_eq_range',List.range_eq_range']
   rw [List.range'_append_1]
   have:List.range' m (A.length + (l.length - (m + A.length)))=List.range' (0 + m) (A.length + (l.length - (m + A.length))):=by rw [Nat.zero_add]
   rw [this,List.range'_append_1]
   congr 1
   omega
 have htl:((l.drop (m + A.length)).take (l.length - (m + A.length)))=l.drop (m + A.length):=List.take_of_length_le (by simp)
 have Hi:HI P B l.toArray (List.range m) e w.heap (fun _=>True) (KA A w.heap fun bl e' h'=>LI P B true l.toArray (List.range' (m + A.length) (l.length - (m + A.length))) (setO A (bl.map some) e') h' fun e2 h2=>Q .normal e2 h2/\ ∀ t,(∀ o∈l,o.dst≠some t)->e2 t=e t):=by
   refine Aos (List.range m) (l.take m) (by rw [List.range_eq_range'];have:=Ad 0 m (by omega);simpa using this) e w.heap _ ?_
   have frame:∀ (L:List Oper) (e:Env) (h:ABj) (N:Nat->Prop) (K K':Env->ABj->(Nat->Prop)->Prop),(∀ e1 h N,(∀ t,(∀ o∈L,o.dst≠some t)->e1 t=e t)->K e1 h N->K' e1 h N)->HRf P B l.toArray L e h N K->HRf P B l.toArray L e h N K':=by
     intro L
     induction L with
     | nil=>intro e h N K K' hK H h' E;exact hK _ _ _ (fun t _=>rfl) (H h' E)
     | cons o L ih=>
       intro e h N K K' hK H
       have put:∀ v t,(∀ o'∈o :: L,o'.dst≠some t)->e.put o.dst v t=e t:=fun v t ht=>by
         cases hd:o.dst with
         | none=>rfl
         | some d=>exact Env.set_other _ _ (fun he=>ht o (List.mem_cons_self ..) (by rw [hd,he]))
       simp only [HRf] at H ⊢
       cases he:AM5 o with
       | true=>simp only [he,cond_true] at H ⊢;exact fun h1 E=>(H h1 E).mono fun v h' hh=>⟨hh.1,ih _ _ _ _ _ (fun e1 h2 N2 hf hk=>hK _ _ _ (fun t ht=>(hf t fun o' ho'=>ht o' (List.mem_cons_of_mem _ ho')).trans (put v t ht)) hk) hh.2⟩
       | false=>simp only [he,cond_false] at H ⊢;exact H.mono fun v h' hh=>ih _ _ _ _ _ (fun e1 h2 N2 hf hk=>hK _ _ _ (fun t ht=>(hf t fun o' ho'=>ht o' (List.mem_cons_of_mem _ ho')).trans (put v t ht)) hk) hh
   refine frame _ _ _ _ _ _ (fun e1 h1 N1 hf hk bl b1 b2 b3=>?_) H
   refine AT9 _ (l.drop (m + A.length)) ?_ _ _ (RL.mono (fun e2 h2 hq=>⟨hq.1,fun t ht=>?_⟩) (RL.frame0 (hk bl b1 b2 b3)))
   · rw [Ad _ _ (by omega),htl]
   · rw [hq.2 t fun o ho=>ht o (List.mem_of_mem_drop ho),Asg,hf t fun o ho=>ht o (List.mem_of_mem_take ho)]
     intro x hx he
     obtain ⟨q,Aj⟩:=List.getElem?_of_mem hx
     obtain ⟨o,ho,hd⟩:=S.al q x Aj
     exact ht o (List.mem_of_getElem? (by simpa using ho)) (by rw [hd,he])
 refine wpAny_sound l.toArray.size t _ a _ (Aov (B:=B) (T:=List.range' (m + A.length) (l.length - (m + A.length))) S hb hBx hal (fun j hj=>(List.mem_range'_1.1 hj).1) l.toArray.size (List.range m) (List.range' m A.length) (List.replicate A.length none) (Array.replicate l.toArray.size false) e a { w with drawn:=w.drawn + 1 } (fun _=>True) (fun j hj=>List.mem_range.1 hj)
   (fun j hj=>by
     have:=List.mem_range'_1.1 hj
     exact ⟨this.1,this.2,by rw [List.getElem?_replicate,if_pos (by omega)]⟩)
   (fun q hq=>by
     rw [List.getElem?_replicate] at hq
     split at hq
     · exact List.mem_range'_1.2 ⟨by omega,by omega⟩
     · cases hq)
   (by simp) (by rw [<- hs];simp) (by rw [<- hs];exact Abn l.toArray) (by rw [Aly];exact r) (Ext.refl _) hB
   (fun q b x hq hx=>by rw [List.getElem?_replicate] at hq;split at hq <;> cases hq) (fun q q' b hq=>by rw [List.getElem?_replicate] at hq;split at hq <;> cases hq) (fun b _=>trivial) Hi
   (fun e' a' w' r' s k=>hQ e' a' w' r' ⟨s.os,s.tape,s.output⟩ k.1 fun t ht=>k.2 t fun o ho=>ht o (by simpa using ho)))
variable {K:Env->ABj->(Nat->Prop)->Prop} {N:Nat->Prop}
theorem h_l {o:Oper} {l:List Oper} (hl:AM5 o=false) (H:RL P B true ops [o] e h fun e' h'=>HRf P B ops l e' h' N K):HRf P B ops (o :: l) e h N K:=by
 simp only [HRf,hl,cond_false];exact H
theorem h_e {o:Oper} {l:List Oper} (hl:AM5 o=true) (H:∀ h1,Ext h h1->RL P B true ops [o] e h1 fun e' h'=>Ext h1 h'/\HRf P B ops l e' h' (fun b=>N b/\Off h1.size h'.size b) K):HRf P B ops (o :: l) e h N K:=by
 simp only [HRf,hl,cond_true];exact H
theorem Ajx (H:∀ h1,Ext h h1->K e h1 N):HRf P B ops [] e h N K:=H
theorem Axl {a:Alv} {h0:ABj} {G:List Nat->Env->ABj->Prop} (H:∀ b,AEj a.t h b a.z->h0.size<=b->N b->G [b] e h):KA [a] h0 G e h N:=by
 intro bl hl hn hb
 match bl,hl with
 | [b],_=>
   obtain ⟨h1,h2,h3⟩:=hb 0 b a rfl rfl
   exact H b h1 h2 h3
theorem Axm {a c:Alv} {h0:ABj} {G:List Nat->Env->ABj->Prop} (H:∀ b d,AEj a.t h b a.z->AEj c.t h d c.z->b≠d->h0.size<=b->h0.size<=d->N b->N d->G [b,d] e h):KA [a,c] h0 G e h N:=by
 intro bl hl hn hb
 match bl,hl with
 | [b,d],_=>
   obtain ⟨h1,h2,h3⟩:=hb 0 b a rfl rfl
   obtain ⟨g1,g2,g3⟩:=hb 1 d c rfl rfl
   exact H b d h1 g1 (fun he=>by simp [he] at hn) h2 g2 h3 g3
theorem Ah0 {t bytes d:Nat} {z:Value} {ty:TypeId} {pos:String} {af:Array Edge} {l:List Value} (hz:ZeT P t z bytes) (hl:z.cells=l.toArray) (hBx:∀ h h',B h->Ext h h'->B h') (e:Env) (h:ABj) (hb:B h):GOp P B true ops ⟨some d,.alloc t,ty,pos,af,none⟩ e h fun e' h'=> ∃ b,e'=e.set d (AUo b)/\Ext h h'/\AEj t h' b l/\h.size<=b:=
  AD2 (rest:=[]) (K:=fun e' h'=> ∃ b,e'=e.set d (AUo b)/\Ext h h'/\AEj t h' b l/\h.size<=b) l hz hl hb (fun h' E=>hBx _ _ hb E) fun b h' hx E S=>⟨b,rfl,E,hx,(S.lo 0 rfl b (by simp)).1⟩
theorem Aox {m:Nat} {a:Alv} {ty:TypeId} {pos:String} {af:Array Edge} {bytes:Nat} {z:Value} (ho:ops[m]? =some ⟨some a.d,.alloc a.t,ty,pos,af,none⟩) (hz:ZeT P a.t z bytes) (hl:z.cells=a.z.toArray) (hBx:∀ h h',B h->Ext h h'->B h'):Ash P B ops m [a]:=by
 intro q x o hq hoq e h hb
 match q,hq with
 | 0,hq=>
   cases hq
   rw [Nat.add_zero,ho] at hoq
   cases hoq
   exact Ah0 hz hl hBx e h hb
theorem Aoy {m:Nat} {a c:Alv} {ty ty':TypeId} {pos pos':String} {af af':Array Edge} {bytes bytes':Nat} {z z':Value} (ho:ops[m]? =some ⟨some a.d,.alloc a.t,ty,pos,af,none⟩) (ho':ops[m + 1]? =some ⟨some c.d,.alloc c.t,ty',pos',af',none⟩) (hz:ZeT P a.t z bytes) (hl:z.cells=a.z.toArray) (hz':ZeT P c.t z' bytes') (hl':z'.cells=c.z.toArray) (hBx:∀ h h',B h->Ext h h'->B h'):Ash P B ops m [a,c]:=by
 intro q x o hq hoq e h hb
 match q,hq with
 | 0,hq=>
   cases hq
   rw [Nat.add_zero,ho] at hoq
   cases hoq
   exact Ah0 hz hl hBx e h hb
 | 1,hq=>
   cases hq
   rw [ho'] at hoq
   cases hoq
   exact Ah0 hz' hl' hBx e h hb
theorem Ah1 {h h':ABj} {b d:Nat} (h1:h.size<=b) (h2:h.size<=d) (h3:b < h'.size) (h4:d < h'.size) (hne:b≠d):Sp h' h.size [[b],[d]]:=⟨by simp [hne],fun x hx=>by simp at hx;omega⟩
end
end Go.QF
namespace Go.QF
open Go
def AX5 (h:ABj) (v:Value) (n d:Int):Prop:= ∃ c1 c2,v= .agg (c1 ++ c2).toArray/\cZ.rep h n c1/\cZ.rep h d c2
theorem ADr {h h':ABj} {n d:Int} {c1 c2:List Value} (H1:cZ.rep h n c1) (H2:cZ.rep h' d c2):(c1 ++ c2).length=4:=by
 rw [List.length_append,cZ.klen H1,cZ.klen H2];rfl
theorem ALl {h h':ABj} {n d:Int} {c1 c2:List Value} (H1:cZ.rep h n c1) (H2:cZ.rep h' d c2):∀ u∈c1 ++ c2,isOne u=true:=fun u hu=>
  (List.mem_append.1 hu).elim (cZ.one H1 u) (cZ.one H2 u)
theorem AEj.aggL {t:Nat} {h:ABj} {b:Nat} {l l2:List Value} (H:AEj t h b (l ++ l2)):∀ i u,l[i]? =some u->AEx h ((⟨b,0,none⟩:Addr).add i)=some u:=by
 intro i u hu;refine H.agg i u ?_;rw [List.getElem?_append_left (List.getElem?_eq_some_iff.1 hu).1];exact hu
theorem AEj.aggR {t:Nat} {h:ABj} {b:Nat} {l l2:List Value} (H:AEj t h b (l ++ l2)) (hl:l.length=2):∀ i u,l2[i]? =some u->AEx h ((⟨b,2,none⟩:Addr).add i)=some u:=by
 intro i u hu;have h1:=H.cell (i:=2 + i) (u:=u) (by rw [List.getElem?_append_right (by omega),hl,show 2 + i - 2=i by omega];exact hu);rw [AGk];exact h1
theorem Afh {h:ABj} {z:Int} {cs:List Value} (H:cZ.rep h z cs):∃ b a n c,cs=[.bool b,.slice a n c]:=by
 obtain ⟨hl,n,s,L,h1,h2,h3⟩:=H;obtain ⟨a,m,c,rfl,_⟩:=h2.cap;refine ⟨n,a,m,c,?_⟩;injection h1 with h1;have:=congrArg Array.toList h1;simpa using this
end Go.QF
namespace Go.Proofs.YtiegjkmfpcgjjaaGreatDoor
open Go Go.QF
theorem AGl:AgT Tryz.prog 120 4:=Acq Tryz.underlying120 rfl (by kernel_rfl)
theorem AOx:ZeT Tryz.prog 120 (.agg #[.bool false,.slice none 0 0,.bool false,.slice none 0 0]) 64:=ATk (by kernel_rfl)
theorem AYe:FdT Tryz.prog 120 0 0 109:=⟨_,_,Tryz.underlying120,rfl,rfl,rfl⟩
theorem AUa:FdT Tryz.prog 120 1 2 109:=⟨_,_,Tryz.underlying120,rfl,rfl,rfl⟩
theorem Ah2 (w:World):(Instr.build 120 #[]).run Tryz.prog w= .ok (.agg #[.bool false,.slice none 0 0,.bool false,.slice none 0 0]) w:=by kernel_rfl
theorem Ah3 (b b':Bool) (a a':Option Addr) (n n' c c':Nat) (w:World):(Instr.build 120 #[(0,.agg #[.bool b,.slice a n c]),(1,.agg #[.bool b',.slice a' n' c'])]).run Tryz.prog w= .ok (.agg #[.bool b,.slice a n c,.bool b',.slice a' n' c']) w:=by kernel_rfl
theorem AUb {h h':ABj} {n d:Int} {c1 c2:List Value} (H1:cZ.rep h n c1) (H2:cZ.rep h' d c2) (w:World):(Instr.build 120 #[(0,.agg c1.toArray),(1,.agg c2.toArray)]).run Tryz.prog w= .ok (.agg (c1 ++ c2).toArray) w:=by
 obtain ⟨b,a,n,c,rfl⟩:=Afh H1;obtain ⟨b',a',n',c',rfl⟩:=Afh H2;exact Ah3 _ _ _ _ _ _ _ _ w
end Go.Proofs.YtiegjkmfpcgjjaaGreatDoor
namespace Go.Proofs.YtiegjkmfpcgjjaaGreatDoor
open Go Go.QF
set_option maxRecDepth 100000
structure Asr where
  F:List Nat
  P:ABj->Prop
  up:∀ {G:List Nat} {h h':ABj},UpT G h h'->(∀ b∈F,b ∉ G)->P h->P h'
def aZ (cs:List Value) (x:Int):Asr:=⟨[],fun h=>cZ.rep h x cs,fun U _ H=>cZ.upT H U⟩
def aB (t b:Nat) (l:List Value):Asr:=⟨[b],fun h=>AEj t h b l,fun U d H=>H.upT U d⟩
def aO {α:Type} (c:Cod α) (el:Nat) (F:List Nat) (v:Value) (x:List α):Asr:=⟨F,fun h=>OwC c el h F v x,fun U d H=>H.upT U d⟩
def aO2 {α:Type} (c:Cod α) (er el:Nat) (F:List Nat) (Gs:List (List Nat)) (rs:List Value) (v:Value) (x:List (List α)):Asr:=⟨F,fun h=>AFh c er el h F Gs rs v x,fun U d H=>H.upT U d⟩
def aC (p:Prop):Asr:=⟨[],fun _=>p,fun _ _ H=>H⟩
def ATs (h:ABj):List Asr->Prop
  | []=>True
  | a :: l=>a.P h/\ATs h l
def fps:List Asr->List (List Nat)
  | []=>[]
  | a :: l=>a.F :: fps l
def AMg:List Asr->Nat->Asr
  | [],_=>aC True
  | a :: _,0=>a
  | _ :: l,i + 1=>AMg l i
def AJf (l:List Asr):List Nat->List Asr
  | []=>[]
  | i :: is=>AMg l i :: AJf l is
theorem Asi (l m:List Asr):fps (l ++ m)=fps l ++ fps m:=by
 induction l with
 | nil=>rfl
 | cons a l ih=>simp [fps,ih]
theorem AMs {l:List Asr} {i:Nat} {a:Asr} (h:l[i]? =some a):(fps l)[i]? =some a.F:=by
 induction l generalizing i with
 | nil=>simp at h
 | cons b l ih=>
   cases i with
   | zero=>simp at h;subst h;rfl
   | succ i=>exact ih (by simpa using h)
theorem AV3 {l:List Asr} {i:Nat} {a:Asr}:fps (l.set i a)=(fps l).set i a.F:=by
 induction l generalizing i with
 | nil=>rfl
 | cons b l ih=>
   cases i with
   | zero=>rfl
   | succ i=>simp [fps,ih]
theorem Asj (l:List Asr) (i:Nat):(AMg l i).F=((fps l)[i]?).getD []:=by
 induction l generalizing i with
 | nil=>rfl
 | cons a l ih=>
   cases i with
   | zero=>rfl
   | succ i=>exact ih i
theorem Asl (l:List Asr) (is:List Nat):fps (AJf l is)=is.map fun i=>((fps l)[i]?).getD []:=by
 induction is with
 | nil=>rfl
 | cons i is ih=>simp [AJf,fps,ih,Asj]
theorem ANf {h:ABj} {l:List Asr} (H:ATs h l) {i:Nat} {a:Asr} (e:l[i]? =some a):a.P h:=by
 induction l generalizing i with
 | nil=>simp at e
 | cons b l ih=>
   cases i with
   | zero=>simp at e;subst e;exact H.1
   | succ i=>exact ih H.2 (by simpa using e)
theorem Aoz {h:ABj} {l:List Asr} (H:ATs h l) (i:Nat):(AMg l i).P h:=by
 induction l generalizing i with
 | nil=>exact trivial
 | cons b l ih=>
   cases i with
   | zero=>exact H.1
   | succ i=>exact ih H.2 i
theorem Ao0 {h:ABj} {l m:List Asr} (H:ATs h l) (K:ATs h m):ATs h (l ++ m):=by
 induction l with
 | nil=>exact K
 | cons b l ih=>exact ⟨H.1,ih H.2⟩
theorem Ajy {h h':ABj} {l:List Asr} {G:List Nat} (H:ATs h l) (U:UpT G h h') (d:∀ F∈fps l,∀ b∈F,b ∉ G):ATs h' l:=by
 induction l with
 | nil=>exact trivial
 | cons b l ih=>exact ⟨b.up U (d _ (by simp [fps])) H.1,ih H.2 fun F hF=>d F (by simp [fps,hF])⟩
theorem Afi {h h':ABj} {l:List Asr} {i:Nat} {a a':Asr} {lo:Nat} (H:ATs h l) (S:Sp h lo (fps l)) (e:l[i]? =some a) (U:UpT a.F h h') (Ha:a'.P h'):ATs h' (l.set i a'):=by
 have key:∀ (m:List Asr) (q:Nat),(∀ j x,m[j]? =some x->j≠q-> ∀ b∈x.F,b ∉ a.F)->ATs h m->ATs h' (m.set q a'):=by
   intro m
   induction m with
   | nil=>intro q _ _;exact trivial
   | cons x m ih=>
     intro q hd hm
     cases q with
     | zero=>
       refine ⟨Ha,Ajy hm.2 U fun F hF b hb=>?_⟩
       have:∃ (j:Nat) (y:Asr),m[j]? =some y/\y.F=F:=by
         clear ih hd hm e
         induction m with
         | nil=>simp [fps] at hF
         | cons y m ih=>
           simp only [fps,List.mem_cons] at hF
           rcases hF with rfl | hF
           · exact ⟨0,y,rfl,rfl⟩
           · obtain ⟨j,z,h1,h2⟩:=ih hF
             exact ⟨j + 1,z,by simpa using h1,h2⟩
       obtain ⟨j,y,h1,rfl⟩:=this
       exact hd (j + 1) y (by simpa using h1) (by omega) b hb
     | succ q=>
       refine ⟨x.up U (hd 0 x rfl (by omega)) hm.1,ih q (fun j y hj hn=>hd (j + 1) y (by simpa using hj) (by omega)) hm.2⟩
 exact key l i (fun j x hj hn=>S.dj j i (AMs hj) (AMs e) hn) H
theorem Abr {h:ABj} {l:List Asr} (H:ATs h l) (j:Nat):ATs h (l.set j (aC True)):=by
 induction l generalizing j with
 | nil=>exact trivial
 | cons a l ih=>
   cases j with
   | zero=>exact ⟨trivial,H.2⟩
   | succ j=>exact ⟨H.1,ih H.2 j⟩
theorem _root_.Go.QF.Sp.appF {h h':ABj} {lo:Nat} {Fs Ks:List (List Nat)} (S:Sp h lo Fs) (S':Sp h' h.size Ks) (hs:h.size<=h'.size) (hl:lo<=h.size):Sp h' lo (Ks ++ Fs):=by
 have A:=S.app S' hs hl;refine ⟨?_,fun b hb=>A.2 b (by simp only [List.flatten_append,List.mem_append] at hb ⊢;exact hb.symm)⟩;have:=A.1;simp only [List.flatten_append] at this ⊢;exact (List.perm_append_comm.nodup_iff).1 this
theorem _root_.Go.QF.Sp.put2 {h h':ABj} {lo:Nat} {Fs:List (List Nat)} (S:Sp h lo Fs) (i j:Nat) {F R F':List Nat} (hi:Fs[i]? =some F) (hj:Fs[j]? =some R) (hij:i≠j) (hn:F'.Nodup) (hs:h.size<=h'.size) (hl:lo<=h.size) (hF:∀ x∈F',x < h'.size) (hsub:∀ x∈F',x∈F∨x∈R∨h.size<=x):Sp h' lo ((Fs.set j []).set i F'):=by
 have S1:=S.put j hj List.nodup_nil (Nat.le_refl _) hl (fun x hx=>by simp at hx) (fun x hx=>by simp at hx)
 have at':∀ {k:Nat} {G:List Nat} {x:Nat},(Fs.set j [])[k]? =some G->x∈G->k≠j/\Fs[k]? =some G:=fun {k G x} hG hx=>by
   by_cases hk:k=j
   · subst hk
     have h1:=(List.getElem?_eq_some_iff.1 hj).1
     rw [List.getElem?_set_self h1] at hG
     cases hG;simp at hx
   · rw [List.getElem?_set_ne (Ne.symm hk)] at hG;exact ⟨hk,hG⟩
 refine ⟨ANd S1.1 hn fun x hx k G hk hG hxG=>?_,fun b hb=>?_⟩
 ·obtain ⟨hkj,hG⟩:=at' hG hxG;rcases hsub x hx with h1 | h1 | h1
  ·exact S.dj i k hi hG (fun he=>hk he.symm) x h1 hxG
  ·exact S.dj j k hj hG (fun he=>hkj he.symm) x h1 hxG
  ·have:=(S.lo k hG x hxG).2;omega
 ·rcases AKn hb with h1 | ⟨k,G,hk,hG,hb⟩
  ·refine ⟨?_,hF b h1⟩;rcases hsub b h1 with h2 | h2 | h2
   ·exact (S.lo i hi b h2).1
   ·exact (S.lo j hj b h2).1
   ·omega
  ·obtain ⟨_,hG⟩:=at' hG hb;have:=S.lo k hG b hb;exact ⟨this.1,by omega⟩
def Rep (i:Nat) (l:List Asr) (a a':Asr) (l':List Asr):Prop:=l[i]? =some a/\l'=l.set i a'
theorem p0 {a a':Asr} {l:List Asr}:Rep 0 (a :: l) a a' (a' :: l):=⟨rfl,rfl⟩
theorem p1 {x0 a a':Asr} {l:List Asr}:Rep 1 (x0 :: a :: l) a a' (x0 :: a' :: l):=⟨rfl,rfl⟩
theorem p2 {x0 x1 a a':Asr} {l:List Asr}:Rep 2 (x0 :: x1 :: a :: l) a a' (x0 :: x1 :: a' :: l):=⟨rfl,rfl⟩
theorem p3 {x0 x1 x2 a a':Asr} {l:List Asr}:Rep 3 (x0 :: x1 :: x2 :: a :: l) a a' (x0 :: x1 :: x2 :: a' :: l):=⟨rfl,rfl⟩
theorem p4 {x0 x1 x2 x3 a a':Asr} {l:List Asr}:Rep 4 (x0 :: x1 :: x2 :: x3 :: a :: l) a a' (x0 :: x1 :: x2 :: x3 :: a' :: l):=⟨rfl,rfl⟩
theorem p5 {x0 x1 x2 x3 x4 a a':Asr} {l:List Asr}:Rep 5 (x0 :: x1 :: x2 :: x3 :: x4 :: a :: l) a a' (x0 :: x1 :: x2 :: x3 :: x4 :: a' :: l):=⟨rfl,rfl⟩
theorem p6 {x0 x1 x2 x3 x4 x5 a a':Asr} {l:List Asr}:Rep 6 (x0 :: x1 :: x2 :: x3 :: x4 :: x5 :: a :: l) a a' (x0 :: x1 :: x2 :: x3 :: x4 :: x5 :: a' :: l):=⟨rfl,rfl⟩
theorem p7 {x0 x1 x2 x3 x4 x5 x6 a a':Asr} {l:List Asr}:Rep 7 (x0 :: x1 :: x2 :: x3 :: x4 :: x5 :: x6 :: a :: l) a a' (x0 :: x1 :: x2 :: x3 :: x4 :: x5 :: x6 :: a' :: l):=⟨rfl,rfl⟩
theorem p8 {x0 x1 x2 x3 x4 x5 x6 x7 a a':Asr} {l:List Asr}:Rep 8 (x0 :: x1 :: x2 :: x3 :: x4 :: x5 :: x6 :: x7 :: a :: l) a a' (x0 :: x1 :: x2 :: x3 :: x4 :: x5 :: x6 :: x7 :: a' :: l):=⟨rfl,rfl⟩
theorem p9 {x0 x1 x2 x3 x4 x5 x6 x7 x8 a a':Asr} {l:List Asr}:Rep 9 (x0 :: x1 :: x2 :: x3 :: x4 :: x5 :: x6 :: x7 :: x8 :: a :: l) a a' (x0 :: x1 :: x2 :: x3 :: x4 :: x5 :: x6 :: x7 :: x8 :: a' :: l):=⟨rfl,rfl⟩
theorem p10 {x0 x1 x2 x3 x4 x5 x6 x7 x8 x9 a a':Asr} {l:List Asr}:Rep 10 (x0 :: x1 :: x2 :: x3 :: x4 :: x5 :: x6 :: x7 :: x8 :: x9 :: a :: l) a a' (x0 :: x1 :: x2 :: x3 :: x4 :: x5 :: x6 :: x7 :: x8 :: x9 :: a' :: l):=⟨rfl,rfl⟩
theorem p13 {x0 x1 x2 x3 x4 x5 x6 x7 x8 x9 Ak Am Ao a a':Asr} {l:List Asr}:Rep 13 (x0 :: x1 :: x2 :: x3 :: x4 :: x5 :: x6 :: x7 :: x8 :: x9 :: Ak :: Am :: Ao :: a :: l) a a' (x0 :: x1 :: x2 :: x3 :: x4 :: x5 :: x6 :: x7 :: x8 :: x9 :: Ak :: Am :: Ao :: a' :: l):=⟨rfl,rfl⟩
structure Kst (h0 h:ABj) (l:List Asr):Prop where
  x:Ext h0 h
  s:Sp h h0.size (fps l)
  p:ATs h l
namespace Kst
variable {h0 h h':ABj} {l l':List Asr}
abbrev L (_:Kst h0 h l):List Asr:=l
theorem k0 (h:ABj):Kst h h []:=⟨Ext.refl h,Avo _ _,trivial⟩
theorem z (k:Kst h0 h l) {i:Nat} {cs:List Value} {x:Int} (e:Rep i l (aZ cs x) (aZ cs x) l'):cZ.rep h x cs:=ANf k.p e.1
theorem b (k:Kst h0 h l) {i t b:Nat} {c:List Value} (e:Rep i l (aB t b c) (aB t b c) l'):AEj t h b c:=ANf k.p e.1
theorem o {α:Type} {c:Cod α} (k:Kst h0 h l) {i el:Nat} {F:List Nat} {v:Value} {x:List α} (e:Rep i l (aO c el F v x) (aO c el F v x) l'):OwC c el h F v x:=ANf k.p e.1
theorem o2 {α:Type} {c:Cod α} (k:Kst h0 h l) {i er el:Nat} {F:List Nat} {Gs:List (List Nat)} {rs:List Value} {v:Value} {x:List (List α)} (e:Rep i l (aO2 c er el F Gs rs v x) (aO2 c er el F Gs rs v x) l'):AFh c er el h F Gs rs v x:=ANf k.p e.1
theorem c (k:Kst h0 h l) {i:Nat} {p:Prop} (e:Rep i l (aC p) (aC p) l'):p:=ANf k.p e.1
theorem zx (k:Kst h0 h l) {cs:List Value} {x:Int} (H:cZ.rep h0 x cs):cZ.rep h x cs:=cZ.upT H k.x.upT
theorem lo (k:Kst h0 h l) {i:Nat} {a:Asr} (e:Rep i l a a l'):∀ b∈a.F,h0.size<=b:=k.s.loAll i (AMs e.1)
theorem dj {l2:List Asr} (k:Kst h0 h l) {i j:Nat} {a b:Asr} (e:Rep i l a a l') (f:Rep j l b b l2) (hij:i≠j):∀ x∈a.F,x ∉ b.F:=k.s.dj i j (AMs e.1) (AMs f.1) hij
theorem e (k:Kst h0 h l) (E:Ext h h'):Kst h0 h' l:=⟨k.x.trans E,k.s.keep E.1,Ajy k.p E.upT fun _ _ _ _=>by simp⟩
theorem n (k:Kst h0 h l) (E:Ext h h') (m:List Asr) (S:Sp h' h.size (fps m)) (P:ATs h' m):Kst h0 h' (m ++ l):=⟨k.x.trans E,by rw [Asi];exact k.s.appF S E.1 k.x.1,Ao0 P (k.e E).p⟩
theorem nb (k:Kst h0 h l) (E:Ext h h') {t b:Nat} {c:List Value} (S:Sp h' h.size [[b]]) (V:AEj t h' b c):Kst h0 h' (aB t b c :: l):=k.n E [aB t b c] S ⟨V,trivial⟩
theorem nb2 (k:Kst h0 h l) (E:Ext h h') {t b t2 b2:Nat} {c c2:List Value} (S:Sp h' h.size [[b],[b2]]) (V:AEj t h' b c) (V2:AEj t2 h' b2 c2):Kst h0 h' (aB t b c :: aB t2 b2 c2 :: l):=k.n E [aB t b c,aB t2 b2 c2] S ⟨V,V2,trivial⟩
theorem no {α:Type} {c:Cod α} (k:Kst h0 h l) (E:Ext h h') {el:Nat} {F:List Nat} {v:Value} {x:List α} (S:Sp h' h.size [F]) (V:OwC c el h' F v x):Kst h0 h' (aO c el F v x :: l):=k.n E [aO c el F v x] S ⟨V,trivial⟩
theorem no2 {α:Type} {c:Cod α} (k:Kst h0 h l) (E:Ext h h') {er el:Nat} {F:List Nat} {Gs:List (List Nat)} {rs:List Value} {v:Value} {x:List (List α)} (S:Sp h' h.size [F]) (V:AFh c er el h' F Gs rs v x):Kst h0 h' (aO2 c er el F Gs rs v x :: l):=k.n E [aO2 c er el F Gs rs v x] S ⟨V,trivial⟩
theorem az (k:Kst h0 h l) {cs:List Value} {x:Int} (Z:cZ.rep h x cs):Kst h0 h (aZ cs x :: l):=k.n (Ext.refl h) [aZ cs x] (by exact ⟨by simp [fps,aZ],fun b hb=>by simp [fps,aZ] at hb⟩) ⟨Z,trivial⟩
theorem anil {α:Type} (c:Cod α) (el:Nat) (k:Kst h0 h l):Kst h0 h (aO c el [] (.slice none 0 0) [] :: l):=k.n (Ext.refl h) [aO c el [] (.slice none 0 0) []] (by exact ⟨by simp [fps,aO],fun b hb=>by simp [fps,aO] at hb⟩) ⟨Ac6 c el h,trivial⟩
theorem anil2 {α:Type} (c:Cod α) (er el:Nat) (k:Kst h0 h l):Kst h0 h (aO2 c er el [] [] [] (.slice none 0 0) [] :: l):=k.n (Ext.refl h) [aO2 c er el [] [] [] (.slice none 0 0) []] (by exact ⟨by simp [fps,aO2],fun b hb=>by simp [fps,aO2] at hb⟩) ⟨Aof c er el h,trivial⟩
theorem u (k:Kst h0 h l) {i:Nat} {a a':Asr} (e:Rep i l a a' l') (U:UpT a.F h h') (Ha:a'.P h') (hn:a'.F.Nodup) (hF:∀ x∈a'.F,x < h'.size) (hs:∀ x∈a'.F,x∈a.F∨h.size<=x):Kst h0 h' l':=by
 obtain ⟨e,rfl⟩:=e;exact ⟨k.x.thenT U (k.s.loAll i (AMs e)),by rw [AV3];exact k.s.put i (AMs e) hn U.size k.x.1 hF hs,Afi k.p k.s e U Ha⟩
theorem ub (k:Kst h0 h l) {i t b:Nat} {c c':List Value} (e:Rep i l (aB t b c) (aB t b c') l') (U:UpT [b] h h') (V:AEj t h' b c'):Kst h0 h' l':=k.u e U V (by simp [aB]) (fun x hx=>by simp [aB] at hx;subst hx;exact V.lt) fun x hx=> .inl hx
theorem sb (k:Kst h0 h l) {i t b:Nat} {c c':List Value} (e:Rep i l (aB t b c) (aB t b c') l') (U:Upd (· =b) h h') (V:AEj t h' b c') (ht:Nat.beq t 147=false):Kst h0 h' l':=k.ub e (V.stA U (AGz (ANf k.p e.1) ht) ht) V
theorem uo {α:Type} {c:Cod α} (k:Kst h0 h l) {i el:Nat} {F F':List Nat} {v v':Value} {x x':List α} (e:Rep i l (aO c el F v x) (aO c el F' v' x') l') (U:UpT F h h') (V:OwC c el h' F' v' x') (hs:∀ z∈F',z∈F∨h.size<=z):Kst h0 h' l':=k.u e U V V.nodup V.lt hs
theorem uO {α:Type} {c:Cod α} (k:Kst h0 h l) {i el:Nat} {F:List Nat} {v v':Value} {x x':List α} (e:Rep i l (aO c el F v x) (aO c el F v' x') l') (U:UpT F h h') (V:OwC c el h' F v' x'):Kst h0 h' l':=k.uo e U V fun _ h=> .inl h
theorem uo2 {α:Type} {c:Cod α} (k:Kst h0 h l) {i er el:Nat} {F F':List Nat} {Gs Gs':List (List Nat)} {rs rs':List Value} {v v':Value} {x x':List (List α)} (e:Rep i l (aO2 c er el F Gs rs v x) (aO2 c er el F' Gs' rs' v' x') l') (U:UpT F h h') (V:AFh c er el h' F' Gs' rs' v' x') (hs:∀ z∈F',z∈F∨h.size<=z):Kst h0 h' l':=k.u e U V V.nodup V.lt hs
theorem uO2 {α:Type} {c:Cod α} (k:Kst h0 h l) {i er el:Nat} {F:List Nat} {Gs Gs':List (List Nat)} {rs rs':List Value} {v v':Value} {x x':List (List α)} (e:Rep i l (aO2 c er el F Gs rs v x) (aO2 c er el F Gs' rs' v' x') l') (U:UpT F h h') (V:AFh c er el h' F Gs' rs' v' x'):Kst h0 h' l':=k.uo2 e U V fun _ h=> .inl h
theorem sel (k:Kst h0 h l) (is:List Nat) (hn:is.Nodup):Kst h0 h (AJf l is):=
  ⟨k.x,by rw [Asl];exact k.s.sel is hn,by
    have:∀ is:List Nat,ATs h (AJf l is):=fun is=>by
      induction is with
      | nil=>exact trivial
      | cons i is ih=>exact ⟨Aoz k.p i,ih⟩
    exact this is⟩
theorem m (k:Kst h0 h l) {i j:Nat} {l1:List Asr} {a a' r:Asr} (er:Rep j l r (aC True) l1) (e:Rep i l1 a a' l') (hij:i≠j) (U:UpT a.F h h') (Ha:a'.P h') (hn:a'.F.Nodup) (hF:∀ x∈a'.F,x < h'.size) (hs:∀ x∈a'.F,x∈a.F ++ r.F∨h.size<=x):Kst h0 h' l':=by
  obtain ⟨er,rfl⟩:=er;obtain ⟨e',rfl⟩:=e;have e:l[i]? =some a:=by rw [List.getElem?_set_ne (Ne.symm hij)] at e';exact e'
  have S1:Sp h h0.size (fps (l.set j (aC True))):=by
    rw [AV3];exact k.s.put j (AMs er) List.nodup_nil (Nat.le_refl _) k.x.1 (fun x hx=>by simp [aC] at hx) (fun x hx=>by simp [aC] at hx)
  refine ⟨k.x.thenT U (k.s.loAll i (AMs e)),?_,Afi (Abr k.p j) S1 e' U Ha⟩;rw [AV3,AV3];exact k.s.put2 i j (AMs e) (AMs er) hij hn U.size k.x.1 hF fun x hx=>(hs x hx).elim (fun h=>(List.mem_append.1 h).elim .inl fun h=> .inr (.inl h)) fun h=> .inr (.inr h)
theorem m2 {α:Type} {c:Cod α} (k:Kst h0 h l) {i j:Nat} {l1:List Asr} {er el:Nat} {F F' R:List Nat} {Gs Gs':List (List Nat)} {rs rs':List Value} {v v' w:Value} {x x':List (List α)} {y:List α} (er':Rep j l (aO c el R w y) (aC True) l1) (e:Rep i l1 (aO2 c er el F Gs rs v x) (aO2 c er el F' Gs' rs' v' x') l') (hij:i≠j) (U:UpT F h h') (V:AFh c er el h' F' Gs' rs' v' x') (hs:∀ z∈F',z∈F ++ R∨h.size<=z):Kst h0 h' l':=k.m er' e hij U V V.nodup V.lt hs
end Kst
end Go.Proofs.YtiegjkmfpcgjjaaGreatDoor
namespace Go.Proofs.YtiegjkmfpcgjjaaGreatDoor
open Go Go.QF
set_option maxRecDepth 100000
set_option maxHeartbeats 4000000
abbrev LnN:=List (List Nat)
abbrev LnA:=List Nat
abbrev LvA:=List Value
abbrev LiI:=List (List Int)
abbrev LiA:=List Int
theorem ABk {α:Type _} {a b:α} (h:some a=some b):a=b:=Option.some.inj h
theorem tt2 {α:Sort _} {β:α->Sort _}:∀ x,β x->True:=fun _ _=>trivial
def AEd (fuel:Nat) (a1 a5:Int):Option Int:=
  ((AV2 fuel a1 a5).bind fun (Ac,Ad,Ae)=>(some Ac))
theorem AIl {fuel:Nat} {h:ABj} {Ag:Value} {a1:Int} {Ai:Value} {a5 r:Int} (H3:ZZ h Ag a1) (H7:ZZ h Ai a5) (hp:AEd fuel a1 a5=some r):ACa Tryz.prog 110 #[Ag,Ai] h (fun x h'=>Ext h h'/\ ∃ (x0:Value),x=x0/\ZZ h' x0 r):=by
 unfold AEd at hp;obtain ⟨Am,rfl,Ao⟩:=H3.cs;obtain ⟨Ap,rfl,Aq⟩:=H7.cs;refine cwf (l:=[_,_]) Tryz.func110 rfl rfl (ABl (AIj Am trivial tt2 rfl rfl fun b9 By Aw E12 Ax=>AIj Ap trivial tt2 rfl rfl fun Bz B1 Ay Az A3=>AD2 [.bool false,.slice none 0 0] AKp rfl trivial tt2 fun B2 B3 A4 A5 A6=>ANc ?_));have Aa:=(((Kst.k0 h).nb E12 Ax Aw).nb Az A3 Ay).nb A5 A6 A4;refine AHm Am ACq (cZ.klen (Aa.zx Ao)) rfl (Aa.b p2).agg (AHm Ap ACq (cZ.klen (Aa.zx Aq)) rfl (Aa.b p1).agg ?_);obtain ⟨⟨B4,B5,B6⟩,A7,Ar⟩:=ABm hp;dsimp only at Ar;refine ACw rfl (Abp (Aa.zx Ao).2 (Aa.zx Aq).2 A7) fun B7 B8 A8 A9=>?_;obtain ⟨B9,Ca,rfl,Ba,Bb⟩:=A9;obtain ⟨Af,rfl,Bc⟩:=Ba.cs;obtain ⟨Be,rfl,Bf⟩:=Bb.cs;refine Wl (AC4 rfl rfl (AC4 rfl rfl (AC4 rfl rfl (AD2 [.bool false,.slice none 0 0] AKp rfl trivial tt2 fun Cb Cd Bg Bh Bi=>AD2 [.bool false,.slice none 0 0] AKp rfl trivial tt2 fun Ce Bj Bl Bm Bn=>?_))));have Ac:=((((Aa.e A8).az Bc).az Bf).nb Bh Bi Bg).nb Bm Bn Bl;refine ADn Af ACq (cZ.klen (Ac.z p3)) (cZ.klen (ACl Bj)) rfl rfl (cZ.one (Ac.z p3)) (Ac.b p1) fun Bo Bp Bq=>?_;have Ad:=Ac.sb p1 Bq Bp rfl;refine ADn Be ACq (cZ.klen (Ad.z p2)) (cZ.klen (ACl Bo)) rfl rfl (cZ.one (Ad.z p2)) (Ad.b p0) fun Br Bt Bu=>ACr ?_;have Ab:=Ad.sb p0 Bu Bt rfl;refine AHm Af ACq (cZ.klen (Ab.z p3)) rfl (Ab.b p1).agg (ADn Af ACq (cZ.klen (Ab.z p3)) (cZ.klen (ACl Br)) rfl rfl (cZ.one (Ab.z p3)) (Ab.b p4) fun Cf Bv Bw=>ABp (ABs ?_));have Ae:=Ab.sb p4 Bw Bv rfl;obtain rfl:=ABk Ar;exact ⟨_,AFr ACq (cZ.klen (Ae.z p3)) rfl (Ae.b p4),Ae.x,_,rfl,(Ae.z p3).2⟩
def AH7 (fuel:Nat) (a1 a5:Int):Option Int:=
  ((AV2 fuel a1 a5).bind fun (Ad,Ac,Ae)=>(some Ac))
theorem ASf {fuel:Nat} {h:ABj} {Ag:Value} {a1:Int} {Ai:Value} {a5 r:Int} (H3:ZZ h Ag a1) (H7:ZZ h Ai a5) (hp:AH7 fuel a1 a5=some r):ACa Tryz.prog 135 #[Ag,Ai] h (fun x h'=>Ext h h'/\ ∃ (x0:Value),x=x0/\ZZ h' x0 r):=by
 unfold AH7 at hp;obtain ⟨Am,rfl,Ao⟩:=H3.cs;obtain ⟨Ap,rfl,Aq⟩:=H7.cs;refine cwf (l:=[_,_]) Tryz.func135 rfl rfl (ABl (AIj Am trivial tt2 rfl rfl fun b9 By Aw E12 Ax=>AIj Ap trivial tt2 rfl rfl fun Bz B1 Ay Az A3=>AD2 [.bool false,.slice none 0 0] AKp rfl trivial tt2 fun B2 B3 A4 A5 A6=>ANc ?_));have Aa:=(((Kst.k0 h).nb E12 Ax Aw).nb Az A3 Ay).nb A5 A6 A4;refine AHm Am ACq (cZ.klen (Aa.zx Ao)) rfl (Aa.b p2).agg (AHm Ap ACq (cZ.klen (Aa.zx Aq)) rfl (Aa.b p1).agg ?_);obtain ⟨⟨B4,B5,B6⟩,A7,Ar⟩:=ABm hp;dsimp only at Ar;refine ACw rfl (Abp (Aa.zx Ao).2 (Aa.zx Aq).2 A7) fun B7 B8 A8 A9=>?_;obtain ⟨B9,Ca,rfl,Ba,Bb⟩:=A9;obtain ⟨Bc,rfl,Be⟩:=Ba.cs;obtain ⟨Af,rfl,Bf⟩:=Bb.cs;refine Wl (AC4 rfl rfl (AC4 rfl rfl (AC4 rfl rfl (AD2 [.bool false,.slice none 0 0] AKp rfl trivial tt2 fun Cb Cd Bg Bh Bi=>AD2 [.bool false,.slice none 0 0] AKp rfl trivial tt2 fun Ce Bj Bl Bm Bn=>?_))));have Ac:=((((Aa.e A8).az Be).az Bf).nb Bh Bi Bg).nb Bm Bn Bl;refine ADn Bc ACq (cZ.klen (Ac.z p3)) (cZ.klen (ACl Bj)) rfl rfl (cZ.one (Ac.z p3)) (Ac.b p1) fun Bo Bp Bq=>?_;have Ad:=Ac.sb p1 Bq Bp rfl;refine ADn Af ACq (cZ.klen (Ad.z p2)) (cZ.klen (ACl Bo)) rfl rfl (cZ.one (Ad.z p2)) (Ad.b p0) fun Br Bt Bu=>ACr ?_;have Ab:=Ad.sb p0 Bu Bt rfl;refine AHm Af ACq (cZ.klen (Ab.z p2)) rfl (Ab.b p0).agg (ADn Af ACq (cZ.klen (Ab.z p2)) (cZ.klen (ACl Br)) rfl rfl (cZ.one (Ab.z p2)) (Ab.b p4) fun Cf Bv Bw=>ABp (ABs ?_));have Ae:=Ab.sb p4 Bw Bv rfl;obtain rfl:=ABk Ar;exact ⟨_,AFr ACq (cZ.klen (Ae.z p2)) rfl (Ae.b p4),Ae.x,_,rfl,(Ae.z p2).2⟩
def AJ7 (fuel:Nat) (a1 a2 Aa:Int) (Ac:LiI):Option ((Int × LiI) ⊕ ((LiI))):=
  (if Aa < ((List.replicate (Int.toNat a1) ([]:List Int)).length:Int) then (if 0<=a2/\a2<=100000000 then ((gI Ac Aa).bind fun Ae=>(some (Sum.inl ((w64 (Aa + 1)),(sI Ac Aa (List.replicate (Int.toNat a2) (0:Int))))))) else none) else (some (Sum.inr<| Ac)))
def AEm (fuel:Nat) (a1 a2:Int):Option LiI:=
  (if 0<=a1/\a1<=100000000 then ((iter (fun s=>AJ7 fuel a1 a2 s.1 s.2) fuel (0,(List.replicate (Int.toNat a1) ([]:List Int)))).bind (fun (Ac:LiI)=>(some Ac))) else none)
theorem AHu {fuel:Nat} {h:ABj} {a1 a2:Int} {r:LiI} (hp:AEm fuel a1 a2=some r):ACa Tryz.prog 88 #[(.int .i64 a1),(.int .i64 a2)] h (fun x h'=>Ext h h'/\ ∃ (x0:Value) (F0:List Nat) (Ar:List LnA) (Au:List Value),x=x0/\AFh cZ 112 109 h' F0 Ar Au x0 r/\Sp h' h.size [F0]):=by
 unfold AEm at hp;refine cwf (l:=[_,_]) Tryz.func88 rfl rfl (ABl (ACr (Wl ?_)));obtain ⟨Av,Aw⟩:=ifN hp;refine AVy cZ 109 AEb Aop rfl trivial tt2 rfl rfl (by decide) Av fun Ax Ay Az v9 h7 I8 E5 S6=>ABq (ABn (ABl (Wl ?_)));have Ag:=(Kst.k0 h).no2 E5 S6 I8;refine ADh AEb rfl (Ag.o2 p0).rd (Wl (ABp (ABr ?_)));obtain ⟨Am,A7,A8⟩:=ABm Aw;obtain ⟨A9,Ba,Bb⟩:=ACj A7;refine ACk 1046592 (fun x:(Int) × (LiI) × LnA × LnN × LvA=>[(11,(.int .i64 x.1))]) (fun k x h'=>iter A9 k (x.1,x.2.1)=some Am/\Kst h h' (Ag.L.set 0 (aO2 cZ 112 109 x.2.2.1 x.2.2.2.1 x.2.2.2.2 v9 x.2.1))) (by kernel_rfl) fuel ((0,(List.replicate (Int.toNat a1) ([]:List Int)),Ax,Ay,Az):(Int) × (LiI) × LnA × LnN × LvA) ?_ ⟨rfl,trivial⟩ ?_
 ·exact ⟨Bb,Ag⟩
 rintro Bx ⟨Aa,Bc,By,Ao,Be⟩ Bz B1 ⟨Bf,Ad⟩;obtain ⟨Bg,B2,rfl,Ab,Ah⟩:=AB5 Bf;rw [Ba] at Ab;dsimp only at Ab;unfold AJ7 at Ab;refine ABl (AC1 rfl rfl (ABp (ABn (⟨_,rfl,fun Ai=>?_,fun Ai=>?_⟩))))
 ·refine ABt (q_t (ABn (ABr (ABl (Wl (ABq (ABy (Wl (Wl (Wl ?_))))))))));obtain ⟨Bh,Bi⟩:=ifN (AC5 Ab Ai);refine Avr AHo AKp rfl trivial tt2 rfl rfl (by decide) Bh fun Ap Bj B3 Bl Bm Bn Bo=>?_;have Ac:=Ad.no Bm (AGy Bn Bo) Bl;obtain ⟨B4,Aq,Bp⟩:=ABm Bi;refine ADx AEb rfl (Ac.o2 p1) rfl Aq fun Bq B5 Br B6 B7=>AXn AH6 (Ac.o2 p1) Aq Br rfl rfl (Ac.o p0) (Ac.dj p0 p1 (by decide)) fun B8 Bt Bu Bv=>ACm (q_b (q_t (ABy (AC3 rfl rfl (Wl (ABp ?_))))));obtain rfl:=ABk Bp;exact ⟨Bg,(((w64 (Aa + 1)),(sI Bc Aa (List.replicate (Int.toNat a2) (0:Int))),(Bq :: (Ao.set (Int.toNat Aa) [Ap]).flatten),(Ao.set (Int.toNat Aa) [Ap]),(Be.set (Int.toNat Aa) Bj)):(Int) × (LiI) × LnA × LnN × LvA),Nat.lt_succ_self _,⟨Ah,(Ac.m2 p0 p1 (by decide) Bu Bt (fun z hz=> .inl (Bv z hz))).sel [1] (by decide)⟩,rfl,trivial⟩
 ·obtain rfl:=ABk (AC6 Ab Ai);change _=Am at Ah;subst Ah;refine ACd (ACc (ACc (ADo (q_t (ABl (Wl (ABq (ABs ?_))))))));obtain rfl:=ABk A8;exact ⟨_,ABu,Ad.x,_,_,_,_,rfl,(Ad.o2 p0),Ad.s.sel [0] (by decide)⟩
def AIm (fuel:Nat) (a3:LiI) (Ab:Int) (Af:LiA) (Aa:Int) (Ac:LiI):Option ((Int × LiI) ⊕ ((LiI))):=
  (if Aa < (Af.length:Int) then ((gI Ac Ab).bind fun Ad=>((gI a3 Ab).bind fun Ag=>((gI Ag Aa).bind fun Ah=>((ALk fuel Ah).bind fun Ai=>((gI Ad Aa).bind fun Aj=>(some (Sum.inl ((w64 (Aa + 1)),(sI Ac Ab (sI Ad Aa Ai)))))))))) else (some (Sum.inr<| Ac)))
def AIn (fuel:Nat) (a3:LiI) (Aa:Int) (Ac:LiI):Option ((Int × LiI) ⊕ ((LiI))):=
  (if Aa < (a3.length:Int) then ((gI a3 Aa).bind fun Ad=>((iter (fun s=>AIm fuel a3 Aa Ad s.1 s.2) fuel (0,Ac)).bind (fun (Ae:LiI)=>(some (Sum.inl ((w64 (Aa + 1)),Ae)))))) else (some (Sum.inr<| Ac)))
def AIo (fuel:Nat) (a3:LiI) (Ab:Int):Option ((Int) ⊕ (((LiI × Bool)) ⊕ (Unit))):=
  (if Ab < (a3.length:Int) then ((gI a3 Ab).bind fun Ac=>(if (Ac.length:Int) < 1 then (some (Sum.inr<| Sum.inl <| ([],false))) else (if 16 < (Ac.length:Int) then (some (Sum.inr<| Sum.inl <| ([],false))) else ((gI a3 0).bind fun Ad=>(if ¬ (Ac.length:Int)=(Ad.length:Int) then (some (Sum.inr<| Sum.inl <| ([],false))) else (some (Sum.inl (w64 (Ab + 1))))))))) else (some (Sum.inr<| Sum.inr <| ())))
def ADs (fuel:Nat) (a3:LiI):Option (LiI × Bool):=
  (((if (a3.length:Int) < 1 then (some (Sum.inl <| ([],false))) else (if 16 < (a3.length:Int) then (some (Sum.inl <| ([],false))) else (some (Sum.inr <| ())))):Option (((LiI × Bool)) ⊕ (Unit))).bind (fun ex=>match ex with | Sum.inl Ab=>(some Ab) | Sum.inr (_)=>((iter (fun s=>AIo fuel a3 s) fuel 0).bind (fun ex=>match ex with | Sum.inl Ac=>(some Ac) | Sum.inr (_)=>((gI a3 0).bind fun Ad=>((AEm fuel (a3.length:Int) (Ad.length:Int)).bind fun Ae=>((iter (fun s=>AIn fuel a3 s.1 s.2) fuel (0,Ae)).bind (fun (Af:LiI)=>(some (Af,true))))))))))
theorem ALm {fuel:Nat} {h:ABj} {Bg:Value} {a3:LiI} {r:(LiI × Bool)} (H2:AFo (cI .i64) h Bg a3) (hp:ADs fuel a3=some r):ACa Tryz.prog 59 #[Bg] h (fun x h'=>Ext h h'/\ ∃ (x0:Value) (F0:List Nat) (B3:List LnA) (B4:List Value),x= .tuple #[x0,.bool r.2]/\AFh cZ 112 109 h' F0 B3 B4 x0 r.1/\Sp h' h.size [F0]):=by
 unfold ADs at hp;refine cwf (l:=[_]) Tryz.func59 rfl rfl (ABl (ACg (ABq ?_)));have K0:=Kst.k0 h;obtain ⟨B5,Bj,Aw⟩:=ABm hp;refine ANx 130572 (fun x:Unit=>[]) (fun x h'=>(Sum.inr <| ())=B5/\Kst h h' (K0.L)) ?_ ?_
 ·refine ABl (Wl (ADh AB4 rfl H2 (AC1 rfl rfl (Wl ?_))));by_cases Ao:(a3.length:Int) < 1
  ·rw [decide_eq_true Ao];refine AG1 12 true (ABz rfl (ABp (ACe rfl (ABl (ACg (ABq ?_))))));obtain rfl:=ABk (ifT Bj Ao);refine ABs (AB2 ?_);have Ax:=Kst.anil2 cZ 112 109 K0;obtain rfl:=ABk Aw;exact ⟨_,ADc,Ax.x,_,_,_,_,rfl,(Ax.o2 p0),Ax.s.sel [0] (by decide)⟩
  ·have Bl:=ifF Bj Ao;rw [decide_eq_false Ao];refine ACb 12 false (Wl (ACb 12 false (ADh AB4 rfl H2 (ACb 12 false (AJe rfl rfl (ABw rfl (ABp (⟨_,rfl,fun Ay=>?_,fun Ay=>?_⟩))))))))
   ·refine ABl (ACg (ABq ?_));obtain rfl:=ABk (AC5 Bl Ay);refine ABs (AB2 ?_);have Az:=Kst.anil2 cZ 112 109 K0;obtain rfl:=ABk Aw;exact ⟨_,ADc,Az.x,_,_,_,_,rfl,(Az.o2 p0),Az.s.sel [0] (by decide)⟩
   ·refine ABt (q_t ?_);exact ⟨(():Unit),⟨ABk (AC6 Bl Ay),K0⟩,trivial⟩
 rintro ⟨⟩ Ea Eb ⟨B6,Bm⟩;subst B6;refine ABn (ABl (Wl (ADh AB4 rfl H2 (Wl (ABp (ABr ?_))))));obtain ⟨Af,B7,Ap⟩:=ABm Aw;obtain ⟨B8,B9,Ca⟩:=ACj B7;refine ACk 2199022731308 (fun x:(Int)=>[(19,(.int .i64 x))]) (fun k x h'=>iter B8 k x=some Af/\Kst h h' (Bm.L)) (by kernel_rfl) fuel (0:(Int)) ?_ ⟨rfl,trivial⟩ ?_
 ·exact ⟨Ca,Bm⟩
 rintro Ec Cb Ed Ee ⟨Cd,Ac⟩;obtain ⟨Ce,Ef,rfl,Ag,Ab⟩:=AB5 Cd;rw [B9] at Ag;dsimp only at Ag;unfold AIo at Ag;refine ABl (AC1 rfl rfl (ABp (ABn (⟨_,rfl,fun A3=>?_,fun A3=>?_⟩))))
 ·refine ABt (q_t (ABn (ABr (ABl ?_))));obtain ⟨Bn,Cf,Bo⟩:=ABm (AC5 Ag A3);refine AIx AB4 rfl H2 rfl Cf fun Eg Eh Ei Cg A4=>AB9 ACo rfl (AB0 Cg Ac.x) (ACr (Wl (AD1 ABx rfl A4 (AC1 rfl rfl (Wl ?_)))));by_cases Aq:(Bn.length:Int) < 1
  ·rw [decide_eq_true Aq];refine AG1 26 true (ABz rfl (Wl (ALv 31 true (AGh 31 true (ABz rfl (ABp (ACe rfl (ABl (ACg (ABq ?_))))))))));obtain rfl:=ABk (ifT Bo Aq);change _=Af at Ab;subst Ab;refine ABs (ADp (AB2 (AB2 (ADp (AB2 ?_)))));have A5:=Kst.anil2 cZ 112 109 Ac;obtain rfl:=ABk Ap;exact ⟨_,ADc,A5.x,_,_,_,_,rfl,(A5.o2 p0),A5.s.sel [0] (by decide)⟩
  ·have Bp:=ifF Bo Aq;rw [decide_eq_false Aq];refine ACb 26 false (Wl (ACb 26 false (AD1 ABx rfl A4 (ACb 26 false (AJe rfl rfl (ABw rfl (Wl ?_)))))));by_cases Ar:16 < (Bn.length:Int)
   ·rw [decide_eq_true Ar];refine ALv 31 true (AGh 31 true (ABz rfl (ABp (ACe rfl (ABl (ACg (ABq ?_)))))));obtain rfl:=ABk (ifT Bp Ar);change _=Af at Ab;subst Ab;refine ABs (ADp (AB2 (AB2 (ADp (AB2 ?_)))));have A6:=Kst.anil2 cZ 112 109 Ac;obtain rfl:=ABk Ap;exact ⟨_,ADc,A6.x,_,_,_,_,rfl,(A6.o2 p0),A6.s.sel [0] (by decide)⟩
   ·rw [decide_eq_false Ar];refine ACb 31 false (Wl (ACb 31 false (AD1 ABx rfl A4 (ACb 31 false (Wl (ACb 31 false ?_))))));obtain ⟨Ej,Ch,Bq⟩:=ABm (ifF Bp Ar);refine AIx AB4 rfl H2 rfl Ch fun Ek El Em Ci Cj=>ACb 31 false (AB9 ACo rfl (AB0 Ci Ac.x) (ACb 31 false (AD1 ABx rfl Cj (ACb 31 false (AHz rfl rfl (ABw rfl (ABp (⟨_,rfl,fun A7=>?_,fun A7=>?_⟩))))))))
    ·refine ABl (ACg (ABq ?_));obtain rfl:=ABk (AC5 Bq A7);change _=Af at Ab;subst Ab;refine ABs (ADp (AB2 (AB2 (ADp (AB2 ?_)))));have A8:=Kst.anil2 cZ 112 109 Ac;obtain rfl:=ABk Ap;exact ⟨_,ADc,A8.x,_,_,_,_,rfl,(A8.o2 p0),A8.s.sel [0] (by decide)⟩
    ·refine ABt (q_b (q_t (ABy (AC3 rfl rfl (Wl (ABp ?_))))));obtain rfl:=ABk (AC6 Bq A7);exact ⟨Ce,((w64 (Cb + 1)):(Int)),Nat.lt_succ_self _,⟨Ab,Ac⟩,rfl,trivial⟩
 ·obtain rfl:=ABk (AC6 Ag A3);change _=Af at Ab;subst Ab;refine ACd (ACc (ACc (ADo (q_t (ABl (Wl (ADh AB4 rfl H2 (Wl ?_))))))));obtain ⟨En,Ck,Cm⟩:=ABm Ap;refine AIx AB4 rfl H2 rfl Ck fun Eo Ep Er Cn Co=>AB9 ACo rfl (AB0 Cn Ac.x) (AD1 ABx rfl Co ?_);obtain ⟨Cp,Cq,Cr⟩:=ABm Cm;refine ACw rfl (AHu Cq) fun Br Es Ct Cu=>?_;obtain ⟨Et,Cv,Cw,Cx,rfl,Cy,Cz⟩:=Cu;refine ABq (ABn (ABl (Wl (ADh AB4 rfl H2 (Wl (ABp (ABr ?_)))))));have Bt:=Ac.no2 Ct Cz Cy;obtain ⟨Bu,C0,C1⟩:=ABm Cr;obtain ⟨C2,C3,C4⟩:=ACj C0;refine ACk 151115726325928739996032 (fun x:(Int) × (LiI) × LnA × LnN × LvA=>[(50,(.int .i64 x.1))]) (fun k x h'=>iter C2 k (x.1,x.2.1)=some Bu/\Kst h h' (Bt.L.set 0 (aO2 cZ 112 109 x.2.2.1 x.2.2.2.1 x.2.2.2.2 Br x.2.1))) (by kernel_rfl) fuel ((0,Cp,Cv,Cw,Cx):(Int) × (LiI) × LnA × LnN × LvA) ?_ ⟨rfl,trivial⟩ ?_
  ·exact ⟨C4,Bt⟩
  rintro Eu ⟨Au,C5,C6,C7,C8⟩ Ev Ew ⟨C9,Ad⟩;obtain ⟨Da,Ey,rfl,Ah,A9⟩:=AB5 C9;rw [C3] at Ah;dsimp only at Ah;unfold AIn at Ah;refine ABl (AC1 rfl rfl (ABp (ABn (⟨_,rfl,fun Ba=>?_,fun Ba=>?_⟩))))
  ·refine ABt (q_t (ABn (ABr (ABl (Wl (ACr (Wl (Wl ?_))))))));obtain ⟨Ez,Db,Dc⟩:=ABm (AC5 Ah Ba);refine AIx AB4 rfl H2 rfl Db fun Fa Fb Fc Dd De=>AB9 ACo rfl (AB0 Dd Ad.x) (AD1 ABx rfl De (Wl (ABp (ABr ?_))));obtain ⟨Bv,Df,Dg⟩:=ABm Dc;obtain ⟨Dh,Di,Dj⟩:=ACj Df;refine ACk 75557575495538171707648 (fun x:(Int) × (LiI) × LnA × LnN × LvA=>[(58,(.int .i64 x.1))]) (fun k x h'=>iter Dh k (x.1,x.2.1)=some Bv/\Kst h h' (Ad.L.set 0 (aO2 cZ 112 109 x.2.2.1 x.2.2.2.1 x.2.2.2.2 Br x.2.1))) (by kernel_rfl) fuel ((0,C5,C6,C7,C8):(Int) × (LiI) × LnA × LnN × LvA) ?_ ⟨rfl,trivial⟩ ?_
   ·exact ⟨Dj,Ad⟩
   rintro Fd ⟨Bw,Bx,By,Bz,B1⟩ Fe Bb ⟨Dk,Ae⟩;obtain ⟨Dl,Ff,rfl,Ai,Bc⟩:=AB5 Dk;rw [Di] at Ai;dsimp only at Ai;unfold AIm at Ai;refine ABl (AC1 rfl rfl (ABp (ABn (⟨_,rfl,fun Be=>?_,fun Be=>?_⟩))))
   ·refine ABt (q_t (ABn (ABr (ABl (Wl (ABq (AEs (fun h'=>UpT [] Bb h') (by kernel_rfl) ?_)))))));have Aj:UpT [] Bb Bb:=UpT.start all_nil;refine Wl (Wl ?_);obtain ⟨Dn,Bf,Do⟩:=ABm (AC5 Ai Be);refine ADx AEb rfl (Ae.o2 p0) rfl Bf fun Fg Fh Fi Dp Dq=>AGw AH6 rfl Aj (fun h' hb=>AB0 Dq hb.ext) (Wl (Wl (Wl ?_)));obtain ⟨Fj,Dr,Ds⟩:=ABm Do;refine AIx AB4 rfl H2 rfl Dr fun Fk Fl Fm Dt Du=>AGw ACo rfl Aj (fun h' hb=>AB0 Dt (Ae.x.trans hb.ext)) (Wl ?_);obtain ⟨Fo,Dv,Dw⟩:=ABm Ds;refine AIw (c:=(cI .i64)) ABx rfl Du rfl Dv fun Fp Fq Fr Dx Dy=>?_;obtain rfl:=Dx;refine AGw ACt rfl Aj (fun h' hb=>AB0 (Dy 0 _ rfl) (Ae.x.trans hb.ext)) ?_;obtain ⟨Dz,D0,D1⟩:=ABm Dw;refine ADd Aj (fun _ E=>Aj.thenE E) rfl (AJ6 D0) fun Ft Fu D2 D3=>?_;obtain ⟨Fv,rfl,D4⟩:=D3;obtain ⟨Fw,rfl,D5⟩:=D4.cs;have Ak:=(Ae.e D2).az D5;obtain ⟨Fx,B2,D6⟩:=ABm D1;refine AFd (m:=Au) AHo rfl (Ae.o2 p0) Dp Bf rfl B2 fun Fy D7=>AJ5 (m:=Au) (AT8 ACq (cZ.klen (Ak.z p0)) rfl rfl (cZ.one (Ak.z p0))) (Ak.o2 p1) D7 Bf B2 (Ak.z p0) fun Fz D8 D9=>ACm (q_b (q_t (ABy (AC3 rfl rfl (Wl (ABp ?_))))));obtain rfl:=ABk D6;exact ⟨Dl,(((w64 (Bw + 1)),(sI Bx Au (sI Dn Bw Dz)),By,Bz,B1):(Int) × (LiI) × LnA × LnN × LvA),Nat.lt_succ_self _,⟨Bc,(Ak.uO2 p1 D9 D8).sel [1] (by decide)⟩,rfl,trivial⟩
   ·obtain rfl:=ABk (AC6 Ai Be);change _=Bv at Bc;subst Bc;refine ACd (ACc (ACc (ADo (q_b (q_t (ABy (AC3 rfl rfl (Wl (ABp ?_)))))))));obtain rfl:=ABk Dg;exact ⟨Da,(((w64 (Au + 1)),Bx,By,Bz,B1):(Int) × (LiI) × LnA × LnN × LvA),Nat.lt_succ_self _,⟨A9,Ae⟩,rfl,trivial⟩
  ·obtain rfl:=ABk (AC6 Ah Ba);change _=Bu at A9;subst A9;refine ACd (ACc (ACc (ADo (q_t (ABl (Wl (ACg (ABq (ABs ?_)))))))));obtain rfl:=ABk C1;exact ⟨_,ADc,Ad.x,_,_,_,_,rfl,(Ad.o2 p0),Ad.s.sel [0] (by decide)⟩
def AFe (fuel:Nat) (a3:LiI):Option LiI:=
  ((ADs fuel a3).bind fun (x5,x6)=>(some x5))
theorem ALf {fuel:Nat} {h:ABj} {Ab:Value} {a3 r:LiI} (H2:AFo (cI .i64) h Ab a3) (hp:AFe fuel a3=some r):ACa Tryz.prog 29 #[Ab] h (fun x h'=>Ext h h'/\ ∃ (x0:Value) (F0:List Nat) (Ai:List LnA) (Aj:List Value),x=x0/\AFh cZ 112 109 h' F0 Ai Aj x0 r/\Sp h' h.size [F0]):=by
 unfold AFe at hp;refine cwf (l:=[_]) Tryz.func29 rfl rfl (ABl (ACr (Wl ?_)));have K0:=Kst.k0 h;obtain ⟨⟨x5,x6⟩,Ak,Ag⟩:=ABm hp;dsimp only at Ag;refine ACw rfl (ALm (H2.ext K0.x) Ak) fun Av Aw E9 Ao=>?_;obtain ⟨Ax,Ay,Az,A3,rfl,Ap,Aq⟩:=Ao;refine Wl (AC4 rfl rfl (AC4 rfl rfl (ACg (ACr (Wl (ABq (ABs ?_)))))));have Aa:=K0.no2 E9 Aq Ap;obtain rfl:=ABk Ag;exact ⟨_,ABu,Aa.x,_,_,_,_,rfl,(Aa.o2 p0),Aa.s.sel [0] (by decide)⟩
def AFy (fuel:Nat) (a3:LiI) (Ab:Int):Option ((Int) ⊕ (((Int × Int × Bool)) ⊕ (Unit))):=
  (if Ab < (a3.length:Int) then ((gI a3 Ab).bind fun Ac=>(if (Ac.length:Int) < 1 then (some (Sum.inr<| Sum.inl <| (0,0,false))) else (if 16 < (Ac.length:Int) then (some (Sum.inr<| Sum.inl <| (0,0,false))) else ((gI a3 0).bind fun Ad=>(if ¬ (Ac.length:Int)=(Ad.length:Int) then (some (Sum.inr<| Sum.inl <| (0,0,false))) else (some (Sum.inl (w64 (Ab + 1))))))))) else (some (Sum.inr<| Sum.inr <| ())))
def ADl (fuel:Nat) (a3:LiI):Option (Int × Int × Bool):=
  (((if (a3.length:Int) < 1 then (some (Sum.inl <| (0,0,false))) else (if 16 < (a3.length:Int) then (some (Sum.inl <| (0,0,false))) else (some (Sum.inr <| ())))):Option (((Int × Int × Bool)) ⊕ (Unit))).bind (fun ex=>match ex with | Sum.inl Ab=>(some Ab) | Sum.inr (_)=>((iter (fun s=>AFy fuel a3 s) fuel 0).bind (fun ex=>match ex with | Sum.inl Ac=>(some Ac) | Sum.inr (_)=>((gI a3 0).bind fun Ad=>(some ((a3.length:Int),(Ad.length:Int),true)))))))
theorem AHg {fuel:Nat} {h:ABj} {Au:Value} {a3:LiI} {r:(Int × Int × Bool)} (H2:AFo cZ h Au a3) (hp:ADl fuel a3=some r):ACa Tryz.prog 97 #[Au] h (fun x h'=>Ext h h'/\x= .tuple #[.int .i64 r.1,.int .i64 r.2.1,.bool r.2.2]):=by
 unfold ADl at hp;refine cwf (l:=[_]) Tryz.func97 rfl rfl (ABl (ACg (ACg (ABq ?_))));have K0:=Kst.k0 h;obtain ⟨A5,Av,Am⟩:=ABm hp;refine ANx 32668 (fun x:Unit=>[]) (fun x h'=>(Sum.inr <| ())=A5/\Kst h h' (K0.L)) ?_ ?_
 ·refine ABl (Wl (ADh AEb rfl H2 (AC1 rfl rfl (Wl ?_))));by_cases Ag:(a3.length:Int) < 1
  ·rw [decide_eq_true Ag];refine AG1 10 true (ABz rfl (ABp (ACe rfl (ABl (ACg (ACg (ABq ?_)))))));obtain rfl:=ABk (ifT Av Ag);refine ABs (AB2 ?_);obtain rfl:=ABk Am;exact ⟨_,AR1,K0.x,rfl⟩
  ·have Aw:=ifF Av Ag;rw [decide_eq_false Ag];refine ACb 10 false (Wl (ACb 10 false (ADh AEb rfl H2 (ACb 10 false (AJe rfl rfl (ABw rfl (ABp (⟨_,rfl,fun Ao=>?_,fun Ao=>?_⟩))))))))
   ·refine ABl (ACg (ACg (ABq ?_)));obtain rfl:=ABk (AC5 Aw Ao);refine ABs (AB2 ?_);obtain rfl:=ABk Am;exact ⟨_,AR1,K0.x,rfl⟩
   ·refine ABt (q_t ?_);exact ⟨(():Unit),⟨ABk (AC6 Aw Ao),K0⟩,trivial⟩
 rintro ⟨⟩ Bp Bq ⟨A6,Ax⟩;subst A6;refine ABn (ABl (Wl (ADh AEb rfl H2 (Wl (ABp (ABr ?_))))));obtain ⟨Ad,A7,Ah⟩:=ABm Am;obtain ⟨A8,A9,Ba⟩:=ACj A7;refine ACk 549755682908 (fun x:(Int)=>[(17,(.int .i64 x))]) (fun k x h'=>iter A8 k x=some Ad/\Kst h h' (Ax.L)) (by kernel_rfl) fuel (0:(Int)) ?_ ⟨rfl,trivial⟩ ?_
 ·exact ⟨Ba,Ax⟩
 rintro Br Bb Bt Bu ⟨Bc,Ab⟩;obtain ⟨Be,Bv,rfl,Ae,Aa⟩:=AB5 Bc;rw [A9] at Ae;dsimp only at Ae;unfold AFy at Ae;refine ABl (AC1 rfl rfl (ABp (ABn (⟨_,rfl,fun Ap=>?_,fun Ap=>?_⟩))))
 ·refine ABt (q_t (ABn (ABr (ABl ?_))));obtain ⟨Ay,Bf,Az⟩:=ABm (AC5 Ae Ap);refine AIx AEb rfl H2 rfl Bf fun Bw Bx By Bg Aq=>AB9 AH6 rfl (AB0 Bg Ab.x) (ACr (Wl (AD1 AHo rfl Aq (AC1 rfl rfl (Wl ?_)))));by_cases Ai:(Ay.length:Int) < 1
  ·rw [decide_eq_true Ai];refine AG1 24 true (ABz rfl (Wl (ALv 29 true (AGh 29 true (ABz rfl (ABp (ACe rfl (ABl (ACg (ACg (ABq ?_)))))))))));obtain rfl:=ABk (ifT Az Ai);change _=Ad at Aa;subst Aa;refine ABs (ADp (AB2 (AB2 (ADp (AB2 ?_)))));obtain rfl:=ABk Ah;exact ⟨_,AR1,Ab.x,rfl⟩
  ·have A3:=ifF Az Ai;rw [decide_eq_false Ai];refine ACb 24 false (Wl (ACb 24 false (AD1 AHo rfl Aq (ACb 24 false (AJe rfl rfl (ABw rfl (Wl ?_)))))));by_cases Aj:16 < (Ay.length:Int)
   ·rw [decide_eq_true Aj];refine ALv 29 true (AGh 29 true (ABz rfl (ABp (ACe rfl (ABl (ACg (ACg (ABq ?_))))))));obtain rfl:=ABk (ifT A3 Aj);change _=Ad at Aa;subst Aa;refine ABs (ADp (AB2 (AB2 (ADp (AB2 ?_)))));obtain rfl:=ABk Ah;exact ⟨_,AR1,Ab.x,rfl⟩
   ·rw [decide_eq_false Aj];refine ACb 29 false (Wl (ACb 29 false (AD1 AHo rfl Aq (ACb 29 false (Wl (ACb 29 false ?_))))));obtain ⟨Bz,Bh,A4⟩:=ABm (ifF A3 Aj);refine AIx AEb rfl H2 rfl Bh fun B1 B2 B3 Bi Bj=>ACb 29 false (AB9 AH6 rfl (AB0 Bi Ab.x) (ACb 29 false (AD1 AHo rfl Bj (ACb 29 false (AHz rfl rfl (ABw rfl (ABp (⟨_,rfl,fun Ar=>?_,fun Ar=>?_⟩))))))))
    ·refine ABl (ACg (ACg (ABq ?_)));obtain rfl:=ABk (AC5 A4 Ar);change _=Ad at Aa;subst Aa;refine ABs (ADp (AB2 (AB2 (ADp (AB2 ?_)))));obtain rfl:=ABk Ah;exact ⟨_,AR1,Ab.x,rfl⟩
    ·refine ABt (q_b (q_t (ABy (AC3 rfl rfl (Wl (ABp ?_))))));obtain rfl:=ABk (AC6 A4 Ar);exact ⟨Be,((w64 (Bb + 1)):(Int)),Nat.lt_succ_self _,⟨Aa,Ab⟩,rfl,trivial⟩
 ·obtain rfl:=ABk (AC6 Ae Ap);change _=Ad at Aa;subst Aa;refine ACd (ACc (ACc (ADo (q_t (ABn (ANr (Wl (ADh AEb rfl H2 (Wl ?_)))))))));obtain ⟨B4,Bl,Bm⟩:=ABm Ah;refine AIx AEb rfl H2 rfl Bl fun B5 B6 B7 Bn Bo=>AB9 AH6 rfl (AB0 Bn Ab.x) (AD1 AHo rfl Bo (ACg (ACg (ABq (ABs ?_)))));obtain rfl:=ABk Bm;exact ⟨_,AR1,Ab.x,rfl⟩
def AEt (fuel:Nat) (a3:LiI):Option (Int × Bool):=
  ((ADl fuel a3).bind fun (x5,x6,x7)=>(if (!x7)=true then (some (0,false)) else (if ¬ x5=x6 then (some (0,false)) else (some (x5,true)))))
theorem AL8 {fuel:Nat} {h:ABj} {Ad:Value} {a3:LiI} {r:(Int × Bool)} (H2:AFo cZ h Ad a3) (hp:AEt fuel a3=some r):ACa Tryz.prog 81 #[Ad] h (fun x h'=>Ext h h'/\x= .tuple #[.int .i64 r.1,.bool r.2]):=by
 unfold AEt at hp;refine cwf (l:=[_]) Tryz.func81 rfl rfl (ABl (ACg (ACr (Wl ?_))));have K0:=Kst.k0 h;obtain ⟨⟨x5,x6,x7⟩,Ak,Aa⟩:=ABm hp;dsimp only at Aa;refine ACw rfl (AHg (H2.ext K0.x) Ak) fun Ar Au Am Ao=>?_;subst Ao;refine Wl (AC4 rfl rfl (AC4 rfl rfl (AC4 rfl rfl (ACg (ACg (ABq (ABn (ABl (Wl (AF9 rfl (Wl ?_)))))))))));have Ab:=K0.e Am;cases Ag:(!x7)
 ·refine ACb 15 false (Wl (ACb 15 false (Wl (ACb 15 false (AHz rfl rfl (ABw rfl (ABp ?_)))))));have Ah:=AJc Aa Ag;refine ⟨_,rfl,fun Ac=>?_,fun Ac=>?_⟩
  ·refine ABl (ACg (ABq (ABs (AB2 ?_))));obtain rfl:=ABk (AC5 Ah Ac);exact ⟨_,ADc,Ab.x,rfl⟩
  ·refine ABt (q_t (ABl (Wl (ACg (ABq (ABs ?_))))));obtain rfl:=ABk (AC6 Ah Ac);exact ⟨_,ADc,Ab.x,rfl⟩
 ·refine AG1 15 true (ABz rfl (ABp (ACe rfl (ABl (ACg (ABq (ABs (AB2 ?_))))))));obtain rfl:=ABk (ifT Aa Ag);exact ⟨_,ADc,Ab.x,rfl⟩
def AJ8 (fuel:Nat) (Ac:Int) (Ad:LiA) (Aa:Int) (Ab:LiI):Option ((Int × LiI) ⊕ ((LiI))):=
  (if Aa < (Ad.length:Int) then ((gI Ad Aa).bind fun Af=>((gI Ab Ac).bind fun Ae=>((AQs fuel Af).bind fun Ag=>(if Ae.length<=100000000 then (some (Sum.inl ((w64 (Aa + 1)),(sI Ab Ac (Ae ++ [Ag]))))) else none)))) else (some (Sum.inr<| Ab)))
def AJ9 (fuel:Nat) (a3:LiI) (Aa:Int) (Ac:LiI):Option ((Int × LiI) ⊕ ((LiI))):=
  (if Aa < (a3.length:Int) then ((gI a3 Aa).bind fun Ad=>((iter (fun s=>AJ8 fuel Aa Ad s.1 s.2) fuel (0,Ac)).bind (fun (Ae:LiI)=>(some (Sum.inl ((w64 (Aa + 1)),Ae)))))) else (some (Sum.inr<| Ac)))
def AGa (fuel:Nat) (a3:LiI):Option LiI:=
  (if 0<=(a3.length:Int)/\(a3.length:Int)<=100000000 then ((iter (fun s=>AJ9 fuel a3 s.1 s.2) fuel (0,(List.replicate (Int.toNat (a3.length:Int)) ([]:List Int)))).bind (fun (Ab:LiI)=>(some Ab))) else none)
theorem AM6 {fuel:Nat} {h:ABj} {Av:Value} {a3 r:LiI} (H2:AFo cZ h Av a3) (hp:AGa fuel a3=some r):ACa Tryz.prog 53 #[Av] h (fun x h'=>Ext h h'/\ ∃ (x0:Value) (F0:List Nat) (Ba:List LnA) (Bb:List Value),x=x0/\AFh cZ 112 109 h' F0 Ba Bb x0 r/\Sp h' h.size [F0]):=by
 unfold AGa at hp;refine cwf (l:=[_]) Tryz.func53 rfl rfl (ABl (ACr (Wl (ADh AEb rfl H2 ?_))));obtain ⟨Bc,Be⟩:=ifN hp;refine AVy cZ 109 AEb Aop rfl trivial tt2 rfl rfl (by decide) Bc fun Bf Bg Bh v11 h9 Bi E7 S8=>ABq (ABn (ABl (Wl (ADh AEb rfl H2 (Wl (ABp (ABr ?_)))))));have Ay:=(Kst.k0 h).no2 E7 S8 Bi;obtain ⟨Az,Bm,Bn⟩:=ABm Be;obtain ⟨Bo,Bp,Bq⟩:=ACj Bm;refine ACk 137438949456 (fun x:(Int) × (LiI) × LnA × LnN × LvA=>[(12,(.int .i64 x.1))]) (fun k x h'=>iter Bo k (x.1,x.2.1)=some Az/\Kst h h' (Ay.L.set 0 (aO2 cZ 112 109 x.2.2.1 x.2.2.2.1 x.2.2.2.2 v11 x.2.1))) (by kernel_rfl) fuel ((0,(List.replicate (Int.toNat (a3.length:Int)) ([]:List Int)),Bf,Bg,Bh):(Int) × (LiI) × LnA × LnN × LvA) ?_ ⟨rfl,trivial⟩ ?_
 ·exact ⟨Bq,Ay⟩
 rintro Dd ⟨A3,Br,Bt,Bu,Bv⟩ De Df ⟨Bw,Ab⟩;obtain ⟨Bx,Dg,rfl,Ac,Ak⟩:=AB5 Bw;rw [Bp] at Ac;dsimp only at Ac;unfold AJ9 at Ac;refine ABl (AC1 rfl rfl (ABp (ABn (⟨_,rfl,fun Am=>?_,fun Am=>?_⟩))))
 ·refine ABt (q_t (ABn (ABr (ABl (Wl (ACr (Wl (Wl ?_))))))));obtain ⟨Dh,By,Bz⟩:=ABm (AC5 Ac Am);refine AIx AEb rfl H2 rfl By fun Di Dj Dk B1 A4=>AB9 AH6 rfl (AB0 B1 Ab.x) (AD1 AHo rfl A4 (Wl (ABp (ABr ?_))));obtain ⟨A5,B2,B3⟩:=ABm Bz;obtain ⟨B4,B5,B6⟩:=ACj B2;refine ACk 68718428224 (fun x:(Int) × (LiI) × LnA × LnN × LvA=>[(20,(.int .i64 x.1))]) (fun k x h'=>iter B4 k (x.1,x.2.1)=some A5/\Kst h h' (Ab.L.set 0 (aO2 cZ 112 109 x.2.2.1 x.2.2.2.1 x.2.2.2.2 v11 x.2.1))) (by kernel_rfl) fuel ((0,Br,Bt,Bu,Bv):(Int) × (LiI) × LnA × LnN × LvA) ?_ ⟨rfl,trivial⟩ ?_
  ·exact ⟨B6,Ab⟩
  rintro Dl ⟨B7,u64,B8,B9,Ca⟩ Dn Do ⟨Cb,Ag⟩;obtain ⟨Cd,Dp,rfl,Ad,Ao⟩:=AB5 Cb;rw [B5] at Ad;dsimp only at Ad;unfold AJ8 at Ad;refine ABl (AC1 rfl rfl (ABp (ABn (⟨_,rfl,fun Ap=>?_,fun Ap=>?_⟩))))
  ·refine ABt (q_t (ABn (ABr (ABl ?_))));obtain ⟨Dq,Ce,Cf⟩:=ABm (AC5 Ad Ap);refine AIw (c:=cZ) AHo rfl A4 rfl Ce fun Dr Ds A6 Ae Cg=>AVx (c:=cZ) ACq rfl (Ag.zx Ae) (fun j u hu=>(AB0 (Cg j u hu) Ag.x)) (AD2 [.bool false,.slice none 0 0] AKp rfl trivial tt2 fun Dt Ch Ci Cj Ck=>?_);have Ah:=Ag.nb Cj Ck Ci;refine ADn A6 ACq (cZ.klen (Ah.zx Ae)) (cZ.klen (ACl Ch)) rfl rfl (cZ.one (Ah.zx Ae)) (Ah.b p0) fun Aq Cm Cn=>ABp ?_;have Aa:=Ah.sb p0 Cn Cm rfl;obtain ⟨Co,Ar,Cp⟩:=ABm Cf;obtain ⟨A7,Cq,Cr,Ct,Cu⟩:=(Aa.o2 p1).rowG Ar;refine AEs (fun h'=>UpT (A7 ++ []) Aq h') (by kernel_rfl) ?_;have Af:UpT (A7 ++ []) Aq Aq:=UpT.start (AD9 Ct all_nil);refine Wl (Wl (Wl (Wl (ADx AEb rfl (Aa.o2 p1) rfl Ar fun Du Dv Cv Cw Cx=>AGw AH6 rfl Af (fun h' hb=>ALa Cx hb (AQ4 (Cu _ Cv) AQ5)) (AEy A6 ACq (cZ.klen (Aa.zx Ae)) rfl Af (fun h' hb=>((Aa.b p0).upT hb (Aog (fun b hb hg=>(Aa.dj p0 p1 (by decide)) b hb (Cr b hg)) Aoh)).agg) ?_)))));obtain ⟨Cy,Cz,C0⟩:=ABm Cp;refine ADd Af (fun _ E=>Af.thenE E) rfl (ASe (Aa.zx Ae).2 Cz) fun Dw Dx A8 C1=>?_;obtain ⟨Dy,rfl,C2⟩:=C1;have A9:=Af.thenE A8;obtain ⟨Dz,rfl,C3⟩:=C2.cs;have Au:=(Aa.e A8).az C3;obtain ⟨C4,C5⟩:=ifN C0;refine Alx AHo AKp rfl rfl AEb AH6 (Au.o2 p2) Cw Ar Cq A9 (fun _ U=>A9.then U (AL7 rfl)) (fun _=>rfl) rfl (Au.z p0) (fun _ _=>rfl) (fun _ _=>rfl) rfl (by decide) C4 fun D0 D1 C6 C7 C8 D2 D3 C9 Da Db=>ACm (q_b (q_t (ABy (AC3 rfl rfl (Wl (ABp ?_))))));obtain rfl:=ABk C5;exact ⟨Cd,(((w64 (B7 + 1)),(sI u64 A3 (Co ++ [Cy])),C6,C7,C8):(Int) × (LiI) × LnA × LnN × LvA),Nat.lt_succ_self _,⟨Ao,(Au.uo2 p2 Da C9 Db).sel [2] (by decide)⟩,rfl,trivial⟩
  ·obtain rfl:=ABk (AC6 Ad Ap);change _=A5 at Ao;subst Ao;refine ACd (ACc (ACc (ADo (q_b (q_t (ABy (AC3 rfl rfl (Wl (ABp ?_)))))))));obtain rfl:=ABk B3;exact ⟨Bx,(((w64 (A3 + 1)),u64,B8,B9,Ca):(Int) × (LiI) × LnA × LnN × LvA),Nat.lt_succ_self _,⟨Ak,Ag⟩,rfl,trivial⟩
 ·obtain rfl:=ABk (AC6 Ac Am);change _=Az at Ak;subst Ak;refine ACd (ACc (ACc (ADo (q_t (ABl (Wl (ABq (ABs ?_))))))));obtain rfl:=ABk Bn;exact ⟨_,ABu,Ab.x,_,_,_,_,rfl,(Ab.o2 p0),Ab.s.sel [0] (by decide)⟩
def AJg (fuel:Nat) (a3:LiI) (Ac:LiA) (Ae:Int) (Aa:LiA) (Ab:Int):Option ((LiA × Int) ⊕ ((LiA))):=
  (if Ab < (Ac.length:Int) then ((gI Ac Ab).bind fun Af=>((gI a3 Ae).bind fun Ag=>((gI Ag Af).bind fun Ah=>(if Aa.length<=100000000 then (some (Sum.inl ((Aa ++ [Ah]),(w64 (Ab + 1))))) else none)))) else (some (Sum.inr<| Aa)))
def AJh (fuel:Nat) (a3:LiI) (a7 Ae:LiA) (Aa:LiI) (Ab:Int):Option ((LiI × Int) ⊕ ((LiI))):=
  (if Ab < (a7.length:Int) then ((gI a7 Ab).bind fun Af=>((iter (fun s=>AJg fuel a3 Ae Af s.1 s.2) fuel ([],0)).bind (fun (Ag:LiA)=>(if Aa.length<=100000000 then (some (Sum.inl ((Aa ++ [Ag]),(w64 (Ab + 1))))) else none)))) else (some (Sum.inr<| Aa)))
def AFi (fuel:Nat) (a3:LiI) (a7 Ac:LiA):Option LiI:=
  ((iter (fun s=>AJh fuel a3 a7 Ac s.1 s.2) fuel ([],0)).bind (fun (Ad:LiI)=>(some Ad)))
theorem AL9 {fuel:Nat} {h:ABj} {Ai:Value} {a3:LiI} {Ak:Value} {a7:LiA} {Ao:Value} {Ap:LiA} {r:LiI} (H2:AFo cZ h Ai a3) (H6:SlC (cI .i64) h Ak a7) (Ar:SlC (cI .i64) h Ao Ap) (hp:AFi fuel a3 a7 Ap=some r):ACa Tryz.prog 115 #[Ai,Ak,Ao] h (fun x h'=>Ext h h'/\ ∃ (x0:Value) (F0:List Nat) (A6:List LnA) (A7:List Value),x=x0/\AFh cZ 112 109 h' F0 A6 A7 x0 r/\Sp h' h.size [F0]):=by
 unfold AFi at hp;refine cwf (l:=[_,_,_]) Tryz.func115 rfl rfl (ABl (ACr (ABq (ABn (ABl (Wl (AD1 AUv rfl H6 (Wl (ABp (ABr ?_))))))))));have Aw:=Kst.anil2 cZ 112 109 (Kst.k0 h);obtain ⟨Ax,A8,A9⟩:=ABm hp;obtain ⟨Ba,Bb,Bc⟩:=ACj A8;refine ACk 2199023228544 (fun x:(LiI) × (Value) × LnA × LnN × LvA × (Int)=>[(7,x.2.1),(15,(.int .i64 x.2.2.2.2.2))]) (fun k x h'=>iter Ba k (x.1,x.2.2.2.2.2)=some Ax/\Kst h h' (Aw.L.set 0 (aO2 cZ 112 109 x.2.2.1 x.2.2.2.1 x.2.2.2.2.1 x.2.1 x.1))) (by kernel_rfl) fuel (([],(.slice none 0 0),[],[],[],0):(LiI) × (Value) × LnA × LnN × LvA × (Int)) ?_ ⟨rfl,rfl,trivial⟩ ?_
 ·exact ⟨Bc,Aw⟩
 rintro Ct ⟨Be,Cu,Cv,Bf,Bg,u32⟩ Cw Cx ⟨Bh,Ab⟩;obtain ⟨Bi,Cy,rfl,Ac,Ae⟩:=AB5 Bh;rw [Bb] at Ac;dsimp only at Ac;unfold AJh at Ac;refine ABl (AC1 rfl rfl (ABp (ABn (⟨_,rfl,fun Af=>?_,fun Af=>?_⟩))))
 ·refine ABt (q_t (ABn (ABr (ABl ?_))));obtain ⟨Cz,Bj,Bl⟩:=ABm (AC5 Ac Af);refine AIw (c:=(cI .i64)) AUv rfl H6 rfl Bj fun C0 C1 C2 Bm Bn=>?_;obtain rfl:=Bm;refine AB9 AFq rfl (AB0 (Bn 0 _ rfl) Ab.x) (ACr (ABq (ABn (ABl (Wl (AD1 AUv rfl Ar (Wl (ABp (ABr ?_)))))))));have Ay:=Kst.anil cZ 109 Ab;obtain ⟨Az,Bo,Bp⟩:=ABm Bl;obtain ⟨Bq,Br,Bt⟩:=ACj Bo;refine ACk 68717384704 (fun x:(LiA) × (Value) × LnA × (Int)=>[(10,x.2.1),(21,(.int .i64 x.2.2.2))]) (fun k x h'=>iter Bq k (x.1,x.2.2.2)=some Az/\Kst h h' (Ay.L.set 0 (aO cZ 109 x.2.2.1 x.2.1 x.1))) (by kernel_rfl) fuel (([],(.slice none 0 0),[],0):(LiA) × (Value) × LnA × (Int)) ?_ ⟨rfl,rfl,trivial⟩ ?_
  ·exact ⟨Bt,Ay⟩
  rintro C3 ⟨A3,Bu,Bv,Bw⟩ C4 C5 ⟨Bx,Aa⟩;obtain ⟨By,C6,rfl,Ad,Ag⟩:=AB5 Bx;rw [Br] at Ad;dsimp only at Ad;unfold AJg at Ad;refine ABl (AC1 rfl rfl (ABp (ABn (⟨_,rfl,fun Ah=>?_,fun Ah=>?_⟩))))
  ·refine ABt (q_t (ABn (ABr (ABl ?_))));obtain ⟨C7,Bz,B1⟩:=ABm (AC5 Ad Ah);refine AIw (c:=(cI .i64)) AUv rfl Ar rfl Bz fun C8 C9 Da B2 B3=>?_;obtain rfl:=B2;refine AB9 AFq rfl (AB0 (B3 0 _ rfl) Aa.x) (ABq (ABy (Wl (Wl (Wl ?_)))));obtain ⟨Db,B4,B5⟩:=ABm B1;refine AIx AEb rfl H2 rfl B4 fun Dc Dd De B6 B7=>AB9 AH6 rfl (AB0 B6 Aa.x) (Wl ?_);obtain ⟨B8,B9,Ca⟩:=ABm B5;refine AIw (c:=cZ) AHo rfl B7 rfl B9 fun Df Dg Dh A4 Cb=>AVx (c:=cZ) ACq rfl (Aa.zx A4) (fun j u hu=>(AB0 (Cb j u hu) Aa.x)) ?_;obtain ⟨Cd,Ce⟩:=ifN Ca;refine AOc AHo AKp rfl rfl trivial tt2 (fun _=>rfl) rfl (Aa.zx A4) (Aa.o p0) (by decide) Cd fun Di Cf Cg Dj Ch Ci Cj=>ACg (ACm (q_b (q_t (ABy (AC3 rfl rfl (Wl (ABp ?_)))))));obtain rfl:=ABk Ce;exact ⟨By,(((A3 ++ [B8]),Cg,Cf,(w64 (Bw + 1))):(LiA) × (Value) × LnA × (Int)),Nat.lt_succ_self _,⟨Ag,(Aa.uo p0 Ci Ch Cj)⟩,rfl,rfl,trivial⟩
  ·obtain rfl:=ABk (AC6 Ad Ah);change _=Az at Ag;subst Ag;refine ACd (ACc (ACc (ADo (q_t (ABy (Wl (Wl ?_)))))));obtain ⟨Ck,Cm⟩:=ifN Bp;refine Ac8 AEb Aop rfl rfl trivial tt2 (fun _=>rfl) rfl (Aa.o p0) (Aa.o2 p1) (Aa.dj p0 p1 (by decide)) (by decide) Ck fun Dk Cn Co Dl Cp Cq Cr=>ACg (ACm (q_b (q_t (ABy (AC3 rfl rfl (Wl (ABp ?_)))))));obtain rfl:=ABk Cm;exact ⟨Bi,(((Be ++ [A3]),Co,Cn,(Bf ++ [Bv]),(Bg ++ [Bu]),(w64 (u32 + 1))):(LiI) × (Value) × LnA × LnN × LvA × (Int)),Nat.lt_succ_self _,⟨Ae,(Aa.m2 p0 p1 (by decide) Cq Cp Cr).sel [1] (by decide)⟩,rfl,rfl,trivial⟩
 ·obtain rfl:=ABk (AC6 Ac Af);change _=Ax at Ae;subst Ae;refine ACd (ACc (ACc (ADo (q_t (ABl (Wl (ABq (ABs ?_))))))));obtain rfl:=ABk A9;exact ⟨_,ABu,Ab.x,_,_,_,_,rfl,(Ab.o2 p0),Ab.s.sel [0] (by decide)⟩
def AG7 (fuel:Nat) (Ab:LiI) (Ac:Int) (Ad:LiI) (Aa:Int):Option ((Int) ⊕ ((Int))):=
  (((if Aa < (Ab.length:Int) then ((gI Ad Aa).bind fun Ae=>((gI Ae Ac).bind fun Af=>((AWy fuel Af).bind fun Ag=>(if Ag=0 then (some (Sum.inl <| ())) else (some (Sum.inr <| ())))))) else (some (Sum.inr <| ()))):Option ((Unit) ⊕ (Unit))).bind (fun ex=>match ex with | Sum.inl _=>(some (Sum.inl (w64 (Aa + 1)))) | Sum.inr (_)=>(some (Sum.inr<| Aa))))
def AG8 (fuel:Nat) (Ag:LiI) (Ac Ah Ae Aa:Int) (Ab:LiI):Option ((Int × LiI) ⊕ ((LiI))):=
  (if Aa < (Ag.length:Int) then ((gI Ab Ae).bind fun Ad=>((gI Ab Ac).bind fun Af=>((gI Af Ac).bind fun Ai=>((gI Ad Aa).bind fun Aj=>((AQr fuel Ai Aj).bind fun Ak=>((gI Ad Ac).bind fun Am=>((gI Af Aa).bind fun Ao=>((AQr fuel Am Ao).bind fun Ap=>((Aup fuel Ak Ap).bind fun Aq=>((AEd fuel Aq Ah).bind fun Ar=>(some (Sum.inl ((w64 (Aa + 1)),(sI Ab Ae (sI Ad Aa Ar))))))))))))))) else (some (Sum.inr<| Ab)))
def AG9 (fuel:Nat) (Ab:LiI) (Ac Ae Aa:Int) (Ad:LiI):Option ((Int × LiI) ⊕ ((LiI))):=
  (if Aa < (Ab.length:Int) then ((iter (fun s=>AG8 fuel Ab Ac Ae Aa s.1 s.2) fuel ((w64 (Ac + 1)),Ad)).bind (fun (Af:LiI)=>(some (Sum.inl ((w64 (Aa + 1)),Af))))) else (some (Sum.inr<| Ad)))
def AHa (fuel:Nat) (Ac:LiI) (Ae:Bool) (Aa:Int) (Ab:LiI) (Af:Int):Option ((Bool × Int × LiI × Int) ⊕ ((Int) ⊕ (Bool × Int))):=
  (if Aa < (Ac.length:Int) then ((((((iter (fun s=>AG7 fuel Ac Aa Ab s) fuel Aa).bind (fun (Ah:Int)=>(some ( Ah)))):Option ((Int))).bind (fun (Ad:Int)=>(if Ad=(Ac.length:Int) then (some (Sum.inl <| 0)) else (((if Aa < Ad then ((gI Ab Aa).bind fun Ai=>((gI Ab Ad).bind fun Aj=>(some ( ((!Ae),(sI (sI Ab Ad Ai) Aa Aj)))))) else (some ( (Ae,Ab)))):Option ((Bool × LiI))).bind (fun ((Ak,Am):Bool × LiI)=>((iter (fun s=>AG9 fuel Ac Aa Af s.1 s.2) fuel ((w64 (Aa + 1)),Am)).bind (fun (Ag:LiI)=>((gI Ag Aa).bind fun Ao=>((gI Ao Aa).bind fun Ap=>(some (Sum.inr <| (Ak,Ag,Ap)))))))))))):Option ((Int) ⊕ (Bool × LiI × Int))).bind (fun ex=>match ex with | Sum.inl Aq=>(some (Sum.inr<| Sum.inl <| Aq)) | Sum.inr ((Ar,Au,Av))=>(some (Sum.inl (Ar,(w64 (Aa + 1)),Au,Av))))) else (some (Sum.inr<| Sum.inr <| (Ae,Af))))
def AC8 (fuel:Nat) (a3:LiI):Option Int:=
  ((AGa fuel a3).bind fun Aa=>((ALk fuel 1).bind fun Ad=>((iter (fun s=>AHa fuel Aa s.1 s.2.1 s.2.2.1 s.2.2.2) fuel (false,0,Aa,Ad)).bind (fun ex=>match ex with | Sum.inl Ae=>(some Ae) | Sum.inr ((Af,Ab))=>(if Af=true then ((Afd fuel Ab).bind fun Ag=>(some Ag)) else (some Ab))))))
theorem AEg {fuel:Nat} {h:ABj} {B1:Value} {a3:LiI} {r:Int} (H2:AFo cZ h B1 a3) (hp:AC8 fuel a3=some r):ACa Tryz.prog 85 #[B1] h (fun x h'=>Ext h h'/\ ∃ (x0:Value),x=x0/\ZZ h' x0 r):=by
 unfold AC8 at hp;refine cwf (l:=[_]) Tryz.func85 rfl rfl (ABl (AD2 [.bool false,.slice none 0 0] AKp rfl trivial tt2 fun b5 h6 V7 E8 S9=>ANc (Wl ?_)));have B4:=(Kst.k0 h).nb E8 S9 V7;obtain ⟨B5,Dj,Dk⟩:=ABm hp;refine ACw rfl (AM6 (H2.ext B4.x) Dj) fun Ao Jo Dl Dn=>?_;obtain ⟨Jp,Do,Dp,Dq,rfl,Dr,Ds⟩:=Dn;refine ACr (Wl ?_);have B6:=B4.no2 Dl Ds Dr;refine ADh AEb rfl (B6.o2 p0).rd (ACr ?_);obtain ⟨Dt,Du,Dv⟩:=ABm Dk;refine ACw rfl (AJ6 Du) fun Jq Jr Dw Dx=>?_;obtain ⟨Js,rfl,Dy⟩:=Dx;obtain ⟨B7,rfl,Dz⟩:=Dy.cs;refine AD2 [.bool false,.slice none 0 0] AKp rfl trivial tt2 fun B8 D0 D1 D2 D3=>?_;have Ay:=((B6.e Dw).az Dz).nb D2 D3 D1;refine ADn B7 ACq (cZ.klen (Ay.z p1)) (cZ.klen (ACl D0)) rfl rfl (cZ.one (Ay.z p1)) (Ay.b p0) fun Jt D4 D5=>ABq (ABn (ABl (ABq (ABr ?_))));have B9:=Ay.sb p0 D5 D4 rfl;obtain ⟨Ba,D6,Bb⟩:=ABm Dv;obtain ⟨D7,D8,D9⟩:=ACj D6;refine ACk 2658455991569831745807614120560625600 (fun x:(Bool) × (Int) × (LiI) × LnA × LnN × LvA × (Int) × LvA=>[(6,(.bool x.1)),(7,(.int .i64 x.2.1))]) (fun k x h'=>iter D7 k (x.1,x.2.1,x.2.2.1,x.2.2.2.2.2.2.1)=some Ba/\Kst h h' (((B9.L.set 2 (aO2 cZ 112 109 x.2.2.2.1 x.2.2.2.2.1 x.2.2.2.2.2.1 Ao x.2.2.1)).set 1 (aZ x.2.2.2.2.2.2.2 x.2.2.2.2.2.2.1)).set 0 (aB 109 B8 x.2.2.2.2.2.2.2))) (by kernel_rfl) fuel ((false,0,B5,Do,Dp,Dq,Dt,B7):(Bool) × (Int) × (LiI) × LnA × LnN × LvA × (Int) × LvA) ?_ ⟨rfl,rfl,trivial⟩ ?_
 ·exact ⟨D9,B9⟩
 rintro Ju ⟨Ca,Af,Cb,Ea,Eb,Ec,Jv,Az⟩ Jw Ed ⟨Ee,Ab⟩;obtain ⟨Ef,Jx,rfl,Ap,Aq⟩:=AB5 Ee;rw [D8] at Ap;dsimp only at Ap;unfold AHa at Ap;refine ABn (ABl (Wl (Wl (AC1 rfl rfl (ABp (⟨_,rfl,fun Bc=>?_,fun Bc=>?_⟩))))))
 ·refine ABt (q_t ?_);obtain ⟨Eg,Eh,Cd⟩:=ABm (AC5 Ap Bc);refine ANx 2658455991569831745807614120558593856 (fun x:(Bool) × (LiI) × LnA × LnN × LvA × (Int) × LvA=>[(6,(.bool x.1))]) (fun x h'=>(Sum.inr <| (x.1,x.2.1,x.2.2.2.2.2.1))=Eg/\Kst h h' (((Ab.L.set 2 (aO2 cZ 112 109 x.2.2.1 x.2.2.2.1 x.2.2.2.2.1 Ao x.2.1)).set 1 (aZ x.2.2.2.2.2.2 x.2.2.2.2.2.1)).set 0 (aB 109 B8 x.2.2.2.2.2.2))) ?_ ?_
  ·refine ABr (ABl (Wl (ABq ?_)));obtain ⟨Ei,Ej,Ce⟩:=ABm Eh;refine ANx 274873712896 (fun x:(Int)=>[(8,(.int .i64 x))]) (fun x h'=>( x)=Ei/\Kst h h' (Ab.L)) ?_ ?_
   ·refine ABr ?_;obtain ⟨Be,Ek,Cf⟩:=ABm Ej;obtain ⟨El,Em,En⟩:=ACj Ek;refine ACk 274873712896 (fun x:(Int)=>[(8,(.int .i64 x))]) (fun k x h'=>iter El k x=some Be/\Kst h h' (Ab.L)) (by kernel_rfl) fuel (Af:(Int)) ?_ ⟨rfl,trivial⟩ ?_
    ·exact ⟨En,Ab⟩
    rintro Jy Ar Jz J0 ⟨Eo,Ah⟩;obtain ⟨Ep,J1,rfl,A3,Au⟩:=AB5 Eo;rw [Em] at A3;dsimp only at A3;unfold AG7 at A3;obtain ⟨Er,Cg,Bf⟩:=ABm A3;refine ANx 68715282432 (fun x:Unit=>[]) (fun x h'=>(Sum.inl <| ())=Er/\Kst h h' (Ah.L)) ?_ ?_
    ·refine ABl (Wl (Wl (AC1 rfl rfl (Wl ?_))));by_cases A4:Ar < (B5.length:Int)
     ·rw [decide_eq_true A4];refine ACb 25 true (Wl (ACb 25 true (Wl (ACb 25 true ?_))));obtain ⟨J2,Bg,Es⟩:=ABm (ifT Cg A4);refine ADx AEb rfl (Ah.o2 p2) rfl Bg fun J3 J4 J5 Et Eu=>ACb 25 true (AB9 AH6 rfl Eu (ACb 25 true (Wl (ACb 25 true ?_))));obtain ⟨J6,Ch,Ev⟩:=ABm Es;refine AFd (m:=Ar) AHo rfl (Ah.o2 p2) Et Bg rfl Ch fun J7 Ew=>ACb 25 true ?_;obtain ⟨J8,Ey,Ez⟩:=(Ah.o2 p2).cells Ew Bg Ch;have Bh:=Ah.az Ey;refine AVx (c:=cZ) ACq rfl (Bh.z p0) (fun j u hu=>(Ez j u hu)) (ACb 25 true ?_);obtain ⟨J9,Fa,Ci⟩:=ABm Ev;refine ACw rfl (AV1 (Bh.z p0).2 Fa) fun Ka Kb Fb Fc=>?_;subst Fc;refine ACb 25 true (ADk rfl rfl (ABz rfl (ABp ?_)));have Cj:=Bh.e Fb;refine ⟨_,rfl,fun Bi=>?_,fun Bi=>?_⟩
      ·refine ABt (q_t ?_);exact ⟨(():Unit),⟨ABk (AC5 Ci Bi),Cj.sel [1,2,3,4] (by decide)⟩,trivial⟩
      ·obtain rfl:=ABk (AC6 Ci Bi);obtain rfl:=ABk Bf;change _=Be at Au;subst Au;refine ACd (ACc (ACc (ADo (q_t ?_))));exact ⟨(Ar:(Int)),⟨ABk Cf,Cj.sel [1,2,3,4] (by decide)⟩,rfl,trivial⟩
     ·rw [decide_eq_false A4];refine ALv 25 false (AJa 25 false (ABw rfl (ABp (ACf rfl ?_))));obtain rfl:=ABk (ifF Cg A4);obtain rfl:=ABk Bf;change _=Be at Au;subst Au;refine ACd (ACc (ACc (ADo (q_t ?_))));exact ⟨(Ar:(Int)),⟨ABk Cf,Ah⟩,rfl,trivial⟩
    rintro ⟨⟩ Kc Kd ⟨Fd,Fe⟩;subst Fd;refine ABr (ABy (Wl (AC3 rfl rfl (ACg (ACm (q_b (q_t ?_)))))));obtain rfl:=ABk Bf;exact ⟨Ep,((w64 (Ar + 1)):(Int)),Nat.lt_succ_self _,⟨Au,Fe⟩,rfl,trivial⟩
   rintro Ff Ke Bj ⟨Fg,Ag⟩;subst Fg;refine ABn (ABl (Wl (Wl (ADk rfl rfl (ABp (⟨_,rfl,fun Bl=>?_,fun Bl=>?_⟩))))))
   ·refine ABl (AMr (Ae6 ) (ADn [Value.bool false,Value.slice none 0 0] ACq (cZ.klen (ACl Bj)) (cZ.klen (ACl Bj)) rfl rfl (cZ.one (ACl Bj)) (Ag.b p3) fun Ck Fh Fi=>ABp ?_));have Cm:=Ag.sb p3 Fi Fh rfl;obtain rfl:=ABk (AC5 Ce Bl);obtain rfl:=ABk Cd;change _=Ba at Aq;subst Aq;refine ABs (AB2 (ADp (AB2 (AB2 (ADp (AB2 ?_))))));obtain rfl:=ABk Bb;exact ⟨_,AFr ACq (cZ.klen (ACl Ck)) rfl (Cm.b p3),Cm.x,_,rfl,(ACl Ck).2⟩
   ·refine ABt (q_t ?_);obtain ⟨Fj,Cn,Fk⟩:=ABm (AC6 Ce Bl);refine ANx 2305838611167182912 (fun x:(Bool) × (LiI) × LnA × LnN × LvA=>[(6,(.bool x.1))]) (fun x h'=>( (x.1,x.2.1))=Fj/\Kst h h' (Ag.L.set 2 (aO2 cZ 112 109 x.2.2.1 x.2.2.2.1 x.2.2.2.2 Ao x.2.1))) ?_ ?_
    ·refine ABl (Wl (Wl (AJe rfl rfl (ABp (⟨_,rfl,fun Bm=>?_,fun Bm=>?_⟩)))))
     ·refine ABn (ANr (Wl (Wl (Wl (Wl (Wl (Wl ?_)))))));obtain ⟨Fl,Co,Fm⟩:=ABm (AC5 Cn Bm);refine ADx AEb rfl (Ag.o2 p2) rfl Co fun Kf Kg Kh Fo Fp=>AB9 AH6 rfl Fp (Wl (Wl ?_));obtain ⟨Fq,Cp,Fr⟩:=ABm Fm;refine ADx AEb rfl (Ag.o2 p2) rfl Cp fun Ki Kj Kk Ft Fu=>AB9 AH6 rfl Fu (AVa AEb AH6 (Ag.o2 p2) Ft Fo Cp Co rfl rfl (fun _=>rfl) (fun _=>rfl) (fun _=>rfl) (fun _ _=>rfl) fun Kl Km Fv Fw Fx Kn Fy Fz F4=>ABp (ABy (Wl (AF9 rfl (ABq ?_)))));exact ⟨(((!Ca),(sI (sI Cb Ff Fl) Af Fq),Fv,Fw,Fx):(Bool) × (LiI) × LnA × LnN × LvA),⟨ABk Fr,(Ag.uo2 p2 Fz Fy F4)⟩,rfl,trivial⟩
     ·refine ABt (q_t ?_);exact ⟨((Ca,Cb,Ea,Eb,Ec):(Bool) × (LiI) × LnA × LnN × LvA),⟨ABk (AC6 Cn Bm),Ag⟩,rfl,trivial⟩
    rintro ⟨F5,F6,F7,F8,F9⟩ Ko Kp ⟨Ga,Cq⟩;subst Ga;refine ABn (ABl (Wl (AC3 rfl rfl (ABq (ABr ?_)))));obtain ⟨Cr,Gb,Gc⟩:=ABm Fk;obtain ⟨Gd,Ge,Gf⟩:=ACj Gb;refine ACk 20769187434139301290749948462106112 (fun x:(Int) × (LiI) × LnA × LnN × LvA=>[(9,(.int .i64 x.1))]) (fun k x h'=>iter Gd k (x.1,x.2.1)=some Cr/\Kst h h' (Cq.L.set 2 (aO2 cZ 112 109 x.2.2.1 x.2.2.2.1 x.2.2.2.2 Ao x.2.1))) (by kernel_rfl) fuel (((w64 (Af + 1)),F6,F7,F8,F9):(Int) × (LiI) × LnA × LnN × LvA) ?_ ⟨rfl,trivial⟩ ?_
    ·exact ⟨Gf,Cq⟩
    rintro Kr ⟨Ai,Ct,Cu,Cv,Cw⟩ Kt Ku ⟨Gg,Aj⟩;obtain ⟨Gh,Kv,rfl,Av,Bn⟩:=AB5 Gg;rw [Ge] at Av;dsimp only at Av;unfold AG9 at Av;refine ABn (ABl (Wl (Wl (AC1 rfl rfl (ABp (⟨_,rfl,fun Bo=>?_,fun Bo=>?_⟩))))))
    ·refine ABt (q_t (ABn (ABr (ABl (Wl (AC3 rfl rfl (ABq (ABr ?_))))))));obtain ⟨Cx,Gi,Gj⟩:=ABm (AC5 Av Bo);obtain ⟨Gk,Gl,Gm⟩:=ACj Gi;refine ACk 20769187434138129922501267905577984 (fun x:(Int) × (LiI) × LnA × LnN × LvA=>[(10,(.int .i64 x.1))]) (fun k x h'=>iter Gk k (x.1,x.2.1)=some Cx/\Kst h h' (Aj.L.set 2 (aO2 cZ 112 109 x.2.2.1 x.2.2.2.1 x.2.2.2.2 Ao x.2.1))) (by kernel_rfl) fuel (((w64 (Af + 1)),Ct,Cu,Cv,Cw):(Int) × (LiI) × LnA × LnN × LvA) ?_ ⟨rfl,trivial⟩ ?_
     ·exact ⟨Gm,Aj⟩
     rintro Kw ⟨Cy,Cz,C0,C1,C2⟩ Kx Bp ⟨Gn,Aa⟩;obtain ⟨Gp,Ky,rfl,Aw,Bq⟩:=AB5 Gn;rw [Gl] at Aw;dsimp only at Aw;unfold AG8 at Aw;refine ABn (ABl (Wl (Wl (AC1 rfl rfl (ABp (⟨_,rfl,fun Br=>?_,fun Br=>?_⟩))))))
     ·refine ABt (q_t (ABn (ABr (AEs (fun h'=>UpT [] Bp h') (by kernel_rfl) ?_))));have Ac:UpT [] Bp Bp:=UpT.start all_nil;refine Wl (Wl ?_);obtain ⟨Gq,Ad,Gr⟩:=ABm (AC5 Aw Br);refine ADx AEb rfl (Aa.o2 p2) rfl Ad fun Kz K3 K5 Gt Gu=>AGw AH6 rfl Ac (fun h' hb=>AB0 Gu hb.ext) (Wl (Wl (Wl ?_)));obtain ⟨K6,Ak,Gv⟩:=ABm Gr;refine ADx AEb rfl (Aa.o2 p2) rfl Ak fun K9 La Lb Gw Gx=>AGw AH6 rfl Ac (fun h' hb=>AB0 Gx hb.ext) (Wl ?_);obtain ⟨Lc,C3,Gy⟩:=ABm Gv;refine AFd (m:=Af) AHo rfl (Aa.o2 p2) Gw Ak rfl C3 fun Ld Gz=>?_;obtain ⟨Le,C4,G3⟩:=(Aa.o2 p2).cells Gz Ak C3;refine AU9 (c:=cZ) ACq rfl C4 Ac (fun h' hb j u hu=>AB0 (G3 j u hu) hb.ext) (Wl (Wl (ADx AEb rfl (Aa.o2 p2) rfl Ad fun Lf Lg Lh G4 G5=>AGw AH6 rfl Ac (fun h' hb=>AB0 G5 hb.ext) (Wl ?_))));obtain ⟨Li,A5,G6⟩:=ABm Gy;refine AFd (m:=Ai) AHo rfl (Aa.o2 p2) G4 Ad rfl A5 fun Lj G7=>?_;obtain ⟨Lk,C5,G8⟩:=(Aa.o2 p2).cells G7 Ad A5;refine AU9 (c:=cZ) ACq rfl C5 Ac (fun h' hb j u hu=>AB0 (G8 j u hu) hb.ext) ?_;have Bt:=(Aa.az (cZ.upT C4 Ac)).az (cZ.upT C5 Ac);obtain ⟨Ll,G9,Hb⟩:=ABm G6;refine ADd Ac (fun _ E=>Ac.thenE E) rfl (AOw (Bt.z p1).2 (Bt.z p0).2 G9) fun Lm Ln C6 Hc=>?_;obtain ⟨Lo,rfl,Hd⟩:=Hc;have Ae:=Ac.thenE C6;obtain ⟨Lq,rfl,He⟩:=Hd.cs;refine Wl (Wl (ADx AEb rfl (Aa.o2 p2) rfl Ad fun Lr Lu Lv Hf Hg=>AGw AH6 rfl Ae (fun h' hb=>AB0 Hg hb.ext) (Wl ?_)));obtain ⟨Lw,C7,Hh⟩:=ABm Hb;refine AFd (m:=Ai) AHo rfl (Aa.o2 p2) Hf Ad rfl C7 fun Lx Hj=>?_;obtain ⟨Ly,C8,Hk⟩:=(Aa.o2 p2).cells Hj Ad C7;refine AU9 (c:=cZ) ACq rfl C8 Ae (fun h' hb j u hu=>AB0 (Hk j u hu) hb.ext) (Wl (Wl (ADx AEb rfl (Aa.o2 p2) rfl Ak fun Lz Ma Mb Hl Hm=>AGw AH6 rfl Ae (fun h' hb=>AB0 Hm hb.ext) (Wl ?_))));obtain ⟨Mc,C9,Hn⟩:=ABm Hh;refine AFd (m:=Af) AHo rfl (Aa.o2 p2) Hl Ak rfl C9 fun Md Ho=>?_;obtain ⟨Me,Da,Hq⟩:=(Aa.o2 p2).cells Ho Ak C9;refine AU9 (c:=cZ) ACq rfl Da Ae (fun h' hb j u hu=>AB0 (Hq j u hu) hb.ext) ?_;have Bu:=(((Bt.e C6).az He).az (cZ.upT C8 Ae)).az (cZ.upT Da Ae);obtain ⟨Mf,Hr,Hs⟩:=ABm Hn;refine ADd Ae (fun _ E=>Ae.thenE E) rfl (AOw (Bu.z p1).2 (Bu.z p0).2 Hr) fun Mg Mh Db Ht=>?_;obtain ⟨Mi,rfl,Hu⟩:=Ht;have Bv:=Ae.thenE Db;obtain ⟨Mj,rfl,Hv⟩:=Hu.cs;have Bw:=(Bu.e Db).az Hv;obtain ⟨Mk,Hw,Hx⟩:=ABm Hs;refine ADd Bv (fun _ E=>Bv.thenE E) rfl (Avw (Bw.z p3).2 (Bw.z p0).2 Hw) fun Ml Mm Dc Hy=>?_;obtain ⟨Mo,rfl,Hz⟩:=Hy;have Bx:=Bv.thenE Dc;obtain ⟨Mq,rfl,H5⟩:=Hz.cs;have A6:=(Bw.e Dc).az H5;refine AEy Az ACq (cZ.klen (A6.z p8)) rfl Bx (fun h' hb=>((Aa.b p0).ext hb.ext).agg) ?_;obtain ⟨H9,Ia,Ib⟩:=ABm Hx;refine ADd Bx (fun _ E=>Bx.thenE E) rfl (AIl (A6.z p0).2 (A6.z p8).2 Ia) fun Mr Ms Ic Id=>?_;obtain ⟨Mt,rfl,Ie⟩:=Id;obtain ⟨Mu,rfl,If⟩:=Ie.cs;refine AFd (m:=Ai) AHo rfl (Aa.o2 p2) Gt Ad rfl A5 fun Mv Ih=>?_;have Ax:=(A6.e Ic).az If;refine AJ5 (m:=Ai) (AT8 ACq (cZ.klen (Ax.z p0)) rfl rfl (cZ.one (Ax.z p0))) (Ax.o2 p10) Ih Ad A5 (Ax.z p0) fun Mw Ii Ij=>ACm (q_b (q_t (ABy (Wl (AC3 rfl rfl (ABq ?_))))));obtain rfl:=ABk Ib;exact ⟨Gp,(((w64 (Cy + 1)),(sI Cz Ai (sI Gq Cy H9)),C0,C1,C2):(Int) × (LiI) × LnA × LnN × LvA),Nat.lt_succ_self _,⟨Bq,(Ax.uO2 p10 Ij Ii).sel [8,9,10,11] (by decide)⟩,rfl,trivial⟩
     ·obtain rfl:=ABk (AC6 Aw Br);change _=Cx at Bq;subst Bq;refine ACd (ACc (ACc (ADo (q_b (q_t (ABy (Wl (AC3 rfl rfl (ABq ?_)))))))));obtain rfl:=ABk Gj;exact ⟨Gh,(((w64 (Ai + 1)),Cz,C0,C1,C2):(Int) × (LiI) × LnA × LnN × LvA),Nat.lt_succ_self _,⟨Bn,Aa⟩,rfl,trivial⟩
    ·obtain rfl:=ABk (AC6 Av Bo);change _=Cr at Bn;subst Bn;refine ACd (ACc (ACc (ADo (q_t (ABy (Wl (Wl ?_)))))));obtain ⟨Mx,By,Ik⟩:=ABm Gc;refine ADx AEb rfl (Aj.o2 p2) rfl By fun My Mz M1 Il Im=>AB9 AH6 rfl Im (Wl ?_);obtain ⟨Io,Dd,Ip⟩:=ABm Ik;refine AFd (m:=Af) AHo rfl (Aj.o2 p2) Il By rfl Dd fun M2 Iq=>?_;obtain ⟨De,Ir,It⟩:=(Aj.o2 p2).cells Iq By Dd;have Am:=Aj.az Ir;refine AVx (c:=cZ) ACq rfl (Am.z p0) (fun j u hu=>(It j u hu)) (ADn De ACq (cZ.klen (Am.z p0)) (cZ.klen (Am.z p2)) rfl rfl (cZ.one (Am.z p0)) (Am.b p1) fun M3 Iu Iv=>ACm (q_b (q_t ?_)));exact ⟨((F5,Ct,Cu,Cv,Cw,Io,De):(Bool) × (LiI) × LnA × LnN × LvA × (Int) × LvA),⟨ABk Ip,(Am.sb p1 Iv Iu rfl).sel [1,0,3,4] (by decide)⟩,rfl,trivial⟩
  rintro ⟨Iw,Ix,Iy,Iz,I0,I1,I2⟩ M4 M5 ⟨I3,I6⟩;subst I3;refine ABy (Wl (AC3 rfl rfl (ABq ?_)));obtain rfl:=ABk Cd;exact ⟨Ef,((Iw,(w64 (Af + 1)),Ix,Iy,Iz,I0,I1,I2):(Bool) × (Int) × (LiI) × LnA × LnN × LvA × (Int) × LvA),Nat.lt_succ_self _,⟨Aq,I6⟩,rfl,rfl,trivial⟩
 ·obtain rfl:=ABk (AC6 Ap Bc);change _=Ba at Aq;subst Aq;refine ACd (ACc (ACc (ADo (q_t (ABn (ABl (Wl (ABp (⟨_,rfl,fun Bz=>?_,fun Bz=>?_⟩)))))))))
  ·refine ABl (AHm Az ACq (cZ.klen (Ab.z p1)) rfl (Ab.b p0).agg ?_);obtain ⟨M6,I7,I9⟩:=ABm (ifT Bb Bz);refine ACw rfl (Adm (Ab.z p1).2 I7) fun M7 Ja Jc Je=>?_;obtain ⟨M8,rfl,Jf⟩:=Je;obtain ⟨Jg,rfl,Jh⟩:=Jf.cs;have A7:=(Ab.e Jc).az Jh;refine ADn Jg ACq (cZ.klen (A7.z p0)) (cZ.klen (ACl Ja)) rfl rfl (cZ.one (A7.z p0)) (A7.b p4) fun M9 Ji Jj=>ABp (ABs (AB2 ?_));have A8:=A7.sb p4 Jj Ji rfl;obtain rfl:=ABk I9;exact ⟨_,AFr ACq (cZ.klen (A8.z p0)) rfl (A8.b p4),A8.x,_,rfl,(A8.z p0).2⟩
  ·refine ABt (q_t (ABl (AHm Az ACq (cZ.klen (Ab.z p1)) rfl (Ab.b p0).agg (ADn Az ACq (cZ.klen (Ab.z p1)) (cZ.klen (ACl Ed)) rfl rfl (cZ.one (Ab.z p1)) (Ab.b p3) fun Na Jk Jl=>ABp (ABs ?_)))));have A9:=Ab.sb p3 Jl Jk rfl;obtain rfl:=ABk (AJc Bb Bz);exact ⟨_,AFr ACq (cZ.klen (A9.z p1)) rfl (A9.b p3),A9.x,_,rfl,(A9.z p1).2⟩
end Go.Proofs.YtiegjkmfpcgjjaaGreatDoor
namespace Go.Proofs.YtiegjkmfpcgjjaaGreatDoor
open Go Go.QF
set_option maxRecDepth 100000
theorem Ao1 {na:Bool} {m:Nat} {z:Int} (h:z=sgn na m):AHs z=1->z=m:=by
 cases na
 ·intro _;rw [h];rfl
 ·intro h1;rw [h] at h1 ⊢;unfold AHs sgn at h1;unfold sgn;simp at h1 ⊢;split at h1 <;> (try split at h1) <;> omega
theorem Ao2 {na:Bool} {m:Nat} {z:Int} (h:z=sgn na m):AHs z= -1->z= -(m:Int):=by
 cases na
 ·intro h1;rw [h] at h1 ⊢;unfold AHs sgn at h1;unfold sgn;simp at h1 ⊢;split at h1 <;> (try split at h1) <;> omega
 ·intro _;rw [h];rfl
def ARm (a b:Int):Int:=if a < b then -1 else if a=b then 0 else 1
theorem Ah4 {a b:Int} (h:AHs a≠AHs b) (h2:AHs a < AHs b):ARm a b= -1:=by
 unfold AHs at h h2;unfold ARm;repeat' split at h2
 all_goals (rw [if_pos (by omega)])
theorem Ah5 {a b:Int} (h:AHs a≠AHs b) (h2: ¬ AHs a < AHs b):ARm a b=1:=by
 unfold AHs at h h2;unfold ARm
 rw [if_neg (by
   repeat' split at h2
   all_goals (repeat' split at h)
   all_goals omega),if_neg (by
     repeat' split at h2
     all_goals (repeat' split at h)
     all_goals omega)]
theorem Adn {na nb:Bool} {m k:Nat} {a b:Int} (ha:a=sgn na m) (hb:b=sgn nb k) (h:AHs a=AHs b):AHs a * ATa m k=ARm a b:=by
 have h3:AHs a= -1∨AHs a=0∨AHs a=1:=by unfold AHs;split;exact .inl rfl;split;exact .inr (.inl rfl);exact .inr (.inr rfl)
 rcases h3 with h1 | h1 | h1
 ·have e1:=Ao2 ha h1;have e2:=Ao2 hb (h ▸ h1);rw [h1];unfold ATa ARm;repeat' split
  all_goals omega
 ·have z:∀ x:Int,AHs x=0->x=0:=fun x hx=>by unfold AHs at hx;repeat' split at hx;all_goals omega
  have e1:=z a h1;have e2:=z b (h ▸ h1);rw [h1,e1,e2];simp [ARm]
 ·have e1:=Ao1 ha h1;have e2:=Ao1 hb (h ▸ h1);rw [h1];unfold ATa ARm;repeat' split
  all_goals omega
theorem Asm (a b:Nat): -1<=ATa a b/\ATa a b<=1:=by
 unfold ATa;repeat' split;all_goals omega
theorem Asn (a:Int): -1<=AHs a/\AHs a<=1:=by
 unfold AHs;repeat' split;all_goals omega
theorem Aso {x y:Int} (hx: -1<=x/\x<=1) (hy: -1<=y/\y<=1):IntKind.i64.wrap (x * y)=x * y:=by
 obtain ⟨x1,x2⟩:=hx;obtain ⟨y1,y2⟩:=hy;have Aa:x= -1∨x=0∨x=1:=by omega
 have Ab:y= -1∨y=0∨y=1:=by omega
 rcases Aa with rfl | rfl | rfl <;> rcases Ab with rfl | rfl | rfl <;> decide
theorem Asp {h:ABj} {lo:Nat} {va:Value} {z:Int} (HA:ZV h lo va z):ACa Tryz.prog 117 #[va] h fun x h'=>Ext h h'/\ZV h' (Array.size h) x (z.natAbs:Int):=by
 obtain ⟨na,sa,LA,rfl,HDa,htla,hla,hza⟩:=HA.out;have hna:LA.length<=1000000:=by omega
 have hba:nv LA < 4294967296 ^ 100:=Nat.lt_of_lt_of_le (APz HDa.dig) (Nat.pow_le_pow_right (by decide) hla);refine AC0 (l:=[_]) mx Tryz.func117 rfl rfl rfl rfl rfl (by kernel_rfl) (ABl (AMx [.bool na,sa] (fun _=>trivial) rfl rfl fun Af h2 V3 E4 Am Bc=>?_));have Be:Array.size h<=Af:=Am;have Bf:=E4.1;have Z8:=(Ext.refl h).trans E4;refine AJ4 [.bool false,.slice none 0 0] AKp rfl (fun _=>trivial) fun Aa Bg Ap E12 Aq Bh=>?_;have Bi:Array.size h<=Aa:=Nat.le_trans E4.1 Aq;have nebq1bq9:Af≠Aa:=by have:=V3.lt;omega
 have Bj:=E12.1;have Ar:=Z8.trans E12;have Ah:=E4.trans E12;have Au:=E4.trans E12;refine ANc (AJz (fs:=1) APd (by kernel_rfl) (by decide) rfl (AB9 AMf rfl ((V3.ext E12).cell (i:=1) rfl) (ACp trivial rfl (ALy false (HDa.ext Ah) hna hba) fun Bl Bm hk=>?_)));obtain ⟨Ab,Av⟩:=hk;refine ⟨trivial,?_⟩;have Bn:=Ab.1;have Aw:=Ar.trans Ab;have Ax:=Ah.trans Ab;have Ay:=Au.trans Ab;have Az:=Ap.ext Ab;have A3:=E12.trans Ab;obtain ⟨Ai,s3,L3,rfl,Ak,A5,A6,A7⟩:=Av.out;refine ADn [.bool Ai,s3] ACq rfl rfl rfl rfl (AJb Ak.cap) Az fun Bo A8 Ac=>?_;have A9:=Ax.thenUpd Ac (fun k hk=>by have Ae:k=Aa:=hk;omega);have Bp:=Ac.1;have Bq:=Aw.thenUpd Ac (fun k hk=>by have Ae:k=Aa:=hk;omega);have Br:=A3.thenUpd Ac (fun k hk=>by have Ae:k=Aa:=hk;omega);have Bt:=Ay.thenUpd Ac (fun k hk=>by have Ae:k=Aa:=hk;omega);have Ba:=Ak.updLo Ac (by omega);refine ABp (ABs (⟨_,AFr ACq rfl rfl A8,?_⟩));exact ⟨A9,⟨Ai,s3,L3,rfl,Ba.mono (by omega),A5,A6,by rw [<- A7,AJp hza];rfl⟩⟩
theorem Asq {h:ABj} {la lb:Nat} {va vb:Value} {a b:Int} (HA:ZV h la va a) (HB:ZV h lb vb b):ACa Tryz.prog 84 #[va,vb] h fun x h'=>Ext h h'/\x= .int .i64 (ARm a b):=by
 obtain ⟨na,sa,LA,rfl,HDa,htla,hla,hza⟩:=HA.out;obtain ⟨nb,sb,LB,rfl,HDb,htlb,hlb,hzb⟩:=HB.out;refine AC0 (l:=[_,_]) mx Tryz.func84 rfl rfl rfl rfl rfl (by kernel_rfl) (ABl (AMx [.bool na,sa] (fun _=>trivial) rfl rfl fun Ap h2 V3 E4 A6 B2=>?_));have B3:Array.size h<=Ap:=A6;have B4:=E4.1;have Z8:=(Ext.refl h).trans E4;refine AMx [.bool nb,sb] (fun _=>trivial) rfl rfl fun Ar Au Av E12 A8 B5=>?_;have B6:Array.size h<=Ar:=Nat.le_trans E4.1 A8;have nebq1bq9:Ap≠Ar:=by have:=V3.lt;omega
 have B7:=E12.1;have A9:=Z8.trans E12;have Aw:=E4.trans E12;have Ax:=V3.ext E12;have Ba:=E4.trans E12;refine ABq (ABn (AEs (fun h'=>Ext Au h') (by kernel_rfl) ?_));have Af:=Ext.refl Au;refine AEy [.bool na,sa] ACq rfl rfl Af (fun h' hb=>(Ax.ext hb).agg) (ACp Af rfl (ATp (HA.ext Aw)) fun B8 B9 hk=>?_);obtain ⟨Ab,rfl⟩:=hk;have Ah:=Af.trans Ab;refine ⟨Ah,?_⟩;have Ca:=Ab.1;have Bb:=A9.trans Ab;have Ay:=Aw.trans Ab;have Bc:=Ax.ext Ab;have Be:=Ba.trans Ab;have Bf:=Av.ext Ab;have Bg:=E12.trans Ab;refine AEy [.bool nb,sb] ACq rfl rfl Ah (fun h' hb=>(Av.ext hb).agg) (ACp Ah rfl (ATp (HB.ext Ay)) fun Cb Az hk=>?_);obtain ⟨Ac,rfl⟩:=hk;have Bh:=Ah.trans Ac;refine ⟨Bh,?_⟩;have Cd:=Ac.1;have Bi:=Bb.trans Ac;have Ad:=Ay.trans Ac;have A3:=Bc.ext Ac;have Bj:=Be.trans Ac;have A4:=Bf.ext Ac;have Bl:=Bg.trans Ac;refine ACg (ABq (ABn (ABl (Wl (Wl (AUt rfl rfl (fun Bm=>?_) (fun Bm=>?_)))))))
 ·refine ABp (ACe rfl (ABn (ABl (Wl (Wl (AFn rfl rfl (fun Bn=>?_) (fun Bn=>?_)))))))
  ·refine ABp (ACe rfl (ABl (ABq (ABs (AB2 (AB2 (⟨_,ABu,?_⟩)))))));first | exact ⟨Ad,congrArg (Value.int .i64) (by rw [Aj,Ak];exact Adn hza hzb (by omega))⟩ | exact ⟨Ad,congrArg (Value.int .i64) (Ah4 (by assumption) (by assumption)).symm⟩ | exact ⟨Ad,congrArg (Value.int .i64) (Ah5 (by assumption) (by omega)).symm⟩
  ·refine ABp (ACf rfl (ABt (q_t (ABl (ABq (ABs (AB2 (⟨_,ABu,?_⟩))))))));first | exact ⟨Ad,congrArg (Value.int .i64) (by rw [Aj,Ak];exact Adn hza hzb (by omega))⟩ | exact ⟨Ad,congrArg (Value.int .i64) (Ah4 (by assumption) (by assumption)).symm⟩ | exact ⟨Ad,congrArg (Value.int .i64) (Ah5 (by assumption) (by omega)).symm⟩
 ·refine ABp (ACf rfl (ABt (q_t (ABn (AEs (fun h'=>Ext Az h') (by kernel_rfl) ?_)))));have Af:=Ext.refl Az;refine Wl (AJz (fs:=1) APd (by kernel_rfl) (by decide) rfl (AGw AMf rfl Af (fun h' hb=>(A3.ext hb).cell (i:=1) rfl) (ACp Af rfl (AIz (DS.ext HDa Ad) (by omega)) fun Ce Cf hk=>?_)));obtain ⟨Ae,L1,Bo,Bp,Aj,Ch⟩:=hk;have Ai:=Af.trans Ae;refine ⟨Ai,?_⟩;have Ci:=Ae.1;have Bq:=Bi.trans Ae;have A5:=Ad.trans Ae;have Br:=A3.ext Ae;have Bt:=Bj.trans Ae;have Bu:=A4.ext Ae;have Bv:=Bl.trans Ae;refine AJz (fs:=1) APd (by kernel_rfl) (by decide) rfl (AGw AMf rfl Ai (fun h' hb=>(A4.ext hb).cell (i:=1) rfl) (ACp Ai rfl (AIz (DS.ext HDb A5) (by omega)) fun Cj Bw hk=>?_));obtain ⟨Aa,L2,Bx,By,Ak,Cm⟩:=hk;have Am:=Ai.trans Aa;refine ⟨Am,?_⟩;have Cn:=Aa.1;have Co:=Bq.trans Aa;have Ao:=A5.trans Aa;have Cp:=Br.ext Aa;have Cq:=Bt.trans Aa;have Cr:=Bu.ext Aa;have Ct:=Bv.trans Aa;have Bz:=Bo.ext Aa;refine ACp Am rfl (AYb Bz Bx Bp By (by omega) (by omega)) fun Cu Bw hk=>?_;obtain ⟨rfl,rfl⟩:=hk;refine ⟨Am,?_⟩;refine AMj rfl rfl ?_;rw [Aso (Asn _) (Asm _ _)];refine ABq (ABs (⟨_,ABu,?_⟩));first | exact ⟨Ao,congrArg (Value.int .i64) (by rw [Aj,Ak];exact Adn hza hzb (by omega))⟩ | exact ⟨Ao,congrArg (Value.int .i64) (Ah4 (by assumption) (by assumption)).symm⟩ | exact ⟨Ao,congrArg (Value.int .i64) (Ah5 (by assumption) (by omega)).symm⟩
def Ajz (fuel:Nat) (a:Int):Option Int:=some (a.natAbs:Int)
def Abt (fuel:Nat) (a b:Int):Option Int:=some (ARm a b)
theorem Ah6 {fuel:Nat} {h:ABj} {u:Value} {a r:Int} (H1:ZZ h u a) (hp:Ajz fuel a=some r):ACa Tryz.prog 117 #[u] h (fun x h'=>Ext h h'/\ ∃ (x0:Value),x=x0/\ZZ h' x0 r):=by
 cases hp;exact (Asp H1).mono fun x h' hk=>⟨hk.1,x,rfl,hk.2.zz⟩
theorem AZz {fuel:Nat} {h:ABj} {u v:Value} {a b r:Int} (H1:ZZ h u a) (H2:ZZ h v b) (hp:Abt fuel a b=some r):ACa Tryz.prog 84 #[u,v] h (fun x h'=>Ext h h'/\x= .int .i64 r):=by
 cases hp;exact Asq H1 H2
end Go.Proofs.YtiegjkmfpcgjjaaGreatDoor
namespace Go.Proofs.YtiegjkmfpcgjjaaGreatDoor
open Go Go.QF
set_option maxRecDepth 100000
set_option maxHeartbeats 4000000
def AJi (fuel:Nat) (a3:LiI) (Ab:Int) (Af:LiA) (Aa:Int) (Ac:LiI):Option ((Int × LiI) ⊕ (((LiI × Bool)) ⊕ (LiI))):=
  (if Aa < (Af.length:Int) then ((gI a3 Ab).bind fun Ag=>((gI Ag Aa).bind fun Ah=>((Adl fuel Ah).bind fun (Ai,Aj)=>(if (!Aj)=true then (some (Sum.inr<| Sum.inl <| ([],false))) else ((gI Ac Ab).bind fun Ad=>((gI Ad Aa).bind fun Ak=>(some (Sum.inl ((w64 (Aa + 1)),(sI Ac Ab (sI Ad Aa Ai))))))))))) else (some (Sum.inr<| Sum.inr <| Ac)))
def AJj (fuel:Nat) (a3:LiI) (x5 x6 Aa:Int) (Ac:LiI):Option ((Int × LiI) ⊕ (((LiI × Bool)) ⊕ (LiI))):=
  (if Aa < ((List.replicate (Int.toNat x5) ([]:List Int)).length:Int) then (if 0<=x6/\x6<=100000000 then ((gI Ac Aa).bind fun Ai=>((gI (sI Ac Aa (List.replicate (Int.toNat x6) (0:Int))) Aa).bind fun Af=>((iter (fun s=>AJi fuel a3 Aa Af s.1 s.2) fuel (0,(sI Ac Aa (List.replicate (Int.toNat x6) (0:Int))))).bind (fun ex=>match ex with | Sum.inl Ag=>(some (Sum.inr<| Sum.inl <| Ag)) | Sum.inr (Ah)=>(some (Sum.inl ((w64 (Aa + 1)),Ah))))))) else none) else (some (Sum.inr<| Sum.inr <| Ac)))
def AGm (fuel:Nat) (a3:LiI):Option (LiI × Bool):=
  ((ADl fuel a3).bind fun (x5,x6,x7)=>(if (!x7)=true then (some ([],false)) else (if 0<=x5/\x5<=100000000 then ((iter (fun s=>AJj fuel a3 x5 x6 s.1 s.2) fuel (0,(List.replicate (Int.toNat x5) ([]:List Int)))).bind (fun ex=>match ex with | Sum.inl Ae=>(some Ae) | Sum.inr (Af)=>(some (Af,true)))) else none)))
theorem AQi {fuel:Nat} {h:ABj} {A4:Value} {a3:LiI} {r:(LiI × Bool)} (H2:AFo cZ h A4 a3) (hp:AGm fuel a3=some r):ACa Tryz.prog 56 #[A4] h (fun x h'=>Ext h h'/\ ∃ (x0:Value) (F0:List Nat) (Bt:List LnA) (Bu:List Value),x= .tuple #[x0,.bool r.2]/\AFh (cI .i64) 23 2 h' F0 Bt Bu x0 r.1/\Sp h' h.size [F0]):=by
 unfold AGm at hp;refine cwf (l:=[_]) Tryz.func56 rfl rfl (ABl (ACg (ACr (Wl ?_))));have K0:=Kst.k0 h;obtain ⟨⟨x5,x6,x7⟩,Bx,Aj⟩:=ABm hp;dsimp only at Aj;refine ACw rfl (AHg (H2.ext K0.x) Bx) fun Dq Dr By Bz=>?_;subst Bz;refine Wl (AC4 rfl rfl (AC4 rfl rfl (AC4 rfl rfl (ACg (ACg (ABq (ABn (ABl (Wl (AF9 rfl (ABp ?_)))))))))));have Ba:=K0.e By;refine ⟨_,rfl,fun Ak=>?_,fun Ak=>?_⟩
 ·refine ABl (ACg (ABq (ABs (AB2 ?_))));have Am:=Kst.anil2 (cI .i64) 23 2 Ba;obtain rfl:=ABk (ifT Aj Ak);exact ⟨_,ADc,Am.x,_,_,_,_,rfl,(Am.o2 p0),Am.s.sel [0] (by decide)⟩
 ·refine ABt (q_t (ABl (Wl ?_)));obtain ⟨B1,B2⟩:=ifN (AJc Aj Ak);refine AVy (cI .i64) 2 AB4 AMw rfl trivial tt2 rfl rfl (by decide) B1 fun B3 B4 B5 Bb Ds B6 B7 B8=>ABq (ABn (ABl (Wl ?_)));have Ao:=Ba.no2 B7 B8 B6;refine ADh AB4 rfl (Ao.o2 p0).rd (Wl (ABp (ABr ?_)));obtain ⟨Ap,B9,Bc⟩:=ABm B2;obtain ⟨Ca,Cb,Cd⟩:=ACj B9;refine ACk 4611686018410614540 (fun x:(Int) × (LiI) × LnA × LnN × LvA=>[(24,(.int .i64 x.1))]) (fun k x h'=>iter Ca k (x.1,x.2.1)=some Ap/\Kst h h' (Ao.L.set 0 (aO2 (cI .i64) 23 2 x.2.2.1 x.2.2.2.1 x.2.2.2.2 Bb x.2.1))) (by kernel_rfl) fuel ((0,(List.replicate (Int.toNat x5) ([]:List Int)),B3,B4,B5):(Int) × (LiI) × LnA × LnN × LvA) ?_ ⟨rfl,trivial⟩ ?_
  ·exact ⟨Cd,Ao⟩
  rintro Dt ⟨Aa,Ce,Du,Be,Cf⟩ Dv Dw ⟨Cg,Ai⟩;obtain ⟨Ch,Dx,rfl,Ac,Ad⟩:=AB5 Cg;rw [Cb] at Ac;dsimp only at Ac;unfold AJj at Ac;refine ABl (AC1 rfl rfl (ABp (ABn (⟨_,rfl,fun Aq=>?_,fun Aq=>?_⟩))))
  ·refine ABt (q_t (ABn (ABr (ABl (Wl (ACr (Wl (Wl (Wl ?_)))))))));obtain ⟨Ci,Cj⟩:=ifN (AC5 Ac Aq);refine ASc (c:=(cI .i64)) (a:=0) ABx AHn rfl rfl (fun _=>rfl) rfl trivial tt2 rfl rfl (by decide) Ci fun Bf Ck Dy Cm Cn Co Cp=>?_;have Ae:=Ai.no Cn (AGy Co Cp) Cm;obtain ⟨Dz,Bg,Cq⟩:=ABm Cj;refine ADx AB4 rfl (Ae.o2 p1) rfl Bg fun Cr D0 Ct D1 D2=>AXn ACo (Ae.o2 p1) Bg Ct rfl rfl (Ae.o p0) (Ae.dj p0 p1 (by decide)) fun D3 Cu Cv Cw=>ANc (Wl (Wl ?_));have Ar:=Ae.m2 p0 p1 (by decide) Cv Cu (fun z hz=> .inl (Cw z hz));obtain ⟨D4,Bh,Cx⟩:=ABm Cq;refine ADx AB4 rfl (Ar.o2 p1) rfl Bh fun D5 D6 D7 Cy Cz=>AB9 ACo rfl Cz (AD1 ABx rfl ((Ar.o2 p1).rowI Cy Bh) (Wl (ABp (ABr ?_))));obtain ⟨Au,C0,Bi⟩:=ABm Cx;obtain ⟨C1,C2,C3⟩:=ACj C0;have Av:=Ar.sel [1] (by decide);dsimp only [AJf,AMg] at Av;refine ACk 2305842871774744076 (fun x:(Int) × (LiI) × LnA × LnN × LvA=>[(37,(.int .i64 x.1))]) (fun k x h'=>iter C1 k (x.1,x.2.1)=some Au/\Kst h h' (Av.L.set 0 (aO2 (cI .i64) 23 2 x.2.2.1 x.2.2.2.1 x.2.2.2.2 Bb x.2.1))) (by kernel_rfl) fuel ((0,(sI Ce Aa (List.replicate (Int.toNat x6) (0:Int))),(Cr :: (Be.set (Int.toNat Aa) [Bf]).flatten),(Be.set (Int.toNat Aa) [Bf]),(Cf.set (Int.toNat Aa) Ck)):(Int) × (LiI) × LnA × LnN × LvA) ?_ ⟨rfl,trivial⟩ ?_
   ·exact ⟨C3,Av⟩
   rintro D8 ⟨Bj,Bl,Bm,Bn,Bo⟩ D9 Ea ⟨C4,Ab⟩;obtain ⟨C5,Eb,rfl,Af,Ag⟩:=AB5 C4;rw [C2] at Af;dsimp only at Af;unfold AJi at Af;refine ABl (AC1 rfl rfl (ABp (ABn (⟨_,rfl,fun Aw=>?_,fun Aw=>?_⟩))))
   ·refine ABt (q_t (ABn (ABr (ABl (Wl (ACr (Wl (Wl ?_))))))));obtain ⟨Ec,C6,C7⟩:=ABm (AC5 Af Aw);refine AIx AEb rfl H2 rfl C6 fun Ed Ee Ef C8 C9=>AB9 AH6 rfl (AB0 C8 Ab.x) (Wl ?_);obtain ⟨Eg,Da,Db⟩:=ABm C7;refine AIw (c:=cZ) AHo rfl C9 rfl Da fun Eh Ei Ej Bp Dc=>AVx (c:=cZ) ACq rfl (Ab.zx Bp) (fun j u hu=>(AB0 (Dc j u hu) Ab.x)) ?_;obtain ⟨⟨Bq,Ek⟩,Dd,Ax⟩:=ABm Db;dsimp only at Ax;refine ACw rfl (Afe (Ab.zx Bp).2 Dd) fun El Em De Df=>?_;subst Df;refine Wl (AC4 rfl rfl (AC4 rfl rfl (ACg (ABq (ABn (ABl (Wl (AF9 rfl (ABp ?_)))))))));have Ah:=Ab.e De;refine ⟨_,rfl,fun Ay=>?_,fun Ay=>?_⟩
    ·refine ABl (ACg (ABq ?_));obtain rfl:=ABk (ifT Ax Ay);change _=Au at Ag;subst Ag;obtain rfl:=ABk Bi;change _=Ap at Ad;subst Ad;refine ABs (AB2 (ADp (AB2 (AB2 (ADp (ADp (AB2 (AB2 (ADp (AB2 ?_))))))))));have Az:=Kst.anil2 (cI .i64) 23 2 Ah;obtain rfl:=ABk Bc;exact ⟨_,ADc,Az.x,_,_,_,_,rfl,(Az.o2 p0),Az.s.sel [0] (by decide)⟩
    ·refine ABt (q_t (ABy (Wl (Wl ?_))));obtain ⟨Dg,A3,Dh⟩:=ABm (AJc Ax Ay);refine ADx AB4 rfl (Ah.o2 p0) rfl A3 fun En Eo Ep Di Dj=>AB9 ACo rfl Dj (Wl (Wl ?_));obtain ⟨Er,Br,Dk⟩:=ABm Dh;refine AFd (m:=Aa) ABx rfl (Ah.o2 p0) Di A3 rfl Br fun Es Dl=>AJ5 (m:=Aa) (AGf ACt rfl rfl rfl) (Ah.o2 p0) Dl A3 Br (show ((cI .i64)).rep _ Bq _ from rfl) fun Et Dn Do=>ACm (q_b (q_t (ABy (AC3 rfl rfl (Wl (ABp ?_))))));obtain rfl:=ABk Dk;exact ⟨C5,(((w64 (Bj + 1)),(sI Bl Aa (sI Dg Bj Bq)),Bm,Bn,Bo):(Int) × (LiI) × LnA × LnN × LvA),Nat.lt_succ_self _,⟨Ag,(Ah.uO2 p0 Do Dn)⟩,rfl,trivial⟩
   ·obtain rfl:=ABk (AC6 Af Aw);change _=Au at Ag;subst Ag;refine ACd (ACc (ACc (ADo (q_b (q_t (ABy (AC3 rfl rfl (Wl (ABp ?_)))))))));obtain rfl:=ABk Bi;exact ⟨Ch,(((w64 (Aa + 1)),Bl,Bm,Bn,Bo):(Int) × (LiI) × LnA × LnN × LvA),Nat.lt_succ_self _,⟨Ad,Ab⟩,rfl,trivial⟩
  ·obtain rfl:=ABk (AC6 Ac Aq);change _=Ap at Ad;subst Ad;refine ACd (ACc (ACc (ADo (q_t (ABl (Wl (ACg (ABq (ABs ?_)))))))));obtain rfl:=ABk Bc;exact ⟨_,ADc,Ai.x,_,_,_,_,rfl,(Ai.o2 p0),Ai.s.sel [0] (by decide)⟩
def AIp (fuel:Nat) (Ad:LiI) (Aa:Int) (Ab:LiI):Option ((Int × LiI) ⊕ ((LiI))):=
  (if Aa < (Ad.length:Int) then ((gI Ab Aa).bind fun Ac=>((ALk fuel 1).bind fun Ae=>((gI Ac Aa).bind fun Af=>(some (Sum.inl ((w64 (Aa + 1)),(sI Ab Aa (sI Ac Aa Ae)))))))) else (some (Sum.inr<| Ab)))
def AE1 (fuel:Nat) (a1:Int):Option (LiI × Bool):=
  (((if a1 < 1 then (some (Sum.inl <| ([],false))) else (if 16 < a1 then (some (Sum.inl <| ([],false))) else (some (Sum.inr <| ())))):Option (((LiI × Bool)) ⊕ (Unit))).bind (fun ex=>match ex with | Sum.inl Ac=>(some Ac) | Sum.inr (_)=>((AEm fuel a1 a1).bind fun Ab=>((iter (fun s=>AIp fuel Ab s.1 s.2) fuel (0,Ab)).bind (fun (Ad:LiI)=>(some (Ad,true)))))))
theorem ALn {fuel:Nat} {h:ABj} {a1:Int} {r:(LiI × Bool)} (hp:AE1 fuel a1=some r):ACa Tryz.prog 54 #[(.int .i64 a1)] h (fun x h'=>Ext h h'/\ ∃ (x0:Value) (F0:List Nat) (A4:List LnA) (A5:List Value),x= .tuple #[x0,.bool r.2]/\AFh cZ 112 109 h' F0 A4 A5 x0 r.1/\Sp h' h.size [F0]):=by
 unfold AE1 at hp;refine cwf (l:=[_]) Tryz.func54 rfl rfl (ABl (ACg (ABq ?_)));have K0:=Kst.k0 h;obtain ⟨A6,Ax,Ah⟩:=ABm hp;refine ANx 4044 (fun x:Unit=>[]) (fun x h'=>(Sum.inr <| ())=A6/\Kst h h' (K0.L)) ?_ ?_
 ·refine ABl (Wl (AC1 rfl rfl (Wl ?_)));by_cases Af:a1 < 1
  ·rw [decide_eq_true Af];refine AGh 8 true (ABz rfl (ABp (ACe rfl (ABl (ACg (ABq ?_))))));obtain rfl:=ABk (ifT Ax Af);refine ABs (AB2 ?_);have Ai:=Kst.anil2 cZ 112 109 K0;obtain rfl:=ABk Ah;exact ⟨_,ADc,Ai.x,_,_,_,_,rfl,(Ai.o2 p0),Ai.s.sel [0] (by decide)⟩
  ·have Ay:=ifF Ax Af;rw [decide_eq_false Af];refine ACb 8 false (Wl (ACb 8 false (AJe rfl rfl (ABw rfl (ABp (⟨_,rfl,fun Aj=>?_,fun Aj=>?_⟩))))))
   ·refine ABl (ACg (ABq ?_));obtain rfl:=ABk (AC5 Ay Aj);refine ABs (AB2 ?_);have Ak:=Kst.anil2 cZ 112 109 K0;obtain rfl:=ABk Ah;exact ⟨_,ADc,Ak.x,_,_,_,_,rfl,(Ak.o2 p0),Ak.s.sel [0] (by decide)⟩
   ·refine ABt (q_t ?_);exact ⟨(():Unit),⟨ABk (AC6 Ay Aj),K0⟩,trivial⟩
 rintro ⟨⟩ Cf Cg ⟨A7,A8⟩;subst A7;refine ABl (Wl (Wl ?_));obtain ⟨A9,Ba,Bb⟩:=ABm Ah;refine ACw rfl (AHu Ba) fun Bc Ch Be Bf=>?_;obtain ⟨Ci,Bg,Bh,Bi,rfl,Bj,Bl⟩:=Bf;refine ABq (ABn (ABl (Wl ?_)));have Am:=A8.no2 Be Bl Bj;refine ADh AEb rfl (Am.o2 p0).rd (Wl (ABp (ABr ?_)));obtain ⟨Az,Bm,Bn⟩:=ABm Bb;obtain ⟨Bo,Bp,Bq⟩:=ACj Bm;refine ACk 268304416 (fun x:(Int) × (LiI) × LnA × LnN × LvA=>[(17,(.int .i64 x.1))]) (fun k x h'=>iter Bo k (x.1,x.2.1)=some Az/\Kst h h' (Am.L.set 0 (aO2 cZ 112 109 x.2.2.1 x.2.2.2.1 x.2.2.2.2 Bc x.2.1))) (by kernel_rfl) fuel ((0,A9,Bg,Bh,Bi):(Int) × (LiI) × LnA × LnN × LvA) ?_ ⟨rfl,trivial⟩ ?_
 ·exact ⟨Bq,Am⟩
 rintro Cj ⟨Ab,Br,Bt,Bu,Bv⟩ Ck Ao ⟨Bw,Aa⟩;obtain ⟨Bx,Cm,rfl,Ac,Ap⟩:=AB5 Bw;rw [Bp] at Ac;dsimp only at Ac;unfold AIp at Ac;refine ABl (AC1 rfl rfl (ABp (ABn (⟨_,rfl,fun Aq=>?_,fun Aq=>?_⟩))))
 ·refine ABt (q_t (ABn (ABr (ABl (Wl (ABq (AEs (fun h'=>UpT [] Ao h') (by kernel_rfl) ?_)))))));have Ar:UpT [] Ao Ao:=UpT.start all_nil;refine Wl (Wl ?_);obtain ⟨By,Au,Bz⟩:=ABm (AC5 Ac Aq);refine ADx AEb rfl (Aa.o2 p0) rfl Au fun Cn Co Cp B1 B2=>AGw AH6 rfl Ar (fun h' hb=>AB0 B2 hb.ext) (Wl ?_);obtain ⟨B3,B4,B5⟩:=ABm Bz;refine ADd Ar (fun _ E=>Ar.thenE E) rfl (AJ6 B4) fun Cq Cr B6 B7=>?_;obtain ⟨Ct,rfl,B8⟩:=B7;obtain ⟨Cu,rfl,B9⟩:=B8.cs;have Ad:=(Aa.e B6).az B9;obtain ⟨Cv,A3,Ca⟩:=ABm B5;refine AFd (m:=Ab) AHo rfl (Aa.o2 p0) B1 Au rfl A3 fun Cw Cb=>AJ5 (m:=Ab) (AT8 ACq (cZ.klen (Ad.z p0)) rfl rfl (cZ.one (Ad.z p0))) (Ad.o2 p1) Cb Au A3 (Ad.z p0) fun Cx Cd Ce=>ACm (q_b (q_t (ABy (AC3 rfl rfl (Wl (ABp ?_))))));obtain rfl:=ABk Ca;exact ⟨Bx,(((w64 (Ab + 1)),(sI Br Ab (sI By Ab B3)),Bt,Bu,Bv):(Int) × (LiI) × LnA × LnN × LvA),Nat.lt_succ_self _,⟨Ap,(Ad.uO2 p1 Ce Cd).sel [1] (by decide)⟩,rfl,trivial⟩
 ·obtain rfl:=ABk (AC6 Ac Aq);change _=Az at Ap;subst Ap;refine ACd (ACc (ACc (ADo (q_t (ABl (Wl (ACg (ABq (ABs ?_)))))))));obtain rfl:=ABk Bn;exact ⟨_,ADc,Aa.x,_,_,_,_,rfl,(Aa.o2 p0),Aa.s.sel [0] (by decide)⟩
def AH0 (fuel:Nat) (a3:LiI) (Ab:Int) (Af:LiA) (Aa:Int) (Ac:LiI):Option ((Int × LiI) ⊕ ((LiI))):=
  (if Aa < (Af.length:Int) then ((gI Ac Aa).bind fun Ad=>((gI a3 Ab).bind fun Ag=>((gI Ag Aa).bind fun Ah=>((AQs fuel Ah).bind fun Ai=>((gI Ad Ab).bind fun Aj=>(some (Sum.inl ((w64 (Aa + 1)),(sI Ac Aa (sI Ad Ab Ai)))))))))) else (some (Sum.inr<| Ac)))
def AH1 (fuel:Nat) (a3:LiI) (Aa:Int) (Ac:LiI):Option ((Int × LiI) ⊕ ((LiI))):=
  (if Aa < (a3.length:Int) then ((gI a3 Aa).bind fun Ad=>((iter (fun s=>AH0 fuel a3 Aa Ad s.1 s.2) fuel (0,Ac)).bind (fun (Ae:LiI)=>(some (Sum.inl ((w64 (Aa + 1)),Ae)))))) else (some (Sum.inr<| Ac)))
def AEo (fuel:Nat) (a3:LiI):Option (LiI × Bool):=
  ((ADl fuel a3).bind fun (x5,x6,x7)=>(if (!x7)=true then (some ([],false)) else ((AEm fuel x6 x5).bind fun Ae=>((iter (fun s=>AH1 fuel a3 s.1 s.2) fuel (0,Ae)).bind (fun (Af:LiI)=>(some (Af,true)))))))
theorem AK5 {fuel:Nat} {h:ABj} {Av:Value} {a3:LiI} {r:(LiI × Bool)} (H2:AFo cZ h Av a3) (hp:AEo fuel a3=some r):ACa Tryz.prog 99 #[Av] h (fun x h'=>Ext h h'/\ ∃ (x0:Value) (F0:List Nat) (Bg:List LnA) (Bh:List Value),x= .tuple #[x0,.bool r.2]/\AFh cZ 112 109 h' F0 Bg Bh x0 r.1/\Sp h' h.size [F0]):=by
 unfold AEo at hp;refine cwf (l:=[_]) Tryz.func99 rfl rfl (ABl (ACg (ACr (Wl ?_))));have K0:=Kst.k0 h;obtain ⟨⟨x5,x6,x7⟩,Bi,Ai⟩:=ABm hp;dsimp only at Ai;refine ACw rfl (AHg (H2.ext K0.x) Bi) fun Dc Dd Bj Bl=>?_;subst Bl;refine Wl (AC4 rfl rfl (AC4 rfl rfl (AC4 rfl rfl (ACg (ACg (ABq (ABn (ABl (Wl (AF9 rfl (ABp ?_)))))))))));have A3:=K0.e Bj;refine ⟨_,rfl,fun Aj=>?_,fun Aj=>?_⟩
 ·refine ABl (ACg (ABq (ABs (AB2 ?_))));have Ak:=Kst.anil2 cZ 112 109 A3;obtain rfl:=ABk (ifT Ai Aj);exact ⟨_,ADc,Ak.x,_,_,_,_,rfl,(Ak.o2 p0),Ak.s.sel [0] (by decide)⟩
 ·refine ABt (q_t (ABl (Wl (Wl ?_))));obtain ⟨Bm,Bn,Bo⟩:=ABm (AJc Ai Aj);refine ACw rfl (AHu Bn) fun A4 De Bp Bq=>?_;obtain ⟨Df,Br,Bt,Bu,rfl,Bv,Bw⟩:=Bq;refine ABq (ABn (ABl (Wl (ADh AEb rfl H2 (Wl (ABp (ABr ?_)))))));have A5:=A3.no2 Bp Bw Bv;obtain ⟨A6,Bx,By⟩:=ABm Bo;obtain ⟨Bz,B1,B2⟩:=ACj Bx;refine ACk 1125899898454784 (fun x:(Int) × (LiI) × LnA × LnN × LvA=>[(23,(.int .i64 x.1))]) (fun k x h'=>iter Bz k (x.1,x.2.1)=some A6/\Kst h h' (A5.L.set 0 (aO2 cZ 112 109 x.2.2.1 x.2.2.2.1 x.2.2.2.2 A4 x.2.1))) (by kernel_rfl) fuel ((0,Bm,Br,Bt,Bu):(Int) × (LiI) × LnA × LnN × LvA) ?_ ⟨rfl,trivial⟩ ?_
  ·exact ⟨B2,A5⟩
  rintro Dg ⟨A7,B3,B4,B5,B6⟩ Dh Di ⟨B7,Ab⟩;obtain ⟨B8,Dj,rfl,Ac,Am⟩:=AB5 B7;rw [B1] at Ac;dsimp only at Ac;unfold AH1 at Ac;refine ABl (AC1 rfl rfl (ABp (ABn (⟨_,rfl,fun Ao=>?_,fun Ao=>?_⟩))))
  ·refine ABt (q_t (ABn (ABr (ABl (Wl (ACr (Wl (Wl ?_))))))));obtain ⟨Dk,B9,Ca⟩:=ABm (AC5 Ac Ao);refine AIx AEb rfl H2 rfl B9 fun Dl Dn Do Cb Cd=>AB9 AH6 rfl (AB0 Cb Ab.x) (AD1 AHo rfl Cd (Wl (ABp (ABr ?_))));obtain ⟨A8,Ce,Cf⟩:=ABm Ca;obtain ⟨Cg,Ch,Ci⟩:=ACj Ce;refine ACk 562947805938176 (fun x:(Int) × (LiI) × LnA × LnN × LvA=>[(31,(.int .i64 x.1))]) (fun k x h'=>iter Cg k (x.1,x.2.1)=some A8/\Kst h h' (Ab.L.set 0 (aO2 cZ 112 109 x.2.2.1 x.2.2.2.1 x.2.2.2.2 A4 x.2.1))) (by kernel_rfl) fuel ((0,B3,B4,B5,B6):(Int) × (LiI) × LnA × LnN × LvA) ?_ ⟨rfl,trivial⟩ ?_
   ·exact ⟨Ci,Ab⟩
   rintro Dp ⟨Ah,A9,Ba,Bb,Bc⟩ Dq Ap ⟨Cj,Aa⟩;obtain ⟨Ck,Dr,rfl,Ad,Aq⟩:=AB5 Cj;rw [Ch] at Ad;dsimp only at Ad;unfold AH0 at Ad;refine ABl (AC1 rfl rfl (ABp (ABn (⟨_,rfl,fun Ar=>?_,fun Ar=>?_⟩))))
   ·refine ABt (q_t (ABn (ABr (ABl (Wl (ABq (AEs (fun h'=>UpT [] Ap h') (by kernel_rfl) ?_)))))));have Ae:UpT [] Ap Ap:=UpT.start all_nil;refine Wl (Wl ?_);obtain ⟨Cm,Au,Cn⟩:=ABm (AC5 Ad Ar);refine ADx AEb rfl (Aa.o2 p0) rfl Au fun Ds Dt Du Co Cp=>AGw AH6 rfl Ae (fun h' hb=>AB0 Cp hb.ext) (Wl (Wl (Wl ?_)));obtain ⟨Dv,Cq,Cr⟩:=ABm Cn;refine AIx AEb rfl H2 rfl Cq fun Dw Dx Dy Ct Cu=>AGw AH6 rfl Ae (fun h' hb=>AB0 Ct (Aa.x.trans hb.ext)) (Wl ?_);obtain ⟨Dz,Cv,Cw⟩:=ABm Cr;refine AIw (c:=cZ) AHo rfl Cu rfl Cv fun D0 D1 D2 Be Cx=>AU9 (c:=cZ) ACq rfl Be Ae (fun h' hb j u hu=>AB0 (Cx j u hu) (Aa.x.trans hb.ext)) ?_;obtain ⟨Cy,Cz,C0⟩:=ABm Cw;refine ADd Ae (fun _ E=>Ae.thenE E) rfl (ASe (Aa.zx Be).2 Cz) fun D3 D4 C1 C2=>?_;obtain ⟨D5,rfl,C3⟩:=C2;obtain ⟨D6,rfl,C4⟩:=C3.cs;have Af:=(Aa.e C1).az C4;obtain ⟨D7,Bf,C5⟩:=ABm C0;refine AFd (m:=Ah) AHo rfl (Aa.o2 p0) Co Au rfl Bf fun D8 C6=>AJ5 (m:=Ah) (AT8 ACq (cZ.klen (Af.z p0)) rfl rfl (cZ.one (Af.z p0))) (Af.o2 p1) C6 Au Bf (Af.z p0) fun D9 C7 C8=>ACm (q_b (q_t (ABy (AC3 rfl rfl (Wl (ABp ?_))))));obtain rfl:=ABk C5;exact ⟨Ck,(((w64 (Ah + 1)),(sI A9 Ah (sI Cm A7 Cy)),Ba,Bb,Bc):(Int) × (LiI) × LnA × LnN × LvA),Nat.lt_succ_self _,⟨Aq,(Af.uO2 p1 C8 C7).sel [1] (by decide)⟩,rfl,trivial⟩
   ·obtain rfl:=ABk (AC6 Ad Ar);change _=A8 at Aq;subst Aq;refine ACd (ACc (ACc (ADo (q_b (q_t (ABy (AC3 rfl rfl (Wl (ABp ?_)))))))));obtain rfl:=ABk Cf;exact ⟨B8,(((w64 (A7 + 1)),A9,Ba,Bb,Bc):(Int) × (LiI) × LnA × LnN × LvA),Nat.lt_succ_self _,⟨Am,Aa⟩,rfl,trivial⟩
  ·obtain rfl:=ABk (AC6 Ac Ao);change _=A6 at Am;subst Am;refine ACd (ACc (ACc (ADo (q_t (ABl (Wl (ACg (ABq (ABs ?_)))))))));obtain rfl:=ABk By;exact ⟨_,ADc,Ab.x,_,_,_,_,rfl,(Ab.o2 p0),Ab.s.sel [0] (by decide)⟩
def AKq (fuel:Nat) (a3 a7:LiA) (Aa Ac:Int):Option ((Int × Int) ⊕ ((Int))):=
  (if Aa < (a3.length:Int) then ((gI a3 Aa).bind fun Ae=>((gI a7 Aa).bind fun Af=>((AQr fuel Ae Af).bind fun Ag=>((Ajv fuel Ac Ag).bind fun Ah=>(some (Sum.inl ((w64 (Aa + 1)),Ah))))))) else (some (Sum.inr<| Ac)))
def AH8 (fuel:Nat) (a3 a7:LiA):Option Int:=
  ((iter (fun s=>AKq fuel a3 a7 s.1 s.2) fuel (0,0)).bind (fun (Ac:Int)=>(some Ac)))
theorem ASg {fuel:Nat} {h:ABj} {Am:Value} {a3:LiA} {Ap:Value} {a7:LiA} {r:Int} (H2:SlC cZ h Am a3) (H6:SlC cZ h Ap a7) (hp:AH8 fuel a3 a7=some r):ACa Tryz.prog 124 #[Am,Ap] h (fun x h'=>Ext h h'/\ ∃ (x0:Value),x=x0/\ZZ h' x0 r):=by
 unfold AH8 at hp;refine cwf (l:=[_,_]) Tryz.func124 rfl rfl (ABl (AD2 [.bool false,.slice none 0 0] AKp rfl trivial tt2 fun b9 Cg A7 E12 A8=>ANc (AMr (Ae6 ) (AD2 [.bool false,.slice none 0 0] AKp rfl trivial tt2 fun A9 Ag Ba Bb Bc=>?_))));have Av:=((Kst.k0 h).nb E12 A8 A7).nb Bb Bc Ba;refine ADn [Value.bool false,Value.slice none 0 0] ACq (cZ.klen (ACl Ag)) (cZ.klen (ACl Ag)) rfl rfl (cZ.one (ACl Ag)) (Av.b p0) fun Be Bf Bg=>ABp (ABn (ABl (Wl (AD1 AHo rfl H2 (Wl (ABp (ABr ?_)))))));obtain ⟨Aw,Bh,Bi⟩:=ABm hp;obtain ⟨Bj,Bl,Bm⟩:=ACj Bh;have Ax:=(Av.sb p0 Bg Bf rfl).az (ACl Be);refine ACk 33553472 (fun x:(Int) × (Int) × LvA=>[(10,(.int .i64 x.1))]) (fun k x h'=>iter Bj k (x.1,x.2.1)=some Aw/\Kst h h' ((Ax.L.set 0 (aZ x.2.2 x.2.1)).set 1 (aB 109 A9 x.2.2))) (by kernel_rfl) fuel ((0,0,[Value.bool false,Value.slice none 0 0]):(Int) × (Int) × LvA) ?_ ⟨rfl,trivial⟩ ?_
 ·exact ⟨Bm,Ax⟩
 rintro Ch ⟨Bn,Ci,Ah⟩ Cj Ae ⟨Bo,Aa⟩;obtain ⟨Bp,Ck,rfl,Ac,Ai⟩:=AB5 Bo;rw [Bl] at Ac;dsimp only at Ac;unfold AKq at Ac;refine ABl (AC1 rfl rfl (ABp (ABn (⟨_,rfl,fun Aj=>?_,fun Aj=>?_⟩))))
 ·refine ABt (q_t (ABn (ABr (ABl (Wl (ABq (AEs (fun h'=>UpT [] Ae h') (by kernel_rfl) ?_)))))));have Ab:UpT [] Ae Ae:=UpT.start all_nil;refine AEy Ah ACq (cZ.klen (Aa.z p0)) rfl Ab (fun h' hb=>((Aa.b p1).ext hb.ext).agg) (Wl (Wl ?_));obtain ⟨Cm,Bq,Br⟩:=ABm (AC5 Ac Aj);refine AIw (c:=cZ) AHo rfl H2 rfl Bq fun Cn Co Cp Ay Bt=>AU9 (c:=cZ) ACq rfl Ay Ab (fun h' hb j u hu=>AB0 (Bt j u hu) (Aa.x.trans hb.ext)) (Wl (Wl ?_));obtain ⟨Cq,Bu,Bv⟩:=ABm Br;refine AIw (c:=cZ) AHo rfl H6 rfl Bu fun Cr Ct Cu Az Bw=>AU9 (c:=cZ) ACq rfl Az Ab (fun h' hb j u hu=>AB0 (Bw j u hu) (Aa.x.trans hb.ext)) ?_;obtain ⟨Cv,Bx,By⟩:=ABm Bv;refine ADd Ab (fun _ E=>Ab.thenE E) rfl (AOw (Aa.zx Ay).2 (Aa.zx Az).2 Bx) fun Cw Cx A3 Bz=>?_;obtain ⟨Cy,rfl,B1⟩:=Bz;have A4:=Ab.thenE A3;obtain ⟨Cz,rfl,B2⟩:=B1.cs;have Ak:=(Aa.e A3).az B2;obtain ⟨B3,B4,B5⟩:=ABm By;refine ADd A4 (fun _ E=>A4.thenE E) rfl (Ahy (Ak.z p1).2 (Ak.z p0).2 B4) fun C0 C1 B6 B7=>?_;obtain ⟨C2,rfl,B8⟩:=B7;obtain ⟨A5,rfl,B9⟩:=B8.cs;have Ad:=(Ak.e B6).az B9;refine ADn A5 ACq (cZ.klen (Ad.z p0)) (cZ.klen (Ad.z p2)) rfl rfl (cZ.one (Ad.z p0)) (Ad.b p3) fun C3 Ca Cb=>ACm (q_b (q_t (ABy (AC3 rfl rfl (Wl (ABp ?_))))));obtain rfl:=ABk B5;exact ⟨Bp,(((w64 (Bn + 1)),B3,A5):(Int) × (Int) × LvA),Nat.lt_succ_self _,⟨Ai,(Ad.sb p3 Cb Ca rfl).sel [0,3,4] (by decide)⟩,rfl,trivial⟩
 ·obtain rfl:=ABk (AC6 Ac Aj);change _=Aw at Ai;subst Ai;refine ACd (ACc (ACc (ADo (q_t (ABl (AHm Ah ACq (cZ.klen (Aa.z p0)) rfl (Aa.b p1).agg (ADn Ah ACq (cZ.klen (Aa.z p0)) (cZ.klen (ACl Ae)) rfl rfl (cZ.one (Aa.z p0)) (Aa.b p2) fun C4 Cd Ce=>ABp (ABs ?_))))))));have Af:=Aa.sb p2 Ce Cd rfl;obtain rfl:=ABk Bi;exact ⟨_,AFr ACq (cZ.klen (Af.z p0)) rfl (Af.b p2),Af.x,_,rfl,(Af.z p0).2⟩
def AKr (fuel:Nat) (a3 Ad:LiI) (Ab Aa:Int) (Ac:LiI):Option ((Int × LiI) ⊕ ((LiI))):=
  (if Aa < (Ad.length:Int) then ((gI Ac Ab).bind fun Ae=>((gI a3 Ab).bind fun Ag=>((gI Ad Aa).bind fun Ah=>((AH8 fuel Ag Ah).bind fun Ai=>((gI Ae Aa).bind fun Aj=>(some (Sum.inl ((w64 (Aa + 1)),(sI Ac Ab (sI Ae Aa Ai)))))))))) else (some (Sum.inr<| Ac)))
def AKs (fuel:Nat) (a3 Ad:LiI) (Aa:Int) (Ac:LiI):Option ((Int × LiI) ⊕ ((LiI))):=
  (if Aa < (a3.length:Int) then ((iter (fun s=>AKr fuel a3 Ad Aa s.1 s.2) fuel (0,Ac)).bind (fun (Ae:LiI)=>(some (Sum.inl ((w64 (Aa + 1)),Ae))))) else (some (Sum.inr<| Ac)))
def AH9 (fuel:Nat) (a3 a7:LiI):Option (LiI × Bool):=
  ((ADl fuel a3).bind fun (x9,Ad,Ae)=>((AEo fuel a7).bind fun (Ac,Af)=>(((if (!Ae)=true then (some (Sum.inl <| ([],false))) else (if (!Af)=true then (some (Sum.inl <| ([],false))) else (if ¬ (a7.length:Int)=Ad then (some (Sum.inl <| ([],false))) else (some (Sum.inr <| ()))))):Option (((LiI × Bool)) ⊕ (Unit))).bind (fun ex=>match ex with | Sum.inl Ag=>(some Ag) | Sum.inr (_)=>((AEm fuel (a3.length:Int) (Ac.length:Int)).bind fun Ah=>((iter (fun s=>AKs fuel a3 Ac s.1 s.2) fuel (0,Ah)).bind (fun (Ai:LiI)=>(some (Ai,true)))))))))
theorem ASh {fuel:Nat} {h:ABj} {Ay:Value} {a3:LiI} {A3:Value} {a7:LiI} {r:(LiI × Bool)} (H2:AFo cZ h Ay a3) (H6:AFo cZ h A3 a7) (hp:AH9 fuel a3 a7=some r):ACa Tryz.prog 100 #[Ay,A3] h (fun x h'=>Ext h h'/\ ∃ (x0:Value) (F0:List Nat) (Bw:List LnA) (Bx:List Value),x= .tuple #[x0,.bool r.2]/\AFh cZ 112 109 h' F0 Bw Bx x0 r.1/\Sp h' h.size [F0]):=by
 unfold AH9 at hp;refine cwf (l:=[_,_]) Tryz.func100 rfl rfl (ABl (ACg (ACr (Wl ?_))));have K0:=Kst.k0 h;obtain ⟨⟨x9,Du,By⟩,Bz,A9⟩:=ABm hp;dsimp only at A9;refine ACw rfl (AHg (H2.ext K0.x) Bz) fun Dv Dw B1 B2=>?_;subst B2;refine Wl (AC4 rfl rfl (AC4 rfl rfl (AC4 rfl rfl (ACg (ACg (ACr (Wl ?_)))))));have Ba:=K0.e B1;obtain ⟨⟨Dx,B3⟩,B4,Bb⟩:=ABm A9;dsimp only at Bb;refine ACw rfl (AK5 (H6.ext Ba.x) B4) fun Dy Dz B5 B6=>?_;obtain ⟨D0,D1,D2,D3,rfl,B7,B8⟩:=B6;refine Wl (AC4 rfl rfl (AC4 rfl rfl (ACg (ABq ?_))));have Ac:=Ba.no2 B5 B8 B7;obtain ⟨B9,Bc,Ai⟩:=ABm Bb;refine ANx 137405399088 (fun x:Unit=>[]) (fun x h'=>(Sum.inr <| ())=B9/\Kst h h' (Ac.L)) ?_ ?_
 ·refine ABl (Wl (AF9 rfl (Wl ?_)));cases Be:(!By)
  ·refine ACb 27 false (Wl (ACb 27 false (AF9 rfl (ABw rfl (Wl ?_)))));have Bf:=AJc Bc Be;cases Bg:(!B3)
   ·refine ACb 31 false (Wl (ACb 31 false (ADh AEb rfl H6 (ACb 31 false (Wl (ACb 31 false (AHz rfl rfl (ABw rfl (ABp ?_)))))))));have Bh:=AJc Bf Bg;refine ⟨_,rfl,fun Ak=>?_,fun Ak=>?_⟩
    ·refine ABl (ACg (ABq ?_));obtain rfl:=ABk (AC5 Bh Ak);refine ABs (AB2 ?_);have Am:=Kst.anil2 cZ 112 109 Ac;obtain rfl:=ABk Ai;exact ⟨_,ADc,Am.x,_,_,_,_,rfl,(Am.o2 p0),Am.s.sel [0] (by decide)⟩
    ·refine ABt (q_t ?_);exact ⟨(():Unit),⟨ABk (AC6 Bh Ak),Ac⟩,trivial⟩
   ·refine AJa 31 true (ABz rfl (ABp (ACe rfl (ABl (ACg (ABq ?_))))));obtain rfl:=ABk (ifT Bf Bg);refine ABs (AB2 ?_);have Ao:=Kst.anil2 cZ 112 109 Ac;obtain rfl:=ABk Ai;exact ⟨_,ADc,Ao.x,_,_,_,_,rfl,(Ao.o2 p0),Ao.s.sel [0] (by decide)⟩
  ·refine AGh 27 true (ABz rfl (Wl (AJa 31 true (ABz rfl (ABp (ACe rfl (ABl (ACg (ABq ?_)))))))));obtain rfl:=ABk (ifT Bc Be);refine ABs (AB2 ?_);have Ap:=Kst.anil2 cZ 112 109 Ac;obtain rfl:=ABk Ai;exact ⟨_,ADc,Ap.x,_,_,_,_,rfl,(Ap.o2 p0),Ap.s.sel [0] (by decide)⟩
 rintro ⟨⟩ D4 D5 ⟨Ca,Bi⟩;subst Ca;refine ABl (Wl (ADh AEb rfl H2 (Wl (ADh AEb rfl (Bi.o2 p0).rd ?_))));obtain ⟨Cb,Cd,Ce⟩:=ABm Ai;refine ACw rfl (AHu Cd) fun Bj D6 Cf Cg=>?_;obtain ⟨D7,Ch,Ci,Cj,rfl,Ck,Cm⟩:=Cg;refine ABq (ABn (ABl (Wl (ADh AEb rfl H2 (Wl (ABp (ABr ?_)))))));have Bl:=Bi.no2 Cf Cm Ck;obtain ⟨Bm,Cn,Co⟩:=ABm Ce;obtain ⟨Cp,Cq,Cr⟩:=ACj Cn;refine ACk 590295792766519619584 (fun x:(Int) × (LiI) × LnA × LnN × LvA=>[(44,(.int .i64 x.1))]) (fun k x h'=>iter Cp k (x.1,x.2.1)=some Bm/\Kst h h' (Bl.L.set 0 (aO2 cZ 112 109 x.2.2.1 x.2.2.2.1 x.2.2.2.2 Bj x.2.1))) (by kernel_rfl) fuel ((0,Cb,Ch,Ci,Cj):(Int) × (LiI) × LnA × LnN × LvA) ?_ ⟨rfl,trivial⟩ ?_
 ·exact ⟨Cr,Bl⟩
 rintro D8 ⟨Aj,Ct,Cu,Cv,Cw⟩ D9 Ea ⟨Cx,Ab⟩;obtain ⟨Cy,Eb,rfl,Ad,Aq⟩:=AB5 Cx;rw [Cq] at Ad;dsimp only at Ad;unfold AKs at Ad;refine ABl (AC1 rfl rfl (ABp (ABn (⟨_,rfl,fun Ar=>?_,fun Ar=>?_⟩))))
 ·refine ABt (q_t (ABn (ABr (ABl (Wl (ACr (Wl (ADh AEb rfl (Ab.o2 p1).rd (Wl (ABp (ABr ?_)))))))))));obtain ⟨Bn,Cz,C0⟩:=ABm (AC5 Ad Ar);obtain ⟨C1,C2,C3⟩:=ACj Cz;refine ACk 295147342229399412736 (fun x:(Int) × (LiI) × LnA × LnN × LvA=>[(49,(.int .i64 x.1))]) (fun k x h'=>iter C1 k (x.1,x.2.1)=some Bn/\Kst h h' (Ab.L.set 0 (aO2 cZ 112 109 x.2.2.1 x.2.2.2.1 x.2.2.2.2 Bj x.2.1))) (by kernel_rfl) fuel ((0,Ct,Cu,Cv,Cw):(Int) × (LiI) × LnA × LnN × LvA) ?_ ⟨rfl,trivial⟩ ?_
  ·exact ⟨C3,Ab⟩
  rintro Ec ⟨Bo,Bp,Bq,Br,Bt⟩ Ed Au ⟨C4,Aa⟩;obtain ⟨C5,Ee,rfl,Ae,Av⟩:=AB5 C4;rw [C2] at Ae;dsimp only at Ae;unfold AKr at Ae;refine ABl (AC1 rfl rfl (ABp (ABn (⟨_,rfl,fun Aw=>?_,fun Aw=>?_⟩))))
  ·refine ABt (q_t (ABn (ABr (ABl (Wl (ABq (AEs (fun h'=>UpT [] Au h') (by kernel_rfl) ?_)))))));have Af:UpT [] Au Au:=UpT.start all_nil;refine Wl (Wl ?_);obtain ⟨C6,Ax,C7⟩:=ABm (AC5 Ae Aw);refine ADx AEb rfl (Aa.o2 p0) rfl Ax fun Ef Eg Eh C8 C9=>AGw AH6 rfl Af (fun h' hb=>AB0 C9 hb.ext) (Wl (Wl (Wl ?_)));obtain ⟨Ei,Da,Db⟩:=ABm C7;refine AIx AEb rfl H2 rfl Da fun Ej Ek El Dc Dd=>AGw AH6 rfl Af (fun h' hb=>AB0 Dc (Aa.x.trans hb.ext)) (Wl (Wl ?_));obtain ⟨Em,Bu,De⟩:=ABm Db;refine ADx AEb rfl (Aa.o2 p1) rfl Bu fun En Eo Ep Df Dg=>AGw AH6 rfl Af (fun h' hb=>AB0 Dg hb.ext) ?_;obtain ⟨Dh,Di,Dj⟩:=ABm De;refine ADd Af (fun _ E=>Af.thenE E) rfl (ASg (Dd.ext Aa.x) ((Aa.o2 p1).rowI Df Bu) Di) fun Er Es Dk Dl=>?_;obtain ⟨Et,rfl,Dn⟩:=Dl;obtain ⟨Eu,rfl,Do⟩:=Dn.cs;have Ag:=(Aa.e Dk).az Do;obtain ⟨Ev,Bv,Dp⟩:=ABm Dj;refine AFd (m:=Aj) AHo rfl (Aa.o2 p0) C8 Ax rfl Bv fun Ew Dq=>AJ5 (m:=Aj) (AT8 ACq (cZ.klen (Ag.z p0)) rfl rfl (cZ.one (Ag.z p0))) (Ag.o2 p1) Dq Ax Bv (Ag.z p0) fun Ey Dr Ds=>ACm (q_b (q_t (ABy (AC3 rfl rfl (Wl (ABp ?_))))));obtain rfl:=ABk Dp;exact ⟨C5,(((w64 (Bo + 1)),(sI Bp Aj (sI C6 Bo Dh)),Bq,Br,Bt):(Int) × (LiI) × LnA × LnN × LvA),Nat.lt_succ_self _,⟨Av,(Ag.uO2 p1 Ds Dr).sel [1,2] (by decide)⟩,rfl,trivial⟩
  ·obtain rfl:=ABk (AC6 Ae Aw);change _=Bn at Av;subst Av;refine ACd (ACc (ACc (ADo (q_b (q_t (ABy (AC3 rfl rfl (Wl (ABp ?_)))))))));obtain rfl:=ABk C0;exact ⟨Cy,(((w64 (Aj + 1)),Bp,Bq,Br,Bt):(Int) × (LiI) × LnA × LnN × LvA),Nat.lt_succ_self _,⟨Aq,Aa⟩,rfl,trivial⟩
 ·obtain rfl:=ABk (AC6 Ad Ar);change _=Bm at Aq;subst Aq;refine ACd (ACc (ACc (ADo (q_t (ABl (Wl (ACg (ABq (ABs ?_)))))))));obtain rfl:=ABk Co;exact ⟨_,ADc,Ab.x,_,_,_,_,rfl,(Ab.o2 p0),Ab.s.sel [0] (by decide)⟩
def ADt (fuel:Nat) (a3 a7:LiI):Option LiI:=
  ((AH9 fuel a3 a7).bind fun (x9,Ad)=>(some x9))
theorem AI0 {fuel:Nat} {h:ABj} {Ac:Value} {a3:LiI} {Ae:Value} {a7 r:LiI} (H2:AFo cZ h Ac a3) (H6:AFo cZ h Ae a7) (hp:ADt fuel a3 a7=some r):ACa Tryz.prog 58 #[Ac,Ae] h (fun x h'=>Ext h h'/\ ∃ (x0:Value) (F0:List Nat) (Am:List LnA) (Ao:List Value),x=x0/\AFh cZ 112 109 h' F0 Am Ao x0 r/\Sp h' h.size [F0]):=by
 unfold ADt at hp;refine cwf (l:=[_,_]) Tryz.func58 rfl rfl (ABl (ACr (Wl (Wl ?_))));have K0:=Kst.k0 h;obtain ⟨⟨x9,Ax⟩,Ap,Ai⟩:=ABm hp;dsimp only at Ai;refine ACw rfl (ASh (H2.ext K0.x) (H6.ext K0.x) Ap) fun Ay Az Aq Ar=>?_;obtain ⟨A3,A4,A5,A6,rfl,Au,Av⟩:=Ar;refine Wl (AC4 rfl rfl (AC4 rfl rfl (ACg (ACr (Wl (ABq (ABs ?_)))))));have Ab:=K0.no2 Aq Av Au;obtain rfl:=ABk Ai;exact ⟨_,ABu,Ab.x,_,_,_,_,rfl,(Ab.o2 p0),Ab.s.sel [0] (by decide)⟩
def AJx (fuel:Nat) (a1:Int) (Aa:LiA) (Ab:Int):Option ((LiA × Int) ⊕ ((LiA))):=
  (if Ab < a1 then (if Aa.length<=100000000 then (some (Sum.inl ((Aa ++ [Ab]),(w64 (Ab + 1))))) else none) else (some (Sum.inr<| Aa)))
def AFu (fuel:Nat) (a1 a2:Int):Option LiA:=
  ((iter (fun s=>AJx fuel a1 s.1 s.2) fuel ([],0)).bind (fun (Aa:LiA)=>(if Aa.length<=100000000 then (some (Aa ++ [a2])) else none)))
theorem AMk {fuel:Nat} {h:ABj} {a1 a2:Int} {r:LiA} (hp:AFu fuel a1 a2=some r):ACa Tryz.prog 116 #[(.int .i64 a1),(.int .i64 a2)] h (fun x h'=>Ext h h'/\ ∃ (x0:Value) (F0:List Nat),x=x0/\OwC (cI .i64) 3 h' F0 x0 r/\Sp h' h.size [F0]):=by
 unfold AFu at hp;refine cwf (l:=[_,_]) Tryz.func116 rfl rfl (ABl (ACr (ABq (ABn (ABl (ABq (ABr ?_)))))));have K4:=Kst.anil (cI .i64) 3 (Kst.k0 h);obtain ⟨Am,Ao,Ap⟩:=ABm hp;obtain ⟨Aq,Ar,Au⟩:=ACj Ao;refine ACk 65504 (fun x:(LiA) × (Value) × LnA × (Int)=>[(5,x.2.1),(6,(.int .i64 x.2.2.2))]) (fun k x h'=>iter Aq k (x.1,x.2.2.2)=some Am/\Kst h h' (K4.L.set 0 (aO (cI .i64) 3 x.2.2.1 x.2.1 x.1))) (by kernel_rfl) fuel (([],(.slice none 0 0),[],0):(LiA) × (Value) × LnA × (Int)) ?_ ⟨rfl,rfl,trivial⟩ ?_
 ·exact ⟨Au,K4⟩
 rintro Be ⟨Av,Bf,Bg,Ac⟩ Bh Bi ⟨Aw,Ad⟩;obtain ⟨Ax,Bj,rfl,Aa,Ae⟩:=AB5 Aw;rw [Ar] at Aa;dsimp only at Aa;unfold AJx at Aa;refine ABn (ABl (Wl (Wl (AC1 rfl rfl (ABp (⟨_,rfl,fun Af=>?_,fun Af=>?_⟩))))))
 ·refine ABt (q_t (ABn (ABr (ABy (Wl (Wl ?_))))));obtain ⟨Ay,Az⟩:=ifN (AC5 Aa Af);refine AOc AUv AWm rfl rfl trivial tt2 (fun _=>rfl) rfl (show ((cI .i64)).rep _ Ac [(.int .i64 Ac)] from rfl) (Ad.o p0) (by decide) Ay fun Bl A3 A4 Bm A5 A6 A7=>ACg (ACm (q_b (q_t (ABy (Wl (AC3 rfl rfl (ABq ?_)))))));obtain rfl:=ABk Az;exact ⟨Ax,(((Av ++ [Ac]),A4,A3,(w64 (Ac + 1))):(LiA) × (Value) × LnA × (Int)),Nat.lt_succ_self _,⟨Ae,(Ad.uo p0 A6 A5 A7)⟩,rfl,rfl,trivial⟩
 ·obtain rfl:=ABk (AC6 Aa Af);change _=Am at Ae;subst Ae;refine ACd (ACc (ACc (ADo (q_t (ABl (Wl (Wl ?_)))))));obtain ⟨A8,A9⟩:=ifN Ap;refine AOc AUv AWm rfl rfl trivial tt2 (fun _=>rfl) rfl (show ((cI .i64)).rep _ a2 [(.int .i64 a2)] from rfl) (Ad.o p0) (by decide) A8 fun Bn Bo Bp Bq Ba Bb Bc=>ABq (ABs ?_);have Ag:=Ad.uo p0 Bb Ba Bc;obtain rfl:=ABk A9;exact ⟨_,ABu,Ag.x,_,_,rfl,(Ag.o p0),Ag.s.sel [0] (by decide)⟩
def AI1 (fuel:Nat) (a3:LiI) (x5:Int) (Ab:LiA) (Aa:Int):Option ((LiA × Int) ⊕ ((LiA))):=
  (if Aa < x5 then ((AFu fuel Aa Aa).bind fun Ae=>((AFu fuel Aa Aa).bind fun Af=>((AFi fuel a3 Ae Af).bind fun Ag=>((AC8 fuel Ag).bind fun Ah=>(if Ab.length<=100000000 then (some (Sum.inl ((Ab ++ [Ah]),(w64 (Aa + 1))))) else none))))) else (some (Sum.inr<| Ab)))
def AEh (fuel:Nat) (a3:LiI):Option (LiA × Bool):=
  ((AEt fuel a3).bind fun (x5,x6)=>(if (!x6)=true then (some ([],false)) else ((iter (fun s=>AI1 fuel a3 x5 s.1 s.2) fuel ([],0)).bind (fun (Ad:LiA)=>(some (Ad,true))))))
theorem AI2 {fuel:Nat} {h:ABj} {Aj:Value} {a3:LiI} {r:(LiA × Bool)} (H2:AFo cZ h Aj a3) (hp:AEh fuel a3=some r):ACa Tryz.prog 89 #[Aj] h (fun x h'=>Ext h h'/\ ∃ (x0:Value) (F0:List Nat),x= .tuple #[x0,.bool r.2]/\OwC cZ 109 h' F0 x0 r.1/\Sp h' h.size [F0]):=by
 unfold AEh at hp;refine cwf (l:=[_]) Tryz.func89 rfl rfl (ABl (ACg (ACr (Wl ?_))));have K0:=Kst.k0 h;obtain ⟨⟨x5,x6⟩,Ax,Ad⟩:=ABm hp;dsimp only at Ad;refine ACw rfl (AL8 (H2.ext K0.x) Ax) fun Cf Cg E9 Az=>?_;subst Az;refine Wl (AC4 rfl rfl (AC4 rfl rfl (ACg (ABq (ABn (ABl (Wl (AF9 rfl (ABp ?_)))))))));have Ar:=K0.e E9;refine ⟨_,rfl,fun Ae=>?_,fun Ae=>?_⟩
 ·refine ABl (ACg (ABq (ABs (AB2 ?_))));have Af:=Kst.anil cZ 109 Ar;obtain rfl:=ABk (ifT Ad Ae);exact ⟨_,ADc,Af.x,_,_,rfl,(Af.o p0),Af.s.sel [0] (by decide)⟩
 ·refine ABt (q_t (ABl (ABq (ABn (ABl (ABq (ABr ?_)))))));have Au:=Kst.anil cZ 109 Ar;obtain ⟨Av,A3,A4⟩:=ABm (AJc Ad Ae);obtain ⟨A5,A6,A7⟩:=ACj A3;refine ACk 4294934720 (fun x:(LiA) × (Value) × LnA × (Int)=>[(6,x.2.1),(7,(.int .i64 x.2.2.2))]) (fun k x h'=>iter A5 k (x.1,x.2.2.2)=some Av/\Kst h h' (Au.L.set 0 (aO cZ 109 x.2.2.1 x.2.1 x.1))) (by kernel_rfl) fuel (([],(.slice none 0 0),[],0):(LiA) × (Value) × LnA × (Int)) ?_ ⟨rfl,rfl,trivial⟩ ?_
  ·exact ⟨A7,Au⟩
  rintro Ch ⟨A8,Ci,Cj,A9⟩ Ck Cm ⟨Ba,Ab⟩;obtain ⟨Bb,Cn,rfl,Aa,Ag⟩:=AB5 Ba;rw [A6] at Aa;dsimp only at Aa;unfold AI1 at Aa;refine ABn (ABl (Wl (Wl (AC1 rfl rfl (ABp (⟨_,rfl,fun Ah=>?_,fun Ah=>?_⟩))))))
  ·refine ABt (q_t (ABn (ABr (ABy (Wl (Wl (Wl (Wl ?_))))))));obtain ⟨Co,Bc,Be⟩:=ABm (AC5 Aa Ah);refine ACw rfl (AMk Bc) fun Cp Cq Bf Bg=>?_;obtain ⟨Cr,Ct,rfl,Bh,Bi⟩:=Bg;refine Wl (Wl ?_);obtain ⟨Cu,Bj,Bl⟩:=ABm Be;refine ACw rfl (AMk Bj) fun Cv Cw Bm Bn=>?_;obtain ⟨Cx,Cy,rfl,Bo,Bp⟩:=Bn;have Ac:=(Ab.no Bf Bi Bh).no Bm Bp Bo;obtain ⟨Cz,Bq,Br⟩:=ABm Bl;refine ACw rfl (AL9 (H2.ext Ac.x) (Ac.o p1).rd (Ac.o p0).rd Bq) fun C0 C1 Bt Bu=>?_;obtain ⟨C2,C3,C4,C5,rfl,Bv,Bw⟩:=Bu;have Aw:=Ac.no2 Bt Bw Bv;obtain ⟨Bx,By,Bz⟩:=ABm Br;refine ACw rfl (AEg (Aw.o2 p0).rd By) fun C6 C7 B1 B2=>?_;obtain ⟨C8,rfl,B3⟩:=B2;obtain ⟨C9,rfl,B4⟩:=B3.cs;have Ai:=(Aw.e B1).az B4;obtain ⟨B5,B6⟩:=ifN Bz;refine AOc AHo AKp rfl rfl trivial tt2 (fun _=>rfl) rfl (Ai.z p0) (Ai.o p4) (by decide) B5 fun Da B7 B8 Db B9 Ca Cb=>ACg (ACm (q_b (q_t (ABy (Wl (AC3 rfl rfl (ABq ?_)))))));obtain rfl:=ABk B6;exact ⟨Bb,(((A8 ++ [Bx]),B8,B7,(w64 (A9 + 1))):(LiA) × (Value) × LnA × (Int)),Nat.lt_succ_self _,⟨Ag,(Ai.uo p4 Ca B9 Cb).sel [4] (by decide)⟩,rfl,rfl,trivial⟩
  ·obtain rfl:=ABk (AC6 Aa Ah);change _=Av at Ag;subst Ag;refine ACd (ACc (ACc (ADo (q_t (ABl (Wl (ACg (ABq (ABs ?_)))))))));obtain rfl:=ABk A4;exact ⟨_,ADc,Ab.x,_,_,rfl,(Ab.o p0),Ab.s.sel [0] (by decide)⟩
def AH2 (fuel:Nat) (a3:LiI) (Ab Aa:Int):Option ((Int) ⊕ ((Bool) ⊕ (Unit))):=
  (if Aa < Ab then ((gI a3 Ab).bind fun Ad=>((gI Ad Aa).bind fun Ae=>((gI a3 Aa).bind fun Af=>((gI Af Ab).bind fun Ag=>((Abt fuel Ae Ag).bind fun Ah=>(if ¬ Ah=0 then (some (Sum.inr<| Sum.inl <| false)) else (some (Sum.inl (w64 (Aa + 1)))))))))) else (some (Sum.inr<| Sum.inr <| ())))
def AH3 (fuel:Nat) (a3:LiI) (Aa:Int):Option ((Int) ⊕ ((Bool) ⊕ (Unit))):=
  (if Aa < (a3.length:Int) then ((iter (fun s=>AH2 fuel a3 Aa s) fuel 0).bind (fun ex=>match ex with | Sum.inl Ac=>(some (Sum.inr<| Sum.inl <| Ac)) | Sum.inr (_)=>(some (Sum.inl (w64 (Aa + 1)))))) else (some (Sum.inr<| Sum.inr <| ())))
def AEp (fuel:Nat) (a3:LiI):Option Bool:=
  ((iter (fun s=>AH3 fuel a3 s) fuel 0).bind (fun ex=>match ex with | Sum.inl Ab=>(some Ab) | Sum.inr (_)=>(some true)))
theorem AK6 {fuel:Nat} {h:ABj} {Ao:Value} {a3:LiI} {r:Bool} (H2:AFo cZ h Ao a3) (hp:AEp fuel a3=some r):ACa Tryz.prog 82 #[Ao] h (fun x h'=>Ext h h'/\x= .bool r):=by
 unfold AEp at hp;refine cwf (l:=[_]) Tryz.func82 rfl rfl (ABl (ABq (ABn (ABl (Wl (ADh AEb rfl H2 (Wl (ABp (ABr ?_)))))))));have K0:=Kst.k0 h;obtain ⟨Ag,Az,Ar⟩:=ABm hp;obtain ⟨A3,A4,A5⟩:=ACj Az;refine ACk 4294967196 (fun x:(Int)=>[(7,(.int .i64 x))]) (fun k x h'=>iter A3 k x=some Ag/\Kst h h' (K0.L)) (by kernel_rfl) fuel (0:(Int)) ?_ ⟨rfl,trivial⟩ ?_
 ·exact ⟨A5,K0⟩
 rintro Bz u16 B1 B2 ⟨A6,Ah⟩;obtain ⟨A7,B3,rfl,Ab,Ac⟩:=AB5 A6;rw [A4] at Ab;dsimp only at Ab;unfold AH3 at Ab;refine ABl (AC1 rfl rfl (ABp (ABn (⟨_,rfl,fun Ai=>?_,fun Ai=>?_⟩))))
 ·refine ABt (q_t (ABn (ABr (ABl (Wl (ACr (ABq (ABr ?_))))))));obtain ⟨Aj,A8,Au⟩:=ABm (AC5 Ab Ai);obtain ⟨A9,Ba,Bb⟩:=ACj A8;refine ACk 2147482644 (fun x:(Int)=>[(4,(.int .i64 x))]) (fun k x h'=>iter A9 k x=some Aj/\Kst h h' (Ah.L)) (by kernel_rfl) fuel (0:(Int)) ?_ ⟨rfl,trivial⟩ ?_
  ·exact ⟨Bb,Ah⟩
  rintro B4 Bc B5 B6 ⟨Be,Aa⟩;obtain ⟨Bf,B7,rfl,Ad,Ae⟩:=AB5 Be;rw [Ba] at Ad;dsimp only at Ad;unfold AH2 at Ad;refine ABn (ABl (Wl (Wl (AC1 rfl rfl (ABp (⟨_,rfl,fun Ak=>?_,fun Ak=>?_⟩))))))
  ·refine ABt (q_t (ABn (ABr (ABn (ANr (Wl (Wl ?_)))))));obtain ⟨B8,Bg,Bh⟩:=ABm (AC5 Ad Ak);refine AIx AEb rfl H2 rfl Bg fun B9 Ca Cb Bi Bj=>AB9 AH6 rfl (AB0 Bi Aa.x) (Wl ?_);obtain ⟨Cd,Bl,Bm⟩:=ABm Bh;refine AIw (c:=cZ) AHo rfl Bj rfl Bl fun Ce Cf Cg Av Bn=>AVx (c:=cZ) ACq rfl (Aa.zx Av) (fun j u hu=>(AB0 (Bn j u hu) Aa.x)) (Wl (Wl ?_));obtain ⟨Ch,Bo,Bp⟩:=ABm Bm;refine AIx AEb rfl H2 rfl Bo fun Ci Cj Ck Bq Br=>AB9 AH6 rfl (AB0 Bq Aa.x) (Wl ?_);obtain ⟨Cm,Bt,Bu⟩:=ABm Bp;refine AIw (c:=cZ) AHo rfl Br rfl Bt fun Cn Co Cp Aw Bv=>AVx (c:=cZ) ACq rfl (Aa.zx Aw) (fun j u hu=>(AB0 (Bv j u hu) Aa.x)) ?_;obtain ⟨Cq,Bw,Ax⟩:=ABm Bu;refine ACw rfl (AZz (Aa.zx Av).2 (Aa.zx Aw).2 Bw) fun Cr Ct Bx By=>?_;subst By;refine AHz rfl rfl (ABp ?_);have Ay:=Aa.e Bx;refine ⟨_,rfl,fun Am=>?_,fun Am=>?_⟩
   ·refine ABl (ABq ?_);obtain rfl:=ABk (AC5 Ax Am);change _=Aj at Ae;subst Ae;obtain rfl:=ABk Au;change _=Ag at Ac;subst Ac;refine ABs (ADp (AB2 (AB2 (ADp (ADp (AB2 (AB2 (ADp (AB2 ?_)))))))));obtain rfl:=ABk Ar;exact ⟨_,ABu,Ay.x,rfl⟩
   ·refine ABt (q_b (q_t (ABy (Wl (AC3 rfl rfl (ABq ?_))))));obtain rfl:=ABk (AC6 Ax Am);exact ⟨Bf,((w64 (Bc + 1)):(Int)),Nat.lt_succ_self _,⟨Ae,Ay⟩,rfl,trivial⟩
  ·obtain rfl:=ABk (AC6 Ad Ak);change _=Aj at Ae;subst Ae;refine ACd (ACc (ACc (ADo (q_b (q_t (ABy (AC3 rfl rfl (Wl (ABp ?_)))))))));obtain rfl:=ABk Au;exact ⟨A7,((w64 (u16 + 1)):(Int)),Nat.lt_succ_self _,⟨Ac,Aa⟩,rfl,trivial⟩
 ·obtain rfl:=ABk (AC6 Ab Ai);change _=Ag at Ac;subst Ac;refine ACd (ACc (ACc (ADo (q_t (ABl (ABq (ABs ?_)))))));obtain rfl:=ABk Ar;exact ⟨_,ABu,Ah.x,rfl⟩
def AIq (fuel:Nat) (x5:LiA) (Aa:Int):Option ((Int) ⊕ ((Bool) ⊕ (Unit))):=
  (if Aa < (x5.length:Int) then ((gI x5 Aa).bind fun Ac=>((AWy fuel Ac).bind fun Ad=>(if Ad<=0 then (some (Sum.inr<| Sum.inl <| false)) else (some (Sum.inl (w64 (Aa + 1))))))) else (some (Sum.inr<| Sum.inr <| ())))
def AFz (fuel:Nat) (a3:LiI):Option Bool:=
  ((AEh fuel a3).bind fun (x5,x6)=>(((if (!x6)=true then (some (Sum.inl <| false)) else ((AEp fuel a3).bind fun Ad=>(if (!Ad)=true then (some (Sum.inl <| false)) else (some (Sum.inr <| ()))))):Option ((Bool) ⊕ (Unit))).bind (fun ex=>match ex with | Sum.inl Ae=>(some Ae) | Sum.inr (_)=>((iter (fun s=>AIq fuel x5 s) fuel 0).bind (fun ex=>match ex with | Sum.inl Af=>(some Af) | Sum.inr (_)=>(some true))))))
theorem APk {fuel:Nat} {h:ABj} {Ao:Value} {a3:LiI} {r:Bool} (H2:AFo cZ h Ao a3) (hp:AFz fuel a3=some r):ACa Tryz.prog 83 #[Ao] h (fun x h'=>Ext h h'/\x= .bool r):=by
 unfold AFz at hp;refine cwf (l:=[_]) Tryz.func83 rfl rfl (ABl (ACr (Wl ?_)));have K0:=Kst.k0 h;obtain ⟨⟨x5,x6⟩,A9,Au⟩:=ABm hp;dsimp only at Au;refine ACw rfl (AI2 (H2.ext K0.x) A9) fun B8 B9 E9 Bb=>?_;obtain ⟨Ca,Cb,rfl,Bc,Be⟩:=Bb;refine Wl (AC4 rfl rfl (AC4 rfl rfl (ACg (ABq ?_))));have Ac:=K0.no E9 Be Bc;obtain ⟨Bf,Av,Ag⟩:=ABm Au;refine ANx 520196 (fun x:Unit=>[]) (fun x h'=>(Sum.inr <| ())=Bf/\Kst h h' (Ac.L)) ?_ ?_
 ·refine ABl (Wl (AF9 rfl (Wl ?_)));cases Aw:(!x6)
  ·refine ACb 14 false (Wl (ACb 14 false ?_));obtain ⟨Cd,Bg,Ax⟩:=ABm (AJc Av Aw);refine ACw rfl (AK6 (H2.ext Ac.x) Bg) fun Ce Cf Bh Bi=>?_;subst Bi;refine ACb 14 false (AF9 rfl (ABw rfl (ABp ?_)));have Ay:=Ac.e Bh;refine ⟨_,rfl,fun Ah=>?_,fun Ah=>?_⟩
   ·refine ABl (ABq ?_);obtain rfl:=ABk (ifT Ax Ah);refine ABs (AB2 ?_);obtain rfl:=ABk Ag;exact ⟨_,ABu,Ay.x,rfl⟩
   ·refine ABt (q_t ?_);exact ⟨(():Unit),⟨ABk (AJc Ax Ah),Ay⟩,trivial⟩
  ·refine AG1 14 true (ABz rfl (ABp (ACe rfl (ABl (ABq ?_)))));obtain rfl:=ABk (ifT Av Aw);refine ABs (AB2 ?_);obtain rfl:=ABk Ag;exact ⟨_,ABu,Ac.x,rfl⟩
 rintro ⟨⟩ Cg Ch ⟨Bj,Ai⟩;subst Bj;refine ABn (ABl (Wl (AD1 AHo rfl (Ai.o p0).rd (Wl (ABp (ABr ?_))))));obtain ⟨Aj,Bl,Az⟩:=ABm Ag;obtain ⟨Bm,Bn,Bo⟩:=ACj Bl;refine ACk 534773828 (fun x:(Int)=>[(21,(.int .i64 x))]) (fun k x h'=>iter Bm k x=some Aj/\Kst h h' (Ai.L)) (by kernel_rfl) fuel (0:(Int)) ?_ ⟨rfl,trivial⟩ ?_
 ·exact ⟨Bo,Ai⟩
 rintro Ci Bp Cj Ck ⟨Bq,Ad⟩;obtain ⟨Br,Cm,rfl,Aa,Ab⟩:=AB5 Bq;rw [Bn] at Aa;dsimp only at Aa;unfold AIq at Aa;refine ABl (AC1 rfl rfl (ABp (ABn (⟨_,rfl,fun Ak=>?_,fun Ak=>?_⟩))))
 ·refine ABt (q_t (ABn (ABr (ABl ?_))));obtain ⟨Cn,A3,Bt⟩:=ABm (AC5 Aa Ak);refine AOk AHo rfl (Ad.o p0) rfl A3 fun Co Bu=>?_;obtain ⟨A4,Bv,Bw⟩:=(Ad.o p0).cells Bu A3;have A5:=Ad.az Bv;refine AVx (c:=cZ) ACq rfl (A5.z p0) (fun j u hu=>(Bw j u hu)) (AD2 [.bool false,.slice none 0 0] AKp rfl trivial tt2 fun Cp Bx By Bz B1=>?_);have Ae:=A5.nb Bz B1 By;refine ADn A4 ACq (cZ.klen (Ae.z p1)) (cZ.klen (ACl Bx)) rfl rfl (cZ.one (Ae.z p1)) (Ae.b p0) fun Cq B2 B3=>ANc ?_;have Af:=Ae.sb p0 B3 B2 rfl;refine AHm A4 ACq (cZ.klen (Af.z p1)) rfl (Af.b p0).agg ?_;obtain ⟨Cr,B4,A6⟩:=ABm Bt;refine ACw rfl (AV1 (Af.z p1).2 B4) fun Ct Cu B5 B6=>?_;subst B6;refine AZw rfl rfl (ABp ?_);have A7:=Af.e B5;refine ⟨_,rfl,fun Am=>?_,fun Am=>?_⟩
  ·refine ABl (ABq ?_);obtain rfl:=ABk (AC5 A6 Am);change _=Aj at Ab;subst Ab;refine ABs (ADp (AB2 (AB2 (ADp (AB2 ?_)))));obtain rfl:=ABk Az;exact ⟨_,ABu,A7.x,rfl⟩
  ·refine ABt (q_b (q_t (ABy (AC3 rfl rfl (Wl (ABp ?_))))));obtain rfl:=ABk (AC6 A6 Am);exact ⟨Br,((w64 (Bp + 1)):(Int)),Nat.lt_succ_self _,⟨Ab,A7.sel [2] (by decide)⟩,rfl,trivial⟩
 ·obtain rfl:=ABk (AC6 Aa Ak);change _=Aj at Ab;subst Ab;refine ACd (ACc (ACc (ADo (q_t (ABl (ABq (ABs ?_)))))));obtain rfl:=ABk Az;exact ⟨_,ABu,Ad.x,rfl⟩
def AD0 (fuel:Nat) (a3:LiI):Option Int:=
  ((AEt fuel a3).bind fun (x5,x6)=>(if (!x6)=true then (some 3) else (if 8 < x5 then (some 3) else ((AEp fuel a3).bind fun Ad=>(if (!Ad)=true then (some 4) else ((AFz fuel a3).bind fun Ae=>(if (!Ae)=true then (some 5) else (some 0))))))))
theorem AIr {fuel:Nat} {h:ABj} {Ah:Value} {a3:LiI} {r:Int} (H2:AFo cZ h Ah a3) (hp:AD0 fuel a3=some r):ACa Tryz.prog 51 #[Ah] h (fun x h'=>Ext h h'/\x= .int .i64 r):=by
 unfold AD0 at hp;refine cwf (l:=[_]) Tryz.func51 rfl rfl (ABl (ACr (Wl ?_)));have K0:=Kst.k0 h;obtain ⟨⟨x5,x6⟩,Au,Ac⟩:=ABm hp;dsimp only at Ac;refine ACw rfl (AL8 (H2.ext K0.x) Au) fun A7 A8 E9 Aw=>?_;subst Aw;refine Wl (AC4 rfl rfl (AC4 rfl rfl (ACg (ABq (ABn (ABr (ABl (Wl (AF9 rfl (Wl ?_))))))))));have Aa:=K0.e E9;cases Ak:(!x6)
 ·refine ACb 13 false (Wl (ACb 13 false (AJe rfl rfl (ABw rfl (ABq ?_)))));have Am:=AJc Ac Ak;refine ⟨_,rfl,fun Ad=>?_,fun Ad=>?_⟩
  ·refine ABl (ABq (ABs (ADp (AB2 ?_))));obtain rfl:=ABk (AC5 Am Ad);exact ⟨_,ABu,Aa.x,rfl⟩
  ·refine ABl (Wl ?_);obtain ⟨A9,Ax,Ao⟩:=ABm (AC6 Am Ad);refine ACw rfl (AK6 (H2.ext Aa.x) Ax) fun Ba Bb Ay Az=>?_;subst Az;refine AF9 rfl (ABq ?_);have Ae:=Aa.e Ay;refine ⟨_,rfl,fun Af=>?_,fun Af=>?_⟩
   ·refine ABl (ABq (ABs (ADp (AB2 ?_))));obtain rfl:=ABk (ifT Ao Af);exact ⟨_,ABu,Ae.x,rfl⟩
   ·refine ABl (Wl ?_);obtain ⟨Bc,A3,Ap⟩:=ABm (AJc Ao Af);refine ACw rfl (APk (H2.ext Ae.x) A3) fun Be Bf A4 A5=>?_;subst A5;refine AF9 rfl (ABq ?_);have Aq:=Ae.e A4;refine ⟨_,rfl,fun Ag=>?_,fun Ag=>?_⟩
    ·refine ABl (ABq (ABs (ADp (AB2 ?_))));obtain rfl:=ABk (ifT Ap Ag);exact ⟨_,ABu,Aq.x,rfl⟩
    ·refine ABt (q_b (q_t (ABl (ABq (ABs ?_)))));obtain rfl:=ABk (AJc Ap Ag);exact ⟨_,ABu,Aq.x,rfl⟩
 ·refine AGh 13 true (ABz rfl (ABq (ACe rfl (ABl (ABq (ABs (ADp (AB2 ?_))))))));obtain rfl:=ABk (ifT Ac Ak);exact ⟨_,ABu,Aa.x,rfl⟩
def AEq (fuel:Nat) (a3 a7:LiI):Option LiI:=
  ((AEo fuel a7).bind fun (x9,Af)=>((ADt fuel x9 a3).bind fun Ad=>((ADt fuel Ad a7).bind fun Ae=>(some Ae))))
theorem AOy {fuel:Nat} {h:ABj} {Ad:Value} {a3:LiI} {Af:Value} {a7 r:LiI} (H2:AFo cZ h Ad a3) (H6:AFo cZ h Af a7) (hp:AEq fuel a3 a7=some r):ACa Tryz.prog 57 #[Ad,Af] h (fun x h'=>Ext h h'/\ ∃ (x0:Value) (F0:List Nat) (Ap:List LnA) (Aq:List Value),x=x0/\AFh cZ 112 109 h' F0 Ap Aq x0 r/\Sp h' h.size [F0]):=by
 unfold AEq at hp;refine cwf (l:=[_,_]) Tryz.func57 rfl rfl (ABl (ACr (Wl ?_)));have K0:=Kst.k0 h;obtain ⟨⟨x9,Bf⟩,Ar,Am⟩:=ABm hp;dsimp only at Am;refine ACw rfl (AK5 (H6.ext K0.x) Ar) fun Bg Bh Au Av=>?_;obtain ⟨Bi,Bj,Bl,Bm,rfl,Aw,Ax⟩:=Av;refine Wl (AC4 rfl rfl (AC4 rfl rfl (ACg (ACr (Wl (Wl ?_))))));have Aa:=K0.no2 Au Ax Aw;obtain ⟨Bn,Ay,Az⟩:=ABm Am;refine ACw rfl (AI0 (Aa.o2 p0).rd (H2.ext Aa.x) Ay) fun Bo Bp A3 A4=>?_;obtain ⟨Bq,Br,Bt,Bu,rfl,A5,A6⟩:=A4;refine Wl ?_;have Ab:=Aa.no2 A3 A6 A5;obtain ⟨Bv,A7,A8⟩:=ABm Az;refine ACw rfl (AI0 (Ab.o2 p0).rd (H6.ext Ab.x) A7) fun Bw Bx A9 Ba=>?_;obtain ⟨By,Bz,B1,B2,rfl,Bb,Bc⟩:=Ba;refine ABq (ABs ?_);have Ac:=Ab.no2 A9 Bc Bb;obtain rfl:=ABk A8;exact ⟨_,ABu,Ac.x,_,_,_,_,rfl,(Ac.o2 p0),Ac.s.sel [0] (by decide)⟩
def AJk (fuel:Nat) (a6:Int) (Ab Ac:LiA) (Aa:Int):Option ((LiA × LiA × Int) ⊕ ((LiA × LiA))):=
  (if Aa < a6 then (if Ab.length<=100000000 then (if Ac.length<=100000000 then (some (Sum.inl ((Ab ++ [Aa]),(Ac ++ [Aa]),(w64 (Aa + 1))))) else none) else none) else (some (Sum.inr<| (Ab,Ac))))
def AEu (fuel:Nat) (a3:LiI) (a5 a6:Int):Option Int:=
  ((iter (fun s=>AJk fuel a6 s.1 s.2.1 s.2.2) fuel ([],[],0)).bind (fun ((Ab,Ac):LiA × LiA)=>(if Ab.length<=100000000 then (if Ac.length<=100000000 then ((AFi fuel a3 (Ab ++ [a5]) (Ac ++ [a6])).bind fun Af=>((AC8 fuel Af).bind fun Ag=>(some Ag))) else none) else none)))
theorem AJl {fuel:Nat} {h:ABj} {Ak:Value} {a3:LiI} {a5 a6 r:Int} (H2:AFo cZ h Ak a3) (hp:AEu fuel a3 a5 a6=some r):ACa Tryz.prog 94 #[Ak,(.int .i64 a5),(.int .i64 a6)] h (fun x h'=>Ext h h'/\ ∃ (x0:Value),x=x0/\ZZ h' x0 r):=by
 unfold AEu at hp;refine cwf (l:=[_,_,_]) Tryz.func94 rfl rfl (ABl (AD2 [.bool false,.slice none 0 0] AKp rfl trivial tt2 fun b7 h8 V9 Ay Az=>ANc (ACg (ABq (ABn (ABl (ABq (ABr ?_))))))));have Ap:=Kst.anil (cI .i64) 3 (Kst.anil (cI .i64) 3 ((Kst.k0 h).nb Ay Az V9));obtain ⟨Aq,A3,A4⟩:=ABm hp;obtain ⟨A5,A6,A7⟩:=ACj A3;refine ACk 8388480 (fun x:(LiA) × (Value) × LnA × (LiA) × (Value) × LnA × (Int)=>[(7,x.2.1),(8,x.2.2.2.2.1),(9,(.int .i64 x.2.2.2.2.2.2))]) (fun k x h'=>iter A5 k (x.1,x.2.2.2.1,x.2.2.2.2.2.2)=some Aq/\Kst h h' ((Ap.L.set 1 (aO (cI .i64) 3 x.2.2.1 x.2.1 x.1)).set 0 (aO (cI .i64) 3 x.2.2.2.2.2.1 x.2.2.2.2.1 x.2.2.2.1))) (by kernel_rfl) fuel (([],(.slice none 0 0),[],[],(.slice none 0 0),[],0):(LiA) × (Value) × LnA × (LiA) × (Value) × LnA × (Int)) ?_ ⟨rfl,rfl,rfl,trivial⟩ ?_
 ·exact ⟨A7,Ap⟩
 rintro Co ⟨A8,Cp,Cq,A9,Cr,Ct,Aa⟩ Cu Cv ⟨Ba,Ae⟩;obtain ⟨Bb,Cw,rfl,Ab,Ai⟩:=AB5 Ba;rw [A6] at Ab;dsimp only at Ab;unfold AJk at Ab;refine ABn (ABl (Wl (Wl (AC1 rfl rfl (ABp (⟨_,rfl,fun Aj=>?_,fun Aj=>?_⟩))))))
 ·refine ABt (q_t (ABn (ABr (ABl (Wl (Wl ?_))))));obtain ⟨Bc,Be⟩:=ifN (AC5 Ab Aj);refine AOc AUv AWm rfl rfl trivial tt2 (fun _=>rfl) rfl (show ((cI .i64)).rep _ Aa [(.int .i64 Aa)] from rfl) (Ae.o p1) (by decide) Bc fun Cx Bf Bg Cy Bh Bi Bj=>ABq (ABy (Wl (Wl ?_)));have Ar:=Ae.uo p1 Bi Bh Bj;obtain ⟨Bl,Bm⟩:=ifN Be;refine AOc AUv AWm rfl rfl trivial tt2 (fun _=>rfl) rfl (show ((cI .i64)).rep _ Aa [(.int .i64 Aa)] from rfl) (Ar.o p0) (by decide) Bl fun Cz Bn Bo C0 Bp Bq Br=>ACg (ACm (q_b (q_t (ABy (Wl (AC3 rfl rfl (ABq ?_)))))));obtain rfl:=ABk Bm;exact ⟨Bb,(((A8 ++ [Aa]),Bg,Bf,(A9 ++ [Aa]),Bo,Bn,(w64 (Aa + 1))):(LiA) × (Value) × LnA × (LiA) × (Value) × LnA × (Int)),Nat.lt_succ_self _,⟨Ai,(Ar.uo p0 Bq Bp Br)⟩,rfl,rfl,rfl,trivial⟩
 ·obtain rfl:=ABk (AC6 Ab Aj);change _=Aq at Ai;subst Ai;refine ACd (ACc (ACc (ADo (q_t (ABl (Wl (Wl (Wl ?_))))))));obtain ⟨Bt,Bu⟩:=ifN A4;refine AOc AUv AWm rfl rfl trivial tt2 (fun _=>rfl) rfl (show ((cI .i64)).rep _ a5 [(.int .i64 a5)] from rfl) (Ae.o p1) (by decide) Bt fun C1 C2 C3 C4 Bv Bw Bx=>Wl (Wl ?_);have Au:=Ae.uo p1 Bw Bv Bx;obtain ⟨By,Bz⟩:=ifN Bu;refine AOc AUv AWm rfl rfl trivial tt2 (fun _=>rfl) rfl (show ((cI .i64)).rep _ a6 [(.int .i64 a6)] from rfl) (Au.o p0) (by decide) By fun C5 C6 C7 C8 B1 B2 B3=>?_;have Af:=Au.uo p0 B2 B1 B3;obtain ⟨C9,B4,B5⟩:=ABm Bz;refine ACw rfl (AL9 (H2.ext Af.x) (Af.o p1).rd (Af.o p0).rd B4) fun Da Db B6 B7=>?_;obtain ⟨Dc,Dd,De,Df,rfl,B8,B9⟩:=B7;have Av:=Af.no2 B6 B9 B8;obtain ⟨Dg,Ca,Cb⟩:=ABm B5;refine ACw rfl (AEg (Av.o2 p0).rd Ca) fun Dh Cd Ce Cf=>?_;obtain ⟨Di,rfl,Cg⟩:=Cf;obtain ⟨Ch,rfl,Ci⟩:=Cg.cs;have Ag:=(Av.e Ce).az Ci;refine ADn Ch ACq (cZ.klen (Ag.z p0)) (cZ.klen (ACl Cd)) rfl rfl (cZ.one (Ag.z p0)) (Ag.b p4) fun Dj Cj Ck=>ABp (ABs ?_);have Ah:=Ag.sb p4 Ck Cj rfl;obtain rfl:=ABk Cb;exact ⟨_,AFr ACq (cZ.klen (Ah.z p0)) rfl (Ah.b p4),Ah.x,_,rfl,(Ah.z p0).2⟩
def ADu (fuel:Nat) (a3:LiA) (a5:Int):Option Int:=
  (if a5=0 then ((ALk fuel 1).bind fun Ac=>(some Ac)) else ((gI a3 (w64 (a5 - 1))).bind fun Ad=>(some Ad)))
theorem AE2 {fuel:Nat} {h:ABj} {Ag:Value} {a3:LiA} {a5 r:Int} (H2:SlC cZ h Ag a3) (hp:ADu fuel a3 a5=some r):ACa Tryz.prog 95 #[Ag,(.int .i64 a5)] h (fun x h'=>Ext h h'/\ ∃ (x0:Value),x=x0/\ZZ h' x0 r):=by
 unfold ADu at hp;refine cwf (l:=[_,_]) Tryz.func95 rfl rfl (ABl (AD2 [.bool false,.slice none 0 0] AKp rfl trivial tt2 fun b6 h7 V8 E9 Aq=>ABp (ABn (ABl (Wl (ADk rfl rfl (ABp ?_)))))));have Aa:=(Kst.k0 h).nb E9 Aq V8;refine ⟨_,rfl,fun Af=>?_,fun Af=>?_⟩
 ·refine ABl ?_;obtain ⟨Be,Ar,Au⟩:=ABm (AC5 hp Af);refine ACw rfl (AJ6 Ar) fun Bf Av Aw Ax=>?_;obtain ⟨Bg,rfl,Ay⟩:=Ax;obtain ⟨Az,rfl,A3⟩:=Ay.cs;have Ac:=(Aa.e Aw).az A3;refine ADn Az ACq (cZ.klen (Ac.z p0)) (cZ.klen (ACl Av)) rfl rfl (cZ.one (Ac.z p0)) (Ac.b p1) fun Bh A4 A5=>ABp (ABs (AB2 ?_));have Ad:=Ac.sb p1 A5 A4 rfl;obtain rfl:=ABk Au;exact ⟨_,AFr ACq (cZ.klen (Ad.z p0)) rfl (Ad.b p1),Ad.x,_,rfl,(Ad.z p0).2⟩
 ·refine ABt (q_t (ABl (Wl (Wl (AHd rfl rfl ?_)))));obtain ⟨Bi,A6,A7⟩:=ABm (AC6 hp Af);refine AIw (c:=cZ) AHo rfl H2 rfl A6 fun Bj Bl A8 Ab A9=>AVx (c:=cZ) ACq rfl (Aa.zx Ab) (fun j u hu=>(AB0 (A9 j u hu) Aa.x)) (ADn A8 ACq (cZ.klen (Aa.zx Ab)) (cZ.klen (ACl h7)) rfl rfl (cZ.one (Aa.zx Ab)) (Aa.b p0) fun Bm Ba Bb=>ABp (ABs ?_));have Ae:=Aa.sb p0 Bb Ba rfl;obtain rfl:=ABk A7;exact ⟨_,AFr ACq (cZ.klen (Ae.zx Ab)) rfl (Ae.b p0),Ae.x,_,rfl,(Ae.zx Ab).2⟩
def AFv (fuel:Nat) (a3:LiI) (a7:LiA) (a9 Aa:Int):Option Bool:=
  ((ALk fuel 2).bind fun Ae=>((AEu fuel a3 a9 Aa).bind fun Af=>((Ajz fuel Af).bind fun Ag=>((AQr fuel Ae Ag).bind fun Ah=>((ADu fuel a7 (w64 (Aa + 1))).bind fun Ai=>((Abt fuel Ah Ai).bind fun Aj=>(some (decide (Aj<=0)))))))))
theorem AMl {fuel:Nat} {h:ABj} {Ac:Value} {a3:LiI} {Ae:Value} {a7:LiA} {a9 Ah:Int} {r:Bool} (H2:AFo cZ h Ac a3) (H6:SlC cZ h Ae a7) (hp:AFv fuel a3 a7 a9 Ah=some r):ACa Tryz.prog 90 #[Ac,Ae,(.int .i64 a9),(.int .i64 Ah)] h (fun x h'=>Ext h h'/\x= .bool r):=by
 unfold AFv at hp;refine cwf (l:=[_,_,_,_]) Tryz.func90 rfl rfl (ABl (ACr ?_));obtain ⟨Bv,Ap,Aq⟩:=ABm hp;refine ACw rfl (AJ6 Ap) fun Bw Bx Ar Au=>?_;obtain ⟨By,rfl,Av⟩:=Au;obtain ⟨Bz,rfl,Aw⟩:=Av.cs;refine Wl (Wl (Wl ?_));have Ai:=((Kst.k0 h).e Ar).az Aw;obtain ⟨B1,Ax,Ay⟩:=ABm Aq;refine ACw rfl (AJl (H2.ext Ai.x) Ax) fun B2 B3 Az A3=>?_;obtain ⟨B4,rfl,A4⟩:=A3;obtain ⟨B5,rfl,A5⟩:=A4.cs;have Aj:=(Ai.e Az).az A5;obtain ⟨B6,A6,A7⟩:=ABm Ay;refine ACw rfl (Ah6 (Aj.z p0).2 A6) fun B7 B8 A8 A9=>?_;obtain ⟨B9,rfl,Ba⟩:=A9;obtain ⟨Ca,rfl,Bb⟩:=Ba.cs;have Aa:=(Aj.e A8).az Bb;obtain ⟨Cb,Bc,Be⟩:=ABm A7;refine ACw rfl (AOw (Aa.z p2).2 (Aa.z p0).2 Bc) fun Cd Ce Bf Bg=>?_;obtain ⟨Cf,rfl,Bh⟩:=Bg;obtain ⟨Cg,rfl,Bi⟩:=Bh.cs;refine Wl (Wl (AC3 rfl rfl ?_));have Ak:=(Aa.e Bf).az Bi;obtain ⟨Ch,Bj,Bl⟩:=ABm Be;refine ACw rfl (AE2 (H6.ext Ak.x) Bj) fun Ci Cj Bm Bn=>?_;obtain ⟨Ck,rfl,Bo⟩:=Bn;obtain ⟨Cm,rfl,Bp⟩:=Bo.cs;have Ab:=(Ak.e Bm).az Bp;obtain ⟨Cn,Bq,Br⟩:=ABm Bl;refine ACw rfl (AZz (Ab.z p1).2 (Ab.z p0).2 Bq) fun Co Cp Bt Bu=>?_;subst Bu;refine AZw rfl rfl (ABq (ABs ?_));obtain rfl:=ABk Br;exact ⟨_,ABu,(Ab.e Bt).x,rfl⟩
def AFw (fuel:Nat) (a3:LiI):Option Bool:=
  ((AC8 fuel a3).bind fun x5=>((ALk fuel 10000).bind fun Ac=>((Abt fuel x5 Ac).bind fun Ad=>(some (decide (Ad<=0))))))
theorem AMm {fuel:Nat} {h:ABj} {Ab:Value} {a3:LiI} {r:Bool} (H2:AFo cZ h Ab a3) (hp:AFw fuel a3=some r):ACa Tryz.prog 52 #[Ab] h (fun x h'=>Ext h h'/\x= .bool r):=by
 unfold AFw at hp;refine cwf (l:=[_]) Tryz.func52 rfl rfl (ABl (ACr (Wl ?_)));have K0:=Kst.k0 h;obtain ⟨x5,Af,Ag⟩:=ABm hp;refine ACw rfl (AEg (H2.ext K0.x) Af) fun A3 h9 E8 Ai=>?_;obtain ⟨A5,rfl,Aj⟩:=Ai;obtain ⟨A6,rfl,Ak⟩:=Aj.cs;obtain ⟨A7,Am,Ao⟩:=ABm Ag;refine ACw rfl (AJ6 Am) fun A8 A9 Ap Aq=>?_;obtain ⟨Ba,rfl,Ar⟩:=Aq;obtain ⟨Bb,rfl,Au⟩:=Ar.cs;have Aa:=(((K0.e E8).az Ak).e Ap).az Au;obtain ⟨Bc,Av,Aw⟩:=ABm Ao;refine ACw rfl (AZz (Aa.z p1).2 (Aa.z p0).2 Av) fun Be Bf Ax Ay=>?_;subst Ay;refine AZw rfl rfl (ABq (ABs ?_));obtain rfl:=ABk Aw;exact ⟨_,ABu,(Aa.e Ax).x,rfl⟩
def AKa (fuel:Nat) (a1:Int) (a2:Bool) (Aa:Int) (Ac:LiI):Option ((Int × LiI) ⊕ ((LiI))):=
  (if Aa < ((List.replicate (Int.toNat a1) ([]:List Int)).length:Int) then (if 0<=a1/\a1<=100000000 then ((gI Ac Aa).bind fun Ai=>((gI (sI Ac Aa (List.replicate (Int.toNat a1) (0:Int))) Aa).bind fun Ae=>((gI Ae Aa).bind fun Aj=>(((if a2=true then (if Aa=(w64 (a1 - 1)) then (if 3 < a1 then (some ( (w64 (Aa - 2)))) else (some ( (w64 (Aa - 1))))) else (some ( (w64 (Aa - 1))))) else (some ( (w64 (Aa - 1))))):Option ((Int))).bind (fun (Ad:Int)=>(if 0<=Ad then ((gI (sI (sI Ac Aa (List.replicate (Int.toNat a1) (0:Int))) Aa (sI Ae Aa 2)) Aa).bind fun Af=>((gI (sI (sI Ac Aa (List.replicate (Int.toNat a1) (0:Int))) Aa (sI Ae Aa 2)) Ad).bind fun Ak=>((gI Af Ad).bind fun Am=>((gI (sI (sI (sI Ac Aa (List.replicate (Int.toNat a1) (0:Int))) Aa (sI Ae Aa 2)) Aa (sI Af Ad (-1))) Ad).bind fun Ag=>((gI Ag Aa).bind fun Ao=>(some (Sum.inl ((w64 (Aa + 1)),(sI (sI (sI (sI Ac Aa (List.replicate (Int.toNat a1) (0:Int))) Aa (sI Ae Aa 2)) Aa (sI Af Ad (-1))) Ad (sI Ag Aa (-1))))))))))) else (some (Sum.inl ((w64 (Aa + 1)),(sI (sI Ac Aa (List.replicate (Int.toNat a1) (0:Int))) Aa (sI Ae Aa 2))))))))))) else none) else (some (Sum.inr<| Ac)))
def AGb (fuel:Nat) (a1:Int) (a2:Bool):Option LiI:=
  (if 0<=a1/\a1<=100000000 then ((iter (fun s=>AKa fuel a1 a2 s.1 s.2) fuel (0,(List.replicate (Int.toNat a1) ([]:List Int)))).bind (fun (Ac:LiI)=>(some Ac))) else none)
theorem AM7 {fuel:Nat} {h:ABj} {a1:Int} {a2:Bool} {r:LiI} (hp:AGb fuel a1 a2=some r):ACa Tryz.prog 61 #[(.int .i64 a1),(.bool a2)] h (fun x h'=>Ext h h'/\ ∃ (x0:Value) (F0:List Nat) (Bn:List LnA) (Bo:List Value),x=x0/\AFh (cI .i64) 23 2 h' F0 Bn Bo x0 r/\Sp h' h.size [F0]):=by
 unfold AGb at hp;refine cwf (l:=[_,_]) Tryz.func61 rfl rfl (ABl (ACr (Wl ?_)));obtain ⟨Bp,Bq⟩:=ifN hp;refine AVy (cI .i64) 2 AB4 AMw rfl trivial tt2 rfl rfl (by decide) Bp fun Br Bt Bu v9 h7 I8 E5 S6=>ABq (ABn (ABl (Wl ?_)));have Aq:=(Kst.k0 h).no2 E5 S6 I8;refine ADh AB4 rfl (Aq.o2 p0).rd (Wl (ABp (ABr ?_)));obtain ⟨A4,Bz,B1⟩:=ABm Bq;obtain ⟨B2,B3,B4⟩:=ACj Bz;refine ACk 72057594037924032 (fun x:(Int) × (LiI) × LnA × LnN × LvA=>[(12,(.int .i64 x.1))]) (fun k x h'=>iter B2 k (x.1,x.2.1)=some A4/\Kst h h' (Aq.L.set 0 (aO2 (cI .i64) 23 2 x.2.2.1 x.2.2.2.1 x.2.2.2.2 v9 x.2.1))) (by kernel_rfl) fuel ((0,(List.replicate (Int.toNat a1) ([]:List Int)),Br,Bt,Bu):(Int) × (LiI) × LnA × LnN × LvA) ?_ ⟨rfl,trivial⟩ ?_
 ·exact ⟨B4,Aq⟩
 rintro Dc ⟨Aa,A5,Dd,Ag,A6⟩ De Df ⟨B5,Ah⟩;obtain ⟨A7,Dg,rfl,Ad,Ai⟩:=AB5 B5;rw [B3] at Ad;dsimp only at Ad;unfold AKa at Ad;refine ABl (AC1 rfl rfl (ABp (ABn (⟨_,rfl,fun Ar=>?_,fun Ar=>?_⟩))))
 ·refine ABt (q_t (ABn (ABr (ABl (Wl (ACr (Wl (Wl (Wl ?_)))))))));obtain ⟨B6,B7⟩:=ifN (AC5 Ad Ar);refine ASc (c:=(cI .i64)) (a:=0) ABx AHn rfl rfl (fun _=>rfl) rfl trivial tt2 rfl rfl (by decide) B6 fun Aj A8 Dh B8 B9 Ca Cb=>?_;have Ae:=Ah.no B9 (AGy Ca Cb) B8;obtain ⟨Di,A9,Cd⟩:=ABm B7;refine ADx AB4 rfl (Ae.o2 p1) rfl A9 fun Ba Dj Ce Dk Dl=>AXn ACo (Ae.o2 p1) A9 Ce rfl rfl (Ae.o p0) (Ae.dj p0 p1 (by decide)) fun Dn Cf Cg Ch=>ANc (Wl (Wl ?_));have Ak:=Ae.m2 p0 p1 (by decide) Cg Cf (fun z hz=> .inl (Ch z hz));obtain ⟨Bb,Au,Ci⟩:=ABm Cd;refine ADx AB4 rfl (Ak.o2 p1) rfl Au fun Do Dp Dq Cj Ck=>AB9 ACo rfl Ck (Wl ?_);obtain ⟨Dr,Bc,Cm⟩:=ABm Ci;refine AFd (m:=Aa) ABx rfl (Ak.o2 p1) Cj Au rfl Bc fun Ds Cn=>AJ5 (m:=Aa) (AGf ACt rfl rfl rfl) (Ak.o2 p1) Cn Au Bc (show ((cI .i64)).rep _ 2 _ from rfl) fun Dt Co Cp=>ANc (Wl (AHd rfl rfl (ABq ?_)));have Af:=Ak.uO2 p1 Cp Co;obtain ⟨Cq,Be,Bf⟩:=ABm Cm;refine ANx 2198754820224 (fun x:(Int)=>[(7,(.int .i64 x))]) (fun x h'=>( x)=Cq/\Kst h h' (AJf Af.L [1])) ?_ ?_
  ·refine ABl (Wl (Wl ?_));cases Bg:a2
   ·refine AJa 29 false (ABw rfl (Wl (AGh 35 false (ABw rfl (ABp (ACf rfl (ABt (q_t ?_))))))));exact ⟨((w64 (Aa - 1)):(Int)),⟨ABk (AJc Be Bg),Af.sel [1] (by decide)⟩,rfl,trivial⟩
   ·refine ACb 29 true (Wl (ACb 29 true (Wl (ACb 29 true (AHd rfl rfl (ACb 29 true (ADk rfl rfl (ABz rfl (Wl ?_)))))))));have Bh:=ifT Be Bg;by_cases Am:Aa=(w64 (a1 - 1))
    ·have Bi:=ifT Bh Am;rw [decide_eq_true Am];refine ACb 35 true (Wl (ACb 35 true (AJe rfl rfl (ABz rfl (ABp (⟨_,rfl,fun Av=>?_,fun Av=>?_⟩))))))
     ·refine ABy (Wl (AHd rfl rfl (ABq ?_)));exact ⟨((w64 (Aa - 2)):(Int)),⟨ABk (AC5 Bi Av),Af.sel [1] (by decide)⟩,rfl,trivial⟩
     ·refine ABt (q_t ?_);exact ⟨((w64 (Aa - 1)):(Int)),⟨ABk (AC6 Bi Av),Af.sel [1] (by decide)⟩,rfl,trivial⟩
    ·rw [decide_eq_false Am];refine AGh 35 false (ABw rfl (ABp (ACf rfl (ABt (q_t ?_)))));exact ⟨((w64 (Aa - 1)):(Int)),⟨ABk (ifF Bh Am),Af.sel [1] (by decide)⟩,rfl,trivial⟩
  rintro Ao Du Dv ⟨Cr,Ac⟩;subst Cr;refine ABl (Wl (ANe rfl rfl (ABp (⟨_,rfl,fun Aw=>?_,fun Aw=>?_⟩))))
  ·refine ANr (Wl (Wl ?_));obtain ⟨Ct,Ax,Cu⟩:=ABm (AC5 Bf Aw);refine ADx AB4 rfl (Ac.o2 p0) rfl Ax fun Dw Dx Dy Cv Cw=>AB9 ACo rfl Cw (Wl (Wl (Wl ?_)));obtain ⟨Dz,Cx,Cy⟩:=ABm Cu;refine ADx AB4 rfl (Ac.o2 p0) rfl Cx fun D0 D1 D2 Cz C0=>AB9 ACo rfl C0 (Wl ?_);obtain ⟨D3,Bj,C1⟩:=ABm Cy;refine AFd (m:=Aa) ABx rfl (Ac.o2 p0) Cv Ax rfl Bj fun D4 C2=>AJ5 (m:=Aa) (AGf ACt rfl rfl rfl) (Ac.o2 p0) C2 Ax Bj (show ((cI .i64)).rep _ (-1) _ from rfl) fun D5 C3 C4=>?_;have Ay:=Ac.uO2 p0 C4 C3;obtain ⟨C5,Bl,C6⟩:=ABm C1;obtain ⟨D6,Bm,C7⟩:=ABm C6;refine AFd (m:=Ao) ABx rfl (Ay.o2 p0) Cz Bl rfl Bm fun D7 C8=>AJ5 (m:=Ao) (AGf ACt rfl rfl rfl) (Ay.o2 p0) C8 Bl Bm (show ((cI .i64)).rep _ (-1) _ from rfl) fun D8 C9 Da=>ACm (q_b (q_t (ABy (AC3 rfl rfl (Wl (ABp ?_))))));obtain rfl:=ABk C7;exact ⟨A7,(((w64 (Aa + 1)),(sI (sI (sI (sI A5 Aa (List.replicate (Int.toNat a1) (0:Int))) Aa (sI Bb Aa 2)) Aa (sI Ct Ao (-1))) Ao (sI C5 Aa (-1))),(Ba :: (Ag.set (Int.toNat Aa) [Aj]).flatten),(Ag.set (Int.toNat Aa) [Aj]),(A6.set (Int.toNat Aa) A8)):(Int) × (LiI) × LnA × LnN × LvA),Nat.lt_succ_self _,⟨Ai,(Ay.uO2 p0 Da C9)⟩,rfl,trivial⟩
  ·refine ABt (q_b (q_t (ABy (AC3 rfl rfl (Wl (ABp ?_))))));obtain rfl:=ABk (AC6 Bf Aw);exact ⟨A7,(((w64 (Aa + 1)),(sI (sI A5 Aa (List.replicate (Int.toNat a1) (0:Int))) Aa (sI Bb Aa 2)),(Ba :: (Ag.set (Int.toNat Aa) [Aj]).flatten),(Ag.set (Int.toNat Aa) [Aj]),(A6.set (Int.toNat Aa) A8)):(Int) × (LiI) × LnA × LnN × LvA),Nat.lt_succ_self _,⟨Ai,Ac⟩,rfl,trivial⟩
 ·obtain rfl:=ABk (AC6 Ad Ar);change _=A4 at Ai;subst Ai;refine ACd (ACc (ACc (ADo (q_t (ABl (Wl (ABq (ABs ?_))))))));obtain rfl:=ABk B1;exact ⟨_,ABu,Ah.x,_,_,_,_,rfl,(Ah.o2 p0),Ah.s.sel [0] (by decide)⟩
def AIa (fuel:Nat) (a3:LiI):Option Bool:=
  ((AFe fuel a3).bind fun x5=>((AD0 fuel x5).bind fun Ac=>(if Ac=0 then ((AC8 fuel x5).bind fun Ad=>((ALk fuel 10000).bind fun Ae=>((Abt fuel Ad Ae).bind fun Af=>(some (decide (Af<=0)))))) else (some false))))
theorem ASi {fuel:Nat} {h:ABj} {Ad:Value} {a3:LiI} {r:Bool} (H2:AFo (cI .i64) h Ad a3) (hp:AIa fuel a3=some r):ACa Tryz.prog 64 #[Ad] h (fun x h'=>Ext h h'/\x= .bool r):=by
 unfold AIa at hp;refine cwf (l:=[_]) Tryz.func64 rfl rfl (ABl (ACr (Wl ?_)));have K0:=Kst.k0 h;obtain ⟨x5,Aj,Ak⟩:=ABm hp;refine ACw rfl (ALf (H2.ext K0.x) Aj) fun Bi h9 E8 Ao=>?_;obtain ⟨Bl,Bm,Bn,Bo,rfl,Ap,Aq⟩:=Ao;refine ACr (Wl ?_);have Ag:=K0.no2 E8 Aq Ap;obtain ⟨Ar,Au,Ah⟩:=ABm Ak;refine ACw rfl (AIr (Ag.o2 p0).rd Au) fun Bp Bq Av Aw=>?_;subst Aw;refine ADk rfl rfl (Wl ?_);have Ab:=Ag.e Av;by_cases Aa:Ar=0
 ·rw [decide_eq_true Aa];refine ACb 9 true (Wl (ACb 9 true ?_));obtain ⟨Br,Ax,Ay⟩:=ABm (ifT Ah Aa);refine ACw rfl (AEg (Ab.o2 p0).rd Ax) fun Bt Bu Az A3=>?_;obtain ⟨Bv,rfl,A4⟩:=A3;obtain ⟨Bw,rfl,A5⟩:=A4.cs;refine ACb 9 true ?_;obtain ⟨Bx,A6,A7⟩:=ABm Ay;refine ACw rfl (AJ6 A6) fun By Bz A8 A9=>?_;obtain ⟨B1,rfl,Ba⟩:=A9;obtain ⟨B2,rfl,Bb⟩:=Ba.cs;refine ACb 9 true ?_;have Ac:=(((Ab.e Az).az A5).e A8).az Bb;obtain ⟨B3,Bc,Be⟩:=ABm A7;refine ACw rfl (AZz (Ac.z p1).2 (Ac.z p0).2 Bc) fun B4 B5 Bf Bg=>?_;subst Bg;refine ACb 9 true (AZw rfl rfl (ABz rfl (ABq (ABs ?_))));obtain rfl:=ABk Be;exact ⟨_,ABu,(Ac.e Bf).x,rfl⟩
 ·rw [decide_eq_false Aa];refine ALv 9 false (ABw rfl (ABq (ABs ?_)));obtain rfl:=ABk (ifF Ah Aa);exact ⟨_,ABu,Ab.x,rfl⟩
def AKt (fuel:Nat) (Ab Aa:Int):Option ((Int × Int) ⊕ ((Int))):=
  ((AWy fuel Aa).bind fun Ac=>(if ¬ Ac=0 then ((AH7 fuel Ab Aa).bind fun Ad=>(some (Sum.inl (Aa,Ad)))) else (some (Sum.inr<| Ab))))
def AIb (fuel:Nat) (a1 a5:Int):Option Int:=
  ((Ajz fuel a1).bind fun Ac=>((Ajz fuel a5).bind fun Ad=>((iter (fun s=>AKt fuel s.1 s.2) fuel (Ac,Ad)).bind (fun (Ae:Int)=>(some Ae)))))
theorem ASj {fuel:Nat} {h:ABj} {A3:Value} {a1:Int} {A5:Value} {a5 r:Int} (H3:ZZ h A3 a1) (H7:ZZ h A5 a5) (hp:AIb fuel a1 a5=some r):ACa Tryz.prog 132 #[A3,A5] h (fun x h'=>Ext h h'/\ ∃ (x0:Value),x=x0/\ZZ h' x0 r):=by
 unfold AIb at hp;obtain ⟨A8,rfl,A9⟩:=H3.cs;obtain ⟨Ba,rfl,Bb⟩:=H7.cs;refine cwf (l:=[_,_]) Tryz.func132 rfl rfl (ABl (AIj A8 trivial tt2 rfl rfl fun b9 Dl Bw E12 Bx=>AIj Ba trivial tt2 rfl rfl fun Dn Do By Bz B1=>AD2 [.bool false,.slice none 0 0] AKp rfl trivial tt2 fun Dp Ao B2 B3 B4=>ABp (ABn ?_)));have Ab:=(((Kst.k0 h).nb E12 Bx Bw).nb Bz B1 By).nb B3 B4 B2;have Ap:UpT [] Ao Ao:=UpT.start all_nil;refine AYd (B:=fun h'=>UpT [] Ao h') 4 [⟨5,109,[.bool false,.slice none 0 0]⟩,⟨6,109,[.bool false,.slice none 0 0]⟩] (fun _ _ U E=>U.thenE E) (by kernel_rfl) Ap (Aoy rfl rfl AKp rfl AKp rfl (fun _ _ U E=>U.thenE E)) (h_l rfl (AEy A8 ACq (cZ.klen (Ab.zx A9)) rfl Ap (fun h' hb=>((Ab.b p2).ext hb.ext).agg) (ACm (h_e rfl fun Dq Bc=>?_))));have Aq:=Ap.thenE Bc;have Be:=Ab.e Bc;obtain ⟨B5,B6,B7⟩:=ABm hp;refine ADd Aq (fun _ E=>Aq.thenE E) rfl (Ah6 (Be.zx A9).2 B6) fun Dr Ds Ar B8=>?_;obtain ⟨Dt,rfl,B9⟩:=B8;have Bf:=Aq.thenE Ar;obtain ⟨Bg,rfl,Ca⟩:=B9.cs;have Bh:=(Be.e Ar).az Ca;refine ACm ⟨Ar,?_⟩;refine h_l rfl (AEy Ba ACq (cZ.klen (Bh.zx Bb)) rfl Bf (fun h' hb=>((Ab.b p1).ext hb.ext).agg) (ACm (h_e rfl fun Du Bi=>?_)));have Au:=Bf.thenE Bi;have Bj:=Bh.e Bi;obtain ⟨Cb,Cd,Ce⟩:=ABm B7;refine ADd Au (fun _ E=>Au.thenE E) rfl (Ah6 (Bj.zx Bb).2 Cd) fun Dv Dw Av Cf=>?_;obtain ⟨Dx,rfl,Cg⟩:=Cf;have Ch:=Au.thenE Av;obtain ⟨Bl,rfl,Ci⟩:=Cg.cs;refine ACm ⟨Av,?_⟩;refine Ajx fun Cj Bm=>Axm fun Ck Cm Bn Bo Cn Co Cp Dy Dz=>?_;have Bp:=((Bj.e Av).az Ci).e Bm;have Ag:=((Ab.nb2 (Ch.thenE Bm).ext (Ah1 Co Cp Bn.lt Bo.lt Cn) Bn Bo).az (Bp.z p1)).az (Bp.z p0);refine ADn Bg ACq (cZ.klen (Ag.z p1)) (cZ.klen (ACl Cj)) rfl rfl (cZ.one (Ag.z p1)) (Ag.b p2) fun Cq Cr Ct=>?_;have Ah:=Ag.sb p2 Ct Cr rfl;refine ADn Bl ACq (cZ.klen (Ah.z p0)) (cZ.klen (ACl Cq)) rfl rfl (cZ.one (Ah.z p0)) (Ah.b p3) fun D0 Cu Cv=>ABp (ABn (ABr ?_));obtain ⟨Bq,Cw,Cx⟩:=ABm Ce;obtain ⟨Cy,Cz,C0⟩:=ACj Cw;have Aw:=(Ah.sb p3 Cv Cu rfl).sel [0,1,2,3,4] (by decide);dsimp only [AJf,AMg] at Aw;refine ACk 260096 (fun x:(Int) × LvA × (Int) × LvA=>[]) (fun k x h'=>iter Cy k (x.1,x.2.2.1)=some Bq/\Kst h h' ((((Aw.L.set 1 (aZ x.2.1 x.1)).set 0 (aZ x.2.2.2 x.2.2.1)).set 2 (aB 109 Ck x.2.1)).set 3 (aB 109 Cm x.2.2.2))) (by kernel_rfl) fuel ((B5,Bg,Cb,Bl):(Int) × LvA × (Int) × LvA) ?_ trivial ?_
 ·exact ⟨C0,Aw⟩
 rintro D1 ⟨D2,Ax,C1,Ac⟩ D3 D4 ⟨C2,Ai⟩;obtain ⟨C3,D5,rfl,Aj,Ay⟩:=AB5 C2;rw [Cz] at Aj;dsimp only at Aj;unfold AKt at Aj;refine ABn (ABl (AHm Ac ACq (cZ.klen (Ai.z p0)) rfl (Ai.b p3).agg ?_));obtain ⟨D6,C4,Br⟩:=ABm Aj;refine ACw rfl (AV1 (Ai.z p0).2 C4) fun D7 Ak C5 C6=>?_;subst C6;refine AHz rfl rfl (ABp ?_);have Aa:=Ai.e C5;refine ⟨_,rfl,fun Az=>?_,fun Az=>?_⟩
 ·refine ABt (q_t (ABr (AEs (fun h'=>UpT [] Ak h') (by kernel_rfl) ?_)));have Ad:UpT [] Ak Ak:=UpT.start all_nil;refine AEy Ac ACq (cZ.klen (Aa.z p0)) rfl Ad (fun h' hb=>((Aa.b p3).ext hb.ext).agg) (AEy Ax ACq (cZ.klen (Aa.z p1)) rfl Ad (fun h' hb=>((Aa.b p2).ext hb.ext).agg) (AEy Ac ACq (cZ.klen (Aa.z p0)) rfl Ad (fun h' hb=>((Aa.b p3).ext hb.ext).agg) ?_));obtain ⟨C7,C8,C9⟩:=ABm (AC5 Br Az);refine ADd Ad (fun _ E=>Ad.thenE E) rfl (ASf (Aa.z p1).2 (Aa.z p0).2 C8) fun D8 D9 Da Db=>?_;obtain ⟨Ea,rfl,Dc⟩:=Db;obtain ⟨Bt,rfl,Dd⟩:=Dc.cs;have Ae:=(Aa.e Da).az Dd;refine ADn Ac ACq (cZ.klen (Ae.z p1)) (cZ.klen (Ae.z p2)) rfl rfl (cZ.one (Ae.z p1)) (Ae.b p3) fun Eb De Df=>?_;have Af:=Ae.sb p3 Df De rfl;refine ADn Bt ACq (cZ.klen (Af.z p0)) (cZ.klen (Af.z p1)) rfl rfl (cZ.one (Af.z p0)) (Af.b p4) fun Ec Dg Dh=>ACm (q_b (q_t ?_));obtain rfl:=ABk C9;exact ⟨C3,((C1,Ac,C7,Bt):(Int) × LvA × (Int) × LvA),Nat.lt_succ_self _,⟨Ay,(Af.sb p4 Dh Dg rfl).sel [0,1,3,4,5] (by decide)⟩,trivial⟩
 ·obtain rfl:=ABk (AC6 Br Az);change _=Bq at Ay;subst Ay;refine ACd (ACc (ACc (ADo (q_t (ABl (AHm Ax ACq (cZ.klen (Aa.z p1)) rfl (Aa.b p2).agg (ADn Ax ACq (cZ.klen (Aa.z p1)) (cZ.klen (ACl Ak)) rfl rfl (cZ.one (Aa.z p1)) (Aa.b p4) fun Ed Di Dj=>ABp (ABs ?_))))))));have Am:=Aa.sb p4 Dj Di rfl;obtain rfl:=ABk Cx;exact ⟨_,AFr ACq (cZ.klen (Am.z p1)) rfl (Am.b p4),Am.x,_,rfl,(Am.z p1).2⟩
def AGs (fuel:Nat) (a1 a5:Int):Option ((Int × Int) × Bool):=
  ((AWy fuel a5).bind fun Af=>(if Af=0 then (some ((0,0),false)) else ((((AWy fuel a5).bind fun Ag=>(if Ag < 0 then ((Afd fuel a1).bind fun Ah=>((Afd fuel a5).bind fun Ai=>(some ( (Ah,Ai))))) else (some ( (a1,a5))))):Option ((Int × Int))).bind (fun ((Ac,Ad):Int × Int)=>((AIb fuel Ac Ad).bind fun Ae=>((AEd fuel Ac Ae).bind fun Aj=>((AEd fuel Ad Ae).bind fun Ak=>(some ((Aj,Ak),true)))))))))
theorem ANg {fuel:Nat} {h:ABj} {Ba:Value} {a1:Int} {Bb:Value} {a5:Int} {r:((Int × Int) × Bool)} (H3:ZZ h Ba a1) (H7:ZZ h Bb a5) (hp:AGs fuel a1 a5=some r):ACa Tryz.prog 127 #[Ba,Bb] h (fun x h'=>Ext h h'/\ ∃ (x0:Value),x= .tuple #[x0,.bool r.2]/\AX5 h' x0 r.1.1 r.1.2):=by
 unfold AGs at hp;obtain ⟨Az,rfl,Ap⟩:=H3.cs;obtain ⟨Ai,rfl,Ab⟩:=H7.cs;refine cwf (l:=[_,_]) Tryz.func127 rfl rfl (ABl (AIj Az trivial tt2 rfl rfl fun b9 Ds Bu E12 Bv=>AIj Ai trivial tt2 rfl rfl fun Bw Dt Bx By Bz=>AD2 [.bool false,.slice none 0 0,.bool false,.slice none 0 0] AOx rfl trivial tt2 fun Du Dv B1 B2 B3=>ABq (ABn (ABl ?_))));have Aq:=(((Kst.k0 h).nb E12 Bv Bu).nb By Bz Bx).nb B2 B3 B1;refine AHm Ai ACq (cZ.klen (Aq.zx Ab)) rfl (Aq.b p1).agg ?_;obtain ⟨Dw,B4,Be⟩:=ABm hp;refine ACw rfl (AV1 (Aq.zx Ab).2 B4) fun Dx Ag B5 B6=>?_;subst B6;refine ADk rfl rfl (ABp ?_);have Ad:=Aq.e B5;refine ⟨_,rfl,fun A3=>?_,fun A3=>?_⟩
 ·refine ABl (AMr (Ah2 ) (ADn ([Value.bool false,Value.slice none 0 0] ++ [Value.bool false,Value.slice none 0 0]) AGl (ADr (ACl Ag) (ACl Ag)) (ADr (ACl Ag) (ACl Ag)) rfl rfl (ALl (ACl Ag) (ACl Ag)) (Ad.b p0) fun Ar B7 B8=>ABq (ABs (AB2 ?_))));have Bf:=Ad.sb p0 B8 B7 rfl;obtain rfl:=ABk (AC5 Be A3);exact ⟨_,Ajg AGl (ADr (ACl Ar) (ACl Ar)) rfl (Bf.b p0),Bf.x,_,rfl,⟨_,_,rfl,(ACl Ar),(ACl Ar)⟩⟩
 ·refine ABt (q_t ?_);obtain ⟨B9,Ca,Cb⟩:=ABm (AC6 Be A3);refine ANx 260096 (fun x:(Int) × LvA × (Int) × LvA=>[]) (fun x h'=>( (x.1,x.2.2.1))=B9/\Kst h h' (aZ x.2.1 x.1 :: aZ x.2.2.2 x.2.2.1 :: ((Ad.L.set 2 (aB 109 b9 x.2.1)).set 1 (aB 109 Bw x.2.2.2)))) ?_ ?_
  ·refine ABl (AHm Ai ACq (cZ.klen (Ad.zx Ab)) rfl (Ad.b p1).agg ?_);obtain ⟨Dy,Cd,Bg⟩:=ABm Ca;refine ACw rfl (AV1 (Ad.zx Ab).2 Cd) fun Dz A4 Ce Cf=>?_;subst Cf;refine AC1 rfl rfl (ABp ?_);have Ae:=Ad.e Ce;refine ⟨_,rfl,fun A5=>?_,fun A5=>?_⟩
   ·refine AEs (fun h'=>UpT [] A4 h') (by kernel_rfl) ?_;have Au:UpT [] A4 A4:=UpT.start all_nil;refine AEy Az ACq (cZ.klen (Ae.zx Ap)) rfl Au (fun h' hb=>((Ae.b p2).ext hb.ext).agg) ?_;obtain ⟨Cg,Ch,Ci⟩:=ABm (AC5 Bg A5);refine ADd Au (fun _ E=>Au.thenE E) rfl (Adm (Ae.zx Ap).2 Ch) fun D0 D1 Bh Cj=>?_;obtain ⟨D2,rfl,Ck⟩:=Cj;have A6:=Au.thenE Bh;obtain ⟨Bi,rfl,Cm⟩:=Ck.cs;have A7:=(Ae.e Bh).az Cm;refine AEy Ai ACq (cZ.klen (A7.zx Ab)) rfl A6 (fun h' hb=>((Ae.b p1).ext hb.ext).agg) ?_;obtain ⟨Cn,Co,Cp⟩:=ABm Ci;refine ADd A6 (fun _ E=>A6.thenE E) rfl (Adm (A7.zx Ab).2 Co) fun D3 D4 Cq Cr=>?_;obtain ⟨D5,rfl,Ct⟩:=Cr;obtain ⟨Bj,rfl,Cu⟩:=Ct.cs;have Aj:=(A7.e Cq).az Cu;refine ADn Bi ACq (cZ.klen (Aj.z p1)) (cZ.klen (Aj.zx Ap)) rfl rfl (cZ.one (Aj.z p1)) (Aj.b p4) fun D6 Cv Cw=>?_;have Ak:=Aj.sb p4 Cw Cv rfl;refine ADn Bj ACq (cZ.klen (Ak.z p0)) (cZ.klen (Ak.zx Ab)) rfl rfl (cZ.one (Ak.z p0)) (Ak.b p3) fun D7 Cx Cy=>ABp ?_;exact ⟨((Cg,Bi,Cn,Bj):(Int) × LvA × (Int) × LvA),⟨ABk Cp,(Ak.sb p3 Cy Cx rfl).sel [1,0,2,3,4] (by decide)⟩,trivial⟩
   ·refine ABt (q_t ?_);have Bl:=Ae.az (Ae.zx Ap);exact ⟨((a1,Az,a5,Ai):(Int) × LvA × (Int) × LvA),⟨ABk (AC6 Bg A5),(Bl.az (Bl.zx Ab)).sel [1,0,2,3,4] (by decide)⟩,trivial⟩
  rintro ⟨D8,Bm,D9,Bn⟩ Ea Eb ⟨Cz,Af⟩;subst Cz;refine ABl (AHm Bm ACq (cZ.klen (Af.z p0)) rfl (Af.b p4).agg (AHm Bn ACq (cZ.klen (Af.z p1)) rfl (Af.b p3).agg ?_));obtain ⟨Ec,C0,C1⟩:=ABm Cb;refine ACw rfl (ASj (Af.z p0).2 (Af.z p1).2 C0) fun Ed Ee C2 C3=>?_;obtain ⟨Ef,rfl,C4⟩:=C3;obtain ⟨A8,rfl,C5⟩:=C4.cs;refine AD2 [.bool false,.slice none 0 0] AKp rfl trivial tt2 fun Eg C6 C7 C8 C9=>?_;have Av:=((Af.e C2).az C5).nb C8 C9 C7;refine ADn A8 ACq (cZ.klen (Av.z p1)) (cZ.klen (ACl C6)) rfl rfl (cZ.one (Av.z p1)) (Av.b p0) fun A9 Da Db=>ABp (ABn (AEs (fun h'=>UpT [] A9 h') (by kernel_rfl) ?_));have Aa:=Av.sb p0 Db Da rfl;have Am:UpT [] A9 A9:=UpT.start all_nil;refine AEy Bm ACq (cZ.klen (Aa.z p2)) rfl Am (fun h' hb=>((Aa.b p6).ext hb.ext).agg) (AEy A8 ACq (cZ.klen (Aa.z p1)) rfl Am (fun h' hb=>((Aa.b p0).ext hb.ext).agg) ?_);obtain ⟨Eh,Dc,Dd⟩:=ABm C1;refine ADd Am (fun _ E=>Am.thenE E) rfl (AIl (Aa.z p2).2 (Aa.z p1).2 Dc) fun Ei Ej Bo De=>?_;obtain ⟨Ek,rfl,Df⟩:=De;have Aw:=Am.thenE Bo;obtain ⟨Dg,rfl,Dh⟩:=Df.cs;have Ao:=(Aa.e Bo).az Dh;refine AEy Bn ACq (cZ.klen (Ao.z p4)) rfl Aw (fun h' hb=>((Aa.b p5).ext hb.ext).agg) (AEy A8 ACq (cZ.klen (Ao.z p2)) rfl Aw (fun h' hb=>((Aa.b p0).ext hb.ext).agg) ?_);obtain ⟨El,Di,Dj⟩:=ABm Dd;refine ADd Aw (fun _ E=>Aw.thenE E) rfl (AIl (Ao.z p4).2 (Ao.z p2).2 Di) fun Em Bp Dk Dl=>?_;obtain ⟨En,rfl,Dn⟩:=Dl;obtain ⟨Do,rfl,Dp⟩:=Dn.cs;have Ac:=(Ao.e Dk).az Dp;refine AMr (AUb (Ac.z p1) (Ac.z p0)) (ADn (Dg ++ Do) AGl (ADr (Ac.z p1) (Ac.z p0)) (ADr (ACl Bp) (ACl Bp)) rfl rfl (ALl (Ac.z p1) (Ac.z p0)) (Ac.b p6) fun Eo Dq Dr=>ABq (ABs ?_));have Ah:=Ac.sb p6 Dr Dq rfl;obtain rfl:=ABk Dj;exact ⟨_,Ajg AGl (ADr (Ah.z p1) (Ah.z p0)) rfl (Ah.b p6),Ah.x,_,rfl,⟨_,_,rfl,(Ah.z p1),(Ah.z p0)⟩⟩
def ALg (fuel:Nat) (a1:Int):Option (Int × Int):=
  ((AQs fuel a1).bind fun Ab=>((ALk fuel 1).bind fun Ac=>(some (Ab,Ac))))
theorem AQ7 {fuel:Nat} {h:ABj} {Ad:Value} {a1:Int} {r:(Int × Int)} (H3:ZZ h Ad a1) (hp:ALg fuel a1=some r):ACa Tryz.prog 133 #[Ad] h (fun x h'=>Ext h h'/\ ∃ (x0:Value),x=x0/\AX5 h' x0 r.1 r.2):=by
 unfold ALg at hp;obtain ⟨Ag,rfl,Ah⟩:=H3.cs;refine cwf (l:=[_]) Tryz.func133 rfl rfl (ABl (AIj Ag trivial tt2 rfl rfl fun b5 h6 V7 E8 S9=>AD2 [.bool false,.slice none 0 0,.bool false,.slice none 0 0] AOx rfl trivial tt2 fun Bg Bh Ap Aq Ar=>ANc ?_));have Ac:=((Kst.k0 h).nb E8 S9 V7).nb Aq Ar Ap;refine AHm Ag ACq (cZ.klen (Ac.zx Ah)) rfl (Ac.b p1).agg ?_;obtain ⟨Bi,Au,Av⟩:=ABm hp;refine ACw rfl (ASe (Ac.zx Ah).2 Au) fun Bj Bl Aw Ax=>?_;obtain ⟨Bm,rfl,Ay⟩:=Ax;obtain ⟨Az,rfl,A3⟩:=Ay.cs;obtain ⟨Bn,A4,A5⟩:=ABm Av;refine ACw rfl (AJ6 A4) fun Bo Ai A6 A7=>?_;obtain ⟨Bp,rfl,A8⟩:=A7;obtain ⟨A9,rfl,Ba⟩:=A8.cs;have Aa:=(((Ac.e Aw).az A3).e A6).az Ba;refine AMr (AUb (Aa.z p1) (Aa.z p0)) (ADn (Az ++ A9) AGl (ADr (Aa.z p1) (Aa.z p0)) (ADr (ACl Ai) (ACl Ai)) rfl rfl (ALl (Aa.z p1) (Aa.z p0)) (Aa.b p2) fun Bq Bb Bc=>ABp (ABs ?_));have Ab:=Aa.sb p2 Bc Bb rfl;obtain rfl:=ABk A5;exact ⟨_,AFr AGl (ADr (Ab.z p1) (Ab.z p0)) rfl (Ab.b p2),Ab.x,_,rfl,⟨_,_,rfl,(Ab.z p1),(Ab.z p0)⟩⟩
def ALh (fuel:Nat) (a1:Int):Option (Int × Int):=
  ((ALk fuel a1).bind fun x8=>((ALg fuel x8).bind fun Aa=>(some (Aa.1,Aa.2))))
theorem AQ8 {fuel:Nat} {h:ABj} {a1:Int} {r:(Int × Int)} (hp:ALh fuel a1=some r):ACa Tryz.prog 128 #[(.int .i64 a1)] h (fun x h'=>Ext h h'/\ ∃ (x0:Value),x=x0/\AX5 h' x0 r.1 r.2):=by
 unfold ALh at hp;refine cwf (l:=[_]) Tryz.func128 rfl rfl (ABl (AD2 [.bool false,.slice none 0 0,.bool false,.slice none 0 0] AOx rfl trivial tt2 fun b2 h3 V4 E5 S6=>ANc (Wl ?_)));obtain ⟨x9,Aj,Ak⟩:=ABm hp;refine ACw rfl (AJ6 Aj) fun A9 Ba E12 Am=>?_;obtain ⟨Bb,rfl,Ao⟩:=Am;obtain ⟨Bc,rfl,Ap⟩:=Ao.cs;have Ae:=(((Kst.k0 h).nb E5 S6 V4).e E12).az Ap;obtain ⟨Be,Aq,Ar⟩:=ABm Ak;refine ACw rfl (AQ7 (Ae.z p0).2 Aq) fun Bf Af Au Av=>?_;obtain ⟨Bg,rfl,Aw⟩:=Av;obtain ⟨Ax,Ay,rfl,Az,A3⟩:=Aw;have Aa:=((Ae.e Au).az Az).az A3;refine ADn (Ax ++ Ay) AGl (ADr (Aa.z p1) (Aa.z p0)) (ADr (ACl Af) (ACl Af)) rfl rfl (ALl (Aa.z p1) (Aa.z p0)) (Aa.b p3) fun Bh A4 A5=>ABp (ABs ?_);have Ab:=Aa.sb p3 A5 A4 rfl;obtain rfl:=ABk Ar;exact ⟨_,AFr AGl (ADr (Ab.z p1) (Ab.z p0)) rfl (Ab.b p3),Ab.x,_,rfl,⟨_,_,rfl,(Ab.z p1),(Ab.z p0)⟩⟩
def ADw (fuel:Nat) (a3 a5:Int):Option (Int × Int):=
  ((AGs fuel a3 a5).bind fun (Aa,Ae)=>(if (!Ae)=true then ((ALh fuel 0).bind fun Ab=>(some (Ab.1,Ab.2))) else (some (Aa.1,Aa.2))))
theorem AF5 {fuel:Nat} {h:ABj} {Ak:Value} {a3 a5:Int} {r:(Int × Int)} (H2:AX5 h Ak a3 a5) (hp:ADw fuel a3 a5=some r):ACa Tryz.prog 121 #[Ak] h (fun x h'=>Ext h h'/\ ∃ (x0:Value),x=x0/\AX5 h' x0 r.1 r.2):=by
 unfold ADw at hp;obtain ⟨Aq,Ar,rfl,H2z0,H2z1⟩:=H2;refine cwf (l:=[_]) Tryz.func121 rfl rfl (ABl (AIj (Aq ++ Ar) trivial tt2 rfl rfl fun b7 h8 V9 Az A3=>AD2 [.bool false,.slice none 0 0,.bool false,.slice none 0 0] AOx rfl trivial tt2 fun B1 B2 A4 A5 A6=>ANc (AJz (fs:=2) AYe (by kernel_rfl) (by decide) rfl ?_)));have Ab:=((Kst.k0 h).nb Az A3 V9).nb A5 A6 A4;refine AHm Aq ACq (cZ.klen (Ab.zx H2z0)) rfl ((Ab.b p1).aggL) (AJz (fs:=2) AUa (by kernel_rfl) (by decide) rfl (AHm Ar ACq (cZ.klen (Ab.zx H2z1)) rfl ((Ab.b p1).aggR (cZ.klen (Ab.zx H2z0))) ?_));obtain ⟨⟨B3,B4⟩,A7,Ag⟩:=ABm hp;dsimp only at Ag;refine ACw rfl (ANg (Ab.zx H2z0).2 (Ab.zx H2z1).2 A7) fun B5 B6 A8 A9=>?_;obtain ⟨B7,rfl,Ba⟩:=A9;obtain ⟨Ah,Ai,rfl,Bb,Bc⟩:=Ba;refine Wl (AC4 rfl rfl (AC4 rfl rfl (AD2 [.bool false,.slice none 0 0,.bool false,.slice none 0 0] AOx rfl trivial tt2 fun B8 Au Be Bf Bg=>?_)));have Ac:=(((Ab.e A8).az Bb).az Bc).nb Bf Bg Be;refine ADn (Ah ++ Ai) AGl (ADr (Ac.z p2) (Ac.z p1)) (ADr (ACl Au) (ACl Au)) rfl rfl (ALl (Ac.z p2) (Ac.z p1)) (Ac.b p0) fun Av Bh Bi=>ABq (ABn (ABl (Wl (AF9 rfl (ABp ?_)))));have Aa:=Ac.sb p0 Bi Bh rfl;refine ⟨_,rfl,fun Aj=>?_,fun Aj=>?_⟩
 ·refine ABl ?_;obtain ⟨B9,Bj,Bl⟩:=ABm (ifT Ag Aj);refine ACw rfl (AQ8 Bj) fun Ca Aw Bm Bn=>?_;obtain ⟨Cb,rfl,Bo⟩:=Bn;obtain ⟨Bp,Bq,rfl,Br,Bt⟩:=Bo;have Ad:=((Aa.e Bm).az Br).az Bt;refine ADn (Bp ++ Bq) AGl (ADr (Ad.z p1) (Ad.z p0)) (ADr (ACl Aw) (ACl Aw)) rfl rfl (ALl (Ad.z p1) (Ad.z p0)) (Ad.b p5) fun Cd Bu Bv=>ABp (ABs (AB2 ?_));have Ae:=Ad.sb p5 Bv Bu rfl;obtain rfl:=ABk Bl;exact ⟨_,AFr AGl (ADr (Ae.z p1) (Ae.z p0)) rfl (Ae.b p5),Ae.x,_,rfl,⟨_,_,rfl,(Ae.z p1),(Ae.z p0)⟩⟩
 ·refine ABt (q_t (ABl (AHm (Ah ++ Ai) AGl (ADr (Aa.z p2) (Aa.z p1)) rfl ((Aa.b p0).agg) (ADn (Ah ++ Ai) AGl (ADr (Aa.z p2) (Aa.z p1)) (ADr (ACl Av) (ACl Av)) rfl rfl (ALl (Aa.z p2) (Aa.z p1)) (Aa.b p3) fun Ce Bw Bx=>ABp (ABs ?_)))));have Af:=Aa.sb p3 Bx Bw rfl;obtain rfl:=ABk (AJc Ag Aj);exact ⟨_,AFr AGl (ADr (Af.z p2) (Af.z p1)) rfl (Af.b p3),Af.x,_,rfl,⟨_,_,rfl,(Af.z p2),(Af.z p1)⟩⟩
def AF0 (fuel:Nat) (a1 a5:Int):Option (Int × Int):=
  ((ADw fuel a1 a5).bind fun Aa=>(some (Aa.1,Aa.2)))
theorem APl {fuel:Nat} {h:ABj} {Af:Value} {a1:Int} {Ah:Value} {a5:Int} {r:(Int × Int)} (H3:ZZ h Af a1) (H7:ZZ h Ah a5) (hp:AF0 fuel a1 a5=some r):ACa Tryz.prog 93 #[Af,Ah] h (fun x h'=>Ext h h'/\ ∃ (x0:Value),x=x0/\AX5 h' x0 r.1 r.2):=by
 unfold AF0 at hp;obtain ⟨Ak,rfl,Ad⟩:=H3.cs;obtain ⟨Am,rfl,Ae⟩:=H7.cs;refine cwf (l:=[_,_]) Tryz.func93 rfl rfl (ABl (AIj Ak trivial tt2 rfl rfl fun b9 Bh Ar E12 Au=>AIj Am trivial tt2 rfl rfl fun Bi Bj Av Aw Ax=>AD2 [.bool false,.slice none 0 0,.bool false,.slice none 0 0] AOx rfl trivial tt2 fun Bl Bm Ay Az A3=>ANc ?_));have Aa:=(((Kst.k0 h).nb E12 Au Ar).nb Aw Ax Av).nb Az A3 Ay;refine AHm Ak ACq (cZ.klen (Aa.zx Ad)) rfl (Aa.b p2).agg (AHm Am ACq (cZ.klen (Aa.zx Ae)) rfl (Aa.b p1).agg (AMr (AUb (Aa.zx Ad) (Aa.zx Ae)) ?_));obtain ⟨Bn,A4,A5⟩:=ABm hp;refine ACw rfl (AF5 ⟨_,_,rfl,(Aa.zx Ad),(Aa.zx Ae)⟩ A4) fun Bo Ao A6 A7=>?_;obtain ⟨Bp,rfl,A8⟩:=A7;obtain ⟨A9,Ba,rfl,Bb,Bc⟩:=A8;have Ab:=((Aa.e A6).az Bb).az Bc;refine ADn (A9 ++ Ba) AGl (ADr (Ab.z p1) (Ab.z p0)) (ADr (ACl Ao) (ACl Ao)) rfl rfl (ALl (Ab.z p1) (Ab.z p0)) (Ab.b p2) fun Bq Be Bf=>ABp (ABs ?_);have Ac:=Ab.sb p2 Bf Be rfl;obtain rfl:=ABk A5;exact ⟨_,AFr AGl (ADr (Ac.z p1) (Ac.z p0)) rfl (Ac.b p2),Ac.x,_,rfl,⟨_,_,rfl,(Ac.z p1),(Ac.z p0)⟩⟩
def AJr (fuel:Nat):Option (Int × Int):=
  ((ALk fuel 1).bind fun x7=>((ALk fuel 2).bind fun Ab=>(some (x7,Ab))))
theorem ARn {fuel:Nat} {h:ABj} {r:(Int × Int)} (hp:AJr fuel=some r):ACa Tryz.prog 120 #[] h (fun x h'=>Ext h h'/\ ∃ (x0:Value),x=x0/\AX5 h' x0 r.1 r.2):=by
 unfold AJr at hp;refine cwf (l:=[]) Tryz.func120 rfl rfl (ABl (AD2 [.bool false,.slice none 0 0,.bool false,.slice none 0 0] AOx rfl trivial tt2 fun b1 h2 V3 E4 S5=>ANc ?_));obtain ⟨x8,Ah,Ai⟩:=ABm hp;refine ACw rfl (AJ6 Ah) fun A7 A8 Aj Ak=>?_;obtain ⟨A9,rfl,Am⟩:=Ak;obtain ⟨Ao,rfl,Ap⟩:=Am.cs;obtain ⟨Ba,Aq,Ar⟩:=ABm Ai;refine ACw rfl (AJ6 Aq) fun Bb Ad Au Av=>?_;obtain ⟨Bc,rfl,Aw⟩:=Av;obtain ⟨Ax,rfl,Ay⟩:=Aw.cs;have Aa:=(((((Kst.k0 h).nb E4 S5 V3).e Aj).az Ap).e Au).az Ay;refine AMr (AUb (Aa.z p1) (Aa.z p0)) (ADn (Ao ++ Ax) AGl (ADr (Aa.z p1) (Aa.z p0)) (ADr (ACl Ad) (ACl Ad)) rfl rfl (ALl (Aa.z p1) (Aa.z p0)) (Aa.b p2) fun Be Az A3=>ABp (ABs ?_));have Ab:=Aa.sb p2 A3 Az rfl;obtain rfl:=ABk Ar;exact ⟨_,AFr AGl (ADr (Ab.z p1) (Ab.z p0)) rfl (Ab.b p2),Ab.x,_,rfl,⟨_,_,rfl,(Ab.z p1),(Ab.z p0)⟩⟩
def AJ2 (fuel:Nat) (a3 a5 a9 Ag:Int):Option (Int × Int):=
  ((ADw fuel a3 a5).bind fun Aa=>((ADw fuel a9 Ag).bind fun Ab=>((AQr fuel Aa.1 Ab.2).bind fun Ah=>((AQr fuel Ab.1 Aa.2).bind fun Ai=>((Ajv fuel Ah Ai).bind fun Aj=>((AQr fuel Aa.2 Ab.2).bind fun Ak=>((AGs fuel Aj Ak).bind fun (Ac,Am)=>(some (Ac.1,Ac.2)))))))))
theorem ASk {fuel:Nat} {h:ABj} {Bq:Value} {a3 a5:Int} {Bu:Value} {a9 Bw:Int} {r:(Int × Int)} (H2:AX5 h Bq a3 a5) (H8:AX5 h Bu a9 Bw) (hp:AJ2 fuel a3 a5 a9 Bw=some r):ACa Tryz.prog 119 #[Bq,Bu] h (fun x h'=>Ext h h'/\ ∃ (x0:Value),x=x0/\AX5 h' x0 r.1 r.2):=by
 unfold AJ2 at hp;obtain ⟨By,Bz,rfl,H2z0,H2z1⟩:=H2;obtain ⟨B1,B2,rfl,H8z0,H8z1⟩:=H8;refine cwf (l:=[_,_]) Tryz.func119 rfl rfl (ABl (AIj (By ++ Bz) trivial tt2 rfl rfl fun Ej Ek Cr Ct Cu=>AIj (B1 ++ B2) trivial tt2 rfl rfl fun El Em Cv Cw Cx=>AD2 [.bool false,.slice none 0 0,.bool false,.slice none 0 0] AOx rfl trivial tt2 fun En Ao Cy Cz C0=>ABp (ABn ?_)));have Ac:=(((Kst.k0 h).nb Ct Cu Cr).nb Cw Cx Cv).nb Cz C0 Cy;have Ap:UpT [] Ao Ao:=UpT.start all_nil;refine AYd (B:=fun h'=>UpT [] Ao h') 4 [⟨5,120,[.bool false,.slice none 0 0,.bool false,.slice none 0 0]⟩,⟨6,120,[.bool false,.slice none 0 0,.bool false,.slice none 0 0]⟩] (fun _ _ U E=>U.thenE E) (by kernel_rfl) Ap (Aoy rfl rfl AOx rfl AOx rfl (fun _ _ U E=>U.thenE E)) (h_l rfl (AEy (By ++ Bz) AGl (ADr (Ac.zx H2z0) (Ac.zx H2z1)) rfl Ap (fun h' hb=>((Ac.b p2).ext hb.ext).agg) (ACm (h_e rfl fun Eo B3=>?_))));have Aq:=Ap.thenE B3;have Ar:=Ac.e B3;obtain ⟨Ep,C1,C2⟩:=ABm hp;refine ADd Aq (fun _ E=>Aq.thenE E) rfl (AF5 ⟨_,_,rfl,(Ar.zx H2z0),(Ar.zx H2z1)⟩ C1) fun Er Es Au C3=>?_;obtain ⟨Et,rfl,C4⟩:=C3;have B4:=Aq.thenE Au;obtain ⟨B5,Av,rfl,C5,C6⟩:=C4;have Aw:=((Ar.e Au).az C5).az C6;refine ACm ⟨Au,?_⟩;refine h_l rfl (AEy (B1 ++ B2) AGl (ADr (Aw.zx H8z0) (Aw.zx H8z1)) rfl B4 (fun h' hb=>((Ac.b p1).ext hb.ext).agg) (ACm (h_e rfl fun Eu B6=>?_)));have Ax:=B4.thenE B6;have Ay:=Aw.e B6;obtain ⟨Ev,C7,C8⟩:=ABm C2;refine ADd Ax (fun _ E=>Ax.thenE E) rfl (AF5 ⟨_,_,rfl,(Ay.zx H8z0),(Ay.zx H8z1)⟩ C7) fun Ew Ey Az C9=>?_;obtain ⟨Ez,rfl,Da⟩:=C9;have Db:=Ax.thenE Az;obtain ⟨B7,A3,rfl,Dc,Dd⟩:=Da;refine ACm ⟨Az,?_⟩;refine Ajx fun B8 B9=>Axm fun Fa Fb Ca Cb De Df Dg Fc Fd=>?_;have Aj:=(((Ay.e Az).az Dc).az Dd).e B9;have Ad:=((((Ac.nb2 (Db.thenE B9).ext (Ah1 Df Dg Ca.lt Cb.lt De) Ca Cb).az (Aj.z p3)).az (Aj.z p2)).az (Aj.z p1)).az (Aj.z p0);refine ADn (B5 ++ Av) AGl (ADr (Ad.z p3) (Ad.z p2)) (ADr (ACl B8) (ACl B8)) rfl rfl (ALl (Ad.z p3) (Ad.z p2)) (Ad.b p4) fun Cd Dh Di=>?_;have Ae:=Ad.sb p4 Di Dh rfl;refine ADn (B7 ++ A3) AGl (ADr (Ae.z p1) (Ae.z p0)) (ADr (ACl Cd) (ACl Cd)) rfl rfl (ALl (Ae.z p1) (Ae.z p0)) (Ae.b p5) fun A4 Dj Dk=>ABp (ABn ?_);have Aa:=Ae.sb p5 Dk Dj rfl;have Ak:UpT [] A4 A4:=UpT.start all_nil;refine AYd (B:=fun h'=>UpT [] A4 h') 20 [⟨7,120,[.bool false,.slice none 0 0,.bool false,.slice none 0 0]⟩] (fun _ _ U E=>U.thenE E) (by kernel_rfl) Ak (Aox rfl AOx rfl (fun _ _ U E=>U.thenE E)) (h_l rfl (AJz (fs:=2) AYe (by kernel_rfl) (by decide) rfl (ACm (h_l rfl (AEy B5 ACq (cZ.klen (Aa.z p3)) rfl Ak (fun h' hb=>((Aa.b p4).ext hb.ext).aggL) (ACm (h_l rfl (AJz (fs:=2) AUa (by kernel_rfl) (by decide) rfl (ACm (h_l rfl (AEy A3 ACq (cZ.klen (Aa.z p0)) rfl Ak (fun h' hb=>((Aa.b p5).ext hb.ext).aggR (cZ.klen (Aa.z p1))) (ACm (h_e rfl fun Fe Ce=>?_)))))))))))));have A5:=Ak.thenE Ce;have A6:=Aa.e Ce;obtain ⟨Ff,Dl,Dn⟩:=ABm C8;refine ADd A5 (fun _ E=>A5.thenE E) rfl (AOw (A6.z p3).2 (A6.z p0).2 Dl) fun Fg Fh A7 Do=>?_;obtain ⟨Fi,rfl,Dp⟩:=Do;have A8:=A5.thenE A7;obtain ⟨Fj,rfl,Dq⟩:=Dp.cs;have Am:=(A6.e A7).az Dq;refine ACm ⟨A7,?_⟩;refine h_l rfl (AJz (fs:=2) AYe (by kernel_rfl) (by decide) rfl (ACm (h_l rfl (AEy B7 ACq (cZ.klen (Am.z p2)) rfl A8 (fun h' hb=>((Aa.b p5).ext hb.ext).aggL) (ACm (h_l rfl (AJz (fs:=2) AUa (by kernel_rfl) (by decide) rfl (ACm (h_l rfl (AEy Av ACq (cZ.klen (Am.z p3)) rfl A8 (fun h' hb=>((Aa.b p4).ext hb.ext).aggR (cZ.klen (Am.z p4))) (ACm (h_e rfl fun Fk Cf=>?_))))))))))));have A9:=A8.thenE Cf;have Ba:=Am.e Cf;obtain ⟨Fl,Dr,Ds⟩:=ABm Dn;refine ADd A9 (fun _ E=>A9.thenE E) rfl (AOw (Ba.z p2).2 (Ba.z p3).2 Dr) fun Fm Fo Bb Dt=>?_;obtain ⟨Fp,rfl,Du⟩:=Dt;have Dv:=A9.thenE Bb;obtain ⟨Fq,rfl,Dw⟩:=Du.cs;refine ACm ⟨Bb,?_⟩;refine h_e rfl fun Fr Cg=>?_;have Bc:=Dv.thenE Cg;have Be:=((Ba.e Bb).az Dw).e Cg;obtain ⟨Ft,Dx,Dy⟩:=ABm Ds;refine ADd Bc (fun _ E=>Bc.thenE E) rfl (Ahy (Be.z p1).2 (Be.z p0).2 Dx) fun Fu Fv Bf Dz=>?_;obtain ⟨Fw,rfl,D0⟩:=Dz;have Bg:=Bc.thenE Bf;obtain ⟨Fx,rfl,D1⟩:=D0.cs;have Ai:=(Be.e Bf).az D1;refine ACm ⟨Bf,?_⟩;refine h_l rfl (AJz (fs:=2) AUa (by kernel_rfl) (by decide) rfl (ACm (h_l rfl (AEy Av ACq (cZ.klen (Ai.z p5)) rfl Bg (fun h' hb=>((Aa.b p4).ext hb.ext).aggR (cZ.klen (Ai.z p6))) (ACm (h_l rfl (AJz (fs:=2) AUa (by kernel_rfl) (by decide) rfl (ACm (h_l rfl (AEy A3 ACq (cZ.klen (Ai.z p3)) rfl Bg (fun h' hb=>((Aa.b p5).ext hb.ext).aggR (cZ.klen (Ai.z p4))) (ACm (h_e rfl fun Fy Ch=>?_))))))))))));have Bh:=Bg.thenE Ch;have Bi:=Ai.e Ch;obtain ⟨Fz,D2,D3⟩:=ABm Dy;refine ADd Bh (fun _ E=>Bh.thenE E) rfl (AOw (Bi.z p5).2 (Bi.z p3).2 D2) fun F4 F5 Bj D4=>?_;obtain ⟨F6,rfl,D5⟩:=D4;have D6:=Bh.thenE Bj;obtain ⟨F7,rfl,D7⟩:=D5.cs;refine ACm ⟨Bj,?_⟩;refine h_e rfl fun F8 Ci=>?_;have Bl:=D6.thenE Ci;have Bm:=((Bi.e Bj).az D7).e Ci;obtain ⟨⟨F9,Ga⟩,D8,Cj⟩:=ABm D3;dsimp only at Cj;refine ADd Bl (fun _ E=>Bl.thenE E) rfl (ANg (Bm.z p1).2 (Bm.z p0).2 D8) fun Gb Gc Bn D9=>?_;obtain ⟨Gd,rfl,Ea⟩:=D9;have Eb:=Bl.thenE Bn;obtain ⟨Bo,Bp,rfl,Ec,Ed⟩:=Ea;refine ACm ⟨Bn,?_⟩;refine h_l rfl (Wl (ACm (h_l rfl (AC4 rfl rfl (ACm (h_l rfl (AC4 rfl rfl (ACm (Ajx fun Ck Cm=>Axl fun Ge Cn Ee Gf=>?_)))))))));have Af:=(((Bm.e Bn).az Ec).az Ed).e Cm;have Ag:=((((((Aa.nb (Eb.thenE Cm).ext (AGy Ee Cn.lt) Cn).az (Af.z p5)).az (Af.z p4)).az (Af.z p3)).az (Af.z p2)).az (Af.z p1)).az (Af.z p0);refine ADn (Bo ++ Bp) AGl (ADr (Ag.z p1) (Ag.z p0)) (ADr (ACl Ck) (ACl Ck)) rfl rfl (ALl (Ag.z p1) (Ag.z p0)) (Ag.b p6) fun Co Ef Eg=>ACr ?_;have Ab:=Ag.sb p6 Eg Ef rfl;refine AHm (Bo ++ Bp) AGl (ADr (Ab.z p1) (Ab.z p0)) rfl ((Ab.b p6).agg) (ADn (Bo ++ Bp) AGl (ADr (Ab.z p1) (Ab.z p0)) (ADr (ACl Co) (ACl Co)) rfl rfl (ALl (Ab.z p1) (Ab.z p0)) (Ab.b p13) fun Gg Eh Ei=>ABp (ABs ?_));have Ah:=Ab.sb p13 Ei Eh rfl;obtain rfl:=ABk Cj;exact ⟨_,AFr AGl (ADr (Ah.z p1) (Ah.z p0)) rfl (Ah.b p13),Ah.x,_,rfl,⟨_,_,rfl,(Ah.z p1),(Ah.z p0)⟩⟩
def AI5 (fuel:Nat) (a3 a5:Int):Option Int:=
  ((ADw fuel a3 a5).bind fun Aa=>((AEd fuel Aa.1 Aa.2).bind fun Ad=>(some Ad)))
theorem AQ9 {fuel:Nat} {h:ABj} {Af:Value} {a3 a5 r:Int} (H2:AX5 h Af a3 a5) (hp:AI5 fuel a3 a5=some r):ACa Tryz.prog 118 #[Af] h (fun x h'=>Ext h h'/\ ∃ (x0:Value),x=x0/\ZZ h' x0 r):=by
 unfold AI5 at hp;obtain ⟨Aj,Ak,rfl,H2z0,H2z1⟩:=H2;refine cwf (l:=[_]) Tryz.func118 rfl rfl (ABl (AIj (Aj ++ Ak) trivial tt2 rfl rfl fun b7 h8 V9 Au Av=>AD2 [.bool false,.slice none 0 0] AKp rfl trivial tt2 fun Br Bt Aw Ax Ay=>ANc ?_));have Ab:=((Kst.k0 h).nb Au Av V9).nb Ax Ay Aw;refine AHm (Aj ++ Ak) AGl (ADr (Ab.zx H2z0) (Ab.zx H2z1)) rfl ((Ab.b p1).agg) ?_;obtain ⟨Bu,Az,A3⟩:=ABm hp;refine ACw rfl (AF5 ⟨_,_,rfl,(Ab.zx H2z0),(Ab.zx H2z1)⟩ Az) fun Bv Bw A4 A5=>?_;obtain ⟨Bx,rfl,A6⟩:=A5;obtain ⟨Am,Ao,rfl,A7,A8⟩:=A6;refine AD2 [.bool false,.slice none 0 0,.bool false,.slice none 0 0] AOx rfl trivial tt2 fun By Ap A9 Ba Bb=>?_;have Ac:=(((Ab.e A4).az A7).az A8).nb Ba Bb A9;refine ADn (Am ++ Ao) AGl (ADr (Ac.z p2) (Ac.z p1)) (ADr (ACl Ap) (ACl Ap)) rfl rfl (ALl (Ac.z p2) (Ac.z p1)) (Ac.b p0) fun Bz Bc Be=>ANc (AJz (fs:=2) AYe (by kernel_rfl) (by decide) rfl ?_);have Aa:=Ac.sb p0 Be Bc rfl;refine AHm Am ACq (cZ.klen (Aa.z p2)) rfl ((Aa.b p0).aggL) (AJz (fs:=2) AUa (by kernel_rfl) (by decide) rfl (AHm Ao ACq (cZ.klen (Aa.z p1)) rfl ((Aa.b p0).aggR (cZ.klen (Aa.z p2))) ?_));obtain ⟨B1,Bf,Bg⟩:=ABm A3;refine ACw rfl (AIl (Aa.z p2).2 (Aa.z p1).2 Bf) fun B2 Bh Bi Bj=>?_;obtain ⟨B3,rfl,Bl⟩:=Bj;obtain ⟨Bm,rfl,Bn⟩:=Bl.cs;have Ad:=(Aa.e Bi).az Bn;refine ADn Bm ACq (cZ.klen (Ad.z p0)) (cZ.klen (ACl Bh)) rfl rfl (cZ.one (Ad.z p0)) (Ad.b p4) fun B4 I64 Bo=>ABp (ABs ?_);have Ae:=Ad.sb p4 Bo I64 rfl;obtain rfl:=ABk Bg;exact ⟨_,AFr ACq (cZ.klen (Ae.z p0)) rfl (Ae.b p4),Ae.x,_,rfl,(Ae.z p0).2⟩
def AGc (fuel:Nat) (a3 a5:Int):Option Int:=
  ((AJr fuel).bind fun Aa=>((AJ2 fuel a3 a5 Aa.1 Aa.2).bind fun Ab=>((AI5 fuel Ab.1 Ab.2).bind fun Ae=>(some Ae))))
theorem AP5 {fuel:Nat} {h:ABj} {Ai:Value} {a3 a5 r:Int} (H2:AX5 h Ai a3 a5) (hp:AGc fuel a3 a5=some r):ACa Tryz.prog 92 #[Ai] h (fun x h'=>Ext h h'/\ ∃ (x0:Value),x=x0/\ZZ h' x0 r):=by
 unfold AGc at hp;obtain ⟨Ao,Ap,rfl,H2z0,H2z1⟩:=H2;refine cwf (l:=[_]) Tryz.func92 rfl rfl (ABl (AIj (Ao ++ Ap) trivial tt2 rfl rfl fun b7 h8 V9 Ax Ay=>AD2 [.bool false,.slice none 0 0] AKp rfl trivial tt2 fun Bw Af Az A3 A4=>ABp (ABn (AEs (fun h'=>UpT [] Af h') (by kernel_rfl) ?_))));have Ab:=((Kst.k0 h).nb Ax Ay V9).nb A3 A4 Az;have Ac:UpT [] Af Af:=UpT.start all_nil;refine AEy (Ao ++ Ap) AGl (ADr (Ab.zx H2z0) (Ab.zx H2z1)) rfl Ac (fun h' hb=>((Ab.b p1).ext hb.ext).agg) ?_;obtain ⟨Bx,A5,A6⟩:=ABm hp;refine ADd Ac (fun _ E=>Ac.thenE E) rfl (ARn A5) fun By Bz Aq A7=>?_;obtain ⟨B1,rfl,A8⟩:=A7;have Ag:=Ac.thenE Aq;obtain ⟨B2,B3,rfl,A9,Ba⟩:=A8;have Aa:=((Ab.e Aq).az A9).az Ba;obtain ⟨B4,Bb,Bc⟩:=ABm A6;refine ADd Ag (fun _ E=>Ag.thenE E) rfl (ASk ⟨_,_,rfl,(Aa.zx H2z0),(Aa.zx H2z1)⟩ ⟨_,_,rfl,(Aa.z p1),(Aa.z p0)⟩ Bb) fun B5 B6 Ar Be=>?_;obtain ⟨B7,rfl,Bf⟩:=Be;have Au:=Ag.thenE Ar;obtain ⟨B8,B9,rfl,Bg,Bh⟩:=Bf;have Ah:=((Aa.e Ar).az Bg).az Bh;obtain ⟨Ca,Bi,Bj⟩:=ABm Bc;refine ADd Au (fun _ E=>Au.thenE E) rfl (AQ9 ⟨_,_,rfl,(Ah.z p1),(Ah.z p0)⟩ Bi) fun Cb Bl Bm Bn=>?_;obtain ⟨Cd,rfl,Bo⟩:=Bn;obtain ⟨Bp,rfl,Bq⟩:=Bo.cs;have Ad:=(Ah.e Bm).az Bq;refine ADn Bp ACq (cZ.klen (Ad.z p0)) (cZ.klen (ACl Bl)) rfl rfl (cZ.one (Ad.z p0)) (Ad.b p5) fun Ce Br Bt=>ABp (ABs ?_);have Ae:=Ad.sb p5 Bt Br rfl;obtain rfl:=ABk Bj;exact ⟨_,AFr ACq (cZ.klen (Ae.z p0)) rfl (Ae.b p5),Ae.x,_,rfl,(Ae.z p0).2⟩
def AFj (fuel:Nat) (a3:LiI) (a7:LiA) (a9:Int):Option Bool:=
  ((AEu fuel a3 a9 (w64 (a9 - 1))).bind fun Ac=>((ALk fuel 4).bind fun Ae=>((ADu fuel a7 (w64 (a9 - 1))).bind fun Af=>((ADu fuel a7 (w64 (a9 + 1))).bind fun Ag=>((AQr fuel Af Ag).bind fun Ah=>((AQr fuel Ac Ac).bind fun Ai=>((Ajv fuel Ah Ai).bind fun Aj=>((AQr fuel Ae Aj).bind fun Ak=>((ALk fuel 3).bind fun Am=>((ADu fuel a7 a9).bind fun Ao=>((ADu fuel a7 a9).bind fun Ap=>((AQr fuel Ao Ap).bind fun Aq=>((AQr fuel Am Aq).bind fun Ar=>((Abt fuel Ak Ar).bind fun Au=>(some (decide (0<=Au)))))))))))))))))
theorem AMa {fuel:Nat} {h:ABj} {Bj:Value} {a3:LiI} {Bm:Value} {a7:LiA} {a9:Int} {r:Bool} (H2:AFo cZ h Bj a3) (H6:SlC cZ h Bm a7) (hp:AFj fuel a3 a7 a9=some r):ACa Tryz.prog 96 #[Bj,Bm,(.int .i64 a9)] h (fun x h'=>Ext h h'/\x= .bool r):=by
 unfold AFj at hp;refine cwf (l:=[_,_,_]) Tryz.func96 rfl rfl (ABl (ACr (Wl (Wl (Wl (AHd rfl rfl ?_))))));have K0:=Kst.k0 h;obtain ⟨Ey,Cf,Cg⟩:=ABm hp;refine ACw rfl (AJl (H2.ext K0.x) Cf) fun Ez Fa Ch Ci=>?_;obtain ⟨Fb,rfl,Cj⟩:=Ci;obtain ⟨Ag,rfl,Ck⟩:=Cj.cs;refine AD2 [.bool false,.slice none 0 0] AKp rfl trivial tt2 fun Fc Cm Cn Co Cp=>?_;have Ac:=((K0.e Ch).az Ck).nb Co Cp Cn;refine ADn Ag ACq (cZ.klen (Ac.z p1)) (cZ.klen (ACl Cm)) rfl rfl (cZ.one (Ac.z p1)) (Ac.b p0) fun Ah Cq Cr=>ABp (ABn ?_);have Ad:=Ac.sb p0 Cr Cq rfl;have Bq:UpT [] Ah Ah:=UpT.start all_nil;refine AYd (B:=fun h'=>UpT [] Ah h') 15 [⟨8,109,[.bool false,.slice none 0 0]⟩] (fun _ _ U E=>U.thenE E) (by kernel_rfl) Bq (Aox rfl AKp rfl (fun _ _ U E=>U.thenE E)) (h_e rfl fun Fd Br=>?_);have Ai:=Bq.thenE Br;obtain ⟨Fe,Ct,Cu⟩:=ABm Cg;refine ADd Ai (fun _ E=>Ai.thenE E) rfl (AJ6 Ct) fun Ff Fg Aj Cv=>?_;obtain ⟨Fh,rfl,Cw⟩:=Cv;have Cx:=Ai.thenE Aj;obtain ⟨Fi,rfl,Cy⟩:=Cw.cs;refine ACm ⟨Aj,?_⟩;refine h_l rfl (Wl (ACm (h_l rfl (Wl (ACm (h_l rfl (AHd rfl rfl (ACm (h_e rfl fun Fj Bt=>?_)))))))));have Ak:=Cx.thenE Bt;have Bu:=(((Ad.e Br).e Aj).az Cy).e Bt;obtain ⟨Fk,Cz,C0⟩:=ABm Cu;refine ADd Ak (fun _ E=>Ak.thenE E) rfl (AE2 (H6.ext Bu.x) Cz) fun Fl Fm Am C1=>?_;obtain ⟨Fo,rfl,C2⟩:=C1;have C3:=Ak.thenE Am;obtain ⟨Fp,rfl,C4⟩:=C2.cs;refine ACm ⟨Am,?_⟩;refine h_l rfl (Wl (ACm (h_l rfl (Wl (ACm (h_l rfl (AC3 rfl rfl (ACm (h_e rfl fun Fq Bv=>?_)))))))));have Ao:=C3.thenE Bv;have Bw:=((Bu.e Am).az C4).e Bv;obtain ⟨Fr,C5,C6⟩:=ABm C0;refine ADd Ao (fun _ E=>Ao.thenE E) rfl (AE2 (H6.ext Bw.x) C5) fun Ft Fu Ap C7=>?_;obtain ⟨Fv,rfl,C8⟩:=C7;have C9:=Ao.thenE Ap;obtain ⟨Fw,rfl,Da⟩:=C8.cs;refine ACm ⟨Ap,?_⟩;refine h_e rfl fun Fx Bx=>?_;have Aq:=C9.thenE Bx;have Ar:=((Bw.e Ap).az Da).e Bx;obtain ⟨Fy,Db,Dc⟩:=ABm C6;refine ADd Aq (fun _ E=>Aq.thenE E) rfl (AOw (Ar.z p1).2 (Ar.z p0).2 Db) fun Fz F4 Au Dd=>?_;obtain ⟨F5,rfl,De⟩:=Dd;have Av:=Aq.thenE Au;obtain ⟨F6,rfl,Df⟩:=De.cs;have Aw:=(Ar.e Au).az Df;refine ACm ⟨Au,?_⟩;refine h_l rfl (AEy Ag ACq (cZ.klen (Aw.z p5)) rfl Av (fun h' hb=>((Ad.b p0).ext hb.ext).agg) (ACm (h_l rfl (AEy Ag ACq (cZ.klen (Aw.z p5)) rfl Av (fun h' hb=>((Ad.b p0).ext hb.ext).agg) (ACm (h_e rfl fun F7 By=>?_))))));have Ax:=Av.thenE By;have Ay:=Aw.e By;obtain ⟨F8,Dg,Dh⟩:=ABm Dc;refine ADd Ax (fun _ E=>Ax.thenE E) rfl (AOw (Ay.z p5).2 (Ay.z p5).2 Dg) fun F9 Ga Az Di=>?_;obtain ⟨Gb,rfl,Dj⟩:=Di;have Dk:=Ax.thenE Az;obtain ⟨Gc,rfl,Dl⟩:=Dj.cs;refine ACm ⟨Az,?_⟩;refine h_e rfl fun Gd Bz=>?_;have A3:=Dk.thenE Bz;have A4:=((Ay.e Az).az Dl).e Bz;obtain ⟨Ge,Dn,Do⟩:=ABm Dh;refine ADd A3 (fun _ E=>A3.thenE E) rfl (Ahy (A4.z p1).2 (A4.z p0).2 Dn) fun Gf Gg A5 Dp=>?_;obtain ⟨Gh,rfl,Dq⟩:=Dp;have Dr:=A3.thenE A5;obtain ⟨Gi,rfl,Ds⟩:=Dq.cs;refine ACm ⟨A5,?_⟩;refine h_e rfl fun Gj B1=>?_;have A6:=Dr.thenE B1;have A7:=((A4.e A5).az Ds).e B1;obtain ⟨Gk,Dt,Du⟩:=ABm Do;refine ADd A6 (fun _ E=>A6.thenE E) rfl (AOw (A7.z p5).2 (A7.z p0).2 Dt) fun Gl Gm A8 Dv=>?_;obtain ⟨Gn,rfl,Dw⟩:=Dv;have Dx:=A6.thenE A8;obtain ⟨B2,rfl,Dy⟩:=Dw.cs;refine ACm ⟨A8,?_⟩;refine Ajx fun Dz B3=>Axl fun Gp B4 D0 Gq=>?_;have Aa:=((A7.e A8).az Dy).e B3;have Ae:=(((((((Ad.nb (Dx.thenE B3).ext (AGy D0 B4.lt) B4).az (Aa.z p6)).az (Aa.z p5)).az (Aa.z p4)).az (Aa.z p3)).az (Aa.z p2)).az (Aa.z p1)).az (Aa.z p0);refine ADn B2 ACq (cZ.klen (Ae.z p0)) (cZ.klen (ACl Dz)) rfl rfl (cZ.one (Ae.z p0)) (Ae.b p7) fun A9 D1 D2=>ABp (ABn (AEs (fun h'=>UpT [] A9 h') (by kernel_rfl) ?_));have Ba:=Ae.sb p7 D2 D1 rfl;have Af:UpT [] A9 A9:=UpT.start all_nil;refine AEy B2 ACq (cZ.klen (Ba.z p0)) rfl Af (fun h' hb=>((Ba.b p7).ext hb.ext).agg) ?_;obtain ⟨Gr,D3,D4⟩:=ABm Du;refine ADd Af (fun _ E=>Af.thenE E) rfl (AJ6 D3) fun Gt Gu B5 D5=>?_;obtain ⟨Gv,rfl,D6⟩:=D5;have Bb:=Af.thenE B5;obtain ⟨Gw,rfl,D7⟩:=D6.cs;refine Wl (Wl ?_);have B6:=(Ba.e B5).az D7;obtain ⟨Gx,D8,D9⟩:=ABm D4;refine ADd Bb (fun _ E=>Bb.thenE E) rfl (AE2 (H6.ext B6.x) D8) fun Gy Gz B7 Ea=>?_;obtain ⟨G3,rfl,Eb⟩:=Ea;have Bc:=Bb.thenE B7;obtain ⟨G4,rfl,Ec⟩:=Eb.cs;refine Wl (Wl ?_);have B8:=(B6.e B7).az Ec;obtain ⟨G5,Ed,Ee⟩:=ABm D9;refine ADd Bc (fun _ E=>Bc.thenE E) rfl (AE2 (H6.ext B8.x) Ed) fun G6 G7 B9 Ef=>?_;obtain ⟨G8,rfl,Eg⟩:=Ef;have Be:=Bc.thenE B9;obtain ⟨G9,rfl,Eh⟩:=Eg.cs;have Bf:=(B8.e B9).az Eh;obtain ⟨Hb,Ei,Ej⟩:=ABm Ee;refine ADd Be (fun _ E=>Be.thenE E) rfl (AOw (Bf.z p1).2 (Bf.z p0).2 Ei) fun Hc Hd Ca Ek=>?_;obtain ⟨He,rfl,El⟩:=Ek;have Bg:=Be.thenE Ca;obtain ⟨Hf,rfl,Em⟩:=El.cs;have Bh:=(Bf.e Ca).az Em;obtain ⟨Hg,En,Eo⟩:=ABm Ej;refine ADd Bg (fun _ E=>Bg.thenE E) rfl (AOw (Bh.z p3).2 (Bh.z p0).2 En) fun Hh Hj Cb Ep=>?_;obtain ⟨Hk,rfl,Er⟩:=Ep;have Cd:=Bg.thenE Cb;obtain ⟨Hl,rfl,Es⟩:=Er.cs;have Bi:=(Bh.e Cb).az Es;obtain ⟨Hm,Et,Eu⟩:=ABm Eo;refine ADd Cd (fun _ E=>Cd.thenE E) rfl (AZz (Bi.z p5).2 (Bi.z p0).2 Et) fun Hn Ho Ev Ew=>?_;subst Ew;refine ANe rfl rfl (ABq (ABs ?_));obtain rfl:=ABk Eu;exact ⟨_,ABu,(Bi.e Ev).x,rfl⟩
def AKb (fuel:Nat) (a3:LiI) (x5:LiA) (Ab Aa:Int) (Ac:LiI):Option ((Int × LiI) ⊕ (((LiI × Bool)) ⊕ (LiI))):=
  (if 0<=Aa then ((AFv fuel a3 x5 Ab Aa).bind fun Ah=>(if (!Ah)=true then ((gI Ac Aa).bind fun Af=>((AEu fuel a3 Ab Aa).bind fun Ai=>((ADu fuel x5 (w64 (Aa + 1))).bind fun Aj=>((AF0 fuel Ai Aj).bind fun Ag=>((AGc fuel Ag.1 Ag.2).bind fun Ak=>((Afd fuel Ak).bind fun Am=>((gI Af Ab).bind fun Ao=>(some (Sum.inr<| Sum.inl <| ((sI Ac Aa (sI Af Ab Am)),true)))))))))) else (some (Sum.inl ((w64 (Aa - 1)),Ac))))) else (some (Sum.inr<| Sum.inr <| Ac)))
def AKc (fuel:Nat) (a3:LiI) (x5:LiA) (Aa:Int) (Ae:LiI):Option ((Int × LiI) ⊕ (((LiI × Bool)) ⊕ (Unit))):=
  (if Aa < (a3.length:Int) then ((iter (fun s=>AKb fuel a3 x5 Aa s.1 s.2) fuel ((w64 (Aa - 1)),Ae)).bind (fun ex=>match ex with | Sum.inl Af=>(some (Sum.inr<| Sum.inl <| Af)) | Sum.inr (Ab)=>(if 0 < Aa then ((AFj fuel a3 x5 Aa).bind fun Ag=>(if (!Ag)=true then ((gI Ab (w64 (Aa - 1))).bind fun Ah=>((gI Ab Aa).bind fun Ai=>(some (Sum.inr<| Sum.inl <| ((sI (sI Ab Aa Ah) (w64 (Aa - 1)) Ai),true))))) else (some (Sum.inl ((w64 (Aa + 1)),Ab))))) else (some (Sum.inl ((w64 (Aa + 1)),Ab)))))) else (some (Sum.inr<| Sum.inr <| ())))
def AHp (fuel:Nat) (a3:LiI):Option (LiI × Bool):=
  ((AEh fuel a3).bind fun (x5,x6)=>((AE1 fuel (a3.length:Int)).bind fun (Ac,Af)=>((iter (fun s=>AKc fuel a3 x5 s.1 s.2) fuel (0,Ac)).bind (fun ex=>match ex with | Sum.inl Ad=>(some Ad) | Sum.inr (_)=>(some ([],false))))))
theorem ARo {fuel:Nat} {h:ABj} {Bi:Value} {a3:LiI} {r:(LiI × Bool)} (H2:AFo cZ h Bi a3) (hp:AHp fuel a3=some r):ACa Tryz.prog 55 #[Bi] h (fun x h'=>Ext h h'/\ ∃ (x0:Value) (F0:List Nat) (B7:List LnA) (B8:List Value),x= .tuple #[x0,.bool r.2]/\AFh cZ 112 109 h' F0 B7 B8 x0 r.1/\Sp h' h.size [F0]):=by
 unfold AHp at hp;refine cwf (l:=[_]) Tryz.func55 rfl rfl (ABl (ACg (ACr (Wl ?_))));have K0:=Kst.k0 h;obtain ⟨⟨x5,x6⟩,B9,Bo⟩:=ABm hp;dsimp only at Bo;refine ACw rfl (AI2 (H2.ext K0.x) B9) fun El Em E9 Cb=>?_;obtain ⟨En,Eo,rfl,Cd,Ce⟩:=Cb;refine Wl (AC4 rfl rfl (AC4 rfl rfl (ACg (ACr (Wl (ADh AEb rfl H2 ?_))))));obtain ⟨⟨Cf,Ep⟩,Cg,Bp⟩:=ABm Bo;dsimp only at Bp;refine ACw rfl (ALn Cg) fun Er Es Ch Ci=>?_;obtain ⟨Bq,Cj,Ck,Cm,rfl,Cn,Co⟩:=Ci;refine Wl (AC4 rfl rfl (AC4 rfl rfl (ACg (ABq (ABn (ABl (Wl (ADh AEb rfl H2 (Wl (ABp (ABr ?_)))))))))));have Br:=(K0.no E9 Ce Cd).no2 Ch Co Cn;obtain ⟨Aj,Cp,Ap⟩:=ABm Bp;obtain ⟨Cq,Cr,Ct⟩:=ACj Cp;refine ACk 9671406556917033389261580 (fun x:(Int) × (LiI) × LnA × LnN × LvA=>[(23,(.int .i64 x.1))]) (fun k x h'=>iter Cq k (x.1,x.2.1)=some Aj/\Kst h h' (Br.L.set 0 (aO2 cZ 112 109 x.2.2.1 x.2.2.2.1 x.2.2.2.2 Bq x.2.1))) (by kernel_rfl) fuel ((0,Cf,Cj,Ck,Cm):(Int) × (LiI) × LnA × LnN × LvA) ?_ ⟨rfl,trivial⟩ ?_
 ·exact ⟨Ct,Br⟩
 rintro Et ⟨Ak,Cu,Cv,Cw,Cx⟩ Eu Ev ⟨Cy,Aq⟩;obtain ⟨Bt,Ew,rfl,Ad,Aa⟩:=AB5 Cy;rw [Cr] at Ad;dsimp only at Ad;unfold AKc at Ad;refine ABl (AC1 rfl rfl (ABp (ABn (⟨_,rfl,fun Ar=>?_,fun Ar=>?_⟩))))
 ·refine ABt (q_t (ABn (ABr (ABl (Wl (ABq (ABn (ABl (Wl (AHd rfl rfl (ABq (ABr ?_))))))))))));obtain ⟨Au,Cz,Av⟩:=ABm (AC5 Ad Ar);obtain ⟨C0,C1,C2⟩:=ACj Cz;refine ACk 72057593769493004 (fun x:(Int) × (LiI) × LnA × LnN × LvA=>[(9,(.int .i64 x.1))]) (fun k x h'=>iter C0 k (x.1,x.2.1)=some Au/\Kst h h' (Aq.L.set 0 (aO2 cZ 112 109 x.2.2.1 x.2.2.2.1 x.2.2.2.2 Bq x.2.1))) (by kernel_rfl) fuel (((w64 (Ak - 1)),Cu,Cv,Cw,Cx):(Int) × (LiI) × LnA × LnN × LvA) ?_ ⟨rfl,trivial⟩ ?_
  ·exact ⟨C2,Aq⟩
  rintro Ey ⟨Aw,Ax,Ay,Az,A3⟩ Ez Fa ⟨C3,Ab⟩;obtain ⟨C4,Fb,rfl,Ae,Af⟩:=AB5 C3;rw [C1] at Ae;dsimp only at Ae;unfold AKb at Ae;refine ABn (ABl (Wl (ANe rfl rfl (ABp (⟨_,rfl,fun A4=>?_,fun A4=>?_⟩)))))
  ·refine ABt (q_t (ABn (ABr (ABl (Wl (Wl (Wl (Wl ?_))))))));obtain ⟨Fc,C5,Bu⟩:=ABm (AC5 Ae A4);refine ACw rfl (AMl (H2.ext Ab.x) (Ab.o p1).rd C5) fun Fd A5 C6 C7=>?_;subst C7;refine AF9 rfl (ABp ?_);have Ag:=Ab.e C6;refine ⟨_,rfl,fun A6=>?_,fun A6=>?_⟩
   ·refine ABn (AEs (fun h'=>UpT [] A5 h') (by kernel_rfl) ?_);have Am:UpT [] A5 A5:=UpT.start all_nil;refine Wl (Wl ?_);obtain ⟨Fe,A7,C8⟩:=ABm (ifT Bu A6);refine ADx AEb rfl (Ag.o2 p0) rfl A7 fun Ff Fg Fh C9 Da=>AGw AH6 rfl Am (fun h' hb=>AB0 Da hb.ext) (Wl (Wl (Wl (Wl ?_))));obtain ⟨Fi,Db,Dc⟩:=ABm C8;refine ADd Am (fun _ E=>Am.thenE E) rfl (AJl (H2.ext Ag.x) Db) fun Fj Fk Bv Dd=>?_;obtain ⟨Fl,rfl,De⟩:=Dd;have A8:=Am.thenE Bv;obtain ⟨Fm,rfl,Df⟩:=De.cs;refine Wl (Wl (AC3 rfl rfl ?_));have Bw:=(Ag.e Bv).az Df;obtain ⟨Fo,Dg,Dh⟩:=ABm Dc;refine ADd A8 (fun _ E=>A8.thenE E) rfl (AE2 (Bw.o p2).rd Dg) fun Fp Fq Bx Di=>?_;obtain ⟨Fr,rfl,Dj⟩:=Di;have A9:=A8.thenE Bx;obtain ⟨Ft,rfl,Dk⟩:=Dj.cs;have Ba:=(Bw.e Bx).az Dk;obtain ⟨Fu,Dl,Dn⟩:=ABm Dh;refine ADd A9 (fun _ E=>A9.thenE E) rfl (APl (Ba.z p1).2 (Ba.z p0).2 Dl) fun Fv Fw By Do=>?_;obtain ⟨Fx,rfl,Dp⟩:=Do;have Bb:=A9.thenE By;obtain ⟨Fy,Fz,rfl,Dq,Dr⟩:=Dp;have Bc:=((Ba.e By).az Dq).az Dr;obtain ⟨F4,Ds,Dt⟩:=ABm Dn;refine ADd Bb (fun _ E=>Bb.thenE E) rfl (AP5 ⟨_,_,rfl,(Bc.z p1),(Bc.z p0)⟩ Ds) fun F5 F6 Bz Du=>?_;obtain ⟨F7,rfl,Dv⟩:=Du;have B1:=Bb.thenE Bz;obtain ⟨F8,rfl,Dw⟩:=Dv.cs;have B2:=(Bc.e Bz).az Dw;obtain ⟨F9,Dx,Dy⟩:=ABm Dt;refine ADd B1 (fun _ E=>B1.thenE E) rfl (Adm (B2.z p0).2 Dx) fun Ga Gb Dz D0=>?_;obtain ⟨Gc,rfl,D1⟩:=D0;obtain ⟨Gd,rfl,D2⟩:=D1.cs;have Ah:=(B2.e Dz).az D2;obtain ⟨Ge,B3,D3⟩:=ABm Dy;refine AFd (m:=Aw) AHo rfl (Ag.o2 p0) C9 A7 rfl B3 fun Gf D4=>AJ5 (m:=Aw) (AT8 ACq (cZ.klen (Ah.z p0)) rfl rfl (cZ.one (Ah.z p0))) (Ah.o2 p6) D4 A7 B3 (Ah.z p0) fun Gg D5 D6=>ANc (Wl (ACg (ABq ?_)));have Be:=Ah.uO2 p6 D6 D5;obtain rfl:=ABk D3;change _=Au at Af;subst Af;obtain rfl:=ABk Av;change _=Aj at Aa;subst Aa;refine ABs (ADp (AB2 (AB2 (ADp (AB2 (ADp (AB2 (AB2 (ADp (AB2 ?_))))))))));obtain rfl:=ABk Ap;exact ⟨_,ADc,Be.x,_,_,_,_,rfl,(Be.o2 p6),Be.s.sel [6] (by decide)⟩
   ·refine ABt (q_b (q_t (ABy (Wl (AHd rfl rfl (ABq ?_))))));obtain rfl:=ABk (AJc Bu A6);exact ⟨C4,(((w64 (Aw - 1)),Ax,Ay,Az,A3):(Int) × (LiI) × LnA × LnN × LvA),Nat.lt_succ_self _,⟨Af,Ag⟩,rfl,trivial⟩
  ·obtain rfl:=ABk (AC6 Ae A4);change _=Au at Af;subst Af;refine ACd (ACc (ACc (ADo (q_t (ABl (Wl (AJe rfl rfl (Wl ?_))))))));by_cases Ao:0 < Ak
   ·rw [decide_eq_true Ao];refine ACb 58 true (Wl (ACb 58 true (Wl (ACb 58 true (Wl (ACb 58 true ?_))))));obtain ⟨Gh,D7,B4⟩:=ABm (ifT Av Ao);refine ACw rfl (AMa (H2.ext Ab.x) (Ab.o p1).rd D7) fun Gi Gj D8 D9=>?_;subst D9;refine ACb 58 true (AF9 rfl (ABz rfl (ABp ?_)));have Ai:=Ab.e D8;refine ⟨_,rfl,fun Bf=>?_,fun Bf=>?_⟩
    ·refine ABn (ANr (Wl (Wl (Wl (Wl (AHd rfl rfl (Wl (Wl (AHd rfl rfl ?_)))))))));obtain ⟨Gk,B5,Ea⟩:=ABm (ifT B4 Bf);refine ADx AEb rfl (Ai.o2 p0) rfl B5 fun Gl Gm Gn Eb Ec=>AB9 AH6 rfl Ec (Wl (Wl ?_));obtain ⟨Gp,B6,Ed⟩:=ABm Ea;refine ADx AEb rfl (Ai.o2 p0) rfl B6 fun Gq Gr Gt Ee Ef=>AB9 AH6 rfl Ef (AVa AEb AH6 (Ai.o2 p0) Ee Eb B6 B5 rfl rfl (fun _=>rfl) (fun _=>rfl) (fun _=>rfl) (fun _ _=>rfl) fun Gu Gv Gw Gx Gy Gz Eg Eh Ei=>ANc (Wl (ACg (ABq ?_))));have Bg:=Ai.uo2 p0 Eh Eg Ei;obtain rfl:=ABk Ed;change _=Aj at Aa;subst Aa;refine ABs (ADp (AB2 (AB2 (ADp (AB2 ?_)))));obtain rfl:=ABk Ap;exact ⟨_,ADc,Bg.x,_,_,_,_,rfl,(Bg.o2 p0),Bg.s.sel [0] (by decide)⟩
    ·refine ABt (q_b (q_t (ABy (AC3 rfl rfl (Wl (ABp ?_))))));obtain rfl:=ABk (AJc B4 Bf);exact ⟨Bt,(((w64 (Ak + 1)),Ax,Ay,Az,A3):(Int) × (LiI) × LnA × LnN × LvA),Nat.lt_succ_self _,⟨Aa,Ai⟩,rfl,trivial⟩
   ·rw [decide_eq_false Ao];refine ALv 58 false (ABw rfl (ABp (ACf rfl (ABt (q_b (q_t (ABy (AC3 rfl rfl (Wl (ABp ?_))))))))));obtain rfl:=ABk (ifF Av Ao);exact ⟨Bt,(((w64 (Ak + 1)),Ax,Ay,Az,A3):(Int) × (LiI) × LnA × LnN × LvA),Nat.lt_succ_self _,⟨Aa,Ab⟩,rfl,trivial⟩
 ·obtain rfl:=ABk (AC6 Ad Ar);change _=Aj at Aa;subst Aa;refine ACd (ACc (ACc (ADo (q_t (ABl (ACg (ABq (ABs ?_))))))));have Bh:=Kst.anil2 cZ 112 109 Aq;obtain rfl:=ABk Ap;exact ⟨_,ADc,Bh.x,_,_,_,_,rfl,(Bh.o2 p0),Bh.s.sel [0] (by decide)⟩
def AJm (fuel:Nat) (Aa Ab:LiI):Option ((LiI × LiI) ⊕ (((LiI × LiI × Int)))):=
  ((AHp fuel Aa).bind fun (Ac,Ad)=>(if (!Ad)=true then ((AGm fuel Aa).bind fun (Ae,Ah)=>(some (Sum.inr<| (Ae,Ab,0)))) else ((AEq fuel Aa Ac).bind fun Af=>((ADt fuel Ab Ac).bind fun Ag=>(some (Sum.inl (Af,Ag)))))))
def AGn (fuel:Nat) (a3:LiI):Option (LiI × LiI × Int):=
  ((AD0 fuel a3).bind fun x5=>(if ¬ x5=0 then (some ([],[],x5)) else ((AFw fuel a3).bind fun Ac=>(if (!Ac)=true then (some ([],[],7)) else ((AGa fuel a3).bind fun Ad=>((AE1 fuel (a3.length:Int)).bind fun (Ae,Ag)=>((iter (fun s=>AJm fuel s.1 s.2) fuel (Ad,Ae)).bind (fun (Af:(LiI × LiI × Int))=>(some Af)))))))))
theorem AQj {fuel:Nat} {h:ABj} {Aq:Value} {a3:LiI} {r:(LiI × LiI × Int)} (H2:AFo cZ h Aq a3) (hp:AGn fuel a3=some r):ACa Tryz.prog 28 #[Aq] h (fun x h'=>Ext h h'/\ ∃ (x0:Value) (F0:List Nat) (A9:List LnA) (Ba:List Value) (x1:Value) (F1:List Nat) (Bb:List LnA) (Bc:List Value),x= .tuple #[x0,x1,.int .i64 r.2.2]/\AFh (cI .i64) 23 2 h' F0 A9 Ba x0 r.1/\AFh cZ 112 109 h' F1 Bb Bc x1 r.2.1/\Sp h' h.size [F0,F1]):=by
 unfold AGn at hp;refine cwf (l:=[_]) Tryz.func28 rfl rfl (ABl (ACg (ACg (ABq (ABn (ABl (Wl ?_)))))));have K0:=Kst.k0 h;obtain ⟨x5,Be,Az⟩:=ABm hp;refine ACw rfl (AIr (H2.ext K0.x) Be) fun Df h9 E8 Bg=>?_;subst Bg;refine ACr (Wl (AHz rfl rfl (ABp ?_)));have Ag:=K0.e E8;refine ⟨_,rfl,fun Ah=>?_,fun Ah=>?_⟩
 ·refine ABl (Wl (ACg (ACg (ABq (ABs (AB2 ?_))))));have Ac:=Kst.anil2 cZ 112 109 (Kst.anil2 (cI .i64) 23 2 Ag);obtain rfl:=ABk (AC5 Az Ah);exact ⟨_,AR1,Ac.x,_,_,_,_,_,_,_,_,rfl,(Ac.o2 p1),(Ac.o2 p0),Ac.s.sel [1,0] (by decide)⟩
 ·refine ABt (q_t (ABn (ABl (Wl ?_))));obtain ⟨Dh,Bh,A3⟩:=ABm (AC6 Az Ah);refine ACw rfl (AMm (H2.ext Ag.x) Bh) fun Di Dj Bi Bj=>?_;subst Bj;refine AF9 rfl (ABp ?_);have Ai:=Ag.e Bi;refine ⟨_,rfl,fun Aj=>?_,fun Aj=>?_⟩
  ·refine ABl (ACg (ACg (ABq (ABs (AB2 ?_)))));have Ad:=Kst.anil2 cZ 112 109 (Kst.anil2 (cI .i64) 23 2 Ai);obtain rfl:=ABk (ifT A3 Aj);exact ⟨_,AR1,Ad.x,_,_,_,_,_,_,_,_,rfl,(Ad.o2 p1),(Ad.o2 p0),Ad.s.sel [1,0] (by decide)⟩
  ·refine ABt (q_t (ABl (Wl ?_)));obtain ⟨Bl,Bm,Bn⟩:=ABm (AJc A3 Aj);refine ACw rfl (AM6 (H2.ext Ai.x) Bm) fun Bo Dk Bp Bq=>?_;obtain ⟨Dl,Br,Bt,Bu,rfl,Bv,Bw⟩:=Bq;refine ACr (Wl (ADh AEb rfl H2 ?_));obtain ⟨⟨Bx,Dn⟩,By,A4⟩:=ABm Bn;dsimp only at A4;refine ACw rfl (ALn By) fun Do Dp Bz B1=>?_;obtain ⟨B2,B3,B4,B5,rfl,B6,B7⟩:=B1;refine Wl (AC4 rfl rfl (AC4 rfl rfl (ACg (ABq (ABr ?_)))));have A5:=(Ai.no2 Bp Bw Bv).no2 Bz B7 B6;obtain ⟨A6,B8,B9⟩:=ABm A4;obtain ⟨Ca,Cb,Cd⟩:=ACj B8;refine ACk 562949416558300 (fun x:(LiI) × (Value) × LnA × LnN × LvA × (LiI) × (Value) × LnA × LnN × LvA=>[(6,x.2.1),(7,x.2.2.2.2.2.2.1)]) (fun k x h'=>iter Ca k (x.1,x.2.2.2.2.2.1)=some A6/\Kst h h' ((A5.L.set 1 (aO2 cZ 112 109 x.2.2.1 x.2.2.2.1 x.2.2.2.2.1 x.2.1 x.1)).set 0 (aO2 cZ 112 109 x.2.2.2.2.2.2.2.1 x.2.2.2.2.2.2.2.2.1 x.2.2.2.2.2.2.2.2.2 x.2.2.2.2.2.2.1 x.2.2.2.2.2.1))) (by kernel_rfl) fuel ((Bl,Bo,Br,Bt,Bu,Bx,B2,B3,B4,B5):(LiI) × (Value) × LnA × LnN × LvA × (LiI) × (Value) × LnA × LnN × LvA) ?_ ⟨rfl,rfl,trivial⟩ ?_
   ·exact ⟨Cd,A5⟩
   rintro Dq ⟨Dr,Ds,Dt,Du,Dv,Dw,Dx,Dy,Dz,D0⟩ D1 D2 ⟨Ce,A7⟩;obtain ⟨Cf,D3,rfl,Ae,Ak⟩:=AB5 Ce;rw [Cb] at Ae;dsimp only at Ae;unfold AJm at Ae;refine ABr (ABl (Wl ?_));obtain ⟨⟨D4,D5⟩,Cg,Am⟩:=ABm Ae;dsimp only at Am;refine ACw rfl (ARo (A7.o2 p1).rd Cg) fun D6 D7 Ch Ci=>?_;obtain ⟨D8,D9,Ea,Eb,rfl,Cj,Ck⟩:=Ci;refine Wl (AC4 rfl rfl (AC4 rfl rfl (ACg (ABq (ABn (ABl (Wl (AF9 rfl (ABp ?_)))))))));have Aa:=A7.no2 Ch Ck Cj;refine ⟨_,rfl,fun Ao=>?_,fun Ao=>?_⟩
   ·refine ABl (Wl ?_);obtain ⟨⟨Ec,Ed⟩,Cm,A8⟩:=ABm (ifT Am Ao);dsimp only at A8;refine ACw rfl (AQi (Aa.o2 p2).rd Cm) fun Ee Ef Cn Co=>?_;obtain ⟨Eg,Eh,Ei,Ej,rfl,Cp,Cq⟩:=Co;refine Wl (AC4 rfl rfl (AC4 rfl rfl (ACg (ACr (Wl (Wl (ACg (ACg (ABq ?_)))))))));have Af:=Aa.no2 Cn Cq Cp;obtain rfl:=ABk A8;change _=A6 at Ak;subst Ak;refine ABs (AB2 (ADp (AB2 (ADp ?_))));obtain rfl:=ABk B9;exact ⟨_,AR1,Af.x,_,_,_,_,_,_,_,_,rfl,(Af.o2 p0),(Af.o2 p2),Af.s.sel [0,2] (by decide)⟩
   ·refine ABt (q_t (ABy (Wl (Wl ?_))));obtain ⟨Cr,Ct,Cu⟩:=ABm (AJc Am Ao);refine ACw rfl (AOy (Aa.o2 p2).rd (Aa.o2 p0).rd Ct) fun Cv Ek Cw Cx=>?_;obtain ⟨El,Cy,Cz,C0,rfl,C1,C2⟩:=Cx;refine Wl (Wl ?_);have Ap:=Aa.no2 Cw C2 C1;obtain ⟨C3,C4,C5⟩:=ABm Cu;refine ACw rfl (AI0 (Ap.o2 p2).rd (Ap.o2 p1).rd C4) fun C6 Em C7 C8=>?_;obtain ⟨En,C9,Da,Db,rfl,Dc,Dd⟩:=C8;refine ACg (ACg (ACm (q_b (q_t ?_))));obtain rfl:=ABk C5;exact ⟨Cf,((Cr,Cv,Cy,Cz,C0,C3,C6,C9,Da,Db):(LiI) × (Value) × LnA × LnN × LvA × (LiI) × (Value) × LnA × LnN × LvA),Nat.lt_succ_self _,⟨Ak,(Ap.no2 C7 Dd Dc).sel [0,1] (by decide)⟩,rfl,rfl,trivial⟩
def AI3 (fuel:Nat) (a3:LiI) (x5:LiA) (Ab Aa:Int):Option ((Int) ⊕ ((Bool) ⊕ (Unit))):=
  (if Aa < Ab then ((AFv fuel a3 x5 Ab Aa).bind fun Ae=>(if (!Ae)=true then (some (Sum.inr<| Sum.inl <| false)) else (some (Sum.inl (w64 (Aa + 1)))))) else (some (Sum.inr<| Sum.inr <| ())))
def AI4 (fuel:Nat) (a3:LiI) (x5:LiA) (Aa:Int):Option ((Int) ⊕ ((Bool) ⊕ (Unit))):=
  (if Aa < (a3.length:Int) then ((iter (fun s=>AI3 fuel a3 x5 Aa s) fuel 0).bind (fun ex=>match ex with | Sum.inl Ad=>(some (Sum.inr<| Sum.inl <| Ad)) | Sum.inr (_)=>(if 0 < Aa then ((AFj fuel a3 x5 Aa).bind fun Ae=>(if (!Ae)=true then (some (Sum.inr<| Sum.inl <| false)) else (some (Sum.inl (w64 (Aa + 1)))))) else (some (Sum.inl (w64 (Aa + 1))))))) else (some (Sum.inr<| Sum.inr <| ())))
def AGd (fuel:Nat) (a3:LiI):Option Bool:=
  ((AEh fuel a3).bind fun (x5,x6)=>((iter (fun s=>AI4 fuel a3 x5 s) fuel 0).bind (fun ex=>match ex with | Sum.inl Ac=>(some Ac) | Sum.inr (_)=>(some true))))
theorem AP6 {fuel:Nat} {h:ABj} {Av:Value} {a3:LiI} {r:Bool} (H2:AFo cZ h Av a3) (hp:AGd fuel a3=some r):ACa Tryz.prog 106 #[Av] h (fun x h'=>Ext h h'/\x= .bool r):=by
 unfold AGd at hp;refine cwf (l:=[_]) Tryz.func106 rfl rfl (ABl (ACr (Wl ?_)));have K0:=Kst.k0 h;obtain ⟨⟨x5,x6⟩,A8,Ay⟩:=ABm hp;dsimp only at Ay;refine ACw rfl (AI2 (H2.ext K0.x) A8) fun B1 B2 E9 Ba=>?_;obtain ⟨B3,B4,rfl,Bb,Bc⟩:=Ba;refine Wl (AC4 rfl rfl (AC4 rfl rfl (ACg (ABq (ABn (ABl (Wl (ADh AEb rfl H2 (Wl (ABp (ABr ?_)))))))))));have Az:=K0.no E9 Bc Bb;obtain ⟨Ag,Be,Ai⟩:=ABm Ay;obtain ⟨Bf,Bg,Bh⟩:=ACj Be;refine ACk 274877890660 (fun x:(Int)=>[(14,(.int .i64 x))]) (fun k x h'=>iter Bf k x=some Ag/\Kst h h' (Az.L)) (by kernel_rfl) fuel (0:(Int)) ?_ ⟨rfl,trivial⟩ ?_
 ·exact ⟨Bh,Az⟩
 rintro B5 Aj B6 B7 ⟨Bi,Ak⟩;obtain ⟨A3,B8,rfl,Ac,Aa⟩:=AB5 Bi;rw [Bg] at Ac;dsimp only at Ac;unfold AI4 at Ac;refine ABl (AC1 rfl rfl (ABp (ABn (⟨_,rfl,fun Am=>?_,fun Am=>?_⟩))))
 ·refine ABt (q_t (ABn (ABr (ABl (Wl (ABq (ABn (ABl (ABq (ABr ?_))))))))));obtain ⟨Ao,Bj,Ap⟩:=ABm (AC5 Ac Am);obtain ⟨Bl,Bm,Bn⟩:=ACj Bj;refine ACk 268304452 (fun x:(Int)=>[(6,(.int .i64 x))]) (fun k x h'=>iter Bl k x=some Ao/\Kst h h' (Ak.L)) (by kernel_rfl) fuel (0:(Int)) ?_ ⟨rfl,trivial⟩ ?_
  ·exact ⟨Bn,Ak⟩
  rintro B9 Bo Ca Cb ⟨Bp,Ab⟩;obtain ⟨Bq,Cd,rfl,Ad,Ae⟩:=AB5 Bp;rw [Bm] at Ad;dsimp only at Ad;unfold AI3 at Ad;refine ABn (ABl (Wl (Wl (AC1 rfl rfl (ABp (⟨_,rfl,fun Aq=>?_,fun Aq=>?_⟩))))))
  ·refine ABt (q_t (ABn (ABr (ABl (Wl (Wl (Wl (Wl ?_))))))));obtain ⟨Ce,Br,A4⟩:=ABm (AC5 Ad Aq);refine ACw rfl (AMl (H2.ext Ab.x) (Ab.o p0).rd Br) fun Cf Cg Bt Bu=>?_;subst Bu;refine AF9 rfl (ABp ?_);have A5:=Ab.e Bt;refine ⟨_,rfl,fun Ar=>?_,fun Ar=>?_⟩
   ·refine ABl (ABq ?_);obtain rfl:=ABk (ifT A4 Ar);change _=Ao at Ae;subst Ae;obtain rfl:=ABk Ap;change _=Ag at Aa;subst Aa;refine ABs (ADp (AB2 (AB2 (ADp (AB2 (ADp (AB2 (AB2 (ADp (AB2 ?_))))))))));obtain rfl:=ABk Ai;exact ⟨_,ABu,A5.x,rfl⟩
   ·refine ABt (q_b (q_t (ABy (Wl (AC3 rfl rfl (ABq ?_))))));obtain rfl:=ABk (AJc A4 Ar);exact ⟨Bq,((w64 (Bo + 1)):(Int)),Nat.lt_succ_self _,⟨Ae,A5⟩,rfl,trivial⟩
  ·obtain rfl:=ABk (AC6 Ad Aq);change _=Ao at Ae;subst Ae;refine ACd (ACc (ACc (ADo (q_t (ABl (Wl (AJe rfl rfl (Wl ?_))))))));by_cases Ah:0 < Aj
   ·rw [decide_eq_true Ah];refine ACb 30 true (Wl (ACb 30 true (Wl (ACb 30 true (Wl (ACb 30 true ?_))))));obtain ⟨Ch,Bv,A6⟩:=ABm (ifT Ap Ah);refine ACw rfl (AMa (H2.ext Ab.x) (Ab.o p0).rd Bv) fun Ci Cj Bw Bx=>?_;subst Bx;refine ACb 30 true (AF9 rfl (ABz rfl (ABp ?_)));have A7:=Ab.e Bw;refine ⟨_,rfl,fun Au=>?_,fun Au=>?_⟩
    ·refine ABl (ABq ?_);obtain rfl:=ABk (ifT A6 Au);change _=Ag at Aa;subst Aa;refine ABs (ADp (AB2 (AB2 (ADp (AB2 ?_)))));obtain rfl:=ABk Ai;exact ⟨_,ABu,A7.x,rfl⟩
    ·refine ABt (q_b (q_t (ABy (AC3 rfl rfl (Wl (ABp ?_))))));obtain rfl:=ABk (AJc A6 Au);exact ⟨A3,((w64 (Aj + 1)):(Int)),Nat.lt_succ_self _,⟨Aa,A7⟩,rfl,trivial⟩
   ·rw [decide_eq_false Ah];refine ALv 30 false (ABw rfl (ABp (ACf rfl (ABt (q_b (q_t (ABy (AC3 rfl rfl (Wl (ABp ?_))))))))));obtain rfl:=ABk (ifF Ap Ah);exact ⟨A3,((w64 (Aj + 1)):(Int)),Nat.lt_succ_self _,⟨Aa,Ab⟩,rfl,trivial⟩
 ·obtain rfl:=ABk (AC6 Ac Am);change _=Ag at Aa;subst Aa;refine ACd (ACc (ACc (ADo (q_t (ABl (ABq (ABs ?_)))))));obtain rfl:=ABk Ai;exact ⟨_,ABu,Ak.x,rfl⟩
def AEr (fuel:Nat) (a3:LiI):Option Bool:=
  ((ADs fuel a3).bind fun (x5,x6)=>(if x6=true then ((AD0 fuel x5).bind fun Ad=>(if Ad=0 then ((AFw fuel x5).bind fun Ae=>(if Ae=true then ((AGd fuel x5).bind fun Af=>(some Af)) else (some false))) else (some false))) else (some false)))
theorem AOz {fuel:Nat} {h:ABj} {Af:Value} {a3:LiI} {r:Bool} (H2:AFo (cI .i64) h Af a3) (hp:AEr fuel a3=some r):ACa Tryz.prog 77 #[Af] h (fun x h'=>Ext h h'/\x= .bool r):=by
 unfold AEr at hp;refine cwf (l:=[_]) Tryz.func77 rfl rfl (ABl (ACr (Wl ?_)));have K0:=Kst.k0 h;obtain ⟨⟨x5,x6⟩,Aq,Ab⟩:=ABm hp;dsimp only at Ab;refine ACw rfl (ALm (H2.ext K0.x) Aq) fun Be Bf E9 Au=>?_;obtain ⟨Bg,Bh,Bi,Bj,rfl,Av,Aw⟩:=Au;refine Wl (AC4 rfl rfl (AC4 rfl rfl (ACg (ACr (Wl (Wl ?_))))));have Ac:=K0.no2 E9 Aw Av;cases Ai:x6
 ·refine AG1 11 false (ABw rfl (Wl (AGh 16 false (ABw rfl (Wl (AGh 20 false (ABw rfl (ABq (ABs ?_)))))))));obtain rfl:=ABk (AJc Ab Ai);exact ⟨_,ABu,Ac.x,rfl⟩
 ·refine ACb 11 true (Wl (ACb 11 true ?_));obtain ⟨Ax,Ay,Aj⟩:=ABm (ifT Ab Ai);refine ACw rfl (AIr (Ac.o2 p0).rd Ay) fun Bl Bm Az A3=>?_;subst A3;refine ACb 11 true (ADk rfl rfl (ABz rfl (Wl ?_)));have Ad:=Ac.e Az;by_cases Aa:Ax=0
  ·rw [decide_eq_true Aa];refine ACb 16 true (Wl (ACb 16 true ?_));obtain ⟨A4,A5,Ak⟩:=ABm (ifT Aj Aa);refine ACw rfl (AMm (Ad.o2 p0).rd A5) fun Bn Bo A6 A7=>?_;subst A7;refine ABz rfl (Wl ?_);have Ae:=Ad.e A6;cases Am:A4
   ·refine AGh 20 false (ABw rfl (ABq (ABs ?_)));obtain rfl:=ABk (AJc Ak Am);exact ⟨_,ABu,Ae.x,rfl⟩
   ·refine ACb 20 true (Wl (ACb 20 true ?_));obtain ⟨Bp,A8,A9⟩:=ABm (ifT Ak Am);refine ACw rfl (AP6 (Ae.o2 p0).rd A8) fun Bq Br Ba Bb=>?_;subst Bb;refine ABz rfl (ABq (ABs ?_));obtain rfl:=ABk A9;exact ⟨_,ABu,(Ae.e Ba).x,rfl⟩
  ·rw [decide_eq_false Aa];refine AGh 16 false (ABw rfl (Wl (AGh 20 false (ABw rfl (ABq (ABs ?_))))));obtain rfl:=ABk (ifF Aj Aa);exact ⟨_,ABu,Ad.x,rfl⟩
end Go.Proofs.YtiegjkmfpcgjjaaGreatDoor
namespace Go.QF
open Go
def Ok {α:Type} (o:Option α) (Q:α->Prop):Prop:= ∃ r,o=some r/\Q r
theorem ABi {α:Type} {a:α} {Q:α->Prop} (h:Q a):Ok (some a) Q:=⟨a,rfl,h⟩
theorem ABo {α β:Type} {o:Option α} {f:α->Option β} {Q:α->Prop} {R:β->Prop} (h:Ok o Q) (k:∀ x,Q x->Ok (f x) R):Ok (o.bind f) R:=by
 obtain ⟨x,rfl,hx⟩:=h;exact k x hx
theorem AB3 {c:Prop} [Decidable c] {α:Type} {a b:Option α} {R:α->Prop} (ht:c->Ok a R) (hf: ¬ c->Ok b R):Ok (if c then a else b) R:=by
 by_cases h:c
 ·rw [if_pos h];exact ht h
 ·rw [if_neg h];exact hf h
theorem AEe {c:Prop} [Decidable c] {α:Type} {a:Option α} {R:α->Prop} (hc:c) (h:Ok a R):Ok (if c then a else none) R:=by rw [if_pos hc];exact h
theorem Ass {α:Type} {o:Option α} {Q R:α->Prop} (h:Ok o Q) (k:∀ x,Q x->R x):Ok o R:=let ⟨x,h1,h2⟩:=h;⟨x,h1,k x h2⟩
theorem ok_eq {α:Type} {o:Option α} {a:α} (h:Ok o (· =a)):o=some a:=by obtain ⟨x,h1,rfl⟩:=h;exact h1
theorem ADa {α:Type} {o:Option α} {a:α} (h:o=some a):Ok o (· =a):=⟨a,h,rfl⟩
theorem AB7 {α β:Type} {L:List α} {i:Int} {n:Nat} {x:α} {f:α->Option β} {R:β->Prop} (hx:L[n]? =some x) (hi:i=n) (k:Ok (f x) R):Ok ((gI L i).bind f) R:=by
 subst hi;unfold gI;rw [if_pos (by omega),Int.toNat_natCast,hx];exact k
theorem ACv {S E:Type} {body:S->Option (S ⊕ E)} {fuel:Nat} {s0:S} (I:Nat->S->Prop) (n:Nat) {Q:E->Prop} (h0:I 0 s0) (hf:n < fuel) (hs:∀ i s,i<=n->I i s->Ok (body s) fun r=>match r with | .inl s'=>i < n/\I (i + 1) s' | .inr e=>Q e):Ok (iter body fuel s0) Q:=by
  have key:∀ k fuel i s,n - i=k->k < fuel->i<=n->I i s->Ok (iter body fuel s) Q:=by
    intro k;induction k with
    | zero=>
      intro fuel i s hk hf hi hI;obtain ⟨r,hr,hq⟩:=hs i s hi hI;cases fuel with
      | zero=>omega
      | succ f=>
        cases r with
        | inl s'=>simp at hq;omega
        | inr e=>exact ⟨e,by simp [iter,hr],hq⟩
    | succ k ih=>
      intro fuel i s hk hf hi hI;obtain ⟨r,hr,hq⟩:=hs i s hi hI;cases fuel with
      | zero=>omega
      | succ f=>
        cases r with
        | inl s'=>
          obtain ⟨e,he,hQ⟩:=ih f (i + 1) s' (by omega) (by omega) (by omega) hq.2;exact ⟨e,by simp [iter,hr,he],hQ⟩
        | inr e=>exact ⟨e,by simp [iter,hr],hq⟩
  exact key n fuel 0 s0 (by omega) hf (by omega) h0
theorem AE5 {x:Int} (h1: -9223372036854775808<=x) (h2:x<=9223372036854775807):w64 x=x:=by
 show IntKind.i64.wrap x=x;rw [IntKind.wrap_i64];omega
theorem wk {x:Int} (h: -9223372036854775808<=x/\x<=9223372036854775807):w64 x=x:=AE5 h.1 h.2
def ADz {α:Type} (m:Nat) (f:Nat->α):List α:=(List.range m).map f
theorem ADb {α:Type} (m:Nat) (f:Nat->α):(ADz m f).length=m:=by simp [ADz]
theorem ACn {α:Type} {m:Nat} {f:Nat->α} {j:Nat} (h:j < m):(ADz m f)[j]? =some (f j):=by simp [ADz,h]
theorem ACu {α:Type} {m:Nat} {f g:Nat->α} (h:∀ j,j < m->f j=g j):ADz m f=ADz m g:=by
 unfold ADz;exact List.map_congr_left fun j hj=>h j (List.mem_range.1 hj)
theorem AEz {α:Type} {m j:Nat} {f:Nat->α} {x:α}:(ADz m f).set j x=ADz m fun c=>if c=j then x else f c:=by
 apply List.ext_getElem?;intro i;rw [List.getElem?_set];by_cases h:j=i
 ·subst h;simp only [if_true,ADb];by_cases hj:j < m
  ·simp [hj,ACn hj]
  ·simp [hj,ADz]
 ·rw [if_neg h];by_cases hi:i < m
  ·rw [ACn hi,ACn hi,if_neg (fun he=>h he.symm)]
  ·simp [ADz,hi]
theorem AN0 {α:Type} (m:Nat) (f:Nat->α):ADz m f ++ [f m]=ADz (m + 1) f:=by simp [ADz,List.range_succ]
theorem AHq {α:Type} (m:Nat) (a:α):List.replicate m a=ADz m fun _=>a:=by
 apply List.ext_getElem?;intro i;by_cases h:i < m
 ·rw [ACn h];simp [h]
 ·simp [ADz,h]
theorem AOl (r c:Nat) (F:Nat->Nat->Int):tab r c F=ADz r fun i=>ADz c (F i):=rfl
theorem ADi {r c:Nat} {F:Nat->Nat->Int} {i:Nat} (h:i < r):(tab r c F)[i]? =some (ADz c (F i)):=ACn (f:=fun i=>ADz c (F i)) h
theorem Ao3 {r c i j:Nat} {F:Nat->Nat->Int} {x:Int}:(tab r c F).set i (ADz c fun q=>if q=j then x else F i q)=tab r c (ADj F i fun q=>if q=j then x else F i q):=AH5
theorem ADy {α:Type} (L:List α) (n:Nat) (x:α):sI L (n:Int) x=L.set n x:=by simp [sI]
end Go.QF
namespace Go.QF
theorem AW1 (F:Nat->Nat->Int) (i:Nat) (f g:Nat->Int):ADj (ADj F i f) i g=ADj F i g:=by
 funext k;by_cases h:k=i
 ·subst h;rw [AC9,AC9]
 ·rw [AD8 _ _ h,AD8 _ _ h,AD8 _ _ h]
theorem AN1 (F:Nat->Nat->Int) (i:Nat):ADj F i (F i)=F:=by
 funext k;by_cases h:k=i
 ·subst h;rw [AC9]
 ·rw [AD8 _ _ h]
theorem AG2 (f g:Nat->Int) (n:Nat):psum (fun i=>f i + g i) n=psum f n + psum g n:=by
 induction n with
 | zero=>rfl
 | succ n ih=>simp only [psum];rw [ih];omega
theorem ADf (c:Int) (f:Nat->Int) (n:Nat):psum (fun i=>c * f i) n=c * psum f n:=by
 induction n with
 | zero=>simp [psum]
 | succ n ih=>simp only [psum];rw [ih,Int.mul_add]
theorem AKd (n:Nat):psum (fun _=>0) n=0:=by
 induction n with
 | zero=>rfl
 | succ n ih=>simp only [psum];rw [ih];rfl
theorem AN2 (f:Nat->Nat->Int) (n m:Nat):psum (fun i=>psum (fun j=>f i j) m) n=psum (fun j=>psum (fun i=>f i j) n) m:=by
 induction n with
 | zero=>simp only [psum];exact (AKd m).symm
 | succ n ih=>
   simp only [psum]
   rw [ih,<- AG2]
theorem ATt {f g:Nat->Int} {n a:Nat} (ha:a < n) (h:∀ i,i≠a->g i=f i):psum g n=psum f n + (g a - f a):=by
  induction n with
  | zero=>omega
  | succ n ih=>
    simp only [psum]
    by_cases hn:a=n
    · subst hn;rw [ABv (f:=g) (g:=f) (fun k hk=>h k (by omega))];omega
    · rw [ih (by omega),h n (fun he=>hn he.symm)];omega
theorem AF1 {f:Nat->Int} {n a:Nat} (ha:a < n) (h:∀ i,i≠a->f i=0):psum f n=f a:=by
 rw [ATt (f:=fun _=>0) ha h,AKd];omega
def Eqm (m a b:Int):Prop:=a % m=b % m
theorem Eqm.refl (m a:Int):Eqm m a a:=rfl
theorem Eqm.of_eq {m a b:Int} (h:a=b):Eqm m a b:=h ▸ rfl
theorem Eqm.symm {m a b:Int} (h:Eqm m a b):Eqm m b a:=Eq.symm h
theorem Eqm.trans {m a b c:Int} (h:Eqm m a b) (k:Eqm m b c):Eqm m a c:=Eq.trans h k
theorem Eqm.add {m a b c d:Int} (h:Eqm m a b) (k:Eqm m c d):Eqm m (a + c) (b + d):=by
 unfold Eqm at *;rw [Int.add_emod,h,k,<- Int.add_emod]
theorem Eqm.sub {m a b c d:Int} (h:Eqm m a b) (k:Eqm m c d):Eqm m (a - c) (b - d):=by
 unfold Eqm at *;rw [Int.sub_emod,h,k,<- Int.sub_emod]
theorem Eqm.mul {m a b c d:Int} (h:Eqm m a b) (k:Eqm m c d):Eqm m (a * c) (b * d):=by
 unfold Eqm at *;rw [Int.mul_emod,h,k,<- Int.mul_emod]
theorem Eqm.mod (m a:Int):Eqm m (a % m) a:=Int.emod_emod_of_dvd a (Int.dvd_refl m)
theorem Eqm.psum {m:Int} {f g:Nat->Int} {n:Nat} (h:∀ i,i < n->Eqm m (f i) (g i)):Eqm m (psum f n) (psum g n):=by
 induction n with
 | zero=>rfl
 | succ n ih=>exact (ih fun i hi=>h i (by omega)).add (h n (by omega))
theorem Eqm.zero {m a:Int} (h:Eqm m a 0):a % m=0:=by simpa [Eqm] using h
def comb (r:Nat) (y:Nat->Int) (F:Nat->Nat->Int) (q:Nat):Int:=psum (fun i=>y i * F i q) r
def AW2 (y:Nat->Int) (a:Nat) (t:Int):Nat->Int:=fun i=>if i=a then t else y i
theorem AHv (y:Nat->Int) (a:Nat) (t:Int):AW2 y a t a=t:=if_pos rfl
theorem AIs (y:Nat->Int) {a i:Nat} (t:Int) (h:i≠a):AW2 y a t i=y i:=if_neg h
theorem AUc {r a:Nat} {y:Nat->Int} {F:Nat->Nat->Int} {g:Nat->Int} {q:Nat} (ha:a < r):comb r y (ADj F a g) q=comb r y F q + y a * (g q - F a q):=by
 unfold comb;rw [ATt (f:=fun i=>y i * F i q) ha (fun i hi=>by rw [AD8 _ _ hi]),AC9,Int.mul_sub]
theorem AUd {r a:Nat} {y:Nat->Int} {t:Int} {F:Nat->Nat->Int} {q:Nat} (ha:a < r):comb r (AW2 y a t) F q=comb r y F q + (t - y a) * F a q:=by
 unfold comb;rw [ATt (f:=fun i=>y i * F i q) ha (fun i hi=>by rw [AIs _ _ hi]),AHv,Int.sub_mul]
theorem Afj {r:Nat} {m:Int} {y y':Nat->Int} {F:Nat->Nat->Int} {q:Nat} (h:∀ i,i < r->Eqm m (y i) (y' i)):Eqm m (comb r y F q) (comb r y' F q):=
  Eqm.psum fun i hi=>(h i hi).mul (Eqm.refl _ _)
theorem Al2 {r a:Nat} {F:Nat->Nat->Int} {q:Nat} (ha:a < r):comb r (AW2 (fun _=>0) a 1) F q=F a q:=by
 unfold comb;rw [AF1 ha (fun i hi=>by rw [AIs _ _ hi];simp),AHv];simp
def APe (r c:Nat) (m:Int) (F F':Nat->Nat->Int):Prop:=
  (∀ y',∃ y,(∀ q,q < c->Eqm m (comb r y' F' q) (comb r y F q))/\((∀ i,i < r->Eqm m (y i) 0)-> ∀ i,i < r->Eqm m (y' i) 0))/\
  (∀ y,∃ y',∀ q,q < c->Eqm m (comb r y F q) (comb r y' F' q))
theorem APe.refl (r c:Nat) (m:Int) (F:Nat->Nat->Int):APe r c m F F:=⟨fun y=>⟨y,fun _ _=>rfl,fun h=>h⟩,fun y=>⟨y,fun _ _=>rfl⟩⟩
theorem APe.trans {r c:Nat} {m:Int} {F G H:Nat->Nat->Int} (h:APe r c m F G) (k:APe r c m G H):APe r c m F H:=by
 refine ⟨fun y2=>?_,fun y0=>?_⟩
 ·obtain ⟨y1,e1,z1⟩:=k.1 y2;obtain ⟨y0,e0,z0⟩:=h.1 y1;exact ⟨y0,fun q hq=>(e1 q hq).trans (e0 q hq),fun hz=>z1 (z0 hz)⟩
 ·obtain ⟨y1,e1⟩:=h.2 y0;obtain ⟨y2,e2⟩:=k.2 y1;exact ⟨y2,fun q hq=>(e1 q hq).trans (e2 q hq)⟩
theorem Ah7 {r c a b:Nat} {m:Int} {F:Nat->Nat->Int} (ha:a < r) (hb:b < r):APe r c m F (AFt F a b):=by
 by_cases hab:a=b
 ·subst hab
  have:AFt F a a=F:=by
    funext k
    by_cases hk:k=a
    · subst hk;rw [AVr]
    · rw [ATo _ hk hk]
  rw [this];exact APe.refl _ _ _ _
 ·have key:∀ y q,comb r y (AFt F a b) q=comb r (AW2 (AW2 y a (y b)) b (y a)) F q:=by
    intro y q
    unfold AFt
    rw [AUc hb,AUc ha,AD8 _ _ (Ne.symm hab),AUd hb,AUd ha,AIs _ _ (Ne.symm hab)]
    grind
  refine ⟨fun y'=>⟨_,fun q _=>Eqm.of_eq (key y' q),fun hz i hi=>?_⟩,fun y=>⟨AW2 (AW2 y a (y b)) b (y a),fun q _=>Eqm.of_eq ?_⟩⟩
  ·by_cases h1:i=a
   ·subst h1;have:=hz b hb;rw [AHv] at this;exact this
   ·by_cases h2:i=b
    ·subst h2;have:=hz a ha;rw [AIs _ _ hab,AHv] at this;exact this
    ·have:=hz i hi;rw [AIs _ _ h2,AIs _ _ h1] at this;exact this
  ·rw [key];congr 1;funext i;by_cases h1:i=b
   ·subst h1;rw [AHv,AIs _ _ hab,AHv]
   ·rw [AIs _ _ h1];by_cases h2:i=a
    ·subst h2;rw [AHv,AHv]
    ·rw [AIs _ _ h2,AIs _ _ h1,AIs _ _ h2]
theorem Afk {r c a:Nat} {m f g:Int} {F:Nat->Nat->Int} (ha:a < r) (hf:Eqm m (f * g) 1):APe r c m F (AMe F a f m):=by
 have key:∀ y q,Eqm m (comb r y (AMe F a f m) q) (comb r (AW2 y a (y a * f)) F q):=by
   intro y q
   unfold AMe
   rw [AUc ha,AUd ha]
   refine (Eqm.refl _ _).add ?_
   refine ((Eqm.refl m (y a)).mul ((Eqm.mod m _).sub (Eqm.refl _ _))).trans (Eqm.of_eq ?_)
   grind
 refine ⟨fun y'=>⟨_,fun q _=>key y' q,fun hz i hi=>?_⟩,fun y=>⟨AW2 y a (y a * g),fun q _=>((key _ q).trans (Afj fun i hi=>?_)).symm⟩⟩
 ·by_cases h1:i=a
  ·subst h1;have:=hz i ha;rw [AHv] at this;have h2:=this.mul (Eqm.refl m g);refine Eqm.trans ?_ (h2.trans (Eqm.of_eq (by omega)));refine Eqm.trans (Eqm.of_eq (show y' i=y' i * 1 by omega)) (((Eqm.refl m (y' i)).mul hf.symm).trans (Eqm.of_eq ?_));rw [Int.mul_assoc]
  ·have:=hz i hi;rw [AIs _ _ h1] at this;exact this
 ·by_cases h1:i=a
  ·subst h1;rw [AHv,AHv,Int.mul_assoc,Int.mul_comm g f];exact ((Eqm.refl m (y i)).mul hf).trans (Eqm.of_eq (by omega))
  ·rw [AIs _ _ h1,AIs _ _ h1];exact Eqm.refl _ _
theorem Abu {r c k top:Nat} {m e:Int} {F:Nat->Nat->Int} (hk:k < r) (ht:top < r) (hne:k≠top):APe r c m F (ADj F k fun q=>(F k q + e * F top q) % m):=by
 have key:∀ y q,Eqm m (comb r y (ADj F k fun q=>(F k q + e * F top q) % m) q) (comb r (AW2 y top (y top + y k * e)) F q):=by
   intro y q
   rw [AUc hk,AUd ht]
   refine (Eqm.refl _ _).add ?_
   refine ((Eqm.refl m (y k)).mul ((Eqm.mod m _).sub (Eqm.refl _ _))).trans (Eqm.of_eq ?_)
   grind
 refine ⟨fun y'=>⟨_,fun q _=>key y' q,fun hz i hi=>?_⟩,fun y=>⟨AW2 y top (y top - y k * e),fun q _=>((key _ q).trans (Afj fun i hi=>?_)).symm⟩⟩
 ·by_cases h1:i=top
  ·subst h1;have h2:=hz i ht;have h3:=hz k hk;rw [AHv] at h2;rw [AIs _ _ hne] at h3;have h4:=h2.sub (h3.mul (Eqm.refl m e));refine Eqm.trans (Eqm.of_eq ?_) (h4.trans (Eqm.of_eq ?_))
   ·omega
   ·simp
  ·have:=hz i hi;rw [AIs _ _ h1] at this;exact this
 ·by_cases h1:i=top
  ·subst h1;rw [AHv,AHv,AIs _ _ hne];exact Eqm.of_eq (by omega)
  ·rw [AIs _ _ h1,AIs _ _ h1];exact Eqm.refl _ _
theorem Ah8 {r c top j:Nat} {m:Int} {F:Nat->Nat->Int} (ht:top < r):∀ k,k<=r->APe r c m F (AK4 F top j m k):=by
 intro k
 induction k with
 | zero=>intro _;rw [AY9];exact APe.refl _ _ _ _
 | succ k ih=>
   intro hk
   refine (ih (by omega)).trans ?_
   by_cases h:k=top
   · subst h;rw [Ahn];exact APe.refl _ _ _ _
   · rw [<- AZa h]
     have:=Abu (c:=c) (m:=m) (e:=m - F k j) (F:=AK4 F top j m k) (k:=k) (top:=top) (by omega) ht h
     rw [Aeu,AWr] at this
     exact this
theorem Ah9 {F:Nat->Nat->Int} {top j:Nat} {m:Int} {k i:Nat} (hi:i < k) (hne:i≠top) (q:Nat):AK4 F top j m k i q=(F i q + (m - F i j) * F top q) % m:=by
 unfold AK4;rw [if_pos ⟨hi,hne⟩]
end Go.QF
namespace Go.QF
theorem Ao4 {f:Nat->Int} {k r:Nat} (hk:k<=r) (h:∀ i,k<=i->i < r->f i=0):psum f r=psum f k:=by
 induction r with
 | zero=>rw [Nat.le_zero.1 hk]
 | succ r ih=>
   rcases Nat.lt_or_ge k (r + 1) with h1 | h1
   · simp only [psum]
     rw [ih (by omega) (fun i h2 h3=>h i h2 (by omega)),h r (by omega) (by omega)];omega
   · obtain rfl:k=r + 1:=by omega
     rfl
def dl (a b:Nat):Int:=if a=b then 1 else 0
def skp (i a:Nat):Nat:=if a < i then a else a + 1
def usk (i r:Nat):Nat:=if r < i then r else r - 1
def sg (i:Nat):Int:=if i % 2=0 then 1 else -1
theorem Aj0 (i:Nat):sg (i + 1)= -sg i:=by unfold sg;split <;> split <;> first | omega | rfl
theorem Avy (i a:Nat):skp i a≠i:=by unfold skp;split <;> omega
theorem Ao5 {i a n:Nat} (ha:a < n):skp i a < n + 1:=by unfold skp;split <;> omega
theorem Ast {i r:Nat} (h:r≠i):skp i (usk i r)=r:=by
 unfold usk;split <;> (unfold skp;split <;> omega)
theorem Asu {i a r:Nat} (h:skp i a=r):a=usk i r:=by unfold skp at h;unfold usk;split at h <;> split <;> omega
theorem Ao6 {i r n:Nat} (h:r≠i) (hi:i < n + 1) (hr:r < n + 1):usk i r < n:=by unfold usk;split <;> omega
theorem ACs (F:Nat->Nat->Int) (a:Nat) (g:Nat->Int) (i j:Nat):ADj F a g i j=if i=a then g j else F i j:=by
 unfold ADj;split <;> rfl
theorem ALb (F:Nat->Nat->Int) (a b i j:Nat):AFt F a b i j=if i=b then F a j else if i=a then F b j else F i j:=by
 unfold AFt;rw [ACs,ACs]
def AE0 (i:Nat) (F:Nat->Nat->Int):Nat->Nat->Int:=fun a b=>F (skp i a) (b + 1)
def det:Nat->(Nat->Nat->Int)->Int
  | 0,_=>1
  | n + 1,F=>psum (fun i=>sg i * F i 0 * det n (AE0 i F)) (n + 1)
theorem ADe:∀ {n:Nat} {F G:Nat->Nat->Int},(∀ i j,i < n->j < n->F i j=G i j)->det n F=det n G:=by
 intro n
 induction n with
 | zero=>intro _ _ _;rfl
 | succ n ih=>
   intro F G h
   refine ABv fun i hi=>?_
   rw [h i 0 hi (by omega),ih (F:=AE0 i F) (G:=AE0 i G) fun a b ha hb=>h _ _ (Ao5 ha) (by omega)]
theorem ASl {i r:Nat} {F:Nat->Nat->Int} {g:Nat->Int} (h:r≠i):AE0 i (ADj F r g)=ADj (AE0 i F) (usk i r) (fun b=>g (b + 1)):=by
 funext a b;unfold AE0 ADj;by_cases ha:skp i a=r
 ·rw [if_pos ha,if_pos (Asu ha)]
 ·rw [if_neg ha,if_neg (fun he=>ha (by rw [he,Ast h]))]
theorem AS2 {i:Nat} {F:Nat->Nat->Int} {g:Nat->Int}:AE0 i (ADj F i g)=AE0 i F:=by
 funext a b;unfold AE0;rw [AD8 _ _ (Avy i a)]
theorem ASm:∀ {n:Nat} {F:Nat->Nat->Int} {r:Nat} (u v:Nat->Int) (c d:Int),r < n->det n (ADj F r fun q=>c * u q + d * v q)=c * det n (ADj F r u) + d * det n (ADj F r v):=by
 intro n
 induction n with
 | zero=>intro _ _ _ _ _ _ h;omega
 | succ n ih=>
   intro F r u v c d hr
   simp only [det]
   rw [<- ADf,<- ADf,<- AG2]
   refine ABv fun i hi=>?_
   by_cases h:r=i
   · subst h
     simp only [AS2,AC9]
     grind
   · rw [ASl h,ASl h,ASl h,AD8 _ _ (Ne.symm h),AD8 _ _ (Ne.symm h),AD8 _ _ (Ne.symm h),ih (fun b=>u (b + 1)) (fun b=>v (b + 1)) c d (Ao6 h hi hr)]
     grind
theorem AZ0 {f:Nat->Int} {n r s:Nat} (hr:r < n) (hs:s < n) (hrs:r≠s) (h:∀ i,i < n->i≠r->i≠s->f i=0):psum f n=f r + f s:=by
 have h1:psum f n=psum (fun i=>(if i=r then f r else 0) + (if i=s then f s else 0)) n:=ABv fun i hi=>by
   by_cases h1:i=r
   · subst h1;rw [if_pos rfl,if_neg hrs];omega
   · rw [if_neg h1]
     by_cases h2:i=s
     · subst h2;rw [if_pos rfl];omega
     · rw [if_neg h2,h i hi h1 h2];rfl
 rw [h1,AG2,AF1 (f:=fun i=>if i=r then f r else 0) hr (fun i hi=>if_neg hi),AF1 (f:=fun i=>if i=s then f s else 0) hs (fun i hi=>if_neg hi),if_pos rfl,if_pos rfl]
theorem Aj1:∀ {n:Nat} {F:Nat->Nat->Int} {r:Nat},r + 1 < n->(∀ q,q < n->F r q=F (r + 1) q)->det n F=0:=by
 intro n
 induction n with
 | zero=>intro _ _ h;omega
 | succ n ih=>
   intro F r hr h
   simp only [det]
   rw [AZ0 (r:=r) (s:=r + 1) (by omega) (by omega) (by omega)]
   · have:det n (AE0 r F)=det n (AE0 (r + 1) F):=ADe fun a b ha hb=>by
       unfold AE0 skp
       by_cases h1:a < r
       · rw [if_pos h1,if_pos (by omega)]
       · rw [if_neg h1]
         by_cases h2:a < r + 1
         · rw [if_pos h2]
           obtain rfl:a=r:=by omega
           exact (h (b + 1) (by omega)).symm
         · rw [if_neg h2]
     rw [this,Aj0,h 0 (by omega)]
     grind
   · intro i hi h1 h2
     rcases Nat.lt_or_ge i r with hlt | hge
     · rw [ih (F:=AE0 i F) (r:=r - 1) (by omega)]
       · simp
       · intro q hq
         unfold AE0 skp
         rw [if_neg (by omega),if_neg (by omega),show r - 1 + 1=r by omega]
         exact h (q + 1) (by omega)
     · rw [ih (F:=AE0 i F) (r:=r) (by omega)]
       · simp
       · intro q hq
         unfold AE0 skp
         rw [if_pos (by omega),if_pos (by omega)]
         exact h (q + 1) (by omega)
theorem APq {F:Nat->Nat->Int} {a b:Nat} (h:a≠b) (u v:Nat->Int):ADj (ADj F a u) b v=ADj (ADj F b v) a u:=by
 funext k;unfold ADj;by_cases h1:k=a <;> by_cases h2:k=b
 ·omega
 ·simp [h1,h]
 ·simp [h2,Ne.symm h]
 ·simp [h1,h2]
theorem Afl {n:Nat} {F:Nat->Nat->Int} {a b:Nat} (ha:a < n) (hb:b < n) (hab:a≠b) (h0:∀ G:Nat->Nat->Int,G a=G b->det n G=0):det n (AFt F a b)= -det n F:=by
  have key:∀ u v:Nat->Int,det n (ADj (ADj F a u) b v)= -det n (ADj (ADj F a v) b u):=by
    intro u v;have h1:=h0 (ADj (ADj F a fun q=>1 * u q + 1 * v q) b fun q=>1 * u q + 1 * v q) (by rw [AC9,AD8 _ _ hab,AC9]);rw [ASm u v 1 1 hb,APq hab,APq hab,ASm u v 1 1 ha,ASm u v 1 1 ha,APq (Ne.symm hab),APq (Ne.symm hab),APq (Ne.symm hab),APq (Ne.symm hab)] at h1;have h2:=h0 (ADj (ADj F a u) b u) (by rw [AC9,AD8 _ _ hab,AC9]);have h3:=h0 (ADj (ADj F a v) b v) (by rw [AC9,AD8 _ _ hab,AC9]);omega
  unfold AFt;rw [key (F b) (F a),AN1];rw [show ADj F b (F b)=F from AN1 F b]
theorem Aj2:∀ {d n:Nat} {F:Nat->Nat->Int} {a:Nat},a + d + 1 < n->F a=F (a + d + 1)->det n F=0:=by
 intro d
 induction d with
 | zero=>intro n F a hn h;exact Aj1 hn fun q _=>by rw [h]
 | succ d ih=>
   intro n F a hn h
   have h1:=Afl (n:=n) (F:=F) (a:=a + d + 1) (b:=a + d + 1 + 1) (by omega) (by omega) (by omega) fun G hG=>Aj1 (r:=a + d + 1) (by omega) fun q _=>congrFun hG q
   have h2:=ih (n:=n) (F:=AFt F (a + d + 1) (a + d + 1 + 1)) (a:=a) (by omega) (by rw [AT5,ATo _ (by omega) (by omega),h];rfl)
   omega
theorem AM8 {n:Nat} {F:Nat->Nat->Int} {a b:Nat} (ha:a < n) (hb:b < n) (hab:a≠b) (h:F a=F b):det n F=0:=by
 rcases Nat.lt_or_ge a b with hlt | hge
 ·exact Aj2 (d:=b - a - 1) (a:=a) (by omega) (by rw [h];congr 1;omega)
 ·exact Aj2 (d:=a - b - 1) (a:=b) (by omega) (by rw [<- h];congr 1;omega)
theorem AP7 {n:Nat} {F:Nat->Nat->Int} {a b:Nat} (ha:a < n) (hb:b < n) (hab:a≠b):det n (AFt F a b)= -det n F:=
  Afl ha hb hab fun _ h=>AM8 ha hb hab h
theorem Al3 {n:Nat} {F:Nat->Nat->Int} {r:Nat} (u:Nat->Int) (c:Int) (hr:r < n):det n (ADj F r fun q=>c * u q)=c * det n (ADj F r u):=by
 have:=ASm (F:=F) u (fun _=>0) c 0 hr;rw [show (fun q=>c * u q + 0 * (fun _:Nat=>(0:Int)) q)=fun q=>c * u q from by funext q;omega] at this;rw [this];omega
theorem APm {n:Nat} {F:Nat->Nat->Int} {r:Nat} (hr:r < n) (h:∀ q,q < n->F r q=0):det n F=0:=by
 have:=Al3 (F:=F) (F r) 0 hr;rw [Int.zero_mul] at this;rw [<- this]
 exact ADe fun i j hi hj=>by
   unfold ADj
   split
   · rename_i he;subst he;rw [h j hj];simp
   · rfl
theorem AIu {n:Nat} {F:Nat->Nat->Int} {a b:Nat} (ha:a < n) (hb:b < n) (hab:a≠b) (q:Int):det n (ADj F a fun x=>F a x + q * F b x)=det n F:=by
 have:=ASm (F:=F) (F a) (F b) 1 q ha;rw [AN1,AM8 (F:=ADj F a (F b)) ha hb hab (by rw [AC9,AD8 _ _ (Ne.symm hab)])] at this;rw [show (fun x=>F a x + q * F b x)=fun x=>1 * F a x + q * F b x from by funext x;omega,this];omega
theorem AZ1 {n:Nat} {F:Nat->Nat->Int} {r:Nat} (hr:r < n) (y:Nat->Int) (u:Nat->Nat->Int):∀ t,det n (ADj F r fun q=>psum (fun k=>y k * u k q) t)=psum (fun k=>y k * det n (ADj F r (u k))) t:=by
 intro t
 induction t with
 | zero=>exact APm hr fun q _=>by rw [AC9];rfl
 | succ t ih=>
   have:=ASm (F:=F) (fun q=>psum (fun k=>y k * u k q) t) (u t) 1 (y t) hr
   simp only [psum]
   rw [<- ih,show (fun q=>psum (fun k=>y k * u k q) t + y t * u t q)=fun q=>1 * psum (fun k=>y k * u k q) t + y t * u t q from by funext q;omega,this];omega
theorem Ao7 {n:Nat} {F:Nat->Nat->Int} {r:Nat} (hr:r < n) (y:Nat->Int):det n (ADj F r fun q=>psum (fun k=>y k * F k q) n)=y r * det n F:=by
  rw [AZ1 hr y F n,ABv (g:=fun k=>if k=r then y r * det n F else 0),AF1 hr (fun i hi=>if_neg hi),if_pos rfl];intro k hk
  by_cases h:k=r
  · subst h;rw [if_pos rfl,AN1]
  · rw [if_neg h,AM8 (F:=ADj F r (F k)) hr hk (Ne.symm h) (by rw [AC9,AD8 _ _ h])];simp
def AGx (f:Nat->Int):Nat->Int
  | 0=>1
  | n + 1=>AGx f n * f n
theorem AXp (f:Nat->Int) (n:Nat):AGx f (n + 1)=f 0 * AGx (fun i=>f (i + 1)) n:=by
 induction n with
 | zero=>simp [AGx]
 | succ n ih=>rw [AGx,ih,AGx];grind
theorem AXq {f g:Nat->Int} {n:Nat} (h:∀ i,i < n->f i=g i):AGx f n=AGx g n:=by
 induction n with
 | zero=>rfl
 | succ n ih=>rw [AGx,AGx,ih (fun i hi=>h i (by omega)),h n (by omega)]
theorem ARp:∀ {n:Nat} {F:Nat->Nat->Int},Zc n F n->det n F=AGx (fun i=>F i i) n:=by
 intro n
 induction n with
 | zero=>intro _ _;rfl
 | succ n ih=>
   intro F h
   rw [AXp,det,ABv (g:=fun i=>if i=0 then F 0 0 * det n (AE0 0 F) else 0),AF1 (a:=0) (by omega) (fun i hi=>if_neg hi),if_pos rfl]
   · rw [ih (F:=AE0 0 F) (fun c' i h1 h2 h3=>by unfold AE0 skp;rw [if_neg (by omega)];exact h (c' + 1) (i + 1) (by omega) (by omega) (by omega))]
     rfl
   · intro i hi
     by_cases h0:i=0
     · subst h0;simp [sg]
     · rw [if_neg h0,h 0 i (by omega) (by omega) hi];simp
theorem Abv:∀ {n:Nat} {F:Nat->Nat->Int},(∀ i j,i < j->j < n->F i j=0)->det n F=AGx (fun i=>F i i) n:=by
 intro n
 induction n with
 | zero=>intro _ _;rfl
 | succ n ih=>
   intro F h
   rw [AXp,det,ABv (g:=fun i=>if i=0 then F 0 0 * det n (AE0 0 F) else 0),AF1 (a:=0) (by omega) (fun i hi=>if_neg hi),if_pos rfl]
   · rw [ih (F:=AE0 0 F) (fun i j h1 h2=>by unfold AE0 skp;rw [if_neg (by omega)];exact h (i + 1) (j + 1) (by omega) (by omega))]
     rfl
   · intro i hi
     by_cases h0:i=0
     · subst h0;simp [sg]
     · rw [if_neg h0,APm (F:=AE0 i F) (r:=0) (by omega) (fun q hq=>by unfold AE0 skp;rw [if_pos (by omega)];exact h 0 (q + 1) (by omega) (by omega))];simp
def AUy (F:Nat->Nat->Int) (c i:Nat) (q:Int):Nat->Nat->Int:=AFt (ADj F c fun x=>F c x + -q * F i x) c i
theorem Aj3 (F:Nat->Nat->Int) {c i:Nat} (q:Int):AUy F c i q i=fun x=>F c x + -q * F i x:=by
 unfold AUy;rw [AVr,AC9]
theorem Asv (F:Nat->Nat->Int) {c i:Nat} (h:c≠i) (q:Int):AUy F c i q c=F i:=by
 unfold AUy;rw [AT5,AD8 _ _ (Ne.symm h)]
theorem Afm (F:Nat->Nat->Int) {c i k:Nat} (hc:k≠c) (hi:k≠i) (q:Int):AUy F c i q k=F k:=by
 unfold AUy;rw [ATo _ hc hi,AD8 _ _ hc]
theorem Ao8 {n:Nat} {F:Nat->Nat->Int} {c i:Nat} {q:Int} (H:Zc n F c) (hci:c < i) (hi:i < n):Zc n (AUy F c i q) c:=by
 intro c' k h1 h2 h3;by_cases hk:k=i
 ·subst hk;rw [Aj3];simp [H c' c h1 h1 (by omega),H c' k h1 h2 h3]
 ·by_cases Ad:k=c
  ·subst Ad;rw [Asv F hk];exact H c' i h1 (by omega) hi
  ·rw [Afm F Ad hk];exact H c' k h1 h2 h3
theorem Ao9 {F:Nat->Nat->Int} {c i:Nat} {q:Int} (H:Zi F c i):Zi (AUy F c i q) c i:=by
 intro k h1 h2;rw [Afm F (by omega) (by omega)];exact H k h1 h2
theorem Aj4 {n:Nat} {P:(Nat->Nat->Int)->Prop} (hadd:∀ F a b q,a < n->b < n->a≠b->P (ADj F a fun x=>F a x + q * F b x)->P F) (hswap:∀ F a b,a < n->b < n->a≠b->P (AFt F a b)->P F) (htri:∀ F,Zc n F n->P F):∀ F,P F:=by
  have key:∀ d c,c + d=n-> ∀ F,Zc n F c->P F:=by
    intro d;induction d with
    | zero=>
        intro c hc F hF;obtain rfl:c=n:=by omega
        exact htri F hF
    | succ d ih=>
      intro c hc
      have inner:∀ e i,i + e=n->c < i-> ∀ F,Zc n F c->Zi F c i->P F:=by
        intro e;induction e with
        | zero=>
            intro i hi hci F hF hz;obtain rfl:i=n:=by omega
            exact ih (c + 1) (by omega) F (Acz hF hz)
        | succ e ihe=>
          intro i hi hci
          have strong:∀ k F,(F i c).natAbs=k->Zc n F c->Zi F c i->P F:=by
            intro k;induction k using Nat.strongRecOn with
            | _ k ihk=>
              intro F hk hF hz
              by_cases h0:F i c=0
              · exact ihe (i + 1) (by omega) (by omega) F hF (Acy hz h0)
              · refine hadd F c i (-(F c c / F i c)) (by omega) (by omega) (by omega) (hswap _ c i (by omega) (by omega) (by omega) ?_);refine ihk ((AUy F c i (F c c / F i c)) i c).natAbs ?_ (AUy F c i (F c c / F i c)) rfl (Ao8 hF hci (by omega)) (Ao9 hz);rw [Aj3,<- hk];show (F c c + -(F c c / F i c) * F i c).natAbs < _;have h1:=Int.mul_ediv_add_emod (F c c) (F i c);have h2:F c c + -(F c c / F i c) * F i c=F c c % F i c:=by grind
                rw [h2];have h3:=Int.emod_nonneg (F c c) h0;have h4:=Int.emod_lt (F c c) h0;omega
          exact fun F=>strong _ F rfl
      exact fun F hF=>inner (n - (c + 1)) (c + 1) (by omega) (by omega) F hF fun k h1 h2=>by omega
  exact fun F=>key n 0 (by omega) F fun c' i h=>by omega
def AE9 (n:Nat) (A B:Nat->Nat->Int):Nat->Nat->Int:=fun i j=>psum (fun k=>A i k * B k j) n
theorem Apa {n:Nat} {A B:Nat->Nat->Int} {a b:Nat} {q:Int}:AE9 n (ADj A a fun x=>A a x + q * A b x) B=ADj (AE9 n A B) a fun x=>AE9 n A B a x + q * AE9 n A B b x:=by
 funext i j;unfold AE9 ADj;by_cases h:i=a
 ·simp only [if_pos h];rw [<- ADf,<- AG2];exact ABv fun k _=>by grind
 ·simp only [if_neg h]
theorem Afn {n:Nat} {A B:Nat->Nat->Int} {a:Nat} {u:Nat->Int}:AE9 n (ADj A a u) B=ADj (AE9 n A B) a fun x=>psum (fun k=>u k * B k x) n:=by
 funext i j;unfold AE9 ADj;by_cases h:i=a
 ·simp only [if_pos h]
 ·simp only [if_neg h]
theorem Al4 {n:Nat} {A B:Nat->Nat->Int} {a b:Nat}:AE9 n (AFt A a b) B=AFt (AE9 n A B) a b:=by
 unfold AFt;rw [Afn,Afn];rfl
theorem AV4 {n:Nat} (A B:Nat->Nat->Int):det n (AE9 n A B)=det n A * det n B:=by
 refine Aj4 (n:=n) (P:=fun A=>det n (AE9 n A B)=det n A * det n B) (fun F a b q ha hb hab h=>?_) (fun F a b ha hb hab h=>?_) (fun F hF=>?_) A
 ·rw [Apa,AIu ha hb hab,AIu ha hb hab] at h;exact h
 ·rw [Al4,AP7 ha hb hab,AP7 ha hb hab] at h;rw [Int.neg_mul] at h;omega
 ·rw [ARp hF]
  have key:∀ j,j<=n->det n (fun i=>if i < j then AE9 n F B i else B i)=AGx (fun i=>F i i) j * det n B:=by
    intro j
    induction j with
    | zero=>intro _;simp [AGx]
    | succ j ih=>
      intro hj
      rw [AGx,Int.mul_assoc,Int.mul_comm (F j j),<- Int.mul_assoc,<- ih (by omega),Int.mul_comm]
      rw [<- Ao7 (F:=fun i=>if i < j then AE9 n F B i else B i) (r:=j) (by omega) (F j)]
      refine ADe fun i q hi hq=>?_
      unfold ADj
      by_cases h:i=j
      · subst h
        simp only [if_pos (Nat.lt_succ_self i),if_pos]
        unfold AE9
        refine ABv fun k hk=>?_
        by_cases hlt:k < i
        · rw [hF k i (by omega) hlt hi];simp
        · rw [if_neg hlt]
      · simp only [if_neg h]
        by_cases hlt:i < j
        · rw [if_pos hlt,if_pos (by omega)]
        · rw [if_neg hlt,if_neg (by omega)]
  rw [<- key n (Nat.le_refl _)];exact ADe fun i j hi hj=>by rw [if_pos hi]
def trF (F:Nat->Nat->Int):Nat->Nat->Int:=fun i j=>F j i
theorem Aia (n:Nat):det n dl=1:=by
 rw [ARp (fun c' i h1 h2 h3=>by unfold dl;rw [if_neg (by omega)])]
 have:∀ k,AGx (fun i=>dl i i) k=1:=by
   intro k
   induction k with
   | zero=>rfl
   | succ k ih=>rw [AGx,ih];simp [dl]
 exact this n
theorem Aib {n:Nat} {F:Nat->Nat->Int} {i j:Nat} (hj:j < n):psum (fun k=>F i k * dl k j) n=F i j:=by
 rw [AF1 hj (fun k hk=>by unfold dl;rw [if_neg hk];simp)];simp [dl]
theorem Aic {n:Nat} {F:Nat->Nat->Int} {a:Nat} (y:Nat->Int) (ha:a < n):det n (trF (ADj F a fun x=>psum (fun k=>y k * F k x) n))=det n (trF F) * det n (trF (ADj dl a y)):=by
  rw [<- AV4];refine ADe fun i j hi hj=>?_;unfold AE9 trF ADj
  by_cases h:j=a
  · simp only [if_pos h];exact ABv fun k _=>by grind
  · simp only [if_neg h];rw [AF1 hj (fun k hk=>by unfold dl;rw [if_neg (Ne.symm hk)];simp)];simp [dl]
theorem AMz {n:Nat} (F:Nat->Nat->Int):det n (trF F)=det n F:=by
 refine Aj4 (n:=n) (P:=fun F=>det n (trF F)=det n F) (fun F a b q ha hb hab h=>?_) (fun F a b ha hb hab h=>?_) (fun F hF=>?_) F
 ·rw [AIu ha hb hab] at h;rw [<- h];have h1:=Aic (n:=n) (F:=F) (a:=a) (fun k=>dl k a + q * dl k b) ha
  have h2:det n (trF (ADj dl a fun k=>dl k a + q * dl k b))=1:=by
    rw [<- Aia n,<- AIu (F:=dl) hb ha (Ne.symm hab) q]
    refine ADe fun i j hi hj=>?_
    clear h1 h
    simp only [trF,ACs,dl]
    grind
  rw [h2,Int.mul_one] at h1;rw [<- h1];refine ADe fun i j hi hj=>?_;unfold trF ADj;by_cases hja:j=a
  ·simp only [if_pos hja];rw [ABv (g:=fun k=>F k i * dl k a + q * (F k i * dl k b)) (fun k _=>by grind),AG2,ADf];rw [AF1 (a:=a) ha (fun k hk=>by unfold dl;rw [if_neg hk];simp),AF1 (a:=b) hb (fun k hk=>by unfold dl;rw [if_neg hk];simp)];simp [dl]
  ·simp only [if_neg hja]
 ·rw [AP7 ha hb hab] at h
  have h1:det n (trF (AFt F a b))=det n (trF F) * det n (AFt dl a b):=by
    rw [<- AV4]
    refine ADe fun i j hi hj=>?_
    unfold AE9 trF
    have hsym:∀ k,AFt dl a b k j=if j=a then dl k b else if j=b then dl k a else dl k j:=by
      intro k
      simp only [ALb,dl]
      grind
    rw [ABv (g:=fun k=>F k i * dl k (if j=a then b else if j=b then a else j)) (fun k _=>by rw [hsym];grind)]
    rw [AF1 (a:=if j=a then b else if j=b then a else j) (by grind) (fun k hk=>by unfold dl;rw [if_neg hk];simp)]
    simp only [dl,if_pos,Int.mul_one]
    by_cases h3:j=a
    · subst h3;rw [AT5,if_pos rfl]
    · rw [if_neg h3]
      by_cases h4:j=b
      · subst h4;rw [AVr,if_pos rfl]
      · rw [ATo _ h3 h4,if_neg h4]
  rw [AP7 ha hb hab,Aia] at h1;omega
 ·rw [ARp hF,Abv (F:=trF F) (fun i j h1 h2=>hF i j (by omega) h1 h2)];rfl
def shF (k:Nat) (F:Nat->Nat->Int):Nat->Nat->Int:=fun i j=>F (k + i) (k + j)
theorem Abw {i k a:Nat} (h:i < k + 1):skp i (k + a)=k + 1 + a:=by unfold skp;rw [if_neg (by omega)];omega
theorem AW3:∀ {k m:Nat} {T:Nat->Nat->Int},(∀ i j,k<=i->i < k + m->j < k->T i j=0)->det (k + m) T=det k T * det m (shF k T):=by
  intro k;induction k with
  | zero=>
    intro m T _;have e:shF 0 T=T:=by funext i j;simp [shF]
    rw [e,Nat.zero_add];simp [det]
  | succ k ih=>
    intro m T h;rw [show k + 1 + m=(k + m) + 1 by omega];simp only [det];rw [Ao4 (k:=k + 1) (by omega) (fun i h1 h2=>by rw [h i 0 h1 (by omega) (by omega)];simp)];rw [Int.mul_comm,<- ADf];refine ABv fun i hi=>?_
    rw [ih (T:=AE0 i T) (m:=m) (fun a b ha ha2 hb=>by
      obtain ⟨c,rfl⟩:∃ c,a=k + c:=⟨a - k,by omega⟩;unfold AE0;rw [Abw hi];exact h _ _ (by omega) (by omega) (by omega))]
    have e:shF k (AE0 i T)=shF (k + 1) T:=by
      funext a b;unfold shF AE0;rw [Abw hi,show k + b + 1=k + 1 + b by omega]
    rw [e];grind
theorem Ado {n:Nat} {F:Nat->Nat->Int} (h:∀ i,i < n + 1->F i 0=0):det (n + 1) F=0:=by
 simp only [det];rw [ABv (g:=fun _=>0) fun i hi=>by rw [h i hi];simp];exact AKd _
theorem Afo {n:Nat} {F:Nat->Nat->Int} {a b:Nat} (ha:a < n) (hb:b < n) (hab:a≠b) (h:∀ i,F i a=F i b):det n F=0:=by
 rw [<- AMz];exact AM8 ha hb hab (by funext i;exact h i)
theorem Asw (F:Nat->Nat->Int):det 2 F=F 0 0 * F 1 1 - F 1 0 * F 0 1:=by
 simp [det,psum,AE0,skp,sg];grind
def bro (k i r:Nat):Nat:=if r < k then r else i
def Mn (k:Nat) (A:Nat->Nat->Int) (i j:Nat):Int:=det (k + 1) fun r c=>A (bro k i r) (bro k j c)
theorem AOe (A:Nat->Nat->Int) (i j:Nat):Mn 0 A i j=A i j:=by
 simp [Mn,det,psum,bro,sg]
theorem AL2 (k:Nat) (A:Nat->Nat->Int):Mn k A k k=det (k + 1) A:=by
 refine ADe fun r c hr hc=>?_;have e:∀ r,r < k + 1->bro k k r=r:=fun r hr=>by unfold bro;split <;> omega
 rw [e r hr,e c hc]
theorem Aut {k:Nat} (A:Nat->Nat->Int) (i:Nat) {j:Nat} (hj:j < k):Mn k A i j=0:=by
 refine Afo (a:=j) (b:=k) (by omega) (by omega) (by omega) fun r=>?_;unfold bro;simp [hj]
def cof (k:Nat) (A:Nat->Nat->Int) (i s:Nat):Int:=det (k + 1) (ADj (fun c r=>A (bro k i r) c) k (dl s))
theorem Adp {n:Nat} (f:Nat->Int) {q:Nat} (hq:q < n):psum (fun s=>f s * dl s q) n=f q:=by
 rw [AF1 hq (fun i hi=>by unfold dl;rw [if_neg hi,Int.mul_zero])];simp [dl]
theorem Avz (k:Nat) (A:Nat->Nat->Int) (i j:Nat):Mn k A i j=psum (fun s=>cof k A i s * A s j) k + det k A * A i j:=by
 have h1:Mn k A i j=det (k + 1) (ADj (fun c r=>A (bro k i r) c) k fun q=>psum (fun s=>A (bro k i s) j * dl s q) (k + 1)):=by
   unfold Mn
   rw [<- AMz]
   refine ADe fun c r hc hr=>?_
   rw [ACs,Adp _ hr]
   unfold trF
   split
   · subst_vars;simp [bro]
   · have:c < k:=by omega
     simp [bro,this]
 rw [h1,AZ1 (by omega)]
 have hk:det (k + 1) (ADj (fun c r=>A (bro k i r) c) k (dl k))=det k A:=by
   rw [AW3 (k:=k) (m:=1) (T:=ADj (fun c r=>A (bro k i r) c) k (dl k)) (fun a b h1 h2 h3=>by
     obtain rfl:a=k:=by omega
     rw [ACs,if_pos rfl];unfold dl;rw [if_neg (by omega)])]
   have e1:det k (ADj (fun c r=>A (bro k i r) c) k (dl k))=det k A:=by
     rw [<- AMz]
     refine ADe fun r c hr hc=>?_
     unfold trF
     rw [ACs,if_neg (by omega)]
     simp [bro,hr]
   have e2:det 1 (shF k (ADj (fun c r=>A (bro k i r) c) k (dl k)))=1:=by
     simp [det,psum,shF,sg,ACs,dl]
   rw [e1,e2,Int.mul_one]
 show psum (fun s=>A (bro k i s) j * det (k + 1) (ADj (fun c r=>A (bro k i r) c) k (dl s))) k + A (bro k i k) j * det (k + 1) (ADj (fun c r=>A (bro k i r) c) k (dl k))=_;rw [hk];congr 1
 ·refine ABv fun s hs=>?_;show _=cof k A i s * A s j;unfold cof;rw [Int.mul_comm];simp [bro,hs]
 ·simp [bro,Int.mul_comm]
theorem Afp (f:Nat->Int) (k m:Nat):AGx f (k + m)=AGx f k * AGx (fun i=>f (k + i)) m:=by
 induction m with
 | zero=>simp [AGx]
 | succ m ih=>rw [<- Nat.add_assoc];simp only [AGx];rw [ih];grind
theorem Abx {f:Nat->Int}:∀ {n:Nat},(∀ i,i < n->f i=1)->AGx f n=1
  | 0,_=>rfl
  | n + 1,h=>by rw [AGx,Abx fun i hi=>h i (by omega),h n (by omega)];rfl
theorem Afq {f:Nat->Int}:∀ {n:Nat},(∀ i,i < n->f i≠0)->AGx f n≠0
  | 0,_=>by simp [AGx]
  | n + 1,h=>by rw [AGx];exact Int.mul_ne_zero (Afq fun i hi=>h i (by omega)) (h n (by omega))
def ATb (k:Nat) (A:Nat->Nat->Int) (ρ:Nat->Nat):Nat->Nat->Int:=fun r s=>if r < k then dl r s else if s < k then cof k A (ρ r) s else if s=r then det k A else 0
theorem Afr {k n:Nat} {A B:Nat->Nat->Int} {ρ γ:Nat->Nat} (hkn:k<=n) (hρ:∀ r,r < k->ρ r=r) (hB:∀ r c,B r c=A (ρ r) (γ c)) {r c:Nat} (hr:r < n):AE9 n (ATb k A ρ) B r c=if r < k then B r c else Mn k A (ρ r) (γ c):=by
 unfold AE9;by_cases h:r < k
 ·rw [if_pos h,AF1 hr (fun i hi=>by unfold ATb;rw [if_pos h];unfold dl;rw [if_neg (fun e=>hi e.symm),Int.zero_mul])];unfold ATb;rw [if_pos h];simp [dl]
 ·rw [if_neg h,Avz];obtain ⟨m,rfl⟩:∃ m,n=k + m:=⟨n - k,by omega⟩
  have hs:∀ t,psum (fun s=>ATb k A ρ r s * B s c) (k + t)=psum (fun s=>cof k A (ρ r) s * A s (γ c)) k + (if r < k + t then det k A * A (ρ r) (γ c) else 0):=by
    intro t
    induction t with
    | zero=>
      rw [if_neg (by omega),Int.add_zero,Nat.add_zero]
      refine ABv fun s hs=>?_
      unfold ATb
      rw [if_neg h,if_pos hs,hB,hρ s hs]
    | succ t ih=>
      show psum (fun s=>ATb k A ρ r s * B s c) (k + t) + ATb k A ρ r (k + t) * B (k + t) c=_
      rw [ih]
      have e:ATb k A ρ r (k + t)=if k + t=r then det k A else 0:=by unfold ATb;rw [if_neg h,if_neg (by omega)]
      rw [e,hB]
      rcases Nat.lt_trichotomy r (k + t) with h1 | h1 | h1
      · rw [if_pos h1,if_neg (by omega),if_pos (by omega)];simp
      · subst h1;rw [if_neg (by omega),if_pos rfl,if_pos (by omega)];omega
      · rw [if_neg (by omega),if_neg (by omega),if_neg (by omega)];simp
  rw [hs,if_pos hr]
theorem Afs {k m:Nat} {A:Nat->Nat->Int} {ρ:Nat->Nat}:det (k + m) (ATb k A ρ)=AGx (fun _=>det k A) m:=by
 rw [Abv (fun i j hij hj=>by
   unfold ATb
   split
   · unfold dl;rw [if_neg (by omega)]
   · rw [if_neg (by omega),if_neg (by omega)]),Afp,Abx,Int.one_mul]
 ·refine AXq fun i hi=>?_;unfold ATb;rw [if_neg (by omega),if_neg (by omega),if_pos rfl]
 ·intro i hi;unfold ATb;rw [if_pos hi];simp [dl]
theorem AYf {k:Nat} {A:Nat->Nat->Int} (h0:det k A≠0) (i j:Nat):Mn k A k k * Mn k A i j - Mn k A i k * Mn k A k j=det k A * Mn (k + 1) A i j:=by
  have h1:=AV4 (n:=k + 2) (ATb k A (bro (k + 1) i)) fun r c=>A (bro (k + 1) i r) (bro (k + 1) j c)
  have hm:∀ r c,r < k + 2->AE9 (k + 2) (ATb k A (bro (k + 1) i)) (fun r c=>A (bro (k + 1) i r) (bro (k + 1) j c)) r c=if r < k then A (bro (k + 1) i r) (bro (k + 1) j c) else Mn k A (bro (k + 1) i r) (bro (k + 1) j c):=fun r c hr=>
    Afr (k:=k) (n:=k + 2) (A:=A) (B:=fun r c=>A (bro (k + 1) i r) (bro (k + 1) j c)) (ρ:=bro (k + 1) i) (γ:=bro (k + 1) j) (by omega) (fun r hr=>by unfold bro;rw [if_pos (by omega)]) (fun r c=>rfl) hr
  rw [Afs,AW3 (k:=k) (m:=2) (fun a b ha ha2 hb=>by
    rw [hm a b ha2,if_neg (by omega),show bro (k + 1) j b=b by unfold bro;rw [if_pos (by omega)]];exact Aut _ _ hb)] at h1
  have e1:det k (AE9 (k + 2) (ATb k A (bro (k + 1) i)) fun r c=>A (bro (k + 1) i r) (bro (k + 1) j c))=det k A:=by
    refine ADe fun r c hr hc=>?_;rw [hm r c (by omega),if_pos hr];simp only [bro];rw [if_pos (by omega),if_pos (by omega)]
  have b0:∀ q,bro (k + 1) q (k + 0)=k:=fun q=>by unfold bro;rw [if_pos (by omega)];rfl
  have b1:∀ q,bro (k + 1) q (k + 1)=q:=fun q=>by unfold bro;rw [if_neg (by omega)]
  rw [e1,Asw] at h1;simp only [shF] at h1;rw [hm _ _ (by omega),hm _ _ (by omega),hm _ _ (by omega),hm _ _ (by omega),if_neg (by omega),if_neg (by omega),if_neg (by omega),if_neg (by omega),b0,b0,b1,b1] at h1;have e2:AGx (fun _=>det k A) 2=det k A * det k A:=by simp [AGx]
  have e3:(det (k + 2) fun r c=>A (bro (k + 1) i r) (bro (k + 1) j c))=Mn (k + 1) A i j:=rfl;rw [e2,e3,Int.mul_assoc] at h1;exact Int.eq_of_mul_eq_mul_left h0 h1
theorem Aft {k n:Nat} {A:Nat->Nat->Int} (h0:det k A≠0) (hk:k < n) (hz:∀ i,k<=i->i < n->Mn k A i k=0):det n A=0:=by
  obtain ⟨m,rfl⟩:∃ m,n=k + (m + 1):=⟨n - k - 1,by omega⟩;have h1:=AV4 (n:=k + (m + 1)) (ATb k A id) A
  have hm:∀ r c,r < k + (m + 1)->AE9 (k + (m + 1)) (ATb k A id) A r c=if r < k then A r c else Mn k A r c:=fun r c hr=>
    Afr (k:=k) (n:=k + (m + 1)) (A:=A) (B:=A) (ρ:=id) (γ:=id) (by omega) (fun r hr=>rfl) (fun r c=>rfl) hr
  rw [Afs,AW3 (k:=k) (m:=m + 1) (fun a b ha ha2 hb=>by rw [hm a b ha2,if_neg (by omega)];exact Aut _ _ hb),Ado (F:=shF k _) (fun i hi=>by
    unfold shF;rw [hm _ _ (by omega),if_neg (by omega)];exact hz _ (by omega) (by omega)),Int.mul_zero] at h1
  rcases Int.mul_eq_zero.1 h1.symm with h2 | h2
  · exact absurd h2 (Afq fun i hi=>h0)
  · exact h2
def dBd (m:Nat):Nat->Nat
  | 0=>1
  | n + 1=>(n + 1) * m * dBd m n
theorem psum_abs {f:Nat->Int} {B:Nat}:∀ {n:Nat},(∀ i,i < n->(f i).natAbs<=B)->(psum f n).natAbs<=n * B
  | 0,_=>by simp [psum]
  | n + 1,h=>by
    have h1:=psum_abs (n:=n) fun i hi=>h i (by omega)
    have h2:=h n (by omega)
    have h3:=Int.natAbs_add_le (psum f n) (f n)
    show (psum f n + f n).natAbs<=_
    rw [Nat.add_mul,Nat.one_mul]
    omega
theorem AYg {m:Nat}:∀ {n:Nat} {F:Nat->Nat->Int},(∀ i j,(F i j).natAbs<=m)->(det n F).natAbs<=dBd m n
  | 0,_,_=>by simp [det,dBd]
  | n + 1,F,h=>by
    have h1:=psum_abs (f:=fun i=>sg i * F i 0 * det n (AE0 i F)) (B:=m * dBd m n) (n:=n + 1) fun i hi=>by
      have e:=AYg (n:=n) (F:=AE0 i F) fun a b=>h _ _
      have es:(sg i).natAbs=1:=by unfold sg;split <;> rfl
      rw [Int.natAbs_mul,Int.natAbs_mul,es,Nat.one_mul]
      exact Nat.mul_le_mul (h i 0) e
    rw [dBd,Nat.mul_assoc]
    exact h1
theorem Asx {k n p:Nat} {A:Nat->Nat->Int} (hp:k < p) {i j:Nat} (hi:k<=i):Mn k (AFt A p k) i j=Mn k A (if i=k then p else if i=p then k else i) j:=by
 refine ADe fun r c hr hc=>?_;rw [ALb];unfold bro;by_cases h:r < k
 ·rw [if_pos h,if_pos h,if_neg (by omega),if_neg (by omega)]
 ·rw [if_neg h,if_neg h];split
  ·rfl
  ·split <;> rfl
theorem Adq {k p:Nat} {A:Nat->Nat->Int} (hp:k < p):det k (AFt A p k)=det k A:=by
 refine ADe fun r c hr hc=>?_;rw [ALb,if_neg (by omega),if_neg (by omega)]
def sgB (neg:Bool):Int:=if neg then -1 else 1
def AW4 (m:Nat) (A0:Nat->Nat->Int) (n k:Nat) (F:Nat->Nat->Int) (last:Int) (neg:Bool):Prop:=
  ∃ A:Nat->Nat->Int,det n A=sgB neg * det n A0/\(∀ i j,k<=i->i < n->k<=j->j < n->F i j=Mn k A i j)/\last=det k A/\last≠0/\ ∀ i j,(A i j).natAbs<=m
theorem Aid {m n:Nat} {A0:Nat->Nat->Int} (h:∀ i j,(A0 i j).natAbs<=m):AW4 m A0 n 0 A0 1 false:=
  ⟨A0,by simp [sgB],fun i j _ _ _ _=>(AOe A0 i j).symm,rfl,by decide,h⟩
theorem Al5 {m n k p:Nat} {A0 F:Nat->Nat->Int} {last:Int} {neg:Bool} (H:AW4 m A0 n k F last neg) (hkp:k < p) (hp:p < n):AW4 m A0 n k (AFt F p k) last (!neg):=by
 obtain ⟨A,h1,h2,h3,h4,h5⟩:=H;refine ⟨AFt A p k,?_,fun i j hi hin hj hjn=>?_,by rw [Adq hkp];exact h3,h4,fun i j=>?_⟩
 ·rw [AP7 hp (by omega) (by omega),h1];cases neg <;> simp [sgB]
 ·rw [Asx (n:=n) hkp hi,ALb];split
  ·rw [h2 p j (by omega) hp hj hjn]
  ·split
   ·rw [h2 k j (by omega) (by omega) hj hjn]
   ·rw [h2 i j hi hin hj hjn]
 ·rw [ALb];split
  ·exact h5 _ _
  ·split <;> exact h5 _ _
def bQ (k:Nat) (F:Nat->Nat->Int) (last:Int) (r c:Nat):Int:=(F k k * F r c - F r k * F k c) / last
def bF (k:Nat) (F:Nat->Nat->Int) (last:Int) (i j:Nat):Nat->Nat->Int:=fun r c=>if k < r/\k < c/\(r < i∨r=i/\c < j) then bQ k F last r c else F r c
theorem Apc (k:Nat) (F:Nat->Nat->Int) (last:Int):bF k F last (k + 1) (k + 1)=F:=by
 funext r c;unfold bF;rw [if_neg (by omega)]
theorem Av1 (k n:Nat) (F:Nat->Nat->Int) (last:Int) (i:Nat) {r c:Nat} (hc:c < n):bF k F last i n r c=bF k F last (i + 1) (k + 1) r c:=by
 unfold bF;by_cases h:k < r/\k < c/\(r < i∨r=i/\c < n)
 ·rw [if_pos h,if_pos (by omega)]
 ·rw [if_neg h,if_neg (by omega)]
theorem Av2 (k:Nat) (F:Nat->Nat->Int) (last:Int) {i j:Nat} (hi:k < i) (hj:k < j):(ADj (bF k F last i j) i fun c=>if c=j then bQ k F last i j else bF k F last i j i c)=bF k F last i (j + 1):=by
 funext r c;rw [ACs];split
 ·subst_vars
  split
  ·subst_vars;unfold bF;rw [if_pos (by omega)]
  ·unfold bF;by_cases h:k < r/\k < c/\(r < r∨r=r/\c < j)
   ·rw [if_pos h,if_pos (by omega)]
   ·rw [if_neg h,if_neg (by omega)]
 ·unfold bF;by_cases h:k < r/\k < c/\(r < i∨r=i/\c < j)
  ·rw [if_pos h,if_pos (by omega)]
  ·rw [if_neg h,if_neg (by omega)]
theorem Apd (k:Nat) (F:Nat->Nat->Int) (last:Int) (i j c:Nat):bF k F last i j k c=F k c:=by unfold bF;rw [if_neg (by omega)]
theorem Axo (k:Nat) (F:Nat->Nat->Int) (last:Int) (i j r:Nat):bF k F last i j r k=F r k:=by unfold bF;rw [if_neg (by omega)]
theorem Axp (k:Nat) (F:Nat->Nat->Int) (last:Int) (i j:Nat):bF k F last i j i j=F i j:=by unfold bF;rw [if_neg (by omega)]
theorem Auu {m n k:Nat} {A0 F:Nat->Nat->Int} {last:Int} {neg:Bool} (H:AW4 m A0 n k F last neg) (hk:k < n):∃ A,(∀ i j,(A i j).natAbs<=m)/\det n A=sgB neg * det n A0/\F k k=det (k + 1) A/\ ∀ i j,k<=i->i < n->k<=j->j < n->F i j=Mn k A i j/\bQ k F last i j=Mn (k + 1) A i j:=by
 obtain ⟨A,h1,h2,h3,h4,h5⟩:=H;refine ⟨A,h5,h1,by rw [h2 k k (by omega) hk (by omega) hk,AL2],fun i j hi hin hj hjn=>⟨h2 i j hi hin hj hjn,?_⟩⟩;unfold bQ;rw [h2 k k (by omega) hk (by omega) hk,h2 i j hi hin hj hjn,h2 i k hi hin (by omega) hk,h2 k j (by omega) hk hj hjn,AYf (by rw [<- h3];exact h4),<- h3,Int.mul_ediv_cancel_left _ h4]
theorem Al6 {m n k:Nat} {A0 F:Nat->Nat->Int} {last:Int} {neg:Bool} (H:AW4 m A0 n k F last neg) (hk:k < n) (h0:F k k≠0):AW4 m A0 n (k + 1) (bF k F last n (k + 1)) (F k k) neg:=by
 obtain ⟨A,h5,h1,h6,h2⟩:=Auu H hk;refine ⟨A,h1,fun i j hi hin hj hjn=>?_,h6,h0,h5⟩;unfold bF;rw [if_pos (by omega)];exact (h2 i j (by omega) hin (by omega) hjn).2
theorem Al7 {m n k:Nat} {A0 F:Nat->Nat->Int} {last:Int} {neg:Bool} (H:AW4 m A0 n k F last neg) (hk:k < n) (hz:∀ i,k<=i->i < n->F i k=0):det n A0=0:=by
 obtain ⟨A,h1,h2,h3,h4,h5⟩:=H;have h:=Aft (A:=A) (by rw [<- h3];exact h4) hk fun i hi hin=>by rw [<- h2 i k hi hin (by omega) hk];exact hz i hi hin
 rw [h1] at h;rcases Int.mul_eq_zero.1 h with h6 | h6
 ·cases neg <;> simp [sgB] at h6
 ·exact h6
theorem Ape {m n:Nat} {A0 F:Nat->Nat->Int} {last:Int} {neg:Bool} (H:AW4 m A0 n n F last neg):det n A0=if neg then -last else last:=by
 obtain ⟨A,h1,h2,h3,h4,h5⟩:=H;rw [<- h3] at h1;rw [h1];cases neg
 ·simp [sgB]
 ·simp [sgB]
theorem Aie {m k:Nat} {A:Nat->Nat->Int} (h:∀ i j,(A i j).natAbs<=m) (i j:Nat):(Mn k A i j).natAbs<=dBd m (k + 1):=AYg fun r c=>h _ _
theorem AP8 {m:Nat} (hm:1<=m) {a b:Nat} (h:a<=b):dBd m a<=dBd m b:=by
 induction h with
 | refl=>exact Nat.le_refl _
 | step h ih=>
   refine Nat.le_trans ih ?_
   rw [dBd]
   exact Nat.le_mul_of_pos_left _ (Nat.mul_pos (by omega) (by omega))
theorem Apf {m n k:Nat} {A0 F:Nat->Nat->Int} {last:Int} {neg:Bool} (hm:1<=m) (H:AW4 m A0 n k F last neg) (hk:k < n) {i j:Nat} (hi:k<=i) (hin:i < n) (hj:k<=j) (hjn:j < n):(F i j).natAbs<=dBd m n/\(bQ k F last i j).natAbs<=dBd m (n + 1):=by
  obtain ⟨A,h5,h1,h6,h2⟩:=Auu H hk;obtain ⟨h7,h8⟩:=h2 i j hi hin hj hjn;rw [h7,h8];exact ⟨Nat.le_trans (Aie h5 _ _) (AP8 hm (by omega)),Nat.le_trans (Aie h5 _ _) (AP8 hm (by omega))⟩
theorem Al8 {m n k:Nat} {A0 F:Nat->Nat->Int} {last:Int} {neg:Bool} (hm:1<=m) (H:AW4 m A0 n k F last neg) (hk:k<=n):last≠0/\last.natAbs<=dBd m n:=by
 obtain ⟨A,h1,h2,h3,h4,h5⟩:=H;exact ⟨h4,by rw [h3];exact Nat.le_trans (AYg h5) (AP8 hm hk)⟩
end Go.QF
namespace Go.Proofs.YtiegjkmfpcgjjaaGreatDoor
open Go Go.QF
theorem Asy {α:Type} {i n:Nat} {a b c:α} (h:i < n):(List.replicate i a ++ List.replicate (n - i) b).set i c=List.replicate i a ++ (c :: List.replicate (n - i - 1) b):=by
 rw [List.set_append_right _ _ (by simp),List.length_replicate,Nat.sub_self,show n - i=(n - i - 1) + 1 by omega,List.replicate_succ];rfl
theorem AYh {fuel n m:Nat} (hn:n<=100000000) (hm:m<=100000000) (hf:n < fuel):AEm fuel n m=some (List.replicate n (List.replicate m 0)):=by
 apply ok_eq;unfold AEm;refine AEe (by omega) (ABo (ACv (fun i s=>s=((i:Int),List.replicate i (List.replicate m 0) ++ List.replicate (n - i) [])) n (Q:=(· =List.replicate n (List.replicate m 0))) (by simp) hf fun i s hi hI=>?_) fun x hx=>ABi hx);subst hI;unfold AJ7;dsimp only;rw [List.length_replicate,Int.toNat_natCast];refine AB3 (fun h=>AEe (by omega) (AB7 (n:=i) (x:=[]) ?_ rfl (ABi ⟨by omega,?_⟩))) (fun h=>ABi ?_)
 ·rw [List.getElem?_append_right (by simp),List.length_replicate,Nat.sub_self,List.getElem?_replicate,if_pos (by omega)]
 ·rw [wk (by omega),ADy,Int.toNat_natCast,Asy (by omega)];congr 1;rw [show n - (i + 1)=n - i - 1 by omega,List.replicate_succ'];simp
 ·obtain rfl:i=n:=by omega
  simp
theorem Adr {α:Type} {A:List (List α)} {i:Nat} {row:List α} (hi:i < A.length):(A.take i ++ row :: List.replicate (A.length - i - 1) []).set i=fun r=>A.take i ++ r :: List.replicate (A.length - i - 1) []:=by
 funext r;rw [List.set_append_right _ _ (by simp;omega),List.length_take,Nat.min_eq_left (by omega),Nat.sub_self];rfl
theorem Aj5 {fuel:Nat} {A:List (List Int)} (hn:A.length<=100000000) (hm:∀ z∈A,z.length<=100000000/\z.length < fuel) (hf:A.length < fuel):AGa fuel A=some A:=by
 apply ok_eq;unfold AGa;refine AEe (by omega) (ABo (ACv (fun i s=>s=((i:Int),A.take i ++ List.replicate (A.length - i) [])) A.length (Q:=(· =A)) (by simp) hf fun i s hi hI=>?_) fun x hx=>ABi hx);subst hI;unfold AJ9;dsimp only;refine AB3 (fun h=>?_) (fun h=>ABi ?_)
 ·have hi':i < A.length:=by omega
  obtain ⟨row,hrow⟩:∃ row,A[i]? =some row:=⟨A[i],List.getElem?_eq_getElem hi'⟩;have hr:=hm row (List.mem_of_getElem? hrow);refine AB7 hrow rfl (ABo (ACv (fun j s=>s=((j:Int),A.take i ++ row.take j :: List.replicate (A.length - i - 1) [])) row.length (Q:=(· =A.take i ++ row :: List.replicate (A.length - i - 1) [])) ?_ hr.2 fun j s hj hJ=>?_) fun x hx=>ABi ⟨hi',?_⟩)
  ·rw [show A.length - i=(A.length - i - 1) + 1 by omega,List.replicate_succ];simp
  ·subst hJ;unfold AJ8;dsimp only;refine AB3 (fun h2=>?_) (fun h2=>ABi ?_)
   ·obtain ⟨x,hx⟩:∃ x,row[j]? =some x:=⟨row[j]'(by omega),List.getElem?_eq_getElem _⟩;refine AB7 hx rfl (AB7 (n:=i) (x:=row.take j) ?_ rfl (ABo (Q:=(· =x)) ⟨x,rfl,rfl⟩ fun y hy=>AEe ?_ (ABi ⟨by omega,?_⟩)))
    ·rw [List.getElem?_append_right (by simp;omega),List.length_take,Nat.min_eq_left (by omega),Nat.sub_self];rfl
    ·rw [List.length_take];omega
    ·subst hy;rw [wk (by omega),ADy,Adr hi',List.take_add_one,hx];rfl
   ·obtain rfl:j=row.length:=by omega
    rw [List.take_length]
  ·subst hx;rw [wk (by omega),List.take_add_one,hrow,show A.length - (i + 1)=A.length - i - 1 by omega];simp
 ·obtain rfl:i=A.length:=by omega
  simp
def okM (A:List (List Int)):Bool:=decide (1<=A.length/\A.length<=16/\ ∀ z∈A,1<=z.length/\z.length<=16/\z.length=ALq A)
theorem AW5 {A:List (List Int)} {z:List Int} (h:A[0]? =some z):ALq A=z.length:=by unfold ALq;rw [h];rfl
theorem AXr {fuel:Nat} {A:List (List Int)} (hr:∀ z∈A,∀ x∈z,-9223372036854775808<=x/\x<=9223372036854775807) (hf:17 < fuel):ADs fuel A=some (if okM A then (A,true) else ([],false)):=by
 apply ok_eq;unfold ADs
 have key:∀ R:List (List Int) × Bool->Prop,(okM A=false->R ([],false))->(okM A=true->R (A,true))->Ok (ADs fuel A) R:=by
   intro R hF hT
   unfold ADs
   refine ABo (Q:=fun ex=>match ex with | .inl e=>e=([],false)/\okM A=false | .inr _=>1<=A.length/\A.length<=16) (AB3 (fun h=>ABi ⟨rfl,by unfold okM;rw [decide_eq_false_iff_not];omega⟩) fun h=>AB3 (fun h2=>ABi ⟨rfl,by unfold okM;rw [decide_eq_false_iff_not];omega⟩) fun h2=>ABi ⟨by omega,by omega⟩) fun ex hex=>?_
   cases ex with
   | inl e=>obtain ⟨rfl,h⟩:=hex;exact ABi (hF h)
   | inr u=>
     dsimp only at hex ⊢
     obtain ⟨z0,Ab⟩:∃ z,A[0]? =some z:=⟨A[0]'(by omega),List.getElem?_eq_getElem _⟩
     have hc:=AW5 Ab
     refine ABo (ACv (fun i (s:Int)=>s=(i:Int)/\ ∀ z∈A.take i,1<=z.length/\z.length<=16/\z.length=ALq A) A.length (Q:=fun ex=>match ex with | .inl e=>e=([],false)/\okM A=false | .inr _=>okM A=true) ⟨rfl,by simp⟩ (by omega) fun i s hi hI=>?_) fun ex Ac=>?_
     · obtain ⟨rfl,hI⟩:=hI
       unfold AIo
       refine AB3 (fun h=>?_) (fun h=>ABi ?_)
       · have hi':i < A.length:=by omega
         obtain ⟨row,hrow⟩:∃ row,A[i]? =some row:=⟨A[i],List.getElem?_eq_getElem hi'⟩
         have bad: ¬ (1<=row.length/\row.length<=16/\row.length=ALq A)->okM A=false:=fun hb=>by
           unfold okM;rw [decide_eq_false_iff_not];exact fun h=>hb (h.2.2 row (List.mem_of_getElem? hrow))
         refine AB7 hrow rfl (AB3 (fun h1=>ABi ⟨rfl,bad (by omega)⟩) fun h1=>AB3 (fun h2=>ABi ⟨rfl,bad (by omega)⟩) fun h2=>AB7 Ab rfl (AB3 (fun h3=>ABi ⟨rfl,bad (by omega)⟩) fun h3=>ABi ⟨hi',wk (by omega),?_⟩))
         rw [List.take_add_one,hrow]
         intro z hz
         rcases List.mem_append.1 hz with hz | hz
         · exact hI z hz
         · rw [show z=row by simpa using hz];omega
       · obtain rfl:i=A.length:=by omega
         rw [List.take_length] at hI
         unfold okM;rw [decide_eq_true_eq];exact ⟨hex.1,hex.2,hI⟩
     · cases ex with
       | inl e=>obtain ⟨rfl,h⟩:=Ac;exact ABi (hF h)
       | inr u=>
         dsimp only at Ac ⊢
         have hv:=Ac
         unfold okM at hv;rw [decide_eq_true_eq] at hv
         have hcA:∀ z∈A,z.length=ALq A:=fun z hz=>(hv.2.2 z hz).2.2
         have Ag:1<=ALq A/\ALq A<=16:=by have:=hv.2.2 z0 (List.mem_of_getElem? Ab);omega
         refine AB7 Ab rfl (ABo (ADa (AYh (by omega) (by omega) (by omega))) fun O hO=>?_)
         subst hO
         rw [<- hc]
         refine ABo (ACv (fun i s=>s=((i:Int),A.take i ++ List.replicate (A.length - i) (List.replicate (ALq A) 0))) A.length (Q:=(· =A)) (by simp) (by omega) fun i s hi hI=>?_) fun x hx=>ABi (hx ▸ hT Ac)
         subst hI
         unfold AIn
         dsimp only
         refine AB3 (fun h=>?_) (fun h=>ABi ?_)
         · have hi':i < A.length:=by omega
           obtain ⟨row,hrow⟩:∃ row,A[i]? =some row:=⟨A[i],List.getElem?_eq_getElem hi'⟩
           have hrl:=hcA row (List.mem_of_getElem? hrow)
           refine AB7 hrow rfl (ABo (ACv (fun j s=>s=((j:Int),A.take i ++ (row.take j ++ List.replicate (ALq A - j) 0) :: List.replicate (A.length - i - 1) (List.replicate (ALq A) 0))) row.length (Q:=(· =A.take i ++ row :: List.replicate (A.length - i - 1) (List.replicate (ALq A) 0))) ?_ (by omega) fun j s hj hJ=>?_) fun x hx=>ABi ⟨hi',?_⟩)
           · rw [show A.length - i=(A.length - i - 1) + 1 by omega,List.replicate_succ];simp
           · subst hJ
             unfold AIm
             dsimp only
             refine AB3 (fun h2=>?_) (fun h2=>ABi ?_)
             · obtain ⟨x,hx⟩:∃ x,row[j]? =some x:=⟨row[j]'(by omega),List.getElem?_eq_getElem _⟩
               have hxr:=hr row (List.mem_of_getElem? hrow) x (List.mem_of_getElem? hx)
               refine AB7 (n:=i) (x:=row.take j ++ List.replicate (ALq A - j) 0) ?_ rfl (AB7 hrow rfl (AB7 hx rfl (ABo (Q:=(· =x)) ⟨x,if_pos hxr,rfl⟩ fun y hy=>AB7 (n:=j) (x:=0) ?_ rfl (ABi ⟨by omega,?_⟩))))
               · rw [List.getElem?_append_right (by simp;omega),List.length_take,Nat.min_eq_left (by omega),Nat.sub_self];rfl
               · rw [List.getElem?_append_right (by simp;omega),List.length_take,Nat.min_eq_left (by omega),Nat.sub_self,List.getElem?_replicate,if_pos (by omega)]
               · subst hy
                 rw [wk (by omega),ADy,ADy]
                 congr 1
                 rw [List.set_append_right _ _ (by simp;omega),List.length_take,Nat.min_eq_left (by omega),Nat.sub_self,List.set_cons_zero]
                 congr 2
                 rw [List.set_append_right _ _ (by simp;omega),List.length_take,Nat.min_eq_left (by omega),Nat.sub_self,show ALq A - j=(ALq A - (j + 1)) + 1 by omega,List.replicate_succ,List.set_cons_zero,List.take_add_one,hx]
                 simp
             · obtain rfl:j=row.length:=by omega
               rw [List.take_length,show ALq A - row.length=0 by omega];simp
           · subst hx
             rw [wk (by omega),List.take_add_one,hrow,show A.length - (i + 1)=A.length - i - 1 by omega]
             simp
         · obtain rfl:i=A.length:=by omega
           simp
 have:=key (fun r=>r=if okM A then (A,true) else ([],false)) (fun h=>by rw [h];rfl) (fun h=>by rw [h];rfl);unfold ADs at this;exact this
theorem Axq {fuel:Nat} {A:List (List Int)} (hr:∀ z∈A,∀ x∈z,-9223372036854775808<=x/\x<=9223372036854775807) (hf:17 < fuel):AFe fuel A=some (if okM A then A else []):=by
 unfold AFe;rw [AXr hr hf];cases okM A <;> rfl
theorem Afu {z:Int}:AHs z=0↔z=0:=by
 unfold AHs;split
 ·omega
 ·split <;> omega
theorem Ads {r c i j:Nat} {F:Nat->Nat->Int} {x:Int}:sI (tab r c F) (i:Int) (sI (ADz c (F i)) (j:Int) x)=tab r c (ADj F i fun q=>if q=j then x else F i q):=by
 rw [ADy,ADy,AEz];exact Ao3
theorem AXs {a b D:Nat} (hG:2 * (D * D) < AEk) (ha:a<=D) (hb:b<=D):a * b < AEk:=by
 have:=Nat.mul_le_mul ha hb;omega
theorem Asz {a D:Nat} (hG:2 * (D * D) < AEk) (ha:a<=D):a < AEk:=by
 rcases Nat.eq_zero_or_pos D with h | h
 ·subst h;have:0 < AEk:=by decide
  omega
 ·have h2:=Nat.mul_le_mul h (Nat.le_refl D);omega
theorem AW6 {fuel D:Nat} {a b:Int} (hG:2 * (D * D) < AEk) (ha:a.natAbs<=D) (hb:b.natAbs<=D):AQr fuel a b=some (a * b):=if_pos (AXs hG ha hb)
theorem Abz {D:Nat} {a b:Int} (hG:2 * (D * D) < AEk) (ha:a.natAbs<=D) (hb:b.natAbs<=D):(a * b).natAbs < AEk:=by rw [Int.natAbs_mul];exact AXs hG ha hb
theorem Apg {D:Nat} {a b c d:Int} (hG:2 * (D * D) < AEk) (ha:a.natAbs<=D) (hb:b.natAbs<=D) (hc:c.natAbs<=D) (hd:d.natAbs<=D):(a * b - c * d).natAbs < AEk:=by
 have h1:=Nat.mul_le_mul ha hb;have h2:=Nat.mul_le_mul hc hd;rw [<- Int.natAbs_mul] at h1 h2;omega
theorem As0 {fuel n M N:Nat} {F:Nat->Nat->Int} (hM:1<=M) (hG:2 * (dBd M (N + 1) * dBd M (N + 1)) < AEk) (hnN:n<=N) (hn:n<=16) (hb:∀ i j,(F i j).natAbs<=M) (hf:17 < fuel):AC8 fuel (tab n n F)=some (det n F):=by
 apply ok_eq;unfold AC8;refine ABo (ADa (Aj5 (by rw [ADg];omega) (fun z hz=>by rw [AY5 z hz];omega) (by rw [ADg];omega))) fun A hA=>?_;subst hA;refine ABo (Q:=(· =1)) ⟨1,if_pos (by omega),rfl⟩ fun one h1=>?_;subst h1;have hD:dBd M n<=dBd M (N + 1):=AP8 hM (by omega);have Ap:dBd M (n + 1)<=dBd M (N + 1):=AP8 hM (by omega);refine ABo (ACv (fun k s=> ∃ G last neg,s=(neg,((k:Int),tab n n G,last))/\AW4 M F n k G last neg) n (Q:=fun ex=>match ex with | .inl e=>e=det n F | .inr (neg,last)=>det n F=if neg then -last else last) ⟨F,1,false,rfl,Aid hb⟩ (by omega) fun k s hk hI=>?_) fun ex hex=>?_
 ·obtain ⟨G,last,neg,rfl,hB⟩:=hI;unfold AHa;dsimp only;rw [ADg];refine AB3 (fun h=>?_) (fun h=>ABi ?_)
  ·have hk':k < n:=by omega
   refine ABo (Q:=fun ex=>match ex with | .inl e=>e=det n F | .inr (neg',a',last')=> ∃ G',a'=tab n n G'/\AW4 M F n (k + 1) G' last' neg') ?_ fun ex hex=>?_
   ·refine ABo (Q:=fun (e:Int)=> ∃ p:Nat,e=p/\k<=p/\p<=n/\(∀ i,k<=i->i < p->G i k=0)/\(p < n->G p k≠0)) (ABo (ACv (fun j (s:Int)=>s=((k + j:Nat):Int)/\k + j<=n/\ ∀ i,k<=i->i < k + j->G i k=0) (n - k) (Q:=fun (e:Int)=> ∃ p:Nat,e=p/\k<=p/\p<=n/\(∀ i,k<=i->i < p->G i k=0)/\(p < n->G p k≠0)) ⟨rfl,by omega,fun i h1 h2=>by omega⟩ (by omega) fun j s hj hJ=>?_) fun e he=>ABi he) fun e he=>?_
    ·obtain ⟨rfl,hjn,hz⟩:=hJ;unfold AG7;rw [ADg];refine ABo (Q:=fun ex=>match ex with | .inl _=>k + j < n/\G (k + j) k=0 | .inr _=>k + j < n->G (k + j) k≠0) (AB3 (fun h2=>AB7 (ADi (by omega)) rfl (AB7 (ACn (by omega)) rfl (ABo (ADa (a:=AHs (G (k + j) k)) rfl) fun sg hsg=>AB3 (fun h3=>ABi ⟨by omega,?_⟩) fun h3=>ABi fun _=>?_))) fun h2=>ABi fun h3=>by omega) fun ex hex=>?_
     ·subst hsg;exact Afu.1 h3
     ·subst hsg;exact fun h4=>h3 (Afu.2 h4)
     ·cases ex with
      | inl u=>exact ABi ⟨by omega,by rw [wk (by omega)];omega,by omega,fun i h1 h2=>by
          rcases Nat.lt_or_ge i (k + j) with h3 | h3
          · exact hz i h1 h3
          · obtain rfl:i=k + j:=by omega
            exact hex.2⟩
      | inr u=>exact ABi ⟨k + j,rfl,by omega,hjn,hz,hex⟩
    ·obtain ⟨p,rfl,hkp,hpn,hz,hp⟩:=he;refine AB3 (fun h2=>ABi ?_) (fun h2=>?_)
     ·obtain rfl:p=n:=by omega
      exact (Al7 hB hk' hz).symm
     ·have hp':p < n:=by omega
      refine ABo (Q:=fun (r:Bool × List (List Int))=> ∃ G',r.2=tab n n G'/\AW4 M F n k G' last r.1/\G' k k≠0) (AB3 (fun h3=>AB7 (ADi (by omega)) rfl (AB7 (ADi (by omega)) rfl (ABi ⟨AFt G p k,?_,Al5 hB (by omega) hp',?_⟩))) fun h3=>ABi ⟨G,rfl,hB,?_⟩) fun r hr=>?_
      ·dsimp only;rw [ADy,ADy];show ((tab n n G).set p (ADz n (G k))).set k (ADz n (G p))=_;rw [show ADz n (G k)=(List.range n).map (G k) from rfl,show ADz n (G p)=(List.range n).map (G p) from rfl,AH5,AH5];rfl
      ·rw [ALb,if_pos rfl];exact hp hp'
      ·obtain rfl:p=k:=by omega
       exact hp hp'
      ·obtain ⟨Aq,a2⟩:=r;obtain ⟨G2,Ag,Af,hne⟩:=hr;dsimp only at Ag Af ⊢;subst Ag;have hlast:=Al8 hM Af (by omega);have habs:∀ i j,k<=i->i < n->k<=j->j < n->(G2 i j).natAbs<=dBd M (N + 1):=fun i j h1 h2 h3 h4=>Nat.le_trans (Apf hM Af hk' h1 h2 h3 h4).1 hD;have hl':last.natAbs<=dBd M (N + 1):=Nat.le_trans hlast.2 hD;rw [wk (by omega)];refine ABo (ACv (fun i s=>s=(((k + 1 + i:Nat):Int),tab n n (bF k G2 last (k + 1 + i) (k + 1)))/\k + 1 + i<=n) (n - (k + 1)) (Q:=(· =tab n n (bF k G2 last n (k + 1)))) ⟨by rw [Nat.add_zero,Apc];simp,by omega⟩ (by omega) fun i s hi hI=>?_) fun a3 Ah=>?_
       ·obtain ⟨rfl,hin⟩:=hI;unfold AG9;dsimp only;rw [ADg];obtain ⟨q,hq⟩:∃ q,k + 1 + i=q:=⟨_,rfl⟩;rw [hq] at hin ⊢;refine AB3 (fun h3=>?_) (fun h3=>ABi ?_)
        ·have hqn:q < n:=by omega
         rw [wk (by omega)];refine ABo (ACv (fun j s=>s=(((k + 1 + j:Nat):Int),tab n n (bF k G2 last q (k + 1 + j)))/\k + 1 + j<=n) (n - (k + 1)) (Q:=(· =tab n n (bF k G2 last q n))) ⟨by simp,by omega⟩ (by omega) fun j s hj hJ=>?_) fun a4 Ai=>ABi ?_
         ·obtain ⟨rfl,hjn⟩:=hJ;unfold AG8;dsimp only;rw [ADg];obtain ⟨c,hc⟩:∃ c,k + 1 + j=c:=⟨_,rfl⟩;rw [hc] at hjn ⊢;refine AB3 (fun h4=>?_) (fun h4=>ABi ?_)
          ·have hcn:c < n:=by omega
           refine AB7 (ADi hqn) rfl (AB7 (ADi hk') rfl (AB7 (ACn hk') rfl (AB7 (ACn hcn) rfl ?_)));rw [Apd,Axp];refine ABo (ADa (AW6 hG (habs _ _ (by omega) (by omega) (by omega) (by omega)) (habs _ _ (by omega) (by omega) (by omega) (by omega)))) fun x1 Aj=>AB7 (ACn hk') rfl (AB7 (ACn hcn) rfl ?_);subst Aj;rw [Axo,Apd];refine ABo (ADa (AW6 hG (habs _ _ (by omega) (by omega) (by omega) (by omega)) (habs _ _ (by omega) (by omega) (by omega) (by omega)))) fun x2 Ak=>?_;subst Ak;refine ABo (Q:=(· =G2 k k * G2 q c - G2 q k * G2 k c)) ⟨_,if_pos ⟨Abz hG (habs _ _ (by omega) (by omega) (by omega) (by omega)) (habs _ _ (by omega) (by omega) (by omega) (by omega)),Abz hG (habs _ _ (by omega) (by omega) (by omega) (by omega)) (habs _ _ (by omega) (by omega) (by omega) (by omega))⟩,rfl⟩ fun x3 Am=>?_
           ·subst Am;refine ABo (Q:=(· =bQ k G2 last q c)) ?_ fun x4 Ao=>ABi ⟨by omega,?_,by omega⟩
            ·unfold AEd AV2;rw [if_pos ⟨Apg hG (habs _ _ (by omega) (by omega) (by omega) (by omega)) (habs _ _ (by omega) (by omega) (by omega) (by omega)) (habs _ _ (by omega) (by omega) (by omega) (by omega)) (habs _ _ (by omega) (by omega) (by omega) (by omega)),Asz hG hl',hlast.1⟩];exact ⟨_,rfl,rfl⟩
            ·subst Ao;rw [wk (by omega),Ads,Av2 k G2 last (by omega) (by omega)];congr 1
             ·omega
             ·rw [<- Nat.add_assoc,hc]
          ·obtain rfl:c=n:=by omega
           rfl
         ·subst Ai;refine ⟨by omega,?_,by omega⟩;rw [wk (by omega)];congr 1
          ·omega
          ·refine AWp fun r c hr hc=>?_;rw [Av1 k n G2 last q hc,<- Nat.add_assoc,hq]
        ·obtain rfl:q=n:=by omega
         rfl
       ·subst Ah;refine AB7 (ADi hk') rfl (AB7 (ACn hk') rfl (ABi ⟨_,rfl,?_⟩));rw [Apd];exact Al6 Af hk' hne
   ·match ex,hex with
    | .inl e,hex=>exact ABi hex
    | .inr (neg',a',last'),hex=>
      obtain ⟨G',rfl,hB'⟩:=hex
      exact ABi ⟨hk',G',last',neg',by rw [wk (by omega)];rfl,hB'⟩
  ·obtain rfl:k=n:=by omega
   exact Ape hB
 ·match ex,hex with
  | .inl e,hex=>exact ABi hex
  | .inr (neg,last),hex=>
    dsimp only at hex ⊢
    rw [hex]
    refine AB3 (fun h=>ABo (ADa (a:= -last) rfl) fun x hx=>ABi ?_) (fun h=>ABi ?_)
    · rw [hx,h];rfl
    · rw [if_neg h]
def AGv:Nat:=2 ^ 100
theorem Aj6:2 * (dBd AGv (8 + 1) * dBd AGv (8 + 1)) < AEk:=by decide
theorem AV5 {fuel n:Nat} {F:Nat->Nat->Int} (hn:n<=8) (hb:∀ i j,i < n->j < n->(F i j).natAbs<=AGv) (hf:17 < fuel):AC8 fuel (tab n n F)=some (det n F):=by
 have e1:tab n n F=tab n n fun i j=>if i < n/\j < n then F i j else 0:=by
   rw [AOl,AOl]
   exact ACu fun i hi=>ACu fun j hj=>by rw [if_pos ⟨hi,hj⟩]
 have e2:det n F=det n fun i j=>if i < n/\j < n then F i j else 0:=ADe fun i j hi hj=>by rw [if_pos ⟨hi,hj⟩]
 rw [e1,e2];refine As0 (by decide) Aj6 hn (by omega) (fun i j=>?_) hf;split
 ·next h=>exact hb i j h.1 h.2
 ·exact Nat.zero_le _
theorem As1:FdT Tryz.prog 26 0 0 5:=⟨_,_,Tryz.underlying26,rfl,rfl,rfl⟩
theorem As2:FdT Tryz.prog 26 1 1 5:=⟨_,_,Tryz.underlying26,rfl,rfl,rfl⟩
theorem As3:FdT Tryz.prog 26 2 2 24:=⟨_,_,Tryz.underlying26,rfl,rfl,rfl⟩
theorem Aph:AgT Tryz.prog 26 4:=Acq Tryz.underlying26 rfl (by kernel_rfl)
end Go.Proofs.YtiegjkmfpcgjjaaGreatDoor
