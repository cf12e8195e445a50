/-
  Texts of a proof, joined. Conditions stand in each statement.
-/
import Derived.RangeFuncRecord
import Derived.OrdersIn
import Derived.Test.YtiegjkmfpcgjjaaGreatDoorMLineIs4
set_option linter.unusedVariables false
set_option linter.unusedSimpArgs false
namespace Go.QF
open Go
theorem Amu (l:List Value):(l.map fun r=>[r]).flatten=l:=by
 induction l with
 | nil=>rfl
 | cons a L ih=>simp [ih]
def AWj {α:Type} (c:Cod α) (el:Nat) (h:ABh):List (List Nat)->List Value->List (List α)->Prop
  | [],[],[]=>True
  | G :: Gs,r :: rs,L :: M=>OwC c el h G r L/\AWj c el h Gs rs M
  | _,_,_=>False
theorem AWj.len {α:Type} {c:Cod α} {el:Nat} {h:ABh}:∀ {Gs:List (List Nat)} {rs:List Value} {M:List (List α)},AWj c el h Gs rs M->rs.length=M.length/\Gs.length=M.length
  | [],[],[],_=>⟨rfl,rfl⟩
  | G :: Gs,r :: rs,L :: M,H=>by have:=AWj.len H.2;simp [this.1,this.2]
theorem AWj.get {α:Type} {c:Cod α} {el:Nat} {h:ABh}:∀ {Gs:List (List Nat)} {rs:List Value} {M:List (List α)},AWj c el h Gs rs M-> ∀ (i:Nat) (G:List Nat) (r:Value) (L:List α),Gs[i]? =some G->rs[i]? =some r->M[i]? =some L->OwC c el h G r L
  | [],[],[],_,i,G,r,L,h1,_,_=>by simp at h1
  | G0 :: Gs,r0 :: rs,L0 :: M,H,0,G,r,L,h1,h2,h3=>by simp at h1 h2 h3;subst h1;subst h2;subst h3;exact H.1
  | G0 :: Gs,r0 :: rs,L0 :: M,H,i + 1,G,r,L,h1,h2,h3=>AWj.get H.2 i G r L (by simpa using h1) (by simpa using h2) (by simpa using h3)
section
variable {P:Program} {B:ABh->Prop} {st:Bool} {ops:Array Oper} {rest:List Oper} {e:Env} {h:ABh} {K:Env->ABh->Prop} {d:Nat} {ty:TypeId} {pos:String} {af:Array Edge}
theorem ATg {α:Type} {c:Cod α} (Gs:List (List Nat)) (rs:List Value) (M:List (List α)) {t er el bytes n:Nat} {z:Value} {parts:List (Nat × Operand)} (hT:SlT P t er 1) (hz:ZeT P er z bytes) (h1:isOne z=true) (hel:Nat.beq er 147=false) (hb:B h) (hBE:∀ h',Ext h h'->B h') (hn:rs.length=n) (Aa:Nat.ble n 16777216=true) (hpos:Nat.ble 1 n=true) (hp:(parts.map fun (i,x)=>(i,e.ev x))=partsOf 0 rs) (hone:∀ u∈rs,isOne u=true) (hr:AWj c el h Gs rs M) (hnd:Gs.flatten.Nodup) (H:∀ b v h',AFg c er el h' (b :: Gs.flatten) Gs rs v M->Ext h h'->(∀ z∈b :: Gs.flatten,z∈Gs.flatten∨h.size<=z)->RL P B st ops rest (e.set d v) h' K):RL P B st ops (⟨some d,.buildSlice t n parts.toArray,ty,pos,af,none⟩ :: rest) e h K:=by
 have Aa:=Nat.le_of_ble_eq_true Aa;have E:Ext h (h.push (.cells rs.toArray er (0,0))):=AEa _ _;have HO:AJe (h.push (.cells rs.toArray er (0,0))) er 1 h.size (.slice (some ⟨h.size,0,none⟩) n n) (rs.map fun r=>[r]):=⟨n,rs.toArray,by rw [List.length_map,hn],by simp,by simp [hn],by unfold maxLen;omega,by simp [hn],fun r hr=>by obtain ⟨a,_,rfl⟩:=List.mem_map.1 hr;rfl,by rw [Amu];simp⟩
 have hlt:∀ z∈Gs.flatten,z < h.size:=fun z hz=>by
   obtain ⟨G,hG,hzG⟩:=List.mem_flatten.1 hz
   obtain ⟨i,hi⟩:=List.getElem?_of_mem hG
   have hi':=(List.getElem?_eq_some_iff.1 hi).1
   have hl:=hr.len
   exact (hr.get i G (rs[i]'(by omega)) (M[i]'(by omega)) hi (List.getElem?_eq_getElem _) (List.getElem?_eq_getElem _)).lt z hzG
 refine Anp rs hT hz h1 hb hn Aa (Nat.le_of_ble_eq_true hpos) hp hone ⟨hBE _ E,H h.size _ _ (.inr ⟨h.size,rfl,?_,HO,hel,hr.len.1,hr.len.2,fun i G r L a1 a2 a3=>(hr.get i G r L a1 a2 a3).ext E⟩) E fun z hz=>?_⟩
 ·exact List.nodup_cons.2 ⟨fun hm=>by have:=hlt _ hm;omega,hnd⟩
 ·rcases List.mem_cons.1 hz with rfl | h2
  ·exact .inr (Nat.le_refl _)
  ·exact .inl h2
end
end Go.QF
namespace Go.Proofs.YtiegjkmfpcgjjaaGreatDoor
open Go Go.QF
def aT (F:List Nat):Asr:=⟨F,fun h=> ∀ b∈F,AP2 h b,fun {G h h'} U d H b hb=>by
  obtain ⟨o,h1,h2⟩:=H b hb;exact ⟨o,(U.1.2 b (Array.getElem?_eq_some_iff.1 h1).1 (d b hb)).trans h1,h2⟩⟩
namespace Kst
variable {h0 h h':ABh} {l l':List Asr}
theorem a0 (k:Kst h0 h l):Kst h0 h (aT [] :: l):=k.n (Ext.refl h) [aT []] (by exact ⟨by simp [fps,aT],fun b hb=>by simp [fps,aT] at hb⟩) ⟨fun b hb=>by simp at hb,trivial⟩
theorem grab {α:Type} {c:Cod α} {F R:List Nat} {j el:Nat} {w:Value} {y:List α} (k:Kst h0 h (aT F :: l)) (e:Rep j l (aO c el R w y) (aC True) l'):Kst h0 h (aT (F ++ R) :: l'):=by
 obtain ⟨e,rfl⟩:=e;have HR:OwC c el h R w y:=AMp k.p.2 e;have e1:(fps (aT F :: l))[j + 1]? =some R:=(AL0 e:(fps l)[j]? =some R);have e0:(fps (aT F :: l))[0]? =some F:=rfl;have hd:=k.s.dj 0 (j + 1) e0 e1 (by omega);have hF:F.Nodup:=(List.nodup_append.1 k.s.1).1;have:=k.s.put2 0 (j + 1) (F':=F ++ R) e0 e1 (by omega) (List.nodup_append.2 ⟨hF,HR.nodup,fun a ha b hb hab=>hd a ha (hab ▸ hb)⟩) (Nat.le_refl _) k.x.1 (fun x hx=>(List.mem_append.1 hx).elim (fun h=>(k.s.lo 0 e0 x h).2) fun h=>HR.lt x h) (fun x hx=>(List.mem_append.1 hx).elim .inl fun h=> .inr (.inl h));refine ⟨k.x,?_,fun b hb=>(List.mem_append.1 hb).elim (k.p.1 b) (HR.notD b),AZq k.p.2 j⟩
 have e2:fps (aT (F ++ R) :: l.set j (aC True))=((fps (aT F :: l)).set (j + 1) []).set 0 (F ++ R):=by
   show (F ++ R) :: fps (l.set j (aC True))=_
   rw [AUu];rfl
 rw [e2];exact this
theorem ndT {F:List Nat} (k:Kst h0 h (aT F :: l)):F.Nodup:=(List.nodup_append.1 k.s.1).1
theorem lit {α:Type} {c:Cod α} {er el:Nat} {F F':List Nat} {Gs:List (List Nat)} {rs:List Value} {v:Value} {x:List (List α)} (k:Kst h0 h (aT F :: l)) (E:Ext h h') (V:AFg c er el h' F' Gs rs v x) (hs:∀ z∈F',z∈F∨h.size<=z):Kst h0 h' (aO2 c er el F' Gs rs v x :: l):=
  k.u p0 (E.upT.mono (fun x hx=>by simp at hx) fun x hx _=>k.p.1 x hx) V V.nodup V.lt hs
end Kst
end Go.Proofs.YtiegjkmfpcgjjaaGreatDoor
namespace Go.QF
open Go
def FR (r:Option Nat):Fence:= { Fence.wide with round:=r }
theorem Ahy {r:Option Nat} {m:Nat} {P:Program} {f:FuncId} {args:Array Value} {w:World} {R:Ending->World->Prop} (h:Calls P f args w R):CallsIn (FR r) m P f args w R:=
  (callsIn_wide (n:=m)).2 h
structure AL4 (D:List Deferred) (n:Nat) (e:Env) (a:Act):Prop where
  r:Rep n e { a with defers:=[] }
  d:a.defers=D
theorem AL4.eval {D:List Deferred} {n:Nat} {e:Env} {a:Act} (r:AL4 D n e a):a.eval=e.ev:=r.r.eval
theorem AL4.put {D:List Deferred} {n:Nat} {e:Env} {a:Act} (r:AL4 D n e a) (d:Option Nat) (v:Value) (hd:∀ x,d=some x->x < n):AL4 D n (e.put d v) (a.put d v):=by
 have h1:=r.r.put d v hd;have h2:=r.d
 cases d with
 | none=>exact ⟨h1,h2⟩
 | some d=>exact ⟨h1,h2⟩
theorem AL4.yields {D:List Deferred} {n:Nat} {e:Env} {a:Act} (r:AL4 D n e a) (ops:Array Oper):yielded ops a.tmps=AJd ops e:=r.r.yields ops
theorem AL4.of {n:Nat} {e:Env} {a:Act} (r:Rep n e a):AL4 [] n e a:=⟨⟨r.size,rfl,r.get⟩,r.defers⟩
theorem AL4.rep {n:Nat} {e:Env} {a:Act} (r:AL4 [] n e a):Rep n e a:=⟨r.r.size,r.d,r.r.get⟩
def APv (o:Oper):Bool:=match o.op with | .defer _=>false | _=>true
theorem ATy {P:Program} {B:ABh->Prop} {st:Bool} {ops:Array Oper} {Q:Exit->Act->World->Prop} {i:Nat} {o:Oper} {n m:Nat} {ro:Option Nat} {D:List Deferred} {e:Env} {a:Act} {w:World} {K:Env->ABh->Prop} {K':Act->World->Prop} (hi:ops[i]? =some o) (hnd:APv o=true) (hd:∀ x,o.dst=some x->x < n) (r:AL4 D n e a) (H:GOp P B st ops o e w.heap K) (hK:∀ e' a' w',AL4 D n e' a'->Same w w'->K e' w'.heap->K' a' w'):wpOpIn (FR ro) m P ops Q i K' a w:=by
 unfold wpOpIn;simp only [hi];unfold GOp at H;rw [r.yields ops];split
 ·rename_i hw;rw [if_pos hw] at H;unfold Oper.wpIn;refine ⟨fun _ _=>trivial,?_⟩;rw [Oper.semAt_eq _ _ _ (fun c hc=>by simp [APv,hc] at hnd),r.eval]
  have eff:∀ {K:Value->ABh->Prop},ANx P e.ev o w.heap K->(∀ v h',K v h'-> ∀ a' w',AL4 D n (e.put o.dst v) a'->Same w w'->w'.heap=h'->K' a' w')->o.uponIn (FR ro) m P a K' Q ((execOp e.ev o).run P w):=by
    intro K H hK
    have H':=H w rfl
    generalize (execOp e.ev o).run P w=res at H'
    cases res with
    | ok nx w'=>
      cases nx <;> simp only [ANg] at H' <;> simp only [Oper.uponIn]
      case value v=>exact hK _ _ H'.2 _ _ (r.put _ _ hd) H'.1 rfl
      case skip=>exact hK _ _ H'.2 _ _ (r.put _ _ hd) H'.1 rfl
      case enter f args=>
        refine ⟨fun hh=>by simp [FR,Fence.wide] at hh,(Ahy H'.2).mono fun en w'' ⟨v,he,hs,hk⟩=>?_⟩
        subst he
        exact hK _ _ hk _ _ (r.put _ _ hd) (H'.1.trans hs) rfl
    | halt x w'=>exact H'.elim
  unfold SOp at H;split at H
  ·obtain ⟨v,hv,hk⟩:=H;rw [hv w];exact hK _ _ _ (r.put _ _ hd) (.refl w) hk
  ·obtain ⟨v,hv,hk⟩:=H;rw [hv w rfl];exact hK _ _ _ (r.put _ _ hd) (.refl w) hk
  ·obtain ⟨v,hb,hv,hk⟩:=H;rw [hv w hb];exact hK _ _ _ (r.put _ _ hd) (.refl w) hk
  ·exact eff H.2 fun v h' hk a' w' r' s' hh=>hK _ _ _ r' s' (by rw [hh];exact hk.2)
  ·exact eff H fun v h' hk a' w' r' s' hh=>hK _ _ _ r' s' (by rw [hh];exact hk)
 ·rename_i hw;rw [if_neg hw] at H;exact ⟨fun _ _=>trivial,hK _ _ _ (r.put _ _ hd) (.refl w) H⟩
section
variable {P:Program} {ops:Array Oper} {m:Nat} {ro:Option Nat} {D:List Deferred}
theorem AZa {B:ABh->Prop} {n:Nat} {Q:Exit->Act->World->Prop} (hok:AUh n ops true=true) (hnd:∀ (j:Nat) (o:Oper),ops[j]? =some o->APv o=true):∀ (fuel:Nat) (R:List Nat) (listed:Array Bool) (e:Env) (a:Act) (w:World) (K:Env->ABh->Prop),
    R.length=fuel->List.Pairwise (· < ·) R->listed.size=ops.size->(∀ j,j∈R↔(j < ops.size/\listed.getD j true=false))->
    (∀ j oj,listed.getD j false=true->ops[j]? =some oj-> ∀ ed∈oj.after,Region.binds .any ed=true->listed.getD ed.on false=true)->
    AL4 D n e a->LI P B (AL2 ops true) ops R e w.heap K->(∀ e' a' w',AL4 D n e' a'->Same w w'->K e' w'.heap->Q .normal a' w')->
    wpAnyIn (FR ro) m P .any ops Q fuel listed a w:=by
 intro fuel
 induction fuel with
 | zero=>
   intro R listed e a w K hlen _ _ hmem _ r H hK
   obtain rfl:R=[]:=List.length_eq_zero_iff.1 hlen
   refine ⟨?_,hK _ _ _ r (.refl w) H⟩
   refine List.eq_nil_iff_forall_not_mem.2 fun j hj=>?_
   obtain ⟨hjl,oj,hoj,_⟩:=mem_ready.1 hj
   have:=(hmem j).2 ⟨(Array.getElem?_eq_some_iff.1 hoj).1,hjl⟩
   cases this
 | succ fuel ih=>
   intro R listed e a w K hlen hpw hsz hmem hcl r H hK
   constructor
   · intro hr
     exfalso
     cases R with
     | nil=>simp at hlen
     | cons j R=>
       obtain ⟨hjs,hjl⟩:=(hmem j).1 (List.mem_cons_self ..)
       obtain ⟨oj,hoj⟩:∃ oj,ops[j]? =some oj:=⟨ops[j],Array.getElem?_eq_getElem hjs⟩
       have:j∈Region.ready .any ops listed:=mem_ready.2 ⟨hjl,oj,hoj,fun ed hed hbd=>by
         obtain ⟨_,_,hd⟩:=AK0 hok hoj
         have hlt:=(hd rfl).1 ed hed hbd
         cases hl:listed.getD ed.on false with
         | true=>rfl
         | false=>
           exfalso
           have hs:ed.on < ops.size:=Nat.lt_trans hlt hjs
           have hm:ed.on∈j :: R:=(hmem ed.on).2 ⟨hs,by
             have h':ed.on < listed.size:=by omega
             simp [h'] at hl ⊢;exact hl⟩
           rcases List.mem_cons.1 hm with he | he
           · omega
           · have:=(List.pairwise_cons.1 hpw).1 _ he
             omega⟩
       rw [hr] at this
       cases this
   · intro i hi
     obtain ⟨hil,oi,hoi,hall⟩:=mem_ready.1 hi
     have his:i < ops.size:=(Array.getElem?_eq_some_iff.1 hoi).1
     have hiR:i∈R:=(hmem i).2 ⟨his,hil⟩
     obtain ⟨R1,R2,rfl⟩:=List.append_of_mem hiR
     obtain ⟨hdi,hsi,hdri⟩:=AK0 hok hoi
     have hpw':=List.pairwise_append.1 hpw
     have hb:LI P B (AL2 ops true) ops (i :: (R1 ++ R2)) e w.heap K:=by
       refine LI.bubble hoi hsi R1 (fun k hk=>?_) H
       have hki:k < i:=hpw'.2.2 k hk i (List.mem_cons_self ..)
       have hks:k < ops.size:=Nat.lt_trans hki his
       obtain ⟨ok,hok'⟩:∃ ok,ops[k]? =some ok:=⟨ops[k],Array.getElem?_eq_getElem hks⟩
       refine ⟨ok,hok',(AK0 hok hok').2.1,?_⟩
       rcases (hdri rfl).2 k ok hki hok' with ⟨nre,hre⟩ | h
       · exfalso
         have h1:listed.getD k false=true:=AI9 (L:=fun j=>listed.getD j false=true) hcl nre k i oi hoi hall hre
         have h2:=((hmem k).1 (List.mem_append_left _ hk)).2
         have hks':k < listed.size:=by omega
         simp [hks'] at h1 h2
         rw [h1] at h2;cases h2
       · exact h
     simp only [LI,hoi] at hb
     refine ATy hoi (hnd i oi hoi) hdi r hb fun e' a' w' r' hs hk=>?_
     have his':i < listed.size:=by omega
     refine ih (R1 ++ R2) _ e' a' w' K ?_ ?_ ?_ ?_ ?_ r' hk (fun e2 a2 w2 r2 s2 k2=>hK _ _ _ r2 (hs.trans s2) k2)
     · simp at hlen ⊢;omega
     · refine List.pairwise_append.2 ⟨hpw'.1,(List.pairwise_cons.1 hpw'.2.1).2,fun x hx y hy=>hpw'.2.2 x hx y (List.mem_cons_of_mem _ hy)⟩
     · simp [hsz]
     · intro j
       have hm:=hmem j
       constructor
       · intro hj
         have hj':j∈R1 ++ i :: R2:=by
           rcases List.mem_append.1 hj with h | h
           · exact List.mem_append_left _ h
           · exact List.mem_append_right _ (List.mem_cons_of_mem _ h)
         obtain ⟨h1,h2⟩:=hm.1 hj'
         have hne:i≠j:=by
           intro he
           subst he
           rcases List.mem_append.1 hj with h | h
           · have:=hpw'.2.2 i h i (List.mem_cons_self ..);omega
           · have:=(List.pairwise_cons.1 hpw'.2.1).1 i h;omega
         exact ⟨h1,by rw [getD_set_ne true hne];exact h2⟩
       · rintro ⟨h1,h2⟩
         have hne:i≠j:=by
           intro he
           subst he
           simp [his'] at h2
         rw [getD_set_ne true hne] at h2
         have:=hm.2 ⟨h1,h2⟩
         rcases List.mem_append.1 this with h | h
         · exact List.mem_append_left _ h
         · rcases List.mem_cons.1 h with h | h
           · exact absurd h.symm hne
           · exact List.mem_append_right _ h
     · intro j oj hj hoj ed hed hbd
       by_cases hij:i=j
       · subst hij
         rw [hoi] at hoj
         injection hoj with hoj
         subst hoj
         exact getD_set_true (hall ed hed hbd)
       · rw [getD_set_ne false hij] at hj
         exact getD_set_true (hcl j oj hj hoj ed hed hbd)
theorem ASt {B:ABh->Prop} {n:Nat} {Q:Exit->Act->World->Prop} (rest:List Nat):∀ (l:List Oper) (k:Nat) (e:Env) (a:Act) (w:World) (K:Env->ABh->Prop),
    (∀ (j:Nat) (o:Oper),l[j]? =some o->ops[k + j]? =some o/\APv o=true/\ ∀ x,o.dst=some x->x < n)->AL4 D n e a->RL P B false ops l e w.heap K->
    (∀ e' a' w',AL4 D n e' a'->Same w w'->K e' w'.heap->wpOpsIn (FR ro) m P ops Q rest a' w')->wpOpsIn (FR ro) m P ops Q (List.range' k l.length ++ rest) a w:=by
  intro l;induction l with
  | nil=>intro k e a w K _ r H hK;exact hK _ _ _ r (.refl w) H
  | cons o l ih=>
    intro k e a w K hl r H hK;rw [List.length_cons,List.range'_succ,List.cons_append,wpOpsIn_cons];obtain ⟨h1,h2,h3⟩:=hl 0 o rfl;refine ATy h1 h2 h3 r H fun e' a' w' r' hs hk=>?_;exact ih (k + 1) e' a' w' K (fun j o hj=>by have:=hl (j + 1) o hj;rwa [<- Nat.add_assoc,Nat.add_right_comm] at this) r' hk fun e2 a2 w2 r2 s2 k2=>hK _ _ _ r2 (hs.trans s2) k2
theorem AU2 {B:ABh->Prop} {n:Nat} (hmx:P.follows .mixedOrders=true) {id:Nat} {draw:Bool} {Q:Exit->Act->World->Prop} {e:Env} {a:Act} {w:World} {K:Env->ABh->Prop} (hok:AUh n ops draw=true) (hnd:∀ (j:Nat) (o:Oper),ops[j]? =some o->APv o=true) (r:AL4 D n e a) (H:RL P B (AL2 ops draw) ops ops.toList e w.heap K) (hK:∀ e' a' w',AL4 D n e' a'->Same w w'->K e' w'.heap->Q .normal a' w'):(Code.region id ops draw).wpIn (FR ro) m P Q a w:=by
 cases draw with
 | true=>
   have HL:LI P B (AL2 ops true) ops (List.range ops.size) e w.heap K:=by
     rw [List.range_eq_range',<- Array.length_toList]
     exact Ap4 ops.toList 0 (by simp) e _ H
   refine wpIn_region_any hmx (AZa hok hnd ops.size (List.range ops.size) (Array.replicate ops.size false) e a { w with drawn:=w.drawn + 1 } K (by simp)
       List.pairwise_lt_range (by simp) (fun j=>by
         simp only [List.mem_range]
         constructor
         · intro h;exact ⟨h,by simp [h]⟩
         · exact fun h=>h.1)
       (fun j oj hj _=>by
         exfalso
         rcases Nat.lt_or_ge j ops.size with h' | h'
         · simp [h'] at hj
         · simp [h'] at hj) r HL
       (fun e' a' w' r' hs hk=>hK e' a' w' r' ⟨hs.os,hs.tape,hs.output⟩ hk))
 | false=>
   refine wpIn_region ?_
   have:=ASt (ro:=ro) (m:=m) (Q:=Q) (D:=D) (n:=n) [] ops.toList 0 e a w K (fun j o hj=>by
     have hj':ops[j]? =some o:=by simpa using hj
     exact ⟨by simpa using hj',hnd j o hj',(AK0 hok hj').1⟩) r H (fun e' a' w' r' s k=>hK _ _ _ r' s k)
   rw [List.append_nil,Array.length_toList,<- List.range_eq_range'] at this
   exact this
end
def WI (P:Program):Code->(Exit->Env->ABh->Prop)->Env->ABh->Prop
  | .skip,Q,e,h=>Q .normal e h
  | .region _ ops draw,Q,e,h=> ∃ B,RL P B (AL2 ops draw) ops ops.toList e h (Q .normal)
  | .seq a b,Q,e,h=>WI P a (AKd (fun e h=>WI P b Q e h) Q) e h
  | .cond c x y,Q,e,h=> ∃ b,e.ev c= .bool b/\(b=true->WI P x Q e h)/\(b=false->WI P y Q e h)
  | .block id c,Q,e,h=>WI P c (AKm id Q) e h
  | .exit id,Q,e,h=>Q (.exit id) e h
  | .ret,Q,e,h=>Q .ret e h
  | .label _,Q,e,h=>Q .normal e h
  | _,_,_,_=>False
def okI (n:Nat):Code->Bool
  | .region _ ops draw=>AUh n ops draw && ops.toList.all APv
  | .seq a b=>okI n a && okI n b
  | .cond _ a b=>okI n a && okI n b
  | .block _ c=>okI n c
  | .skip | .exit _ | .ret | .label _=>true
  | _=>false
theorem WI.sound {P:Program} (hmx:P.follows .mixedOrders=true) {n m:Nat} {ro:Option Nat} {D:List Deferred} {c:Code}:∀ {Q:Exit->Env->ABh->Prop} {Q':Exit->Act->World->Prop} {e:Env} {a:Act} {w:World},okI n c=true->AL4 D n e a->WI P c Q e w.heap->
    (∀ x e' a' w',AL4 D n e' a'->Same w w'->Q x e' w'.heap->Q' x a' w')->c.wpIn (FR ro) m P Q' a w:=by
 induction c with
 | skip=>intro Q Q' e a w _ r H hQ;exact wpIn_skip (hQ _ _ _ _ r (.refl w) H)
 | region id ops draw=>
   intro Q Q' e a w hok r H hQ
   simp only [okI,Bool.and_eq_true] at hok
   obtain ⟨B,H⟩:=H
   exact AU2 hmx hok.1 (fun j o hj=>List.all_eq_true.1 hok.2 o (List.mem_of_getElem? (by simpa using hj))) r H fun e' a' w' r' s k=>hQ _ _ _ _ r' s k
 | seq x y ihx ihy=>
   intro Q Q' e a w hok r H hQ
   simp only [okI,Bool.and_eq_true] at hok
   refine wpIn_seq (ihx hok.1 r H fun ex e' a' w' r' s k=>?_)
   cases ex <;> first | exact hQ _ _ _ _ r' s k | exact ihy hok.2 r' k fun Ae e2 a2 w2 r2 s2 k2=>hQ _ _ _ _ r2 (s.trans s2) k2
 | cond c x y ihx ihy=>
   intro Q Q' e a w hok r H hQ
   simp only [okI,Bool.and_eq_true] at hok
   obtain ⟨b,hb,h1,h2⟩:=H
   refine wpIn_cond_split (t:=b) (by rw [r.eval];exact hb) (fun hh=>ihx hok.1 r (h1 hh) hQ) (fun hh=>ihy hok.2 r (h2 hh) hQ)
 | block id c ih=>
   intro Q Q' e a w hok r H hQ
   refine wpIn_block (ih hok r H fun ex e' a' w' r' s k=>?_)
   cases ex <;> first | exact hQ _ _ _ _ r' s k | skip
   rename_i id'
   by_cases hid:id'=id
   · simp only [AKm,Exit.inBlock,hid,if_true] at k ⊢;exact hQ _ _ _ _ r' s k
   · simp only [AKm,Exit.inBlock,hid,if_false] at k ⊢;exact hQ _ _ _ _ r' s k
 | exit id=>intro Q Q' e a w _ r H hQ;exact wpIn_exit (hQ _ _ _ _ r (.refl w) H)
 | ret=>intro Q Q' e a w _ r H hQ;exact wpIn_ret (hQ _ _ _ _ r (.refl w) H)
 | label=>intro Q Q' e a w _ r H hQ;exact wpIn_label (hQ _ _ _ _ r (.refl w) H)
 | loop=>intro Q Q' e a w _ _ H;exact H.elim
 | rangeFunc=>intro Q Q' e a w _ _ H;exact H.elim
 | scope=>intro Q Q' e a w _ _ H;exact H.elim
 | goto=>intro Q Q' e a w _ _ H;exact H.elim
 | refuse=>intro Q Q' e a w _ _ H;exact H.elim
section
variable {P:Program} {Q:Exit->Env->ABh->Prop} {e:Env} {h:ABh}
theorem Ar6 (H:Q .normal e h):WI P .skip Q e h:=H
theorem Atf (H:Q .ret e h):WI P .ret Q e h:=H
theorem Aqo {a b:Code} (H:WI P a (AKd (fun e h=>WI P b Q e h) Q) e h):WI P (.seq a b) Q e h:=H
theorem Api {id:Nat} {c:Code} (H:WI P c (AKm id Q) e h):WI P (.block id c) Q e h:=H
theorem Amv {id:Nat} {l:List Oper} (H:RL P (fun _=>True) false l.toArray l e h (Q .normal)):WI P (.region id l.toArray false) Q e h:=⟨fun _=>True,H⟩
theorem Apj {id:Nat} {l:List Oper} (B:ABh->Prop) (hst:(AL2 l.toArray true,AXb l.toArray true)=(true,true)) (H:RL P B true l.toArray l e h (Q .normal)):WI P (.region id l.toArray true) Q e h:=
  ⟨B,by rw [(Prod.mk.inj hst).1];exact H⟩
end
def Aab (K:Env->ABh->Prop):Exit->Env->ABh->Prop
  | .normal=>K
  | _=>fun _ _=>False
def ARx (P:Program) (l:Nat) (args:List Value) (h:ABh) (K:Value->ABh->Prop):Prop:=
  ∀ w:World,w.heap=h-> ∃ f tmps assign body,(Instr.yield l args.toArray).run P w= .ok (.round l f tmps assign body) w/\RoundIn (FR none) 0 P l f tmps assign body w fun en w'=> ∃ v,en= .returned v/\Same w w'/\K v w'.heap
def AMf (f:FuncId) (tmps:Array Value) (p:Tmp) (assign body:Code) (r:Nat):Loop:= { state:= .ready,pending:=none,fn:=f,tmps,params:= #[p],assign,body,defers:=r }
def Ahz (f:FuncId) (tmps:Array Value) (p:Tmp) (assign body:Code) (r:Nat):Loop:= { state:= .busy,pending:=none,fn:=f,tmps,params:= #[p],assign,body,defers:=r }
theorem AU3 (w:World) (l:Nat) (o:Obj):Same w (w.putObj l o):=⟨rfl,rfl,rfl⟩
theorem Ajb {P:Program} (hmx:P.follows .mixedOrders=true) {l n r f:Nat} {tmps:Array Value} {p:Tmp} {assign body:Code} {v:Value} {e0:Env} {h:ABh} {K:Value->ABh->Prop} (hl:h[l]? =some (.loop (AMf f tmps p assign body r))) (hn:tmps.size=n) (he:∀ t,tmps.getD t undef=e0 t) (hp:p < n) (Ag:okI n assign=true) (Ah:okI n body=true) (H:WI P assign (Aab fun e1 h1=>h1[l]? =some (.loop (AMf f tmps p assign body r))/\WI P body (Aab fun _ h2=>h2[l]? =some (.loop (Ahz f tmps p assign body r))/\K (.bool true) (h2.setIfInBounds l (.loop (AMf f tmps p assign body r)))) e1
      (h1.setIfInBounds l (.loop (Ahz f tmps p assign body r)))) (e0.set p v) h):ARx P l [v] h K:=by
 intro w hw;subst hw;refine ⟨_,_,_,_,run_yield hl rfl,roundIn_of_wpIn trivial ?_⟩;have hrep:Rep n e0 { tmps:=tmps,defers:=[] } :=⟨hn,rfl,he⟩;have Ai:AL4 [] n (e0.set p v) { tmps:=tmps.setIfInBounds p v,defers:=[] } :=AL4.of (hrep.put (some p) v fun x hx=>by cases hx;exact hp);have htm:(((AMf f tmps p assign body r).params.zip #[v]).foldl (fun tmps (x:Tmp × Value)=>match x with | (t,a)=>tmps.setIfInBounds t a) (AMf f tmps p assign body r).tmps)=tmps.setIfInBounds p v:=by simp [AMf]
 have hz:([v]:List Value).toArray= #[v]:=rfl;rw [hz,htm];refine WI.sound (ro:=some l) hmx Ag Ai H fun x e1 a1 w1 r1 s1 k1=>?_;cases x <;> first | exact k1.elim | skip
 obtain ⟨k1,k2⟩:=k1;refine ⟨_,run_beginRound k1 rfl,?_⟩;refine WI.sound (ro:=some l) hmx Ah r1 (w:=w1.putObj l (.loop (Ahz f tmps p assign body r))) k2 fun x e2 a2 w2 r2 s2 k2=>?_;cases x <;> first | exact k2.elim | skip
 obtain ⟨k2,k3⟩:=k2;exact ⟨_,_,run_endRound none k2,.bool true,rfl,(s1.trans (AU3 _ _ _)).trans (s2.trans (AU3 _ _ _)),k3⟩
theorem RL.frameT {P:Program} {B:ABh->Prop} {st:Bool} {ops:Array Oper} {l:List Oper} {e e0:Env} {h:ABh} {K:Env->ABh->Prop} {T:Nat->Prop} (hl:∀ o∈l,∀ t,o.dst=some t->T t) (he:∀ t,¬ T t->e t=e0 t) (H:RL P B st ops l e h K):RL P B st ops l e h fun e' h'=>K e' h'/\ ∀ t,¬ T t->e' t=e0 t:=
  (RL.frame0 H).mono fun e' h' hk=>⟨hk.1,fun t ht=>(hk.2 t fun o ho hd=>ht (hl o ho t hd)).trans (he t ht)⟩
theorem Apk {P:Program} {Q:Exit->Env->ABh->Prop} {e:Env} {h:ABh} {id l:Nat} {pre post:List Oper} {d:Tmp} {c:Operand} {xs:List Operand} {ts:Array TypeId} {ty:TypeId} {pos:String} {af:Array Edge}
    (hnd:((pre ++ post).all APv && (pre ++ ⟨some d,.call ⟨.value c,xs.toArray,ts⟩,ty,pos,af,none⟩ :: post).all AHc)=true)
    (H:RL P (fun _=>True) false (pre ++ ⟨some d,.call ⟨.value c,xs.toArray,ts⟩,ty,pos,af,none⟩ :: post).toArray pre e h fun e1 h1=>e1.ev c= .func (.yield l) #[] #[]/\ ∃ l1,xs.map e1.ev=l1/\ARx P l l1 h1 fun v h2=>
      RL P (fun _=>True) false (pre ++ ⟨some d,.call ⟨.value c,xs.toArray,ts⟩,ty,pos,af,none⟩ :: post).toArray post (e1.set d v) h2 (Q .normal)):
    W P (.region id (pre ++ ⟨some d,.call ⟨.value c,xs.toArray,ts⟩,ty,pos,af,none⟩ :: post).toArray false) Q e h:=by
  intro hmx n id' a w Q' hb r hw hQ;subst hw;rw [<- wpIn_wide (n:=1)];show (Code.region id' _ false).wpIn (FR none) 1 P Q' a w;generalize hops:(pre ++ (⟨some d,.call ⟨.value c,xs.toArray,ts⟩,ty,pos,af,none⟩:Oper) :: post)=ops at *
  have hat:∀ (j:Nat) (o:Oper),ops[j]? =some o->(∀ x,o.dst=some x->x < n):=fun j o hj=>(AL6 (ops:=ops.toArray) hb (j:=j) (by simpa using hj)).1
  have hsz:List.range ops.toArray.size=List.range' 0 pre.length ++ pre.length :: (List.range' (pre.length + 1) post.length ++ []):=by
    rw [List.range_eq_range',<- hops];simp only [List.size_toArray,List.length_append,List.length_cons,List.append_nil];rw [<- List.range'_append_1,Nat.zero_add,List.range'_succ]
  rw [Bool.and_eq_true] at hnd;have hnd:=List.all_eq_true.1 hnd.1;refine wpIn_region ?_;rw [hsz]
  refine ASt (D:=[]) (n:=n) (B:=fun _=>True) _ pre 0 e a w _ (fun j o hj=>?_) (AL4.of r) (RL.frameT (T:=fun t=> ∃ o∈ops,o.dst=some t) (e0:=e) (fun o ho t ht=>⟨o,by rw [<- hops];simp [ho],ht⟩) (fun _ _=>rfl) H) fun e1 a1 w1 r1 s1 k1=>?_
  · have h1:ops[j]? =some o:=by rw [<- hops,List.getElem?_append_left (List.getElem?_eq_some_iff.1 hj).1];exact hj
    exact ⟨by simpa using h1,hnd o (List.mem_append_left _ (List.mem_of_getElem? hj)),hat j o h1⟩
  obtain ⟨⟨hc,l1,hl1,HY⟩,hf1⟩:=k1;rw [wpOpsIn_cons];have hop:ops.toArray[pre.length]? =some ⟨some d,.call ⟨.value c,xs.toArray,ts⟩,ty,pos,af,none⟩:=by rw [<- hops];simp
  unfold wpOpIn;simp only [hop];rw [if_pos (by rfl)];refine ⟨fun _ _=>trivial,?_⟩;obtain ⟨f,tmps,assign,body,hy,HR⟩:=HY w1 rfl
  have hrun:(execOp a1.eval ⟨some d,.call ⟨.value c,xs.toArray,ts⟩,ty,pos,af,none⟩).run P w1= .ok (.round l f tmps assign body) w1:=by
    rw [r1.eval];simp only [execOp,resolve,List.map_toArray,hl1,hc,Deferred.ofValue,pure,bind,Sem.bind,invoke,Array.append_empty,Array.empty_append];exact hy
  show Oper.uponIn _ _ _ _ _ _ _ ((execOp a1.eval ⟨some d,.call ⟨.value c,xs.toArray,ts⟩,ty,pos,af,none⟩).run P w1);rw [hrun];refine ⟨fun _=>Nat.le_refl 1,HR.mono fun en w2 hen=>?_⟩;obtain ⟨v,rfl,s2,k2⟩:=hen;have hdn:d < n:=hat pre.length _ (by simpa using hop) d rfl;have r2:AL4 [] n (e1.set d v) (a1.put (some d) v):=r1.put (some d) v fun x hx=>by cases hx;exact hdn
  refine ASt (D:=[]) (n:=n) (B:=fun _=>True) [] post (pre.length + 1) (e1.set d v) _ w2 _ (fun j o hj=>?_) r2 (RL.frameT (T:=fun t=> ∃ o∈ops,o.dst=some t) (e0:=e) (fun o ho t ht=>⟨o,by rw [<- hops];simp [ho],ht⟩) (fun t ht=>?_) k2) fun e3 a3 w3 r3 s3 k3=>?_
  · have h1:ops[pre.length + 1 + j]? =some o:=by rw [<- hops,List.getElem?_append_right (by omega),show pre.length + 1 + j - pre.length=j + 1 from by omega];exact hj
    exact ⟨by simpa using h1,hnd o (List.mem_append_right _ (List.mem_of_getElem? hj)),hat _ o h1⟩
  · rw [Env.set_other _ _ (fun he=>ht ⟨_,by rw [<- hops];exact List.mem_append_right _ (List.mem_cons_self ..),by rw [he]⟩)];exact hf1 t ht
  · exact hQ e3 a3 w3 r3.rep ((s1.trans s2).trans s3) k3.1 fun t ht=>k3.2 t fun ⟨o,ho,hd⟩=>ht o (by simpa using ho) hd
def Af6 (P:Program) (g:Operand) (p:Tmp) (assign body:Code) (n:Nat) (K:Nat->Env->ABh->Prop) (e:Env) (h:ABh):Prop:=
  ∃ (f:FuncId) (cl:List Value),e.ev g= .func (.func f) #[] cl.toArray/\ ∀ (fn:FuncId) (tmps:Array Value),tmps.size=n->(∀ t,tmps.getD t undef=e t)-> ∀ (h1:ABh) (r b:Nat),Ext h h1->h.size<=r->h.size<=b->r < h1.size->b < h1.size->r≠b->
    h1[r]? =some (.deferred (some []))->h1[b]? =some (.loop (AMf fn tmps p assign body r))->
    AB7 P f (.func (.yield b) #[] #[] :: cl).toArray h1 fun _ h'=>h'[b]? =some (.loop (AMf fn tmps p assign body r))/\K r e (h'.setIfInBounds b (.loop { AMf fn tmps p assign body r with state:= .exhausted }))
def Atg (P:Program) (rs:List ResultVar) (r:Nat) (K:Value->ABh->Prop):Exit->Env->ABh->Prop
  | .normal,e,h | .ret,e,h=>h[r]? =some (.deferred (some []))/\ ∃ v,AWl P rs e (h.setIfInBounds r (.deferred none)) v/\K v (h.setIfInBounds r (.deferred none))
  | _,_,_=>False
theorem Ad6 {P:Program} (hmx:P.follows .mixedOrders=true) {id:Nat} {g:Operand} {p:Tmp} {assign body:Code} {n:Nat} {K:Nat->Env->ABh->Prop} {e1:Env} {a1:Act} {w1:World} {Q':Exit->Act->World->Prop} (r1:Rep n e1 a1) (H:Af6 P g p assign body n K e1 w1.heap) (hQ:∀ r e' a' w',AL4 [{ target:= .collected r,args:= #[] }] n e' a'->Same w1 w'->K r e' w'.heap->Q' .normal a' w'):(Code.block id (.rangeFunc g #[p] assign body)).wpIn Fence.wide 1 P Q' a1 w1:=by
 obtain ⟨f2,cl,hg,HC⟩:=H;refine wpIn_block (wpIn_rangeFunc fun fid _=>?_);have Af:(w1.alloc (.deferred (some []))).heap.size=w1.heap.size + 1:=by show (w1.heap.push _).size=_;simp
 have hext:Ext w1.heap ((w1.alloc (.deferred (some []))).alloc (.loop (AMf fid a1.tmps p assign body w1.heap.size))).heap:=by
   show Ext w1.heap ((w1.heap.push _).push _)
   refine ⟨by simp;omega,fun k hk=>?_⟩
   rw [Array.getElem?_push_lt (by simp;omega)]
   simp [Array.getElem_push_lt hk,hk]
 have h1:((w1.alloc (.deferred (some []))).alloc (.loop (AMf fid a1.tmps p assign body w1.heap.size))).heap[w1.heap.size]? =some (.deferred (some [])):=by
   show ((w1.heap.push _).push _)[w1.heap.size]? =_
   rw [Array.getElem?_push_lt (by simp)];simp
 have h2:((w1.alloc (.deferred (some []))).alloc (.loop (AMf fid a1.tmps p assign body w1.heap.size))).heap[w1.heap.size + 1]? =some (.loop (AMf fid a1.tmps p assign body w1.heap.size)):=by
   have:=World.alloc_heap_new (w1.alloc (.deferred (some []))) (.loop (AMf fid a1.tmps p assign body w1.heap.size))
   rwa [Af] at this
 have hsz:((w1.alloc (.deferred (some []))).alloc (.loop (AMf fid a1.tmps p assign body w1.heap.size))).heap.size=w1.heap.size + 2:=by show ((w1.heap.push _).push _).size=_;simp
 obtain ⟨⟨Ai,Aj,Ak,Am⟩,Ao⟩:=HC fid a1.tmps r1.size r1.get _ w1.heap.size (w1.heap.size + 1) hext (Nat.le_refl _) (Nat.le_succ _) (by omega) (by omega) (by omega) h1 h2;have hcall:=AQ7 ⟨Ai,Aj,Ak,Am⟩ (.func (.yield (w1.heap.size + 1)) #[] #[] :: cl).toArray ((w1.alloc (.deferred (some []))).alloc (.loop (AMf fid a1.tmps p assign body w1.heap.size)));have heval:a1.eval g= .func (.func f2) #[] cl.toArray:=by rw [r1.eval];exact hg
 refine ⟨_,_,_,{ target:= .fn (.func f2) cl.toArray,args:= #[.func (.yield (w1.heap.size + 1)) #[] #[]] },(w1.alloc (.deferred (some []))).alloc (.loop (AMf fid a1.tmps p assign body w1.heap.size)),f2,(.func (.yield (w1.heap.size + 1)) #[] #[] :: cl).toArray,(w1.alloc (.deferred (some []))).alloc (.loop (AMf fid a1.tmps p assign body w1.heap.size)),run_enterLoop_outer fid a1.tmps #[p] assign body,?_,fun _ _=>trivial,?_,fun _=>Nat.le_refl 1,?_⟩
 ·simp only [resolve,heval,Deferred.ofValue,pure,bind,Sem.bind];rw [show (#[] ++ Array.map a1.eval #[Operand.const (Value.func (Fn.yield (w1.heap.size + 1)) #[] #[])]:Array Value)= #[.func (.yield (w1.heap.size + 1)) #[] #[]] by simp;rfl];rfl
 ·show (invoke (.fn (.func f2) cl.toArray) #[.func (.yield (w1.heap.size + 1)) #[] #[]]).run P _=_;simp only [invoke];have:(#[Value.func (.yield (w1.heap.size + 1)) #[] #[]] ++ cl.toArray)=(.func (.yield (w1.heap.size + 1)) #[] #[] :: cl).toArray:=by simp
  rw [this];exact hcall
 ·refine (Ahy (r:=none) (Ao _ rfl)).mono fun en w2 hen=>?_;obtain ⟨v,rfl,s2,k2,k3⟩:=hen;refine ⟨none,_,run_endLoop k2 (by simp [AMf]),?_⟩;have Ar:Same w1 ((w1.alloc (.deferred (some []))).alloc (.loop (AMf fid a1.tmps p assign body w1.heap.size))):=⟨rfl,rfl,rfl⟩;have Au:AL4 [{ target:= .collected w1.heap.size,args:= #[] }] n e1 { a1 with defers:=[{ target:= .collected w1.heap.size,args:= #[] }] ++ a1.defers } :=⟨⟨r1.size,rfl,r1.get⟩,by simp [r1.defers]⟩;exact hQ w1.heap.size e1 _ _ Au (Ar.trans (s2.trans (AU3 _ _ _))) k3
theorem Ajc {P:Program} (hmx:P.follows .mixedOrders=true) {g:Operand} {p:Tmp} {assign body:Code} {n:Nat} {K:Nat->Env->ABh->Prop} {e:Env} {h:ABh} (hok:(okI n assign && okI n body && Nat.blt p n)=true)
    (H:∃ (f:FuncId) (cl:List Value),e.ev g= .func (.func f) #[] cl.toArray/\ ∀ (h1:ABh) (r b:Nat) (ol ob oe:Obj),Ext h h1->h.size<=r->h.size<=b->r < h1.size->b < h1.size->r≠b->h1[r]? =some (.deferred (some []))->h1[b]? =some ol->Aau ol=false->Aau ob=false->Aau oe=false->
      (∀ (v:Value) (h2:ABh) (K':Value->ABh->Prop),h2[b]? =some ol->WI P assign (Aab fun e1 h3=>h3[b]? =some ol/\WI P body (Aab fun _ h4=>h4[b]? =some ob/\K' (.bool true) (h4.setIfInBounds b ol)) e1 (h3.setIfInBounds b ob)) (e.set p v) h2->ARx P b [v] h2 K')->
      AB7 P f (.func (.yield b) #[] #[] :: cl).toArray h1 fun _ h'=>h'[b]? =some ol/\K r e (h'.setIfInBounds b oe)):Af6 P g p assign body n K e h:=by
  obtain ⟨f,cl,hg,H⟩:=H;simp only [Bool.and_eq_true] at hok;refine ⟨f,cl,hg,fun fn tmps hn ht h1 r b hE h2 h3 h4 h5 hne hd hl=>?_⟩;exact H h1 r b _ (.loop (Ahz fn tmps p assign body r)) _ hE h2 h3 h4 h5 hne hd hl rfl rfl rfl fun v h2 K' hl2 HW=>Ajb hmx hl2 hn ht (by have:=hok.2;simpa [Nat.blt,Nat.lt_iff_add_one_le] using this) hok.1.1 hok.1.2 HW
def Ad7:Code->Bool
  | .rangeFunc .. =>true
  | .seq a b=>Ad7 a || Ad7 b
  | .block _ c=>Ad7 c
  | _=>false
def WR (P:Program) (n:Nat):Code->(Nat->Exit->Env->ABh->Prop)->(Exit->Env->ABh->Prop)->Env->ABh->Prop
  | .seq a b,N,Q,e,h=>if Ad7 a=true then WR P n a (fun r=>AKd (fun e h=>WI P b (N r) e h) (N r)) (AKd (fun e h=>W P b Q e h) Q) e h else W P a (AKd (fun e h=>WR P n b N Q e h) Q) e h
  | .block _ (.rangeFunc g ps assign body),N,_,e,h=> ∃ p,ps= #[p]/\Af6 P g p assign body n (fun r e h=>N r .normal e h) e h
  | _,_,_,_,_=>False
def okR (n:Nat):Code->Bool
  | .seq a b=>bif Ad7 a then okR n a && okI n b && okC n b else okC n a && okR n b
  | .block _ (.rangeFunc ..)=>true
  | _=>false
theorem Ar7 {P:Program} {n:Nat} {a b:Code} {N:Nat->Exit->Env->ABh->Prop} {Q:Exit->Env->ABh->Prop} {e:Env} {h:ABh} (ha:Ad7 a=true) (H:WR P n a (fun r=>AKd (fun e h=>WI P b (N r) e h) (N r)) (AKd (fun e h=>W P b Q e h) Q) e h):WR P n (.seq a b) N Q e h:=by
 unfold WR;rw [if_pos ha];exact H
theorem AYs {P:Program} {n:Nat} {a b:Code} {N:Nat->Exit->Env->ABh->Prop} {Q:Exit->Env->ABh->Prop} {e:Env} {h:ABh} (ha:Ad7 a=false) (H:W P a (AKd (fun e h=>WR P n b N Q e h) Q) e h):WR P n (.seq a b) N Q e h:=by
 unfold WR;rw [if_neg (by rw [ha];simp)];exact H
theorem Apl {P:Program} (hmx:P.follows .mixedOrders=true) {n id:Nat} {g:Operand} {p:Tmp} {assign body:Code} {N:Nat->Exit->Env->ABh->Prop} {Q:Exit->Env->ABh->Prop} {e:Env} {h:ABh} (hok:(okI n assign && okI n body && Nat.blt p n)=true) (H:∃ (f:FuncId) (cl:List Value),e.ev g= .func (.func f) #[] cl.toArray/\ ∀ (h1:ABh) (r b:Nat) (ol ob oe:Obj),Ext h h1->h.size<=r->h.size<=b->r < h1.size->b < h1.size->r≠b->h1[r]? =some (.deferred (some []))->h1[b]? =some ol->Aau ol=false->Aau ob=false->Aau oe=false->
      (∀ (v:Value) (h2:ABh) (K':Value->ABh->Prop),h2[b]? =some ol->WI P assign (Aab fun e1 h3=>h3[b]? =some ol/\WI P body (Aab fun _ h4=>h4[b]? =some ob/\K' (.bool true) (h4.setIfInBounds b ol)) e1 (h3.setIfInBounds b ob)) (e.set p v) h2->ARx P b [v] h2 K')->
      AB7 P f (.func (.yield b) #[] #[] :: cl).toArray h1 fun _ h'=>h'[b]? =some ol/\N r .normal e (h'.setIfInBounds b oe)):WR P n (.block id (.rangeFunc g #[p] assign body)) N Q e h:=⟨p,rfl,Ajc hmx hok H⟩
theorem WR.sound {P:Program} (hmx:P.follows .mixedOrders=true) {n:Nat} {c:Code}:∀ {N:Nat->Exit->Env->ABh->Prop} {Q:Exit->Env->ABh->Prop} {Q':Exit->Act->World->Prop} {e:Env} {a:Act} {w:World},okR n c=true->Rep n e a->WR P n c N Q e w.heap->
    (∀ x e' a' w',Rep n e' a'->Same w w'->Q x e' w'.heap->Q' x a' w')->(∀ r x e' a' w',AL4 [{ target:= .collected r,args:= #[] }] n e' a'->Same w w'->N r x e' w'.heap->Q' x a' w')->c.wpIn Fence.wide 1 P Q' a w:=by
 induction c with
 | seq x y ihx ihy=>
   intro N Q Q' e a w hok r H hQ hN
   unfold WR at H
   unfold okR at hok
   by_cases hx:Ad7 x=true
   · rw [if_pos hx] at H
     rw [hx] at hok
     simp only [cond_true,Bool.and_eq_true] at hok
     refine wpIn_seq (ihx hok.1.1 r H (fun ex e' a' w' r' s k=>?_) fun rr ex e' a' w' r' s k=>?_)
     · cases ex <;> first | exact hQ _ _ _ _ r' s k | exact wpIn_wide.2 (W.sound hmx hok.2 r' k fun Ac e2 a2 w2 r2 s2 k2=>hQ _ _ _ _ r2 (s.trans s2) k2)
     · cases ex <;> first | exact hN _ _ _ _ _ r' s k | exact WI.sound (ro:=none) hmx hok.1.2 r' k fun Ac e2 a2 w2 r2 s2 k2=>hN _ _ _ _ _ r2 (s.trans s2) k2
   · rw [if_neg hx] at H
     rw [Bool.not_eq_true] at hx
     rw [hx] at hok
     simp only [cond_false,Bool.and_eq_true] at hok
     refine wpIn_seq (wpIn_wide.2 (W.sound hmx hok.1 r H fun ex e' a' w' r' s k=>?_))
     cases ex <;> first | exact hQ _ _ _ _ r' s k | exact ihy hok.2 r' k (fun Ac e2 a2 w2 r2 s2 k2=>hQ _ _ _ _ r2 (s.trans s2) k2) fun rr Ac e2 a2 w2 r2 s2 k2=>hN _ _ _ _ _ r2 (s.trans s2) k2
 | block id c ih=>
   intro N Q Q' e a w hok r H hQ hN
   cases c <;> first | exact H.elim | skip
   obtain ⟨p,rfl,H⟩:=H
   exact Ad6 hmx r H fun rr e' a' w' r' s k=>hN _ _ _ _ _ r' s k
 | skip=>intro N Q Q' e a w _ _ H;exact H.elim
 | region=>intro N Q Q' e a w _ _ H;exact H.elim
 | cond=>intro N Q Q' e a w _ _ H;exact H.elim
 | loop=>intro N Q Q' e a w _ _ H;exact H.elim
 | exit=>intro N Q Q' e a w _ _ H;exact H.elim
 | ret=>intro N Q Q' e a w _ _ H;exact H.elim
 | rangeFunc=>intro N Q Q' e a w _ _ H;exact H.elim
 | scope=>intro N Q Q' e a w _ _ H;exact H.elim
 | label=>intro N Q Q' e a w _ _ H;exact H.elim
 | goto=>intro N Q Q' e a w _ _ H;exact H.elim
 | refuse=>intro N Q Q' e a w _ _ H;exact H.elim
theorem Ad8 {P:Program} (hmx:P.follows .mixedOrders=true) {f:FuncId} {fn:Func} {c:Code} {rs:List ResultVar} {n:Nat} {l:List Value} {h:ABh} {K:Value->ABh->Prop} (hf:P.funcs[f]? =some fn) (hnm:(fn.name == "runtime.NumGoroutine")=false) (hb:fn.body=some c) (hr:fn.results=rs.toArray) (hnt:fn.ntmps=n) (hl:Nat.ble l.length n=true) (hok:okR n c=true) (H:WR P n c (fun r=>Atg P rs r K) (Ano P rs K) (AYy l) h):AB7 P f l.toArray h K:=by
 refine ⟨⟨fn,hf,hnm,by simp [hb]⟩,fun w hw=>?_⟩;subst hw;have hl:=Nat.le_of_ble_eq_true hl;rw [<- callsIn_wide (n:=1)];have hres:∀ {e':Env} {a':Act} {w2:World} {D:List Deferred} {v:Value},AL4 D n e' a'->AWl P rs e' w2.heap v->(results fn a'.tmps).run P w2= .ok v w2:=fun r hv=>hv fn _ _ hr r.r.get rfl;refine callsIn_of_wp_marks hf hb trivial (WR.sound hmx (n:=n) hok (e:=AYy l) ⟨?_,rfl,fun t=>?_⟩ H (fun x e1 a1 w1 r1 s1 k1=>?_) fun r x e3 a3 w3 r3 s3 k3=>?_)
 ·simp [hnt];omega
 ·rw [AXd];simp only [Array.getD_eq_getD_getElem?];rw [Array.getElem?_append];split
  ·simp
  ·rename_i hge;have hge':l.length<=t:=by simpa using hge
   rw [List.getElem?_eq_none hge'];simp only [Option.getD_none];rw [Array.getElem?_replicate];split <;> rfl
 ·have early:∀ {v:Value},AWl P rs e1 w1.heap v->K v w1.heap->LeavesInM Fence.wide 1 P fn a1.tmps (fun en w'=> ∃ v,en= .returned v/\Same w w'/\K v w'.heap) a1.defers .returning w1:=by
    intro v hv hk
    rw [r1.defers]
    exact ⟨v,hres (AL4.of r1) hv,v,rfl,s1,hk⟩
  cases x <;> first | exact k1.elim | (obtain ⟨v,hv,hk⟩:=k1;exact early hv hk)
 ·have fin:(w3.heap[r]? =some (.deferred (some []))/\ ∃ v,AWl P rs e3 (w3.heap.setIfInBounds r (.deferred none)) v/\K v (w3.heap.setIfInBounds r (.deferred none)))->LeavesInM Fence.wide 1 P fn a3.tmps (fun en w'=> ∃ v,en= .returned v/\Same w w'/\K v w'.heap) a3.defers .returning w3:=by
    rintro ⟨hd,v,hv,hk⟩
    rw [r3.d]
    refine ⟨by simp,.inl ⟨r,w3.putObj r (.deferred none),rfl,run_takeDeferred hd,?_⟩⟩
    exact ⟨v,hres (w2:=w3.putObj r (.deferred none)) r3 hv,v,rfl,s3.trans (AU3 _ _ _),hk⟩
  cases x <;> first | exact k3.elim | exact fin k3
end Go.QF
namespace Go.QF
open Go
theorem Ar8 {P:Program} {B:ABh->Prop} {st:Bool} {ops:Array Oper} {rest:List Oper} {e:Env} {h:ABh} {K:Env->ABh->Prop} {d:Nat} {ty:TypeId} {pos:String} {af:Array Edge} {t el s:Nat} (hT:SlT P t el s) (hb:B h)
    (H:B (h.push (.cells #[] el (0,0)))/\RL P B st ops rest (e.set d (.slice (some ⟨h.size,0,none⟩) 0 0)) (h.push (.cells #[] el (0,0))) K):
    RL P B st ops (⟨some d,.buildSlice t 0 #[],ty,pos,af,none⟩ :: rest) e h K:=by
  refine AOv rfl rfl hb fun w hw=>?_;subst hw;obtain ⟨hu,i0,hi0,hs0⟩:=hT
  have hrun:(execOp e.ev ⟨some d,.buildSlice t 0 #[],ty,pos,af,none⟩).run P w= .ok (.value (.slice (some ⟨w.heap.size,0,none⟩) 0 0)) (w.alloc (.cells #[] el)):=by
    simp [execOp,Instr.buildSlice,AL7 hu,APn hi0,Instr.fill,newRow];rw [show Array.range 0= #[] from rfl,Array.map_empty]
  rw [hrun];exact ⟨⟨rfl,rfl,rfl⟩,H.1,H.2⟩
theorem Apm {h:ABh} {κ:IntKind} {a:Option Addr} {n c:Nat} {L:List Int} (H:SlC (cI κ) h (.slice a n c) L) (hn:a=none):L=[]:=by
 subst hn;obtain ⟨Ls,⟨xa,xc,hv,hx⟩,hA⟩:=H;injection hv with h1 h2 h3
 cases Ls with
 | nil=>exact List.eq_nil_of_length_eq_zero hA.1.symm
 | cons r Ls=>
   obtain ⟨b,o,hb,_⟩:=hx 0 r rfl
   rw [<- h1] at hb;cases hb
theorem Apn {h:ABh} {κ:IntKind} {a:Option Addr} {n c:Nat} (H:SlC (cI κ) h (.slice a n c) []):n=0:=by
 obtain ⟨Ls,⟨xa,xc,hv,hx⟩,hA⟩:=H;injection hv with h1 h2 h3;rw [h2];exact hA.1
theorem Apo (h:ABh):Sp h h.size [[]]:=⟨by simp,fun b hb=>by simp at hb⟩
theorem Apq {P:Program} {B:ABh->Prop} {st:Bool} {ops:Array Oper} {rest:List Oper} {e:Env} {h:ABh} {K:Env->ABh->Prop} {d:Nat} {ty:TypeId} {pos:String} {af:Array Edge} {s x:Operand} {t el:TypeId} {g n c:Nat} {xa:Option Addr} (hT:SlT P t el 1) (hb:B h) (hs:e.ev s= .slice (some ⟨g,0,none⟩) 0 0) (hx:e.ev x= .slice xa n c) (hn:n=0)
    (H:RL P B st ops rest (e.set d (.slice (some ⟨g,0,none⟩) 0 0)) h K):RL P B st ops (⟨some d,.call ⟨.builtin .append,#[s,x],#[t,t]⟩,ty,pos,af,none⟩ :: rest) e h K:=by
  subst hn;refine AOv rfl rfl hb fun w hw=>?_;subst hw;obtain ⟨hu,i,hi,hs0⟩:=hT
  have hc:(Builtin.firstCells i.size 0 (.slice xa 0 c)).run P w= .ok #[] w:=by
    cases xa with
    | none=>exact run_firstCells_none (P:=P) w _ 0 0 c
    | some a=>exact run_firstCells_some (P:=P) w i.size 0 a 0 c [] (by simp) (fun j v hj=>by simp at hj)
  have hrun:(execOp e.ev ⟨some d,.call ⟨.builtin .append,#[s,x],#[t,t]⟩,ty,pos,af,none⟩).run P w= .ok (.value (.slice (some ⟨g,0,none⟩) 0 0)) w:=by
    simp [execOp,resolve,invoke,builtin,hs,hx,Builtin.append_,AL7 hu,APn hi,Builtin.lenOf,hc,storeCells,Result.andThen]
  rw [hrun];exact ⟨⟨rfl,rfl,rfl⟩,hb,H⟩
theorem Amw {P:Program} {B:ABh->Prop} {st:Bool} {ops:Array Oper} {rest:List Oper} {e:Env} {h:ABh} {K:Env->ABh->Prop} {d:Nat} {ty:TypeId} {pos:String} {af:Array Edge} {x y:Operand} {t t2 el:TypeId} {s:Nat} {a:Option Addr} {n c:Nat} (hT:SlT P t el s) (hx:e.ev x= .slice a n c) (hy:e.ev y= .slice none 0 0) (H:RL P B st ops rest (e.set d (.bool a.isNone)) h K):
    RL P B st ops (⟨some d,.binOp .eql t x y t2,ty,pos,af,none⟩ :: rest) e h K:=
  AFw (v:= .bool a.isNone) rfl rfl (fun w=>by
    have hr:(Op.equal t (.slice a n c) (.slice none 0 0)).run P w= .ok a.isNone w:=by
      show (Op.equalIn (9999 + 1) t _ _).run P w=_;rw [Op.equalIn];cases a <;> simp [AL7 hT.1]
    simp [execOp,hx,hy,eqGuard,binOp,hr]) H
def Amx:Value->Bool
  | .slice a _ _=>a.isNone
  | _=>false
theorem Amy {α:Type} {c:Cod α} {P:Program} {B:ABh->Prop} {st:Bool} {ops:Array Oper} {rest:List Oper} {e:Env} {h hh:ABh} {K:Env->ABh->Prop} {d:Nat} {ty:TypeId} {pos:String} {af:Array Edge} {x y:Operand} {t t2 el:TypeId} {s:Nat} {v:Value} {L:List α} {b:Bool} (hT:SlT P t el s) (HL:SlC c hh v L) (hn:Amx v=b) (hx:e.ev x=v) (hy:e.ev y= .slice none 0 0) (H:RL P B st ops rest (e.set d (.bool !b)) h K):
    RL P B st ops (⟨some d,.binOp .neq t x y t2,ty,pos,af,none⟩ :: rest) e h K:=by
 obtain ⟨Ls,⟨a,n,rfl,_⟩,_⟩:=HL;subst hn
 exact AFw (v:= .bool !a.isNone) rfl rfl (fun w=>by
   have hr:(Op.equal t (.slice a Ls.length n) (.slice none 0 0)).run P w= .ok a.isNone w:=by
     show (Op.equalIn (9999 + 1) t _ _).run P w=_
     rw [Op.equalIn]
     cases a <;> simp [AL7 hT.1]
   simp [execOp,hx,hy,eqGuard,binOp,hr]) H
theorem Ah0 {h:ABh} {κ:IntKind} {el g:Nat} {v:Value} {L:List Int} (H:AD3 h el g v (L.map (.int κ))) (hel:Nat.beq el 147=false):OwC (cI κ) el h [g] v L:=by
 refine .inr ⟨g,L.map fun a=>[.int κ a],rfl,?_,⟨by simp,fun i cs a h1 h2=>?_⟩,hel⟩
 ·have:=Aav H;rwa [List.map_map] at this
 ·rw [List.getElem?_map,h2] at h1;cases h1;rfl
theorem ARx.mono {P:Program} {l:Nat} {args:List Value} {h:ABh} {K K':Value->ABh->Prop} (H:ARx P l args h K') (hK:∀ v h',K' v h'->K v h'):ARx P l args h K:=fun w hw=>by
  obtain ⟨f,tmps,assign,body,h1,h2⟩:=H w hw
  exact ⟨f,tmps,assign,body,h1,h2.mono fun en w' ⟨v,he,hs,hk⟩=>⟨v,he,hs,hK _ _ hk⟩⟩
theorem Amz {P:Program} {Q:Exit->Env->ABh->Prop} {e:Env} {h:ABh} {id l:Nat} {o1 o2:Oper} {post:List Oper} {d:Tmp} {c:Operand} {xs:List Operand} {ts:Array TypeId} {ty:TypeId} {pos:String} {af:Array Edge} (hnd:(([o1,o2] ++ post).all APv && ([o1,o2] ++ ⟨some d,.call ⟨.value c,xs.toArray,ts⟩,ty,pos,af,none⟩ :: post).all AHc)=true) (H:RL P (fun _=>True) false (o1 :: o2 :: ⟨some d,.call ⟨.value c,xs.toArray,ts⟩,ty,pos,af,none⟩ :: post).toArray [o1,o2] e h fun e1 h1=>e1.ev c= .func (.yield l) #[] #[]/\ ∃ l1,xs.map e1.ev=l1/\ARx P l l1 h1 fun v h2=>
      RL P (fun _=>True) false (o1 :: o2 :: ⟨some d,.call ⟨.value c,xs.toArray,ts⟩,ty,pos,af,none⟩ :: post).toArray post (e1.set d v) h2 (Q .normal)):
    W P (.region id (o1 :: o2 :: ⟨some d,.call ⟨.value c,xs.toArray,ts⟩,ty,pos,af,none⟩ :: post).toArray false) Q e h:=Apk (pre:=[o1,o2]) hnd H
end Go.QF
namespace Go.Proofs.YtiegjkmfpcgjjaaGreatDoor
open Go Go.QF
theorem Aqp:ZeT Tryz.prog 22 (.slice none 0 0) 24:=ASh (by kernel_rfl)
def aOb (b:Nat) (o:Obj):Asr:=⟨[b],fun h=>h[b]? =some o,fun {G h h'} U d H=>(U.1.2 b (Array.getElem?_eq_some_iff.1 H).1 (d b (by simp))).trans H⟩
namespace Kst
variable {h0 h h':ABh} {l l':List Asr}
theorem ob (k:Kst h0 h l) {i b:Nat} {o:Obj} (e:Rep i l (aOb b o) (aOb b o) l'):h[b]? =some o:=AMp k.p e.1
theorem rg (k:Kst h0 h l) (E:Ext h h') {r b:Nat} {o o2:Obj} (h1:h.size<=r) (h2:h.size<=b) (h3:r < h'.size) (h4:b < h'.size) (hne:r≠b) (H1:h'[r]? =some o) (H2:h'[b]? =some o2):Kst h0 h' (aOb r o :: aOb b o2 :: l):=
  k.n E [aOb r o,aOb b o2] (Afe h1 h2 h3 h4 hne) ⟨H1,H2,trivial⟩
theorem uob (k:Kst h0 h l) {i b:Nat} {o o':Obj} (e:Rep i l (aOb b o) (aOb b o') l') (hd:Aau o=false) (hd':Aau o'=false):∃ h',Array.setIfInBounds h b o'=h'/\UpT [b] h h'/\Kst h0 h' l':=by
 have H:h[b]? =some o:=AMp k.p e.1;have hb:=(Array.getElem?_eq_some_iff.1 H).1;have H':(h.setIfInBounds b o')[b]? =some o':=by simp [hb]
 have U:UpT [b] h (h.setIfInBounds b o'):=⟨⟨by simp,fun k hk hn=>by rw [Array.getElem?_setIfInBounds_ne (fun he=>hn (by simp [he]))]⟩,fun x hx hl=>by
   rw [List.mem_singleton.1 hx];exact ⟨⟨o,H,hd⟩,⟨o',H',hd'⟩⟩⟩
 exact ⟨_,rfl,U,k.u e U H' (by simp [aOb]) (fun x hx=>by simp [aOb] at hx;subst hx;simpa using hb) fun x hx=> .inl hx⟩
end Kst
def AK7 (fuel:Nat) (L:List Int):Option (List Int):=if L.length<=100000000 then some L else none
theorem APw {fuel:Nat} {h:ABh} {v:Value} {L r:List Int} (H:SlC (cI .i64) h v L) (hp:AK7 fuel L=some r):AB7 Tryz.prog 37 #[v] h (fun x h'=>Ext h h'/\ ∃ (x0:Value) (F0:List Nat),x=x0/\OwC (cI .i64) 2 h' F0 x0 r/\Sp h' h.size [F0]):=by
 unfold AK7 at hp;obtain ⟨hl,hp⟩:=ifN hp;cases hp;obtain ⟨a,n,c,hv⟩:∃ a n c,v= .slice a n c:=by obtain ⟨Ls,⟨xa,xc,hv,_⟩,_⟩:=H;exact ⟨_,_,_,hv⟩
 subst hv;refine ACw (l:=[_]) mx Tryz.func37 rfl rfl rfl rfl rfl (by kernel_rfl) (ABi (ABp (ABm (ABi (Wk (Amw (a:=a) (n:=n) (c:=c) ABv rfl rfl (ABo (⟨_,rfl,fun hc=>?_,fun hc=>?_⟩))))))))
 ·refine ABi (ABp (ABr (AB0 ?_)));have hL:L=[]:=Apm H (by cases a with | none=>rfl | some a=>cases hc);subst hL;exact ⟨_,ABt,Ext.refl _,_,[],rfl,Agr _ _ _,Apo _⟩
 ·refine ABs (q_t (ABi (Ar8 ABv trivial ⟨trivial,?_⟩)));have E0:Ext h (h.push (.cells #[] 2 (0,0))):=AEa _ _;have hO:AD3 (h.push (.cells #[] 2 (0,0))) 2 h.size (.slice (some ⟨h.size,0,none⟩) 0 0) []:=AXf h 2 [] (by simp);by_cases hL:L=[]
  ·subst hL;refine Wk (Apq (xa:=a) (n:=n) (c:=c) ABv trivial rfl rfl (Apn H) (ABp (ABr ?_)));exact ⟨_,ABt,E0,_,[h.size],rfl,Ah0 (κ:= .i64) hO (by kernel_rfl),AGu (Nat.le_refl _) (by simp)⟩
  ·have H2:Sl (h.push (.cells #[] 2 (0,0))) (.slice a n c) (L.map (.int .i64)):=Aqj (H.ext E0);refine Wk (Ap6 (bytes:=8) ABv AHg rfl trivial rfl hO rfl H2 (fun u hu=>by obtain ⟨q,_,rfl⟩:=List.mem_map.1 hu;rfl) (by simpa using hL) (by simp;omega) (by simp;omega) fun v' g' h' HO hg U=>⟨trivial,?_⟩);refine ABp (ABr ?_);have Ae:h.size<=g':=by rcases hg with rfl | rfl <;> simp
   exact ⟨_,ABt,⟨Nat.le_trans E0.1 U.1,fun k hk=>(U.2 k (by simp;omega) (by omega)).trans (E0.2 k hk)⟩,_,[g'],rfl,Ah0 (κ:= .i64) (v:=v') (by simpa using HO) (by kernel_rfl),AGu Ae HO.lt⟩
end Go.Proofs.YtiegjkmfpcgjjaaGreatDoor
namespace Go.Proofs.YtiegjkmfpcgjjaaGreatDoor
open Go Go.QF
open Go.ChangeShapes Go.WideShapes Go.ChangeAt Go.RowKit
set_option maxRecDepth 100000
theorem Apr {H:Type} {enc:TypeId × Value->H} {W:World} {fuel:Nat} {v:Value} {x:DataW H × List MemPlace} (hf:DataW.trod enc Tryz.prog W 0 (fun _=>true) true fuel 23 [v]=some x):∃ Z:List Int,SlC (cI .i64) W.heap v Z:=by
 rcases open_ints Tryz.underlying23 Tryz.underlying2 AVf hf with ⟨hcs,_⟩ | ⟨a,len,cap,zs,hcs,_,hl,_,hz,_,hcell,hwz⟩
 ·simp at hcs;subst hcs;exact ⟨[],Agq _ _⟩
 ·simp at hcs;subst hcs;simp only [if_true] at hz;refine ⟨zs.take len,AYg (APr (by simp;omega) (fun h=>by cases h) fun a' ha i x hx=>?_)⟩;injection ha with ha;subst ha;have hi:i < len:=by have:=(List.getElem?_eq_some_iff.1 hx).1;simp at this;omega
  rw [hcell i (by omega)];rw [List.getElem?_map,List.getElem?_take,if_pos hi,List.getElem?_eq_getElem (by omega)] at hx;simp only [Option.map_some,Option.some.injEq] at hx;rw [<- hx,List.getD_eq_getElem?_getD,List.getElem?_eq_getElem (by omega)];rfl
theorem Ajd {H:Type} {enc:TypeId × Value->H} {W:World} {v:Value} {d:DataW H} {p:List MemPlace} (hv:∃ a len cap,v= .slice a len cap) (h:DataW.Trod enc Tryz.prog W 0 (fun _=>true) true 23 v d p):∃ Z:List Int,SlC (cI .i64) W.heap v Z:=by
 obtain ⟨fuel,hf⟩:=h;obtain ⟨a,len,cap,rfl⟩:=hv;exact Apr hf
end Go.Proofs.YtiegjkmfpcgjjaaGreatDoor
namespace Go.Proofs.YtiegjkmfpcgjjaaGreatDoor
open Go Go.QF
set_option maxRecDepth 100000
theorem AU4 {M:List (List Int)} (R:AV4 M):M=tab M.length M.length (ent M):=AXj R.2.1
theorem Am0 {n:Nat} {A:Nat->Nat->Int} (hn:n<=8) (R:Ad1 n A):Ad5 (tab n n A):=Ad2 (B:=192000) (by decide) fun i j hi hj=>by have:=AW7 hn R hi hj;omega
theorem Ad9 {M:List (List Int)} (R:AV4 M):1<=det M.length (ent M)/\det M.length (ent M)<=10000:=⟨by have:=R.2.2.pos _ (Nat.le_refl _);omega,R.2.2.dt⟩
theorem Aps {M:List (List Int)} (R:AV4 M) {i j:Nat} (hi:i < M.length) (hj:j < M.length):(ent M i j).natAbs<=192000:=by have:=AW7 R.1.2 R.2.2 hi hj;omega
theorem Aje {fuel:Nat} {M:List (List Int)} (R:AV4 M) (hf:100 < fuel):AH1 fuel M=some (det M.length (ent M)):=by
 apply ok_eq;obtain ⟨v1,v2⟩:=Ad9 R;have hT:=AU4 R;have h1:=R.1;unfold AH1;generalize hF:ent M=F at *;generalize hL:M.length=n at *;have hb:∀ i j,i < n->j < n->(F i j).natAbs<=192000:=fun i j hi hj=>by subst hF;subst hL;exact Aps R hi hj
 rw [hT];refine ABn (AC6 (Af2 h1.1 (by omega) (fun i j hi hj=>Nat.le_trans (hb i j hi hj) (by decide)) (by omega))) fun x hx=>?_;subst hx;refine ABn (AC6 (AUw h1.2 (fun i j hi hj=>Nat.le_trans (hb i j hi hj) (by decide)) (by omega))) fun y hy=>?_;subst hy;refine ABn (AC6 (a:=(det n F,true)) (if_pos (by omega))) fun z hz=>ABj ?_;rw [hz]
theorem APp (a:Int) (m:Nat) (ha:0<=a) (hm:0 < m):∃ q:Nat,Int.tmod a (m:Int)=q/\q < m:=by
 rw [Int.tmod_eq_emod_of_nonneg ha];have h1:=Int.emod_nonneg a (show (m:Int)≠0 by omega);have h2:=Int.emod_lt_of_pos a (show (0:Int) < m by omega);exact ⟨(a % m).toNat,by omega,by omega⟩
end Go.Proofs.YtiegjkmfpcgjjaaGreatDoor
namespace Go.Proofs.YtiegjkmfpcgjjaaGreatDoor
open Go Go.QF
set_option maxRecDepth 100000
set_option maxHeartbeats 4000000
def AKa (fuel:Nat) (a3:LiI) (Ab:Int):Option ((Int) ⊕ ((Bool) ⊕ (Unit))):=
  (if Ab < (a3.length:Int) then ((gI a3 Ab).bind fun Ac=>((gI a3 0).bind fun Ad=>(if ¬ (Ac.length:Int)=(Ad.length:Int) then (some (Sum.inr<| Sum.inl <| false)) else (some (Sum.inl (w64 (Ab + 1))))))) else (some (Sum.inr<| Sum.inr <| ())))
def AHq (fuel:Nat) (a3:LiI):Option Bool:=
  (((if (a3.length:Int) < 1 then (some (Sum.inl <| false)) else (if 16 < (a3.length:Int) then (some (Sum.inl <| false)) else ((gI a3 0).bind fun Ab=>(if (Ab.length:Int) < 1 then (some (Sum.inl <| false)) else (if 16 < (Ab.length:Int) then (some (Sum.inl <| false)) else (some (Sum.inr <| ()))))))):Option ((Bool) ⊕ (Unit))).bind (fun ex=>match ex with | Sum.inl Ac=>(some Ac) | Sum.inr (_)=>((iter (fun s=>AKa fuel a3 s) fuel 0).bind (fun ex=>match ex with | Sum.inl Ad=>(some Ad) | Sum.inr (_)=>(some true)))))
theorem APa {fuel:Nat} {h:ABh} {Aq:Value} {a3:LiI} {r:Bool} (H2:AFl (cI .i64) h Aq a3) (hp:AHq fuel a3=some r):AB7 Tryz.prog 69 #[Aq] h (fun x h'=>Ext h h'/\x= .bool r):=by
 unfold AHq at hp;refine cwf (l:=[_]) Tryz.func69 rfl rfl (ABi (ABp ?_));have K0:=Kst.k0 h;obtain ⟨A4,Ar,Ac⟩:=ABl hp;refine AN1 134217700 (fun x:Unit=>[]) (fun x h'=>(Sum.inr <| ())=A4/\Kst h h' (K0.L)) ?_ ?_
 ·refine ABi (Wk (ADg AB2 rfl H2 (ACx rfl rfl (Wk ?_))));by_cases Ah:(a3.length:Int) < 1
  ·rw [decide_eq_true Ah];refine AJx 8 true (ABy rfl (Wk (ALh 13 true (ABy rfl (Wk (ALh 20 true (ABy rfl (ABo (AB8 rfl (ABi (ABp ?_)))))))))));obtain rfl:=ABk (ifT Ar Ah);refine ABr (AB0 ?_);obtain rfl:=ABk Ac;exact ⟨_,ABt,K0.x,rfl⟩
  ·have Au:=ifF Ar Ah;rw [decide_eq_false Ah];refine ACk 8 false (Wk (ACk 8 false (ADg AB2 rfl H2 (ACk 8 false (AIm rfl rfl (ABu rfl (Wk ?_)))))));by_cases Ai:16 < (a3.length:Int)
   ·rw [decide_eq_true Ai];refine ALh 13 true (ABy rfl (Wk (ALh 20 true (ABy rfl (ABo (AB8 rfl (ABi (ABp ?_))))))));obtain rfl:=ABk (ifT Au Ai);refine ABr (AB0 ?_);obtain rfl:=ABk Ac;exact ⟨_,ABt,K0.x,rfl⟩
   ·rw [decide_eq_false Ai];refine ACk 13 false (Wk (ACk 13 false ?_));obtain ⟨A5,Av,Aw⟩:=ABl (ifF Au Ai);refine AIj AB2 rfl H2 rfl Av fun Br Bt Bu A6 A7=>ACk 13 false (AB4 ACn rfl (ABx A6 K0.x) (ACk 13 false (ADr ABv rfl A7 (ACk 13 false (ACx rfl rfl (ABu rfl (Wk ?_)))))));by_cases Aj:(A5.length:Int) < 1
    ·rw [decide_eq_true Aj];refine ALh 20 true (ABy rfl (ABo (AB8 rfl (ABi (ABp ?_)))));obtain rfl:=ABk (ifT Aw Aj);refine ABr (AB0 ?_);obtain rfl:=ABk Ac;exact ⟨_,ABt,K0.x,rfl⟩
    ·have Ax:=ifF Aw Aj;rw [decide_eq_false Aj];refine ACk 20 false (Wk (ACk 20 false (AIj AB2 rfl H2 rfl Av fun Bv Bw Bx A8 A9=>ACk 20 false (AB4 ACn rfl (ABx A8 K0.x) (ACk 20 false (ADr ABv rfl A9 (ACk 20 false (AIm rfl rfl (ABu rfl (ABo (⟨_,rfl,fun Ak=>?_,fun Ak=>?_⟩)))))))))))
     ·refine ABi (ABp ?_);obtain rfl:=ABk (AC1 Ax Ak);refine ABr (AB0 ?_);obtain rfl:=ABk Ac;exact ⟨_,ABt,K0.x,rfl⟩
     ·refine ABs (q_t ?_);exact ⟨(():Unit),⟨ABk (AC2 Ax Ak),K0⟩,trivial⟩
 rintro ⟨⟩ By Bz ⟨Ba,Ay⟩;subst Ba;refine ABm (ABi (Wk (ADg AB2 rfl H2 (Wk (ABo (ABq ?_))))));obtain ⟨Am,Bb,Az⟩:=ABl Ac;obtain ⟨Bc,Be,Bf⟩:=ACg Bb;refine ACi 2198486384660 (fun x:(Int)=>[(29,(.int .i64 x))]) (fun k x h'=>iter Bc k x=some Am/\Kst h h' (Ay.L)) (by kernel_rfl) fuel (0:(Int)) ?_ ⟨rfl,trivial⟩ ?_
 ·exact ⟨Bf,Ay⟩
 rintro B1 Bg B2 B3 ⟨Bh,Ad⟩;obtain ⟨Bi,B4,rfl,Ae,Af⟩:=AB3 Bh;rw [Be] at Ae;dsimp only at Ae;unfold AKa at Ae;refine ABi (ACx rfl rfl (ABo (ABm (⟨_,rfl,fun Ao=>?_,fun Ao=>?_⟩))))
 ·refine ABs (q_t (ABm (ABq (ABi ?_))));obtain ⟨B5,Bj,Bl⟩:=ABl (AC1 Ae Ao);refine AIj AB2 rfl H2 rfl Bj fun B6 B7 B8 Bm Bn=>AB4 ACn rfl (ABx Bm Ad.x) (ACq (Wk (ADr ABv rfl Bn (Wk ?_))));obtain ⟨B9,Bo,A3⟩:=ABl Bl;refine AIj AB2 rfl H2 rfl Bo fun Ca Cb Cd Bp Bq=>AB4 ACn rfl (ABx Bp Ad.x) (ADr ABv rfl Bq (AG8 rfl rfl (ABo (⟨_,rfl,fun Ap=>?_,fun Ap=>?_⟩))))
  ·refine ABi (ABp ?_);obtain rfl:=ABk (AC1 A3 Ap);change _=Am at Af;subst Af;refine ABr (ADn (AB0 (AB0 (ADn (AB0 ?_)))));obtain rfl:=ABk Az;exact ⟨_,ABt,Ad.x,rfl⟩
  ·refine ABs (q_b (q_t (ABw (ACy rfl rfl (Wk (ABo ?_))))));obtain rfl:=ABk (AC2 A3 Ap);exact ⟨Bi,((w64 (Bg + 1)):(Int)),Nat.lt_succ_self _,⟨Af,Ad⟩,rfl,trivial⟩
 ·obtain rfl:=ABk (AC2 Ae Ao);change _=Am at Af;subst Af;refine ACb (AB9 (AB9 (ADj (q_t (ABi (ABp (ABr ?_)))))));obtain rfl:=ABk Az;exact ⟨_,ABt,Ad.x,rfl⟩
def AKi (fuel:Nat) (a3:LiI):Option Bool:=
  ((AHq fuel a3).bind fun x5=>(if x5=true then ((gI a3 0).bind fun Ac=>(if (a3.length:Int)=(Ac.length:Int) then (some (decide ((a3.length:Int)<=8))) else (some false))) else (some false)))
theorem AUd {fuel:Nat} {h:ABh} {Ae:Value} {a3:LiI} {r:Bool} (H2:AFl (cI .i64) h Ae a3) (hp:AKi fuel a3=some r):AB7 Tryz.prog 72 #[Ae] h (fun x h'=>Ext h h'/\x= .bool r):=by
 unfold AKi at hp;refine cwf (l:=[_]) Tryz.func72 rfl rfl (ABi (ACq (Wk ?_)));have K0:=Kst.k0 h;obtain ⟨x5,Ak,Ag⟩:=ABl hp;refine ACu rfl (APa (H2.ext K0.x) Ak) fun Av h9 E8 Ao=>?_;subst Ao;refine Wk ?_;have Ab:=K0.e E8;cases Ah:x5
 ·refine ALh 5 false (AF9 5 false (ABu rfl (Wk (AJx 14 false (ABu rfl (ABp (ABr ?_)))))));obtain rfl:=ABk (AIz Ag Ah);exact ⟨_,ABt,Ab.x,rfl⟩
 ·refine ACk 5 true (Wk (ACk 5 true (ADg AB2 rfl H2 (ACk 5 true (Wk (ACk 5 true ?_))))));obtain ⟨Ap,Aq,Ai⟩:=ABl (ifT Ag Ah);refine AIj AB2 rfl H2 rfl Aq fun Ax Ay Az Ar Au=>ACk 5 true (AB4 ACn rfl (ABx Ar Ab.x) (ACk 5 true (ADr ABv rfl Au (ACk 5 true (ADo rfl rfl (ABy rfl (Wk ?_)))))));by_cases Ac:(a3.length:Int)=(Ap.length:Int)
  ·rw [decide_eq_true Ac];refine ACk 14 true (Wk (ACk 14 true (ADg AB2 rfl H2 (ACk 14 true (AYa rfl rfl (ABy rfl (ABp (ABr ?_))))))));obtain rfl:=ABk (ifT Ai Ac);exact ⟨_,ABt,Ab.x,rfl⟩
  ·rw [decide_eq_false Ac];refine AJx 14 false (ABu rfl (ABp (ABr ?_)));obtain rfl:=ABk (ifF Ai Ac);exact ⟨_,ABt,Ab.x,rfl⟩
def AEp (fuel:Nat) (a1:Int):Option Int:=
  (if a1 < 2 then (some 1) else (if 2147483647 < a1 then (some 1) else (some 0)))
theorem ALm {fuel:Nat} {h:ABh} {a1 r:Int} (hp:AEp fuel a1=some r):AB7 Tryz.prog 70 #[(.int .i64 a1)] h (fun x h'=>Ext h h'/\x= .int .i64 r):=by
 unfold AEp at hp;refine cwf (l:=[_]) Tryz.func70 rfl rfl (ABi (ABp (ABm (ABi (Wk (ACx rfl rfl (Wk ?_)))))));have K0:=Kst.k0 h;by_cases Aa:a1 < 2
 ·rw [decide_eq_true Aa];refine AF9 5 true (ABy rfl (ABo (AB8 rfl (ABi (ABp (ABr (AB0 ?_)))))));obtain rfl:=ABk (ifT hp Aa);exact ⟨_,ABt,K0.x,rfl⟩
 ·have Ae:=ifF hp Aa;rw [decide_eq_false Aa];refine ACk 5 false (Wk (ACk 5 false (AIm rfl rfl (ABu rfl (ABo (⟨_,rfl,fun Ad=>?_,fun Ad=>?_⟩))))))
  ·refine ABi (ABp (ABr (AB0 ?_)));obtain rfl:=ABk (AC1 Ae Ad);exact ⟨_,ABt,K0.x,rfl⟩
  ·refine ABs (q_t (ABi (ABp (ABr ?_))));obtain rfl:=ABk (AC2 Ae Ad);exact ⟨_,ABt,K0.x,rfl⟩
def AIu (fuel:Nat) (a5 Ad:Int) (Ae:LiA) (Ab:Int) (Ac:LiI):Option ((Int × LiI) ⊕ ((LiI))):=
  (if Ab < (Ae.length:Int) then ((gI Ae Ab).bind fun Ag=>((gI Ac Ad).bind fun Af=>(if a5≠0 then (if a5≠0 then ((gI Af Ab).bind fun Ah=>(some (Sum.inl ((w64 (Ab + 1)),(sI Ac Ad (sI Af Ab (Int.tmod (w64 ((Int.tmod Ag a5) + a5)) a5))))))) else none) else none))) else (some (Sum.inr<| Ac)))
def AIv (fuel:Nat) (a3:LiI) (a5 Aa:Int) (Ac:LiI):Option ((Int × LiI) ⊕ ((LiI))):=
  (if Aa < (a3.length:Int) then ((gI a3 Aa).bind fun Ab=>(if 0<=(Ab.length:Int)/\(Ab.length:Int)<=100000000 then ((gI Ac Aa).bind fun Ag=>((iter (fun s=>AIu fuel a5 Aa Ab s.1 s.2) fuel (0,(sI Ac Aa (List.replicate (Int.toNat (Ab.length:Int)) (0:Int))))).bind (fun (Af:LiI)=>(some (Sum.inl ((w64 (Aa + 1)),Af)))))) else none)) else (some (Sum.inr<| Ac)))
def AFy (fuel:Nat) (a3:LiI) (a5:Int):Option LiI:=
  (if 0<=(a3.length:Int)/\(a3.length:Int)<=100000000 then ((iter (fun s=>AIv fuel a3 a5 s.1 s.2) fuel (0,(List.replicate (Int.toNat (a3.length:Int)) ([]:List Int)))).bind (fun (Ac:LiI)=>(some Ac))) else none)
theorem AM2 {fuel:Nat} {h:ABh} {Au:Value} {a3:LiI} {a5:Int} {r:LiI} (H2:AFl (cI .i64) h Au a3) (hp:AFy fuel a3 a5=some r):AB7 Tryz.prog 71 #[Au,(.int .i64 a5)] h (fun x h'=>Ext h h'/\ ∃ (x0:Value) (F0:List Nat) (Bf:List LnA) (Bg:List Value),x=x0/\AFg (cI .i64) 23 2 h' F0 Bf Bg x0 r/\Sp h' h.size [F0]):=by
 unfold AFy at hp;refine cwf (l:=[_,_]) Tryz.func71 rfl rfl (ABi (ACq (Wk (ADg AB2 rfl H2 ?_))));obtain ⟨Bh,Bi⟩:=ifN hp;refine AUp (cI .i64) 2 AB2 AMl rfl trivial tt2 rfl rfl (by decide) Bh fun Bj Bl Bm Ax C8 Bn E8 S9=>ABp (ABm (ABi (Wk (ADg AB2 rfl H2 (Wk (ABo (ABq ?_)))))));have Ay:=(Kst.k0 h).no2 E8 S9 Bn;obtain ⟨Az,Bq,Br⟩:=ABl Bi;obtain ⟨Bt,Bu,Bv⟩:=ACg Bq;refine ACi 281474976678848 (fun x:(Int) × (LiI) × LnA × LnN × LvA=>[(15,(.int .i64 x.1))]) (fun k x h'=>iter Bt k (x.1,x.2.1)=some Az/\Kst h h' (Ay.L.set 0 (aO2 (cI .i64) 23 2 x.2.2.1 x.2.2.2.1 x.2.2.2.2 Ax x.2.1))) (by kernel_rfl) fuel ((0,(List.replicate (Int.toNat (a3.length:Int)) ([]:List Int)),Bj,Bl,Bm):(Int) × (LiI) × LnA × LnN × LvA) ?_ ⟨rfl,trivial⟩ ?_
 ·exact ⟨Bv,Ay⟩
 rintro C9 ⟨Ab,Bw,Da,A3,Bx⟩ Db Dc ⟨By,Ad⟩;obtain ⟨Bz,Dd,rfl,Ae,Aj⟩:=AB3 By;rw [Bu] at Ae;dsimp only at Ae;unfold AIv at Ae;refine ABi (ACx rfl rfl (ABo (ABm (⟨_,rfl,fun Ak=>?_,fun Ak=>?_⟩))))
 ·refine ABs (q_t (ABm (ABq (ABi (Wk ?_)))));obtain ⟨B1,B2,B3⟩:=ABl (AC1 Ae Ak);refine AIj AB2 rfl H2 rfl B2 fun De Df Dg B4 Am=>AB4 ACn rfl (ABx B4 Ad.x) (ACd (ACq (Wk (Wk (Wk (ADr ABv rfl Am ?_))))));obtain ⟨B5,B6⟩:=ifN B3;refine ARf (c:=(cI .i64)) (a:=0) ABv AHg rfl rfl (fun _=>rfl) rfl trivial tt2 rfl rfl (by decide) B5 fun A4 B7 Dh B8 B9 Ca Cb=>?_;have Af:=Ad.no B9 (AGu Ca Cb) B8;obtain ⟨Di,A5,Cd⟩:=ABl B6;refine ADu AB2 rfl (Af.o2 p1) rfl A5 fun Ce Dj Cf Dk Dl=>AWc ACn (Af.o2 p1) A5 Cf rfl rfl (Af.o p0) (Af.dj p0 p1 (by decide)) fun Dn Cg Ch Ci=>AMg (Wk (ADr ABv rfl Am (Wk (ABo (ABq ?_)))));obtain ⟨A6,Cj,Ck⟩:=ABl Cd;obtain ⟨Cm,Cn,Co⟩:=ACg Cj;have Ao:=(Af.m2 p0 p1 (by decide) Ch Cg (fun z hz=> .inl (Ci z hz))).sel [1] (by decide);dsimp only [AI0,ALr] at Ao;refine ACi 140737219920640 (fun x:(Int) × (LiI) × LnA × LnN × LvA=>[(28,(.int .i64 x.1))]) (fun k x h'=>iter Cm k (x.1,x.2.1)=some A6/\Kst h h' (Ao.L.set 0 (aO2 (cI .i64) 23 2 x.2.2.1 x.2.2.2.1 x.2.2.2.2 Ax x.2.1))) (by kernel_rfl) fuel ((0,(sI Bw Ab (List.replicate (Int.toNat (B1.length:Int)) (0:Int))),(Ce :: (A3.set (Int.toNat Ab) [A4]).flatten),(A3.set (Int.toNat Ab) [A4]),(Bx.set (Int.toNat Ab) B7)):(Int) × (LiI) × LnA × LnN × LvA) ?_ ⟨rfl,trivial⟩ ?_
  ·exact ⟨Co,Ao⟩
  rintro Do ⟨A7,A8,A9,Ba,Bb⟩ Dp Dq ⟨Cp,Ac⟩;obtain ⟨Cq,Dr,rfl,Ag,Ap⟩:=AB3 Cp;rw [Cn] at Ag;dsimp only at Ag;unfold AIu at Ag;refine ABi (ACx rfl rfl (ABo (ABm (⟨_,rfl,fun Aq=>?_,fun Aq=>?_⟩))))
  ·refine ABs (q_t (ABm (ABq (ABi (Wk ?_)))));obtain ⟨Bc,Cr,Ct⟩:=ABl (AC1 Ag Aq);refine AIf (c:=(cI .i64)) ABv rfl Am rfl Cr fun Ds Dt Du Cu Cv=>?_;obtain rfl:=Cu;refine AB4 ACr rfl (ABx (Cv 0 _ rfl) Ac.x) (ACd (ABp (AMh (Wk (Wk ?_)))));obtain ⟨Cw,Ar,Cx⟩:=ABl Ct;refine ADu AB2 rfl (Ac.o2 p0) rfl Ar fun Dv Dw Dx Cy Cz=>AB4 ACn rfl Cz (Wk (Wk (Wk ?_)));obtain ⟨C0,C1⟩:=ifN Cx;refine AF7 rfl rfl C0 (Wk (ACy rfl rfl (Wk ?_)));obtain ⟨C2,C3⟩:=ifN C1;refine AF7 rfl rfl C2 ?_;obtain ⟨Dy,Be,C4⟩:=ABl C3;refine AE7 (m:=Ab) ABv rfl (Ac.o2 p0) Cy Ar rfl Be fun Dz C5=>AJo (m:=Ab) (AF6 ACr rfl rfl rfl) (Ac.o2 p0) C5 Ar Be (show ((cI .i64)).rep _ (Int.tmod (w64 ((Int.tmod Bc a5) + a5)) a5) _ from rfl) fun D0 C6 C7=>ACl (q_b (q_t (ABw (ACy rfl rfl (Wk (ABo ?_))))));obtain rfl:=ABk C4;exact ⟨Cq,(((w64 (A7 + 1)),(sI A8 Ab (sI Cw A7 (Int.tmod (w64 ((Int.tmod Bc a5) + a5)) a5))),A9,Ba,Bb):(Int) × (LiI) × LnA × LnN × LvA),Nat.lt_succ_self _,⟨Ap,(Ac.uO2 p0 C7 C6)⟩,rfl,trivial⟩
  ·obtain rfl:=ABk (AC2 Ag Aq);change _=A6 at Ap;subst Ap;refine ACb (AB9 (AB9 (ADj (q_b (q_t (ABw (ACy rfl rfl (Wk (ABo ?_)))))))));obtain rfl:=ABk Ck;exact ⟨Bz,(((w64 (Ab + 1)),A8,A9,Ba,Bb):(Int) × (LiI) × LnA × LnN × LvA),Nat.lt_succ_self _,⟨Aj,Ac⟩,rfl,trivial⟩
 ·obtain rfl:=ABk (AC2 Ae Ak);change _=Az at Aj;subst Aj;refine ACb (AB9 (AB9 (ADj (q_t (ABi (Wk (ABp (ABr ?_))))))));obtain rfl:=ABk Br;exact ⟨_,ABt,Ad.x,_,_,_,_,rfl,(Ad.o2 p0),Ad.s.sel [0] (by decide)⟩
def AE9 (fuel:Nat) (a3:LiI) (a5:Int):Option (LiI × Int):=
  ((AHq fuel a3).bind fun x6=>(if (!x6)=true then (some ([],3)) else ((AEp fuel a5).bind fun Ac=>(if ¬ Ac=0 then (some ([],Ac)) else ((AFy fuel a3 a5).bind fun Ae=>(some (Ae,0)))))))
theorem AKt {fuel:Nat} {h:ABh} {Ag:Value} {a3:LiI} {a5:Int} {r:(LiI × Int)} (H2:AFl (cI .i64) h Ag a3) (hp:AE9 fuel a3 a5=some r):AB7 Tryz.prog 36 #[Ag,(.int .i64 a5)] h (fun x h'=>Ext h h'/\ ∃ (x0:Value) (F0:List Nat) (Au:List LnA) (Av:List Value),x= .tuple #[x0,.int .i64 r.2]/\AFg (cI .i64) 23 2 h' F0 Au Av x0 r.1/\Sp h' h.size [F0]):=by
 unfold AE9 at hp;refine cwf (l:=[_,_]) Tryz.func36 rfl rfl (ABi (ACd (ABp (ABm (ABi (Wk ?_))))));have K0:=Kst.k0 h;obtain ⟨x6,Aw,Ap⟩:=ABl hp;refine ACu rfl (APa (H2.ext K0.x) Aw) fun Bc Be E9 Ay=>?_;subst Ay;refine AF8 rfl (ABo ?_);have Aq:=K0.e E9;refine ⟨_,rfl,fun Aa=>?_,fun Aa=>?_⟩
 ·refine ABi (ACd (ABp (ABr (AB0 ?_))));have Ab:=Kst.anil2 (cI .i64) 23 2 Aq;obtain rfl:=ABk (ifT Ap Aa);exact ⟨_,AC8,Ab.x,_,_,_,_,rfl,(Ab.o2 p0),Ab.s.sel [0] (by decide)⟩
 ·refine ABs (q_t (ABm (ABi (Wk ?_))));obtain ⟨Bf,Az,Ar⟩:=ABl (AIz Ap Aa);refine ACu rfl (ALm Az) fun Bg Bh A3 A4=>?_;subst A4;refine ACq (Wk (AG8 rfl rfl (ABo ?_)));have Ac:=Aq.e A3;refine ⟨_,rfl,fun Ad=>?_,fun Ad=>?_⟩
  ·refine ABi (Wk (ACd (ABp (ABr (AB0 ?_)))));have Ae:=Kst.anil2 (cI .i64) 23 2 Ac;obtain rfl:=ABk (AC1 Ar Ad);exact ⟨_,AC8,Ae.x,_,_,_,_,rfl,(Ae.o2 p0),Ae.s.sel [0] (by decide)⟩
  ·refine ABs (q_t (ABi (Wk (Wk ?_))));obtain ⟨Bi,A5,A6⟩:=ABl (AC2 Ar Ad);refine ACu rfl (AM2 (H2.ext Ac.x) A5) fun Bj Bl A7 A8=>?_;obtain ⟨Bm,Bn,Bo,Bp,rfl,A9,Ba⟩:=A8;refine ACd (ABp (ABr ?_));have Af:=Ac.no2 A7 Ba A9;obtain rfl:=ABk A6;exact ⟨_,AC8,Af.x,_,_,_,_,rfl,(Af.o2 p0),Af.s.sel [0] (by decide)⟩
end Go.Proofs.YtiegjkmfpcgjjaaGreatDoor
namespace Go.Proofs.YtiegjkmfpcgjjaaGreatDoor
open Go Go.QF
set_option maxRecDepth 100000
theorem AQe {α β:Type} {L:List α} {n:Nat} {x:α} {f:α->Option β} (hx:L[n]? =some x):(gI L (n:Int)).bind f=f x:=by
 unfold gI;rw [if_pos (by omega),Int.toNat_natCast,hx];rfl
theorem Am1 {α β:Type} {L:List α} {x:α} {f:α->Option β} (hx:L[0]? =some x):(gI L 0).bind f=f x:=AQe (n:=0) hx
theorem AGo {i:Nat} (h:i<=1000000000):w64 ((i:Int) + 1)=((i + 1:Nat):Int):=by rw [wk (by omega)];omega
theorem AYt {n i r:Nat} {G:Nat->Nat->Int} {g g':Nat->Int} (h:∀ c,c < n->g c=g' c):part n i (ADe G r g)=part n i (ADe G r g'):=by
 unfold part;refine AC7 fun k _=>?_;split
 ·refine AC7 fun c hc=>?_;by_cases hk:k=r
  ·subst hk;rw [AC5,AC5,h c hc]
  ·rw [AD4 _ _ hk,AD4 _ _ hk]
 ·rfl
theorem Am2 {n i:Nat} {F:Nat->Nat->Int} {g:Nat->Int} (h:∀ c,c < n->g c=F i c):part n (i + 1) (ADe F i g)=part n (i + 1) F:=by
 rw [AYt h,AM6]
theorem Apt {body:Int × List (List Int)->Option ((Int × List (List Int)) ⊕ List (List Int))} {fuel n i:Nat} {G:Nat->Nat->Int} (v:Nat->Int) (hf:n < fuel)
    (hs:∀ (j:Nat) (g:Nat->Int),j < n->g j=G i j->body ((j:Int),part n (i + 1) (ADe G i g))=some (.inl (((j + 1:Nat):Int),part n (i + 1) (ADe G i fun c=>if c=j then v j else g c))))
    (he:∀ X,body ((n:Int),X)=some (.inr X)):iter body fuel (0,part n (i + 1) G)=some (part n (i + 1) (ADe G i v)):=by
  apply ok_eq
  refine AC0 (fun j s=>s=((j:Int),part n (i + 1) (ADe G i fun c=>if c < j then v c else G i c))) n ?_ hf fun j s hj hI=>?_
  · have:(fun c=>if c < 0 then v c else G i c)=G i:=funext fun c=>if_neg (by omega);rw [this,AM6];rfl
  · subst hI
    by_cases h:j < n
    · rw [hs j _ h (if_neg (by omega))];refine ABj ⟨h,?_⟩;refine congrArg (fun z=>(((j + 1:Nat):Int),part n (i + 1) (ADe G i z))) (funext fun c=>?_)
      by_cases h1:c=j
      · rw [if_pos h1,if_pos (by omega),h1]
      · rw [if_neg h1]
        by_cases h2:c < j
        · rw [if_pos h2,if_pos (by omega)]
        · rw [if_neg h2,if_neg (by omega)]
    · obtain rfl:j=n:=by omega
      rw [he];exact ABj (AYt fun c hc=>if_pos hc)
theorem Am3 {body:Int × List (List Int)->Option ((Int × List (List Int)) ⊕ List (List Int))} {fuel n:Nat} (F:Nat->Nat->Int) (hf:n < fuel)
    (hs:∀ i:Nat,i < n->body ((i:Int),part n i F)=some (.inl (((i + 1:Nat):Int),part n (i + 1) F))) (he:∀ X,body ((n:Int),X)=some (.inr X)):iter body fuel (0,List.replicate n ([]:List Int))=some (tab n n F):=by
  apply ok_eq;refine AC0 (fun i s=>s=((i:Int),part n i F)) n (by rw [AOu n F];rfl) hf fun i s hi hI=>?_;subst hI
  by_cases h:i < n
  · rw [hs i h];exact ABj ⟨h,rfl⟩
  · obtain rfl:i=n:=by omega
    rw [he];exact ABj (AOt _ _)
theorem Ajf {x m:Int} (hm:2<=m) (Ab:m<=2147483647):Int.tmod (w64 (Int.tmod x m + m)) m=x % m:=by
 have h1:=Int.tmod_lt_of_pos x (show 0 < m by omega);have h2:=Int.tmod_lt_of_pos (-x) (show 0 < m by omega);rw [Int.neg_tmod] at h2;rw [wk (by omega),Int.tmod_eq_emod_of_nonneg (by omega),Int.add_emod_right,Int.tmod_def,Int.sub_mul_emod_self_left]
theorem Am4 {fuel n:Nat} {F:Nat->Nat->Int} {m:Int} (hn:n<=8) (hm:2<=m) (Aa:m<=2147483647) (hf:100 < fuel):AFy fuel (tab n n F) m=some (tab n n fun i j=>F i j % m):=by
 unfold AFy;rw [ADa,if_pos (by omega),Int.toNat_natCast,Am3 (n:=n) (fun i j=>F i j % m) (by omega) (fun i hi=>?_) fun X=>?_]
 ·rfl
 ·unfold AIv;dsimp only;rw [ADa,if_pos (by omega),AQe (ADc hi),ADb,if_pos (by omega),AQe (ATf hi),AD1,Int.toNat_natCast,AHz n (0:Int),AQw,Apt (n:=n) (fun j=>F i j % m) (by omega) (fun j g hj hg=>?_) fun X=>?_]
  ·dsimp only [Option.bind_some];rw [AVt,Am2 fun c _=>rfl,AGo (by omega)]
  ·unfold AIu;dsimp only;rw [ADb,if_pos (by omega),AQe (ACo hj),AQe (AMs (by omega) hi),if_pos (by omega),if_pos (by omega),AC5,AQe (ACo hj),Ajf hm Aa,AD1,AD1,AFt,ANs (by omega),AVt,AGo (by omega)]
  ·unfold AIu;dsimp only;rw [ADb,if_neg (by omega)]
 ·unfold AIv;dsimp only;rw [ADa,if_neg (by omega)]
end Go.Proofs.YtiegjkmfpcgjjaaGreatDoor
namespace Go.Proofs.YtiegjkmfpcgjjaaGreatDoor
open Go Go.QF
set_option maxRecDepth 100000
set_option maxHeartbeats 4000000
def ALd (fuel:Nat) (Ac Ad Af:Int) (Ag:LiA) (Ah Ai Aa:Int) (Ab:LiI):Option ((Int × LiI) ⊕ ((LiI))):=
  (if Aa < (Ag.length:Int) then ((gI Ab Af).bind fun Aj=>((gI Aj Aa).bind fun Ak=>((gI Ab Ad).bind fun Ae=>((gI Ae Aa).bind fun Am=>(if Ac≠0 then (some (Sum.inl ((w64 (Aa + 1)),(sI Ab Ad (sI Ae Aa (Int.tmod (w64 (Am + (w64 ((w64 (Ac - (w64 (Int.tdiv Ai Ah)))) * Ak)))) Ac)))))) else none))))) else (some (Sum.inr<| Ab)))
def ALe (fuel:Nat) (Ah Aa Ab Af:Int) (Ac:LiI):Option ((Int × LiI) ⊕ ((Int × LiI))):=
  ((gI Ac Ab).bind fun Ag=>((gI Ag Aa).bind fun Ad=>(if ¬ Ad=0 then ((gI Ac Aa).bind fun Ai=>((gI Ai Aa).bind fun Aj=>(if Ad≠0 then ((((iter (fun s=>ALd fuel Ah Aa Ab Ag Ad Aj s.1 s.2) fuel (0,Ac)).bind (fun (Ak:LiI)=>(some ( Ak)))):Option (LiI)).bind fun Ae=>((gI Ae Ab).bind fun Am=>((gI Ae Aa).bind fun Ao=>(some (Sum.inl ((w64 (0 - Af)),(sI (sI Ae Aa Am) Ab Ao))))))) else none))) else (some (Sum.inr<| (Af,Ac))))))
def ANd (fuel:Nat) (Ad Ae Ac Aa:Int) (Ab:LiI):Option ((Int × Int × LiI) ⊕ ((Int × LiI))):=
  (if Aa < (Ab.length:Int) then ((iter (fun s=>ALe fuel Ad Ae Aa s.1 s.2) fuel (Ac,Ab)).bind (fun ((Af,Ag):Int × LiI)=>(some (Sum.inl (Af,(w64 (Aa + 1)),Ag))))) else (some (Sum.inr<| (Ac,Ab))))
def ANe (fuel:Nat) (Ad:LiI) (Ae Ab Aa:Int) (Ac:LiI):Option ((Int × Int × LiI) ⊕ ((Int × LiI))):=
  (if Aa < (Ad.length:Int) then ((iter (fun s=>ANd fuel Ae Aa s.1 s.2.1 s.2.2) fuel (Ab,(w64 (Aa + 1)),Ac)).bind (fun ((Af,Ag):Int × LiI)=>(some (Sum.inl (Af,(w64 (Aa + 1)),Ag))))) else (some (Sum.inr<| (Ab,Ac))))
def ANf (fuel:Nat) (a5:Int) (Ac:LiI) (Ad Ab:Int):Option ((Int × Int) ⊕ ((Int))):=
  (if Ab < (Ac.length:Int) then ((gI Ac Ab).bind fun Ae=>(if a5≠0 then ((gI Ae Ab).bind fun Af=>(if a5≠0 then (some (Sum.inl ((Int.tmod (w64 ((Int.tmod Ad a5) * Af)) a5),(w64 (Ab + 1))))) else none)) else none)) else (some (Sum.inr<| Ad)))
def AJg (fuel:Nat) (a3:LiI) (a5:Int):Option (Int × Int):=
  ((AKi fuel a3).bind fun x6=>(if (!x6)=true then (some (0,3)) else ((AEp fuel a5).bind fun Ac=>(if ¬ Ac=0 then (some (0,Ac)) else ((AFy fuel a3 a5).bind fun Ad=>(((((some ( a5)):Option (Int)).bind fun Af=>((iter (fun s=>ANe fuel Ad Af s.1 s.2.1 s.2.2) fuel (1,0,Ad)).bind (fun ((Ag,Ah):Int × LiI)=>(some ( (Ag,Ah)))))):Option (Int × LiI)).bind fun (Ai,Aj)=>((iter (fun s=>ANf fuel a5 Aj s.1 s.2) fuel ((w64 (Ai + a5)),0)).bind (fun (Ak:Int)=>(some (Ak,0))))))))))
theorem AQy {fuel:Nat} {h:ABh} {Bq:Value} {a3:LiI} {a5:Int} {r:(Int × Int)} (H2:AFl (cI .i64) h Bq a3) (hp:AJg fuel a3 a5=some r):AB7 Tryz.prog 48 #[Bq,(.int .i64 a5)] h (fun x h'=>Ext h h'/\x= .tuple #[.int .i64 r.1,.int .i64 r.2]):=by
 unfold AJg at hp;refine cwf (l:=[_,_]) Tryz.func48 rfl rfl (ABi (ACd (ABp (ABm (ABi (Wk ?_))))));have K0:=Kst.k0 h;obtain ⟨x6,Cx,Bv⟩:=ABl hp;refine ACu rfl (AUd (H2.ext K0.x) Cx) fun Hk Hl E9 Cz=>?_;subst Cz;refine AF8 rfl (ABo ?_);have Bw:=K0.e E9;refine ⟨_,rfl,fun Ay=>?_,fun Ay=>?_⟩
 ·refine ABi (ACd (ABp (ABr (AB0 ?_))));obtain rfl:=ABk (ifT Bv Ay);exact ⟨_,AC8,Bw.x,rfl⟩
 ·refine ABs (q_t (ABm (ABi (Wk ?_))));obtain ⟨Hm,C0,Bx⟩:=ABl (AIz Bv Ay);refine ACu rfl (ALm C0) fun Hn Ho C1 C2=>?_;subst C2;refine ACq (Wk (AG8 rfl rfl (ABo ?_)));have Az:=Bw.e C1;refine ⟨_,rfl,fun A3=>?_,fun A3=>?_⟩
  ·refine ABi (Wk (ACd (ABp (ABr (AB0 ?_)))));obtain rfl:=ABk (AC1 Bx A3);exact ⟨_,AC8,Az.x,rfl⟩
  ·refine ABs (q_t (ABi (Wk (Wk ?_))));obtain ⟨C3,C4,C5⟩:=ABl (AC2 Bx A3);refine ACu rfl (AM2 (H2.ext Az.x) C4) fun Af Hq C6 C7=>?_;obtain ⟨Hr,C8,C9,Da,rfl,Db,Dc⟩:=C7;refine ACq (Wk (Wk ?_));have A4:=Az.no2 C6 Dc Db;obtain ⟨Dd,De,Df⟩:=ABl C5;refine ACm (K':=(fun xr h'=> ∃ x:(Int) × (LiI) × LnA × LnN × LvA,(x.1,x.2.1)=Dd/\xr=(.int .i64 x.1)/\Kst h h' (A4.L.set 0 (aO2 (cI .i64) 23 2 x.2.2.1 x.2.2.2.1 x.2.2.2.2 Af x.2.1)))) trivial rfl ?_ fun Hs Ht Dg=>?_
   ·refine cwf (l:=[_,_]) Tryz.func73 rfl rfl (ABi (ACq (Wk ?_)));obtain ⟨Dh,Di,Dj⟩:=ABl De;refine ACm (K':=(fun xr h'=> ∃ x:(Nat) × (Int),x.2=Dh/\xr=(.func (.func 105) #[] #[(.pointer (some ⟨x.1,0,none⟩))])/\Kst h h' (aB 2 x.1 [(.int .i64 x.2)] :: A4.L))) trivial rfl ?_ fun Hu Hv Dk=>?_
    ·refine cwf (l:=[_]) Tryz.func74 rfl rfl (ABi (AHi [(.int .i64 a5)] trivial tt2 rfl rfl fun Dl Hw Dn Do Dp=>ACq (Aqu rfl (ABp (ABr (⟨_,ABt,((Dl,a5):(Nat) × (Int)),?_,rfl,?_⟩))))))
     ·exact ABk Di
     ·exact (A4.nb Do Dp Dn)
    obtain ⟨⟨Dq,Ao⟩,Dr,rfl,A5⟩:=Dk;refine ⟨trivial,?_⟩;subst Dr;refine ACq (ABp (ABm (ABi (Wk (ADg AB2 rfl (A5.o2 p1).rd (Wk (ABo (ABq ?_))))))));obtain ⟨By,Ds,Dt⟩:=ABl Dj;obtain ⟨Du,Dv,Dw⟩:=ACg Ds;refine ACi 18889465931478580847040 (fun x:(Int) × (Int) × (LiI) × LnA × LnN × LvA=>[(6,(.int .i64 x.1)),(13,(.int .i64 x.2.1))]) (fun k x h'=>iter Du k (x.1,x.2.1,x.2.2.1)=some By/\Kst h h' (A5.L.set 1 (aO2 (cI .i64) 23 2 x.2.2.2.1 x.2.2.2.2.1 x.2.2.2.2.2 Af x.2.2.1))) (by kernel_rfl) fuel ((1,0,C3,C8,C9,Da):(Int) × (Int) × (LiI) × LnA × LnN × LvA) ?_ ⟨rfl,rfl,trivial⟩ ?_
    ·exact ⟨Dw,A5⟩
    rintro Hx ⟨Bz,Ac,B1,B2,B3,B4⟩ Hy Hz ⟨Dx,A6⟩;obtain ⟨Dy,H5,rfl,Ag,A7⟩:=AB3 Dx;rw [Dv] at Ag;dsimp only at Ag;unfold ANe at Ag;refine ABi (ACx rfl rfl (ABo (ABm (⟨_,rfl,fun A8=>?_,fun A8=>?_⟩))))
    ·refine ABs (q_t (ABm (ABq (ABi (Wk (ACq (Wk (ACy rfl rfl (ABp (ABq ?_))))))))));obtain ⟨B5,Dz,D0⟩:=ABl (AC1 Ag A8);obtain ⟨D1,D2,D3⟩:=ACg Dz;refine ACi 9444732965739290165568 (fun x:(Int) × (Int) × (LiI) × LnA × LnN × LvA=>[(6,(.int .i64 x.1)),(8,(.int .i64 x.2.1))]) (fun k x h'=>iter D1 k (x.1,x.2.1,x.2.2.1)=some B5/\Kst h h' (A6.L.set 1 (aO2 (cI .i64) 23 2 x.2.2.2.1 x.2.2.2.2.1 x.2.2.2.2.2 Af x.2.2.1))) (by kernel_rfl) fuel ((Bz,(w64 (Ac + 1)),B1,B2,B3,B4):(Int) × (Int) × (LiI) × LnA × LnN × LvA) ?_ ⟨rfl,rfl,trivial⟩ ?_
     ·exact ⟨D3,A6⟩
     rintro H9 ⟨B6,Ah,B7,B8,B9,Ca⟩ Ia Ib ⟨D4,Ap⟩;obtain ⟨D5,Ic,rfl,Ai,A9⟩:=AB3 D4;rw [D2] at Ai;dsimp only at Ai;unfold ANd at Ai;refine ABm (ABi (Wk (Wk (ADg AB2 rfl (Ap.o2 p1).rd (ACx rfl rfl (ABo (⟨_,rfl,fun Ba=>?_,fun Ba=>?_⟩)))))))
     ·refine ABs (q_t (ABm (ABq (ABq ?_))));obtain ⟨Cb,D6,D7⟩:=ABl (AC1 Ai Ba);obtain ⟨D8,D9,Ea⟩:=ACg D6;refine ACi 9444732965739273650240 (fun x:(Int) × (LiI) × LnA × LnN × LvA=>[(6,(.int .i64 x.1))]) (fun k x h'=>iter D8 k (x.1,x.2.1)=some Cb/\Kst h h' (Ap.L.set 1 (aO2 (cI .i64) 23 2 x.2.2.1 x.2.2.2.1 x.2.2.2.2 Af x.2.1))) (by kernel_rfl) fuel ((B6,B7,B8,B9,Ca):(Int) × (LiI) × LnA × LnN × LvA) ?_ ⟨rfl,trivial⟩ ?_
      ·exact ⟨Ea,Ap⟩
      rintro Id ⟨Cd,Ce,Bb,Bc,Be⟩ Ie If ⟨Eb,Aa⟩;obtain ⟨Ec,Ih,rfl,Aq,Bf⟩:=AB3 Eb;rw [D9] at Aq;dsimp only at Aq;unfold ALe at Aq;refine ABm (ABi (Wk (Wk ?_)));obtain ⟨Ii,Ad,Ed⟩:=ABl Aq;refine ADu AB2 rfl (Aa.o2 p1) rfl Ad fun Ij Ik Il Ee Ef=>AB4 ACn rfl Ef (Wk ?_);obtain ⟨Bg,Ar,Cf⟩:=ABl Ed;refine AE7 (m:=Ah) ABv rfl (Aa.o2 p1) Ee Ad rfl Ar fun Im Eg=>?_;obtain ⟨Io,Eh,Ei⟩:=(Aa.o2 p1).cells Eg Ad Ar;obtain rfl:=Eh;refine AB4 ACr rfl (Ei 0 _ rfl) (AG8 rfl rfl (ABo (⟨_,rfl,fun Bh=>?_,fun Bh=>?_⟩)))
      ·refine ABs (q_t (ABq (ABm (AMh (Wk (Wk (Wk ?_)))))));obtain ⟨Ip,Au,Ej⟩:=ABl (AC1 Cf Bh);refine ADu AB2 rfl (Aa.o2 p1) rfl Au fun Iq Ek Ir Cg El=>AB4 ACn rfl El (Wk (Wk (ADu AB2 rfl (Aa.o2 p1) rfl Ad fun It Em Iu Ch En=>AB4 ACn rfl En (Wk (Wk (ADu AB2 rfl (Aa.o2 p1) rfl Au fun Iv Iw Ix Eo Ep=>AB4 ACn rfl Ep (Wk ?_)))))));obtain ⟨Bi,Ci,Er⟩:=ABl Ej;refine AE7 (m:=Ac) ABv rfl (Aa.o2 p1) Eo Au rfl Ci fun Iy Es=>?_;obtain ⟨Iz,Et,Eu⟩:=(Aa.o2 p1).cells Es Au Ci;obtain rfl:=Et;refine AB4 ACr rfl (Eu 0 _ rfl) (Wk (Wk (ADu AB2 rfl (Aa.o2 p1) rfl Ad fun I0 I1 I2 Ev Ew=>AB4 ACn rfl Ew (Wk (AE7 (m:=Ah) ABv rfl (Aa.o2 p1) Ev Ad rfl Ar fun I3 Ey=>?_)))));obtain ⟨I6,Ez,Fa⟩:=(Aa.o2 p1).cells Ey Ad Ar;obtain rfl:=Ez;refine AB4 ACr rfl (Fa 0 _ rfl) ?_;obtain ⟨Fb,Fc⟩:=ifN Er;refine ATm rfl rfl Fb ?_;obtain ⟨Fd,Fe,Ff⟩:=ABl Fc;refine Aae (l:=[Ek,Em,(.int .i64 (w64 (Int.tdiv Bi Bg)))]) (cl:=[(.pointer (some ⟨Dq,0,none⟩))]) (K':=(fun xr h'=> ∃ x:(LiI),x=Fd/\xr= .tuple #[]/\Kst h h' (Aa.L.set 1 (aO2 (cI .i64) 23 2 Bb Bc Be Af x)))) trivial rfl rfl ?_ fun I7 I9 Fg=>?_
       ·refine cwf (l:=[_,_,_,_]) Tryz.func105 rfl rfl (ABi (Wk (ADr ABv rfl ((Aa.o2 p1).rowI Ch Ad) (Wk (ABo (ABq ?_))))));obtain ⟨Cj,Fh,Fi⟩:=ABl Fe;obtain ⟨Fj,Fk,Fl⟩:=ACg Fh;refine ACi 4294965632 (fun x:(Int) × (LiI)=>[(11,(.int .i64 x.1))]) (fun k x h'=>iter Fj k (x.1,x.2)=some Cj/\Kst h h' (Aa.L.set 1 (aO2 (cI .i64) 23 2 Bb Bc Be Af x.2))) (by kernel_rfl) fuel ((0,Ce):(Int) × (LiI)) ?_ ⟨rfl,trivial⟩ ?_
        ·exact ⟨Fl,Aa⟩
        rintro Ja ⟨Ck,Cm⟩ Jc Je ⟨Fm,Ab⟩;obtain ⟨Fo,Jf,rfl,Aj,Bj⟩:=AB3 Fm;rw [Fk] at Aj;dsimp only at Aj;unfold ALd at Aj;refine ABi (ACx rfl rfl (ABo (ABm (⟨_,rfl,fun Bl=>?_,fun Bl=>?_⟩))))
        ·refine ABs (q_t (ABm (ABq (ABi (Wk ?_)))));obtain ⟨Jg,Cn,Fp⟩:=ABl (AC1 Aj Bl);obtain ⟨Co,Cp,Fq⟩:=ABl Fp;refine AE7 (m:=Ah) ABv rfl (Ab.o2 p1) Ch Cn rfl Cp fun Jh Fr=>?_;obtain ⟨Ji,Ft,Fu⟩:=(Ab.o2 p1).cells Fr Cn Cp;obtain rfl:=Ft;refine AB4 ACr rfl (Fu 0 _ rfl) (ACd (ABp (AMh (Wk (Wk (Wk (Wk ?_)))))));obtain ⟨Fv,Av,Fw⟩:=ABl Fq;obtain ⟨Cq,Aw,Fx⟩:=ABl Fw;refine AE7 (m:=Ac) ABv rfl (Ab.o2 p1) Cg Av rfl Aw fun Jj Fy=>?_;obtain ⟨Jk,Fz,F4⟩:=(Ab.o2 p1).cells Fy Av Aw;obtain rfl:=Fz;refine AB4 ACr rfl (F4 0 _ rfl) (AB4 ACr rfl ((Ab.b p0).cell (i:=0) rfl) (Wk (AHd rfl rfl (Wk (AL8 rfl rfl (ACy rfl rfl (AB4 ACr rfl ((Ab.b p0).cell (i:=0) rfl) ?_)))))));obtain ⟨F5,F6⟩:=ifN Fx;refine AF7 rfl rfl F5 (AE7 (m:=Ac) ABv rfl (Ab.o2 p1) Cg Av rfl Aw fun Jl F7=>AJo (m:=Ac) (AF6 ACr rfl rfl rfl) (Ab.o2 p1) F7 Av Aw (show ((cI .i64)).rep _ (Int.tmod (w64 (Cq + (w64 ((w64 (Ao - (w64 (Int.tdiv Bi Bg)))) * Co)))) Ao) _ from rfl) fun Jm F8 F9=>ACl (q_b (q_t (ABw (ACy rfl rfl (Wk (ABo ?_)))))));obtain rfl:=ABk F6;exact ⟨Fo,(((w64 (Ck + 1)),(sI Cm Ac (sI Fv Ck (Int.tmod (w64 (Cq + (w64 ((w64 (Ao - (w64 (Int.tdiv Bi Bg)))) * Co)))) Ao)))):(Int) × (LiI)),Nat.lt_succ_self _,⟨Bj,(Ab.uO2 p1 F9 F8)⟩,rfl,trivial⟩
        ·obtain rfl:=ABk (AC2 Aj Bl);change _=Cj at Bj;subst Bj;refine ACb (AB9 (AB9 (ADj (⟨_,ASy,(Cm:(LiI)),?_,rfl,?_⟩))))
         ·exact ABk Fi
         ·exact Ab
       obtain ⟨Ga,Gb,rfl,Ax⟩:=Fg;refine ⟨trivial,?_⟩;subst Gb;refine ABo (ABm (AMh (Wk (Wk (Wk (Wk (Wk (Wk ?_))))))));obtain ⟨Gc,Cr,Gd⟩:=ABl Ff;refine ADu AB2 rfl (Ax.o2 p1) rfl Cr fun Jn Jo Jp Ge Gf=>AB4 ACn rfl Gf (Wk (Wk ?_));obtain ⟨Gg,Ct,Gh⟩:=ABl Gd;refine ADu AB2 rfl (Ax.o2 p1) rfl Ct fun Jq Jr Js Gi Gj=>AB4 ACn rfl Gj (AT8 AB2 ACn (Ax.o2 p1) Gi Ge Ct Cr rfl rfl (fun _=>rfl) (fun _=>rfl) (fun _=>rfl) (fun _ _=>rfl) fun Jt Ju Gk Gl Gm Jv Gn Gp Gq=>ABo (ABw (Wk (ASe rfl (ACd (ACl (q_b (q_t ?_))))))));obtain rfl:=ABk Gh;exact ⟨Ec,(((w64 (0 - Cd)),(sI (sI Ga Ac Gc) Ah Gg),Gk,Gl,Gm):(Int) × (LiI) × LnA × LnN × LvA),Nat.lt_succ_self _,⟨Bf,(Ax.uo2 p1 Gp Gn Gq)⟩,rfl,trivial⟩
      ·obtain rfl:=ABk (AC2 Cf Bh);change _=Cb at Bf;subst Bf;refine ACb (AB9 (AB9 (ADj (q_b (q_t (ABw (Wk (ACy rfl rfl (ABp ?_)))))))));obtain rfl:=ABk D7;exact ⟨D5,((Cd,(w64 (Ah + 1)),Ce,Bb,Bc,Be):(Int) × (Int) × (LiI) × LnA × LnN × LvA),Nat.lt_succ_self _,⟨A9,Aa⟩,rfl,rfl,trivial⟩
     ·obtain rfl:=ABk (AC2 Ai Ba);change _=B5 at A9;subst A9;refine ACb (AB9 (AB9 (ADj (q_b (q_t (ABw (ACy rfl rfl (Wk (ABo ?_)))))))));obtain rfl:=ABk D0;exact ⟨Dy,((B6,(w64 (Ac + 1)),B7,B8,B9,Ca):(Int) × (Int) × (LiI) × LnA × LnN × LvA),Nat.lt_succ_self _,⟨A7,Ap⟩,rfl,rfl,trivial⟩
    ·obtain rfl:=ABk (AC2 Ag A8);change _=By at A7;subst A7;refine ACb (AB9 (AB9 (ADj (q_t (ABi (Wk (ABp (ABr (⟨_,ABt,((Bz,B1,B2,B3,B4):(Int) × (LiI) × LnA × LnN × LvA),?_,rfl,?_⟩)))))))))
     ·exact ABk Dt
     ·exact A6.sel [1] (by decide)
   obtain ⟨⟨Gr,Jw,Jx,Jy,Jz⟩,Gt,rfl,Bm⟩:=Dg;refine ⟨trivial,?_⟩;subst Gt;refine Wk (ACy rfl rfl (ABp (ABm (ABi (Wk (ADg AB2 rfl (Bm.o2 p0).rd (Wk (ABo (ABq ?_)))))))));obtain ⟨Cu,Gu,Gv⟩:=ABl Df;obtain ⟨Gw,Gx,Gy⟩:=ACg Gu;refine ACi 35183835219712 (fun x:(Int) × (Int)=>[(8,(.int .i64 x.1)),(29,(.int .i64 x.2))]) (fun k x h'=>iter Gw k (x.1,x.2)=some Cu/\Kst h h' (Bm.L)) (by kernel_rfl) fuel (((w64 (Gr + a5)),0):(Int) × (Int)) ?_ ⟨rfl,rfl,trivial⟩ ?_
   ·exact ⟨Gy,Bm⟩
   rintro J0 ⟨Gz,Cv⟩ J1 J2 ⟨G3,Ak⟩;obtain ⟨G4,J3,rfl,Am,Bn⟩:=AB3 G3;rw [Gx] at Am;dsimp only at Am;unfold ANf at Am;refine ABi (ACx rfl rfl (ABo (ABm (⟨_,rfl,fun Bo=>?_,fun Bo=>?_⟩))))
   ·refine ABs (q_t (ABm (ABq (ABi (Wk ?_)))));obtain ⟨J4,Bp,G5⟩:=ABl (AC1 Am Bo);refine ADu AB2 rfl (Ak.o2 p0) rfl Bp fun J5 J6 J7 G6 G7=>AB4 ACn rfl G7 (ACd (ABp (AMh (Wk (Wk ?_)))));obtain ⟨G8,G9⟩:=ifN G5;refine AF7 rfl rfl G8 (Wk (Wk ?_));obtain ⟨Hb,Cw,Hc⟩:=ABl G9;refine AE7 (m:=Cv) ABv rfl (Ak.o2 p0) G6 Bp rfl Cw fun J8 Hd=>?_;obtain ⟨J9,He,Hf⟩:=(Ak.o2 p0).cells Hd Bp Cw;obtain rfl:=He;refine AB4 ACr rfl (Hf 0 _ rfl) (AL8 rfl rfl (Wk ?_));obtain ⟨Hg,Hh⟩:=ifN Hc;refine AF7 rfl rfl Hg (ACd (ACl (q_b (q_t (ABw (ACy rfl rfl (Wk (ABo ?_))))))));obtain rfl:=ABk Hh;exact ⟨G4,(((Int.tmod (w64 ((Int.tmod Gz a5) * Hb)) a5),(w64 (Cv + 1))):(Int) × (Int)),Nat.lt_succ_self _,⟨Bn,Ak⟩,rfl,rfl,trivial⟩
   ·obtain rfl:=ABk (AC2 Am Bo);change _=Cu at Bn;subst Bn;refine ACb (AB9 (AB9 (ADj (q_t (ABi (Wk (ACd (ABp (ABr ?_)))))))));obtain rfl:=ABk Gv;exact ⟨_,AC8,Ak.x,rfl⟩
end Go.Proofs.YtiegjkmfpcgjjaaGreatDoor
namespace Go.Proofs.YtiegjkmfpcgjjaaGreatDoor
open Go Go.QF
set_option maxRecDepth 100000
theorem Am5 {E:Type} {body:Int->Option (Int ⊕ E)} {fuel n:Nat} {e:E} (hf:n < fuel) (hs:∀ i:Nat,i < n->body (i:Int)=some (.inl ((i + 1:Nat):Int))) (he:body (n:Int)=some (.inr e)):iter body fuel 0=some e:=by
 apply ok_eq;refine AC0 (fun i s=>s=(i:Int)) n rfl hf fun i s hi hI=>?_;subst hI;by_cases h:i < n
 ·rw [hs i h];exact ABj ⟨h,rfl⟩
 ·obtain rfl:i=n:=by omega
  rw [he];exact ABj rfl
theorem Aea {fuel n:Nat} {F:Nat->Nat->Int} (Aa:1<=n) (hn:n<=8) (hf:100 < fuel):AHq fuel (tab n n F)=some true:=by
 unfold AHq;rw [ADa,if_neg (by omega),if_neg (by omega),Am1 (ADc (by omega)),ADb,if_neg (by omega),if_neg (by omega)];simp only [Option.bind_some];rw [Am5 (n:=n) (e:= .inr ()) (by omega) (fun i hi=>?_) ?_]
 ·rfl
 ·unfold AKa;rw [ADa,if_neg (by omega)]
 ·unfold AKa;rw [ADa,if_pos (by omega),AQe (ADc hi),Am1 (ADc (by omega)),ADb,ADb,if_neg (fun h=>h rfl),AGo (by omega)]
theorem Apu {n j:Nat} {g:Nat->Int} {x:Int}:sI (AD6 n g) (j:Int) x=AD6 n fun c=>if c=j then x else g c:=by rw [AD1,AFt]
theorem AEe {n i:Nat} {F:Nat->Nat->Int} {g:Nat->Int}:sI (tab n n F) (i:Int) (AD6 n g)=tab n n (ADe F i g):=by
 rw [AD1];exact AHr
theorem Am6 {n r:Nat} {F:Nat->Nat->Int} {g g':Nat->Int} (h:∀ c,c < n->g c=g' c):tab n n (ADe F r g)=tab n n (ADe F r g'):=AVi fun i j _ hj=>by
  rw [ACs,ACs,h j hj]
structure AZb (n:Nat) (m:Int) (A F:Nat->Nat->Int) (s:Int) (c:Nat):Prop where
  sg:s=1∨s= -1
  bd:Bd n n m F
  z:Zc n F c
  d:Eqm m (det n F) (s * det n A)
theorem Apv {m a b x y:Int} (hm:2<=m) (Ab:m<=2147483647) (ha:0<=a/\a < m) (hb:0 < b/\b < m) (hx:0<=x/\x < m) (hy:0<=y/\y < m):Int.tmod (w64 (x + (w64 ((w64 (m - (w64 (Int.tdiv a b)))) * y)))) m=(x + (m - a / b) * y) % m:=by
 have hq:=Aka ha.1 ha.2 hb.1;have h1:Int.tdiv a b=a / b:=Int.tdiv_eq_ediv_of_nonneg ha.1;have h0:0<=(m - a / b) * y:=Int.mul_nonneg (by omega) hy.1;have h2:(m - a / b) * y<=2147483647 * 2147483647:=Int.mul_le_mul (by omega) (by omega) hy.1 (by omega);rw [h1,AGd (x:=a / b) (by omega) (by omega),AGd (x:=m - a / b) (by omega) (by omega),AGd (x:=(m - a / b) * y) (by omega) (by omega),wk (by omega),Int.tmod_eq_emod_of_nonneg (by omega)]
theorem Apw {fuel n c i:Nat} {m:Int} {F:Nat->Nat->Int} (hn:n<=8) (hm:2<=m) (Ac:m<=2147483647) (hc:c < n) (hi:i < n) (hne:c≠i) (hB:Bd n n m F) (h0:F i c≠0) (hf:100 < fuel):
    iter (fun s=>ALd fuel m c i (AD6 n (F i)) (F i c) (F c c) s.1 s.2) fuel (0,tab n n F)=some (tab n n (ADe F c fun x=>(F c x + (m - F c c / F i c) * F i x) % m)):=by
 apply ok_eq;refine AC0 (fun j s=>s=((j:Int),tab n n (ADe F c fun x=>if x < j then (F c x + (m - F c c / F i c) * F i x) % m else F c x))) n ?_ (by omega) fun j s hj hI=>?_
 ·have:(fun x=>if x < 0 then (F c x + (m - F c c / F i c) * F i x) % m else F c x)=F c:=funext fun x=>if_neg (by omega);rw [this,AM6];rfl
 ·subst hI;unfold ALd;dsimp only;rw [ADb];by_cases h:j < n
  ·have b1:=hB c c hc hc;have b2:=hB i c hi hc;rw [if_pos (by omega),AQe (ADc hi),AD4 _ _ (Ne.symm hne),AQe (ACo h),AQe (ADc hc),AC5,AQe (ACo h),if_pos (by omega),if_neg (by omega),Apv hm Ac (hB c c hc hc) ⟨by omega,b2.2⟩ (hB c j hc h) (hB i j hi h),Apu,AEe,AVt,AGo (by omega)];refine ABj ⟨h,congrArg (fun z=>(((j + 1:Nat):Int),tab n n (ADe F c z))) (funext fun x=>?_)⟩;by_cases h1:x=j
   ·rw [if_pos h1,if_pos (by omega),h1]
   ·rw [if_neg h1];by_cases h2:x < j
    ·rw [if_pos h2,if_pos (by omega)]
    ·rw [if_neg h2,if_neg (by omega)]
  ·obtain rfl:j=n:=by omega
   rw [if_neg (by omega)];exact ABj (Am6 fun x hx=>if_pos hx)
theorem Ajg {n c i:Nat} {m s:Int} {A F:Nat->Nat->Int} (hm:2<=m) (hc:c < n) (hi:i < n) (hci:c < i) (H:AZb n m A F s c) (q:Int):AZb n m A (ANp F c i q m) (-s) c:=by
 have h1:=(Eqm.refl m 0).sub H.d;rw [Int.zero_sub,Int.zero_sub] at h1;refine ⟨by rcases H.sg with h | h <;> rw [h] <;> simp,Age (by omega) H.bd hc hi,Agf H.z hci hi,(Ai0 hc hi (by omega)).trans ?_⟩;rw [Int.neg_mul];exact h1
theorem Af7 {fuel n c i:Nat} {m s:Int} {A F:Nat->Nat->Int} (hn:n<=8) (hm:2<=m) (Ab:m<=2147483647) (hc:c < n) (hi:i < n) (hci:c < i) (H:AZb n m A F s c) (hZ:Zi F c i) (hf:2147483648 < fuel):
    Ok (iter (fun s=>ALe fuel m c i s.1 s.2) fuel (s,tab n n F)) fun e=> ∃ s' F',e=(s',tab n n F')/\AZb n m A F' s' c/\Zi F' c i/\F' i c=0:=by
 refine AC0 (fun k st=> ∃ s' F',st=(s',tab n n F')/\AZb n m A F' s' c/\Zi F' c i/\F' i c + k<=m) m.toNat ⟨s,F,rfl,H,hZ,by have:=H.bd i c hi hc;omega⟩ (by omega) fun k st hk hI=>?_;obtain ⟨s',F',rfl,H',hZ',hk'⟩:=hI;have hB:=H'.bd;have b2:=hB i c hi hc;unfold ALe;dsimp only;rw [AQe (ADc hi),AQe (ACo hc)];refine AB5 (fun h=>?_) fun h=>ABj ⟨s',F',rfl,H',hZ',Decidable.not_not.1 h⟩;rw [AQe (ADc hc),AQe (ACo hc),if_pos h,Apw hn hm Ab hc hi (by omega) hB h (by omega)];simp only [Option.bind_some]
 have e1:∀ g,sI (sI (tab n n (ADe F' c g)) (c:Int) (AD6 n (F' i))) (i:Int) (AD6 n g)=tab n n (AFk (ADe F' c g) c i):=fun g=>by
   rw [AEe,AEe]
   unfold AFk
   rw [AC5,AD4 _ _ (show i≠c by omega)]
 have b1:=hB c c hc hc;rw [AQe (ADc hi),AD4 _ _ (show i≠c by omega),AQe (ADc hc),AC5,e1,AGd (by rcases H'.sg with h | h <;> omega) (by rcases H'.sg with h | h <;> omega),Int.zero_sub];refine ABj ⟨by omega,-s',_,rfl,Ajg hm hc hi hci H' _,Agg hZ',?_⟩;show ANp F' c i (F' c c / F' i c) m i c + ((k + 1:Nat):Int)<=m;rw [Aam];dsimp only;rw [Agh b1.1 b1.2 (by omega) b2.2];have:=Int.emod_lt_of_pos (F' c c) (show 0 < F' i c by omega);omega
theorem Ar9 {fuel n:Nat} {T:Nat->Nat->Int} {m:Int} (Af:1<=n) (hn:n<=8) (hm:2<=m) (Ad:m<=2147483647) (hf:2147483648 < fuel):AJg fuel (tab n n T) m=some (det n T % m,0):=by
 unfold AJg
 have h0:AKi fuel (tab n n T)=some true:=by
   unfold AKi
   rw [Aea Af hn (by omega)]
   simp only [Option.bind_some,reduceIte]
   rw [Am1 (ADc (by omega)),ADb,ADa,if_pos rfl,decide_eq_true (by omega)]
 have h1:AEp fuel m=some 0:=by unfold AEp;rw [if_neg (by omega),if_neg (by omega)]
 rw [h0];simp only [Option.bind_some];rw [if_neg (by decide),h1];simp only [Option.bind_some];rw [if_neg (by decide),Am4 hn hm Ad (by omega)];simp only [Option.bind_some];apply ok_eq;generalize hA:(fun i j=>T i j % m)=A;have hAd:Eqm m (det n A) (det n T):=by subst hA;exact AW3 fun i j _ _=>Eqm.mod _ _
 have hAb:Bd n n m A:=by subst hA;exact fun i j _ _=>⟨Int.emod_nonneg _ (by omega),Int.emod_lt_of_pos _ (by omega)⟩
 refine ABn (Q:=fun e:Int × List (List Int)=> ∃ F,e.2=tab n n F/\AZb n m A F e.1 n) (ABn (AC0 (fun c st=> ∃ s F,st=(s,(c:Int),tab n n F)/\c<=n/\AZb n m A F s c) n (Q:=fun e:Int × List (List Int)=> ∃ F,e.2=tab n n F/\AZb n m A F e.1 n) ⟨1,A,rfl,Nat.zero_le _,.inl rfl,hAb,fun c' i h=>absurd h (Nat.not_lt_zero _),by rw [Int.one_mul];exact Eqm.refl _ _⟩ (by omega) fun c st hc hI=>?_) fun e he=>ABj he) fun e he=>?_
 ·obtain ⟨s,F,rfl,hcn,H⟩:=hI;unfold ANe;dsimp only;rw [ADa];refine AB5 (fun h=>?_) fun h=>ABj ⟨F,rfl,(show c=n by omega) ▸ H⟩;have hc':c < n:=by omega
  rw [AGo (by omega)];refine ABn (AC0 (fun k st=> ∃ s F,st=(s,((c + 1 + k:Nat):Int),tab n n F)/\c + 1 + k<=n/\AZb n m A F s c/\Zi F c (c + 1 + k)) (n - (c + 1)) (Q:=fun e:Int × List (List Int)=> ∃ F,e.2=tab n n F/\AZb n m A F e.1 (c + 1)) ⟨s,F,rfl,by omega,H,fun k h1 h2=>by omega⟩ (by omega) fun k st hk hI=>?_) fun e he=>?_
  ·obtain ⟨s',F',rfl,hkn,H',hZ'⟩:=hI;unfold ANd;dsimp only;rw [ADa];refine AB5 (fun h2=>ABn (Af7 hn hm Ad hc' (by omega) (by omega) H' hZ' hf) fun e he=>?_) fun h2=>ABj ⟨F',rfl,H'.sg,H'.bd,Aao H'.z ((show c + 1 + k=n by omega) ▸ hZ'),H'.d⟩;obtain ⟨s2,F2,rfl,H2,Aj,h3⟩:=he;exact ABj ⟨by omega,s2,F2,by rw [AGo (by omega)];rfl,by omega,H2,Aan Aj h3⟩
  ·obtain ⟨e1,e2⟩:=e;obtain ⟨F',h2,H'⟩:=he;dsimp only at h2 H';subst h2;exact ABj ⟨by omega,e1,F',rfl,by omega,H'⟩
 ·obtain ⟨s,M⟩:=e;obtain ⟨F,h2,H⟩:=he;dsimp only at h2 H;subst h2;dsimp only;rw [AGd (by rcases H.sg with h | h <;> omega) (by rcases H.sg with h | h <;> omega)];refine ABn (AC0 (fun k st=>st=(ARc F m s k,(k:Int))/\k<=n) n (Q:=(· =ARc F m s n)) ⟨rfl,Nat.zero_le _⟩ (by omega) fun k st hk hI=>?_) fun e he=>ABj ?_
  ·obtain ⟨rfl,hkn⟩:=hI;unfold ANf;dsimp only;rw [ADa];by_cases h:k < n
   ·have hd:=Anw (F:=F) (m:=m) (s:=s) hm H.sg k;have hb:=H.bd k k h h;have h3:=Int.emod_nonneg (ARc F m s k) (show m≠0 by omega);have h4:=Int.emod_lt_of_pos (ARc F m s k) (show 0 < m by omega);have h5:=Int.mul_nonneg h3 hb.1;have h6:ARc F m s k % m * F k k<=2147483647 * 2147483647:=Int.mul_le_mul (by omega) (by omega) hb.1 (by omega);rw [if_pos (by omega),AQe (ADc h),if_pos (by omega),AQe (ACo h),if_pos (by omega),Int.tmod_eq_emod_of_nonneg hd.1,AGd (x:=ARc F m s k % m * F k k) (by omega) (by omega),Int.tmod_eq_emod_of_nonneg h5,AGo (by omega)];exact ABj ⟨h,rfl,by omega⟩
   ·obtain rfl:k=n:=by omega
    rw [if_neg (by omega)];exact ABj rfl
  ·subst he
   have h3:Eqm m (ARc F m s n) (det n T):=by
     refine (Al6 _).trans ?_
     rw [<- AQr H.z]
     refine ((Eqm.refl m s).mul H.d).trans (Eqm.trans (Eqm.of_eq ?_) hAd)
     rcases H.sg with h | h <;> rw [h] <;> grind
   have h4:0<=ARc F m s n/\ARc F m s n < m:=by
     obtain ⟨k,rfl⟩:∃ k,n=k + 1:=⟨n - 1,by omega⟩
     unfold ARc
     exact ⟨Int.emod_nonneg _ (by omega),Int.emod_lt_of_pos _ (by omega)⟩
   unfold Eqm at h3;rw [<- h3,Int.emod_eq_of_lt h4.1 h4.2]
end Go.Proofs.YtiegjkmfpcgjjaaGreatDoor
namespace Go.Proofs.YtiegjkmfpcgjjaaGreatDoor
open Go Go.QF
set_option maxRecDepth 100000
theorem Asa {E:Type} {body:Int->Option (Int ⊕ (E ⊕ Unit))} {fuel n:Nat} (good:Nat->Prop) (bad:E) (hf:n < fuel) (hs:∀ i:Nat,i < n->Ok (body (i:Int)) fun r=>(r= .inl ((i + 1:Nat):Int)/\good i)∨(r= .inr (.inl bad)/\¬ good i)) (he:body (n:Int)=some (.inr (.inr ()))):
    Ok (iter body fuel 0) fun ex=>(ex= .inr ()/\ ∀ i,i < n->good i)∨(ex= .inl bad/\¬ ∀ i,i < n->good i):=by
  refine AC0 (fun i s=>s=(i:Int)/\ ∀ j,j < i->good j) n ⟨rfl,fun j hj=>absurd hj (Nat.not_lt_zero j)⟩ hf fun i s hi hI=>?_;obtain ⟨rfl,hI⟩:=hI
  by_cases h:i < n
  · refine Aop (hs i h) fun r hr=>?_
    rcases hr with ⟨rfl,hg⟩ | ⟨rfl,hg⟩
    · exact ⟨h,rfl,fun j hj=>(Nat.lt_succ_iff_lt_or_eq.1 hj).elim (hI j) fun e=>e ▸ hg⟩
    · exact .inr ⟨rfl,fun hall=>hg (hall i h)⟩
  · obtain rfl:i=n:=by omega
    rw [he];exact ABj (.inl ⟨rfl,hI⟩)
theorem Apx {α:Type} {body:List α × Int->Option ((List α × Int) ⊕ List α)} {fuel n:Nat} (f:Nat->α) (hf:n < fuel) (hs:∀ i:Nat,i < n->body (AD6 i f,(i:Int))=some (.inl (AD6 i f ++ [f i],((i + 1:Nat):Int)))) (he:∀ X,body (X,(n:Int))=some (.inr X)):iter body fuel ([],0)=some (AD6 n f):=by
  apply ok_eq;refine AC0 (fun i s=>s=(AD6 i f,(i:Int))) n rfl hf fun i s hi hI=>?_;subst hI
  by_cases h:i < n
  · rw [hs i h,AM5];exact ABj ⟨h,rfl⟩
  · obtain rfl:i=n:=by omega
    rw [he];exact ABj rfl
theorem Abr {p:Int} (hp:1<=p) {a b:Nat} (h:a<=b):p ^ a<=p ^ b:=by
 obtain ⟨c,rfl⟩:∃ c,b=a + c:=⟨b - a,by omega⟩;rw [Int.pow_add];have h1:0 < p ^ a:=Int.pow_pos (by omega);have h2:0 < p ^ c:=Int.pow_pos (by omega);have:=Int.mul_le_mul_of_nonneg_left (show 1<=p ^ c by omega) (Int.le_of_lt h1);omega
end Go.Proofs.YtiegjkmfpcgjjaaGreatDoor
namespace Go.Proofs.YtiegjkmfpcgjjaaGreatDoor
open Go Go.QF
set_option maxRecDepth 100000
set_option maxHeartbeats 4000000
def AL1 (fuel:Nat) (a1 a2:Int):Option Int:=
  (if a2≠0 then (if a2≠0 then (some (Int.tmod (w64 ((Int.tmod a1 a2) + a2)) a2)) else none) else none)
theorem APb {fuel:Nat} {h:ABh} {a1 a2 r:Int} (hp:AL1 fuel a1 a2=some r):AB7 Tryz.prog 79 #[(.int .i64 a1),(.int .i64 a2)] h (fun x h'=>Ext h h'/\x= .int .i64 r):=by
 unfold AL1 at hp;refine cwf (l:=[_,_]) Tryz.func79 rfl rfl (ABi (ACq (Wk (Wk ?_))));obtain ⟨Ac,Ad⟩:=ifN hp;refine AF7 rfl rfl Ac (Wk (ACy rfl rfl (Wk ?_)));obtain ⟨Ae,Af⟩:=ifN Ad;refine AF7 rfl rfl Ae (ABp (ABr ?_));obtain rfl:=ABk Af;exact ⟨_,ABt,(Kst.k0 h).x,rfl⟩
def APx (fuel:Nat) (Ac Aa Ab:Int):Option ((Int × Int) ⊕ ((Int × Int))):=
  (if (Int.tmod Aa 2)=0 then (if (Int.tmod Ac 8)=3 then (some (Sum.inl ((w64 (Int.tdiv Aa 2)),(w64 (0 - Ab))))) else (if (Int.tmod Ac 8)=5 then (some (Sum.inl ((w64 (Int.tdiv Aa 2)),(w64 (0 - Ab))))) else (some (Sum.inl ((w64 (Int.tdiv Aa 2)),Ab))))) else (some (Sum.inr<| (Aa,Ab))))
def APy (fuel:Nat) (Ad Aa Ae:Int):Option ((Int × Int × Int) ⊕ ((Int × Int))):=
  (if ¬ Ad=0 then ((iter (fun s=>APx fuel Aa s.1 s.2) fuel (Ad,Ae)).bind (fun ((Ab,Ac):Int × Int)=>(((if (Int.tmod Ab 4)=3 then (if (Int.tmod Aa 4)=3 then (some ( (w64 (0 - Ac)))) else (some ( Ac))) else (some ( Ac))):Option ((Int))).bind (fun (Af:Int)=>(if Ab≠0 then (some (Sum.inl ((Int.tmod Aa Ab),Ab,Af))) else none))))) else (some (Sum.inr<| (Aa,Ae))))
def APc (fuel:Nat) (a1 a2:Int):Option Int:=
  ((iter (fun s=>APy fuel s.1 s.2.1 s.2.2) fuel (a1,a2,1)).bind (fun ((Ac,Ad):Int × Int)=>(if ¬ Ac=1 then (some 0) else (some Ad))))
theorem AU5 {fuel:Nat} {h:ABh} {a1 a2 r:Int} (hp:APc fuel a1 a2=some r):AB7 Tryz.prog 80 #[(.int .i64 a1),(.int .i64 a2)] h (fun x h'=>Ext h h'/\x= .int .i64 r):=by
 unfold APc at hp;refine cwf (l:=[_,_]) Tryz.func80 rfl rfl (ABi (ACq (ABp (ABm (ABq ?_)))));have K0:=Kst.k0 h;obtain ⟨Ax,A8,Ay⟩:=ABl hp;obtain ⟨A9,Ba,Bb⟩:=ACg A8;refine ACi 137438953443 (fun x:(Int) × (Int) × (Int)=>[(0,(.int .i64 x.1)),(1,(.int .i64 x.2.1)),(5,(.int .i64 x.2.2))]) (fun k x h'=>iter A9 k (x.1,x.2.1,x.2.2)=some Ax/\Kst h h' (K0.L)) (by kernel_rfl) fuel ((a1,a2,1):(Int) × (Int) × (Int)) ?_ ⟨rfl,rfl,rfl,trivial⟩ ?_
 ·exact ⟨Bb,K0⟩
 rintro k9 ⟨Bc,Az,u16⟩ Bw Bx ⟨Be,Ag⟩;obtain ⟨Bf,By,rfl,Ad,Am⟩:=AB3 Be;rw [Ba] at Ad;dsimp only at Ad;unfold APy at Ad;refine ABm (ABi (Wk (AG8 rfl rfl (ABo (⟨_,rfl,fun Ao=>?_,fun Ao=>?_⟩)))))
 ·refine ABs (q_t (ABq (ABm (ABq ?_))));obtain ⟨A3,Bg,Bh⟩:=ABl (AC1 Ad Ao);obtain ⟨Bi,Bj,Bl⟩:=ACg Bg;refine ACi 8388385 (fun x:(Int) × (Int)=>[(0,(.int .i64 x.1)),(5,(.int .i64 x.2))]) (fun k x h'=>iter Bi k (x.1,x.2)=some A3/\Kst h h' (Ag.L)) (by kernel_rfl) fuel ((Bc,u16):(Int) × (Int)) ?_ ⟨rfl,rfl,trivial⟩ ?_
  ·exact ⟨Bl,Ag⟩
  rintro Bz ⟨Ab,Ac⟩ B1 B2 ⟨Bm,Aa⟩;obtain ⟨Ap,B3,rfl,Ae,Af⟩:=AB3 Bm;rw [Bj] at Ae;dsimp only at Ae;unfold APx at Ae;refine ABm (ABi (Wk (AF7 rfl rfl (by decide) (ADo rfl rfl (ABo (⟨_,rfl,fun Aq=>?_,fun Aq=>?_⟩))))))
  ·refine ABs (q_t (ABq (ABi (Wk (ATm rfl rfl (by decide) (ACq (Wk (AF7 rfl rfl (by decide) (ADo rfl rfl (Wk ?_))))))))));have A4:=AC1 Ae Aq;by_cases Ah:(Int.tmod Az 8)=3
   ·rw [decide_eq_true Ah];refine AJx 16 true (ABy rfl (ABo (AB8 rfl (ABw (Wk (ASe rfl (ACd (ACl (q_b (q_t ?_))))))))));obtain rfl:=ABk (ifT A4 Ah);exact ⟨Ap,(((w64 (Int.tdiv Ab 2)),(w64 (0 - Ac))):(Int) × (Int)),Nat.lt_succ_self _,⟨Af,Aa⟩,rfl,rfl,trivial⟩
   ·have A5:=ifF A4 Ah;rw [decide_eq_false Ah];refine ACk 16 false (Wk (ACk 16 false (AF7 rfl rfl (by decide) (ACk 16 false (ADo rfl rfl (ABu rfl (ABo (⟨_,rfl,fun Ar=>?_,fun Ar=>?_⟩))))))))
    ·refine ABw (Wk (ASe rfl (ACd (ACl (q_b (q_t ?_))))));obtain rfl:=ABk (AC1 A5 Ar);exact ⟨Ap,(((w64 (Int.tdiv Ab 2)),(w64 (0 - Ac))):(Int) × (Int)),Nat.lt_succ_self _,⟨Af,Aa⟩,rfl,rfl,trivial⟩
    ·refine ABs (q_b (q_t ?_));obtain rfl:=ABk (AC2 A5 Ar);exact ⟨Ap,(((w64 (Int.tdiv Ab 2)),Ac):(Int) × (Int)),Nat.lt_succ_self _,⟨Af,Aa⟩,rfl,rfl,trivial⟩
  ·obtain rfl:=ABk (AC2 Ae Aq);change _=A3 at Af;subst Af;refine ACb (AB9 (AB9 (ADj (q_t ?_))));obtain ⟨Bn,A6,Bo⟩:=ABl Bh;refine AN1 8581546016 (fun x:(Int)=>[(5,(.int .i64 x))]) (fun x h'=>( x)=Bn/\Kst h h' (Aa.L)) ?_ ?_
   ·refine ABi (Wk (AF7 rfl rfl (by decide) (ADo rfl rfl (Wk ?_))));by_cases Ai:(Int.tmod Ab 4)=3
    ·have A7:=ifT A6 Ai;rw [decide_eq_true Ai];refine ACk 26 true (Wk (ACk 26 true (AF7 rfl rfl (by decide) (ACk 26 true (ADo rfl rfl (ABy rfl (ABo (⟨_,rfl,fun Au=>?_,fun Au=>?_⟩))))))))
     ·refine ABw (Wk (ASe rfl (ABp ?_)));exact ⟨((w64 (0 - Ac)):(Int)),⟨ABk (AC1 A7 Au),Aa⟩,rfl,trivial⟩
     ·refine ABs (q_t ?_);exact ⟨(Ac:(Int)),⟨ABk (AC2 A7 Au),Aa⟩,rfl,trivial⟩
    ·rw [decide_eq_false Ai];refine AJx 26 false (ABu rfl (ABo (ACc rfl (ABs (q_t ?_)))));exact ⟨(Ac:(Int)),⟨ABk (ifF A6 Ai),Aa⟩,rfl,trivial⟩
   rintro Bp B4 B5 ⟨Bq,Br⟩;subst Bq;refine ABw (Wk (Wk ?_));obtain ⟨Bt,Bu⟩:=ifN Bo;refine AF7 rfl rfl Bt (Wk (ACd (ACd (ACl (q_b (q_t ?_))))));obtain rfl:=ABk Bu;exact ⟨Bf,(((Int.tmod Az Ab),Ab,Bp):(Int) × (Int) × (Int)),Nat.lt_succ_self _,⟨Am,Br⟩,rfl,rfl,rfl,trivial⟩
 ·obtain rfl:=ABk (AC2 Ad Ao);change _=Ax at Am;subst Am;refine ACb (AB9 (AB9 (ADj (q_t (ABm (ABi (Wk (AG8 rfl rfl (ABo (⟨_,rfl,fun Av=>?_,fun Av=>?_⟩))))))))))
  ·refine ABi (ABp (ABr (AB0 ?_)));obtain rfl:=ABk (AC1 Ay Av);exact ⟨_,ABt,Ag.x,rfl⟩
  ·refine ABs (q_t (ABi (Wk (ABp (ABr ?_)))));obtain rfl:=ABk (AC2 Ay Av);exact ⟨_,ABt,Ag.x,rfl⟩
def ANu (fuel:Nat) (a1 Ab Aa:Int):Option ((Int × Int) ⊕ (((Int × Int)) ⊕ (Int × Int))):=
  (if (Int.tmod Ab 2)=0 then (if (Int.tmod a1 2)=0 then (some (Sum.inr<| Sum.inl <| (0,0))) else ((((AL1 fuel a1 8).bind fun Ad=>(if Ad=3 then (some ( (w64 (0 - Aa)))) else (if Ad=5 then (some ( (w64 (0 - Aa)))) else (some ( Aa))))):Option ((Int))).bind (fun (Ae:Int)=>(some (Sum.inl ((w64 (Int.tdiv Ab 2)),Ae)))))) else (some (Sum.inr<| Sum.inr <| (Ab,Aa))))
def AMu (fuel:Nat) (a1 a2:Int):Option (Int × Int):=
  (((if a1 < (-2147483647) then (some (Sum.inl <| (0,1))) else (if 2147483647 < a1 then (some (Sum.inl <| (0,1))) else (if a2 < (-2147483647) then (some (Sum.inl <| (0,1))) else (if 2147483647 < a2 then (some (Sum.inl <| (0,1))) else (some (Sum.inr <| ())))))):Option (((Int × Int)) ⊕ (Unit))).bind (fun ex=>match ex with | Sum.inl Ad=>(some Ad) | Sum.inr (_)=>(if a2=0 then (if a1=1 then (some (1,0)) else (if a1=(-1) then (some (1,0)) else (some (0,0)))) else (((if a2 < 0 then (if a1 < 0 then (some ( ((w64 (0 - a2)),(-1)))) else (some ( ((w64 (0 - a2)),1)))) else (some ( (a2,1)))):Option ((Int × Int))).bind (fun ((Ae,Af):Int × Int)=>((iter (fun s=>ANu fuel a1 s.1 s.2) fuel (Ae,Af)).bind (fun ex=>match ex with | Sum.inl Ag=>(some Ag) | Sum.inr ((Ac,Ah))=>((AL1 fuel a1 Ac).bind fun Ai=>((APc fuel Ai Ac).bind fun Aj=>(some ((w64 (Ah * Aj)),0)))))))))))
theorem ASu {fuel:Nat} {h:ABh} {a1 a2:Int} {r:(Int × Int)} (hp:AMu fuel a1 a2=some r):AB7 Tryz.prog 49 #[(.int .i64 a1),(.int .i64 a2)] h (fun x h'=>Ext h h'/\x= .tuple #[.int .i64 r.1,.int .i64 r.2]):=by
 unfold AMu at hp;refine cwf (l:=[_,_]) Tryz.func49 rfl rfl (ABi (ACd (ABp ?_)));have K0:=Kst.k0 h;obtain ⟨Bj,A5,Ad⟩:=ABl hp;refine AN1 4194096 (fun x:Unit=>[]) (fun x h'=>(Sum.inr <| ())=Bj/\Kst h h' (K0.L)) ?_ ?_
 ·refine ABi (Wk (ACx rfl rfl (Wk ?_)));by_cases Ah:a1 < (-2147483647)
  ·rw [decide_eq_true Ah];refine AF9 10 true (ABy rfl (Wk (AF9 14 true (ABy rfl (Wk (AF9 18 true (ABy rfl (ABo (AB8 rfl (ABi (ACd (ABp ?_))))))))))));obtain rfl:=ABk (ifT A5 Ah);refine ABr (AB0 ?_);obtain rfl:=ABk Ad;exact ⟨_,AC8,K0.x,rfl⟩
  ·have A6:=ifF A5 Ah;rw [decide_eq_false Ah];refine ACk 10 false (Wk (ACk 10 false (AIm rfl rfl (ABu rfl (Wk ?_)))));by_cases Ai:2147483647 < a1
   ·rw [decide_eq_true Ai];refine AF9 14 true (ABy rfl (Wk (AF9 18 true (ABy rfl (ABo (AB8 rfl (ABi (ACd (ABp ?_)))))))));obtain rfl:=ABk (ifT A6 Ai);refine ABr (AB0 ?_);obtain rfl:=ABk Ad;exact ⟨_,AC8,K0.x,rfl⟩
   ·have A7:=ifF A6 Ai;rw [decide_eq_false Ai];refine ACk 14 false (Wk (ACk 14 false (ACx rfl rfl (ABu rfl (Wk ?_)))));by_cases Aj:a2 < (-2147483647)
    ·rw [decide_eq_true Aj];refine AF9 18 true (ABy rfl (ABo (AB8 rfl (ABi (ACd (ABp ?_))))));obtain rfl:=ABk (ifT A7 Aj);refine ABr (AB0 ?_);obtain rfl:=ABk Ad;exact ⟨_,AC8,K0.x,rfl⟩
    ·have A8:=ifF A7 Aj;rw [decide_eq_false Aj];refine ACk 18 false (Wk (ACk 18 false (AIm rfl rfl (ABu rfl (ABo (⟨_,rfl,fun Ap=>?_,fun Ap=>?_⟩))))))
     ·refine ABi (ACd (ABp ?_));obtain rfl:=ABk (AC1 A8 Ap);refine ABr (AB0 ?_);obtain rfl:=ABk Ad;exact ⟨_,AC8,K0.x,rfl⟩
     ·refine ABs (q_t ?_);exact ⟨(():Unit),⟨ABk (AC2 A8 Ap),K0⟩,trivial⟩
 rintro ⟨⟩ Ci Cj ⟨Bl,Aa⟩;subst Bl;refine ABm (ABi (Wk (ADo rfl rfl (ABo (⟨_,rfl,fun Aq=>?_,fun Aq=>?_⟩)))))
 ·refine ABm (ABi (Wk (ADo rfl rfl (Wk ?_))));have A9:=AC1 Ad Aq;by_cases Ak:a1=1
  ·rw [decide_eq_true Ak];refine AF9 26 true (ABy rfl (ABo (AB8 rfl (ABi (ACd (ABp (ABr (AB0 (AB0 ?_)))))))));obtain rfl:=ABk (ifT A9 Ak);exact ⟨_,AC8,Aa.x,rfl⟩
  ·have Ba:=ifF A9 Ak;rw [decide_eq_false Ak];refine ACk 26 false (Wk (ACk 26 false (ADo rfl rfl (ABu rfl (ABo (⟨_,rfl,fun Ar=>?_,fun Ar=>?_⟩))))))
   ·refine ABi (ACd (ABp (ABr (AB0 (AB0 ?_)))));obtain rfl:=ABk (AC1 Ba Ar);exact ⟨_,AC8,Aa.x,rfl⟩
   ·refine ABs (q_t (ABi (ACd (ABp (ABr (AB0 ?_))))));obtain rfl:=ABk (AC2 Ba Ar);exact ⟨_,AC8,Aa.x,rfl⟩
 ·refine ABs (q_t (ABi (ABp ?_)));obtain ⟨Bm,Bb,Bn⟩:=ABl (AC2 Ad Aq);refine AN1 67645734978 (fun x:(Int) × (Int)=>[(1,(.int .i64 x.1)),(6,(.int .i64 x.2))]) (fun x h'=>( (x.1,x.2))=Bm/\Kst h h' (Aa.L)) ?_ ?_
  ·refine ABi (Wk (ACx rfl rfl (ABo (⟨_,rfl,fun Au=>?_,fun Au=>?_⟩))))
   ·refine ABi (Wk (ASe rfl (ACq (Wk (ACx rfl rfl (ABo ?_))))));have Bc:=AC1 Bb Au;refine ⟨_,rfl,fun Av=>?_,fun Av=>?_⟩
    ·refine ABw (ABp ?_);exact ⟨(((w64 (0 - a2)),(-1)):(Int) × (Int)),⟨ABk (AC1 Bc Av),Aa⟩,rfl,rfl,trivial⟩
    ·refine ABs (q_t ?_);exact ⟨(((w64 (0 - a2)),1):(Int) × (Int)),⟨ABk (AC2 Bc Av),Aa⟩,rfl,rfl,trivial⟩
   ·refine ABs (q_t ?_);exact ⟨((a2,1):(Int) × (Int)),⟨ABk (AC2 Bb Au),Aa⟩,rfl,rfl,trivial⟩
  rintro ⟨u64,Bo⟩ Ck Cm ⟨Bp,Be⟩;subst Bp;refine ABm (ABq ?_);obtain ⟨Aw,Bq,Bf⟩:=ABl Bn;obtain ⟨Br,Bt,Bu⟩:=ACg Bq;refine ACi 18014329790005490 (fun x:(Int) × (Int)=>[(1,(.int .i64 x.1)),(6,(.int .i64 x.2))]) (fun k x h'=>iter Br k (x.1,x.2)=some Aw/\Kst h h' (Be.L)) (by kernel_rfl) fuel ((u64,Bo):(Int) × (Int)) ?_ ⟨rfl,rfl,trivial⟩ ?_
  ·exact ⟨Bu,Be⟩
  rintro Cn ⟨Bv,Ax⟩ Co Cp ⟨Bw,Am⟩;obtain ⟨Bx,Cq,rfl,Af,Ag⟩:=AB3 Bw;rw [Bt] at Af;dsimp only at Af;unfold ANu at Af;refine ABm (ABi (Wk (AF7 rfl rfl (by decide) (ADo rfl rfl (ABo (⟨_,rfl,fun Ay=>?_,fun Ay=>?_⟩))))))
  ·refine ABs (q_t (ABq (ABm (ABi (Wk (AF7 rfl rfl (by decide) (ADo rfl rfl (ABo ?_))))))));have Bg:=AC1 Af Ay;refine ⟨_,rfl,fun Az=>?_,fun Az=>?_⟩
   ·refine ABi (ACd (ABp ?_));obtain rfl:=ABk (AC1 Bg Az);change _=Aw at Ag;subst Ag;refine ABr (AB0 (ADn (AB0 (ADn (AB0 ?_)))));obtain rfl:=ABk Bf;exact ⟨_,AC8,Am.x,rfl⟩
   ·refine ABs (q_t ?_);obtain ⟨By,Bz,B1⟩:=ABl (AC2 Bg Az);refine AN1 4499201580859584 (fun x:(Int)=>[(6,(.int .i64 x))]) (fun x h'=>( x)=By/\Kst h h' (Am.L)) ?_ ?_
    ·refine ABi (Wk ?_);obtain ⟨B2,B3,Bh⟩:=ABl Bz;refine ACu rfl (APb B3) fun Cr Ct B4 B5=>?_;subst B5;refine ACq (Wk (ADo rfl rfl (Wk ?_)));have A3:=Am.e B4;by_cases Ao:B2=3
     ·rw [decide_eq_true Ao];refine AF9 46 true (ABy rfl (ABo (AB8 rfl (ABw (Wk (ASe rfl (ABp ?_)))))));exact ⟨((w64 (0 - Ax)):(Int)),⟨ABk (ifT Bh Ao),A3⟩,rfl,trivial⟩
     ·have Bi:=ifF Bh Ao;rw [decide_eq_false Ao];refine ACk 46 false (Wk (ACk 46 false (ADo rfl rfl (ABu rfl (ABo (⟨_,rfl,fun A4=>?_,fun A4=>?_⟩))))))
      ·refine ABw (Wk (ASe rfl (ABp ?_)));exact ⟨((w64 (0 - Ax)):(Int)),⟨ABk (AC1 Bi A4),A3⟩,rfl,trivial⟩
      ·refine ABs (q_t ?_);exact ⟨(Ax:(Int)),⟨ABk (AC2 Bi A4),A3⟩,rfl,trivial⟩
    rintro B6 Cu Cv ⟨B7,B8⟩;subst B7;refine ABw (Wk (ATm rfl rfl (by decide) (ACd (ACl (q_b (q_t ?_))))));obtain rfl:=ABk B1;exact ⟨Bx,(((w64 (Int.tdiv Bv 2)),B6):(Int) × (Int)),Nat.lt_succ_self _,⟨Ag,B8⟩,rfl,rfl,trivial⟩
  ·obtain rfl:=ABk (AC2 Af Ay);change _=Aw at Ag;subst Ag;refine ACb (AB9 (AB9 (ADj (q_t (ABi (Wk (Wk (Wk ?_))))))));obtain ⟨Cw,B9,Ca⟩:=ABl Bf;refine ACu rfl (APb B9) fun Cx Cy Cb Cd=>?_;subst Cd;refine Wk ?_;obtain ⟨Cz,Ce,Cf⟩:=ABl Ca;refine ACu rfl (AU5 Ce) fun C0 C1 Cg Ch=>?_;subst Ch;refine AL8 rfl rfl (ACd (ABp (ABr ?_)));obtain rfl:=ABk Cf;exact ⟨_,AC8,((Am.e Cb).e Cg).x,rfl⟩
end Go.Proofs.YtiegjkmfpcgjjaaGreatDoor
namespace Go.QF
open Classical in
noncomputable def Af8 (A:List (List Int)) (m:Int):Int:=if AH4 A then (if APf m then (if ∃ y,AKu m (AY9 A m) y then 0 else 8) else 1) else 3
open Classical in
noncomputable def AYu (A:List (List Int)) (m:Int):List (List Int):=if AH4 A=true/\APf m=true/\ ∃ y,AKu m (AY9 A m) y then tab A.length A.length (fun i j=>ALs A.length (ent (ALo A m)) i j * AXi m (AY9 A m) % m) else []
theorem Aac {m x r:Int} (h:AKu m x r):Eqm m (r * x) 1:=h.2.2
theorem Am7 {m x r:Int} (hm:2<=m) (h:Eqm m (r * x) 1):∃ y,AKu m x y:=⟨r % m,Int.emod_nonneg _ (by omega),Int.emod_lt_of_pos _ (by omega),by
  rw [Int.mul_emod,Int.emod_emod,<- Int.mul_emod];exact h⟩
theorem AYv {n:Nat} {m u d:Int} {A B:Nat->Nat->Int} (hu:Eqm m (u * d) 1) (hd:Eqm m d (det n A)) (hBA:∀ i j,i < n->j < n->Eqm m (psum (fun k=>B i k * A k j) n) (dl i j)) {i j:Nat} (hi:i < n) (hj:j < n):Eqm m (B i j) (ALs n A i j * u):=by
  have h1:Eqm m (psum (fun k=>B i k * psum (fun l=>A k l * (ALs n A l j * u)) n) n) (B i j):=by
    have e1:∀ k,k < n->Eqm m (psum (fun l=>A k l * (ALs n A l j * u)) n) (dl k j):=fun k hk=>by
      have e2:psum (fun l=>A k l * (ALs n A l j * u)) n=u * psum (fun l=>A k l * ALs n A l j) n:=by
        rw [<- AD2];exact ABz fun l _=>by grind
      rw [e2,AZ2 hk hj];refine Eqm.trans (Eqm.of_eq (show u * (det n A * dl k j)=u * det n A * dl k j by rw [Int.mul_assoc])) ?_;have:=(((Eqm.refl m u).mul hd.symm).trans hu).mul (Eqm.refl m (dl k j));rwa [Int.one_mul] at this
    refine Eqm.trans (Eqm.psum fun k hk=>(Eqm.refl m (B i k)).mul (e1 k hk)) (Eqm.of_eq ?_);exact Afo (F:=B) (i:=i) hj
  have h2:psum (fun k=>B i k * psum (fun l=>A k l * (ALs n A l j * u)) n) n=psum (fun l=>psum (fun k=>B i k * A k l) n * (ALs n A l j * u)) n:=by
    rw [ABz (g:=fun k=>psum (fun l=>B i k * A k l * (ALs n A l j * u)) n) (fun k _=>by rw [<- AD2];exact ABz fun l _=>by rw [Int.mul_assoc]),AM7];refine ABz fun l _=>?_;rw [Int.mul_comm (psum (fun k=>B i k * A k l) n),<- AD2];exact ABz fun k _=>by rw [Int.mul_comm]
  refine h1.symm.trans ((Eqm.of_eq h2).trans ?_);refine Eqm.trans (Eqm.psum (g:=fun l=>dl i l * (ALs n A l j * u)) fun l hl=>(hBA i l hi hl).mul (Eqm.refl _ _)) (Eqm.of_eq ?_);rw [ANc hi (fun k hk hne=>by unfold dl;rw [if_neg (fun h=>hne h.symm)];simp)];simp [dl]
end Go.QF
namespace Go.Proofs.YtiegjkmfpcgjjaaGreatDoor
open Go Go.QF
def QJ (A:List (List Int)) (m:Int) (F:Nat->Nat->Int) (s:Int):Prop:=Adk A.length m (ent (ALo A m)) F
theorem Am8 (A:List (List Int)) (m:Int):Al2 A.length (A.length + A.length) m (QJ A m):=fun F s c i q hc hi hne _ _ _ H=>AYm (Afv hc hi hne) H
noncomputable def AU6 (fuel:Nat) (M:List (List Int)) (m:Int):Option (List (List Int) × Int):=some (AYu M m,Af8 M m)
theorem Aeb {h:ABh} {v:Value} {M:List (List Int)} (HM:Mat h v M) (m:Int):AB7 Tryz.prog 39 #[v,.int .i64 m] h fun x h'=>Ext h h'/\ ∃ r,x= .tuple #[r,.int .i64 (Af8 M m)]/\Mat h' r (AYu M m)/\AM0 r:=by
 refine (Adj HM m (QJ M m) (fun _ _=>Al7) (Am8 M m)).mono fun x h' ⟨⟨hE,r,e,hx,hk⟩,hcp⟩=>⟨hE,r,?_⟩;have hcr:=hcp _ _ hx;clear hcp;subst hx;rw [<- and_assoc];refine ⟨?_,hcr⟩;rcases hk with ⟨h1,rfl,h2⟩ | ⟨h1,h2,rfl,h3⟩ | ⟨h1,h2,F1,s,hs,hQ,hbd,hz,hk⟩
 ·refine ⟨by simp [Af8,h1],?_⟩;rw [show AYu M m=[] by unfold AYu;rw [if_neg (fun h=>by rw [h1] at h;cases h.1)]];exact h2
 ·refine ⟨by simp [Af8,h1,h2],?_⟩;rw [show AYu M m=[] by unfold AYu;rw [if_neg (fun h=>by rw [h2] at h;cases h.2.1)]];exact h3
 ·have hm:=ASk h2
  have hD:Eqm m (AY9 M m) (det M.length (ent (ALo M m))):=by
    have e1:AY9 M m=det M.length (ent M) % m:=by simp [AY9,h1,h2]
    rw [e1]
    refine (Eqm.mod _ _).trans (AW3 fun i j _ _=>?_)
    rw [Ans];exact (Eqm.mod _ _).symm
  rcases hk with ⟨rfl,h3,c,hc,hno⟩ | ⟨rfl,hun,h3⟩
  ·have hnot: ¬ ∃ y,AKu m (AY9 M m) y:=by
     rintro ⟨y,hy⟩
     refine hno (Ama hm.1 hz hQ (V:=fun i k=>y * ALs M.length (ent (ALo M m)) i k) (fun i j hi hj=>?_) c hc)
     have e2:psum (fun k=>y * ALs M.length (ent (ALo M m)) i k * ent (ALo M m) k j) M.length=y * psum (fun k=>ALs M.length (ent (ALo M m)) i k * ent (ALo M m) k j) M.length:=by
       rw [<- AD2];exact ABz fun k _=>by rw [Int.mul_assoc]
     rw [e2,Amb hi hj]
     refine Eqm.trans (Eqm.of_eq (show y * (det M.length (ent (ALo M m)) * dl i j)=y * det M.length (ent (ALo M m)) * dl i j by rw [Int.mul_assoc])) ?_
     have:=(((Eqm.refl m y).mul hD.symm).trans (Aac hy)).mul (Eqm.refl m (dl i j))
     rwa [Int.one_mul] at this
   refine ⟨by simp [Af8,h1,h2,hnot],?_⟩;rw [show AYu M m=[] by unfold AYu;rw [if_neg (fun h=>hnot h.2.2)]];exact h3
  ·obtain ⟨hBA,hAB⟩:=Al8 hm.1 hbd hz hun hQ
   have hyes:∃ y,AKu m (AY9 M m) y:=by
     have e1:=AUv (n:=M.length) (fun i j=>AHh m M.length F1 M.length i (M.length + j)) (ent (ALo M m))
     have e2:Eqm m (det M.length (AE3 M.length (fun i j=>AHh m M.length F1 M.length i (M.length + j)) (ent (ALo M m)))) (det M.length dl):=AW3 fun i j hi hj=>hBA i j hi hj
     rw [e1,Afn] at e2
     exact Am7 hm.1 (((Eqm.refl _ _).mul hD).trans e2)
   refine ⟨by simp [Af8,h1,h2,hyes],?_⟩
   have e3:AYu M m=tab M.length M.length fun i j=>AHh m M.length F1 M.length i (M.length + j):=by
     unfold AYu
     rw [if_pos ⟨h1,h2,hyes⟩]
     obtain ⟨y,hy⟩:=hyes
     have hu:=Aac (AS0 hy)
     refine AVi fun i j hi hj=>?_
     have h5:=AYv (B:=fun i k=>AHh m M.length F1 M.length i (M.length + k)) hu hD hBA hi hj
     have h6:=Aap (n:=M.length) (by omega:0 < m) hbd M.length i (M.length + j) hi (by omega)
     rw [<- Int.emod_eq_of_lt h6.1 h6.2]
     exact h5.symm
   rw [e3];exact h3
theorem Am9 {fuel:Nat} {h:ABh} {v:Value} {M:List (List Int)} {m:Int} {r:List (List Int) × Int} (H:AFl (cI .i64) h v M) (hp:AU6 fuel M m=some r):AB7 Tryz.prog 39 #[v,.int .i64 m] h (fun x h'=>Ext h h'/\ ∃ (x0:Value),x= .tuple #[x0,.int .i64 r.2]/\AFl (cI .i64) h' x0 r.1):=by
 cases hp;exact (Aeb (Aly H) m).mono fun x h' ⟨E,r,hx,hr,hcp⟩=>⟨E,r,hx,Ahe hr hcp⟩
end Go.Proofs.YtiegjkmfpcgjjaaGreatDoor
namespace Go.Proofs.YtiegjkmfpcgjjaaGreatDoor
open Go Go.QF
set_option maxRecDepth 100000
set_option maxHeartbeats 4000000
def AR2 (fuel:Nat) (a1 a2 s8 s9:Int):Option ((Int × Int) ⊕ ((Int))):=
  (if s9 < a2 then (some (Sum.inl ((w64 (s8 * a1)),(w64 (s9 + 1))))) else (some (Sum.inr<| s8)))
def AMv (fuel:Nat) (a1 a2:Int):Option Int:=
  ((iter (fun s=>AR2 fuel a1 a2 s.1 s.2) fuel (1,0)).bind (fun (Ac:Int)=>(some Ac)))
theorem AOb {fuel:Nat} {h:ABh} {a1 a2 r:Int} (hp:AMv fuel a1 a2=some r):AB7 Tryz.prog 47 #[(.int .i64 a1),(.int .i64 a2)] h (fun x h'=>Ext h h'/\x= .int .i64 r):=by
 unfold AMv at hp;refine cwf (l:=[_,_]) Tryz.func47 rfl rfl (ABi (ACq (ABp (ABm (ABi (Wk (Wk (ABo (ABq ?_)))))))));have K0:=Kst.k0 h;obtain ⟨Ag,Ai,Aj⟩:=ABl hp;obtain ⟨Ak,Am,Ao⟩:=ACg Ai;refine ACi 8096 (fun x:(Int) × (Int)=>[(5,(.int .i64 x.1)),(7,(.int .i64 x.2))]) (fun k x h'=>iter Ak k (x.1,x.2)=some Ag/\Kst h h' (K0.L)) (by kernel_rfl) fuel ((1,0):(Int) × (Int)) ?_ ⟨rfl,rfl,trivial⟩ ?_
 ·exact ⟨Ao,K0⟩
 rintro k9 ⟨Ap,Aq⟩ Aw Ax ⟨Ar,Ah⟩;obtain ⟨Au,Ay,rfl,Aa,Ac⟩:=AB3 Ar;rw [Am] at Aa;dsimp only at Aa;unfold AR2 at Aa;refine ABi (ACx rfl rfl (ABo (ABm (⟨_,rfl,fun Ad=>?_,fun Ad=>?_⟩))))
 ·refine ABs (q_t (ABm (ABq (ABw (Wk (Wk (AL8 rfl rfl (ACd (ACl (q_b (q_t (ABw (ACy rfl rfl (Wk (ABo ?_)))))))))))))));obtain rfl:=ABk (AC1 Aa Ad);exact ⟨Au,(((w64 (Ap * a1)),(w64 (Aq + 1))):(Int) × (Int)),Nat.lt_succ_self _,⟨Ac,Ah⟩,rfl,rfl,trivial⟩
 ·obtain rfl:=ABk (AC2 Aa Ad);change _=Ag at Ac;subst Ac;refine ACb (AB9 (AB9 (ADj (q_t (ABi (Wk (ABp (ABr ?_))))))));obtain rfl:=ABk Aj;exact ⟨_,ABt,Ah.x,rfl⟩
def AOc (fuel:Nat) (a3 a7:LiA) (Ac Aa:Int):Option ((Int × Int) ⊕ ((Int))):=
  (if Aa < (a7.length:Int) then ((gI a7 Aa).bind fun Ae=>((gI a3 Aa).bind fun Af=>(some (Sum.inl ((w64 (Ac + (w64 (Af * Ae)))),(w64 (Aa + 1))))))) else (some (Sum.inr<| Ac)))
def AJc (fuel:Nat) (a3 a7:LiA) (a9:Int):Option Int:=
  ((iter (fun s=>AOc fuel a3 a7 s.1 s.2) fuel (0,0)).bind (fun (Ad:Int)=>(if a9≠0 then (some (Int.tmod Ad a9)) else none)))
theorem AR3 {fuel:Nat} {h:ABh} {Ae:Value} {a3:LiA} {Ag:Value} {a7:LiA} {a9 r:Int} (H2:SlC (cI .i64) h Ae a3) (H6:SlC (cI .i64) h Ag a7) (hp:AJc fuel a3 a7 a9=some r):AB7 Tryz.prog 38 #[Ae,Ag,(.int .i64 a9)] h (fun x h'=>Ext h h'/\x= .int .i64 r):=by
 unfold AJc at hp;refine cwf (l:=[_,_,_]) Tryz.func38 rfl rfl (ABi (ACq (ABp (ABm (ABi (Wk (ADr ABv rfl H6 (Wk (ABo (ABq ?_))))))))));have K0:=Kst.k0 h;obtain ⟨Am,Ap,Aq⟩:=ABl hp;obtain ⟨Ar,Au,Av⟩:=ACg Ap;refine ACi 67105664 (fun x:(Int) × (Int)=>[(7,(.int .i64 x.1)),(12,(.int .i64 x.2))]) (fun k x h'=>iter Ar k (x.1,x.2)=some Am/\Kst h h' (K0.L)) (by kernel_rfl) fuel ((0,0):(Int) × (Int)) ?_ ⟨rfl,rfl,trivial⟩ ?_
 ·exact ⟨Av,K0⟩
 rintro Bg ⟨Aw,Ax⟩ Bh Bi ⟨Ay,Ab⟩;obtain ⟨Az,Bj,rfl,Aa,Ac⟩:=AB3 Ay;rw [Au] at Aa;dsimp only at Aa;unfold AOc at Aa;refine ABi (ACx rfl rfl (ABo (ABm (⟨_,rfl,fun Ad=>?_,fun Ad=>?_⟩))))
 ·refine ABs (q_t (ABm (ABq (ABi (Wk ?_)))));obtain ⟨A3,A4,A5⟩:=ABl (AC1 Aa Ad);refine AIf (c:=(cI .i64)) ABv rfl H6 rfl A4 fun Bl Bm Bn A6 A7=>?_;obtain rfl:=A6;refine AB4 ACr rfl (ABx (A7 0 _ rfl) Ab.x) (ACd (ABp (ABw (Wk (Wk (Wk ?_))))));obtain ⟨A8,A9,Ba⟩:=ABl A5;refine AIf (c:=(cI .i64)) ABv rfl H2 rfl A9 fun Bo Bp Bq Bb Bc=>?_;obtain rfl:=Bb;refine AB4 ACr rfl (ABx (Bc 0 _ rfl) Ab.x) (Wk (AL8 rfl rfl (ACy rfl rfl (ACd (ACl (q_b (q_t (ABw (ACy rfl rfl (Wk (ABo ?_)))))))))));obtain rfl:=ABk Ba;exact ⟨Az,(((w64 (Aw + (w64 (A8 * A3)))),(w64 (Ax + 1))):(Int) × (Int)),Nat.lt_succ_self _,⟨Ac,Ab⟩,rfl,rfl,trivial⟩
 ·obtain rfl:=ABk (AC2 Aa Ad);change _=Am at Ac;subst Ac;refine ACb (AB9 (AB9 (ADj (q_t (ABi (Wk (Wk ?_)))))));obtain ⟨Be,Bf⟩:=ifN Aq;refine AF7 rfl rfl Be (ABp (ABr ?_));obtain rfl:=ABk Bf;exact ⟨_,ABt,Ab.x,rfl⟩
def APd (fuel:Nat) (a3:LiI) (a7:LiA) (a9 Ac Aa:Int):Option ((Int × Int) ⊕ ((Int))):=
  (if Aa < (a7.length:Int) then ((gI a7 Aa).bind fun Af=>((gI a3 Aa).bind fun Ag=>((AJc fuel Ag a7 a9).bind fun Ah=>(some (Sum.inl ((w64 (Ac + (w64 (Ah * Af)))),(w64 (Aa + 1)))))))) else (some (Sum.inr<| Ac)))
def AJy (fuel:Nat) (a3:LiI) (a7:LiA) (a9:Int):Option Int:=
  ((iter (fun s=>APd fuel a3 a7 a9 s.1 s.2) fuel (0,0)).bind (fun (Ad:Int)=>(if a9≠0 then (some (Int.tmod Ad a9)) else none)))
theorem APe {fuel:Nat} {h:ABh} {Af:Value} {a3:LiI} {Ah:Value} {a7:LiA} {a9 r:Int} (H2:AFl (cI .i64) h Af a3) (H6:SlC (cI .i64) h Ah a7) (hp:AJy fuel a3 a7 a9=some r):AB7 Tryz.prog 40 #[Af,Ah,(.int .i64 a9)] h (fun x h'=>Ext h h'/\x= .int .i64 r):=by
 unfold AJy at hp;refine cwf (l:=[_,_,_]) Tryz.func40 rfl rfl (ABi (ACq (ABp (ABm (ABi (Wk (ADr ABv rfl H6 (Wk (ABo (ABq ?_))))))))));have K0:=Kst.k0 h;obtain ⟨Am,Ap,Aq⟩:=ABl hp;obtain ⟨Ar,Au,Av⟩:=ACg Ap;refine ACi 536867712 (fun x:(Int) × (Int)=>[(7,(.int .i64 x.1)),(12,(.int .i64 x.2))]) (fun k x h'=>iter Ar k (x.1,x.2)=some Am/\Kst h h' (K0.L)) (by kernel_rfl) fuel ((0,0):(Int) × (Int)) ?_ ⟨rfl,rfl,trivial⟩ ?_
 ·exact ⟨Av,K0⟩
 rintro Bl ⟨Aw,Ax⟩ Bm Bn ⟨Ay,Aa⟩;obtain ⟨Az,Bo,rfl,Ab,Ad⟩:=AB3 Ay;rw [Au] at Ab;dsimp only at Ab;unfold APd at Ab;refine ABi (ACx rfl rfl (ABo (ABm (⟨_,rfl,fun Ae=>?_,fun Ae=>?_⟩))))
 ·refine ABs (q_t (ABm (ABq (ABi (Wk ?_)))));obtain ⟨A3,A4,A5⟩:=ABl (AC1 Ab Ae);refine AIf (c:=(cI .i64)) ABv rfl H6 rfl A4 fun Bp Bq Br A6 A7=>?_;obtain rfl:=A6;refine AB4 ACr rfl (ABx (A7 0 _ rfl) Aa.x) (ACd (ABp (ABw (Wk (Wk (Wk ?_))))));obtain ⟨Bt,A8,A9⟩:=ABl A5;refine AIj AB2 rfl H2 rfl A8 fun Bu Bv Bw Ba Bb=>AB4 ACn rfl (ABx Ba Aa.x) (Wk (Wk ?_));obtain ⟨Bc,Be,Bf⟩:=ABl A9;refine ACu rfl (AR3 (Bb.ext Aa.x) (H6.ext Aa.x) Be) fun Bx By Bg Bh=>?_;subst Bh;refine Wk (AL8 rfl rfl (ACy rfl rfl (ACd (ACl (q_b (q_t (ABw (ACy rfl rfl (Wk (ABo ?_))))))))));obtain rfl:=ABk Bf;exact ⟨Az,(((w64 (Aw + (w64 (Bc * A3)))),(w64 (Ax + 1))):(Int) × (Int)),Nat.lt_succ_self _,⟨Ad,(Aa.e Bg)⟩,rfl,rfl,trivial⟩
 ·obtain rfl:=ABk (AC2 Ab Ae);change _=Am at Ad;subst Ad;refine ACb (AB9 (AB9 (ADj (q_t (ABi (Wk (Wk ?_)))))));obtain ⟨Bi,Bj⟩:=ifN Aq;refine AF7 rfl rfl Bi (ABp (ABr ?_));obtain rfl:=ABk Bj;exact ⟨_,ABt,Aa.x,rfl⟩
noncomputable def AKb (fuel:Nat) (a3:LiI) (a5:Int):Option Int:=
  ((AV0 fuel a3).bind fun x6=>(if (!x6)=true then (some 6) else (((if a5=2 then (some (Sum.inl <| 20)) else (if 9973 < a5 then (some (Sum.inl <| 20)) else ((AYl fuel a5).bind fun Ad=>(if (!Ad)=true then (some (Sum.inl <| 20)) else (some (Sum.inr <| ())))))):Option ((Int) ⊕ (Unit))).bind (fun ex=>match ex with | Sum.inl Ae=>(some Ae) | Sum.inr (_)=>((AJg fuel a3 a5).bind fun (Af,Ag)=>(if ¬ Ag=0 then (some 20) else (if Af=0 then (some 20) else (some 0))))))))
theorem AOd {fuel:Nat} {h:ABh} {Am:Value} {a3:LiI} {a5 r:Int} (H2:AFl (cI .i64) h Am a3) (HO:AT1 h) (hp:AKb fuel a3 a5=some r):AB7 Tryz.prog 34 #[Am,(.int .i64 a5)] h (fun x h'=>Ext h h'/\x= .int .i64 r):=by
 unfold AKb at hp;refine cwf (l:=[_,_]) Tryz.func34 rfl rfl (ABi (ABp (ABm (ABi (Wk ?_)))));have K0:=Kst.k0 h;obtain ⟨x6,A3,Ar⟩:=ABl hp;refine ACu rfl (Aft (H2.ext K0.x) A3) fun Bh Bi E9 A5=>?_;subst A5;refine AF8 rfl (ABo ?_);have Aa:=K0.e E9;refine ⟨_,rfl,fun Ag=>?_,fun Ag=>?_⟩
 ·refine ABi (ABp (ABr (AB0 ?_)));obtain rfl:=ABk (ifT Ar Ag);exact ⟨_,ABt,Aa.x,rfl⟩
 ·refine ABs (q_t ?_);obtain ⟨A6,Au,Ac⟩:=ABl (AIz Ar Ag);refine AN1 2096144 (fun x:Unit=>[]) (fun x h'=>(Sum.inr <| ())=A6/\Kst h h' (Aa.L)) ?_ ?_
  ·refine ABi (Wk (ADo rfl rfl (Wk ?_)));by_cases Ad:a5=2
   ·rw [decide_eq_true Ad];refine AF9 12 true (ABy rfl (Wk (AJx 16 true (ABy rfl (ABo (AB8 rfl (ABi (ABp ?_))))))));obtain rfl:=ABk (ifT Au Ad);refine ABr (AB0 ?_);obtain rfl:=ABk Ac;exact ⟨_,ABt,Aa.x,rfl⟩
   ·have Av:=ifF Au Ad;rw [decide_eq_false Ad];refine ACk 12 false (Wk (ACk 12 false (AIm rfl rfl (ABu rfl (Wk ?_)))));by_cases Ae:9973 < a5
    ·rw [decide_eq_true Ae];refine AJx 16 true (ABy rfl (ABo (AB8 rfl (ABi (ABp ?_)))));obtain rfl:=ABk (ifT Av Ae);refine ABr (AB0 ?_);obtain rfl:=ABk Ac;exact ⟨_,ABt,Aa.x,rfl⟩
    ·rw [decide_eq_false Ae];refine ACk 16 false (Wk (ACk 16 false ?_));obtain ⟨Bj,A7,Aw⟩:=ABl (ifF Av Ae);refine ACu rfl (Aiz (HO.ext Aa.x) A7) fun Bl Bm A8 A9=>?_;subst A9;refine ACk 16 false (AF8 rfl (ABu rfl (ABo ?_)));have Ax:=Aa.e A8;refine ⟨_,rfl,fun Ah=>?_,fun Ah=>?_⟩
     ·refine ABi (ABp ?_);obtain rfl:=ABk (ifT Aw Ah);refine ABr (AB0 ?_);obtain rfl:=ABk Ac;exact ⟨_,ABt,Ax.x,rfl⟩
     ·refine ABs (q_t ?_);exact ⟨(():Unit),⟨ABk (AIz Aw Ah),Ax⟩,trivial⟩
  rintro ⟨⟩ Bn Bo ⟨Ba,Ay⟩;subst Ba;refine ABm (ABi (Wk (Wk ?_)));obtain ⟨⟨Bp,Bb⟩,Bc,Ai⟩:=ABl Ac;dsimp only at Ai;refine ACu rfl (AQy (H2.ext Ay.x) Bc) fun Bq Br Be Bf=>?_;subst Bf;refine Wk (ACz rfl rfl (ACz rfl rfl (ACd (ACq (Wk (AG8 rfl rfl (Wk ?_)))))));have Aj:=Ay.e Be;by_cases Af: ¬ Bb=0
  ·rw [decide_eq_true Af];refine AF9 29 true (ABy rfl (ABo (AB8 rfl (ABi (ABp (ABr (AB0 ?_)))))));obtain rfl:=ABk (ifT Ai Af);exact ⟨_,ABt,Aj.x,rfl⟩
  ·have Az:=ifF Ai Af;rw [decide_eq_false Af];refine ACk 29 false (Wk (ACk 29 false (ADo rfl rfl (ABu rfl (ABo (⟨_,rfl,fun Ak=>?_,fun Ak=>?_⟩))))))
   ·refine ABi (ABp (ABr (AB0 ?_)));obtain rfl:=ABk (AC1 Az Ak);exact ⟨_,ABt,Aj.x,rfl⟩
   ·refine ABs (q_t (ABi (ABp (ABr ?_))));obtain rfl:=ABk (AC2 Az Ak);exact ⟨_,ABt,Aj.x,rfl⟩
noncomputable def AOj (fuel:Nat) (a3:LiI) (a5 Ab Ac:Int):Option ((Int × Int) ⊕ ((Int) ⊕ (Unit))):=
  (if Ac < (a3.length:Int) then (if 65536 < (w64 (Ab * a5)) then (some (Sum.inr<| Sum.inl <| 7)) else (some (Sum.inl ((w64 (Ab * a5)),(w64 (Ac + 1)))))) else (some (Sum.inr<| Sum.inr <| ())))
noncomputable def AIi (fuel:Nat) (a3:LiI) (a5:Int):Option Int:=
  ((AKb fuel a3 a5).bind fun x6=>(if ¬ x6=0 then (some x6) else ((iter (fun s=>AOj fuel a3 a5 s.1 s.2) fuel (1,0)).bind (fun ex=>match ex with | Sum.inl Ad=>(some Ad) | Sum.inr (_)=>(some 0)))))
theorem AOk {fuel:Nat} {h:ABh} {Ak:Value} {a3:LiI} {a5 r:Int} (H2:AFl (cI .i64) h Ak a3) (HO:AT1 h) (hp:AIi fuel a3 a5=some r):AB7 Tryz.prog 45 #[Ak,(.int .i64 a5)] h (fun x h'=>Ext h h'/\x= .int .i64 r):=by
 unfold AIi at hp;refine cwf (l:=[_,_]) Tryz.func45 rfl rfl (ABi (ABp (ABm (ABi (Wk (Wk ?_))))));have K0:=Kst.k0 h;obtain ⟨x6,Au,Ap⟩:=ABl hp;refine ACu rfl (AOd (H2.ext K0.x) (HO.ext K0.x) Au) fun A9 Ba E9 Aw=>?_;subst Aw;refine ACq (Wk (AG8 rfl rfl (ABo ?_)));have Ae:=K0.e E9;refine ⟨_,rfl,fun Af=>?_,fun Af=>?_⟩
 ·refine ABi (Wk (ABp (ABr (AB0 ?_))));obtain rfl:=ABk (AC1 Ap Af);exact ⟨_,ABt,Ae.x,rfl⟩
 ·refine ABs (q_t (ABi (ABp (ABm (ABi (Wk (ADg AB2 rfl H2 (Wk (ABo (ABq ?_))))))))));obtain ⟨Ag,Ax,Aq⟩:=ABl (AC2 Ap Af);obtain ⟨Ay,Az,A3⟩:=ACg Ax;refine ACi 8355920 (fun x:(Int) × (Int)=>[(6,(.int .i64 x.1)),(15,(.int .i64 x.2))]) (fun k x h'=>iter Ay k (x.1,x.2)=some Ag/\Kst h h' (Ae.L)) (by kernel_rfl) fuel ((1,0):(Int) × (Int)) ?_ ⟨rfl,rfl,trivial⟩ ?_
  ·exact ⟨A3,Ae⟩
  rintro Bb ⟨A4,A5⟩ Bc Be ⟨A6,Ah⟩;obtain ⟨A7,Bf,rfl,Aa,Ab⟩:=AB3 A6;rw [Az] at Aa;dsimp only at Aa;unfold AOj at Aa;refine ABi (ACx rfl rfl (ABo (ABm (⟨_,rfl,fun Ai=>?_,fun Ai=>?_⟩))))
  ·refine ABs (q_t (ABm (ABq (ABi (Wk (Wk (AL8 rfl rfl (ACq (Wk (AIm rfl rfl (ABo ?_)))))))))));have Ar:=AC1 Aa Ai;refine ⟨_,rfl,fun Aj=>?_,fun Aj=>?_⟩
   ·refine ABi (ABp ?_);obtain rfl:=ABk (AC1 Ar Aj);change _=Ag at Ab;subst Ab;refine ABr (ADn (AB0 (AB0 (ADn (AB0 ?_)))));obtain rfl:=ABk Aq;exact ⟨_,ABt,Ah.x,rfl⟩
   ·refine ABs (q_b (q_t (ABw (ACy rfl rfl (Wk (ABo ?_))))));obtain rfl:=ABk (AC2 Ar Aj);exact ⟨A7,(((w64 (A4 * a5)),(w64 (A5 + 1))):(Int) × (Int)),Nat.lt_succ_self _,⟨Ab,Ah⟩,rfl,rfl,trivial⟩
  ·obtain rfl:=ABk (AC2 Aa Ai);change _=Ag at Ab;subst Ab;refine ACb (AB9 (AB9 (ADj (q_t (ABi (ABp (ABr ?_)))))));obtain rfl:=ABk Aq;exact ⟨_,ABt,Ah.x,rfl⟩
def AQz (fuel:Nat) (a5:Int) (a8:LiA) (Ab Aa:Int):Option ((Int × Int) ⊕ ((Bool) ⊕ (Int))):=
  (if Aa < (a8.length:Int) then ((gI a8 Aa).bind fun Ac=>(((if Ac < 0 then (some (Sum.inl <| false)) else (if a5<=Ac then (some (Sum.inl <| false)) else (some (Sum.inr <| ())))):Option ((Bool) ⊕ (Unit))).bind (fun ex=>match ex with | Sum.inl Af=>(some (Sum.inr<| Sum.inl <| Af)) | Sum.inr (_)=>(if Ab=0 then (some (Sum.inl (Ac,(w64 (Aa + 1))))) else (some (Sum.inl (Ab,(w64 (Aa + 1))))))))) else (some (Sum.inr<| Sum.inr <| Ab)))
def AJh (fuel:Nat) (a3:LiI) (a5:Int) (a8:LiA):Option Bool:=
  (if ¬ (a8.length:Int)=(a3.length:Int) then (some false) else ((iter (fun s=>AQz fuel a5 a8 s.1 s.2) fuel (0,0)).bind (fun ex=>match ex with | Sum.inl Ad=>(some Ad) | Sum.inr (Ae)=>((AE9 fuel a3 a5).bind fun (Af,Ah)=>(if Ae=1 then ((AJy fuel Af a8 a5).bind fun Ag=>(some (decide (Ag=0)))) else (some false))))))
theorem AQ0 {fuel:Nat} {h:ABh} {Au:Value} {a3:LiI} {a5:Int} {Ax:Value} {a8:LiA} {r:Bool} (H2:AFl (cI .i64) h Au a3) (H7:SlC (cI .i64) h Ax a8) (hp:AJh fuel a3 a5 a8=some r):AB7 Tryz.prog 35 #[Au,(.int .i64 a5),Ax] h (fun x h'=>Ext h h'/\x= .bool r):=by
 unfold AJh at hp;refine cwf (l:=[_,_,_]) Tryz.func35 rfl rfl (ABi (ABp (ABm (ABi (Wk (ADr ABv rfl H7 (Wk (ADg AB2 rfl H2 (AG8 rfl rfl (ABo ?_))))))))));have K0:=Kst.k0 h;refine ⟨_,rfl,fun Ak=>?_,fun Ak=>?_⟩
 ·refine ABi (ABp (ABr (AB0 ?_)));obtain rfl:=ABk (AC1 hp Ak);exact ⟨_,ABt,K0.x,rfl⟩
 ·refine ABs (q_t (ABi (ABp (ABm (ABi (Wk (ADr ABv rfl H7 (Wk (ABo (ABq ?_))))))))));obtain ⟨Ae,Ba,Am⟩:=ABl (AC2 hp Ak);obtain ⟨Bb,Bc,Be⟩:=ACg Ba;refine ACi 17179345600 (fun x:(Int) × (Int)=>[(7,(.int .i64 x.1)),(19,(.int .i64 x.2))]) (fun k x h'=>iter Bb k (x.1,x.2)=some Ae/\Kst h h' (K0.L)) (by kernel_rfl) fuel ((0,0):(Int) × (Int)) ?_ ⟨rfl,rfl,trivial⟩ ?_
  ·exact ⟨Be,K0⟩
  rintro Bx ⟨A3,A4⟩ By Bz ⟨Bf,Ab⟩;obtain ⟨A5,B1,rfl,Ac,Aa⟩:=AB3 Bf;rw [Bc] at Ac;dsimp only at Ac;unfold AQz at Ac;refine ABi (ACx rfl rfl (ABo (ABm (⟨_,rfl,fun Ao=>?_,fun Ao=>?_⟩))))
  ·refine ABs (q_t (ABm (ABq (ABi ?_))));obtain ⟨A6,Bg,Bh⟩:=ABl (AC1 Ac Ao);refine AIf (c:=(cI .i64)) ABv rfl H7 rfl Bg fun B2 B3 B4 Bi Bj=>?_;obtain rfl:=Bi;refine AB4 ACr rfl (ABx (Bj 0 _ rfl) Ab.x) (ABp ?_);obtain ⟨Bl,A7,Af⟩:=ABl Bh;refine AN1 1065353280 (fun x:Unit=>[]) (fun x h'=>(Sum.inr <| ())=Bl/\Kst h h' (Ab.L)) ?_ ?_
   ·refine ABi (Wk (ACx rfl rfl (Wk ?_)));by_cases Ag:A6 < 0
    ·rw [decide_eq_true Ag];refine AJx 25 true (ABy rfl (ABo (AB8 rfl (ABi (ABp ?_)))));obtain rfl:=ABk (ifT A7 Ag);obtain rfl:=ABk Af;change _=Ae at Aa;subst Aa;refine ABr (AB0 (ADn (AB0 (AB0 (ADn (AB0 ?_))))));obtain rfl:=ABk Am;exact ⟨_,ABt,Ab.x,rfl⟩
    ·have A8:=ifF A7 Ag;rw [decide_eq_false Ag];refine ACk 25 false (Wk (ACk 25 false (Wk (ACk 25 false (AMo rfl rfl (ABu rfl (ABo (⟨_,rfl,fun Ap=>?_,fun Ap=>?_⟩))))))))
     ·refine ABi (ABp ?_);obtain rfl:=ABk (AC1 A8 Ap);obtain rfl:=ABk Af;change _=Ae at Aa;subst Aa;refine ABr (AB0 (ADn (AB0 (AB0 (ADn (AB0 ?_))))));obtain rfl:=ABk Am;exact ⟨_,ABt,Ab.x,rfl⟩
     ·refine ABs (q_t ?_);exact ⟨(():Unit),⟨ABk (AC2 A8 Ap),Ab⟩,trivial⟩
   rintro ⟨⟩ B5 B6 ⟨Bm,A9⟩;subst Bm;refine ABi (Wk (ADo rfl rfl (ABo (⟨_,rfl,fun Aq=>?_,fun Aq=>?_⟩))))
   ·refine ABw (Wk (ACd (ACl (q_b (q_t (ABw (ACy rfl rfl (Wk (ABo ?_)))))))));obtain rfl:=ABk (AC1 Af Aq);exact ⟨A5,((A6,(w64 (A4 + 1))):(Int) × (Int)),Nat.lt_succ_self _,⟨Aa,A9⟩,rfl,rfl,trivial⟩
   ·refine ABs (q_b (q_t (ABw (ACy rfl rfl (Wk (ABo ?_))))));obtain rfl:=ABk (AC2 Af Aq);exact ⟨A5,((A3,(w64 (A4 + 1))):(Int) × (Int)),Nat.lt_succ_self _,⟨Aa,A9⟩,rfl,rfl,trivial⟩
  ·obtain rfl:=ABk (AC2 Ac Ao);change _=Ae at Aa;subst Aa;refine ACb (AB9 (AB9 (ADj (q_t (ABi (Wk (Wk ?_)))))));obtain ⟨⟨B7,B8⟩,Bn,Ar⟩:=ABl Am;dsimp only at Ar;refine ACu rfl (AKt (H2.ext Ab.x) Bn) fun B9 Ca Bo Bp=>?_;obtain ⟨Cb,Cd,Ce,Cf,rfl,Bq,Br⟩:=Bp;refine Wk (ACz rfl rfl (ACz rfl rfl (ACd (ACq (Wk (ADo rfl rfl (Wk ?_)))))));have Ah:=Ab.no2 Bo Br Bq;by_cases Ai:A3=1
   ·rw [decide_eq_true Ai];refine ACk 42 true (Wk (ACk 42 true (Wk (ACk 42 true (Wk (ACk 42 true ?_))))));obtain ⟨Cg,Bt,Bu⟩:=ABl (ifT Ar Ai);refine ACu rfl (APe (Ah.o2 p0).rd (H7.ext Ah.x) Bt) fun Ch Ci Bv Bw=>?_;subst Bw;refine ACk 42 true (ADo rfl rfl (ABy rfl (ABp (ABr ?_))));obtain rfl:=ABk Bu;exact ⟨_,ABt,(Ah.e Bv).x,rfl⟩
   ·rw [decide_eq_false Ai];refine ALh 42 false (ABu rfl (ABp (ABr ?_)));obtain rfl:=ABk (ifF Ar Ai);exact ⟨_,ABt,Ah.x,rfl⟩
noncomputable def ALf (fuel:Nat) (a3:LiI) (a5:Int) (a8:LiA):Option (Bool × Int):=
  ((AKb fuel a3 a5).bind fun Ac=>(if ¬ Ac=0 then (some (false,Ac)) else ((AJh fuel a3 a5 a8).bind fun Ae=>(some (Ae,0)))))
theorem AOp {fuel:Nat} {h:ABh} {Ad:Value} {a3:LiI} {a5:Int} {Ag:Value} {a8:LiA} {r:(Bool × Int)} (H2:AFl (cI .i64) h Ad a3) (H7:SlC (cI .i64) h Ag a8) (HO:AT1 h) (hp:ALf fuel a3 a5 a8=some r):AB7 Tryz.prog 25 #[Ad,(.int .i64 a5),Ag] h (fun x h'=>Ext h h'/\x= .tuple #[.bool r.1,.int .i64 r.2]):=by
 unfold ALf at hp;refine cwf (l:=[_,_,_]) Tryz.func25 rfl rfl (ABi (ACd (ABp (ABm (ABi (Wk (Wk ?_)))))));have K0:=Kst.k0 h;obtain ⟨Aw,Am,Aj⟩:=ABl hp;refine ACu rfl (AOd (H2.ext K0.x) (HO.ext K0.x) Am) fun Ax Ay Ao Ap=>?_;subst Ap;refine ACq (Wk (AG8 rfl rfl (ABo ?_)));have Aa:=K0.e Ao;refine ⟨_,rfl,fun Ac=>?_,fun Ac=>?_⟩
 ·refine ABi (Wk (ACd (ABp (ABr (AB0 ?_)))));obtain rfl:=ABk (AC1 Aj Ac);exact ⟨_,AC8,Aa.x,rfl⟩
 ·refine ABs (q_t (ABi (Wk (Wk (Wk ?_)))));obtain ⟨Az,Aq,Ar⟩:=ABl (AC2 Aj Ac);refine ACu rfl (AQ0 (H2.ext Aa.x) (H7.ext Aa.x) Aq) fun A3 A4 Au Av=>?_;subst Av;refine ACd (ABp (ABr ?_));obtain rfl:=ABk Ar;exact ⟨_,AC8,(Aa.e Au).x,rfl⟩
noncomputable def AK8 (fuel:Nat) (a3:LiI) (a5:Int):Option (Int × Int):=
  ((AIi fuel a3 a5).bind fun x6=>(if ¬ x6=0 then (some (0,x6)) else (if (Int.tmod (a3.length:Int) 2)=1 then ((AMv fuel a5 (w64 (2 * (w64 (Int.tdiv (a3.length:Int) 2))))).bind fun Af=>(if (w64 (a5 - 1))≠0 then (some ((w64 (Int.tdiv (w64 (Af - 1)) (w64 (a5 - 1)))),0)) else none)) else ((AJg fuel a3 a5).bind fun (Ad,Aj)=>(((if (Int.tmod (w64 (Int.tdiv (a3.length:Int) 2)) 2)=1 then (some ( (w64 (0 - Ad)))) else (some ( Ad))):Option ((Int))).bind (fun (Ag:Int)=>((AMu fuel Ag a5).bind fun (Ae,Ak)=>((AMv fuel a5 (w64 (Int.tdiv (a3.length:Int) 2))).bind fun Ah=>((AMv fuel a5 (w64 ((w64 (Int.tdiv (a3.length:Int) 2)) - 1))).bind fun Ai=>(if (w64 (a5 - 1))≠0 then (some ((w64 (Int.tdiv (w64 ((w64 (Ah - Ae)) * (w64 (Ai + Ae)))) (w64 (a5 - 1)))),0)) else none))))))))))
theorem AU7 {fuel:Nat} {h:ABh} {Ah:Value} {a3:LiI} {a5:Int} {r:(Int × Int)} (H2:AFl (cI .i64) h Ah a3) (HO:AT1 h) (hp:AK8 fuel a3 a5=some r):AB7 Tryz.prog 23 #[Ah,(.int .i64 a5)] h (fun x h'=>Ext h h'/\x= .tuple #[.int .i64 r.1,.int .i64 r.2]):=by
 unfold AK8 at hp;refine cwf (l:=[_,_]) Tryz.func23 rfl rfl (ABi (ACd (ABp (ABm (ABi (Wk (Wk ?_)))))));have K0:=Kst.k0 h;obtain ⟨x6,Au,Ak⟩:=ABl hp;refine ACu rfl (AOk (H2.ext K0.x) (HO.ext K0.x) Au) fun Bu Bv E9 Aw=>?_;subst Aw;refine ACq (Wk (AG8 rfl rfl (ABo ?_)));have Aa:=K0.e E9;refine ⟨_,rfl,fun Ad=>?_,fun Ad=>?_⟩
 ·refine ABi (Wk (ACd (ABp (ABr (AB0 ?_)))));obtain rfl:=ABk (AC1 Ak Ad);exact ⟨_,AC8,Aa.x,rfl⟩
 ·refine ABs (q_t (ABi (Wk (ADg AB2 rfl H2 (ACq (Wk (ATm rfl rfl (by decide) (ABp (ABm (ABi (Wk (AF7 rfl rfl (by decide) (ADo rfl rfl (ABo ?_))))))))))))));have Am:=AC2 Ak Ad;refine ⟨_,rfl,fun Ae=>?_,fun Ae=>?_⟩
  ·refine ABi (Wk (Wk (AL8 rfl rfl ?_)));obtain ⟨Bw,Ax,Ay⟩:=ABl (AC1 Am Ae);refine ACu rfl (AOb Ax) fun Bx By Az A3=>?_;subst A3;refine AHd rfl rfl (Wk (AHd rfl rfl ?_));obtain ⟨A4,A5⟩:=ifN Ay;refine ATm rfl rfl A4 (ACd (ABp (ABr (AB0 ?_))));obtain rfl:=ABk A5;exact ⟨_,AC8,(Aa.e Az).x,rfl⟩
  ·refine ABs (q_t (ABi (Wk (Wk ?_))));obtain ⟨⟨Ao,Bz⟩,A6,Ap⟩:=ABl (AC2 Am Ae);dsimp only at Ap;refine ACu rfl (AQy (H2.ext Aa.x) A6) fun B1 B2 A7 A8=>?_;subst A8;refine Wk (ACz rfl rfl (ACz rfl rfl (ACd (ABp ?_))));have Af:=Aa.e A7;obtain ⟨A9,Aq,Ba⟩:=ABl Ap;refine AN1 68169720922624 (fun x:(Int)=>[(9,(.int .i64 x))]) (fun x h'=>( x)=A9/\Kst h h' (Af.L)) ?_ ?_
   ·refine ABi (Wk (AF7 rfl rfl (by decide) (ADo rfl rfl (ABo (⟨_,rfl,fun Ag=>?_,fun Ag=>?_⟩)))))
    ·refine ABw (Wk (ASe rfl (ABp ?_)));exact ⟨((w64 (0 - Ao)):(Int)),⟨ABk (AC1 Aq Ag),Af⟩,rfl,trivial⟩
    ·refine ABs (q_t ?_);exact ⟨(Ao:(Int)),⟨ABk (AC2 Aq Ag),Af⟩,rfl,trivial⟩
   rintro B3 B4 B5 ⟨Bb,Bc⟩;subst Bb;refine ABi (Wk (Wk ?_));obtain ⟨⟨B6,B7⟩,Be,Ar⟩:=ABl Ba;dsimp only at Ar;refine ACu rfl (ASu Be) fun B8 B9 Bf Bg=>?_;subst Bg;refine Wk (ACz rfl rfl (ACz rfl rfl (ACd (ACq (Wk (ACq (Wk (Wk ?_))))))));obtain ⟨Ca,Bh,Bi⟩:=ABl Ar;refine ACu rfl (AOb Bh) fun Cb Cd Bj Bl=>?_;subst Bl;refine Wk (AHd rfl rfl (Wk (Wk (AHd rfl rfl ?_))));obtain ⟨Ce,Bm,Bn⟩:=ABl Bi;refine ACu rfl (AOb Bm) fun Cf Cg Bo Bp=>?_;subst Bp;refine Wk (ACy rfl rfl (AL8 rfl rfl (Wk (AHd rfl rfl ?_))));obtain ⟨Bq,Br⟩:=ifN Bn;refine ATm rfl rfl Bq (ACd (ABp (ABr ?_)));obtain rfl:=ABk Br;exact ⟨_,AC8,(((Bc.e Bf).e Bj).e Bo).x,rfl⟩
noncomputable def AMw (fuel:Nat) (a5:Int) (a8:LiA) (Ad:LiI) (Ab:Int) (Ac:LiA):Option ((Int × LiA) ⊕ ((LiA))):=
  (if Ab < (Ad.length:Int) then ((gI Ad Ab).bind fun Ag=>((AJc fuel Ag a8 a5).bind fun Af=>(if Af=0 then (some (Sum.inl ((w64 (Ab + 1)),Ac))) else ((AU6 fuel ([([(w64 (2 * Af))]:List Int)]:List LiA) a5).bind fun (Ah,Ao)=>((AJy fuel Ad a8 (w64 (a5 * a5))).bind fun Ai=>(if a5≠0 then ((gI Ah 0).bind fun Aj=>((gI Aj 0).bind fun Ak=>(if a5≠0 then ((gI Ac Ab).bind fun Am=>(some (Sum.inr<| (sI Ac Ab (w64 (Am + (w64 (a5 * (Int.tmod (w64 ((w64 (a5 - (w64 (Int.tdiv Ai a5)))) * Ak)) a5))))))))) else none))) else none)))))) else (some (Sum.inr<| Ac)))
noncomputable def ANv (fuel:Nat) (a3:LiI) (a5:Int) (a8:LiA):Option (LiA × Int):=
  ((AKb fuel a3 a5).bind fun Ad=>(if ¬ Ad=0 then (some ([],Ad)) else ((AJh fuel a3 a5 a8).bind fun Ae=>(if (!Ae)=true then (some ([],26)) else ((AE9 fuel a3 (w64 (a5 * a5))).bind fun (Af,Ai)=>((AK7 fuel a8).bind fun Ag=>((iter (fun s=>AMw fuel a5 a8 Af s.1 s.2) fuel (0,Ag)).bind (fun (Ah:LiA)=>(some (Ah,0))))))))))
theorem AYw {fuel:Nat} {h:ABh} {A5:Value} {a3:LiI} {a5:Int} {A7:Value} {a8:LiA} {r:(LiA × Int)} (H2:AFl (cI .i64) h A5 a3) (H7:SlC (cI .i64) h A7 a8) (HO:AT1 h) (hp:ANv fuel a3 a5 a8=some r):AB7 Tryz.prog 15 #[A5,(.int .i64 a5),A7] h (fun x h'=>Ext h h'/\ ∃ (x0:Value) (F0:List Nat),x= .tuple #[x0,.int .i64 r.2]/\OwC (cI .i64) 2 h' F0 x0 r.1/\Sp h' h.size [F0]):=by
 unfold ANv at hp;refine cwf (l:=[_,_,_]) Tryz.func15 rfl rfl (ABi (ACd (ABp (ABm (ABi (Wk (Wk ?_)))))));have K0:=Kst.k0 h;obtain ⟨Dx,Bq,Bb⟩:=ABl hp;refine ACu rfl (AOd (H2.ext K0.x) (HO.ext K0.x) Bq) fun Dy Dz Br Bt=>?_;subst Bt;refine ACq (Wk (AG8 rfl rfl (ABo ?_)));have Ag:=K0.e Br;refine ⟨_,rfl,fun Ak=>?_,fun Ak=>?_⟩
 ·refine ABi (Wk (ACd (ABp (ABr (AB0 ?_)))));have Am:=Kst.anil (cI .i64) 2 Ag;obtain rfl:=ABk (AC1 Bb Ak);exact ⟨_,AC8,Am.x,_,_,rfl,(Am.o p0),Am.s.sel [0] (by decide)⟩
 ·refine ABs (q_t (ABm (ABi (Wk (Wk (Wk ?_))))));obtain ⟨D0,Bu,Bc⟩:=ABl (AC2 Bb Ak);refine ACu rfl (AQ0 (H2.ext Ag.x) (H7.ext Ag.x) Bu) fun D1 D2 Bv Bw=>?_;subst Bw;refine AF8 rfl (ABo ?_);have Ao:=Ag.e Bv;refine ⟨_,rfl,fun Ap=>?_,fun Ap=>?_⟩
  ·refine ABi (ACd (ABp (ABr (AB0 ?_))));have Aq:=Kst.anil (cI .i64) 2 Ao;obtain rfl:=ABk (ifT Bc Ap);exact ⟨_,AC8,Aq.x,_,_,rfl,(Aq.o p0),Aq.s.sel [0] (by decide)⟩
  ·refine ABs (q_t (ABi (Wk (Wk (Wk (AL8 rfl rfl ?_))))));obtain ⟨⟨D3,D4⟩,Bx,Be⟩:=ABl (AIz Bc Ap);dsimp only at Be;refine ACu rfl (AKt (H2.ext Ao.x) Bx) fun D5 D6 By Bz=>?_;obtain ⟨D7,D8,D9,Ea,rfl,B1,B2⟩:=Bz;refine Wk (ACz rfl rfl (ACz rfl rfl (ACd (ACq (Wk ?_)))));have Bf:=Ao.no2 By B2 B1;obtain ⟨B3,B4,B5⟩:=ABl Be;refine ACu rfl (APw (H7.ext Bf.x) B4) fun B6 Eb B7 B8=>?_;obtain ⟨Ec,B9,rfl,Ca,Cb⟩:=B8;refine ABp (ABm (ABi (Wk ?_)));have Ar:=Bf.no B7 Cb Ca;refine ADg AB2 rfl (Ar.o2 p1).rd (Wk (ABo (ABq ?_)));obtain ⟨Au,Cd,Bg⟩:=ABl B5;obtain ⟨Ce,Cf,Cg⟩:=ACg Cd;refine ACi 618970019642687938426564608 (fun x:(Int) × (LiA) × LnA=>[(41,(.int .i64 x.1))]) (fun k x h'=>iter Ce k (x.1,x.2.1)=some Au/\Kst h h' (Ar.L.set 0 (aO (cI .i64) 2 x.2.2 B6 x.2.1))) (by kernel_rfl) fuel ((0,B3,B9):(Int) × (LiA) × LnA) ?_ ⟨rfl,trivial⟩ ?_
   ·exact ⟨Cg,Ar⟩
   rintro Ed ⟨Ch,Ci,Cj⟩ Ee Ef ⟨Ck,Aa⟩;obtain ⟨Cm,Eg,rfl,Ac,Ad⟩:=AB3 Ck;rw [Cf] at Ac;dsimp only at Ac;unfold AMw at Ac;refine ABi (ACx rfl rfl (ABo (ABm (⟨_,rfl,fun Av=>?_,fun Av=>?_⟩))))
   ·refine ABs (q_t (ABm (ABq (ABi (Wk ?_)))));obtain ⟨Eh,Bh,Cn⟩:=ABl (AC1 Ac Av);refine ADu AB2 rfl (Aa.o2 p1) rfl Bh fun Ei Ej Ek Co Cp=>AB4 ACn rfl Cp (ACd (ACq (Wk (Wk (Wk ?_)))));obtain ⟨Bi,Cq,Bj⟩:=ABl Cn;refine ACu rfl (AR3 ((Aa.o2 p1).rowI Co Bh) (H7.ext Aa.x) Cq) fun El Em Cr Ct=>?_;subst Ct;refine ABp (ABm (ABi (Wk (ADo rfl rfl (ABo ?_)))));have Bl:=Aa.e Cr;refine ⟨_,rfl,fun Aw=>?_,fun Aw=>?_⟩
    ·refine ACb (AB9 (ADj (q_t (ABw (ACy rfl rfl (Wk (ABo ?_)))))));obtain rfl:=ABk (AC1 Bj Aw);exact ⟨Cm,(((w64 (Ch + 1)),Ci,Cj):(Int) × (LiA) × LnA),Nat.lt_succ_self _,⟨Ad,Bl⟩,rfl,trivial⟩
    ·refine ABs (q_t (ABi (Wk (AL8 rfl rfl (AP9 (κ:= .i64) [(w64 (2 * Bi))] ABv AHg rfl rfl trivial tt2 rfl rfl rfl rfl fun Cu Cv En Cw Cx Cy Cz=>?_)))));have Ax:=Bl.no Cx (AGu Cy Cz) Cw;refine ATg (c:=(cI .i64)) (el:=2) [[Cu]] [Cv] [([(w64 (2 * Bi))]:List Int)] AB2 AMl rfl rfl trivial tt2 rfl rfl rfl rfl (ANt (Ax.o p0).isOne AW8) ⟨(Ax.o p0),trivial⟩ (by simp) fun Eo Ep Er C0 C1 C2=>Wk ?_;have Bm:=(((Ax.a0).grab p0)).lit C1 C0 (by simpa using C2);obtain ⟨⟨Es,Et⟩,C3,Bn⟩:=ABl (AC2 Bj Aw);dsimp only at Bn;refine ACu rfl (Am9 (Bm.o2 p0).rd C3) fun Eu Ay C4 C5=>?_;obtain ⟨Ev,rfl,C6⟩:=C5;refine Wk (ACz rfl rfl (ACz rfl rfl (ACd (ABp (ABm (AEl (fun h'=>UpT [] Ay h') (by kernel_rfl) ?_))))));have Az:=Bm.e C4;have A3:UpT [] Ay Ay:=UpT.start all_nil;refine Wk (Wk (Wk (Wk (Wk (AL8 rfl rfl ?_)))));obtain ⟨C7,C8,C9⟩:=ABl Bn;refine AC9 A3 (fun _ E=>A3.thenE E) rfl (APe (Az.o2 p3).rd (H7.ext Az.x) C8) fun Ew Ey Bo Da=>?_;subst Da;refine Wk ?_;have Bp:=A3.thenE Bo;have Ae:=Az.e Bo;obtain ⟨Db,Dc⟩:=ifN C9;refine ATm rfl rfl Db (AHd rfl rfl (Wk ?_));obtain ⟨Ez,Dd,De⟩:=ABl Dc;refine AIj AB2 rfl C6 rfl Dd fun Fa Fb Fc Df Dg=>AGj ACn rfl Bp (fun h' hb=>ABx Df hb.ext) ?_;obtain ⟨Dh,Di,Dj⟩:=ABl De;refine AIf (c:=(cI .i64)) ABv rfl Dg rfl Di fun Fd Fe Ff Dk Dl=>?_;obtain rfl:=Dk;refine AGj ACr rfl Bp (fun h' hb=>ABx (Dl 0 _ rfl) hb.ext) (AL8 rfl rfl (Wk ?_));obtain ⟨Dn,Do⟩:=ifN Dj;refine AF7 rfl rfl Dn (ACq (Wk (Wk ?_)));obtain ⟨Dp,Ah,Dq⟩:=ABl Do;refine AOg ABv rfl (Ae.o p2) rfl Ah fun Fg Dr=>?_;obtain ⟨Fh,Ds,Dt⟩:=(Ae.o p2).cells Dr Ah;obtain rfl:=Ds;refine AB4 ACr rfl (Dt 0 _ rfl) (Wk (Wk (AL8 rfl rfl (ACy rfl rfl (AOg ABv rfl (Ae.o p2) rfl Ah fun Fi Du=>AZl (AF6 ACr rfl rfl rfl) (Ae.o p2) Du Ah (show ((cI .i64)).rep _ (w64 (Dp + (w64 (a5 * (Int.tmod (w64 ((w64 (a5 - (w64 (Int.tdiv C7 a5)))) * Dh)) a5))))) _ from rfl) fun Fj Dv Dw=>ABo ?_)))));have A4:=Ae.uO p2 Dw Dv;obtain rfl:=ABk Dq;change _=Au at Ad;subst Ad;refine ACb (Abx (by decide) (AB9 (AB9 (ADj (q_t (ABi (Wk (ACd (ABp (ABr ?_))))))))));obtain rfl:=ABk Bg;exact ⟨_,AC8,A4.x,_,_,rfl,(A4.o p2),A4.s.sel [2] (by decide)⟩
   ·obtain rfl:=ABk (AC2 Ac Av);change _=Au at Ad;subst Ad;refine ACb (AB9 (AB9 (ADj (q_t (ABi (Wk (ACd (ABp (ABr ?_)))))))));obtain rfl:=ABk Bg;exact ⟨_,AC8,Aa.x,_,_,rfl,(Aa.o p0),Aa.s.sel [0] (by decide)⟩
noncomputable def AR4 (fuel:Nat) (Ac Ad Aa:Int) (Ab:LiA):Option ((Int × LiA) ⊕ ((Int × LiA))):=
  (((if Ad < Aa then ((gI Ab Aa).bind fun Ae=>(if Ae=(w64 (Ac - 1)) then (some (Sum.inl <| ())) else (some (Sum.inr <| ())))) else (some (Sum.inr <| ()))):Option ((Unit) ⊕ (Unit))).bind (fun ex=>match ex with | Sum.inl _=>((gI Ab Aa).bind fun Af=>(some (Sum.inl ((w64 (Aa - 1)),(sI Ab Aa 0))))) | Sum.inr (_)=>(some (Sum.inr<| (Aa,Ab)))))
noncomputable def AR5 (fuel:Nat) (a5:Int) (Ah:LiI) (Ai Aj Ad:Int) (Aa:LiI) (Ab:LiA):Option ((LiI × LiA) ⊕ ((LiI))):=
  ((((AJy fuel Ah Ab a5).bind fun Ak=>(if Ak=0 then ((AK7 fuel Ab).bind fun Am=>(if Aa.length<=100000000 then (some ( (Aa ++ [Am]))) else none)) else (some ( Aa)))):Option (LiI)).bind fun Ae=>((((iter (fun s=>AR4 fuel Aj Ad s.1 s.2) fuel ((w64 (Ai - 1)),Ab)).bind (fun ((Ao,Ap):Int × LiA)=>(some ( (Ao,Ap))))):Option ((Int × LiA))).bind (fun ((Ac,Af):Int × LiA)=>(if Ac=Ad then (some (Sum.inr<| Ae)) else ((gI Af Ac).bind fun Aq=>(some (Sum.inl (Ae,(sI Af Ac (w64 (Aq + 1)))))))))))
noncomputable def AR6 (fuel:Nat) (a5:Int) (Ae:LiI) (Aa Af Ab:Int) (Ac:LiI):Option ((Int × LiI) ⊕ ((LiI))):=
  (if 0<=Ab then (if 0<=Aa/\Aa<=100000000 then ((gI (List.replicate (Int.toNat Aa) (0:Int)) Ab).bind fun Ah=>((iter (fun s=>AR5 fuel a5 Ae Aa Af Ab s.1 s.2) fuel (Ac,(sI (List.replicate (Int.toNat Aa) (0:Int)) Ab 1))).bind (fun (Ag:LiI)=>(some (Sum.inl ((w64 (Ab - 1)),Ag)))))) else none) else (some (Sum.inr<| Ac)))
noncomputable def AMx (fuel:Nat) (a3:LiI) (a5:Int):Option (LiI × Int):=
  ((AIi fuel a3 a5).bind fun Ac=>(if ¬ Ac=0 then (some ([],Ac)) else ((AE9 fuel a3 a5).bind fun (Ae,Ai)=>(((some ( ((a3.length:Int),a5))):Option (Int × Int)).bind fun (Ad,Af)=>((((iter (fun s=>AR6 fuel a5 Ae Ad Af s.1 s.2) fuel ((w64 (Ad - 1)),[])).bind (fun (Ag:LiI)=>(some ( Ag)))):Option (LiI)).bind fun Ah=>(some (Ah,0)))))))
theorem AWp {fuel:Nat} {h:ABh} {Bx:Value} {a3:LiI} {a5:Int} {r:(LiI × Int)} (H2:AFl (cI .i64) h Bx a3) (HO:AT1 h) (hp:AMx fuel a3 a5=some r):AB7 Tryz.prog 20 #[Bx,(.int .i64 a5)] h (fun x h'=>Ext h h'/\ ∃ (x0:Value) (F0:List Nat) (C1:List LnA) (C2:List Value),x= .tuple #[x0,.int .i64 r.2]/\AFg (cI .i64) 23 2 h' F0 C1 C2 x0 r.1/\Sp h' h.size [F0]):=by
 unfold AMx at hp;refine Ad8 (l:=[_,_]) mx Tryz.func20 rfl rfl rfl rfl rfl (by kernel_rfl) (AYs (by kernel_rfl) (ABw (AHi [(.int .i64 a5)] trivial tt2 rfl rfl fun b6 h7 V8 E9 C5=>ACd (ABp (AYs (by kernel_rfl) (ABi (Wk ?_)))))));have Aj:=(Kst.k0 h).nb E9 C5 V8;refine AB4 ACr rfl ((Aj.b p0).cell (i:=0) rfl) ?_;obtain ⟨Hc,C6,B1⟩:=ABl hp;refine ACu rfl (AOk (H2.ext Aj.x) (HO.ext Aj.x) C6) fun Hd He C7 C8=>?_;subst C8;refine ACq (Wk (AG8 rfl rfl (ABo ?_)));have Ak:=Aj.e C7;refine ⟨_,rfl,fun A3=>?_,fun A3=>?_⟩
 ·refine ABi (Wk (ACd (ABp (ABr (AB0 ?_)))));have A4:=Kst.anil2 (cI .i64) 23 2 Ak;obtain rfl:=ABk (AC1 B1 A3);exact ⟨_,AC8,A4.x,_,_,_,_,rfl,(A4.o2 p0),A4.s.sel [0] (by decide)⟩
 ·refine ABs (q_t (AYs (by kernel_rfl) (ABw (Wk (AB4 ACr rfl ((Ak.b p0).cell (i:=0) rfl) ?_)))));obtain ⟨⟨Hf,Hg⟩,C9,B2⟩:=ABl (AC2 B1 A3);dsimp only at B2;refine ACu rfl (AKt (H2.ext Ak.x) C9) fun Hh Hj Da Db=>?_;obtain ⟨Dc,Hk,Hl,Hm,rfl,Dd,De⟩:=Db;refine Wk (ACz rfl rfl (ACz rfl rfl (ADx [(.slice none 0 0)] Aqp rfl trivial tt2 fun Hn Ho Df Dg Dh=>?_)));have A5:=(Ak.no2 Da De Dd).nb Dg Dh Df;refine ATs [Dc] Acn rfl rfl (A5.o2 p1).isOne (A5.b p0) (Nat.le_of_ble_eq_true rfl) rfl fun Hq Di Dj=>ABp (AYs (by kernel_rfl) (ABw (ADx [(.slice none 0 0)] Aqp rfl trivial tt2 fun Am Hr Dk Dl Dn=>ABo (Ar7 (by kernel_rfl) (AYs (by kernel_rfl) (ABw (Wk (ADg AB2 rfl H2 ?_))))))));have A6:=(A5.sb p0 Dj Di rfl).nb Dl Dn Dk;refine AB4 ACr rfl ((A6.b p3).cell (i:=0) rfl) ?_;obtain ⟨Do,Dp,Dq⟩:=ABl B2;refine ACm (K':=(fun xr h'=> ∃ x:(Nat) × (Int) × (Nat) × (Int),(x.2.1,x.2.2.2)=Do/\xr=(.func (.func 78) #[] #[(.pointer (some ⟨x.1,0,none⟩)),(.pointer (some ⟨x.2.2.1,0,none⟩))])/\Kst h h' (aB 3 x.1 [(.int .i64 x.2.1)] :: aB 2 x.2.2.1 [(.int .i64 x.2.2.2)] :: A6.L))) trivial rfl ?_ fun Hs Ht Dr=>?_
  ·refine cwf (l:=[_,_]) Tryz.func46 rfl rfl (ABi (AHi [(.int .i64 (a3.length:Int))] trivial tt2 rfl rfl fun Ds Hu Dt Du Dv=>AHi [(.int .i64 a5)] trivial tt2 rfl rfl fun Dw Hv Dx Dy Dz=>ACq (Aqu rfl (ABp (ABr (⟨_,ABt,((Ds,(a3.length:Int),Dw,a5):(Nat) × (Int) × (Nat) × (Int)),?_,rfl,?_⟩))))))
   ·exact ABk Dp
   ·exact ((A6.nb Du Dv Dt).nb Dy Dz Dx).sel [1,0,2,3,4,5] (by decide)
  obtain ⟨⟨D0,A7,D1,Hw⟩,D2,rfl,D3⟩:=Dr;refine ⟨trivial,?_⟩;subst D2;refine ABo (Apl mx (by kernel_rfl) ⟨_,[(.pointer (some ⟨D0,0,none⟩)),(.pointer (some ⟨D1,0,none⟩))],rfl,fun h_rf rf_r rf_b rf_ol rf_ob rf_oe hE_rf l1_rf l2_rf l3_rf l4_rf hne_rf hd_rf hl_rf Ao A8 D4 hY_rf=>?_⟩);have A9:=D3.rg hE_rf l1_rf l2_rf l3_rf l4_rf hne_rf hd_rf hl_rf;obtain ⟨D5,D6,D7⟩:=ABl Dq;refine AB7.mono (K:=(fun xr h'=> ∃ x:(LiI) × (Value) × LnA × LnN × LvA,x.1=D5/\xr= .tuple #[]/\Kst h h' (aO2 (cI .i64) 23 2 x.2.2.1 x.2.2.2.1 x.2.2.2.2 x.2.1 x.1 :: (A9.L.set 4 (aB 22 Am [x.2.1]))))) ?_ fun Hx Hy D8=>?_
  ·refine cwf (l:=[_,_,_]) Tryz.func78 rfl rfl (ABi (AB4 AEz rfl ((A9.b p2).cell (i:=0) rfl) (AHd rfl rfl (ABp (ABq ?_)))));obtain ⟨B3,D9,Ea⟩:=ABl D6;obtain ⟨Eb,Ec,Ed⟩:=ACg D9;have B4:=Kst.anil2 (cI .i64) 23 2 A9;refine ACi 1125899906842224 (fun x:(Int) × (LiI) × (Value) × LnA × LnN × LvA=>[(4,(.int .i64 x.1))]) (fun k x h'=>iter Eb k (x.1,x.2.1)=some B3/\Kst h h' ((B4.L.set 0 (aO2 (cI .i64) 23 2 x.2.2.2.1 x.2.2.2.2.1 x.2.2.2.2.2 x.2.2.1 x.2.1)).set 5 (aB 22 Am [x.2.2.1]))) (by kernel_rfl) fuel (((w64 (A7 - 1)),[],(.slice none 0 0),[],[],[]):(Int) × (LiI) × (Value) × LnA × LnN × LvA) ?_ ⟨rfl,trivial⟩ ?_
   ·exact ⟨Ed,B4⟩
   rintro Hz ⟨Ba,B5,B6,B7,B8,B9⟩ H5 H9 ⟨Ee,Bb⟩;obtain ⟨Ef,Ia,rfl,Ae,Bc⟩:=AB3 Ee;rw [Ec] at Ae;dsimp only at Ae;unfold AR6 at Ae;refine ABm (ABi (Wk (AMo rfl rfl (ABo (⟨_,rfl,fun Be=>?_,fun Be=>?_⟩)))))
   ·refine ABs (q_t (ABm (ABq (ABi (AB4 AEz rfl ((Bb.b p3).cell (i:=0) rfl) ?_)))));obtain ⟨Eg,Eh⟩:=ifN (AC1 Ae Be);refine ARf (c:=(cI .i64)) (a:=0) ABv AHg rfl rfl (fun _=>rfl) rfl trivial tt2 rfl rfl (by decide) Eg fun Bf Bg Ib Ei Ej Ek El=>ACq (Wk (Wk ?_));have Bh:=Bb.no Ej (AGu Ek El) Ei;obtain ⟨Ic,Ca,Em⟩:=ABl Eh;refine AOg ABv rfl (Bh.o p0) rfl Ca fun Id En=>AZl (AF6 ACr rfl rfl rfl) (Bh.o p0) En Ca (show ((cI .i64)).rep _ 1 _ from rfl) fun Ie Eo Ep=>ABo (ABq ?_);have Cb:=Bh.uO p0 Ep Eo;obtain ⟨Cd,Er,Es⟩:=ABl Em;obtain ⟨Et,Eu,Ev⟩:=ACg Er;refine ACi 1125899906580544 (fun x:(LiI) × (Value) × LnA × LnN × LvA × (LiA)=>[]) (fun k x h'=>iter Et k (x.1,x.2.2.2.2.2)=some Cd/\Kst h h' (((Cb.L.set 1 (aO2 (cI .i64) 23 2 x.2.2.1 x.2.2.2.1 x.2.2.2.2.1 x.2.1 x.1)).set 0 (aO (cI .i64) 2 [Bf] Bg x.2.2.2.2.2)).set 6 (aB 22 Am [x.2.1]))) (by kernel_rfl) fuel ((B5,B6,B7,B8,B9,(sI (List.replicate (Int.toNat A7) (0:Int)) Ba 1)):(LiI) × (Value) × LnA × LnN × LvA × (LiA)) ?_ trivial ?_
    ·exact ⟨Ev,Cb⟩
    rintro If ⟨Ce,Ew,Bi,Cf,Cg,Ey⟩ Ih Ii ⟨Ez,Ap⟩;obtain ⟨Fa,Ij,rfl,Aq,Bj⟩:=AB3 Ez;rw [Eu] at Aq;dsimp only at Aq;unfold AR5 at Aq;refine ABq (ABm (ABm (Amz (l:=rf_b) (by kernel_rfl) (Wk (Wk (ACl ⟨rfl,_,rfl,?_⟩))))));obtain ⟨Fb,Fc,Fd⟩:=ABl Aq;refine ARx.mono (K':=(fun xr h'=> ∃ x:(LiI) × (Value) × LnA × LnN × LvA,x.1=Fb/\xr= .bool true/\Kst h h' ((Ap.L.set 1 (aO2 (cI .i64) 23 2 x.2.2.1 x.2.2.2.1 x.2.2.2.2 x.2.1 x.1)).set 6 (aB 22 Am [x.2.1])))) ?_ fun Ik Il Fe=>?_
    ·refine hY_rf _ _ _ (Ap.ob p3) (Amv (ACd (ACl (⟨(Ap.ob p3),?_⟩))));obtain ⟨Im,Ff,Io,Af⟩:=Ap.uob (o':=rf_ob) p3 Ao A8;rw [Ff];refine Api (Aqo (Amv (AB4 Acn rfl ((Af.b p7).cell (i:=0) rfl) (Wk (AB4 ACr rfl ((Af.b p9).cell (i:=0) rfl) ?_)))));obtain ⟨Ip,Fg,Ch⟩:=ABl Fc;refine ACu rfl (APe (Af.o2 p8).rd (Af.o p0).rd Fg) fun Iq Bl Fh Fi=>?_;subst Fi;refine ADo rfl rfl (ABo ?_);have Aa:=Af.e Fh;refine ⟨_,rfl,fun Bm=>?_,fun Bm=>?_⟩
     ·refine Apj (fun h'=>UpT (Bi ++ []) Bl h') (by kernel_rfl) ?_;have Ar:UpT (Bi ++ []) Bl Bl:=UpT.start (AD5 (Aa.o2 p1).notD all_nil);refine AGj Acn rfl Ar (fun h' hb=>((Aa.b p6).upT hb (Akr (Aa.dj p6 p1 (by decide)) Aks)).cell (i:=0) rfl) (Wk ?_);obtain ⟨Fj,Fk,Fl⟩:=ABl (AC1 Ch Bm);refine AC9 Ar (fun _ E=>Ar.thenE E) rfl (APw (Aa.o p0).rd Fk) fun Fm Ir Ci Fo=>?_;obtain ⟨It,Fp,rfl,Fq,Fr⟩:=Fo;have Cj:=Ar.thenE Ci;have Au:=Aa.no Ci Fr Fq;obtain ⟨Ft,Fu⟩:=ifN Fl;refine Agu AB2 AMl rfl rfl Cj (fun _ U=>Cj.then U (ALi rfl)) (fun _=>rfl) rfl (Au.o p0) (Au.o2 p2) (Au.dj p0 p2 (by decide)) (by decide) Ft fun Iu Fv Ck Iv Fw Fx Fy=>?_;have Bn:=Au.m2 p0 p2 (by decide) Fx Fw Fy;refine ATs [Ck] Acn rfl rfl (Bn.o2 p2).isOne (Bn.b p7) (Nat.le_of_ble_eq_true rfl) rfl fun Iw Fz F4=>ACl (q_b ?_);have Cm:=Bn.sb p7 F4 Fz rfl;refine ⟨(Cm.ob p4),?_⟩;obtain ⟨Ix,F5,Iy,F6⟩:=Cm.uob (o':=rf_ol) p4 A8 Ao;rw [F5];refine ⟨(((Ce ++ [Fj]),Ck,Fv,(Cf ++ [Fp]),(Cg ++ [Fm])):(LiI) × (Value) × LnA × LnN × LvA),?_,rfl,?_⟩
      ·exact ABk Fu
      ·exact F6.sel [1,2,3,4,5,6,7,8,9,10] (by decide)
     ·refine Ar6 (q_b (⟨(Aa.ob p3),?_⟩));obtain ⟨Iz,F7,I0,F8⟩:=Aa.uob (o':=rf_ol) p3 A8 Ao;rw [F7];refine ⟨((Ce,Ew,Bi,Cf,Cg):(LiI) × (Value) × LnA × LnN × LvA),?_,rfl,?_⟩
      ·exact ABk (AC2 Ch Bm)
      ·exact F8
    obtain ⟨⟨Cn,Co,Cp,Cq,Cr⟩,F9,rfl,Av⟩:=Fe;subst F9;refine AF8 rfl (ABo (ACc rfl (ABs (q_t (ABi (AB4 AEz rfl ((Av.b p4).cell (i:=0) rfl) (AHd rfl rfl (ABp ?_))))))));obtain ⟨Ga,Gb,Ct⟩:=ABl Fd;refine AN1 2199006478400 (fun x:(Int) × (LiA)=>[(6,(.int .i64 x.1))]) (fun x h'=>( (x.1,x.2))=Ga/\Kst h h' (Av.L.set 0 (aO (cI .i64) 2 [Bf] Bg x.2))) ?_ ?_
    ·refine ABq ?_;obtain ⟨Bo,Gc,Cu⟩:=ABl Gb;obtain ⟨Gd,Ge,Gf⟩:=ACg Gc;refine ACi 2199006478400 (fun x:(Int) × (LiA)=>[(6,(.int .i64 x.1))]) (fun k x h'=>iter Gd k (x.1,x.2)=some Bo/\Kst h h' (Av.L.set 0 (aO (cI .i64) 2 [Bf] Bg x.2))) (by kernel_rfl) fuel (((w64 (A7 - 1)),Ey):(Int) × (LiA)) ?_ ⟨rfl,trivial⟩ ?_
     ·exact ⟨Gf,Av⟩
     rintro I1 ⟨Ag,Bp⟩ I2 I3 ⟨Gg,Ab⟩;obtain ⟨Gh,I6,rfl,Aw,Ah⟩:=AB3 Gg;rw [Ge] at Aw;dsimp only at Aw;unfold AR4 at Aw;obtain ⟨Gi,Cv,Bq⟩:=ABl Aw;refine AN1 68702699520 (fun x:Unit=>[]) (fun x h'=>(Sum.inl <| ())=Gi/\Kst h h' (Ab.L)) ?_ ?_
     ·refine ABm (AMh (Wk (Wk (AIm rfl rfl (Wk ?_)))));by_cases Ax:Ba < Ag
      ·rw [decide_eq_true Ax];refine ACk 27 true (Wk (ACk 27 true (Wk (ACk 27 true ?_))));obtain ⟨I7,Cw,Cx⟩:=ABl (ifT Cv Ax);refine AOg ABv rfl (Ab.o p0) rfl Cw fun I9 Gj=>ACk 27 true ?_;obtain ⟨Ja,Gk,Gl⟩:=(Ab.o p0).cells Gj Cw;obtain rfl:=Gk;refine AB4 ACr rfl (Gl 0 _ rfl) (ACk 27 true (AB4 ACr rfl ((Ab.b p5).cell (i:=0) rfl) (ACk 27 true (AHd rfl rfl (ACk 27 true (ADo rfl rfl (ABy rfl (ABo (⟨_,rfl,fun Br=>?_,fun Br=>?_⟩)))))))))
       ·refine ABs (q_t ?_);exact ⟨(():Unit),⟨ABk (AC1 Cx Br),Ab⟩,trivial⟩
       ·obtain rfl:=ABk (AC2 Cx Br);obtain rfl:=ABk Bq;change _=Bo at Ah;subst Ah;refine ACb (AB9 (AB9 (ADj (q_t ?_))));exact ⟨((Ag,Bp):(Int) × (LiA)),⟨ABk Cu,Ab⟩,rfl,trivial⟩
      ·rw [decide_eq_false Ax];refine ALh 27 false (AF9 27 false (ABu rfl (ABo (ACc rfl ?_))));obtain rfl:=ABk (ifF Cv Ax);obtain rfl:=ABk Bq;change _=Bo at Ah;subst Ah;refine ACb (AB9 (AB9 (ADj (q_t ?_))));exact ⟨((Ag,Bp):(Int) × (LiA)),⟨ABk Cu,Ab⟩,rfl,trivial⟩
     rintro ⟨⟩ Jc Je ⟨Gm,Bt⟩;subst Gm;refine ABq (ABi (Wk (Wk ?_)));obtain ⟨Jf,Cy,Gn⟩:=ABl Bq;refine AOg ABv rfl (Bt.o p0) rfl Cy fun Jg Gp=>AZl (AF6 ACr rfl rfl rfl) (Bt.o p0) Gp Cy (show ((cI .i64)).rep _ 0 _ from rfl) fun Jh Gq Gr=>ABo (ABw (Wk (AHd rfl rfl (ACd (ACl (q_b (q_t ?_)))))));obtain rfl:=ABk Gn;exact ⟨Gh,(((w64 (Ag - 1)),(sI Bp Ag 0)):(Int) × (LiA)),Nat.lt_succ_self _,⟨Ah,(Bt.uO p0 Gr Gq)⟩,rfl,trivial⟩
    rintro ⟨Gt,Gu⟩ Ji Jj ⟨Gv,Ac⟩;subst Gv;refine ABm (ABi (Wk (Wk (ADo rfl rfl (ABo (⟨_,rfl,fun Bu=>?_,fun Bu=>?_⟩))))))
    ·obtain rfl:=ABk (AC1 Ct Bu);change _=Cd at Bj;subst Bj;refine ACb (AB9 (Abx (by decide) (AB9 (ADj (q_b (q_t (ABw (Wk (AHd rfl rfl (ABp ?_))))))))));obtain rfl:=ABk Es;exact ⟨Ef,(((w64 (Ba - 1)),Cn,Co,Cp,Cq,Cr):(Int) × (LiI) × (Value) × LnA × LnN × LvA),Nat.lt_succ_self _,⟨Bc,Ac.sel [1,2,3,4,5,6,7,8,9] (by decide)⟩,rfl,trivial⟩
    ·refine ABs (q_t (ABw (Wk (Wk ?_))));obtain ⟨Cz,Ay,Gw⟩:=ABl (AC2 Ct Bu);refine AOg ABv rfl (Ac.o p0) rfl Ay fun Jk Gx=>?_;obtain ⟨Jl,Gy,Gz⟩:=(Ac.o p0).cells Gx Ay;obtain rfl:=Gy;refine AB4 ACr rfl (Gz 0 _ rfl) (ACy rfl rfl (AOg ABv rfl (Ac.o p0) rfl Ay fun Jm G3=>AZl (AF6 ACr rfl rfl rfl) (Ac.o p0) G3 Ay (show ((cI .i64)).rep _ (w64 (Cz + 1)) _ from rfl) fun Jn G4 G5=>ACl (q_b (q_t ?_))));obtain rfl:=ABk Gw;exact ⟨Fa,((Cn,Co,Cp,Cq,Cr,(sI Gu Gt (w64 (Cz + 1)))):(LiI) × (Value) × LnA × LnN × LvA × (LiA)),Nat.lt_succ_self _,⟨Bj,(Ac.uO p0 G5 G4)⟩,trivial⟩
   ·obtain rfl:=ABk (AC2 Ae Be);change _=B3 at Bc;subst Bc;refine ACb (AB9 (AB9 (ADj (⟨_,ASy,((B5,B6,B7,B8,B9):(LiI) × (Value) × LnA × LnN × LvA),?_,rfl,?_⟩))))
    ·exact ABk Ea
    ·exact Bb
  obtain ⟨⟨Jo,Jp,Jq,Jr,Js⟩,G6,rfl,C0⟩:=D8;subst G6;refine ⟨(C0.ob p2),?_⟩;obtain ⟨Jt,G7,Ju,Bv⟩:=C0.uob (o':=rf_oe) p2 Ao D4;rw [G7];refine q_t (Aqo (Amv (AB4 Acn rfl ((Bv.b p5).cell (i:=0) rfl) (ACd (ABp (Atf ?_))))));obtain rfl:=ABk D7;refine ⟨(Bv.ob p1),?_⟩;obtain ⟨Jv,G8,Jw,Bw⟩:=Bv.uob (o':=(.deferred none)) p1 rfl rfl;rw [G8];exact ⟨_,AC8,Bw.x,_,_,_,_,rfl,(Bw.o2 p0),Bw.s.sel [0] (by decide)⟩
end Go.Proofs.YtiegjkmfpcgjjaaGreatDoor
namespace Go.Proofs.YtiegjkmfpcgjjaaGreatDoor
open Go Go.QF
set_option maxRecDepth 100000
noncomputable def ASv (M:List (List Int)) (p:Int) (lim:Bool):Int:=
  if isRed M=true then (if ARs p=true/\det M.length (ent M) % p≠0 then (if lim=true/\65536 < p ^ M.length then 7 else 0) else 20) else 6
theorem Aec {E:Type} {body:Int × Int->Option ((Int × Int) ⊕ (E ⊕ Unit))} {fuel n:Nat} {p:Int} {x:E} (hp:2<=p) (Ab:p<=9973) (hn:n<=16) (hf:100 < fuel) (hb:∀ a b,body (a,b)=if b < (n:Int) then (if 65536 < w64 (a * p) then some (.inr (.inl x)) else some (.inl (w64 (a * p),w64 (b + 1)))) else some (.inr (.inr ()))):Ok (iter body fuel (1,0)) fun e=>(e= .inl x/\65536 < p ^ n)∨(e= .inr ()/\p ^ n<=65536):=by
 refine AC0 (fun i s=>s=(p ^ i,(i:Int))/\i<=n/\p ^ i<=65536) n ⟨by simp,Nat.zero_le _,by simp⟩ (by omega) fun i s hi hI=>?_;obtain ⟨rfl,h1,h2⟩:=hI;rw [hb];have hpos:0 < p ^ i:=Int.pow_pos (by omega);have hm:p ^ i * p<=65536 * 9973:=Int.mul_le_mul h2 Ab (by omega) (by omega);have Ae:0<=p ^ i * p:=Int.mul_nonneg (by omega) (by omega);have hs:p ^ (i + 1)=p ^ i * p:=Int.pow_succ p i
 refine AB5 (fun h=>?_) fun h=>ABj (.inr ⟨rfl,by
   obtain rfl:i=n:=by omega
   exact h2⟩)
 rw [wk (by omega)];refine AB5 (fun h3=>ABj (.inl ⟨rfl,?_⟩)) fun h3=>ABj ⟨by omega,by rw [AGo (by omega),hs],by omega,by rw [hs];omega⟩;have:=Abr (p:=p) (by omega) (show i + 1<=n by omega);omega
theorem AU8 {p:Int} (h:ARs p=true):3<=p/\p<=9973:=by have:=Ao1 h;omega
theorem AYx {fuel:Nat} {M:List (List Int)} {p:Int} (hf:2147483648 < fuel):AKb fuel M p=some (ASv M p false):=by
 unfold AKb AV0 ASv;simp only [Option.bind_some]
 cases hr:isRed M with
 | false=>rfl
 | true=>
   have R:=(AQx M).1 hr
   simp only [Bool.not_true,Bool.false_eq_true,reduceIte,false_and]
   apply ok_eq
   refine ABn (Q:=fun ex=>(ex= .inl 20/\ARs p=false)∨(ex= .inr ()/\ARs p=true)) ?_ fun ex hex=>?_
   · refine AB5 (fun h=>ABj (.inl ⟨rfl,(ARt (by omega)).symm⟩)) fun h=>AB5 (fun h2=>ABj (.inl ⟨rfl,(ARt (by omega)).symm⟩)) fun h2=>?_
     unfold AYl
     simp only [Option.bind_some]
     refine AB5 (fun h3=>ABj (.inl ⟨rfl,(ARt fun hc=>?_).symm⟩)) fun h3=>ABj (.inr ⟨rfl,?_⟩)
     · have h3:AKo p=false:=by simpa using h3
       exact AY0 h3 ⟨by omega,hc.2.2⟩
     · have h3:AKo p=true:=by simpa using h3
       have:=AZf h3
       have h4:=this.2.1
       exact (AVz ⟨by omega,by omega,this.2⟩).symm
   · rcases hex with ⟨rfl,ho⟩ | ⟨rfl,ho⟩
     · exact ABj (by rw [if_neg (by simp [ho])])
     · have hb:=AU8 ho
       dsimp only
       have hM:=AU4 R
       have hd:AJg fuel M p=some (det M.length (ent M) % p,0):=by
         conv=>lhs;rw [hM]
         exact Ar9 R.1.1 R.1.2 (by omega) (by omega) hf
       rw [hd]
       simp only [Option.bind_some]
       rw [if_neg (by decide)]
       exact AB5 (fun h=>ABj (by rw [if_neg (by simp [h])])) fun h=>ABj (by rw [if_pos ⟨ho,h⟩])
theorem Ah1 {fuel:Nat} {M:List (List Int)} {p:Int} (hf:2147483648 < fuel):AIi fuel M p=some (ASv M p true):=by
 unfold AIi;rw [AYx hf];simp only [Option.bind_some];apply ok_eq;refine AB5 (fun h=>ABj ?_) fun h=>?_
 ·unfold ASv at h ⊢;by_cases hr:isRed M=true
  ·rw [if_pos hr] at h ⊢;rw [if_pos hr];by_cases hg:ARs p=true/\det M.length (ent M) % p≠0
   ·rw [if_pos hg] at h;simp at h
   ·rw [if_neg hg,if_neg hg]
  ·rw [if_neg hr,if_neg hr]
 ·have h:ASv M p false=0:=by simpa using h
  unfold ASv at h;by_cases hr:isRed M=true
  ·rw [if_pos hr] at h;by_cases hg:ARs p=true/\det M.length (ent M) % p≠0
   ·have R:=(AQx M).1 hr;have hb:=AU8 hg.1;have h8:=R.1.2;refine ABn (Aec (n:=M.length) (x:=(7:Int)) (by omega) hb.2 (by omega) (by omega) fun a b=>rfl) fun ex hex=>?_;rcases hex with ⟨rfl,h3⟩ | ⟨rfl,h3⟩
    ·exact ABj (by unfold ASv;rw [if_pos hr,if_pos hg,if_pos ⟨rfl,h3⟩])
    ·exact ABj (by unfold ASv;rw [if_pos hr,if_pos hg,if_neg (fun hh=>absurd hh.2 (by omega))])
   ·rw [if_neg hg] at h;simp at h
  ·rw [if_neg hr] at h;simp at h
theorem Atv {M:List (List Int)} {p:Int} {lim:Bool} (h:ASv M p lim=0):AV4 M/\(3<=p/\p<=9973)/\ARs p=true/\det M.length (ent M) % p≠0/\(lim=true->p ^ M.length<=65536):=by
  unfold ASv at h
  by_cases hr:isRed M=true
  · rw [if_pos hr] at h
    by_cases hg:ARs p=true/\det M.length (ent M) % p≠0
    · rw [if_pos hg] at h;refine ⟨(AQx M).1 hr,AU8 hg.1,hg.1,hg.2,fun hl=>?_⟩
      by_cases h6:lim=true/\65536 < p ^ M.length
      · rw [if_pos h6] at h;simp at h
      · exact Int.not_lt.1 fun hh=>h6 ⟨hl,hh⟩
    · rw [if_neg hg] at h;simp at h
  · rw [if_neg hr] at h;simp at h
end Go.Proofs.YtiegjkmfpcgjjaaGreatDoor
namespace Go.Proofs.YtiegjkmfpcgjjaaGreatDoor
open Go Go.QF
set_option maxRecDepth 100000
set_option maxHeartbeats 4000000
noncomputable def AHa (fuel:Nat) (a3:LiI) (a5:Int):Option Bool:=
  ((Abf fuel a5).bind fun x6=>(if x6=true then ((AH1 fuel a3).bind fun Ad=>(if a5≠0 then (some (decide (¬ (Int.tmod Ad a5)=0))) else none)) else (some false)))
theorem AQ1 {fuel:Nat} {h:ABh} {Ab:Value} {a3:LiI} {a5:Int} {r:Bool} (H2:AFl (cI .i64) h Ab a3) (hp:AHa fuel a3 a5=some r):AB7 Tryz.prog 31 #[Ab,(.int .i64 a5)] h (fun x h'=>Ext h h'/\x= .bool r):=by
 unfold AHa at hp;refine cwf (l:=[_,_]) Tryz.func31 rfl rfl (ABi (ACq (Wk ?_)));obtain ⟨x6,Ai,Ae⟩:=ABl hp;refine ACu rfl (Al5 Ai) fun Av Aw E9 Ak=>?_;subst Ak;refine Wk ?_;have Aa:=(Kst.k0 h).e E9;cases Af:x6
 ·refine ALh 7 false (ABu rfl (ABp (ABr ?_)));obtain rfl:=ABk (AIz Ae Af);exact ⟨_,ABt,Aa.x,rfl⟩
 ·refine ACk 7 true (Wk (ACk 7 true ?_));obtain ⟨Ax,Am,Ao⟩:=ABl (ifT Ae Af);refine ACu rfl (ARu (H2.ext Aa.x) Am) fun Ay Az Ap Aq=>?_;subst Aq;refine ACk 7 true (Wk (ACk 7 true ?_));obtain ⟨Ar,Au⟩:=ifN Ao;refine AF7 rfl rfl Ar (ACk 7 true (AG8 rfl rfl (ABy rfl (ABp (ABr ?_)))));obtain rfl:=ABk Au;exact ⟨_,ABt,(Aa.e Ap).x,rfl⟩
def ALn (fuel:Nat) (a1 a2 Ab Ac:Int):Option ((Int × Int) ⊕ ((Bool) ⊕ (Unit))):=
  (if Ac < a1 then (if 65536 < (w64 (Ab * a2)) then (some (Sum.inr<| Sum.inl <| false)) else (some (Sum.inl ((w64 (Ab * a2)),(w64 (Ac + 1)))))) else (some (Sum.inr<| Sum.inr <| ())))
def AGe (fuel:Nat) (a1 a2:Int):Option Bool:=
  ((iter (fun s=>ALn fuel a1 a2 s.1 s.2) fuel (1,0)).bind (fun ex=>match ex with | Sum.inl Ac=>(some Ac) | Sum.inr (_)=>(some true)))
theorem APk {fuel:Nat} {h:ABh} {a1 a2:Int} {r:Bool} (hp:AGe fuel a1 a2=some r):AB7 Tryz.prog 32 #[(.int .i64 a1),(.int .i64 a2)] h (fun x h'=>Ext h h'/\x= .bool r):=by
 unfold AGe at hp;refine cwf (l:=[_,_]) Tryz.func32 rfl rfl (ABi (ACq (ABp (ABm (ABi (ABp (ABq ?_)))))));have K0:=Kst.k0 h;obtain ⟨Ad,Am,Aj⟩:=ABl hp;obtain ⟨Ao,Ap,Aq⟩:=ACg Am;refine ACi 131056 (fun x:(Int) × (Int)=>[(5,(.int .i64 x.1)),(6,(.int .i64 x.2))]) (fun k x h'=>iter Ao k (x.1,x.2)=some Ad/\Kst h h' (K0.L)) (by kernel_rfl) fuel ((1,0):(Int) × (Int)) ?_ ⟨rfl,rfl,trivial⟩ ?_
 ·exact ⟨Aq,K0⟩
 rintro k9 ⟨Ar,Au⟩ Ay Az ⟨Av,Ae⟩;obtain ⟨Aw,A3,rfl,Aa,Ab⟩:=AB3 Av;rw [Ap] at Aa;dsimp only at Aa;unfold ALn at Aa;refine ABm (ABi (Wk (Wk (ACx rfl rfl (ABo (⟨_,rfl,fun Af=>?_,fun Af=>?_⟩))))))
 ·refine ABs (q_t (ABm (ABq (ABi (Wk (Wk (AL8 rfl rfl (ACq (Wk (AIm rfl rfl (ABo ?_)))))))))));have Ak:=AC1 Aa Af;refine ⟨_,rfl,fun Ag=>?_,fun Ag=>?_⟩
  ·refine ABi (ABp ?_);obtain rfl:=ABk (AC1 Ak Ag);change _=Ad at Ab;subst Ab;refine ABr (ADn (AB0 (AB0 (ADn (AB0 ?_)))));obtain rfl:=ABk Aj;exact ⟨_,ABt,Ae.x,rfl⟩
  ·refine ABs (q_b (q_t (ABw (Wk (ACy rfl rfl (ABp ?_))))));obtain rfl:=ABk (AC2 Ak Ag);exact ⟨Aw,(((w64 (Ar * a2)),(w64 (Au + 1))):(Int) × (Int)),Nat.lt_succ_self _,⟨Ab,Ae⟩,rfl,rfl,trivial⟩
 ·obtain rfl:=ABk (AC2 Aa Af);change _=Ad at Ab;subst Ab;refine ACb (AB9 (AB9 (ADj (q_t (ABi (ABp (ABr ?_)))))));obtain rfl:=ABk Aj;exact ⟨_,ABt,Ae.x,rfl⟩
noncomputable def AGf (fuel:Nat) (a3:LiI) (a5:Int) (a6:Bool):Option Int:=
  ((AEk fuel a3).bind fun x7=>(if (!x7)=true then (some 6) else ((AHa fuel a3 a5).bind fun Ae=>(if (!Ae)=true then (some 20) else (if a6=true then ((AGe fuel (a3.length:Int) a5).bind fun Af=>(if (!Af)=true then (some 7) else (some 0))) else (some 0))))))
theorem APl {fuel:Nat} {h:ABh} {Ah:Value} {a3:LiI} {a5:Int} {a6:Bool} {r:Int} (H2:AFl (cI .i64) h Ah a3) (hp:AGf fuel a3 a5 a6=some r):AB7 Tryz.prog 41 #[Ah,(.int .i64 a5),(.bool a6)] h (fun x h'=>Ext h h'/\x= .int .i64 r):=by
 unfold AGf at hp;refine cwf (l:=[_,_,_]) Tryz.func41 rfl rfl (ABi (ABp (ABm (ABq (ABi (Wk ?_))))));have K0:=Kst.k0 h;obtain ⟨x7,Av,Am⟩:=ABl hp;refine ACu rfl (AN6 (H2.ext K0.x) Av) fun A8 A9 Aw Ax=>?_;subst Ax;refine AF8 rfl (ABp ?_);have Ac:=K0.e Aw;refine ⟨_,rfl,fun Ad=>?_,fun Ad=>?_⟩
 ·refine ABi (ABp (ABr (ADn (AB0 ?_))));obtain rfl:=ABk (ifT Am Ad);exact ⟨_,ABt,Ac.x,rfl⟩
 ·refine ABi (Wk (Wk ?_));obtain ⟨Ba,Ay,Ao⟩:=ABl (AIz Am Ad);refine ACu rfl (AQ1 (H2.ext Ac.x) Ay) fun Bb Bc Az A3=>?_;subst A3;refine AF8 rfl (ABp ?_);have Ae:=Ac.e Az;refine ⟨_,rfl,fun Af=>?_,fun Af=>?_⟩
  ·refine ABi (ABp (ABr (ADn (AB0 ?_))));obtain rfl:=ABk (ifT Ao Af);exact ⟨_,ABt,Ae.x,rfl⟩
  ·refine ABi (Wk (Wk ?_));have Ap:=AIz Ao Af;cases Aq:a6
   ·refine ALh 18 false (ABu rfl (ABp (ACc rfl (ABs (q_b (q_t (ABi (ABp (ABr ?_)))))))));obtain rfl:=ABk (AIz Ap Aq);exact ⟨_,ABt,Ae.x,rfl⟩
   ·refine ACk 18 true (Wk (ACk 18 true (ADg AB2 rfl H2 (ACk 18 true (Wk (ACk 18 true ?_))))));obtain ⟨Be,A4,Ar⟩:=ABl (ifT Ap Aq);refine ACu rfl (APk A4) fun Bf Bg A5 A6=>?_;subst A6;refine ACk 18 true (AF8 rfl (ABy rfl (ABp ?_)));have Au:=Ae.e A5;refine ⟨_,rfl,fun Ag=>?_,fun Ag=>?_⟩
    ·refine ABi (ABp (ABr (ADn (AB0 ?_))));obtain rfl:=ABk (ifT Ar Ag);exact ⟨_,ABt,Au.x,rfl⟩
    ·refine ABs (q_b (q_t (ABi (ABp (ABr ?_)))));obtain rfl:=ABk (AIz Ar Ag);exact ⟨_,ABt,Au.x,rfl⟩
def AG3 (fuel:Nat) (a7:LiA) (a9:Int) (Ac:LiA) (Ad Ab:Int):Option ((Int × Int) ⊕ ((Int))):=
  (if Ab < (Ac.length:Int) then ((gI Ac Ab).bind fun Af=>((AFj fuel Af a9).bind fun Ag=>((gI a7 Ab).bind fun Ah=>((AFj fuel Ah a9).bind fun Ai=>(if a9≠0 then (if a9≠0 then (some (Sum.inl ((Int.tmod (w64 (Ad + (Int.tmod (w64 (Ag * Ai)) a9))) a9),(w64 (Ab + 1))))) else none) else none))))) else (some (Sum.inr<| Ad)))
def AG4 (fuel:Nat) (a3:LiI) (a7:LiA) (a9:Int) (Aa:LiA) (Ab:Int):Option ((LiA × Int) ⊕ ((LiA))):=
  (if Ab < (a3.length:Int) then ((gI a3 Ab).bind fun Af=>((iter (fun s=>AG3 fuel a7 a9 Af s.1 s.2) fuel (0,0)).bind (fun (Ag:Int)=>(if Aa.length<=100000000 then (some (Sum.inl ((Aa ++ [Ag]),(w64 (Ab + 1))))) else none)))) else (some (Sum.inr<| Aa)))
def AGp (fuel:Nat) (a3:LiI) (a7:LiA) (a9:Int):Option LiA:=
  ((iter (fun s=>AG4 fuel a3 a7 a9 s.1 s.2) fuel ([],0)).bind (fun (Ad:LiA)=>(some Ad)))
theorem AQf {fuel:Nat} {h:ABh} {Ap:Value} {a3:LiI} {Ar:Value} {a7:LiA} {a9:Int} {r:LiA} (H2:AFl (cI .i64) h Ap a3) (H6:SlC (cI .i64) h Ar a7) (hp:AGp fuel a3 a7 a9=some r):AB7 Tryz.prog 43 #[Ap,Ar,(.int .i64 a9)] h (fun x h'=>Ext h h'/\ ∃ (x0:Value) (F0:List Nat),x=x0/\OwC (cI .i64) 2 h' F0 x0 r/\Sp h' h.size [F0]):=by
 unfold AGp at hp;refine cwf (l:=[_,_,_]) Tryz.func43 rfl rfl (ABi (ACq (ABp (ABm (ABi (Wk (ADg AB2 rfl H2 (Wk (ABo (ABq ?_))))))))));have Ay:=Kst.anil (cI .i64) 2 (Kst.k0 h);obtain ⟨Az,A7,A8⟩:=ABl hp;obtain ⟨A9,Ba,Bb⟩:=ACg A7;refine ACi 281474976685696 (fun x:(LiA) × (Value) × LnA × (Int)=>[(7,x.2.1),(15,(.int .i64 x.2.2.2))]) (fun k x h'=>iter A9 k (x.1,x.2.2.2)=some Az/\Kst h h' (Ay.L.set 0 (aO (cI .i64) 2 x.2.2.1 x.2.1 x.1))) (by kernel_rfl) fuel (([],(.slice none 0 0),[],0):(LiA) × (Value) × LnA × (Int)) ?_ ⟨rfl,rfl,trivial⟩ ?_
 ·exact ⟨Bb,Ay⟩
 rintro Cp ⟨Bc,Cq,Cr,Be⟩ Ct Cu ⟨Bf,Aa⟩;obtain ⟨Bg,Cv,rfl,Ab,Ag⟩:=AB3 Bf;rw [Ba] at Ab;dsimp only at Ab;unfold AG4 at Ab;refine ABi (ACx rfl rfl (ABo (ABm (⟨_,rfl,fun Ah=>?_,fun Ah=>?_⟩))))
 ·refine ABs (q_t (ABm (ABq (ABi ?_))));obtain ⟨Cw,Bh,Bi⟩:=ABl (AC1 Ab Ah);refine AIj AB2 rfl H2 rfl Bh fun Cx Cy Cz Bj A3=>AB4 ACn rfl (ABx Bj Aa.x) (ACq (ABp (ABm (ABi (Wk (ADr ABv rfl A3 (Wk (ABo (ABq ?_)))))))));obtain ⟨A4,Bl,Bm⟩:=ABl Bi;obtain ⟨Bn,Bo,Bp⟩:=ACg Bl;refine ACi 8796090932224 (fun x:(Int) × (Int)=>[(10,(.int .i64 x.1)),(21,(.int .i64 x.2))]) (fun k x h'=>iter Bn k (x.1,x.2)=some A4/\Kst h h' (Aa.L)) (by kernel_rfl) fuel ((0,0):(Int) × (Int)) ?_ ⟨rfl,rfl,trivial⟩ ?_
  ·exact ⟨Bp,Aa⟩
  rintro C0 ⟨Af,Bq⟩ C1 Ai ⟨Br,Ac⟩;obtain ⟨Bt,C2,rfl,Ad,Aj⟩:=AB3 Br;rw [Bo] at Ad;dsimp only at Ad;unfold AG3 at Ad;refine ABi (ACx rfl rfl (ABo (ABm (⟨_,rfl,fun Ak=>?_,fun Ak=>?_⟩))))
  ·refine ABs (q_t (ABm (ABq (ABi (Wk ?_)))));obtain ⟨C3,Bu,Bv⟩:=ABl (AC1 Ad Ak);refine AIf (c:=(cI .i64)) ABv rfl A3 rfl Bu fun C4 C5 C6 Bw Bx=>?_;obtain rfl:=Bw;refine AB4 ACr rfl (ABx (Bx 0 _ rfl) Ac.x) (ACd (ABp (AEl (fun h'=>UpT [] Ai h') (by kernel_rfl) ?_)));have Am:UpT [] Ai Ai:=UpT.start all_nil;refine Wk (Wk (Wk ?_));obtain ⟨By,Bz,B1⟩:=ABl Bv;refine AC9 Am (fun _ E=>Am.thenE E) rfl (AJ9 Bz) fun C7 C8 A5 B2=>?_;subst B2;refine Wk (Wk ?_);have Ao:=Am.thenE A5;obtain ⟨C9,B3,B4⟩:=ABl B1;refine AIf (c:=(cI .i64)) ABv rfl H6 rfl B3 fun Da Db Dc B5 B6=>?_;obtain rfl:=B5;refine AGj ACr rfl Ao (fun h' hb=>ABx (B6 0 _ rfl) (Ac.x.trans hb.ext)) (Wk ?_);obtain ⟨B7,B8,B9⟩:=ABl B4;refine AC9 Ao (fun _ E=>Ao.thenE E) rfl (AJ9 B8) fun Dd De Ca Cb=>?_;subst Cb;refine AL8 rfl rfl (Wk ?_);obtain ⟨Cd,Ce⟩:=ifN B9;refine AF7 rfl rfl Cd (ACy rfl rfl (Wk ?_));obtain ⟨Cf,Cg⟩:=ifN Ce;refine AF7 rfl rfl Cf (ACd (ACl (q_b (q_t (ABw (ACy rfl rfl (Wk (ABo ?_))))))));obtain rfl:=ABk Cg;exact ⟨Bt,(((Int.tmod (w64 (Af + (Int.tmod (w64 (By * B7)) a9))) a9),(w64 (Bq + 1))):(Int) × (Int)),Nat.lt_succ_self _,⟨Aj,((Ac.e A5).e Ca)⟩,rfl,rfl,trivial⟩
  ·obtain rfl:=ABk (AC2 Ad Ak);change _=A4 at Aj;subst Aj;refine ACb (AB9 (AB9 (ADj (q_t (ABw (Wk (Wk ?_)))))));obtain ⟨Ch,Ci⟩:=ifN Bm;refine ANi ABv AHg rfl rfl trivial tt2 (fun _=>rfl) rfl (show ((cI .i64)).rep _ Af [(.int .i64 Af)] from rfl) (Ac.o p0) (by decide) Ch fun Df Cj Ck Dg Cm Cn Co=>ACd (ACl (q_b (q_t (ABw (ACy rfl rfl (Wk (ABo ?_)))))));obtain rfl:=ABk Ci;exact ⟨Bg,(((Bc ++ [Af]),Ck,Cj,(w64 (Be + 1))):(LiA) × (Value) × LnA × (Int)),Nat.lt_succ_self _,⟨Ag,(Ac.uo p0 Cn Cm Co)⟩,rfl,rfl,trivial⟩
 ·obtain rfl:=ABk (AC2 Ab Ah);change _=Az at Ag;subst Ag;refine ACb (AB9 (AB9 (ADj (q_t (ABi (Wk (ABp (ABr ?_))))))));obtain rfl:=ABk A8;exact ⟨_,ABt,Aa.x,_,_,rfl,(Aa.o p0),Aa.s.sel [0] (by decide)⟩
def AJw (fuel:Nat) (a7:LiA) (a9:Int) (Ac:LiA) (Ad Ab:Int):Option ((Int × Int) ⊕ ((Int))):=
  (if Ab < (Ac.length:Int) then ((gI Ac Ab).bind fun Af=>((gI a7 Ab).bind fun Ag=>((AFj fuel Ag a9).bind fun Ah=>(if a9≠0 then (if a9≠0 then (some (Sum.inl ((Int.tmod (w64 (Ad + (Int.tmod (w64 (Af * Ah)) a9))) a9),(w64 (Ab + 1))))) else none) else none)))) else (some (Sum.inr<| Ad)))
def AF4 (fuel:Nat) (a3:LiI) (a7:LiA) (a9:Int):Option Int:=
  ((AGp fuel a3 a7 a9).bind fun Ad=>((iter (fun s=>AJw fuel a7 a9 Ad s.1 s.2) fuel (0,0)).bind (fun (Ae:Int)=>(some Ae))))
theorem AQ2 {fuel:Nat} {h:ABh} {Ah:Value} {a3:LiI} {Aj:Value} {a7:LiA} {a9 r:Int} (H2:AFl (cI .i64) h Ah a3) (H6:SlC (cI .i64) h Aj a7) (hp:AF4 fuel a3 a7 a9=some r):AB7 Tryz.prog 44 #[Ah,Aj,(.int .i64 a9)] h (fun x h'=>Ext h h'/\x= .int .i64 r):=by
 unfold AF4 at hp;refine cwf (l:=[_,_,_]) Tryz.func44 rfl rfl (ABi (ACq (ABp (ABm (ABi (Wk (Wk (Wk ?_))))))));have K0:=Kst.k0 h;obtain ⟨Bw,Ar,Au⟩:=ABl hp;refine ACu rfl (AQf (H2.ext K0.x) (H6.ext K0.x) Ar) fun Bx By Av Aw=>?_;obtain ⟨Bz,B1,rfl,Ax,Ay⟩:=Aw;have Ae:=K0.no Av Ay Ax;refine ADr ABv rfl (Ae.o p0).rd (Wk (ABo (ABq ?_)));obtain ⟨Ao,Az,A3⟩:=ABl Au;obtain ⟨A4,A5,A6⟩:=ACg Az;refine ACi 34359706496 (fun x:(Int) × (Int)=>[(7,(.int .i64 x.1)),(15,(.int .i64 x.2))]) (fun k x h'=>iter A4 k (x.1,x.2)=some Ao/\Kst h h' (Ae.L)) (by kernel_rfl) fuel ((0,0):(Int) × (Int)) ?_ ⟨rfl,rfl,trivial⟩ ?_
 ·exact ⟨A6,Ae⟩
 rintro B2 ⟨A7,A8⟩ B3 B4 ⟨A9,Aa⟩;obtain ⟨Ba,B5,rfl,Ab,Af⟩:=AB3 A9;rw [A5] at Ab;dsimp only at Ab;unfold AJw at Ab;refine ABi (ACx rfl rfl (ABo (ABm (⟨_,rfl,fun Ag=>?_,fun Ag=>?_⟩))))
 ·refine ABs (q_t (ABm (ABq (ABi (Wk ?_)))));obtain ⟨Bb,Ap,Bc⟩:=ABl (AC1 Ab Ag);refine AOg ABv rfl (Aa.o p0) rfl Ap fun B6 Be=>?_;obtain ⟨B7,Bf,Bg⟩:=(Aa.o p0).cells Be Ap;obtain rfl:=Bf;refine AB4 ACr rfl (Bg 0 _ rfl) (ACd (ABp (ABw (Wk (Wk (Wk (Wk ?_)))))));obtain ⟨B8,Bh,Bi⟩:=ABl Bc;refine AIf (c:=(cI .i64)) ABv rfl H6 rfl Bh fun B9 Ca Cb Bj Bl=>?_;obtain rfl:=Bj;refine AB4 ACr rfl (ABx (Bl 0 _ rfl) Aa.x) (Wk ?_);obtain ⟨Bm,Bn,Bo⟩:=ABl Bi;refine ACu rfl (AJ9 Bn) fun Cd Ce Bp Bq=>?_;subst Bq;refine AL8 rfl rfl (Wk ?_);obtain ⟨Br,Bt⟩:=ifN Bo;refine AF7 rfl rfl Br (ACy rfl rfl (Wk ?_));obtain ⟨Bu,Bv⟩:=ifN Bt;refine AF7 rfl rfl Bu (ACd (ACl (q_b (q_t (ABw (ACy rfl rfl (Wk (ABo ?_))))))));obtain rfl:=ABk Bv;exact ⟨Ba,(((Int.tmod (w64 (A7 + (Int.tmod (w64 (Bb * Bm)) a9))) a9),(w64 (A8 + 1))):(Int) × (Int)),Nat.lt_succ_self _,⟨Af,(Aa.e Bp)⟩,rfl,rfl,trivial⟩
 ·obtain rfl:=ABk (AC2 Ab Ag);change _=Ao at Af;subst Af;refine ACb (AB9 (AB9 (ADj (q_t (ABi (Wk (ABp (ABr ?_))))))));obtain rfl:=ABk A3;exact ⟨_,ABt,Aa.x,rfl⟩
def AJz (fuel:Nat) (a5:Int) (a8:LiA) (Ab Aa:Int):Option ((Int × Int) ⊕ ((Bool) ⊕ (Int))):=
  (if Aa < (a8.length:Int) then ((gI a8 Aa).bind fun Ac=>(((if Ac < 0 then (some (Sum.inl <| false)) else (if a5<=Ac then (some (Sum.inl <| false)) else (some (Sum.inr <| ())))):Option ((Bool) ⊕ (Unit))).bind (fun ex=>match ex with | Sum.inl Af=>(some (Sum.inr<| Sum.inl <| Af)) | Sum.inr (_)=>(if Ab=0 then (some (Sum.inl (Ac,(w64 (Aa + 1))))) else (some (Sum.inl (Ab,(w64 (Aa + 1))))))))) else (some (Sum.inr<| Sum.inr <| Ab)))
def AFa (fuel:Nat) (a3:LiI) (a5:Int) (a8:LiA):Option Bool:=
  (if ¬ (a8.length:Int)=(a3.length:Int) then (some false) else ((iter (fun s=>AJz fuel a5 a8 s.1 s.2) fuel (0,0)).bind (fun ex=>match ex with | Sum.inl Ad=>(some Ad) | Sum.inr (Ae)=>(if Ae=1 then ((AF4 fuel a3 a8 a5).bind fun Af=>(some (decide (Af=0)))) else (some false)))))
theorem ANw {fuel:Nat} {h:ABh} {Aq:Value} {a3:LiI} {a5:Int} {Av:Value} {a8:LiA} {r:Bool} (H2:AFl (cI .i64) h Aq a3) (H7:SlC (cI .i64) h Av a8) (hp:AFa fuel a3 a5 a8=some r):AB7 Tryz.prog 42 #[Aq,(.int .i64 a5),Av] h (fun x h'=>Ext h h'/\x= .bool r):=by
 unfold AFa at hp;refine cwf (l:=[_,_,_]) Tryz.func42 rfl rfl (ABi (ABp (ABm (ABi (Wk (ADr ABv rfl H7 (Wk (ADg AB2 rfl H2 (AG8 rfl rfl (ABo ?_))))))))));have K0:=Kst.k0 h;refine ⟨_,rfl,fun Ak=>?_,fun Ak=>?_⟩
 ·refine ABi (ABp (ABr (AB0 ?_)));obtain rfl:=ABk (AC1 hp Ak);exact ⟨_,ABt,K0.x,rfl⟩
 ·refine ABs (q_t (ABi (ABp (ABm (ABi (Wk (ADr ABv rfl H7 (Wk (ABo (ABq ?_))))))))));obtain ⟨Ae,A8,Af⟩:=ABl (AC2 hp Ak);obtain ⟨A9,Ba,Bb⟩:=ACg A8;refine ACi 4294836928 (fun x:(Int) × (Int)=>[(7,(.int .i64 x.1)),(17,(.int .i64 x.2))]) (fun k x h'=>iter A9 k (x.1,x.2)=some Ae/\Kst h h' (K0.L)) (by kernel_rfl) fuel ((0,0):(Int) × (Int)) ?_ ⟨rfl,rfl,trivial⟩ ?_
  ·exact ⟨Bb,K0⟩
  rintro Bp ⟨Ay,Az⟩ Bq Br ⟨Bc,Aa⟩;obtain ⟨A3,Bt,rfl,Ac,Ab⟩:=AB3 Bc;rw [Ba] at Ac;dsimp only at Ac;unfold AJz at Ac;refine ABi (ACx rfl rfl (ABo (ABm (⟨_,rfl,fun Am=>?_,fun Am=>?_⟩))))
  ·refine ABs (q_t (ABm (ABq (ABi ?_))));obtain ⟨A4,Be,Bf⟩:=ABl (AC1 Ac Am);refine AIf (c:=(cI .i64)) ABv rfl H7 rfl Be fun Bu Bv Bw Bg Bh=>?_;obtain rfl:=Bg;refine AB4 ACr rfl (ABx (Bh 0 _ rfl) Aa.x) (ABp ?_);obtain ⟨Bi,A5,Ag⟩:=ABl Bf;refine AN1 266338368 (fun x:Unit=>[]) (fun x h'=>(Sum.inr <| ())=Bi/\Kst h h' (Aa.L)) ?_ ?_
   ·refine ABi (Wk (ACx rfl rfl (Wk ?_)));by_cases Ah:A4 < 0
    ·rw [decide_eq_true Ah];refine AJx 23 true (ABy rfl (ABo (AB8 rfl (ABi (ABp ?_)))));obtain rfl:=ABk (ifT A5 Ah);obtain rfl:=ABk Ag;change _=Ae at Ab;subst Ab;refine ABr (AB0 (ADn (AB0 (AB0 (ADn (AB0 ?_))))));obtain rfl:=ABk Af;exact ⟨_,ABt,Aa.x,rfl⟩
    ·have A6:=ifF A5 Ah;rw [decide_eq_false Ah];refine ACk 23 false (Wk (ACk 23 false (Wk (ACk 23 false (AMo rfl rfl (ABu rfl (ABo (⟨_,rfl,fun Ao=>?_,fun Ao=>?_⟩))))))))
     ·refine ABi (ABp ?_);obtain rfl:=ABk (AC1 A6 Ao);obtain rfl:=ABk Ag;change _=Ae at Ab;subst Ab;refine ABr (AB0 (ADn (AB0 (AB0 (ADn (AB0 ?_))))));obtain rfl:=ABk Af;exact ⟨_,ABt,Aa.x,rfl⟩
     ·refine ABs (q_t ?_);exact ⟨(():Unit),⟨ABk (AC2 A6 Ao),Aa⟩,trivial⟩
   rintro ⟨⟩ Bx By ⟨Bj,A7⟩;subst Bj;refine ABi (Wk (ADo rfl rfl (ABo (⟨_,rfl,fun Ap=>?_,fun Ap=>?_⟩))))
   ·refine ABw (Wk (ACd (ACl (q_b (q_t (ABw (ACy rfl rfl (Wk (ABo ?_)))))))));obtain rfl:=ABk (AC1 Ag Ap);exact ⟨A3,((A4,(w64 (Az + 1))):(Int) × (Int)),Nat.lt_succ_self _,⟨Ab,A7⟩,rfl,rfl,trivial⟩
   ·refine ABs (q_b (q_t (ABw (ACy rfl rfl (Wk (ABo ?_))))));obtain rfl:=ABk (AC2 Ag Ap);exact ⟨A3,((Ay,(w64 (Az + 1))):(Int) × (Int)),Nat.lt_succ_self _,⟨Ab,A7⟩,rfl,rfl,trivial⟩
  ·obtain rfl:=ABk (AC2 Ac Am);change _=Ae at Ab;subst Ab;refine ACb (AB9 (AB9 (ADj (q_t (ABi (Wk (ADo rfl rfl (Wk ?_))))))));by_cases Ai:Ay=1
   ·rw [decide_eq_true Ai];refine ACk 34 true (Wk (ACk 34 true (Wk (ACk 34 true (Wk (ACk 34 true ?_))))));obtain ⟨Bz,Bl,Bm⟩:=ABl (ifT Af Ai);refine ACu rfl (AQ2 (H2.ext Aa.x) (H7.ext Aa.x) Bl) fun B1 B2 Bn Bo=>?_;subst Bo;refine ACk 34 true (ADo rfl rfl (ABy rfl (ABp (ABr ?_))));obtain rfl:=ABk Bm;exact ⟨_,ABt,(Aa.e Bn).x,rfl⟩
   ·rw [decide_eq_false Ai];refine ALh 34 false (ABu rfl (ABp (ABr ?_)));obtain rfl:=ABk (ifF Af Ai);exact ⟨_,ABt,Aa.x,rfl⟩
noncomputable def AEq (fuel:Nat) (a3:LiI) (a5:Int) (a8:LiA):Option (Bool × Int):=
  ((AGf fuel a3 a5 false).bind fun Ac=>(if ¬ Ac=0 then (some (false,Ac)) else ((AFa fuel a3 a5 a8).bind fun Ae=>(some (Ae,0)))))
theorem AIw {fuel:Nat} {h:ABh} {Ac:Value} {a3:LiI} {a5:Int} {Af:Value} {a8:LiA} {r:(Bool × Int)} (H2:AFl (cI .i64) h Ac a3) (H7:SlC (cI .i64) h Af a8) (hp:AEq fuel a3 a5 a8=some r):AB7 Tryz.prog 26 #[Ac,(.int .i64 a5),Af] h (fun x h'=>Ext h h'/\x= .tuple #[.bool r.1,.int .i64 r.2]):=by
 unfold AEq at hp;refine cwf (l:=[_,_,_]) Tryz.func26 rfl rfl (ABi (ACd (ABp (ABm (ABi (Wk (Wk ?_)))))));have K0:=Kst.k0 h;obtain ⟨Aw,Am,Aj⟩:=ABl hp;refine ACu rfl (APl (H2.ext K0.x) Am) fun Ax Ay Ao Ap=>?_;subst Ap;refine ACq (Wk (AG8 rfl rfl (ABo ?_)));have Aa:=K0.e Ao;refine ⟨_,rfl,fun Ab=>?_,fun Ab=>?_⟩
 ·refine ABi (Wk (ACd (ABp (ABr (AB0 ?_)))));obtain rfl:=ABk (AC1 Aj Ab);exact ⟨_,AC8,Aa.x,rfl⟩
 ·refine ABs (q_t (ABi (Wk (Wk (Wk ?_)))));obtain ⟨Az,Aq,Ar⟩:=ABl (AC2 Aj Ab);refine ACu rfl (ANw (H2.ext Aa.x) (H7.ext Aa.x) Aq) fun A3 A4 Au Av=>?_;subst Av;refine ACd (ABp (ABr ?_));obtain rfl:=ABk Ar;exact ⟨_,AC8,(Aa.e Au).x,rfl⟩
def AJi (fuel:Nat) (a3:LiA) (a5 Aa Ab:Int) (Ac:LiA):Option ((Int × Int × LiA) ⊕ ((LiA))):=
  (if Aa < ((List.replicate (Int.toNat a5) (0:Int)).length:Int) then (((if (a3.length:Int)<=Ab then (some ( (0,Ab))) else ((gI a3 (w64 ((w64 (Ab + 1)) - 1))).bind fun Af=>(some ( ((w64 Af),(w64 (Ab + 1))))))):Option (Int × Int)).bind fun (Ag,Ah)=>((gI Ac Aa).bind fun Ai=>(some (Sum.inl ((w64 (Aa + 1)),Ah,(sI Ac Aa Ag)))))) else (some (Sum.inr<| Ac)))
def AGq (fuel:Nat) (a3:LiA) (a5:Int):Option LiA:=
  (if 0<=a5/\a5<=100000000 then ((iter (fun s=>AJi fuel a3 a5 s.1 s.2.1 s.2.2) fuel (0,0,(List.replicate (Int.toNat a5) (0:Int)))).bind (fun (Ac:LiA)=>(some Ac))) else none)
theorem AQg {fuel:Nat} {h:ABh} {Ab:Value} {a3:LiA} {a5:Int} {r:LiA} (H2:SlC (cI .i8) h Ab a3) (hp:AGq fuel a3 a5=some r):AB7 Tryz.prog 24 #[Ab,(.int .i64 a5)] h (fun x h'=>Ext h h'/\ ∃ (x0:Value) (F0:List Nat),x=x0/\OwC (cI .i64) 2 h' F0 x0 r/\Sp h' h.size [F0]):=by
 unfold AGq at hp;refine cwf (l:=[_,_]) Tryz.func24 rfl rfl (ABi (ACq (Wk ?_)));have K0:=Kst.k0 h;obtain ⟨_,_,_,A3⟩:=(H2.ext K0.x).shape;refine ALa (v:=(.agg #[Ab,(.int .i64 0)])) (fun _=>by subst A3;kernel_rfl) (AHi [Ab,(.int .i64 0)] trivial tt2 rfl rfl fun b7 h8 V9 A5 A6=>ACq (Wk ?_));obtain ⟨A7,A8⟩:=ifN hp;refine ARf (c:=(cI .i64)) (a:=0) ABv AHg rfl rfl (fun _=>rfl) rfl trivial tt2 rfl rfl (by decide) A7 fun A9 v20 B8 Ba Bb Bc Be=>ABp (ABm (ABi (Wk ?_)));have Ag:=(K0.nb A5 A6 V9).no Bb (AGu Bc Be) Ba;refine ADr ABv rfl (Ag.o p0).rd (Wk (ABo (ABq ?_)));obtain ⟨Av,Bf,Bg⟩:=ABl A8;obtain ⟨Bh,Bi,Bj⟩:=ACg Bf;refine ACi 16744576 (fun x:(Int) × (Int) × (LiA) × LnA=>[(15,(.int .i64 x.1))]) (fun k x h'=>iter Bh k (x.1,x.2.1,x.2.2.1)=some Av/\Kst h h' ((Ag.L.set 0 (aO (cI .i64) 2 x.2.2.2 v20 x.2.2.1)).set 1 (aB 76 b7 [Ab,(.int .i64 x.2.1)]))) (by kernel_rfl) fuel ((0,0,(List.replicate (Int.toNat a5) (0:Int)),[A9]):(Int) × (Int) × (LiA) × LnA) ?_ ⟨rfl,trivial⟩ ?_
 ·exact ⟨Bj,Ag⟩
 rintro B9 ⟨Aw,Ah,Bl,Bm⟩ Ca Cb ⟨Bn,Aa⟩;obtain ⟨Bo,Cd,rfl,Ac,Ai⟩:=AB3 Bn;rw [Bi] at Ac;dsimp only at Ac;unfold AJi at Ac;refine ABi (ACx rfl rfl (ABo (ABm (⟨_,rfl,fun Aj=>?_,fun Aj=>?_⟩))))
 ·refine ABs (q_t (ABm (ABq (ABi (Wk (ABp (ABw (Wk (Wk (Wk ?_))))))))));obtain ⟨Bp,Ax,Bq⟩:=ABl (AC1 Ac Aj);refine ACm (K':=(fun xr h'=> ∃ x:(Int) × (Int),(x.1,x.2)=Bp/\xr=(.int .i64 x.1)/\Kst h h' (Aa.L.set 1 (aB 76 b7 [Ab,(.int .i64 x.2)])))) trivial rfl ?_ fun Ce Cf Br=>?_
  ·refine cwf (l:=[_]) Tryz.func50 rfl rfl (ABi (ABp (ABm (ABm (AMh (Wk (AIh rfl (AHl ADv rfl (AB4 AEz rfl ((Aa.b p1).cell (i:=1) rfl) (Wk (AIh rfl (AHl AHt rfl (AB4 ANn rfl ((Aa.b p1).cell (i:=0) rfl) (ADr ANm rfl H2 (AMo rfl rfl (ABo (⟨_,rfl,fun Ak=>?_,fun Ak=>?_⟩)))))))))))))))))
   ·refine ABi (ABp (ABr (AB0 (⟨_,ABt,((0,Ah):(Int) × (Int)),?_,rfl,?_⟩))))
    ·exact ABk (AC1 Ax Ak)
    ·exact Aa
   ·refine ABs (q_t (ABi (Wk (AIh rfl (AHl ADv rfl (AB4 AEz rfl ((Aa.b p1).cell (i:=1) rfl) (ACy rfl rfl (AIh rfl (AHl ADv rfl (ATs [Ab,(.int .i64 (w64 (Ah + 1)))] AEz rfl rfl rfl (Aa.b p1) (Nat.le_of_ble_eq_true rfl) rfl fun Cg Bt Bu=>ABo (ABm (AMh (Wk (AIh rfl (AHl AHt rfl ?_)))))))))))))));have Ad:=Aa.sb p1 Bu Bt rfl;refine AB4 ANn rfl ((Ad.b p1).cell (i:=0) rfl) (Wk (AIh rfl (AHl ADv rfl (AB4 AEz rfl ((Ad.b p1).cell (i:=1) rfl) (AHd rfl rfl ?_)))));obtain ⟨Bv,Bw,Bx⟩:=ABl (AC2 Ax Ak);refine AIf (c:=(cI .i8)) ANm rfl H2 rfl Bw fun Ch Ci Cj By Bz=>?_;obtain rfl:=By;refine AB4 AV9 rfl (ABx (Bz 0 _ rfl) Ad.x) (ALu AWa AKp rfl (ABp (ABr (⟨_,ABt,(((w64 Bv),(w64 (Ah + 1))):(Int) × (Int)),?_,rfl,?_⟩))))
    ·exact ABk Bx
    ·exact Ad
  obtain ⟨⟨Ay,B1⟩,B2,rfl,Am⟩:=Br;refine ⟨trivial,?_⟩;subst B2;obtain ⟨Ck,Az,B3⟩:=ABl Bq;refine AOg ABv rfl (Am.o p0) rfl Az fun Cm B4=>AZl (AF6 ACr rfl rfl rfl) (Am.o p0) B4 Az (show ((cI .i64)).rep _ Ay _ from rfl) fun Cn B5 B6=>ACl (q_b (q_t (ABw (ACy rfl rfl (Wk (ABo ?_))))));obtain rfl:=ABk B3;exact ⟨Bo,(((w64 (Aw + 1)),B1,(sI Bl Aw Ay),Bm):(Int) × (Int) × (LiA) × LnA),Nat.lt_succ_self _,⟨Ai,(Am.uO p0 B6 B5)⟩,rfl,trivial⟩
 ·obtain rfl:=ABk (AC2 Ac Aj);change _=Av at Ai;subst Ai;refine ACb (AB9 (AB9 (ADj (q_t (ABi (Wk (ABp (ABr ?_))))))));obtain rfl:=ABk Bg;exact ⟨_,ABt,Aa.x,_,_,rfl,(Aa.o p0),Aa.s.sel [0] (by decide)⟩
noncomputable def ADd (fuel:Nat):Option Bool:=
  ((AMx fuel ([([1,0]:List Int),([0,1]:List Int)]:List LiA) 5).bind fun (Ab,Ac)=>((ANv fuel ([([1,0]:List Int),([0,1]:List Int)]:List LiA) 5 ([1,2]:List Int)).bind fun (Aa,Ad)=>((AK8 fuel ([([1,0,0]:List Int),([0,1,0]:List Int),([0,0,1]:List Int)]:List LiA) 3).bind fun (Ae,Af)=>(if Ac=0 then (if Ad=0 then (if Af=0 then ((AK6 fuel Ab ([([1,2]:List Int),([1,3]:List Int)]:List LiA)).bind fun Ag=>(if Ag=true then (if (Aa.length:Int)=2 then ((gI Aa 0).bind fun Ah=>(if Ah=11 then ((gI Aa 1).bind fun Ai=>(if Ai=2 then (some (decide (Ae=4))) else (some false))) else (some false))) else (some false)) else (some false))) else (some false)) else (some false)) else (some false)))))
theorem AEx {fuel:Nat} {h:ABh} {r:Bool} (HO:AT1 h) (hp:ADd fuel=some r):AB7 Tryz.prog 10 #[] h (fun x h'=>Ext h h'/\x= .bool r):=by
 unfold ADd at hp;refine cwf (l:=[]) Tryz.func10 rfl rfl (ABi (ACq (AP9 (κ:= .i64) [1,0] ABv AHg rfl rfl trivial tt2 rfl rfl rfl rfl fun b1 v2 h3 I4 E5 Bf Bg=>AP9 (κ:= .i64) [0,1] ABv AHg rfl rfl trivial tt2 rfl rfl rfl rfl fun Bh Bi Dv Bj Bl Bm Bn=>?_)));have Ac:=((Kst.k0 h).no E5 (AGu Bf Bg) I4).no Bl (AGu Bm Bn) Bj;have Au:=(((Ac.a0).grab p1).grab p0);refine ATg (c:=(cI .i64)) (el:=2) [[b1],[Bh]] [v2,Bi] [([1,0]:List Int),([0,1]:List Int)] AB2 AMl rfl rfl trivial tt2 rfl rfl rfl rfl (ANt (Ac.o p1).isOne (ANt (Ac.o p0).isOne AW8)) ⟨(Ac.o p1),(Ac.o p0),trivial⟩ (by simpa using Au.ndT) fun Dw Dx Dy Bo Bp Bq=>ACq (Wk ?_);have Ao:=Au.lit Bp Bo (by simpa using Bq);obtain ⟨⟨Dz,Br⟩,Bt,Av⟩:=ABl hp;dsimp only at Av;refine ACu rfl (AWp (Ao.o2 p0).rd (HO.ext Ao.x) Bt) fun D0 D1 Bu Bv=>?_;obtain ⟨D2,D3,D4,D5,rfl,Bw,Bx⟩:=Bv;refine Wk (ACz rfl rfl (ACz rfl rfl (ACd (ACq (Wk (AP9 (κ:= .i64) [1,2] ABv AHg rfl rfl trivial tt2 rfl rfl rfl rfl fun D6 D7 D8 By Bz B1 B2=>?_))))));have Ae:=(Ao.no2 Bu Bx Bw).no Bz (AGu B1 B2) By;obtain ⟨⟨B3,B4⟩,B5,Aw⟩:=ABl Av;dsimp only at Aw;refine ACu rfl (AYw (Ae.o2 p2).rd (Ae.o p0).rd (HO.ext Ae.x) B5) fun D9 Ea B6 B7=>?_;obtain ⟨Eb,Ec,rfl,B8,B9⟩:=B7;refine Wk (ACz rfl rfl (ACz rfl rfl (ACd (ACq (AP9 (κ:= .i64) [1,0,0] ABv AHg rfl rfl trivial tt2 rfl rfl rfl rfl fun Ca Cb Ed Cd Ce Cf Cg=>AP9 (κ:= .i64) [0,1,0] ABv AHg rfl rfl trivial tt2 rfl rfl rfl rfl fun Ch Ci Ee Cj Ck Cm Cn=>AP9 (κ:= .i64) [0,0,1] ABv AHg rfl rfl trivial tt2 rfl rfl rfl rfl fun Co Cp Ef Cq Cr Ct Cu=>?_)))));have Ab:=(((Ae.no B6 B9 B8).no Ce (AGu Cf Cg) Cd).no Ck (AGu Cm Cn) Cj).no Cr (AGu Ct Cu) Cq;have Ax:=((((Ab.a0).grab p2).grab p1).grab p0);refine ATg (c:=(cI .i64)) (el:=2) [[Ca],[Ch],[Co]] [Cb,Ci,Cp] [([1,0,0]:List Int),([0,1,0]:List Int),([0,0,1]:List Int)] AB2 AMl rfl rfl trivial tt2 rfl rfl rfl rfl (ANt (Ab.o p2).isOne (ANt (Ab.o p1).isOne (ANt (Ab.o p0).isOne AW8))) ⟨(Ab.o p2),(Ab.o p1),(Ab.o p0),trivial⟩ (by simpa using Ax.ndT) fun Eg Eh Ei Cv Cw Cx=>?_;have Ap:=Ax.lit Cw Cv (by simpa using Cx);obtain ⟨⟨Ej,Cy⟩,Cz,Aq⟩:=ABl Aw;dsimp only at Aq;refine ACu rfl (AU7 (Ap.o2 p0).rd (HO.ext Ap.x) Cz) fun Ek El C0 C1=>?_;subst C1;refine Wk (ACz rfl rfl (ACz rfl rfl (ACd (ACq (Wk (ADo rfl rfl (Wk ?_)))))));have Af:=Ap.e C0;by_cases Ag:Br=0
 ·have Ay:=ifT Aq Ag;rw [decide_eq_true Ag];refine ACk 32 true (Wk (ACk 32 true (ADo rfl rfl (ABy rfl (Wk ?_)))));by_cases Ah:B4=0
  ·have Az:=ifT Ay Ah;rw [decide_eq_true Ah];refine ACk 36 true (Wk (ACk 36 true (ADo rfl rfl (ABy rfl (Wk ?_)))));by_cases Ai:Cy=0
   ·rw [decide_eq_true Ai];refine ACk 40 true (Wk (ACk 40 true (AP9 (κ:= .i64) [1,2] ABv AHg rfl rfl trivial tt2 rfl rfl rfl rfl fun C2 C3 Em C4 C5 C6 C7=>ACk 40 true (AP9 (κ:= .i64) [1,3] ABv AHg rfl rfl trivial tt2 rfl rfl rfl rfl fun C8 C9 En Da Db Dc Dd=>ACk 40 true ?_))));have Ad:=(Af.no C5 (AGu C6 C7) C4).no Db (AGu Dc Dd) Da;have A3:=(((Ad.a0).grab p1).grab p0);refine ATg (c:=(cI .i64)) (el:=2) [[C2],[C8]] [C3,C9] [([1,2]:List Int),([1,3]:List Int)] AB2 AMl rfl rfl trivial tt2 rfl rfl rfl rfl (ANt (Ad.o p1).isOne (ANt (Ad.o p0).isOne AW8)) ⟨(Ad.o p1),(Ad.o p0),trivial⟩ (by simpa using A3.ndT) fun Eo Ep Er De Df Dg=>ACk 40 true ?_;have Ar:=A3.lit Df De (by simpa using Dg);obtain ⟨Dh,Di,A4⟩:=ABl (ifT Az Ai);refine ACu rfl (AQt (Ar.o2 p9).rd (Ar.o2 p0).rd Di) fun Es Et Dj Dk=>?_;subst Dk;refine ABy rfl (Wk ?_);have Aa:=Ar.e Dj;cases A5:Dh
    ·refine AJx 47 false (ABu rfl (Wk (AOf 52 false (ABu rfl (Wk (AOf 58 false (ABu rfl (Wk (AF9 64 false (ABu rfl (ABp (ABr ?_))))))))))));obtain rfl:=ABk (AIz A4 A5);exact ⟨_,ABt,Aa.x,rfl⟩
    ·refine ACk 47 true (Wk (ACk 47 true (ADr ABv rfl (Aa.o p7).rd (ACk 47 true (ADo rfl rfl (ABy rfl (Wk ?_)))))));have A6:=ifT A4 A5;by_cases Aj:(B3.length:Int)=2
     ·rw [decide_eq_true Aj];refine ACk 52 true (Wk (ACk 52 true ?_));obtain ⟨Dl,A7,A8⟩:=ABl (ifT A6 Aj);refine AOg ABv rfl (Aa.o p7) rfl A7 fun Eu Dn=>ACk 52 true ?_;obtain ⟨Ev,Do,Dp⟩:=(Aa.o p7).cells Dn A7;obtain rfl:=Do;refine AB4 ACr rfl (Dp 0 _ rfl) (ACk 52 true (ADo rfl rfl (ABy rfl (Wk ?_))));by_cases Ak:Dl=11
      ·rw [decide_eq_true Ak];refine ACk 58 true (Wk (ACk 58 true ?_));obtain ⟨Dq,A9,Ba⟩:=ABl (ifT A8 Ak);refine AOg ABv rfl (Aa.o p7) rfl A9 fun Ew Dr=>ACk 58 true ?_;obtain ⟨Ey,Ds,Dt⟩:=(Aa.o p7).cells Dr A9;obtain rfl:=Ds;refine AB4 ACr rfl (Dt 0 _ rfl) (ACk 58 true (ADo rfl rfl (ABy rfl (Wk ?_))));by_cases Am:Dq=2
       ·rw [decide_eq_true Am];refine ACk 64 true (Wk (ACk 64 true (ADo rfl rfl (ABy rfl (ABp (ABr ?_))))));obtain rfl:=ABk (ifT Ba Am);exact ⟨_,ABt,Aa.x,rfl⟩
       ·rw [decide_eq_false Am];refine AF9 64 false (ABu rfl (ABp (ABr ?_)));obtain rfl:=ABk (ifF Ba Am);exact ⟨_,ABt,Aa.x,rfl⟩
      ·rw [decide_eq_false Ak];refine AOf 58 false (ABu rfl (Wk (AF9 64 false (ABu rfl (ABp (ABr ?_))))));obtain rfl:=ABk (ifF A8 Ak);exact ⟨_,ABt,Aa.x,rfl⟩
     ·rw [decide_eq_false Aj];refine AOf 52 false (ABu rfl (Wk (AOf 58 false (ABu rfl (Wk (AF9 64 false (ABu rfl (ABp (ABr ?_)))))))));obtain rfl:=ABk (ifF A6 Aj);exact ⟨_,ABt,Aa.x,rfl⟩
   ·rw [decide_eq_false Ai];refine ALh 40 false (ABu rfl (Wk (AJx 47 false (ABu rfl (Wk (AOf 52 false (ABu rfl (Wk (AOf 58 false (ABu rfl (Wk (AF9 64 false (ABu rfl (ABp (ABr ?_)))))))))))))));obtain rfl:=ABk (ifF Az Ai);exact ⟨_,ABt,Af.x,rfl⟩
  ·rw [decide_eq_false Ah];refine AF9 36 false (ABu rfl (Wk (ALh 40 false (ABu rfl (Wk (AJx 47 false (ABu rfl (Wk (AOf 52 false (ABu rfl (Wk (AOf 58 false (ABu rfl (Wk (AF9 64 false (ABu rfl (ABp (ABr ?_))))))))))))))))));obtain rfl:=ABk (ifF Ay Ah);exact ⟨_,ABt,Af.x,rfl⟩
 ·rw [decide_eq_false Ag];refine AF9 32 false (ABu rfl (Wk (AF9 36 false (ABu rfl (Wk (ALh 40 false (ABu rfl (Wk (AJx 47 false (ABu rfl (Wk (AOf 52 false (ABu rfl (Wk (AOf 58 false (ABu rfl (Wk (AF9 64 false (ABu rfl (ABp (ABr ?_)))))))))))))))))))));obtain rfl:=ABk (ifF Aq Ag);exact ⟨_,ABt,Af.x,rfl⟩
def AG5 (fuel:Nat) (a3:LiI) (Aa:Int):Option ((Int) ⊕ ((Bool) ⊕ (Unit))):=
  (if Aa < (a3.length:Int) then ((gI a3 Aa).bind fun Ac=>(if 12 < (Ac.length:Int) then (some (Sum.inr<| Sum.inl <| true)) else (some (Sum.inl (w64 (Aa + 1)))))) else (some (Sum.inr<| Sum.inr <| ())))
def AGr (fuel:Nat) (a3:LiI):Option Bool:=
  (if 12 < (a3.length:Int) then (some true) else ((iter (fun s=>AG5 fuel a3 s) fuel 0).bind (fun ex=>match ex with | Sum.inl Ab=>(some Ab) | Sum.inr (_)=>(some false))))
theorem AQh {fuel:Nat} {h:ABh} {Aj:Value} {a3:LiI} {r:Bool} (H2:AFl (cI .i64) h Aj a3) (hp:AGr fuel a3=some r):AB7 Tryz.prog 9 #[Aj] h (fun x h'=>Ext h h'/\x= .bool r):=by
 unfold AGr at hp;refine cwf (l:=[_]) Tryz.func9 rfl rfl (ABi (ABp (ABm (ABi (Wk (ADg AB2 rfl H2 (AIm rfl rfl (ABo ?_))))))));have K0:=Kst.k0 h;refine ⟨_,rfl,fun Af=>?_,fun Af=>?_⟩
 ·refine ABi (ABp (ABr (AB0 ?_)));obtain rfl:=ABk (AC1 hp Af);exact ⟨_,ABt,K0.x,rfl⟩
 ·refine ABs (q_t (ABm (ABi (Wk (ADg AB2 rfl H2 (Wk (ABo (ABq ?_))))))));obtain ⟨Ag,Ap,Am⟩:=ABl (AC2 hp Af);obtain ⟨Aq,Ar,Au⟩:=ACg Ap;refine ACi 261140 (fun x:(Int)=>[(10,(.int .i64 x))]) (fun k x h'=>iter Aq k x=some Ag/\Kst h h' (K0.L)) (by kernel_rfl) fuel (0:(Int)) ?_ ⟨rfl,trivial⟩ ?_
  ·exact ⟨Au,K0⟩
  rintro A4 Av A5 A6 ⟨Aw,Ac⟩;obtain ⟨Ax,A7,rfl,Aa,Ab⟩:=AB3 Aw;rw [Ar] at Aa;dsimp only at Aa;unfold AG5 at Aa;refine ABi (ACx rfl rfl (ABo (ABm (⟨_,rfl,fun Ah=>?_,fun Ah=>?_⟩))))
  ·refine ABs (q_t (ABm (ABq (ABi ?_))));obtain ⟨A8,Ay,Ao⟩:=ABl (AC1 Aa Ah);refine AIj AB2 rfl H2 rfl Ay fun A9 Ba Bb Az A3=>AB4 ACn rfl (ABx Az Ac.x) (ACq (Wk (ADr ABv rfl A3 (AIm rfl rfl (ABo (⟨_,rfl,fun Ai=>?_,fun Ai=>?_⟩))))))
   ·refine ABi (ABp ?_);obtain rfl:=ABk (AC1 Ao Ai);change _=Ag at Ab;subst Ab;refine ABr (ADn (AB0 (AB0 (ADn (AB0 ?_)))));obtain rfl:=ABk Am;exact ⟨_,ABt,Ac.x,rfl⟩
   ·refine ABs (q_b (q_t (ABw (ACy rfl rfl (Wk (ABo ?_))))));obtain rfl:=ABk (AC2 Ao Ai);exact ⟨Ax,((w64 (Av + 1)):(Int)),Nat.lt_succ_self _,⟨Ab,Ac⟩,rfl,trivial⟩
  ·obtain rfl:=ABk (AC2 Aa Ah);change _=Ag at Ab;subst Ab;refine ACb (AB9 (AB9 (ADj (q_t (ABi (ABp (ABr ?_)))))));obtain rfl:=ABk Am;exact ⟨_,ABt,Ac.x,rfl⟩
def AGs (fuel:Nat) (a1 a2:Int) (a3:Bool):Option Int:=
  (if a3=true then (some a2) else ((AIt fuel a1).bind fun x7=>(some x7)))
theorem AQi {fuel:Nat} {h:ABh} {a1 a2:Int} {a3:Bool} {r:Int} (hp:AGs fuel a1 a2 a3=some r):AB7 Tryz.prog 11 #[(.int .u8 a1),(.int .i64 a2),(.bool a3)] h (fun x h'=>Ext h h'/\x= .int .i64 r):=by
 unfold AGs at hp;refine cwf (l:=[_,_,_]) Tryz.func11 rfl rfl (ABi (ABp (ABm (ABi (Wk (ABo ?_))))));have K0:=Kst.k0 h;refine ⟨_,rfl,fun Aa=>?_,fun Aa=>?_⟩
 ·refine ABi (Wk (ABp (ABr (AB0 ?_))));obtain rfl:=ABk (ifT hp Aa);exact ⟨_,ABt,K0.x,rfl⟩
 ·refine ABs (q_t (ABi (Wk ?_)));obtain ⟨x8,Af,Ag⟩:=ABl (AIz hp Aa);refine ACu rfl (AQd Af) fun Ak Am Ah Ai=>?_;subst Ai;refine ABp (ABr ?_);obtain rfl:=ABk Ag;exact ⟨_,ABt,(K0.e Ah).x,rfl⟩
end Go.Proofs.YtiegjkmfpcgjjaaGreatDoor
namespace Go.Proofs.YtiegjkmfpcgjjaaGreatDoor
open Go Go.QF
set_option maxRecDepth 100000
theorem Apy {fuel:Nat} {x p r:Int} (hp:2<=p/\p<=2147483647) (h:AKu p (x % p) r):AU6 fuel [[x]] p=some ([[r]],0):=by
 have hs:AH4 [[x]]=true:=decide_eq_true (by simp [AVh,Valid,AKz]);have hm:APf p=true:=decide_eq_true hp
 have hd:AY9 [[x]] p=x % p:=by
   unfold AY9
   rw [hs,hm]
   simp only [Bool.and_self,if_true]
   have:det [[x]].length (ent [[x]])=x:=by
     show det 1 (ent [[x]])=x
     simp [det,ent,psum,sg]
   rw [this]
 unfold AU6 AYu Af8;rw [hs,hm,hd,if_pos ⟨rfl,rfl,r,h⟩,if_pos rfl,if_pos rfl,if_pos ⟨r,h⟩,Agb h]
 have:ALs [[x]].length (ent (ALo [[x]] p)) 0 0=1:=by
   show ALs 1 _ 0 0=1
   simp [ALs,AUy,det,psum,sg,ADe,dl]
 have h3:tab [[x]].length [[x]].length (fun i j=>ALs [[x]].length (ent (ALo [[x]] p)) i j * r % p)=[[r]]:=by
   show tab 1 1 (fun i j=>ALs 1 (ent (ALo [[x]] p)) i j * r % p)=[[r]]
   have h4:ALs 1 (ent (ALo [[x]] p)) 0 0 * r % p=r:=by
     rw [show ALs 1 (ent (ALo [[x]] p)) 0 0=1 from this,Int.one_mul]
     exact Int.emod_eq_of_lt h.1 h.2.1
   simp [tab,h4]
 rw [h3]
theorem Atw:Pr 3:=⟨by omega,fun d h1 h2=>by
  obtain rfl:d=2:=by omega
  decide⟩
theorem Atx:Pr 5:=⟨by omega,fun d h1 h2=>by
  rcases (by omega:d=2∨d=3∨d=4) with rfl | rfl | rfl <;> decide⟩
theorem Ana (lim:Bool):ASv [[1,0],[0,1]] 5 lim=0:=by
 have hr:isRed [[1,0],[0,1]]=true:=by
   unfold isRed
   rw [<- AGh (M:=[[1,0],[0,1]]) ⟨by decide,by decide,fun i j hi hj=>by
     have hi:i < 2:=hi
     have hj:j < 2:=hj
     rcases (by omega:i=0∨i=1) with rfl | rfl <;> rcases (by omega:j=0∨j=1) with rfl | rfl <;> decide⟩]
   decide +kernel
 have ho:ARs 5=true:=(AVz ⟨by omega,by omega,Atx⟩).symm;unfold ASv;rw [if_pos hr,if_pos ⟨ho,by decide +kernel⟩,if_neg (fun h=>absurd h.2 (by decide))]
theorem Asb (lim:Bool):ASv [[1,0,0],[0,1,0],[0,0,1]] 3 lim=0:=by
 have hr:isRed [[1,0,0],[0,1,0],[0,0,1]]=true:=by
   unfold isRed
   rw [<- AGh (M:=[[1,0,0],[0,1,0],[0,0,1]]) ⟨by decide,by decide,fun i j hi hj=>by
     have hi:i < 3:=hi
     have hj:j < 3:=hj
     rcases (by omega:i=0∨i=1∨i=2) with rfl | rfl | rfl <;> rcases (by omega:j=0∨j=1∨j=2) with rfl | rfl | rfl <;> decide⟩]
   decide +kernel
 have ho:ARs 3=true:=(AVz ⟨by omega,by omega,Atw⟩).symm;unfold ASv;rw [if_pos hr,if_pos ⟨ho,by decide +kernel⟩,if_neg (fun h=>absurd h.2 (by decide))]
theorem Anb {S E:Type} {body:S->Option (S ⊕ E)} {fuel:Nat} {s:S} {e:E} (h:body s=some (.inr e)):iter body (fuel + 1) s=some e:=by simp [iter,h]
theorem Aty:AMx (AEr + 1) [[1,0],[0,1]] 5=some ([[1,2],[1,3]],0):=by
 have hf:2147483648 < AEr + 1:=Nat.lt_of_le_of_lt (by decide) (Nat.lt_succ_self AEr);unfold AMx;rw [Ah1 hf,Ana];simp only [Option.bind_some];rw [if_neg (by decide)];decide +kernel
theorem Atz:AK8 (AEr + 1) [[1,0,0],[0,1,0],[0,0,1]] 3=some (4,0):=by
 have hf:2147483648 < AEr + 1:=Nat.lt_of_le_of_lt (by decide) (Nat.lt_succ_self AEr);unfold AK8;rw [Ah1 hf,Asb];simp only [Option.bind_some];rw [if_neg (by decide)];decide +kernel
theorem At0:ANv (AEr + 1) [[1,0],[0,1]] 5 [1,2]=some ([11,2],0):=by
 have hf:2147483648 < AEr + 1:=Nat.lt_of_le_of_lt (by decide) (Nat.lt_succ_self AEr);unfold ANv;have h1:AJh (AEr + 1) [[1,0],[0,1]] 5 [1,2]=some true:=by decide +kernel
 have h2:AE9 (AEr + 1) [[1,0],[0,1]] (w64 (5 * 5))=some ([[1,0],[0,1]],0):=by decide +kernel
 have h3:AK7 (AEr + 1) [1,2]=some [1,2]:=by decide +kernel
 rw [AYx hf,Ana];simp only [Option.bind_some];rw [if_neg (by decide),h1];simp only [Option.bind_some];rw [if_neg (by decide),h2];simp only [Option.bind_some];rw [h3];simp only [Option.bind_some]
 have hb:AMw (AEr + 1) 5 [1,2] [[1,0],[0,1]] 0 [1,2]=some (.inr [11,2]):=by
   unfold AMw
   have g1:gI [[1,0],[0,1]] (0:Int)=some ([1,0]:List Int):=rfl
   have g2:AJc (AEr + 1) [1,0] [1,2] 5=some 1:=by decide +kernel
   have g3:AU6 (AEr + 1) [[w64 (2 * 1)]] 5=some ([[3]],0):=Apy (by omega) ⟨by omega,by omega,by decide⟩
   rw [if_pos (by decide),g1]
   simp only [Option.bind_some]
   rw [g2]
   simp only [Option.bind_some]
   rw [if_neg (by decide),g3]
   simp only [Option.bind_some]
   decide +kernel
 rw [Anb hb];rfl
theorem Abt:ADd (AEr + 1)=some true:=by
 unfold ADd;rw [Aty];simp only [Option.bind_some];rw [At0];simp only [Option.bind_some];rw [Atz];simp only [Option.bind_some];decide +kernel
def nqI (n:Nat) (A:Nat->Nat->Int) (v:Nat->Int) (i:Nat):Int:=psum (fun j=>A i j * v j) n
def nq (n:Nat) (A:Nat->Nat->Int) (v:Nat->Int) (m:Int):Int:=psum (fun i=>nqI n A v i * v i) n % m
theorem AW9 {g:Nat->Int} {B:Int}:∀ {n:Nat},(∀ i,i < n->0<=g i/\g i<=B)->0<=psum g n/\psum g n<=n * B:=by
 intro n
 induction n with
 | zero=>intro _;simp [psum]
 | succ n ih=>
   intro h
   have h1:=ih fun i hi=>h i (by omega)
   have h2:=h n (by omega)
   show 0<=psum g n + g n/\psum g n + g n<=((n + 1:Nat):Int) * B
   rw [Int.natCast_add,Int.add_mul]
   omega
theorem Apz {fuel n:Nat} {f v:Nat->Int} {m:Int} (hn:n<=8) (hm:2<=m) (Ac:m<=100000000) (hF:∀ i,i < n->0<=f i/\f i < 100000000) (hv:∀ i,i < n->0<=v i/\v i < 10000) (hf:100 < fuel):AJc fuel (AD6 n f) (AD6 n v) m=some (psum (fun i=>f i * v i) n % m):=by
 have hb:∀ i,i < n->0<=f i * v i/\f i * v i<=1000000000000:=fun i hi=>⟨Int.mul_nonneg (hF i hi).1 (hv i hi).1,by
   have:=Int.mul_le_mul (show f i<=100000000 by have:=hF i hi;omega) (show v i<=10000 by have:=hv i hi;omega) (hv i hi).1 (by omega)
   omega⟩
 apply ok_eq;unfold AJc;refine ABn (Q:=fun e=>e=psum (fun i=>f i * v i) n) (AC0 (fun i s=>s=(psum (fun i=>f i * v i) i,(i:Int))/\i<=n) n ⟨rfl,Nat.zero_le _⟩ (by omega) fun i s hi hI=>?_) fun e he=>?_
 ·obtain ⟨rfl,h1⟩:=hI;unfold AOc;rw [ADb];refine AB5 (fun h=>?_) fun h=>ABj ?_
  ·have Aa:i < n:=by omega
   have h3:=hb i Aa;have h4:=AW9 (n:=i) fun a ha=>hb a (by omega);refine ACa (ACo Aa) rfl (ACa (ACo Aa) rfl (ABj ⟨by omega,?_,by omega⟩));rw [AGd (x:=f i * v i) (by omega) (by omega),AGd (x:=psum (fun i=>f i * v i) i + f i * v i) (by omega) (by omega),AGo (by omega)];rfl
  ·obtain rfl:i=n:=by omega
   rfl
 ·subst he;have h4:=AW9 (n:=n) hb;exact AEo (by omega) (ABj (Int.tmod_eq_emod_of_nonneg h4.1))
theorem Ap0 {fuel n:Nat} {A:Nat->Nat->Int} {v:Nat->Int} {m:Int} (hn:n<=8) (hm:2<=m) (Ad:m<=100000000) (hv:∀ i,i < n->0<=v i/\v i < 10000) (hf:100 < fuel):AJy fuel (tab n n fun i j=>A i j % m) (AD6 n v) m=some (nq n A v m):=by
 have hin:∀ i,i < n->AJc fuel (AD6 n fun j=>A i j % m) (AD6 n v) m=some (nqI n A v i % m):=fun i hi=>by
   rw [Apz hn hm Ad (fun j _=>⟨Int.emod_nonneg _ (by omega),by have:=Int.emod_lt_of_pos (A i j) (show 0 < m by omega);omega⟩) hv hf]
   exact congrArg some (Eqm.psum fun j _=>(Eqm.mod m (A i j)).mul (Eqm.refl m (v j)))
 have hb:∀ i,i < n->0<=nqI n A v i % m * v i/\nqI n A v i % m * v i<=1000000000000:=fun i hi=>by
   have h1:=Int.emod_nonneg (nqI n A v i) (show m≠0 by omega)
   have h2:=Int.emod_lt_of_pos (nqI n A v i) (show 0 < m by omega)
   refine ⟨Int.mul_nonneg h1 (hv i hi).1,?_⟩
   have:=Int.mul_le_mul (show nqI n A v i % m<=100000000 by omega) (show v i<=10000 by have:=hv i hi;omega) (hv i hi).1 (by omega)
   omega
 apply ok_eq;unfold AJy;refine ABn (Q:=fun e=>e=psum (fun i=>nqI n A v i % m * v i) n) (AC0 (fun i s=>s=(psum (fun i=>nqI n A v i % m * v i) i,(i:Int))/\i<=n) n ⟨rfl,Nat.zero_le _⟩ (by omega) fun i s hi hI=>?_) fun e he=>?_
 ·obtain ⟨rfl,h1⟩:=hI;unfold APd;rw [ADb];refine AB5 (fun h=>?_) fun h=>ABj ?_
  ·have Aa:i < n:=by omega
   have h3:=hb i Aa;have h4:=AW9 (n:=i) fun a ha=>hb a (by omega);refine ACa (ACo Aa) rfl (ACa (ADc Aa) rfl ?_);rw [hin i Aa];simp only [Option.bind_some];refine ABj ⟨by omega,?_,by omega⟩;rw [AGd (x:=nqI n A v i % m * v i) (by omega) (by omega),AGd (x:=psum (fun i=>nqI n A v i % m * v i) i + nqI n A v i % m * v i) (by omega) (by omega),AGo (by omega)];rfl
  ·obtain rfl:i=n:=by omega
   rfl
 ·subst he;have h4:=AW9 (n:=n) hb;refine AEo (by omega) (ABj ?_);rw [Int.tmod_eq_emod_of_nonneg h4.1];exact Eqm.psum fun i _=>(Eqm.mod m _).mul (Eqm.refl m (v i))
theorem Aed {m S a b:Int} (hm:0 < m) (Ad:m<=100000000):Int.tmod (w64 (S % m + Int.tmod (w64 (a % m * (b % m))) m)) m=(S + a * b) % m:=by
 have h1:=Int.emod_nonneg a (show m≠0 by omega);have h2:=Int.emod_lt_of_pos a hm;have h3:=Int.emod_nonneg b (show m≠0 by omega);have h4:=Int.emod_lt_of_pos b hm;have h5:=Int.emod_nonneg S (show m≠0 by omega);have h6:=Int.emod_lt_of_pos S hm;have h7:=Int.mul_nonneg h1 h3;have h8:=Int.mul_le_mul (show a % m<=100000000 by omega) (show b % m<=100000000 by omega) h3 (by omega);rw [AGd (x:=a % m * (b % m)) (by omega) (by omega),Int.tmod_eq_emod_of_nonneg h7];have h9:=Int.emod_nonneg (a % m * (b % m)) (show m≠0 by omega);have Ak:=Int.emod_lt_of_pos (a % m * (b % m)) hm;rw [wk (by omega),Int.tmod_eq_emod_of_nonneg (by omega)];exact (Eqm.mod m S).add ((Eqm.mod m _).trans ((Eqm.mod m a).mul (Eqm.mod m b)))
theorem Ap1 {fuel n:Nat} {A:Nat->Nat->Int} {v:Nat->Int} {m:Int} (hn:n<=8) (hm:0 < m) (Ab:m<=100000000) (hf:100 < fuel):AGp fuel (tab n n A) (AD6 n v) m=some (AD6 n fun i=>nqI n A v i % m):=by
 unfold AGp;rw [Apx (n:=n) (fun i=>nqI n A v i % m) (by omega) (fun i hi=>?_) fun X=>?_]
 ·rfl
 ·unfold AG4;rw [ADa,if_pos (by omega),AQe (ADc hi)]
  have:iter (fun s:Int × Int=>AG3 fuel (AD6 n v) m (AD6 n (A i)) s.1 s.2) fuel (0,0)=some (nqI n A v i % m):=by
    apply ok_eq
    refine AC0 (fun j s=>s=(psum (fun j=>A i j * v j) j % m,(j:Int))/\j<=n) n ⟨by simp [psum],Nat.zero_le _⟩ (by omega) fun j s hj hI=>?_
    obtain ⟨rfl,h1⟩:=hI
    unfold AG3
    rw [ADb]
    refine AB5 (fun h=>?_) fun h=>ABj ?_
    · have Aa:j < n:=by omega
      refine ACa (ACo Aa) rfl ?_
      rw [Afu hm (by omega)]
      simp only [Option.bind_some]
      refine ACa (ACo Aa) rfl ?_
      rw [Afu hm (by omega)]
      simp only [Option.bind_some]
      rw [if_pos (by omega),if_pos (by omega)]
      refine ABj ⟨by omega,?_,by omega⟩
      rw [Aed hm Ab,AGo (by omega)]
      rfl
    · obtain rfl:j=n:=by omega
      rfl
  rw [this];simp only [Option.bind_some];rw [ADb,if_pos (by omega),AGo (by omega)]
 ·unfold AG4;rw [ADa,if_neg (by omega)]
theorem Ap2 {fuel n:Nat} {A:Nat->Nat->Int} {v:Nat->Int} {m:Int} (hn:n<=8) (hm:0 < m) (Aa:m<=100000000) (hf:100 < fuel):AF4 fuel (tab n n A) (AD6 n v) m=some (nq n A v m):=by
 apply ok_eq;unfold AF4;rw [Ap1 hn hm Aa hf];simp only [Option.bind_some];refine ABn (Q:=fun e=>e=nq n A v m) (AC0 (fun j s=>s=(psum (fun i=>nqI n A v i * v i) j % m,(j:Int))/\j<=n) n ⟨by simp [psum],Nat.zero_le _⟩ (by omega) fun j s hj hI=>?_) fun e he=>ABj he;obtain ⟨rfl,h1⟩:=hI;unfold AJw;rw [ADb];refine AB5 (fun h=>?_) fun h=>ABj ?_
 ·have Ab:j < n:=by omega
  refine ACa (ACo Ab) rfl (ACa (ACo Ab) rfl ?_);rw [Afu hm (by omega)];simp only [Option.bind_some];rw [if_pos (by omega),if_pos (by omega)];refine ABj ⟨by omega,?_,by omega⟩;rw [Aed hm Aa,AGo (by omega)];rfl
 ·obtain rfl:j=n:=by omega
  rfl
def InR (p:Int) (V:List Int):Prop:= ∀ x∈V,0<=x/\x < p
def ASw:List Int->Int
  | []=>0
  | x :: L=>if x=0 then ASw L else x
theorem AV5 (x:Int):∀ L:List Int,ASw (L ++ [x])=if ASw L=0 then x else ASw L
  | []=>by by_cases h:x=0 <;> simp [ASw,h]
  | y :: L=>by
    have ih:=AV5 x L
    show (if y=0 then ASw (L ++ [x]) else y)=if (if y=0 then ASw L else y)=0 then x else (if y=0 then ASw L else y)
    by_cases h:y=0
    · simp only [if_pos h,ih]
    · simp only [if_neg h]
theorem Aee {body:Int × Int->Option ((Int × Int) ⊕ (Bool ⊕ Int))} {fuel:Nat} {V:List Int} {p:Int} (hl:V.length<=90) (hf:100 < fuel) (hb:∀ a b,body (a,b)=if b < (V.length:Int) then ((gI V b).bind fun x=>(((if x < 0 then some (.inl false) else (if p<=x then some (.inl false) else some (.inr ()))):Option (Bool ⊕ Unit)).bind fun ex=>match ex with | .inl e=>some (.inr (.inl e)) | .inr _=>(if a=0 then some (.inl (x,w64 (b + 1))) else some (.inl (a,w64 (b + 1)))))) else some (.inr (.inr a))):
    Ok (iter body fuel (0,0)) fun ex=>(ex= .inl false/\¬ InR p V)∨(ex= .inr (ASw V)/\InR p V):=by
 refine AC0 (fun i s=>s=(ASw (V.take i),(i:Int))/\i<=V.length/\InR p (V.take i)) V.length ⟨rfl,Nat.zero_le _,fun x hx=>by simp at hx⟩ (by omega) fun i s hi hI=>?_;obtain ⟨rfl,h1,h2⟩:=hI;rw [hb];refine AB5 (fun h=>?_) fun h=>ABj ?_
 ·have Ac:i < V.length:=by omega
  have hx:V[i]? =some V[i]:=List.getElem?_eq_getElem Ac;have ht:V.take (i + 1)=V.take i ++ [V[i]]:=(List.take_append_getElem Ac).symm;refine ACa hx rfl ?_;generalize V[i]=x at hx ht;have hw:w64 ((i:Int) + 1)=((i + 1:Nat):Int):=AGo (by omega);by_cases h3:0<=x/\x < p
  ·rw [if_neg (by omega),if_neg (by omega)];simp only [Option.bind_some]
   have hr:InR p (V.take (i + 1)):=fun y hy=>by
     rw [ht,List.mem_append,List.mem_singleton] at hy
     rcases hy with hy | rfl
     · exact h2 y hy
     · exact h3
   refine AB5 (fun h4=>ABj ⟨by omega,?_,by omega,hr⟩) fun h4=>ABj ⟨by omega,?_,by omega,hr⟩
   ·rw [ht,AV5,if_pos h4,hw]
   ·rw [ht,AV5,if_neg h4,hw]
  ·have hno: ¬ InR p V:=fun hh=>h3 (hh x (List.mem_of_getElem? hx));by_cases h4:x < 0
   ·rw [if_pos h4];exact ABj (.inl ⟨rfl,hno⟩)
   ·rw [if_neg h4,if_pos (by omega)];exact ABj (.inl ⟨rfl,hno⟩)
 ·obtain rfl:i=V.length:=by omega
  rw [List.take_length] at h2 ⊢;exact .inr ⟨rfl,h2⟩
def vF (V:List Int) (i:Nat):Int:=V[i]?.getD 0
theorem Ah2 (V:List Int):AD6 V.length (vF V)=V:=by
 refine List.ext_getElem (by rw [ADb]) fun i h1 h2=>?_;have:=ACo (f:=vF V) h2;rw [List.getElem?_eq_getElem h1] at this;injection this with this;rw [this];simp [vF,h2]
theorem Ati {p:Int} {V:List Int} (h:InR p V) {i:Nat} (hi:i < V.length):0<=vF V i/\vF V i < p:=h _ (by simp [vF,hi])
def Ase (M:List (List Int)) (p:Int) (V:List Int):Prop:=V.length=M.length/\InR p V/\ASw V=1/\nq M.length (ent M) (vF V) p=0
open Classical in
noncomputable def Ajh (M:List (List Int)) (p:Int) (V:List Int):Bool:=decide (Ase M p V)
theorem Anc {M:List (List Int)} {p:Int} {V:List Int} (h:Ase M p V):true=Ajh M p V:=by simp [Ajh,h]
theorem ASx {M:List (List Int)} {p:Int} {V:List Int} (h: ¬ Ase M p V):false=Ajh M p V:=by simp [Ajh,h]
theorem Asf {fuel:Nat} {M:List (List Int)} {m:Int} (R:AV4 M) (hm:2<=m) (Aa:m<=2147483647) (hf:100 < fuel):AE9 fuel M m=some (tab M.length M.length fun i j=>ent M i j % m,0):=by
 have hM:=AU4 R;unfold AE9 AEp;have h1:AHq fuel M=some true:=by rw [hM];exact Aea R.1.1 R.1.2 hf
 have h2:AFy fuel M m=some (tab M.length M.length fun i j=>ent M i j % m):=by
   conv=>lhs;rw [hM]
   exact Am4 R.1.2 hm Aa hf
 rw [h1];simp only [Option.bind_some];rw [if_neg (by decide),if_neg (by omega),if_neg (by omega)];simp only [Option.bind_some];rw [if_neg (by decide),h2];rfl
theorem Ane {fuel:Nat} {M:List (List Int)} {p:Int} {V:List Int} (R:AV4 M) (hp:3<=p) (Ad:p<=9973) (hf:100 < fuel):AJh fuel M p V=some (Ajh M p V):=by
 apply ok_eq;unfold AJh;have h8:=R.1.2;refine AB5 (fun h=>ABj (ASx fun hh=>h (by rw [hh.1]))) fun h=>?_;have hl:V.length=M.length:=by omega
 refine ABn (Aee (V:=V) (p:=p) (by omega) hf fun a b=>rfl) fun ex hex=>?_;rcases hex with ⟨rfl,hn⟩ | ⟨rfl,hr⟩
 ·exact ABj (ASx fun hh=>hn hh.2.1)
 ·dsimp only;rw [Asf R (by omega) (by omega) hf];simp only [Option.bind_some];refine AB5 (fun h1=>?_) fun h1=>ABj (ASx fun hh=>h1 hh.2.2.1);have hV:V=AD6 M.length (vF V):=by rw [<- hl];exact (Ah2 V).symm
  have hn:AJy fuel (tab M.length M.length fun i j=>ent M i j % p) V p=some (nq M.length (ent M) (vF V) p):=by
    conv=>lhs;rw [hV]
    exact Ap0 h8 (by omega) (by omega) (fun i hi=>by have:=Ati hr (i:=i) (by omega);omega) hf
  rw [hn];simp only [Option.bind_some];refine ABj ?_;by_cases h0:nq M.length (ent M) (vF V) p=0
  ·rw [decide_eq_true h0];exact Anc ⟨hl,hr,h1,h0⟩
  ·rw [decide_eq_false h0];exact ASx fun hh=>h0 hh.2.2.2
theorem Abu {fuel:Nat} {M:List (List Int)} {p:Int} {V:List Int} (R:AV4 M) (hp:3<=p) (Ad:p<=9973) (hf:100 < fuel):AFa fuel M p V=some (Ajh M p V):=by
 apply ok_eq;unfold AFa;have h8:=R.1.2;refine AB5 (fun h=>ABj (ASx fun hh=>h (by rw [hh.1]))) fun h=>?_;have hl:V.length=M.length:=by omega
 refine ABn (Aee (V:=V) (p:=p) (by omega) hf fun a b=>rfl) fun ex hex=>?_;rcases hex with ⟨rfl,hn⟩ | ⟨rfl,hr⟩
 ·exact ABj (ASx fun hh=>hn hh.2.1)
 ·dsimp only;refine AB5 (fun h1=>?_) fun h1=>ABj (ASx fun hh=>h1 hh.2.2.1);have hV:V=AD6 M.length (vF V):=by rw [<- hl];exact (Ah2 V).symm
  have hn:AF4 fuel M V p=some (nq M.length (ent M) (vF V) p):=by
    conv=>lhs;rw [hV,AU4 R]
    rw [ADa]
    exact Ap2 h8 (by omega) (by omega) hf
  rw [hn];simp only [Option.bind_some];refine ABj ?_;by_cases h0:nq M.length (ent M) (vF V) p=0
  ·rw [decide_eq_true h0];exact Anc ⟨hl,hr,h1,h0⟩
  ·rw [decide_eq_false h0];exact ASx fun hh=>h0 hh.2.2.2
open Classical in
theorem Anf {fuel:Nat} {M:List (List Int)} {p:Int} (R:AV4 M) (hf:100 < fuel):Ok (AHa fuel M p) fun b=>b=true↔ARs p=true/\det M.length (ent M) % p≠0:=by
  unfold AHa Abf;simp only [Option.bind_some];refine AB5 (fun h=>?_) fun h=>ABj ⟨fun hh=>(by cases hh),fun hh=>absurd hh.1 h⟩;have hb:=AU8 h;have hd:=Ad9 R;rw [Aje R hf];simp only [Option.bind_some];refine AEo (by omega) (ABj ?_);rw [decide_eq_true_iff,Int.tmod_eq_emod_of_nonneg (by omega)];exact ⟨fun hh=>⟨h,hh⟩,fun hh=>hh.2⟩
theorem Ang {fuel n:Nat} {p:Int} (hp:2<=p) (Aa:p<=9973) (hn:n<=16) (hf:100 < fuel):AGe fuel (n:Int) p=some (decide (p ^ n<=65536)):=by
 apply ok_eq;unfold AGe;refine ABn (Aec (n:=n) (x:=false) hp Aa hn hf fun a b=>rfl) fun ex hex=>?_;rcases hex with ⟨rfl,h⟩ | ⟨rfl,h⟩
 ·exact ABj (decide_eq_false (by omega)).symm
 ·exact ABj (decide_eq_true h).symm
theorem Anh {fuel:Nat} {M:List (List Int)} {p:Int} {lim:Bool} (hM:Ad5 M) (hf:100 < fuel):AGf fuel M p lim=some (ASv M p lim):=by
 apply ok_eq;unfold AGf ASv;rw [Af5 hM hf];simp only [Option.bind_some]
 cases hr:isRed M with
 | false=>exact ABj (by simp)
 | true=>
   have R:=(AQx M).1 hr
   rw [if_neg (by decide),if_pos rfl]
   refine ABn (Anf (p:=p) R hf) fun b hb=>?_
   refine AB5 (fun h=>ABj ?_) fun h=>?_
   · rw [if_neg (fun hh=>by rw [hb.2 hh] at h;cases h)]
   · have hg:=hb.1 (by cases b with | true=>rfl | false=>exact absurd rfl h)
     rw [if_pos hg]
     have ho:=AU8 hg.1
     have h8:=R.1.2
     refine AB5 (fun hl=>?_) fun hl=>ABj (by rw [if_neg (fun hh=>hl hh.1)])
     rw [Ang (by omega) ho.2 (by omega) hf]
     simp only [Option.bind_some]
     refine AB5 (fun h5=>ABj ?_) fun h5=>ABj ?_
     · rw [if_pos ⟨hl,by simpa using h5⟩]
     · rw [if_neg (fun hh=>h5 (by simpa using hh.2))]
theorem Ap3 {fuel:Nat} {M:List (List Int)} {p:Int} {V:List Int} (hM:Ad5 M) (hf:2147483648 < fuel):∃ r,ALf fuel M p V=some r/\AEq fuel M p V=some r:=by
  unfold ALf AEq;rw [AYx hf,Anh hM (by omega)];simp only [Option.bind_some]
  by_cases h:ASv M p false=0
  · have hc:=Atv h;rw [if_neg (by simpa using h),if_neg (by simpa using h),Ane hc.1 hc.2.1.1 hc.2.1.2 (by omega),Abu hc.1 hc.2.1.1 hc.2.1.2 (by omega)];exact ⟨_,rfl,rfl⟩
  · rw [if_pos h,if_pos h];exact ⟨_,rfl,rfl⟩
end Go.Proofs.YtiegjkmfpcgjjaaGreatDoor
namespace Go.Proofs.YtiegjkmfpcgjjaaGreatDoor
open Go Go.QF
set_option maxRecDepth 100000
set_option maxHeartbeats 4000000
noncomputable def AId (fuel:Nat) (a3:LiI) (a7:LiA) (a9 Ah:Int) (Ai Aj:LiA) (Ak Am:Int) (Ao:LiA) (Ap Aq Ar:Bool):Option Bool:=
  ((((AGr fuel a3).bind fun Au=>(if Au=true then ((ADd fuel).bind fun Av=>(some (Sum.inl <| Av))) else (if 12 < (a7.length:Int) then ((ADd fuel).bind fun Aw=>(some (Sum.inl <| Aw))) else (some (Sum.inr <| ()))))):Option ((Bool) ⊕ (Unit))).bind (fun ex=>match ex with | Sum.inl Ax=>(some Ax) | Sum.inr (_)=>((AGs fuel Ak Am Aq).bind fun Aa=>(if Ar=true then ((AE1 fuel a9 Ah Ai Aj 6).bind fun Ac=>((AGq fuel Ao (Ac.length:Int)).bind fun Ab=>(if 0 < (Ab.length:Int) then (if (!Ap)=true then ((gI Ab 0).bind fun Af=>((ALf fuel Ac Aa (sI Ab 0 (Ak2 .and .i64 Af 1))).bind fun (Ay,Az)=>((AEq fuel Ac Aa (sI Ab 0 (Ak2 .and .i64 Af 1))).bind fun (A3,A4)=>(if (Ay == A3)=true then (if Az=A4 then ((ADd fuel).bind fun A5=>(some A5)) else (some false)) else (some false))))) else ((ALf fuel Ac Aa Ab).bind fun (A6,A7)=>((AEq fuel Ac Aa Ab).bind fun (A8,A9)=>(if (A6 == A8)=true then (if A7=A9 then ((ADd fuel).bind fun Ba=>(some Ba)) else (some false)) else (some false))))) else ((ALf fuel Ac Aa Ab).bind fun (Bb,Bc)=>((AEq fuel Ac Aa Ab).bind fun (Be,Bf)=>(if (Bb == Be)=true then (if Bc=Bf then ((ADd fuel).bind fun Bg=>(some Bg)) else (some false)) else (some false))))))) else ((ALf fuel a3 Aa a7).bind fun (Bh,Bi)=>((AEq fuel a3 Aa a7).bind fun (Bj,Bl)=>(if (Bh == Bj)=true then (if Bi=Bl then ((ADd fuel).bind fun Bm=>(some Bm)) else (some false)) else (some false))))))))
theorem APm {fuel:Nat} {h:ABh} {Bh:Value} {a3:LiI} {Bj:Value} {a7:LiA} {a9 Ae:Int} {Af:Value} {Bm:LiA} {Ag:Value} {Bn:LiA} {Bo Bp:Int} {Aw:Value} {Bq:LiA} {Br Bt Bu r:Bool} (H2:AFl (cI .i64) h Bh a3) (H6:SlC (cI .i64) h Bj a7) (Cg:SlC (cI .i8) h Af Bm) (Ch:SlC (cI .i8) h Ag Bn) (Bv:SlC (cI .i8) h Aw Bq) (Ci:Amx Aw=Br) (HO:AT1 h) (hp:AId fuel a3 a7 a9 Ae Bm Bn Bo Bp Bq Br Bt Bu=some r):AB7 Tryz.prog 6 #[Bh,Bj,(.agg #[(.int .u8 a9),(.int .u8 Ae),Af,Ag]),(.int .u8 Bo),(.int .i64 Bp),Aw,(.bool Bt),(.bool Bu)] h (fun x h'=>Ext h h'/\x= .bool r):=by
 unfold AId at hp;refine cwf (l:=[_,_,_,_,_,_,_,_]) Tryz.func6 rfl rfl (ABi (AHi [(.int .u8 a9),(.int .u8 Ae),Af,Ag] trivial tt2 rfl rfl fun Fp Fq Cj Ck Cm=>ABp ?_));have Az:=(Kst.k0 h).nb Ck Cm Cj;obtain ⟨Cn,Co,A3⟩:=ABl hp;refine AN1 1069613056 (fun x:Unit=>[]) (fun x h'=>(Sum.inr <| ())=Cn/\Kst h h' (Az.L)) ?_ ?_
 ·refine ABi (Wk ?_);obtain ⟨Cp,Cq,Bw⟩:=ABl Co;refine ACu rfl (AQh (H2.ext Az.x) Cq) fun Fr Ft Cr Ct=>?_;subst Ct;refine Wk ?_;have Ac:=Az.e Cr;cases Bx:Cp
  ·refine ACk 24 false (Wk (ACk 24 false (ADr ABv rfl H6 (ACk 24 false (AIm rfl rfl (ABu rfl (ABo ?_)))))));have By:=AIz Bw Bx;refine ⟨_,rfl,fun A4=>?_,fun A4=>?_⟩
   ·refine ABi ?_;obtain ⟨Fu,Cu,Cv⟩:=ABl (AC1 By A4);refine ACu rfl (AEx (HO.ext Ac.x) Cu) fun Fv Fw Cw Cx=>?_;subst Cx;refine ABp ?_;obtain rfl:=ABk Cv;refine ABr (AB0 ?_);obtain rfl:=ABk A3;exact ⟨_,ABt,(Ac.e Cw).x,rfl⟩
   ·refine ABs (q_t ?_);exact ⟨(():Unit),⟨ABk (AC2 By A4),Ac⟩,trivial⟩
  ·refine AJx 24 true (ABy rfl (ABo (AB8 rfl (ABi ?_))));obtain ⟨Fx,Cy,Cz⟩:=ABl (ifT Bw Bx);refine ACu rfl (AEx (HO.ext Ac.x) Cy) fun Fy Fz C0 C1=>?_;subst C1;refine ABp ?_;obtain rfl:=ABk Cz;refine ABr (AB0 ?_);obtain rfl:=ABk A3;exact ⟨_,ABt,(Ac.e C0).x,rfl⟩
 rintro ⟨⟩ F4 F5 ⟨C2,C3⟩;subst C2;refine ABi (Wk (Wk (Wk ?_)));obtain ⟨F6,C4,Bz⟩:=ABl A3;refine ACu rfl (AQi C4) fun F7 F8 C5 C6=>?_;subst C6;refine ABp (ABm (ABi (Wk (ABo ?_))));have Ab:=C3.e C5;refine ⟨_,rfl,fun A5=>?_,fun A5=>?_⟩
 ·refine ABi (AG6 [(.int .u8 a9),(.int .u8 Ae),Af,Ag] Alx rfl rfl (Ab.b p0).agg ?_);obtain ⟨F9,C7,C8⟩:=ABl (ifT Bz A5);refine ACu rfl (ANa (Cg.ext Ab.x) (Ch.ext Ab.x) C7) fun Ga Gb C9 Da=>?_;obtain ⟨Gc,Gd,Ge,Gf,rfl,Db,Dc⟩:=Da;refine ACq (Wk (Wk ?_));have A6:=Ab.no2 C9 Dc Db;refine ADg AB2 rfl (A6.o2 p0).rd ?_;obtain ⟨Dd,De,B1⟩:=ABl C8;refine ACu rfl (AQg (Bv.ext A6.x) De) fun Gg Gh Df Dg=>?_;obtain ⟨Gi,Gj,rfl,Dh,Di⟩:=Dg;refine ACq (Wk ?_);have Aa:=A6.no Df Di Dh;refine ADr ABv rfl (Aa.o p0).rd (AIm rfl rfl (Wk ?_));by_cases Ah:0 < (Dd.length:Int)
  ·have B2:=ifT B1 Ah;rw [decide_eq_true Ah];refine ACk 44 true (Wk (ACk 44 true (Amy ANm Bv Ci rfl rfl (ABy rfl (ABo (⟨_,rfl,fun A7=>?_,fun A7=>?_⟩))))))
   ·refine ABw (Wk (Wk ?_));obtain ⟨Dj,Ai,Dk⟩:=ABl (ifT B2 A7);refine AOg ABv rfl (Aa.o p0) rfl Ai fun Gk Dl=>?_;obtain ⟨Gl,Dn,Do⟩:=(Aa.o p0).cells Dl Ai;obtain rfl:=Dn;refine AB4 ACr rfl (Do 0 _ rfl) (Are rfl rfl (by decide) (AOg ABv rfl (Aa.o p0) rfl Ai fun Gm Dp=>AZl (AF6 ACr rfl rfl rfl) (Aa.o p0) Dp Ai (show ((cI .i64)).rep _ (Ak2 .and .i64 Dj 1) _ from rfl) fun Gn Dq Dr=>AMg (Wk (Wk (Wk ?_)))));have Aj:=Aa.uO p0 Dr Dq;obtain ⟨⟨Ds,Dt⟩,Du,B3⟩:=ABl Dk;dsimp only at B3;refine ACu rfl (AOp (Aj.o2 p1).rd (Aj.o p0).rd (HO.ext Aj.x) Du) fun Gp Gq Dv Dw=>?_;subst Dw;refine Wk (ACz rfl rfl (ACz rfl rfl (ACd (ACq (Wk (Wk (Wk ?_)))))));have A8:=Aj.e Dv;obtain ⟨⟨Dx,Dy⟩,Dz,A9⟩:=ABl B3;dsimp only at A9;refine ACu rfl (AIw (A8.o2 p1).rd (A8.o p0).rd Dz) fun Gr Gt D0 D1=>?_;subst D1;refine Wk (ACz rfl rfl (ACz rfl rfl (ACd (ACq (Wk (Wk (ASm ARg rfl rfl (Wk ?_))))))));have Ak:=A8.e D0;cases B4:(Ds == Dx)
    ·refine AJx 71 false (ABu rfl (Wk (AV8 76 false (ABu rfl (ABp (ABr ?_))))));obtain rfl:=ABk (AIz A9 B4);exact ⟨_,ABt,Ak.x,rfl⟩
    ·refine ACk 71 true (Wk (ACk 71 true (Wk (ACk 71 true (ADo rfl rfl (ABy rfl (Wk ?_)))))));have B5:=ifT A9 B4;by_cases Am:Dt=Dy
     ·rw [decide_eq_true Am];refine ACk 76 true ?_;obtain ⟨Gu,D2,D3⟩:=ABl (ifT B5 Am);refine ACu rfl (AEx (HO.ext Ak.x) D2) fun Gv Gw D4 D5=>?_;subst D5;refine ABy rfl (ABp (ABr ?_));obtain rfl:=ABk D3;exact ⟨_,ABt,(Ak.e D4).x,rfl⟩
     ·rw [decide_eq_false Am];refine AV8 76 false (ABu rfl (ABp (ABr ?_)));obtain rfl:=ABk (ifF B5 Am);exact ⟨_,ABt,Ak.x,rfl⟩
   ·refine ABs (q_t (ABi (Wk (Wk (Wk ?_)))));obtain ⟨⟨D6,D7⟩,D8,B6⟩:=ABl (AIz B2 A7);dsimp only at B6;refine ACu rfl (AOp (Aa.o2 p1).rd (Aa.o p0).rd (HO.ext Aa.x) D8) fun Gx Gy D9 Ea=>?_;subst Ea;refine Wk (ACz rfl rfl (ACz rfl rfl (ACd (ACq (Wk (Wk (Wk ?_)))))));have Ba:=Aa.e D9;obtain ⟨⟨Eb,Ec⟩,Ed,Bb⟩:=ABl B6;dsimp only at Bb;refine ACu rfl (AIw (Ba.o2 p1).rd (Ba.o p0).rd Ed) fun Gz G3 Ee Ef=>?_;subst Ef;refine Wk (ACz rfl rfl (ACz rfl rfl (ACd (ACq (Wk (Wk (ASm ARg rfl rfl (Wk ?_))))))));have Ao:=Ba.e Ee;cases B7:(D6 == Eb)
    ·refine AJx 71 false (ABu rfl (Wk (AV8 76 false (ABu rfl (ABp (ABr ?_))))));obtain rfl:=ABk (AIz Bb B7);exact ⟨_,ABt,Ao.x,rfl⟩
    ·refine ACk 71 true (Wk (ACk 71 true (Wk (ACk 71 true (ADo rfl rfl (ABy rfl (Wk ?_)))))));have B8:=ifT Bb B7;by_cases Ap:D7=Ec
     ·rw [decide_eq_true Ap];refine ACk 76 true ?_;obtain ⟨G4,Eg,Eh⟩:=ABl (ifT B8 Ap);refine ACu rfl (AEx (HO.ext Ao.x) Eg) fun G5 G6 Ei Ej=>?_;subst Ej;refine ABy rfl (ABp (ABr ?_));obtain rfl:=ABk Eh;exact ⟨_,ABt,(Ao.e Ei).x,rfl⟩
     ·rw [decide_eq_false Ap];refine AV8 76 false (ABu rfl (ABp (ABr ?_)));obtain rfl:=ABk (ifF B8 Ap);exact ⟨_,ABt,Ao.x,rfl⟩
  ·rw [decide_eq_false Ah];refine AF9 44 false (ABu rfl (ABo (ACc rfl (ABs (q_t (ABi (Wk (Wk (Wk ?_)))))))));obtain ⟨⟨Ek,El⟩,Em,B9⟩:=ABl (ifF B1 Ah);dsimp only at B9;refine ACu rfl (AOp (Aa.o2 p1).rd (Aa.o p0).rd (HO.ext Aa.x) Em) fun G7 G8 En Eo=>?_;subst Eo;refine Wk (ACz rfl rfl (ACz rfl rfl (ACd (ACq (Wk (Wk (Wk ?_)))))));have Bc:=Aa.e En;obtain ⟨⟨Ep,Er⟩,Es,Be⟩:=ABl B9;dsimp only at Be;refine ACu rfl (AIw (Bc.o2 p1).rd (Bc.o p0).rd Es) fun G9 Hb Et Eu=>?_;subst Eu;refine Wk (ACz rfl rfl (ACz rfl rfl (ACd (ACq (Wk (Wk (ASm ARg rfl rfl (Wk ?_))))))));have Aq:=Bc.e Et;cases Ca:(Ek == Ep)
   ·refine AJx 71 false (ABu rfl (Wk (AV8 76 false (ABu rfl (ABp (ABr ?_))))));obtain rfl:=ABk (AIz Be Ca);exact ⟨_,ABt,Aq.x,rfl⟩
   ·refine ACk 71 true (Wk (ACk 71 true (Wk (ACk 71 true (ADo rfl rfl (ABy rfl (Wk ?_)))))));have Cb:=ifT Be Ca;by_cases Ar:El=Er
    ·rw [decide_eq_true Ar];refine ACk 76 true ?_;obtain ⟨Hc,Ev,Ew⟩:=ABl (ifT Cb Ar);refine ACu rfl (AEx (HO.ext Aq.x) Ev) fun Hd He Ey Ez=>?_;subst Ez;refine ABy rfl (ABp (ABr ?_));obtain rfl:=ABk Ew;exact ⟨_,ABt,(Aq.e Ey).x,rfl⟩
    ·rw [decide_eq_false Ar];refine AV8 76 false (ABu rfl (ABp (ABr ?_)));obtain rfl:=ABk (ifF Cb Ar);exact ⟨_,ABt,Aq.x,rfl⟩
 ·refine ABs (q_t (ABi (Wk (Wk (Wk ?_)))));obtain ⟨⟨Fa,Fb⟩,Fc,Cd⟩:=ABl (AIz Bz A5);dsimp only at Cd;refine ACu rfl (AOp (H2.ext Ab.x) (H6.ext Ab.x) (HO.ext Ab.x) Fc) fun Hf Hg Fd Fe=>?_;subst Fe;refine Wk (ACz rfl rfl (ACz rfl rfl (ACd (ACq (Wk (Wk (Wk ?_)))))));have Bf:=Ab.e Fd;obtain ⟨⟨Ff,Fg⟩,Fh,Bg⟩:=ABl Cd;dsimp only at Bg;refine ACu rfl (AIw (H2.ext Bf.x) (H6.ext Bf.x) Fh) fun Hh Hj Fi Fj=>?_;subst Fj;refine Wk (ACz rfl rfl (ACz rfl rfl (ACd (ACq (Wk (Wk (ASm ARg rfl rfl (Wk ?_))))))));have Au:=Bf.e Fi;cases Ce:(Fa == Ff)
  ·refine AJx 71 false (ABu rfl (Wk (AV8 76 false (ABu rfl (ABp (ABr ?_))))));obtain rfl:=ABk (AIz Bg Ce);exact ⟨_,ABt,Au.x,rfl⟩
  ·refine ACk 71 true (Wk (ACk 71 true (Wk (ACk 71 true (ADo rfl rfl (ABy rfl (Wk ?_)))))));have Cf:=ifT Bg Ce;by_cases Av:Fb=Fg
   ·rw [decide_eq_true Av];refine ACk 76 true ?_;obtain ⟨Hk,Fk,Fl⟩:=ABl (ifT Cf Av);refine ACu rfl (AEx (HO.ext Au.x) Fk) fun Hl Hm Fm Fo=>?_;subst Fo;refine ABy rfl (ABp (ABr ?_));obtain rfl:=ABk Fl;exact ⟨_,ABt,(Au.e Fm).x,rfl⟩
   ·rw [decide_eq_false Av];refine AV8 76 false (ABu rfl (ABp (ABr ?_)));obtain rfl:=ABk (ifF Cf Av);exact ⟨_,ABt,Au.x,rfl⟩
end Go.Proofs.YtiegjkmfpcgjjaaGreatDoor
namespace Go.Proofs.YtiegjkmfpcgjjaaGreatDoor
open Go Go.QF
set_option maxRecDepth 100000
theorem Aji {fuel:Nat} {M:List (List Int)} (hf:100 < fuel):Ok (AGr fuel M) fun _=>True:=by
 unfold AGr;refine AB5 (fun _=>ABj trivial) fun h=>ABn (Asa (n:=M.length) (fun i=> ∀ z,M[i]? =some z->¬ 12 < z.length) true (by omega) (fun i hi=>?_) ?_) fun ex hex=>?_
 ·obtain ⟨z,hz⟩:∃ z,M[i]? =some z:=⟨M[i],List.getElem?_eq_getElem hi⟩;unfold AG5;rw [if_pos (by omega),AQe hz];exact AB5 (fun h=>ABj (.inr ⟨rfl,fun h2=>h2 z hz (by omega)⟩)) fun h=>ABj (.inl ⟨by rw [AGo (by omega)],fun y hy=>by rw [hz] at hy;cases hy;omega⟩)
 ·unfold AG5;rw [if_neg (by omega)]
 ·rcases hex with ⟨rfl,_⟩ | ⟨rfl,_⟩ <;> exact ABj trivial
theorem Ajj {fuel:Nat} {k raw:Int} {wild:Bool} (hk:0<=k/\k < 256):Ok (AGs fuel k raw wild) fun _=>True:=by
 unfold AGs;refine AB5 (fun _=>ABj trivial) fun _=>ABn (Q:=fun _=>True) ?_ fun _ _=>ABj trivial;unfold AIt;refine AEo (by decide) ?_;obtain ⟨q,h1,h2⟩:=APp (w64 k) 20 (by rw [wk (by omega)];exact hk.1) (by decide);exact ACa (n:=q) (List.getElem?_eq_getElem (by exact h2)) h1 (ABj trivial)
theorem Ani {fuel n:Nat} {L:List Int} (hn:n<=8) (hf:100 < fuel):Ok (AGq fuel L n) fun r=>r.length=n:=by
 unfold AGq;refine AEo (by omega) (ABn (Q:=fun e:List Int=>e.length=n) ?_ fun e he=>ABj he);refine AC0 (fun i s=> ∃ (t:Nat) (g:Nat->Int),s=((i:Int),(t:Int),AD6 n g)/\t<=i/\i<=n) n ⟨0,fun _=>0,by rw [Int.toNat_natCast,AHz];rfl,Nat.le_refl _,Nat.zero_le _⟩ (by omega) fun i s hi hI=>?_;obtain ⟨t,g,rfl,h1,h2⟩:=hI;unfold AJi;rw [Int.toNat_natCast,List.length_replicate];refine AB5 (fun h=>?_) fun h=>ABj (ADb ..);have Ab:i < n:=by omega
 refine ABn (Q:=fun e:Int × Int=> ∃ t':Nat,e.2=t'/\t'<=i + 1) ?_ fun e he=>?_
 ·refine AB5 (fun _=>ABj ⟨t,rfl,by omega⟩) fun h4=>?_;have h4: ¬ (L.length:Int)<=(t:Int):=h4;have ht:t < L.length:=by omega
  refine ACa (n:=t) (List.getElem?_eq_getElem ht) ?_ (ABj ⟨t + 1,AGo (by omega),by omega⟩);dsimp only;rw [AGo (by omega),wk (by omega)];omega
 ·obtain ⟨x,y⟩:=e;obtain ⟨t',rfl,h5⟩:=he;refine ACa (ACo Ab) rfl (ABj ⟨by omega,t',fun c=>if c=i then x else g c,?_,h5,by omega⟩);rw [AGo (by omega),AD1,AFt]
theorem Aef {g kd k raw:Int} {Z Y N:List Int} {M:List (List Int)} {V:List Int} {nb wild made:Bool} (hg:0<=g/\g < 256) (hk:0<=k/\k < 256) (hM:Ad5 M):AId (AEr + 1) M V g kd Z Y k raw N nb wild made=some true:=by
 have hf:AEr < AEr + 1:=Nat.lt_succ_self _;have Aa:100 < AEr + 1:=Nat.lt_of_le_of_lt (by decide) hf;have Ad:2147483648 < AEr + 1:=Nat.lt_of_le_of_lt (by decide) hf;apply ok_eq;unfold AId;have aw:Ok (ADd (AEr + 1)) (· =true):=⟨true,Abt,rfl⟩;refine ABn (Q:=fun ex=>ex= .inl true∨ex= .inr ()) ?_ fun ex hex=>?_
 ·exact ABn (Aji Aa) fun l _=>AB5 (fun _=>ABn aw fun x hx=>ABj (.inl (by rw [hx]))) fun _=>AB5 (fun _=>ABn aw fun x hx=>ABj (.inl (by rw [hx]))) fun _=>ABj (.inr rfl)
 rcases hex with rfl | rfl
 ·exact ABj rfl
 refine ABn (Ajj hk) fun p _=>?_
 have key:∀ (M:List (List Int)) (V:List Int),Ad5 M->Ok ((ALf (AEr + 1) M p V).bind fun (Ae,Af)=>((AEq (AEr + 1) M p V).bind fun (Ag,Ah)=>(if (Ae == Ag)=true then (if Af=Ah then ((ADd (AEr + 1)).bind fun Ai=>(some Ai)) else (some false)) else (some false)))) (· =true):=fun M V hM=>by
   obtain ⟨r,h1,h2⟩:=Ap3 (p:=p) (V:=V) hM Ad
   rw [h1,h2]
   obtain ⟨x,y⟩:=r
   simp only [Option.bind_some,BEq.rfl,if_true]
   exact ABn aw fun x hx=>ABj hx
 refine AB5 (fun _=>ABn (Ar3 hg (by decide) hf) fun h hh=>?_) fun _=>key M V hM;obtain ⟨n,A,rfl,h1,h2,R,-⟩:=hh;have hA:=Am0 (by omega) R;rw [ADa];refine ABn (Ani (by omega) Aa) fun v hv=>AB5 (fun h3=>AB5 (fun h4=>?_) fun h4=>key _ _ hA) fun h3=>key _ _ hA;have h0:0 < v.length:=by omega
 exact ACa (n:=0) (List.getElem?_eq_getElem h0) rfl (key _ _ hA)
end Go.Proofs.YtiegjkmfpcgjjaaGreatDoor
