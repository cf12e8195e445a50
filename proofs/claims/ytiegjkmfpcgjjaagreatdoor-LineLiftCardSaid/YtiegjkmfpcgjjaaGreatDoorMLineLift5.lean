/-
  Texts of a proof, joined. Conditions stand in each statement.
-/
import Derived.RangeFuncRecord
import Derived.OrdersIn
import Derived.Test.YtiegjkmfpcgjjaaGreatDoorMLineLift4
set_option linter.unusedVariables false
set_option linter.unusedSimpArgs false
namespace Go.QF
open Go
theorem Anw (l:List Value):(l.map fun r=>[r]).flatten=l:=by
 induction l with
 | nil=>rfl
 | cons a L ih=>simp [ih]
def AW0 {α:Type} (c:Cod α) (el:Nat) (h:ABk):List (List Nat)->List Value->List (List α)->Prop
  | [],[],[]=>True
  | G :: Gs,r :: rs,L :: M=>OwC c el h G r L/\AW0 c el h Gs rs M
  | _,_,_=>False
theorem AW0.len {α:Type} {c:Cod α} {el:Nat} {h:ABk}:∀ {Gs:List (List Nat)} {rs:List Value} {M:List (List α)},AW0 c el h Gs rs M->rs.length=M.length/\Gs.length=M.length
  | [],[],[],_=>⟨rfl,rfl⟩
  | G :: Gs,r :: rs,L :: M,H=>by have:=AW0.len H.2;simp [this.1,this.2]
theorem AW0.get {α:Type} {c:Cod α} {el:Nat} {h:ABk}:∀ {Gs:List (List Nat)} {rs:List Value} {M:List (List α)},AW0 c el h Gs rs M-> ∀ (i:Nat) (G:List Nat) (r:Value) (L:List α),Gs[i]? =some G->rs[i]? =some r->M[i]? =some L->OwC c el h G r L
  | [],[],[],_,i,G,r,L,h1,_,_=>by simp at h1
  | G0 :: Gs,r0 :: rs,L0 :: M,H,0,G,r,L,h1,h2,h3=>by simp at h1 h2 h3;subst h1;subst h2;subst h3;exact H.1
  | G0 :: Gs,r0 :: rs,L0 :: M,H,i + 1,G,r,L,h1,h2,h3=>AW0.get H.2 i G r L (by simpa using h1) (by simpa using h2) (by simpa using h3)
section
variable {P:Program} {B:ABk->Prop} {st:Bool} {ops:Array Oper} {rest:List Oper} {e:Env} {h:ABk} {K:Env->ABk->Prop} {d:Nat} {ty:TypeId} {pos:String} {af:Array Edge}
theorem AMx {α:Type} {c:Cod α} (Gs:List (List Nat)) (rs:List Value) (M:List (List α)) {t er el bytes n:Nat} {z:Value} {parts:List (Nat × Operand)} (hT:SlT P t er 1) (hz:ZeT P er z bytes) (h1:isOne z=true) (hel:Nat.beq er 147=false) (hb:B h) (hBE:∀ h',Ext h h'->B h') (hn:rs.length=n) (Aa:Nat.ble n 16777216=true) (hpos:Nat.ble 1 n=true) (hp:(parts.map fun (i,x)=>(i,e.ev x))=partsOf 0 rs) (hone:∀ u∈rs,isOne u=true) (hr:AW0 c el h Gs rs M) (hnd:Gs.flatten.Nodup) (H:∀ b v h',AFf c er el h' (b :: Gs.flatten) Gs rs v M->Ext h h'->(∀ z∈b :: Gs.flatten,z∈Gs.flatten∨h.size<=z)->RL P B st ops rest (e.set d v) h' K):RL P B st ops (⟨some d,.buildSlice t n parts.toArray,ty,pos,af,none⟩ :: rest) e h K:=by
 have Aa:=Nat.le_of_ble_eq_true Aa;have E:Ext h (h.push (.cells rs.toArray er (0,0))):=AEd _ _;have HO:AJk (h.push (.cells rs.toArray er (0,0))) er 1 h.size (.slice (some ⟨h.size,0,none⟩) n n) (rs.map fun r=>[r]):=⟨n,rs.toArray,by rw [List.length_map,hn],by simp,by simp [hn],by unfold maxLen;omega,by simp [hn],fun r hr=>by obtain ⟨a,_,rfl⟩:=List.mem_map.1 hr;rfl,by rw [Anw];simp⟩
 have hlt:∀ z∈Gs.flatten,z < h.size:=fun z hz=>by
   obtain ⟨G,hG,hzG⟩:=List.mem_flatten.1 hz
   obtain ⟨i,hi⟩:=List.getElem?_of_mem hG
   have hi':=(List.getElem?_eq_some_iff.1 hi).1
   have hl:=hr.len
   exact (hr.get i G (rs[i]'(by omega)) (M[i]'(by omega)) hi (List.getElem?_eq_getElem _) (List.getElem?_eq_getElem _)).lt z hzG
 refine Aoo rs hT hz h1 hb hn Aa (Nat.le_of_ble_eq_true hpos) hp hone ⟨hBE _ E,H h.size _ _ (.inr ⟨h.size,rfl,?_,HO,hel,hr.len.1,hr.len.2,fun i G r L a1 a2 a3=>(hr.get i G r L a1 a2 a3).ext E⟩) E fun z hz=>?_⟩
 ·exact List.nodup_cons.2 ⟨fun hm=>by have:=hlt _ hm;omega,hnd⟩
 ·rcases List.mem_cons.1 hz with rfl | h2
  ·exact .inr (Nat.le_refl _)
  ·exact .inl h2
end
end Go.QF
namespace Go.Proofs.YtiegjkmfpcgjjaaGreatDoor
open Go Go.QF
def aT (F:List Nat):Asr:=⟨F,fun h=> ∀ b∈F,AQh h b,fun {G h h'} U d H b hb=>by
  obtain ⟨o,h1,h2⟩:=H b hb;exact ⟨o,(U.1.2 b (Array.getElem?_eq_some_iff.1 h1).1 (d b hb)).trans h1,h2⟩⟩
namespace Kst
variable {h0 h h':ABk} {l l':List Asr}
theorem a0 (k:Kst h0 h l):Kst h0 h (aT [] :: l):=k.n (Ext.refl h) [aT []] (by exact ⟨by simp [fps,aT],fun b hb=>by simp [fps,aT] at hb⟩) ⟨fun b hb=>by simp at hb,trivial⟩
theorem grab {α:Type} {c:Cod α} {F R:List Nat} {j el:Nat} {w:Value} {y:List α} (k:Kst h0 h (aT F :: l)) (e:Rep j l (aO c el R w y) (aC True) l'):Kst h0 h (aT (F ++ R) :: l'):=by
 obtain ⟨e,rfl⟩:=e;have HR:OwC c el h R w y:=AM7 k.p.2 e;have e1:(fps (aT F :: l))[j + 1]? =some R:=(AMi e:(fps l)[j]? =some R);have e0:(fps (aT F :: l))[0]? =some F:=rfl;have hd:=k.s.dj 0 (j + 1) e0 e1 (by omega);have hF:F.Nodup:=(List.nodup_append.1 k.s.1).1;have:=k.s.put2 0 (j + 1) (F':=F ++ R) e0 e1 (by omega) (List.nodup_append.2 ⟨hF,HR.nodup,fun a ha b hb hab=>hd a ha (hab ▸ hb)⟩) (Nat.le_refl _) k.x.1 (fun x hx=>(List.mem_append.1 hx).elim (fun h=>(k.s.lo 0 e0 x h).2) fun h=>HR.lt x h) (fun x hx=>(List.mem_append.1 hx).elim .inl fun h=> .inr (.inl h));refine ⟨k.x,?_,fun b hb=>(List.mem_append.1 hb).elim (k.p.1 b) (HR.notD b),AZ8 k.p.2 j⟩
 have e2:fps (aT (F ++ R) :: l.set j (aC True))=((fps (aT F :: l)).set (j + 1) []).set 0 (F ++ R):=by
   show (F ++ R) :: fps (l.set j (aC True))=_
   rw [AVe];rfl
 rw [e2];exact this
theorem ndT {F:List Nat} (k:Kst h0 h (aT F :: l)):F.Nodup:=(List.nodup_append.1 k.s.1).1
theorem lit {α:Type} {c:Cod α} {er el:Nat} {F F':List Nat} {Gs:List (List Nat)} {rs:List Value} {v:Value} {x:List (List α)} (k:Kst h0 h (aT F :: l)) (E:Ext h h') (V:AFf c er el h' F' Gs rs v x) (hs:∀ z∈F',z∈F∨h.size<=z):Kst h0 h' (aO2 c er el F' Gs rs v x :: l):=
  k.u p0 (E.upT.mono (fun x hx=>by simp at hx) fun x hx _=>k.p.1 x hx) V V.nodup V.lt hs
end Kst
end Go.Proofs.YtiegjkmfpcgjjaaGreatDoor
namespace Go.QF
open Go
def FR (r:Option Nat):Fence:= { Fence.wide with round:=r }
theorem Air {r:Option Nat} {m:Nat} {P:Program} {f:FuncId} {args:Array Value} {w:World} {R:Ending->World->Prop} (h:Calls P f args w R):CallsIn (FR r) m P f args w R:=
  (callsIn_wide (n:=m)).2 h
structure AMm (D:List Deferred) (n:Nat) (e:Env) (a:Act):Prop where
  r:Rep n e { a with defers:=[] }
  d:a.defers=D
theorem AMm.eval {D:List Deferred} {n:Nat} {e:Env} {a:Act} (r:AMm D n e a):a.eval=e.ev:=r.r.eval
theorem AMm.put {D:List Deferred} {n:Nat} {e:Env} {a:Act} (r:AMm D n e a) (d:Option Nat) (v:Value) (hd:∀ x,d=some x->x < n):AMm D n (e.put d v) (a.put d v):=by
 have h1:=r.r.put d v hd;have h2:=r.d
 cases d with
 | none=>exact ⟨h1,h2⟩
 | some d=>exact ⟨h1,h2⟩
theorem AMm.yields {D:List Deferred} {n:Nat} {e:Env} {a:Act} (r:AMm D n e a) (ops:Array Oper):yielded ops a.tmps=AJj ops e:=r.r.yields ops
theorem AMm.of {n:Nat} {e:Env} {a:Act} (r:Rep n e a):AMm [] n e a:=⟨⟨r.size,rfl,r.get⟩,r.defers⟩
theorem AMm.rep {n:Nat} {e:Env} {a:Act} (r:AMm [] n e a):Rep n e a:=⟨r.r.size,r.d,r.r.get⟩
def AQa (o:Oper):Bool:=match o.op with | .defer _=>false | _=>true
theorem AUc {P:Program} {B:ABk->Prop} {st:Bool} {ops:Array Oper} {Q:Exit->Act->World->Prop} {i:Nat} {o:Oper} {n m:Nat} {ro:Option Nat} {D:List Deferred} {e:Env} {a:Act} {w:World} {K:Env->ABk->Prop} {K':Act->World->Prop} (hi:ops[i]? =some o) (hnd:AQa o=true) (hd:∀ x,o.dst=some x->x < n) (r:AMm D n e a) (H:GOp P B st ops o e w.heap K) (hK:∀ e' a' w',AMm D n e' a'->Same w w'->K e' w'.heap->K' a' w'):wpOpIn (FR ro) m P ops Q i K' a w:=by
 unfold wpOpIn;simp only [hi];unfold GOp at H;rw [r.yields ops];split
 ·rename_i hw;rw [if_pos hw] at H;unfold Oper.wpIn;refine ⟨fun _ _=>trivial,?_⟩;rw [Oper.semAt_eq _ _ _ (fun c hc=>by simp [AQa,hc] at hnd),r.eval]
  have eff:∀ {K:Value->ABk->Prop},AOc P e.ev o w.heap K->(∀ v h',K v h'-> ∀ a' w',AMm D n (e.put o.dst v) a'->Same w w'->w'.heap=h'->K' a' w')->o.uponIn (FR ro) m P a K' Q ((execOp e.ev o).run P w):=by
    intro K H hK
    have H':=H w rfl
    generalize (execOp e.ev o).run P w=res at H'
    cases res with
    | ok nx w'=>
      cases nx <;> simp only [AN0] at H' <;> simp only [Oper.uponIn]
      case value v=>exact hK _ _ H'.2 _ _ (r.put _ _ hd) H'.1 rfl
      case skip=>exact hK _ _ H'.2 _ _ (r.put _ _ hd) H'.1 rfl
      case enter f args=>
        refine ⟨fun hh=>by simp [FR,Fence.wide] at hh,(Air H'.2).mono fun en w'' ⟨v,he,hs,hk⟩=>?_⟩
        subst he
        exact hK _ _ hk _ _ (r.put _ _ hd) (H'.1.trans hs) rfl
    | halt x w'=>exact H'.elim
  unfold SOp at H;split at H
  ·obtain ⟨v,hv,hk⟩:=H;rw [hv w];exact hK _ _ _ (r.put _ _ hd) (.refl w) hk
  ·obtain ⟨v,hv,hk⟩:=H;rw [hv w rfl];exact hK _ _ _ (r.put _ _ hd) (.refl w) hk
  ·obtain ⟨v,hb,hv,hk⟩:=H;rw [hv w hb];exact hK _ _ _ (r.put _ _ hd) (.refl w) hk
  ·exact eff H.2 fun v h' hk a' w' r' s' hh=>hK _ _ _ r' s' (by rw [hh];exact hk.2)
  ·exact eff H fun v h' hk a' w' r' s' hh=>hK _ _ _ r' s' (by rw [hh];exact hk)
 ·rename_i hw;rw [if_neg hw] at H;exact ⟨fun _ _=>trivial,hK _ _ _ (r.put _ _ hd) (.refl w) H⟩
section
variable {P:Program} {ops:Array Oper} {m:Nat} {ro:Option Nat} {D:List Deferred}
theorem AZs {B:ABk->Prop} {n:Nat} {Q:Exit->Act->World->Prop} (hok:AUw n ops true=true) (hnd:∀ (j:Nat) (o:Oper),ops[j]? =some o->AQa o=true):∀ (fuel:Nat) (R:List Nat) (listed:Array Bool) (e:Env) (a:Act) (w:World) (K:Env->ABk->Prop),
    R.length=fuel->List.Pairwise (· < ·) R->listed.size=ops.size->(∀ j,j∈R↔(j < ops.size/\listed.getD j true=false))->
    (∀ j oj,listed.getD j false=true->ops[j]? =some oj-> ∀ ed∈oj.after,Region.binds .any ed=true->listed.getD ed.on false=true)->
    AMm D n e a->LI P B (AMk ops true) ops R e w.heap K->(∀ e' a' w',AMm D n e' a'->Same w w'->K e' w'.heap->Q .normal a' w')->
    wpAnyIn (FR ro) m P .any ops Q fuel listed a w:=by
 intro fuel
 induction fuel with
 | zero=>
   intro R listed e a w K hlen _ _ hmem _ r H hK
   obtain rfl:R=[]:=List.length_eq_zero_iff.1 hlen
   refine ⟨?_,hK _ _ _ r (.refl w) H⟩
   refine List.eq_nil_iff_forall_not_mem.2 fun j hj=>?_
   obtain ⟨hjl,oj,hoj,_⟩:=mem_ready.1 hj
   have:=(hmem j).2 ⟨(Array.getElem?_eq_some_iff.1 hoj).1,hjl⟩
   cases this
 | succ fuel ih=>
   intro R listed e a w K hlen hpw hsz hmem hcl r H hK
   constructor
   · intro hr
     exfalso
     cases R with
     | nil=>simp at hlen
     | cons j R=>
       obtain ⟨hjs,hjl⟩:=(hmem j).1 (List.mem_cons_self ..)
       obtain ⟨oj,hoj⟩:∃ oj,ops[j]? =some oj:=⟨ops[j],Array.getElem?_eq_getElem hjs⟩
       have:j∈Region.ready .any ops listed:=mem_ready.2 ⟨hjl,oj,hoj,fun ed hed hbd=>by
         obtain ⟨_,_,hd⟩:=ALg hok hoj
         have hlt:=(hd rfl).1 ed hed hbd
         cases hl:listed.getD ed.on false with
         | true=>rfl
         | false=>
           exfalso
           have hs:ed.on < ops.size:=Nat.lt_trans hlt hjs
           have hm:ed.on∈j :: R:=(hmem ed.on).2 ⟨hs,by
             have h':ed.on < listed.size:=by omega
             simp [h'] at hl ⊢;exact hl⟩
           rcases List.mem_cons.1 hm with he | he
           · omega
           · have:=(List.pairwise_cons.1 hpw).1 _ he
             omega⟩
       rw [hr] at this
       cases this
   · intro i hi
     obtain ⟨hil,oi,hoi,hall⟩:=mem_ready.1 hi
     have his:i < ops.size:=(Array.getElem?_eq_some_iff.1 hoi).1
     have hiR:i∈R:=(hmem i).2 ⟨his,hil⟩
     obtain ⟨R1,R2,rfl⟩:=List.append_of_mem hiR
     obtain ⟨hdi,hsi,hdri⟩:=ALg hok hoi
     have hpw':=List.pairwise_append.1 hpw
     have hb:LI P B (AMk ops true) ops (i :: (R1 ++ R2)) e w.heap K:=by
       refine LI.bubble hoi hsi R1 (fun k hk=>?_) H
       have hki:k < i:=hpw'.2.2 k hk i (List.mem_cons_self ..)
       have hks:k < ops.size:=Nat.lt_trans hki his
       obtain ⟨ok,hok'⟩:∃ ok,ops[k]? =some ok:=⟨ops[k],Array.getElem?_eq_getElem hks⟩
       refine ⟨ok,hok',(ALg hok hok').2.1,?_⟩
       rcases (hdri rfl).2 k ok hki hok' with ⟨nre,hre⟩ | h
       · exfalso
         have h1:listed.getD k false=true:=AJc (L:=fun j=>listed.getD j false=true) hcl nre k i oi hoi hall hre
         have h2:=((hmem k).1 (List.mem_append_left _ hk)).2
         have hks':k < listed.size:=by omega
         simp [hks'] at h1 h2
         rw [h1] at h2;cases h2
       · exact h
     simp only [LI,hoi] at hb
     refine AUc hoi (hnd i oi hoi) hdi r hb fun e' a' w' r' hs hk=>?_
     have his':i < listed.size:=by omega
     refine ih (R1 ++ R2) _ e' a' w' K ?_ ?_ ?_ ?_ ?_ r' hk (fun e2 a2 w2 r2 s2 k2=>hK _ _ _ r2 (hs.trans s2) k2)
     · simp at hlen ⊢;omega
     · refine List.pairwise_append.2 ⟨hpw'.1,(List.pairwise_cons.1 hpw'.2.1).2,fun x hx y hy=>hpw'.2.2 x hx y (List.mem_cons_of_mem _ hy)⟩
     · simp [hsz]
     · intro j
       have hm:=hmem j
       constructor
       · intro hj
         have hj':j∈R1 ++ i :: R2:=by
           rcases List.mem_append.1 hj with h | h
           · exact List.mem_append_left _ h
           · exact List.mem_append_right _ (List.mem_cons_of_mem _ h)
         obtain ⟨h1,h2⟩:=hm.1 hj'
         have hne:i≠j:=by
           intro he
           subst he
           rcases List.mem_append.1 hj with h | h
           · have:=hpw'.2.2 i h i (List.mem_cons_self ..);omega
           · have:=(List.pairwise_cons.1 hpw'.2.1).1 i h;omega
         exact ⟨h1,by rw [getD_set_ne true hne];exact h2⟩
       · rintro ⟨h1,h2⟩
         have hne:i≠j:=by
           intro he
           subst he
           simp [his'] at h2
         rw [getD_set_ne true hne] at h2
         have:=hm.2 ⟨h1,h2⟩
         rcases List.mem_append.1 this with h | h
         · exact List.mem_append_left _ h
         · rcases List.mem_cons.1 h with h | h
           · exact absurd h.symm hne
           · exact List.mem_append_right _ h
     · intro j oj hj hoj ed hed hbd
       by_cases hij:i=j
       · subst hij
         rw [hoi] at hoj
         injection hoj with hoj
         subst hoj
         exact getD_set_true (hall ed hed hbd)
       · rw [getD_set_ne false hij] at hj
         exact getD_set_true (hcl j oj hj hoj ed hed hbd)
theorem ATb {B:ABk->Prop} {n:Nat} {Q:Exit->Act->World->Prop} (rest:List Nat):∀ (l:List Oper) (k:Nat) (e:Env) (a:Act) (w:World) (K:Env->ABk->Prop),
    (∀ (j:Nat) (o:Oper),l[j]? =some o->ops[k + j]? =some o/\AQa o=true/\ ∀ x,o.dst=some x->x < n)->AMm D n e a->RL P B false ops l e w.heap K->
    (∀ e' a' w',AMm D n e' a'->Same w w'->K e' w'.heap->wpOpsIn (FR ro) m P ops Q rest a' w')->wpOpsIn (FR ro) m P ops Q (List.range' k l.length ++ rest) a w:=by
  intro l;induction l with
  | nil=>intro k e a w K _ r H hK;exact hK _ _ _ r (.refl w) H
  | cons o l ih=>
    intro k e a w K hl r H hK;rw [List.length_cons,List.range'_succ,List.cons_append,wpOpsIn_cons];obtain ⟨h1,h2,h3⟩:=hl 0 o rfl;refine AUc h1 h2 h3 r H fun e' a' w' r' hs hk=>?_;exact ih (k + 1) e' a' w' K (fun j o hj=>by have:=hl (j + 1) o hj;rwa [<- Nat.add_assoc,Nat.add_right_comm] at this) r' hk fun e2 a2 w2 r2 s2 k2=>hK _ _ _ r2 (hs.trans s2) k2
theorem AVn {B:ABk->Prop} {n:Nat} (hmx:P.follows .mixedOrders=true) {id:Nat} {draw:Bool} {Q:Exit->Act->World->Prop} {e:Env} {a:Act} {w:World} {K:Env->ABk->Prop} (hok:AUw n ops draw=true) (hnd:∀ (j:Nat) (o:Oper),ops[j]? =some o->AQa o=true) (r:AMm D n e a) (H:RL P B (AMk ops draw) ops ops.toList e w.heap K) (hK:∀ e' a' w',AMm D n e' a'->Same w w'->K e' w'.heap->Q .normal a' w'):(Code.region id ops draw).wpIn (FR ro) m P Q a w:=by
 cases draw with
 | true=>
   have HL:LI P B (AMk ops true) ops (List.range ops.size) e w.heap K:=by
     rw [List.range_eq_range',<- Array.length_toList]
     exact Aq2 ops.toList 0 (by simp) e _ H
   refine wpIn_region_any hmx (AZs hok hnd ops.size (List.range ops.size) (Array.replicate ops.size false) e a { w with drawn:=w.drawn + 1 } K (by simp)
       List.pairwise_lt_range (by simp) (fun j=>by
         simp only [List.mem_range]
         constructor
         · intro h;exact ⟨h,by simp [h]⟩
         · exact fun h=>h.1)
       (fun j oj hj _=>by
         exfalso
         rcases Nat.lt_or_ge j ops.size with h' | h'
         · simp [h'] at hj
         · simp [h'] at hj) r HL
       (fun e' a' w' r' hs hk=>hK e' a' w' r' ⟨hs.os,hs.tape,hs.output⟩ hk))
 | false=>
   refine wpIn_region ?_
   have:=ATb (ro:=ro) (m:=m) (Q:=Q) (D:=D) (n:=n) [] ops.toList 0 e a w K (fun j o hj=>by
     have hj':ops[j]? =some o:=by simpa using hj
     exact ⟨by simpa using hj',hnd j o hj',(ALg hok hj').1⟩) r H (fun e' a' w' r' s k=>hK _ _ _ r' s k)
   rw [List.append_nil,Array.length_toList,<- List.range_eq_range'] at this
   exact this
end
def WI (P:Program):Code->(Exit->Env->ABk->Prop)->Env->ABk->Prop
  | .skip,Q,e,h=>Q .normal e h
  | .region _ ops draw,Q,e,h=> ∃ B,RL P B (AMk ops draw) ops ops.toList e h (Q .normal)
  | .seq a b,Q,e,h=>WI P a (AKq (fun e h=>WI P b Q e h) Q) e h
  | .cond c x y,Q,e,h=> ∃ b,e.ev c= .bool b/\(b=true->WI P x Q e h)/\(b=false->WI P y Q e h)
  | .block id c,Q,e,h=>WI P c (AK3 id Q) e h
  | .exit id,Q,e,h=>Q (.exit id) e h
  | .ret,Q,e,h=>Q .ret e h
  | .label _,Q,e,h=>Q .normal e h
  | _,_,_,_=>False
def okI (n:Nat):Code->Bool
  | .region _ ops draw=>AUw n ops draw && ops.toList.all AQa
  | .seq a b=>okI n a && okI n b
  | .cond _ a b=>okI n a && okI n b
  | .block _ c=>okI n c
  | .skip | .exit _ | .ret | .label _=>true
  | _=>false
theorem WI.sound {P:Program} (hmx:P.follows .mixedOrders=true) {n m:Nat} {ro:Option Nat} {D:List Deferred} {c:Code}:∀ {Q:Exit->Env->ABk->Prop} {Q':Exit->Act->World->Prop} {e:Env} {a:Act} {w:World},okI n c=true->AMm D n e a->WI P c Q e w.heap->
    (∀ x e' a' w',AMm D n e' a'->Same w w'->Q x e' w'.heap->Q' x a' w')->c.wpIn (FR ro) m P Q' a w:=by
 induction c with
 | skip=>intro Q Q' e a w _ r H hQ;exact wpIn_skip (hQ _ _ _ _ r (.refl w) H)
 | region id ops draw=>
   intro Q Q' e a w hok r H hQ
   simp only [okI,Bool.and_eq_true] at hok
   obtain ⟨B,H⟩:=H
   exact AVn hmx hok.1 (fun j o hj=>List.all_eq_true.1 hok.2 o (List.mem_of_getElem? (by simpa using hj))) r H fun e' a' w' r' s k=>hQ _ _ _ _ r' s k
 | seq x y ihx ihy=>
   intro Q Q' e a w hok r H hQ
   simp only [okI,Bool.and_eq_true] at hok
   refine wpIn_seq (ihx hok.1 r H fun ex e' a' w' r' s k=>?_)
   cases ex <;> first | exact hQ _ _ _ _ r' s k | exact ihy hok.2 r' k fun Ae e2 a2 w2 r2 s2 k2=>hQ _ _ _ _ r2 (s.trans s2) k2
 | cond c x y ihx ihy=>
   intro Q Q' e a w hok r H hQ
   simp only [okI,Bool.and_eq_true] at hok
   obtain ⟨b,hb,h1,h2⟩:=H
   refine wpIn_cond_split (t:=b) (by rw [r.eval];exact hb) (fun hh=>ihx hok.1 r (h1 hh) hQ) (fun hh=>ihy hok.2 r (h2 hh) hQ)
 | block id c ih=>
   intro Q Q' e a w hok r H hQ
   refine wpIn_block (ih hok r H fun ex e' a' w' r' s k=>?_)
   cases ex <;> first | exact hQ _ _ _ _ r' s k | skip
   rename_i id'
   by_cases hid:id'=id
   · simp only [AK3,Exit.inBlock,hid,if_true] at k ⊢;exact hQ _ _ _ _ r' s k
   · simp only [AK3,Exit.inBlock,hid,if_false] at k ⊢;exact hQ _ _ _ _ r' s k
 | exit id=>intro Q Q' e a w _ r H hQ;exact wpIn_exit (hQ _ _ _ _ r (.refl w) H)
 | ret=>intro Q Q' e a w _ r H hQ;exact wpIn_ret (hQ _ _ _ _ r (.refl w) H)
 | label=>intro Q Q' e a w _ r H hQ;exact wpIn_label (hQ _ _ _ _ r (.refl w) H)
 | loop=>intro Q Q' e a w _ _ H;exact H.elim
 | rangeFunc=>intro Q Q' e a w _ _ H;exact H.elim
 | scope=>intro Q Q' e a w _ _ H;exact H.elim
 | goto=>intro Q Q' e a w _ _ H;exact H.elim
 | refuse=>intro Q Q' e a w _ _ H;exact H.elim
section
variable {P:Program} {Q:Exit->Env->ABk->Prop} {e:Env} {h:ABk}
theorem As8 (H:Q .normal e h):WI P .skip Q e h:=H
theorem Auf (H:Q .ret e h):WI P .ret Q e h:=H
theorem Arn {a b:Code} (H:WI P a (AKq (fun e h=>WI P b Q e h) Q) e h):WI P (.seq a b) Q e h:=H
theorem Aqh {id:Nat} {c:Code} (H:WI P c (AK3 id Q) e h):WI P (.block id c) Q e h:=H
theorem Anx {id:Nat} {l:List Oper} (H:RL P (fun _=>True) false l.toArray l e h (Q .normal)):WI P (.region id l.toArray false) Q e h:=⟨fun _=>True,H⟩
theorem Aqi {id:Nat} {l:List Oper} (B:ABk->Prop) (hst:(AMk l.toArray true,AXt l.toArray true)=(true,true)) (H:RL P B true l.toArray l e h (Q .normal)):WI P (.region id l.toArray true) Q e h:=
  ⟨B,by rw [(Prod.mk.inj hst).1];exact H⟩
end
def Aat (K:Env->ABk->Prop):Exit->Env->ABk->Prop
  | .normal=>K
  | _=>fun _ _=>False
def AR7 (P:Program) (l:Nat) (args:List Value) (h:ABk) (K:Value->ABk->Prop):Prop:=
  ∀ w:World,w.heap=h-> ∃ f tmps assign body,(Instr.yield l args.toArray).run P w= .ok (.round l f tmps assign body) w/\RoundIn (FR none) 0 P l f tmps assign body w fun en w'=> ∃ v,en= .returned v/\Same w w'/\K v w'.heap
def AMy (f:FuncId) (tmps:Array Value) (p:Tmp) (assign body:Code) (r:Nat):Loop:= { state:= .ready,pending:=none,fn:=f,tmps,params:= #[p],assign,body,defers:=r }
def Ais (f:FuncId) (tmps:Array Value) (p:Tmp) (assign body:Code) (r:Nat):Loop:= { state:= .busy,pending:=none,fn:=f,tmps,params:= #[p],assign,body,defers:=r }
theorem AVo (w:World) (l:Nat) (o:Obj):Same w (w.putObj l o):=⟨rfl,rfl,rfl⟩
theorem Akc {P:Program} (hmx:P.follows .mixedOrders=true) {l n r f:Nat} {tmps:Array Value} {p:Tmp} {assign body:Code} {v:Value} {e0:Env} {h:ABk} {K:Value->ABk->Prop} (hl:h[l]? =some (.loop (AMy f tmps p assign body r))) (hn:tmps.size=n) (he:∀ t,tmps.getD t undef=e0 t) (hp:p < n) (Ag:okI n assign=true) (Ah:okI n body=true) (H:WI P assign (Aat fun e1 h1=>h1[l]? =some (.loop (AMy f tmps p assign body r))/\WI P body (Aat fun _ h2=>h2[l]? =some (.loop (Ais f tmps p assign body r))/\K (.bool true) (h2.setIfInBounds l (.loop (AMy f tmps p assign body r)))) e1
      (h1.setIfInBounds l (.loop (Ais f tmps p assign body r)))) (e0.set p v) h):AR7 P l [v] h K:=by
 intro w hw;subst hw;refine ⟨_,_,_,_,run_yield hl rfl,roundIn_of_wpIn trivial ?_⟩;have hrep:Rep n e0 { tmps:=tmps,defers:=[] } :=⟨hn,rfl,he⟩;have Ai:AMm [] n (e0.set p v) { tmps:=tmps.setIfInBounds p v,defers:=[] } :=AMm.of (hrep.put (some p) v fun x hx=>by cases hx;exact hp);have htm:(((AMy f tmps p assign body r).params.zip #[v]).foldl (fun tmps (x:Tmp × Value)=>match x with | (t,a)=>tmps.setIfInBounds t a) (AMy f tmps p assign body r).tmps)=tmps.setIfInBounds p v:=by simp [AMy]
 have hz:([v]:List Value).toArray= #[v]:=rfl;rw [hz,htm];refine WI.sound (ro:=some l) hmx Ag Ai H fun x e1 a1 w1 r1 s1 k1=>?_;cases x <;> first | exact k1.elim | skip
 obtain ⟨k1,k2⟩:=k1;refine ⟨_,run_beginRound k1 rfl,?_⟩;refine WI.sound (ro:=some l) hmx Ah r1 (w:=w1.putObj l (.loop (Ais f tmps p assign body r))) k2 fun x e2 a2 w2 r2 s2 k2=>?_;cases x <;> first | exact k2.elim | skip
 obtain ⟨k2,k3⟩:=k2;exact ⟨_,_,run_endRound none k2,.bool true,rfl,(s1.trans (AVo _ _ _)).trans (s2.trans (AVo _ _ _)),k3⟩
theorem RL.frameT {P:Program} {B:ABk->Prop} {st:Bool} {ops:Array Oper} {l:List Oper} {e e0:Env} {h:ABk} {K:Env->ABk->Prop} {T:Nat->Prop} (hl:∀ o∈l,∀ t,o.dst=some t->T t) (he:∀ t,¬ T t->e t=e0 t) (H:RL P B st ops l e h K):RL P B st ops l e h fun e' h'=>K e' h'/\ ∀ t,¬ T t->e' t=e0 t:=
  (RL.frame0 H).mono fun e' h' hk=>⟨hk.1,fun t ht=>(hk.2 t fun o ho hd=>ht (hl o ho t hd)).trans (he t ht)⟩
theorem Aqj {P:Program} {Q:Exit->Env->ABk->Prop} {e:Env} {h:ABk} {id l:Nat} {pre post:List Oper} {d:Tmp} {c:Operand} {xs:List Operand} {ts:Array TypeId} {ty:TypeId} {pos:String} {af:Array Edge}
    (hnd:((pre ++ post).all AQa && (pre ++ ⟨some d,.call ⟨.value c,xs.toArray,ts⟩,ty,pos,af,none⟩ :: post).all AHj)=true)
    (H:RL P (fun _=>True) false (pre ++ ⟨some d,.call ⟨.value c,xs.toArray,ts⟩,ty,pos,af,none⟩ :: post).toArray pre e h fun e1 h1=>e1.ev c= .func (.yield l) #[] #[]/\ ∃ l1,xs.map e1.ev=l1/\AR7 P l l1 h1 fun v h2=>
      RL P (fun _=>True) false (pre ++ ⟨some d,.call ⟨.value c,xs.toArray,ts⟩,ty,pos,af,none⟩ :: post).toArray post (e1.set d v) h2 (Q .normal)):
    W P (.region id (pre ++ ⟨some d,.call ⟨.value c,xs.toArray,ts⟩,ty,pos,af,none⟩ :: post).toArray false) Q e h:=by
  intro hmx n id' a w Q' hb r hw hQ;subst hw;rw [<- wpIn_wide (n:=1)];show (Code.region id' _ false).wpIn (FR none) 1 P Q' a w;generalize hops:(pre ++ (⟨some d,.call ⟨.value c,xs.toArray,ts⟩,ty,pos,af,none⟩:Oper) :: post)=ops at *
  have hat:∀ (j:Nat) (o:Oper),ops[j]? =some o->(∀ x,o.dst=some x->x < n):=fun j o hj=>(AMp (ops:=ops.toArray) hb (j:=j) (by simpa using hj)).1
  have hsz:List.range ops.toArray.size=List.range' 0 pre.length ++ pre.length :: (List.range' (pre.length + 1) post.length ++ []):=by
    rw [List.range_eq_range',<- hops];simp only [List.size_toArray,List.length_append,List.length_cons,List.append_nil];rw [<- List.range'_append_1,Nat.zero_add,List.range'_succ]
  rw [Bool.and_eq_true] at hnd;have hnd:=List.all_eq_true.1 hnd.1;refine wpIn_region ?_;rw [hsz]
  refine ATb (D:=[]) (n:=n) (B:=fun _=>True) _ pre 0 e a w _ (fun j o hj=>?_) (AMm.of r) (RL.frameT (T:=fun t=> ∃ o∈ops,o.dst=some t) (e0:=e) (fun o ho t ht=>⟨o,by rw [<- hops];simp [ho],ht⟩) (fun _ _=>rfl) H) fun e1 a1 w1 r1 s1 k1=>?_
  · have h1:ops[j]? =some o:=by rw [<- hops,List.getElem?_append_left (List.getElem?_eq_some_iff.1 hj).1];exact hj
    exact ⟨by simpa using h1,hnd o (List.mem_append_left _ (List.mem_of_getElem? hj)),hat j o h1⟩
  obtain ⟨⟨hc,l1,hl1,HY⟩,hf1⟩:=k1;rw [wpOpsIn_cons];have hop:ops.toArray[pre.length]? =some ⟨some d,.call ⟨.value c,xs.toArray,ts⟩,ty,pos,af,none⟩:=by rw [<- hops];simp
  unfold wpOpIn;simp only [hop];rw [if_pos (by rfl)];refine ⟨fun _ _=>trivial,?_⟩;obtain ⟨f,tmps,assign,body,hy,HR⟩:=HY w1 rfl
  have hrun:(execOp a1.eval ⟨some d,.call ⟨.value c,xs.toArray,ts⟩,ty,pos,af,none⟩).run P w1= .ok (.round l f tmps assign body) w1:=by
    rw [r1.eval];simp only [execOp,resolve,List.map_toArray,hl1,hc,Deferred.ofValue,pure,bind,Sem.bind,invoke,Array.append_empty,Array.empty_append];exact hy
  show Oper.uponIn _ _ _ _ _ _ _ ((execOp a1.eval ⟨some d,.call ⟨.value c,xs.toArray,ts⟩,ty,pos,af,none⟩).run P w1);rw [hrun];refine ⟨fun _=>Nat.le_refl 1,HR.mono fun en w2 hen=>?_⟩;obtain ⟨v,rfl,s2,k2⟩:=hen;have hdn:d < n:=hat pre.length _ (by simpa using hop) d rfl;have r2:AMm [] n (e1.set d v) (a1.put (some d) v):=r1.put (some d) v fun x hx=>by cases hx;exact hdn
  refine ATb (D:=[]) (n:=n) (B:=fun _=>True) [] post (pre.length + 1) (e1.set d v) _ w2 _ (fun j o hj=>?_) r2 (RL.frameT (T:=fun t=> ∃ o∈ops,o.dst=some t) (e0:=e) (fun o ho t ht=>⟨o,by rw [<- hops];simp [ho],ht⟩) (fun t ht=>?_) k2) fun e3 a3 w3 r3 s3 k3=>?_
  · have h1:ops[pre.length + 1 + j]? =some o:=by rw [<- hops,List.getElem?_append_right (by omega),show pre.length + 1 + j - pre.length=j + 1 from by omega];exact hj
    exact ⟨by simpa using h1,hnd o (List.mem_append_right _ (List.mem_of_getElem? hj)),hat _ o h1⟩
  · rw [Env.set_other _ _ (fun he=>ht ⟨_,by rw [<- hops];exact List.mem_append_right _ (List.mem_cons_self ..),by rw [he]⟩)];exact hf1 t ht
  · exact hQ e3 a3 w3 r3.rep ((s1.trans s2).trans s3) k3.1 fun t ht=>k3.2 t fun ⟨o,ho,hd⟩=>ht o (by simpa using ho) hd
def Ag0 (P:Program) (g:Operand) (p:Tmp) (assign body:Code) (n:Nat) (K:Nat->Env->ABk->Prop) (e:Env) (h:ABk):Prop:=
  ∃ (f:FuncId) (cl:List Value),e.ev g= .func (.func f) #[] cl.toArray/\ ∀ (fn:FuncId) (tmps:Array Value),tmps.size=n->(∀ t,tmps.getD t undef=e t)-> ∀ (h1:ABk) (r b:Nat),Ext h h1->h.size<=r->h.size<=b->r < h1.size->b < h1.size->r≠b->
    h1[r]? =some (.deferred (some []))->h1[b]? =some (.loop (AMy fn tmps p assign body r))->
    AB9 P f (.func (.yield b) #[] #[] :: cl).toArray h1 fun _ h'=>h'[b]? =some (.loop (AMy fn tmps p assign body r))/\K r e (h'.setIfInBounds b (.loop { AMy fn tmps p assign body r with state:= .exhausted }))
def Aug (P:Program) (rs:List ResultVar) (r:Nat) (K:Value->ABk->Prop):Exit->Env->ABk->Prop
  | .normal,e,h | .ret,e,h=>h[r]? =some (.deferred (some []))/\ ∃ v,AW3 P rs e (h.setIfInBounds r (.deferred none)) v/\K v (h.setIfInBounds r (.deferred none))
  | _,_,_=>False
theorem Aex {P:Program} (hmx:P.follows .mixedOrders=true) {id:Nat} {g:Operand} {p:Tmp} {assign body:Code} {n:Nat} {K:Nat->Env->ABk->Prop} {e1:Env} {a1:Act} {w1:World} {Q':Exit->Act->World->Prop} (r1:Rep n e1 a1) (H:Ag0 P g p assign body n K e1 w1.heap) (hQ:∀ r e' a' w',AMm [{ target:= .collected r,args:= #[] }] n e' a'->Same w1 w'->K r e' w'.heap->Q' .normal a' w'):(Code.block id (.rangeFunc g #[p] assign body)).wpIn Fence.wide 1 P Q' a1 w1:=by
 obtain ⟨f2,cl,hg,HC⟩:=H;refine wpIn_block (wpIn_rangeFunc fun fid _=>?_);have Af:(w1.alloc (.deferred (some []))).heap.size=w1.heap.size + 1:=by show (w1.heap.push _).size=_;simp
 have hext:Ext w1.heap ((w1.alloc (.deferred (some []))).alloc (.loop (AMy fid a1.tmps p assign body w1.heap.size))).heap:=by
   show Ext w1.heap ((w1.heap.push _).push _)
   refine ⟨by simp;omega,fun k hk=>?_⟩
   rw [Array.getElem?_push_lt (by simp;omega)]
   simp [Array.getElem_push_lt hk,hk]
 have h1:((w1.alloc (.deferred (some []))).alloc (.loop (AMy fid a1.tmps p assign body w1.heap.size))).heap[w1.heap.size]? =some (.deferred (some [])):=by
   show ((w1.heap.push _).push _)[w1.heap.size]? =_
   rw [Array.getElem?_push_lt (by simp)];simp
 have h2:((w1.alloc (.deferred (some []))).alloc (.loop (AMy fid a1.tmps p assign body w1.heap.size))).heap[w1.heap.size + 1]? =some (.loop (AMy fid a1.tmps p assign body w1.heap.size)):=by
   have:=World.alloc_heap_new (w1.alloc (.deferred (some []))) (.loop (AMy fid a1.tmps p assign body w1.heap.size))
   rwa [Af] at this
 have hsz:((w1.alloc (.deferred (some []))).alloc (.loop (AMy fid a1.tmps p assign body w1.heap.size))).heap.size=w1.heap.size + 2:=by show ((w1.heap.push _).push _).size=_;simp
 obtain ⟨⟨Ai,Aj,Ak,Am⟩,Ao⟩:=HC fid a1.tmps r1.size r1.get _ w1.heap.size (w1.heap.size + 1) hext (Nat.le_refl _) (Nat.le_succ _) (by omega) (by omega) (by omega) h1 h2;have hcall:=ARk ⟨Ai,Aj,Ak,Am⟩ (.func (.yield (w1.heap.size + 1)) #[] #[] :: cl).toArray ((w1.alloc (.deferred (some []))).alloc (.loop (AMy fid a1.tmps p assign body w1.heap.size)));have heval:a1.eval g= .func (.func f2) #[] cl.toArray:=by rw [r1.eval];exact hg
 refine ⟨_,_,_,{ target:= .fn (.func f2) cl.toArray,args:= #[.func (.yield (w1.heap.size + 1)) #[] #[]] },(w1.alloc (.deferred (some []))).alloc (.loop (AMy fid a1.tmps p assign body w1.heap.size)),f2,(.func (.yield (w1.heap.size + 1)) #[] #[] :: cl).toArray,(w1.alloc (.deferred (some []))).alloc (.loop (AMy fid a1.tmps p assign body w1.heap.size)),run_enterLoop_outer fid a1.tmps #[p] assign body,?_,fun _ _=>trivial,?_,fun _=>Nat.le_refl 1,?_⟩
 ·simp only [resolve,heval,Deferred.ofValue,pure,bind,Sem.bind];rw [show (#[] ++ Array.map a1.eval #[Operand.const (Value.func (Fn.yield (w1.heap.size + 1)) #[] #[])]:Array Value)= #[.func (.yield (w1.heap.size + 1)) #[] #[]] by simp;rfl];rfl
 ·show (invoke (.fn (.func f2) cl.toArray) #[.func (.yield (w1.heap.size + 1)) #[] #[]]).run P _=_;simp only [invoke];have:(#[Value.func (.yield (w1.heap.size + 1)) #[] #[]] ++ cl.toArray)=(.func (.yield (w1.heap.size + 1)) #[] #[] :: cl).toArray:=by simp
  rw [this];exact hcall
 ·refine (Air (r:=none) (Ao _ rfl)).mono fun en w2 hen=>?_;obtain ⟨v,rfl,s2,k2,k3⟩:=hen;refine ⟨none,_,run_endLoop k2 (by simp [AMy]),?_⟩;have Ar:Same w1 ((w1.alloc (.deferred (some []))).alloc (.loop (AMy fid a1.tmps p assign body w1.heap.size))):=⟨rfl,rfl,rfl⟩;have Au:AMm [{ target:= .collected w1.heap.size,args:= #[] }] n e1 { a1 with defers:=[{ target:= .collected w1.heap.size,args:= #[] }] ++ a1.defers } :=⟨⟨r1.size,rfl,r1.get⟩,by simp [r1.defers]⟩;exact hQ w1.heap.size e1 _ _ Au (Ar.trans (s2.trans (AVo _ _ _))) k3
theorem Akd {P:Program} (hmx:P.follows .mixedOrders=true) {g:Operand} {p:Tmp} {assign body:Code} {n:Nat} {K:Nat->Env->ABk->Prop} {e:Env} {h:ABk} (hok:(okI n assign && okI n body && Nat.blt p n)=true)
    (H:∃ (f:FuncId) (cl:List Value),e.ev g= .func (.func f) #[] cl.toArray/\ ∀ (h1:ABk) (r b:Nat) (ol ob oe:Obj),Ext h h1->h.size<=r->h.size<=b->r < h1.size->b < h1.size->r≠b->h1[r]? =some (.deferred (some []))->h1[b]? =some ol->Abd ol=false->Abd ob=false->Abd oe=false->
      (∀ (v:Value) (h2:ABk) (K':Value->ABk->Prop),h2[b]? =some ol->WI P assign (Aat fun e1 h3=>h3[b]? =some ol/\WI P body (Aat fun _ h4=>h4[b]? =some ob/\K' (.bool true) (h4.setIfInBounds b ol)) e1 (h3.setIfInBounds b ob)) (e.set p v) h2->AR7 P b [v] h2 K')->
      AB9 P f (.func (.yield b) #[] #[] :: cl).toArray h1 fun _ h'=>h'[b]? =some ol/\K r e (h'.setIfInBounds b oe)):Ag0 P g p assign body n K e h:=by
  obtain ⟨f,cl,hg,H⟩:=H;simp only [Bool.and_eq_true] at hok;refine ⟨f,cl,hg,fun fn tmps hn ht h1 r b hE h2 h3 h4 h5 hne hd hl=>?_⟩;exact H h1 r b _ (.loop (Ais fn tmps p assign body r)) _ hE h2 h3 h4 h5 hne hd hl rfl rfl rfl fun v h2 K' hl2 HW=>Akc hmx hl2 hn ht (by have:=hok.2;simpa [Nat.blt,Nat.lt_iff_add_one_le] using this) hok.1.1 hok.1.2 HW
def Aey:Code->Bool
  | .rangeFunc .. =>true
  | .seq a b=>Aey a || Aey b
  | .block _ c=>Aey c
  | _=>false
def WR (P:Program) (n:Nat):Code->(Nat->Exit->Env->ABk->Prop)->(Exit->Env->ABk->Prop)->Env->ABk->Prop
  | .seq a b,N,Q,e,h=>if Aey a=true then WR P n a (fun r=>AKq (fun e h=>WI P b (N r) e h) (N r)) (AKq (fun e h=>W P b Q e h) Q) e h else W P a (AKq (fun e h=>WR P n b N Q e h) Q) e h
  | .block _ (.rangeFunc g ps assign body),N,_,e,h=> ∃ p,ps= #[p]/\Ag0 P g p assign body n (fun r e h=>N r .normal e h) e h
  | _,_,_,_,_=>False
def okR (n:Nat):Code->Bool
  | .seq a b=>bif Aey a then okR n a && okI n b && okC n b else okC n a && okR n b
  | .block _ (.rangeFunc ..)=>true
  | _=>false
theorem As9 {P:Program} {n:Nat} {a b:Code} {N:Nat->Exit->Env->ABk->Prop} {Q:Exit->Env->ABk->Prop} {e:Env} {h:ABk} (ha:Aey a=true) (H:WR P n a (fun r=>AKq (fun e h=>WI P b (N r) e h) (N r)) (AKq (fun e h=>W P b Q e h) Q) e h):WR P n (.seq a b) N Q e h:=by
 unfold WR;rw [if_pos ha];exact H
theorem AZa {P:Program} {n:Nat} {a b:Code} {N:Nat->Exit->Env->ABk->Prop} {Q:Exit->Env->ABk->Prop} {e:Env} {h:ABk} (ha:Aey a=false) (H:W P a (AKq (fun e h=>WR P n b N Q e h) Q) e h):WR P n (.seq a b) N Q e h:=by
 unfold WR;rw [if_neg (by rw [ha];simp)];exact H
theorem Aqk {P:Program} (hmx:P.follows .mixedOrders=true) {n id:Nat} {g:Operand} {p:Tmp} {assign body:Code} {N:Nat->Exit->Env->ABk->Prop} {Q:Exit->Env->ABk->Prop} {e:Env} {h:ABk} (hok:(okI n assign && okI n body && Nat.blt p n)=true) (H:∃ (f:FuncId) (cl:List Value),e.ev g= .func (.func f) #[] cl.toArray/\ ∀ (h1:ABk) (r b:Nat) (ol ob oe:Obj),Ext h h1->h.size<=r->h.size<=b->r < h1.size->b < h1.size->r≠b->h1[r]? =some (.deferred (some []))->h1[b]? =some ol->Abd ol=false->Abd ob=false->Abd oe=false->
      (∀ (v:Value) (h2:ABk) (K':Value->ABk->Prop),h2[b]? =some ol->WI P assign (Aat fun e1 h3=>h3[b]? =some ol/\WI P body (Aat fun _ h4=>h4[b]? =some ob/\K' (.bool true) (h4.setIfInBounds b ol)) e1 (h3.setIfInBounds b ob)) (e.set p v) h2->AR7 P b [v] h2 K')->
      AB9 P f (.func (.yield b) #[] #[] :: cl).toArray h1 fun _ h'=>h'[b]? =some ol/\N r .normal e (h'.setIfInBounds b oe)):WR P n (.block id (.rangeFunc g #[p] assign body)) N Q e h:=⟨p,rfl,Akd hmx hok H⟩
theorem WR.sound {P:Program} (hmx:P.follows .mixedOrders=true) {n:Nat} {c:Code}:∀ {N:Nat->Exit->Env->ABk->Prop} {Q:Exit->Env->ABk->Prop} {Q':Exit->Act->World->Prop} {e:Env} {a:Act} {w:World},okR n c=true->Rep n e a->WR P n c N Q e w.heap->
    (∀ x e' a' w',Rep n e' a'->Same w w'->Q x e' w'.heap->Q' x a' w')->(∀ r x e' a' w',AMm [{ target:= .collected r,args:= #[] }] n e' a'->Same w w'->N r x e' w'.heap->Q' x a' w')->c.wpIn Fence.wide 1 P Q' a w:=by
 induction c with
 | seq x y ihx ihy=>
   intro N Q Q' e a w hok r H hQ hN
   unfold WR at H
   unfold okR at hok
   by_cases hx:Aey x=true
   · rw [if_pos hx] at H
     rw [hx] at hok
     simp only [cond_true,Bool.and_eq_true] at hok
     refine wpIn_seq (ihx hok.1.1 r H (fun ex e' a' w' r' s k=>?_) fun rr ex e' a' w' r' s k=>?_)
     · cases ex <;> first | exact hQ _ _ _ _ r' s k | exact wpIn_wide.2 (W.sound hmx hok.2 r' k fun Ac e2 a2 w2 r2 s2 k2=>hQ _ _ _ _ r2 (s.trans s2) k2)
     · cases ex <;> first | exact hN _ _ _ _ _ r' s k | exact WI.sound (ro:=none) hmx hok.1.2 r' k fun Ac e2 a2 w2 r2 s2 k2=>hN _ _ _ _ _ r2 (s.trans s2) k2
   · rw [if_neg hx] at H
     rw [Bool.not_eq_true] at hx
     rw [hx] at hok
     simp only [cond_false,Bool.and_eq_true] at hok
     refine wpIn_seq (wpIn_wide.2 (W.sound hmx hok.1 r H fun ex e' a' w' r' s k=>?_))
     cases ex <;> first | exact hQ _ _ _ _ r' s k | exact ihy hok.2 r' k (fun Ac e2 a2 w2 r2 s2 k2=>hQ _ _ _ _ r2 (s.trans s2) k2) fun rr Ac e2 a2 w2 r2 s2 k2=>hN _ _ _ _ _ r2 (s.trans s2) k2
 | block id c ih=>
   intro N Q Q' e a w hok r H hQ hN
   cases c <;> first | exact H.elim | skip
   obtain ⟨p,rfl,H⟩:=H
   exact Aex hmx r H fun rr e' a' w' r' s k=>hN _ _ _ _ _ r' s k
 | skip=>intro N Q Q' e a w _ _ H;exact H.elim
 | region=>intro N Q Q' e a w _ _ H;exact H.elim
 | cond=>intro N Q Q' e a w _ _ H;exact H.elim
 | loop=>intro N Q Q' e a w _ _ H;exact H.elim
 | exit=>intro N Q Q' e a w _ _ H;exact H.elim
 | ret=>intro N Q Q' e a w _ _ H;exact H.elim
 | rangeFunc=>intro N Q Q' e a w _ _ H;exact H.elim
 | scope=>intro N Q Q' e a w _ _ H;exact H.elim
 | label=>intro N Q Q' e a w _ _ H;exact H.elim
 | goto=>intro N Q Q' e a w _ _ H;exact H.elim
 | refuse=>intro N Q Q' e a w _ _ H;exact H.elim
theorem Aez {P:Program} (hmx:P.follows .mixedOrders=true) {f:FuncId} {fn:Func} {c:Code} {rs:List ResultVar} {n:Nat} {l:List Value} {h:ABk} {K:Value->ABk->Prop} (hf:P.funcs[f]? =some fn) (hnm:(fn.name == "runtime.NumGoroutine")=false) (hb:fn.body=some c) (hr:fn.results=rs.toArray) (hnt:fn.ntmps=n) (hl:Nat.ble l.length n=true) (hok:okR n c=true) (H:WR P n c (fun r=>Aug P rs r K) (Aon P rs K) (AZg l) h):AB9 P f l.toArray h K:=by
 refine ⟨⟨fn,hf,hnm,by simp [hb]⟩,fun w hw=>?_⟩;subst hw;have hl:=Nat.le_of_ble_eq_true hl;rw [<- callsIn_wide (n:=1)];have hres:∀ {e':Env} {a':Act} {w2:World} {D:List Deferred} {v:Value},AMm D n e' a'->AW3 P rs e' w2.heap v->(results fn a'.tmps).run P w2= .ok v w2:=fun r hv=>hv fn _ _ hr r.r.get rfl;refine callsIn_of_wp_marks hf hb trivial (WR.sound hmx (n:=n) hok (e:=AZg l) ⟨?_,rfl,fun t=>?_⟩ H (fun x e1 a1 w1 r1 s1 k1=>?_) fun r x e3 a3 w3 r3 s3 k3=>?_)
 ·simp [hnt];omega
 ·rw [AXv];simp only [Array.getD_eq_getD_getElem?];rw [Array.getElem?_append];split
  ·simp
  ·rename_i hge;have hge':l.length<=t:=by simpa using hge
   rw [List.getElem?_eq_none hge'];simp only [Option.getD_none];rw [Array.getElem?_replicate];split <;> rfl
 ·have early:∀ {v:Value},AW3 P rs e1 w1.heap v->K v w1.heap->LeavesInM Fence.wide 1 P fn a1.tmps (fun en w'=> ∃ v,en= .returned v/\Same w w'/\K v w'.heap) a1.defers .returning w1:=by
    intro v hv hk
    rw [r1.defers]
    exact ⟨v,hres (AMm.of r1) hv,v,rfl,s1,hk⟩
  cases x <;> first | exact k1.elim | (obtain ⟨v,hv,hk⟩:=k1;exact early hv hk)
 ·have fin:(w3.heap[r]? =some (.deferred (some []))/\ ∃ v,AW3 P rs e3 (w3.heap.setIfInBounds r (.deferred none)) v/\K v (w3.heap.setIfInBounds r (.deferred none)))->LeavesInM Fence.wide 1 P fn a3.tmps (fun en w'=> ∃ v,en= .returned v/\Same w w'/\K v w'.heap) a3.defers .returning w3:=by
    rintro ⟨hd,v,hv,hk⟩
    rw [r3.d]
    refine ⟨by simp,.inl ⟨r,w3.putObj r (.deferred none),rfl,run_takeDeferred hd,?_⟩⟩
    exact ⟨v,hres (w2:=w3.putObj r (.deferred none)) r3 hv,v,rfl,s3.trans (AVo _ _ _),hk⟩
  cases x <;> first | exact k3.elim | exact fin k3
end Go.QF
namespace Go.QF
open Go
theorem Ata {P:Program} {B:ABk->Prop} {st:Bool} {ops:Array Oper} {rest:List Oper} {e:Env} {h:ABk} {K:Env->ABk->Prop} {d:Nat} {ty:TypeId} {pos:String} {af:Array Edge} {t el s:Nat} (hT:SlT P t el s) (hb:B h)
    (H:B (h.push (.cells #[] el (0,0)))/\RL P B st ops rest (e.set d (.slice (some ⟨h.size,0,none⟩) 0 0)) (h.push (.cells #[] el (0,0))) K):
    RL P B st ops (⟨some d,.buildSlice t 0 #[],ty,pos,af,none⟩ :: rest) e h K:=by
  refine AOr rfl rfl hb fun w hw=>?_;subst hw;obtain ⟨hu,i0,hi0,hs0⟩:=hT
  have hrun:(execOp e.ev ⟨some d,.buildSlice t 0 #[],ty,pos,af,none⟩).run P w= .ok (.value (.slice (some ⟨w.heap.size,0,none⟩) 0 0)) (w.alloc (.cells #[] el)):=by
    simp [execOp,Instr.buildSlice,AMq hu,AO8 hi0,Instr.fill,newRow];rw [show Array.range 0= #[] from rfl,Array.map_empty]
  rw [hrun];exact ⟨⟨rfl,rfl,rfl⟩,H.1,H.2⟩
theorem Aql {h:ABk} {κ:IntKind} {a:Option Addr} {n c:Nat} {L:List Int} (H:SlC (cI κ) h (.slice a n c) L) (hn:a=none):L=[]:=by
 subst hn;obtain ⟨Ls,⟨xa,xc,hv,hx⟩,hA⟩:=H;injection hv with h1 h2 h3
 cases Ls with
 | nil=>exact List.eq_nil_of_length_eq_zero hA.1.symm
 | cons r Ls=>
   obtain ⟨b,o,hb,_⟩:=hx 0 r rfl
   rw [<- h1] at hb;cases hb
theorem Aqm {h:ABk} {κ:IntKind} {a:Option Addr} {n c:Nat} (H:SlC (cI κ) h (.slice a n c) []):n=0:=by
 obtain ⟨Ls,⟨xa,xc,hv,hx⟩,hA⟩:=H;injection hv with h1 h2 h3;rw [h2];exact hA.1
theorem Aqn (h:ABk):Sp h h.size [[]]:=⟨by simp,fun b hb=>by simp at hb⟩
theorem Aqo {P:Program} {B:ABk->Prop} {st:Bool} {ops:Array Oper} {rest:List Oper} {e:Env} {h:ABk} {K:Env->ABk->Prop} {d:Nat} {ty:TypeId} {pos:String} {af:Array Edge} {s x:Operand} {t el:TypeId} {g n c:Nat} {xa:Option Addr} (hT:SlT P t el 1) (hb:B h) (hs:e.ev s= .slice (some ⟨g,0,none⟩) 0 0) (hx:e.ev x= .slice xa n c) (hn:n=0)
    (H:RL P B st ops rest (e.set d (.slice (some ⟨g,0,none⟩) 0 0)) h K):RL P B st ops (⟨some d,.call ⟨.builtin .append,#[s,x],#[t,t]⟩,ty,pos,af,none⟩ :: rest) e h K:=by
  subst hn;refine AOr rfl rfl hb fun w hw=>?_;subst hw;obtain ⟨hu,i,hi,hs0⟩:=hT
  have hc:(Builtin.firstCells i.size 0 (.slice xa 0 c)).run P w= .ok #[] w:=by
    cases xa with
    | none=>exact run_firstCells_none (P:=P) w _ 0 0 c
    | some a=>exact run_firstCells_some (P:=P) w i.size 0 a 0 c [] (by simp) (fun j v hj=>by simp at hj)
  have hrun:(execOp e.ev ⟨some d,.call ⟨.builtin .append,#[s,x],#[t,t]⟩,ty,pos,af,none⟩).run P w= .ok (.value (.slice (some ⟨g,0,none⟩) 0 0)) w:=by
    simp [execOp,resolve,invoke,builtin,hs,hx,Builtin.append_,AMq hu,AO8 hi,Builtin.lenOf,hc,storeCells,Result.andThen]
  rw [hrun];exact ⟨⟨rfl,rfl,rfl⟩,hb,H⟩
theorem Anz {P:Program} {B:ABk->Prop} {st:Bool} {ops:Array Oper} {rest:List Oper} {e:Env} {h:ABk} {K:Env->ABk->Prop} {d:Nat} {ty:TypeId} {pos:String} {af:Array Edge} {x y:Operand} {t t2 el:TypeId} {s:Nat} {a:Option Addr} {n c:Nat} (hT:SlT P t el s) (hx:e.ev x= .slice a n c) (hy:e.ev y= .slice none 0 0) (H:RL P B st ops rest (e.set d (.bool a.isNone)) h K):
    RL P B st ops (⟨some d,.binOp .eql t x y t2,ty,pos,af,none⟩ :: rest) e h K:=
  AGf (v:= .bool a.isNone) rfl rfl (fun w=>by
    have hr:(Op.equal t (.slice a n c) (.slice none 0 0)).run P w= .ok a.isNone w:=by
      show (Op.equalIn (9999 + 1) t _ _).run P w=_;rw [Op.equalIn];cases a <;> simp [AMq hT.1]
    simp [execOp,hx,hy,eqGuard,binOp,hr]) H
theorem Ait {h:ABk} {κ:IntKind} {el g:Nat} {v:Value} {L:List Int} (H:AD7 h el g v (L.map (.int κ))) (hel:Nat.beq el 147=false):OwC (cI κ) el h [g] v L:=by
 refine .inr ⟨g,L.map fun a=>[.int κ a],rfl,?_,⟨by simp,fun i cs a h1 h2=>?_⟩,hel⟩
 ·have:=Abf H;rwa [List.map_map] at this
 ·rw [List.getElem?_map,h2] at h1;cases h1;rfl
theorem AR7.mono {P:Program} {l:Nat} {args:List Value} {h:ABk} {K K':Value->ABk->Prop} (H:AR7 P l args h K') (hK:∀ v h',K' v h'->K v h'):AR7 P l args h K:=fun w hw=>by
  obtain ⟨f,tmps,assign,body,h1,h2⟩:=H w hw
  exact ⟨f,tmps,assign,body,h1,h2.mono fun en w' ⟨v,he,hs,hk⟩=>⟨v,he,hs,hK _ _ hk⟩⟩
theorem An0 {P:Program} {Q:Exit->Env->ABk->Prop} {e:Env} {h:ABk} {id l:Nat} {o1 o2:Oper} {post:List Oper} {d:Tmp} {c:Operand} {xs:List Operand} {ts:Array TypeId} {ty:TypeId} {pos:String} {af:Array Edge} (hnd:(([o1,o2] ++ post).all AQa && ([o1,o2] ++ ⟨some d,.call ⟨.value c,xs.toArray,ts⟩,ty,pos,af,none⟩ :: post).all AHj)=true) (H:RL P (fun _=>True) false (o1 :: o2 :: ⟨some d,.call ⟨.value c,xs.toArray,ts⟩,ty,pos,af,none⟩ :: post).toArray [o1,o2] e h fun e1 h1=>e1.ev c= .func (.yield l) #[] #[]/\ ∃ l1,xs.map e1.ev=l1/\AR7 P l l1 h1 fun v h2=>
      RL P (fun _=>True) false (o1 :: o2 :: ⟨some d,.call ⟨.value c,xs.toArray,ts⟩,ty,pos,af,none⟩ :: post).toArray post (e1.set d v) h2 (Q .normal)):
    W P (.region id (o1 :: o2 :: ⟨some d,.call ⟨.value c,xs.toArray,ts⟩,ty,pos,af,none⟩ :: post).toArray false) Q e h:=Aqj (pre:=[o1,o2]) hnd H
end Go.QF
namespace Go.Proofs.YtiegjkmfpcgjjaaGreatDoor
open Go Go.QF
theorem Aro:ZeT Tryz.prog 22 (.slice none 0 0) 24:=ASz (by kernel_rfl)
def aOb (b:Nat) (o:Obj):Asr:=⟨[b],fun h=>h[b]? =some o,fun {G h h'} U d H=>(U.1.2 b (Array.getElem?_eq_some_iff.1 H).1 (d b (by simp))).trans H⟩
namespace Kst
variable {h0 h h':ABk} {l l':List Asr}
theorem ob (k:Kst h0 h l) {i b:Nat} {o:Obj} (e:Rep i l (aOb b o) (aOb b o) l'):h[b]? =some o:=AM7 k.p e.1
theorem rg (k:Kst h0 h l) (E:Ext h h') {r b:Nat} {o o2:Obj} (h1:h.size<=r) (h2:h.size<=b) (h3:r < h'.size) (h4:b < h'.size) (hne:r≠b) (H1:h'[r]? =some o) (H2:h'[b]? =some o2):Kst h0 h' (aOb r o :: aOb b o2 :: l):=
  k.n E [aOb r o,aOb b o2] (Af8 h1 h2 h3 h4 hne) ⟨H1,H2,trivial⟩
theorem uob (k:Kst h0 h l) {i b:Nat} {o o':Obj} (e:Rep i l (aOb b o) (aOb b o') l') (hd:Abd o=false) (hd':Abd o'=false):∃ h',Array.setIfInBounds h b o'=h'/\UpT [b] h h'/\Kst h0 h' l':=by
 have H:h[b]? =some o:=AM7 k.p e.1;have hb:=(Array.getElem?_eq_some_iff.1 H).1;have H':(h.setIfInBounds b o')[b]? =some o':=by simp [hb]
 have U:UpT [b] h (h.setIfInBounds b o'):=⟨⟨by simp,fun k hk hn=>by rw [Array.getElem?_setIfInBounds_ne (fun he=>hn (by simp [he]))]⟩,fun x hx hl=>by
   rw [List.mem_singleton.1 hx];exact ⟨⟨o,H,hd⟩,⟨o',H',hd'⟩⟩⟩
 exact ⟨_,rfl,U,k.u e U H' (by simp [aOb]) (fun x hx=>by simp [aOb] at hx;subst hx;simpa using hb) fun x hx=> .inl hx⟩
theorem rowS {α:Type} {c:Cod α} (k:Kst h0 h l) {i er el:Nat} {F:List Nat} {Gs:List (List Nat)} {rs:List Value} {v:Value} {M:List (List α)} (e:Rep i l (aO2 c er el F Gs rs v M) (aO2 c er el F Gs rs v M) l') {q:Int} {r:Value} {L:List α} (hr:rs[q.toNat]? =some r) (hL:gI M q=some L):∃ G,OwC c el h G r L/\Sp h h0.size [G]:=by
 obtain ⟨n,rfl,hL⟩:=AJe hL;obtain ⟨G,_,HO,hG⟩:=(k.o2 e).row hr hL
 exact ⟨G,HO,by simpa using HO.nodup,fun b hb=>by
   have hb:b∈G:=by simpa using hb
   exact ⟨k.lo e b (hG b hb),HO.lt b hb⟩⟩
end Kst
def AJ4 (fuel:Nat) (L:List Int):Option (List Int):=if L.length<=100000000 then some L else none
theorem AQb {fuel:Nat} {h:ABk} {v:Value} {L r:List Int} (H:SlC (cI .i64) h v L) (hp:AJ4 fuel L=some r):AB9 Tryz.prog 37 #[v] h (fun x h'=>Ext h h'/\ ∃ (x0:Value) (F0:List Nat),x=x0/\OwC (cI .i64) 2 h' F0 x0 r/\Sp h' h.size [F0]):=by
 unfold AJ4 at hp;obtain ⟨hl,hp⟩:=ifN hp;cases hp;obtain ⟨a,n,c,hv⟩:∃ a n c,v= .slice a n c:=by obtain ⟨Ls,⟨xa,xc,hv,_⟩,_⟩:=H;exact ⟨_,_,_,hv⟩
 subst hv;refine ACz (l:=[_]) mx Tryz.func37 rfl rfl rfl rfl rfl (by kernel_rfl) (ABj (ABq (ABn (ABj (Wl (Anz (a:=a) (n:=n) (c:=c) ABv rfl rfl (ABp (⟨_,rfl,fun hc=>?_,fun hc=>?_⟩))))))))
 ·refine ABj (ABq (ABt (AB1 ?_)));have hL:L=[]:=Aql H (by cases a with | none=>rfl | some a=>cases hc);subst hL;exact ⟨_,ABu,Ext.refl _,_,[],rfl,Abe _ _ _,Aqn _⟩
 ·refine ABs (q_t (ABj (Ata ABv trivial ⟨trivial,?_⟩)));have E0:Ext h (h.push (.cells #[] 2 (0,0))):=AEd _ _;have hO:AD7 (h.push (.cells #[] 2 (0,0))) 2 h.size (.slice (some ⟨h.size,0,none⟩) 0 0) []:=AXy h 2 [] (by simp);by_cases hL:L=[]
  ·subst hL;refine Wl (Aqo (xa:=a) (n:=n) (c:=c) ABv trivial rfl rfl (Aqm H) (ABq (ABt ?_)));exact ⟨_,ABu,E0,_,[h.size],rfl,Ait (κ:= .i64) hO (by kernel_rfl),AGr (Nat.le_refl _) (by simp)⟩
  ·have H2:Sl (h.push (.cells #[] 2 (0,0))) (.slice a n c) (L.map (.int .i64)):=Ari (H.ext E0);refine Wl (Aq4 (bytes:=8) ABv AGz rfl trivial rfl hO rfl H2 (fun u hu=>by obtain ⟨q,_,rfl⟩:=List.mem_map.1 hu;rfl) (by simpa using hL) (by simp;omega) (by simp;omega) fun v' g' h' HO hg U=>⟨trivial,?_⟩);refine ABq (ABt ?_);have Ae:h.size<=g':=by rcases hg with rfl | rfl <;> simp
   exact ⟨_,ABu,⟨Nat.le_trans E0.1 U.1,fun k hk=>(U.2 k (by simp;omega) (by omega)).trans (E0.2 k hk)⟩,_,[g'],rfl,Ait (κ:= .i64) (v:=v') (by simpa using HO) (by kernel_rfl),AGr Ae HO.lt⟩
end Go.Proofs.YtiegjkmfpcgjjaaGreatDoor
namespace Go.Proofs.YtiegjkmfpcgjjaaGreatDoor
open Go Go.QF
open Go.ChangeShapes Go.WideShapes Go.ChangeAt Go.RowKit
set_option maxRecDepth 100000
theorem Aqp {H:Type} {enc:TypeId × Value->H} {W:World} {fuel:Nat} {v:Value} {x:DataW H × List MemPlace} (hf:DataW.trod enc Tryz.prog W 0 (fun _=>true) true fuel 23 [v]=some x):∃ Z:List Int,SlC (cI .i64) W.heap v Z:=by
 rcases open_ints Tryz.underlying23 Tryz.underlying2 AVz hf with ⟨hcs,_⟩ | ⟨a,len,cap,zs,hcs,_,hl,_,hz,_,hcell,hwz⟩
 ·simp at hcs;subst hcs;exact ⟨[],Ahl _ _⟩
 ·simp at hcs;subst hcs;simp only [if_true] at hz;refine ⟨zs.take len,Ab1 (AP5 (by simp;omega) (fun h=>by cases h) fun a' ha i x hx=>?_)⟩;injection ha with ha;subst ha;have hi:i < len:=by have:=(List.getElem?_eq_some_iff.1 hx).1;simp at this;omega
  rw [hcell i (by omega)];rw [List.getElem?_map,List.getElem?_take,if_pos hi,List.getElem?_eq_getElem (by omega)] at hx;simp only [Option.map_some,Option.some.injEq] at hx;rw [<- hx,List.getD_eq_getElem?_getD,List.getElem?_eq_getElem (by omega)];rfl
theorem Ake {H:Type} {enc:TypeId × Value->H} {W:World} {v:Value} {d:DataW H} {p:List MemPlace} (hv:∃ a len cap,v= .slice a len cap) (h:DataW.Trod enc Tryz.prog W 0 (fun _=>true) true 23 v d p):∃ Z:List Int,SlC (cI .i64) W.heap v Z:=by
 obtain ⟨fuel,hf⟩:=h;obtain ⟨a,len,cap,rfl⟩:=hv;exact Aqp hf
theorem Aqq {z:Int} (h:(Lit.int .u16 z).wf=true):0<=z/\z < 65536:=by
 simp [Lit.wf,IntKind.min,IntKind.max,IntKind.bits,IntKind.signed] at h;omega
end Go.Proofs.YtiegjkmfpcgjjaaGreatDoor
namespace Go.Proofs.YtiegjkmfpcgjjaaGreatDoor
open Go Go.QF
set_option maxRecDepth 100000
theorem ARb {M:List (List Int)} (R:ATa M):M=tab M.length M.length (ent M):=AX3 R.2.1
theorem Aqr {n:Nat} {A:Nat->Nat->Int} (Ab:1<=n) (hn:n<=8) (R:Acg n A):ATa (tab n n A):=by
 refine ⟨by rw [AC5];exact ⟨Ab,hn⟩,fun z hz=>by rw [AC5];exact AUz z hz,?_⟩;rw [AC5];have e:∀ i j,i < n->j < n->ent (tab n n A) i j=A i j:=fun i j hi hj=>Aoq hi hj;have hd:∀ k,k<=n->det k (ent (tab n n A))=det k A:=fun k hk=>ADe fun i j hi hj=>e i j (by omega) (by omega)
 have hm:∀ k i j,k<=n->i < n->j < n->Mn k (ent (tab n n A)) i j=Mn k A i j:=fun k i j hk hi hj=>by
   unfold Mn
   exact ADe fun a b ha hb=>e _ _ (AM9 hk hi) (AM9 hk hj)
 refine ⟨fun i j hi hj=>by rw [e i j hi hj,e j i hj hi];exact R.sym i j hi hj,fun k hk=>by rw [hd k hk];exact R.pos k hk,fun r l h1 h2=>?_,fun r hr=>?_,by rw [hd n (Nat.le_refl n)];exact R.dt⟩
 ·have:=R.sz r l h1 h2;unfold SzF at this ⊢;rw [hd _ (by omega),hm _ _ _ (by omega) h2 (by omega)];exact this
 ·have:=R.lv r hr;unfold LvF at this ⊢;rw [hd _ (by omega),hd _ (by omega),hd _ (by omega),hm _ _ _ (by omega) hr (by omega)];exact this
theorem An1 {n:Nat} {A:Nat->Nat->Int} (hn:n<=8) (R:Acg n A):Ach (tab n n A):=Aeu (B:=192000) (by decide) fun i j hi hj=>by have:=AXq hn R hi hj;omega
theorem AZb {M:List (List Int)} (R:ATa M):1<=det M.length (ent M)/\det M.length (ent M)<=10000:=⟨by have:=R.2.2.pos _ (Nat.le_refl _);omega,R.2.2.dt⟩
theorem Aqs {M:List (List Int)} (R:ATa M) {i j:Nat} (hi:i < M.length) (hj:j < M.length):(ent M i j).natAbs<=192000:=by have:=AXq R.1.2 R.2.2 hi hj;omega
theorem Akf {fuel:Nat} {M:List (List Int)} (R:ATa M) (hf:100 < fuel):AH5 fuel M=some (det M.length (ent M)):=by
 apply ok_eq;obtain ⟨v1,v2⟩:=AZb R;have hT:=ARb R;have h1:=R.1;unfold AH5;generalize hF:ent M=F at *;generalize hL:M.length=n at *;have hb:∀ i j,i < n->j < n->(F i j).natAbs<=192000:=fun i j hi hj=>by subst hF;subst hL;exact Aqs R hi hj
 rw [hT];refine ABo (AC9 (Agw h1.1 (by omega) (fun i j hi hj=>Nat.le_trans (hb i j hi hj) (by decide)) (by omega))) fun x hx=>?_;subst hx;refine ABo (AC9 (AVg h1.2 (fun i j hi hj=>Nat.le_trans (hb i j hi hj) (by decide)) (by omega))) fun y hy=>?_;subst hy;refine ABo (AC9 (a:=(det n F,true)) (if_pos (by omega))) fun z hz=>ABi ?_;rw [hz]
theorem AOz (a:Int) (m:Nat) (ha:0<=a) (hm:0 < m):∃ q:Nat,Int.tmod a (m:Int)=q/\q < m:=by
 rw [Int.tmod_eq_emod_of_nonneg ha];have h1:=Int.emod_nonneg a (show (m:Int)≠0 by omega);have h2:=Int.emod_lt_of_pos a (show (0:Int) < m by omega);exact ⟨(a % m).toNat,by omega,by omega⟩
end Go.Proofs.YtiegjkmfpcgjjaaGreatDoor
namespace Go.Proofs.YtiegjkmfpcgjjaaGreatDoor
open Go Go.QF
set_option maxRecDepth 100000
set_option maxHeartbeats 4000000
def AKm (fuel:Nat) (a3:LiI) (Ab:Int):Option ((Int) ⊕ ((Bool) ⊕ (Unit))):=
  (if Ab < (a3.length:Int) then ((gI a3 Ab).bind fun Ac=>((gI a3 0).bind fun Ad=>(if ¬ (Ac.length:Int)=(Ad.length:Int) then (some (Sum.inr<| Sum.inl <| false)) else (some (Sum.inl (w64 (Ab + 1))))))) else (some (Sum.inr<| Sum.inr <| ())))
def AHu (fuel:Nat) (a3:LiI):Option Bool:=
  (((if (a3.length:Int) < 1 then (some (Sum.inl <| false)) else (if 16 < (a3.length:Int) then (some (Sum.inl <| false)) else ((gI a3 0).bind fun Ab=>(if (Ab.length:Int) < 1 then (some (Sum.inl <| false)) else (if 16 < (Ab.length:Int) then (some (Sum.inl <| false)) else (some (Sum.inr <| ()))))))):Option ((Bool) ⊕ (Unit))).bind (fun ex=>match ex with | Sum.inl Ac=>(some Ac) | Sum.inr (_)=>((iter (fun s=>AKm fuel a3 s) fuel 0).bind (fun ex=>match ex with | Sum.inl Ad=>(some Ad) | Sum.inr (_)=>(some true)))))
theorem APq {fuel:Nat} {h:ABk} {Aq:Value} {a3:LiI} {r:Bool} (H2:AFn (cI .i64) h Aq a3) (hp:AHu fuel a3=some r):AB9 Tryz.prog 69 #[Aq] h (fun x h'=>Ext h h'/\x= .bool r):=by
 unfold AHu at hp;refine cwf (l:=[_]) Tryz.func69 rfl rfl (ABj (ABq ?_));have K0:=Kst.k0 h;obtain ⟨A4,Ar,Ac⟩:=ABm hp;refine ANh 134217700 (fun x:Unit=>[]) (fun x h'=>(Sum.inr <| ())=A4/\Kst h h' (K0.L)) ?_ ?_
 ·refine ABj (Wl (ADf AB3 rfl H2 (AC1 rfl rfl (Wl ?_))));by_cases Ah:(a3.length:Int) < 1
  ·rw [decide_eq_true Ah];refine ALx 8 true (AB2 rfl (Wl (AKr 13 true (AB2 rfl (Wl (AKr 20 true (AB2 rfl (ABp (ACc rfl (ABj (ABq ?_)))))))))));obtain rfl:=ABl (ifT Ar Ah);refine ABt (AB1 ?_);obtain rfl:=ABl Ac;exact ⟨_,ABu,K0.x,rfl⟩
  ·have Au:=ifF Ar Ah;rw [decide_eq_false Ah];refine ACm 8 false (Wl (ACm 8 false (ADf AB3 rfl H2 (ACm 8 false (AI4 rfl rfl (ABw rfl (Wl ?_)))))));by_cases Ai:16 < (a3.length:Int)
   ·rw [decide_eq_true Ai];refine AKr 13 true (AB2 rfl (Wl (AKr 20 true (AB2 rfl (ABp (ACc rfl (ABj (ABq ?_))))))));obtain rfl:=ABl (ifT Au Ai);refine ABt (AB1 ?_);obtain rfl:=ABl Ac;exact ⟨_,ABu,K0.x,rfl⟩
   ·rw [decide_eq_false Ai];refine ACm 13 false (Wl (ACm 13 false ?_));obtain ⟨A5,Av,Aw⟩:=ABm (ifF Au Ai);refine AIn AB3 rfl H2 rfl Av fun Br Bt Bu A6 A7=>ACm 13 false (AB8 ACo rfl (ABz A6 K0.x) (ACm 13 false (ADy ABv rfl A7 (ACm 13 false (AC1 rfl rfl (ABw rfl (Wl ?_)))))));by_cases Aj:(A5.length:Int) < 1
    ·rw [decide_eq_true Aj];refine AKr 20 true (AB2 rfl (ABp (ACc rfl (ABj (ABq ?_)))));obtain rfl:=ABl (ifT Aw Aj);refine ABt (AB1 ?_);obtain rfl:=ABl Ac;exact ⟨_,ABu,K0.x,rfl⟩
    ·have Ax:=ifF Aw Aj;rw [decide_eq_false Aj];refine ACm 20 false (Wl (ACm 20 false (AIn AB3 rfl H2 rfl Av fun Bv Bw Bx A8 A9=>ACm 20 false (AB8 ACo rfl (ABz A8 K0.x) (ACm 20 false (ADy ABv rfl A9 (ACm 20 false (AI4 rfl rfl (ABw rfl (ABp (⟨_,rfl,fun Ak=>?_,fun Ak=>?_⟩)))))))))))
     ·refine ABj (ABq ?_);obtain rfl:=ABl (AC2 Ax Ak);refine ABt (AB1 ?_);obtain rfl:=ABl Ac;exact ⟨_,ABu,K0.x,rfl⟩
     ·refine ABs (q_t ?_);exact ⟨(():Unit),⟨ABl (AC3 Ax Ak),K0⟩,trivial⟩
 rintro ⟨⟩ By Bz ⟨Ba,Ay⟩;subst Ba;refine ABn (ABj (Wl (ADf AB3 rfl H2 (Wl (ABp (ABr ?_))))));obtain ⟨Am,Bb,Az⟩:=ABm Ac;obtain ⟨Bc,Be,Bf⟩:=ACd Bb;refine ACi 2198486384660 (fun x:(Int)=>[(29,(.int .i64 x))]) (fun k x h'=>iter Bc k x=some Am/\Kst h h' (Ay.L)) (by kernel_rfl) fuel (0:(Int)) ?_ ⟨rfl,trivial⟩ ?_
 ·exact ⟨Bf,Ay⟩
 rintro B1 Bg B2 B3 ⟨Bh,Ad⟩;obtain ⟨Bi,B4,rfl,Ae,Af⟩:=AB4 Bh;rw [Be] at Ae;dsimp only at Ae;unfold AKm at Ae;refine ABj (AC1 rfl rfl (ABp (ABn (⟨_,rfl,fun Ao=>?_,fun Ao=>?_⟩))))
 ·refine ABs (q_t (ABn (ABr (ABj ?_))));obtain ⟨B5,Bj,Bl⟩:=ABm (AC2 Ae Ao);refine AIn AB3 rfl H2 rfl Bj fun B6 B7 B8 Bm Bn=>AB8 ACo rfl (ABz Bm Ad.x) (ACs (Wl (ADy ABv rfl Bn (Wl ?_))));obtain ⟨B9,Bo,A3⟩:=ABm Bl;refine AIn AB3 rfl H2 rfl Bo fun Ca Cb Cd Bp Bq=>AB8 ACo rfl (ABz Bp Ad.x) (ADy ABv rfl Bq (AHf rfl rfl (ABp (⟨_,rfl,fun Ap=>?_,fun Ap=>?_⟩))))
  ·refine ABj (ABq ?_);obtain rfl:=ABl (AC2 A3 Ap);change _=Am at Af;subst Af;refine ABt (ADl (AB1 (AB1 (ADl (AB1 ?_)))));obtain rfl:=ABl Az;exact ⟨_,ABu,Ad.x,rfl⟩
  ·refine ABs (q_b (q_t (ABy (AC0 rfl rfl (Wl (ABp ?_))))));obtain rfl:=ABl (AC3 A3 Ap);exact ⟨Bi,((w64 (Bg + 1)):(Int)),Nat.lt_succ_self _,⟨Af,Ad⟩,rfl,trivial⟩
 ·obtain rfl:=ABl (AC3 Ae Ao);change _=Am at Af;subst Af;refine ACb (ACa (ACa (ADj (q_t (ABj (ABq (ABt ?_)))))));obtain rfl:=ABl Az;exact ⟨_,ABu,Ad.x,rfl⟩
def AKy (fuel:Nat) (a3:LiI):Option Bool:=
  ((AHu fuel a3).bind fun x5=>(if x5=true then ((gI a3 0).bind fun Ac=>(if (a3.length:Int)=(Ac.length:Int) then (some (decide ((a3.length:Int)<=8))) else (some false))) else (some false)))
theorem AUs {fuel:Nat} {h:ABk} {Ae:Value} {a3:LiI} {r:Bool} (H2:AFn (cI .i64) h Ae a3) (hp:AKy fuel a3=some r):AB9 Tryz.prog 72 #[Ae] h (fun x h'=>Ext h h'/\x= .bool r):=by
 unfold AKy at hp;refine cwf (l:=[_]) Tryz.func72 rfl rfl (ABj (ACs (Wl ?_)));have K0:=Kst.k0 h;obtain ⟨x5,Ak,Ag⟩:=ABm hp;refine ACw rfl (APq (H2.ext K0.x) Ak) fun Av h9 E8 Ao=>?_;subst Ao;refine Wl ?_;have Ab:=K0.e E8;cases Ah:x5
 ·refine AKr 5 false (AGh 5 false (ABw rfl (Wl (ALx 14 false (ABw rfl (ABq (ABt ?_)))))));obtain rfl:=ABl (AIz Ag Ah);exact ⟨_,ABu,Ab.x,rfl⟩
 ·refine ACm 5 true (Wl (ACm 5 true (ADf AB3 rfl H2 (ACm 5 true (Wl (ACm 5 true ?_))))));obtain ⟨Ap,Aq,Ai⟩:=ABm (ifT Ag Ah);refine AIn AB3 rfl H2 rfl Aq fun Ax Ay Az Ar Au=>ACm 5 true (AB8 ACo rfl (ABz Ar Ab.x) (ACm 5 true (ADy ABv rfl Au (ACm 5 true (ADn rfl rfl (AB2 rfl (Wl ?_)))))));by_cases Ac:(a3.length:Int)=(Ap.length:Int)
  ·rw [decide_eq_true Ac];refine ACm 14 true (Wl (ACm 14 true (ADf AB3 rfl H2 (ACm 14 true (AYu rfl rfl (AB2 rfl (ABq (ABt ?_))))))));obtain rfl:=ABl (ifT Ai Ac);exact ⟨_,ABu,Ab.x,rfl⟩
  ·rw [decide_eq_false Ac];refine ALx 14 false (ABw rfl (ABq (ABt ?_)));obtain rfl:=ABl (ifF Ai Ac);exact ⟨_,ABu,Ab.x,rfl⟩
def AEw (fuel:Nat) (a1:Int):Option Int:=
  (if a1 < 2 then (some 1) else (if 2147483647 < a1 then (some 1) else (some 0)))
theorem AL2 {fuel:Nat} {h:ABk} {a1 r:Int} (hp:AEw fuel a1=some r):AB9 Tryz.prog 70 #[(.int .i64 a1)] h (fun x h'=>Ext h h'/\x= .int .i64 r):=by
 unfold AEw at hp;refine cwf (l:=[_]) Tryz.func70 rfl rfl (ABj (ABq (ABn (ABj (Wl (AC1 rfl rfl (Wl ?_)))))));have K0:=Kst.k0 h;by_cases Aa:a1 < 2
 ·rw [decide_eq_true Aa];refine AGh 5 true (AB2 rfl (ABp (ACc rfl (ABj (ABq (ABt (AB1 ?_)))))));obtain rfl:=ABl (ifT hp Aa);exact ⟨_,ABu,K0.x,rfl⟩
 ·have Ae:=ifF hp Aa;rw [decide_eq_false Aa];refine ACm 5 false (Wl (ACm 5 false (AI4 rfl rfl (ABw rfl (ABp (⟨_,rfl,fun Ad=>?_,fun Ad=>?_⟩))))))
  ·refine ABj (ABq (ABt (AB1 ?_)));obtain rfl:=ABl (AC2 Ae Ad);exact ⟨_,ABu,K0.x,rfl⟩
  ·refine ABs (q_t (ABj (ABq (ABt ?_))));obtain rfl:=ABl (AC3 Ae Ad);exact ⟨_,ABu,K0.x,rfl⟩
def AIx (fuel:Nat) (a5 Ad:Int) (Ae:LiA) (Ab:Int) (Ac:LiI):Option ((Int × LiI) ⊕ ((LiI))):=
  (if Ab < (Ae.length:Int) then ((gI Ae Ab).bind fun Ag=>((gI Ac Ad).bind fun Af=>(if a5≠0 then (if a5≠0 then ((gI Af Ab).bind fun Ah=>(some (Sum.inl ((w64 (Ab + 1)),(sI Ac Ad (sI Af Ab (Int.tmod (w64 ((Int.tmod Ag a5) + a5)) a5))))))) else none) else none))) else (some (Sum.inr<| Ac)))
def AIy (fuel:Nat) (a3:LiI) (a5 Aa:Int) (Ac:LiI):Option ((Int × LiI) ⊕ ((LiI))):=
  (if Aa < (a3.length:Int) then ((gI a3 Aa).bind fun Ab=>(if 0<=(Ab.length:Int)/\(Ab.length:Int)<=100000000 then ((gI Ac Aa).bind fun Ag=>((iter (fun s=>AIx fuel a5 Aa Ab s.1 s.2) fuel (0,(sI Ac Aa (List.replicate (Int.toNat (Ab.length:Int)) (0:Int))))).bind (fun (Af:LiI)=>(some (Sum.inl ((w64 (Aa + 1)),Af)))))) else none)) else (some (Sum.inr<| Ac)))
def AF6 (fuel:Nat) (a3:LiI) (a5:Int):Option LiI:=
  (if 0<=(a3.length:Int)/\(a3.length:Int)<=100000000 then ((iter (fun s=>AIy fuel a3 a5 s.1 s.2) fuel (0,(List.replicate (Int.toNat (a3.length:Int)) ([]:List Int)))).bind (fun (Ac:LiI)=>(some Ac))) else none)
theorem ANm {fuel:Nat} {h:ABk} {Au:Value} {a3:LiI} {a5:Int} {r:LiI} (H2:AFn (cI .i64) h Au a3) (hp:AF6 fuel a3 a5=some r):AB9 Tryz.prog 71 #[Au,(.int .i64 a5)] h (fun x h'=>Ext h h'/\ ∃ (x0:Value) (F0:List Nat) (Bf:List LnA) (Bg:List Value),x=x0/\AFf (cI .i64) 23 2 h' F0 Bf Bg x0 r/\Sp h' h.size [F0]):=by
 unfold AF6 at hp;refine cwf (l:=[_,_]) Tryz.func71 rfl rfl (ABj (ACs (Wl (ADf AB3 rfl H2 ?_))));obtain ⟨Bh,Bi⟩:=ifN hp;refine AU9 (cI .i64) 2 AB3 AKb rfl trivial tt2 rfl rfl (by decide) Bh fun Bj Bl Bm Ax C8 Bn E8 S9=>ABq (ABn (ABj (Wl (ADf AB3 rfl H2 (Wl (ABp (ABr ?_)))))));have Ay:=(Kst.k0 h).no2 E8 S9 Bn;obtain ⟨Az,Bq,Br⟩:=ABm Bi;obtain ⟨Bt,Bu,Bv⟩:=ACd Bq;refine ACi 281474976678848 (fun x:(Int) × (LiI) × LnA × LnN × LvA=>[(15,(.int .i64 x.1))]) (fun k x h'=>iter Bt k (x.1,x.2.1)=some Az/\Kst h h' (Ay.L.set 0 (aO2 (cI .i64) 23 2 x.2.2.1 x.2.2.2.1 x.2.2.2.2 Ax x.2.1))) (by kernel_rfl) fuel ((0,(List.replicate (Int.toNat (a3.length:Int)) ([]:List Int)),Bj,Bl,Bm):(Int) × (LiI) × LnA × LnN × LvA) ?_ ⟨rfl,trivial⟩ ?_
 ·exact ⟨Bv,Ay⟩
 rintro C9 ⟨Ab,Bw,Da,A3,Bx⟩ Db Dc ⟨By,Ad⟩;obtain ⟨Bz,Dd,rfl,Ae,Aj⟩:=AB4 By;rw [Bu] at Ae;dsimp only at Ae;unfold AIy at Ae;refine ABj (AC1 rfl rfl (ABp (ABn (⟨_,rfl,fun Ak=>?_,fun Ak=>?_⟩))))
 ·refine ABs (q_t (ABn (ABr (ABj (Wl ?_)))));obtain ⟨B1,B2,B3⟩:=ABm (AC2 Ae Ak);refine AIn AB3 rfl H2 rfl B2 fun De Df Dg B4 Am=>AB8 ACo rfl (ABz B4 Ad.x) (ACe (ACs (Wl (Wl (Wl (ADy ABv rfl Am ?_))))));obtain ⟨B5,B6⟩:=ifN B3;refine ARr (c:=(cI .i64)) (a:=0) ABv AGz rfl rfl (fun _=>rfl) rfl trivial tt2 rfl rfl (by decide) B5 fun A4 B7 Dh B8 B9 Ca Cb=>?_;have Af:=Ad.no B9 (AGr Ca Cb) B8;obtain ⟨Di,A5,Cd⟩:=ABm B6;refine ADt AB3 rfl (Af.o2 p1) rfl A5 fun Ce Dj Cf Dk Dl=>AWt ACo (Af.o2 p1) A5 Cf rfl rfl (Af.o p0) (Af.dj p0 p1 (by decide)) fun Dn Cg Ch Ci=>AM4 (Wl (ADy ABv rfl Am (Wl (ABp (ABr ?_)))));obtain ⟨A6,Cj,Ck⟩:=ABm Cd;obtain ⟨Cm,Cn,Co⟩:=ACd Cj;have Ao:=(Af.m2 p0 p1 (by decide) Ch Cg (fun z hz=> .inl (Ci z hz))).sel [1] (by decide);dsimp only [AI0,ALr] at Ao;refine ACi 140737219920640 (fun x:(Int) × (LiI) × LnA × LnN × LvA=>[(28,(.int .i64 x.1))]) (fun k x h'=>iter Cm k (x.1,x.2.1)=some A6/\Kst h h' (Ao.L.set 0 (aO2 (cI .i64) 23 2 x.2.2.1 x.2.2.2.1 x.2.2.2.2 Ax x.2.1))) (by kernel_rfl) fuel ((0,(sI Bw Ab (List.replicate (Int.toNat (B1.length:Int)) (0:Int))),(Ce :: (A3.set (Int.toNat Ab) [A4]).flatten),(A3.set (Int.toNat Ab) [A4]),(Bx.set (Int.toNat Ab) B7)):(Int) × (LiI) × LnA × LnN × LvA) ?_ ⟨rfl,trivial⟩ ?_
  ·exact ⟨Co,Ao⟩
  rintro Do ⟨A7,A8,A9,Ba,Bb⟩ Dp Dq ⟨Cp,Ac⟩;obtain ⟨Cq,Dr,rfl,Ag,Ap⟩:=AB4 Cp;rw [Cn] at Ag;dsimp only at Ag;unfold AIx at Ag;refine ABj (AC1 rfl rfl (ABp (ABn (⟨_,rfl,fun Aq=>?_,fun Aq=>?_⟩))))
  ·refine ABs (q_t (ABn (ABr (ABj (Wl ?_)))));obtain ⟨Bc,Cr,Ct⟩:=ABm (AC2 Ag Aq);refine AIm (c:=(cI .i64)) ABv rfl Am rfl Cr fun Ds Dt Du Cu Cv=>?_;obtain rfl:=Cu;refine AB8 ACr rfl (ABz (Cv 0 _ rfl) Ac.x) (ACe (ABq (ANi (Wl (Wl ?_)))));obtain ⟨Cw,Ar,Cx⟩:=ABm Ct;refine ADt AB3 rfl (Ac.o2 p0) rfl Ar fun Dv Dw Dx Cy Cz=>AB8 ACo rfl Cz (Wl (Wl (Wl ?_)));obtain ⟨C0,C1⟩:=ifN Cx;refine AF7 rfl rfl C0 (Wl (AC0 rfl rfl (Wl ?_)));obtain ⟨C2,C3⟩:=ifN C1;refine AF7 rfl rfl C2 ?_;obtain ⟨Dy,Be,C4⟩:=ABm C3;refine AFc (m:=Ab) ABv rfl (Ac.o2 p0) Cy Ar rfl Be fun Dz C5=>AJt (m:=Ab) (AF3 ACr rfl rfl rfl) (Ac.o2 p0) C5 Ar Be (show ((cI .i64)).rep _ (Int.tmod (w64 ((Int.tmod Bc a5) + a5)) a5) _ from rfl) fun D0 C6 C7=>ACk (q_b (q_t (ABy (AC0 rfl rfl (Wl (ABp ?_))))));obtain rfl:=ABl C4;exact ⟨Cq,(((w64 (A7 + 1)),(sI A8 Ab (sI Cw A7 (Int.tmod (w64 ((Int.tmod Bc a5) + a5)) a5))),A9,Ba,Bb):(Int) × (LiI) × LnA × LnN × LvA),Nat.lt_succ_self _,⟨Ap,(Ac.uO2 p0 C7 C6)⟩,rfl,trivial⟩
  ·obtain rfl:=ABl (AC3 Ag Aq);change _=A6 at Ap;subst Ap;refine ACb (ACa (ACa (ADj (q_b (q_t (ABy (AC0 rfl rfl (Wl (ABp ?_)))))))));obtain rfl:=ABl Ck;exact ⟨Bz,(((w64 (Ab + 1)),A8,A9,Ba,Bb):(Int) × (LiI) × LnA × LnN × LvA),Nat.lt_succ_self _,⟨Aj,Ac⟩,rfl,trivial⟩
 ·obtain rfl:=ABl (AC3 Ae Ak);change _=Az at Aj;subst Aj;refine ACb (ACa (ACa (ADj (q_t (ABj (Wl (ABq (ABt ?_))))))));obtain rfl:=ABl Br;exact ⟨_,ABu,Ad.x,_,_,_,_,rfl,(Ad.o2 p0),Ad.s.sel [0] (by decide)⟩
def AFe (fuel:Nat) (a3:LiI) (a5:Int):Option (LiI × Int):=
  ((AHu fuel a3).bind fun x6=>(if (!x6)=true then (some ([],3)) else ((AEw fuel a5).bind fun Ac=>(if ¬ Ac=0 then (some ([],Ac)) else ((AF6 fuel a3 a5).bind fun Ae=>(some (Ae,0)))))))
theorem ALa {fuel:Nat} {h:ABk} {Ag:Value} {a3:LiI} {a5:Int} {r:(LiI × Int)} (H2:AFn (cI .i64) h Ag a3) (hp:AFe fuel a3 a5=some r):AB9 Tryz.prog 36 #[Ag,(.int .i64 a5)] h (fun x h'=>Ext h h'/\ ∃ (x0:Value) (F0:List Nat) (Au:List LnA) (Av:List Value),x= .tuple #[x0,.int .i64 r.2]/\AFf (cI .i64) 23 2 h' F0 Au Av x0 r.1/\Sp h' h.size [F0]):=by
 unfold AFe at hp;refine cwf (l:=[_,_]) Tryz.func36 rfl rfl (ABj (ACe (ABq (ABn (ABj (Wl ?_))))));have K0:=Kst.k0 h;obtain ⟨x6,Aw,Ap⟩:=ABm hp;refine ACw rfl (APq (H2.ext K0.x) Aw) fun Bc Be E9 Ay=>?_;subst Ay;refine AF8 rfl (ABp ?_);have Aq:=K0.e E9;refine ⟨_,rfl,fun Aa=>?_,fun Aa=>?_⟩
 ·refine ABj (ACe (ABq (ABt (AB1 ?_))));have Ab:=Kst.anil2 (cI .i64) 23 2 Aq;obtain rfl:=ABl (ifT Ap Aa);exact ⟨_,ADa,Ab.x,_,_,_,_,rfl,(Ab.o2 p0),Ab.s.sel [0] (by decide)⟩
 ·refine ABs (q_t (ABn (ABj (Wl ?_))));obtain ⟨Bf,Az,Ar⟩:=ABm (AIz Ap Aa);refine ACw rfl (AL2 Az) fun Bg Bh A3 A4=>?_;subst A4;refine ACs (Wl (AHf rfl rfl (ABp ?_)));have Ac:=Aq.e A3;refine ⟨_,rfl,fun Ad=>?_,fun Ad=>?_⟩
  ·refine ABj (Wl (ACe (ABq (ABt (AB1 ?_)))));have Ae:=Kst.anil2 (cI .i64) 23 2 Ac;obtain rfl:=ABl (AC2 Ar Ad);exact ⟨_,ADa,Ae.x,_,_,_,_,rfl,(Ae.o2 p0),Ae.s.sel [0] (by decide)⟩
  ·refine ABs (q_t (ABj (Wl (Wl ?_))));obtain ⟨Bi,A5,A6⟩:=ABm (AC3 Ar Ad);refine ACw rfl (ANm (H2.ext Ac.x) A5) fun Bj Bl A7 A8=>?_;obtain ⟨Bm,Bn,Bo,Bp,rfl,A9,Ba⟩:=A8;refine ACe (ABq (ABt ?_));have Af:=Ac.no2 A7 Ba A9;obtain rfl:=ABl A6;exact ⟨_,ADa,Af.x,_,_,_,_,rfl,(Af.o2 p0),Af.s.sel [0] (by decide)⟩
end Go.Proofs.YtiegjkmfpcgjjaaGreatDoor
namespace Go.Proofs.YtiegjkmfpcgjjaaGreatDoor
open Go Go.QF
set_option maxRecDepth 100000
theorem AQu {α β:Type} {L:List α} {n:Nat} {x:α} {f:α->Option β} (hx:L[n]? =some x):(gI L (n:Int)).bind f=f x:=by
 unfold gI;rw [if_pos (by omega),Int.toNat_natCast,hx];rfl
theorem An2 {α β:Type} {L:List α} {x:α} {f:α->Option β} (hx:L[0]? =some x):(gI L 0).bind f=f x:=AQu (n:=0) hx
theorem AGv {i:Nat} (h:i<=1000000000):w64 ((i:Int) + 1)=((i + 1:Nat):Int):=by rw [wk (by omega)];omega
theorem AZc {n i r:Nat} {G:Nat->Nat->Int} {g g':Nat->Int} (h:∀ c,c < n->g c=g' c):part n i (ADg G r g)=part n i (ADg G r g'):=by
 unfold part;refine ACv fun k _=>?_;split
 ·refine ACv fun c hc=>?_;by_cases hk:k=r
  ·subst hk;rw [AC8,AC8,h c hc]
  ·rw [AD8 _ _ hk,AD8 _ _ hk]
 ·rfl
theorem An3 {n i:Nat} {F:Nat->Nat->Int} {g:Nat->Int} (h:∀ c,c < n->g c=F i c):part n (i + 1) (ADg F i g)=part n (i + 1) F:=by
 rw [AZc h,ANq]
theorem Aqt {body:Int × List (List Int)->Option ((Int × List (List Int)) ⊕ List (List Int))} {fuel n i:Nat} {G:Nat->Nat->Int} (v:Nat->Int) (hf:n < fuel)
    (hs:∀ (j:Nat) (g:Nat->Int),j < n->g j=G i j->body ((j:Int),part n (i + 1) (ADg G i g))=some (.inl (((j + 1:Nat):Int),part n (i + 1) (ADg G i fun c=>if c=j then v j else g c))))
    (he:∀ X,body ((n:Int),X)=some (.inr X)):iter body fuel (0,part n (i + 1) G)=some (part n (i + 1) (ADg G i v)):=by
  apply ok_eq
  refine ACx (fun j s=>s=((j:Int),part n (i + 1) (ADg G i fun c=>if c < j then v c else G i c))) n ?_ hf fun j s hj hI=>?_
  · have:(fun c=>if c < 0 then v c else G i c)=G i:=funext fun c=>if_neg (by omega);rw [this,ANq];rfl
  · subst hI
    by_cases h:j < n
    · rw [hs j _ h (if_neg (by omega))];refine ABi ⟨h,?_⟩;refine congrArg (fun z=>(((j + 1:Nat):Int),part n (i + 1) (ADg G i z))) (funext fun c=>?_)
      by_cases h1:c=j
      · rw [if_pos h1,if_pos (by omega),h1]
      · rw [if_neg h1]
        by_cases h2:c < j
        · rw [if_pos h2,if_pos (by omega)]
        · rw [if_neg h2,if_neg (by omega)]
    · obtain rfl:j=n:=by omega
      rw [he];exact ABi (AZc fun c hc=>if_pos hc)
theorem An4 {body:Int × List (List Int)->Option ((Int × List (List Int)) ⊕ List (List Int))} {fuel n:Nat} (F:Nat->Nat->Int) (hf:n < fuel)
    (hs:∀ i:Nat,i < n->body ((i:Int),part n i F)=some (.inl (((i + 1:Nat):Int),part n (i + 1) F))) (he:∀ X,body ((n:Int),X)=some (.inr X)):iter body fuel (0,List.replicate n ([]:List Int))=some (tab n n F):=by
  apply ok_eq;refine ACx (fun i s=>s=((i:Int),part n i F)) n (by rw [AO7 n F];rfl) hf fun i s hi hI=>?_;subst hI
  by_cases h:i < n
  · rw [hs i h];exact ABi ⟨h,rfl⟩
  · obtain rfl:i=n:=by omega
    rw [he];exact ABi (AO6 _ _)
theorem Akg {x m:Int} (hm:2<=m) (Ab:m<=2147483647):Int.tmod (w64 (Int.tmod x m + m)) m=x % m:=by
 have h1:=Int.tmod_lt_of_pos x (show 0 < m by omega);have h2:=Int.tmod_lt_of_pos (-x) (show 0 < m by omega);rw [Int.neg_tmod] at h2;rw [wk (by omega),Int.tmod_eq_emod_of_nonneg (by omega),Int.add_emod_right,Int.tmod_def,Int.sub_mul_emod_self_left]
theorem An5 {fuel n:Nat} {F:Nat->Nat->Int} {m:Int} (hn:n<=8) (hm:2<=m) (Aa:m<=2147483647) (hf:100 < fuel):AF6 fuel (tab n n F) m=some (tab n n fun i j=>F i j % m):=by
 unfold AF6;rw [AC5,if_pos (by omega),Int.toNat_natCast,An4 (n:=n) (fun i j=>F i j % m) (by omega) (fun i hi=>?_) fun X=>?_]
 ·rfl
 ·unfold AIy;dsimp only;rw [AC5,if_pos (by omega),AQu (ADd hi),ADb,if_pos (by omega),AQu (ATw hi),ADz,Int.toNat_natCast,AH3 n (0:Int),AQ9,Aqt (n:=n) (fun j=>F i j % m) (by omega) (fun j g hj hg=>?_) fun X=>?_]
  ·dsimp only [Option.bind_some];rw [AWe,An3 fun c _=>rfl,AGv (by omega)]
  ·unfold AIx;dsimp only;rw [ADb,if_pos (by omega),AQu (ACn hj),AQu (ANb (by omega) hi),if_pos (by omega),if_pos (by omega),AC8,AQu (ACn hj),Akg hm Aa,ADz,ADz,AE4,AOa (by omega),AWe,AGv (by omega)]
  ·unfold AIx;dsimp only;rw [ADb,if_neg (by omega)]
 ·unfold AIy;dsimp only;rw [AC5,if_neg (by omega)]
end Go.Proofs.YtiegjkmfpcgjjaaGreatDoor
namespace Go.Proofs.YtiegjkmfpcgjjaaGreatDoor
open Go Go.QF
set_option maxRecDepth 100000
set_option maxHeartbeats 4000000
def ALt (fuel:Nat) (Ac Ad Af:Int) (Ag:LiA) (Ah Ai Aa:Int) (Ab:LiI):Option ((Int × LiI) ⊕ ((LiI))):=
  (if Aa < (Ag.length:Int) then ((gI Ab Af).bind fun Aj=>((gI Aj Aa).bind fun Ak=>((gI Ab Ad).bind fun Ae=>((gI Ae Aa).bind fun Am=>(if Ac≠0 then (some (Sum.inl ((w64 (Aa + 1)),(sI Ab Ad (sI Ae Aa (Int.tmod (w64 (Am + (w64 ((w64 (Ac - (w64 (Int.tdiv Ai Ah)))) * Ak)))) Ac)))))) else none))))) else (some (Sum.inr<| Ab)))
def ALu (fuel:Nat) (Ah Aa Ab Af:Int) (Ac:LiI):Option ((Int × LiI) ⊕ ((Int × LiI))):=
  ((gI Ac Ab).bind fun Ag=>((gI Ag Aa).bind fun Ad=>(if ¬ Ad=0 then ((gI Ac Aa).bind fun Ai=>((gI Ai Aa).bind fun Aj=>(if Ad≠0 then ((((iter (fun s=>ALt fuel Ah Aa Ab Ag Ad Aj s.1 s.2) fuel (0,Ac)).bind (fun (Ak:LiI)=>(some ( Ak)))):Option (LiI)).bind fun Ae=>((gI Ae Ab).bind fun Am=>((gI Ae Aa).bind fun Ao=>(some (Sum.inl ((w64 (0 - Af)),(sI (sI Ae Aa Am) Ab Ao))))))) else none))) else (some (Sum.inr<| (Af,Ac))))))
def ANx (fuel:Nat) (Ad Ae Ac Aa:Int) (Ab:LiI):Option ((Int × Int × LiI) ⊕ ((Int × LiI))):=
  (if Aa < (Ab.length:Int) then ((iter (fun s=>ALu fuel Ad Ae Aa s.1 s.2) fuel (Ac,Ab)).bind (fun ((Af,Ag):Int × LiI)=>(some (Sum.inl (Af,(w64 (Aa + 1)),Ag))))) else (some (Sum.inr<| (Ac,Ab))))
def ANy (fuel:Nat) (Ad:LiI) (Ae Ab Aa:Int) (Ac:LiI):Option ((Int × Int × LiI) ⊕ ((Int × LiI))):=
  (if Aa < (Ad.length:Int) then ((iter (fun s=>ANx fuel Ae Aa s.1 s.2.1 s.2.2) fuel (Ab,(w64 (Aa + 1)),Ac)).bind (fun ((Af,Ag):Int × LiI)=>(some (Sum.inl (Af,(w64 (Aa + 1)),Ag))))) else (some (Sum.inr<| (Ab,Ac))))
def ANz (fuel:Nat) (a5:Int) (Ac:LiI) (Ad Ab:Int):Option ((Int × Int) ⊕ ((Int))):=
  (if Ab < (Ac.length:Int) then ((gI Ac Ab).bind fun Ae=>(if a5≠0 then ((gI Ae Ab).bind fun Af=>(if a5≠0 then (some (Sum.inl ((Int.tmod (w64 ((Int.tmod Ad a5) * Af)) a5),(w64 (Ab + 1))))) else none)) else none)) else (some (Sum.inr<| Ad)))
def AJm (fuel:Nat) (a3:LiI) (a5:Int):Option (Int × Int):=
  ((AKy fuel a3).bind fun x6=>(if (!x6)=true then (some (0,3)) else ((AEw fuel a5).bind fun Ac=>(if ¬ Ac=0 then (some (0,Ac)) else ((AF6 fuel a3 a5).bind fun Ad=>(((((some ( a5)):Option (Int)).bind fun Af=>((iter (fun s=>ANy fuel Ad Af s.1 s.2.1 s.2.2) fuel (1,0,Ad)).bind (fun ((Ag,Ah):Int × LiI)=>(some ( (Ag,Ah)))))):Option (Int × LiI)).bind fun (Ai,Aj)=>((iter (fun s=>ANz fuel a5 Aj s.1 s.2) fuel ((w64 (Ai + a5)),0)).bind (fun (Ak:Int)=>(some (Ak,0))))))))))
theorem ARc {fuel:Nat} {h:ABk} {Bq:Value} {a3:LiI} {a5:Int} {r:(Int × Int)} (H2:AFn (cI .i64) h Bq a3) (hp:AJm fuel a3 a5=some r):AB9 Tryz.prog 48 #[Bq,(.int .i64 a5)] h (fun x h'=>Ext h h'/\x= .tuple #[.int .i64 r.1,.int .i64 r.2]):=by
 unfold AJm at hp;refine cwf (l:=[_,_]) Tryz.func48 rfl rfl (ABj (ACe (ABq (ABn (ABj (Wl ?_))))));have K0:=Kst.k0 h;obtain ⟨x6,Cx,Bv⟩:=ABm hp;refine ACw rfl (AUs (H2.ext K0.x) Cx) fun Hk Hl E9 Cz=>?_;subst Cz;refine AF8 rfl (ABp ?_);have Bw:=K0.e E9;refine ⟨_,rfl,fun Ay=>?_,fun Ay=>?_⟩
 ·refine ABj (ACe (ABq (ABt (AB1 ?_))));obtain rfl:=ABl (ifT Bv Ay);exact ⟨_,ADa,Bw.x,rfl⟩
 ·refine ABs (q_t (ABn (ABj (Wl ?_))));obtain ⟨Hm,C0,Bx⟩:=ABm (AIz Bv Ay);refine ACw rfl (AL2 C0) fun Hn Ho C1 C2=>?_;subst C2;refine ACs (Wl (AHf rfl rfl (ABp ?_)));have Az:=Bw.e C1;refine ⟨_,rfl,fun A3=>?_,fun A3=>?_⟩
  ·refine ABj (Wl (ACe (ABq (ABt (AB1 ?_)))));obtain rfl:=ABl (AC2 Bx A3);exact ⟨_,ADa,Az.x,rfl⟩
  ·refine ABs (q_t (ABj (Wl (Wl ?_))));obtain ⟨C3,C4,C5⟩:=ABm (AC3 Bx A3);refine ACw rfl (ANm (H2.ext Az.x) C4) fun Af Hq C6 C7=>?_;obtain ⟨Hr,C8,C9,Da,rfl,Db,Dc⟩:=C7;refine ACs (Wl (Wl ?_));have A4:=Az.no2 C6 Dc Db;obtain ⟨Dd,De,Df⟩:=ABm C5;refine ACp (K':=(fun xr h'=> ∃ x:(Int) × (LiI) × LnA × LnN × LvA,(x.1,x.2.1)=Dd/\xr=(.int .i64 x.1)/\Kst h h' (A4.L.set 0 (aO2 (cI .i64) 23 2 x.2.2.1 x.2.2.2.1 x.2.2.2.2 Af x.2.1)))) trivial rfl ?_ fun Hs Ht Dg=>?_
   ·refine cwf (l:=[_,_]) Tryz.func73 rfl rfl (ABj (ACs (Wl ?_)));obtain ⟨Dh,Di,Dj⟩:=ABm De;refine ACp (K':=(fun xr h'=> ∃ x:(Nat) × (Int),x.2=Dh/\xr=(.func (.func 105) #[] #[(.pointer (some ⟨x.1,0,none⟩))])/\Kst h h' (aB 2 x.1 [(.int .i64 x.2)] :: A4.L))) trivial rfl ?_ fun Hu Hv Dk=>?_
    ·refine cwf (l:=[_]) Tryz.func74 rfl rfl (ABj (AIa [(.int .i64 a5)] trivial tt2 rfl rfl fun Dl Hw Dn Do Dp=>ACs (Aru rfl (ABq (ABt (⟨_,ABu,((Dl,a5):(Nat) × (Int)),?_,rfl,?_⟩))))))
     ·exact ABl Di
     ·exact (A4.nb Do Dp Dn)
    obtain ⟨⟨Dq,Ao⟩,Dr,rfl,A5⟩:=Dk;refine ⟨trivial,?_⟩;subst Dr;refine ACs (ABq (ABn (ABj (Wl (ADf AB3 rfl (A5.o2 p1).rd (Wl (ABp (ABr ?_))))))));obtain ⟨By,Ds,Dt⟩:=ABm Dj;obtain ⟨Du,Dv,Dw⟩:=ACd Ds;refine ACi 18889465931478580847040 (fun x:(Int) × (Int) × (LiI) × LnA × LnN × LvA=>[(6,(.int .i64 x.1)),(13,(.int .i64 x.2.1))]) (fun k x h'=>iter Du k (x.1,x.2.1,x.2.2.1)=some By/\Kst h h' (A5.L.set 1 (aO2 (cI .i64) 23 2 x.2.2.2.1 x.2.2.2.2.1 x.2.2.2.2.2 Af x.2.2.1))) (by kernel_rfl) fuel ((1,0,C3,C8,C9,Da):(Int) × (Int) × (LiI) × LnA × LnN × LvA) ?_ ⟨rfl,rfl,trivial⟩ ?_
    ·exact ⟨Dw,A5⟩
    rintro Hx ⟨Bz,Ac,B1,B2,B3,B4⟩ Hy Hz ⟨Dx,A6⟩;obtain ⟨Dy,H5,rfl,Ag,A7⟩:=AB4 Dx;rw [Dv] at Ag;dsimp only at Ag;unfold ANy at Ag;refine ABj (AC1 rfl rfl (ABp (ABn (⟨_,rfl,fun A8=>?_,fun A8=>?_⟩))))
    ·refine ABs (q_t (ABn (ABr (ABj (Wl (ACs (Wl (AC0 rfl rfl (ABq (ABr ?_))))))))));obtain ⟨B5,Dz,D0⟩:=ABm (AC2 Ag A8);obtain ⟨D1,D2,D3⟩:=ACd Dz;refine ACi 9444732965739290165568 (fun x:(Int) × (Int) × (LiI) × LnA × LnN × LvA=>[(6,(.int .i64 x.1)),(8,(.int .i64 x.2.1))]) (fun k x h'=>iter D1 k (x.1,x.2.1,x.2.2.1)=some B5/\Kst h h' (A6.L.set 1 (aO2 (cI .i64) 23 2 x.2.2.2.1 x.2.2.2.2.1 x.2.2.2.2.2 Af x.2.2.1))) (by kernel_rfl) fuel ((Bz,(w64 (Ac + 1)),B1,B2,B3,B4):(Int) × (Int) × (LiI) × LnA × LnN × LvA) ?_ ⟨rfl,rfl,trivial⟩ ?_
     ·exact ⟨D3,A6⟩
     rintro H9 ⟨B6,Ah,B7,B8,B9,Ca⟩ Ia Ib ⟨D4,Ap⟩;obtain ⟨D5,Ic,rfl,Ai,A9⟩:=AB4 D4;rw [D2] at Ai;dsimp only at Ai;unfold ANx at Ai;refine ABn (ABj (Wl (Wl (ADf AB3 rfl (Ap.o2 p1).rd (AC1 rfl rfl (ABp (⟨_,rfl,fun Ba=>?_,fun Ba=>?_⟩)))))))
     ·refine ABs (q_t (ABn (ABr (ABr ?_))));obtain ⟨Cb,D6,D7⟩:=ABm (AC2 Ai Ba);obtain ⟨D8,D9,Ea⟩:=ACd D6;refine ACi 9444732965739273650240 (fun x:(Int) × (LiI) × LnA × LnN × LvA=>[(6,(.int .i64 x.1))]) (fun k x h'=>iter D8 k (x.1,x.2.1)=some Cb/\Kst h h' (Ap.L.set 1 (aO2 (cI .i64) 23 2 x.2.2.1 x.2.2.2.1 x.2.2.2.2 Af x.2.1))) (by kernel_rfl) fuel ((B6,B7,B8,B9,Ca):(Int) × (LiI) × LnA × LnN × LvA) ?_ ⟨rfl,trivial⟩ ?_
      ·exact ⟨Ea,Ap⟩
      rintro Id ⟨Cd,Ce,Bb,Bc,Be⟩ Ie If ⟨Eb,Aa⟩;obtain ⟨Ec,Ih,rfl,Aq,Bf⟩:=AB4 Eb;rw [D9] at Aq;dsimp only at Aq;unfold ALu at Aq;refine ABn (ABj (Wl (Wl ?_)));obtain ⟨Ii,Ad,Ed⟩:=ABm Aq;refine ADt AB3 rfl (Aa.o2 p1) rfl Ad fun Ij Ik Il Ee Ef=>AB8 ACo rfl Ef (Wl ?_);obtain ⟨Bg,Ar,Cf⟩:=ABm Ed;refine AFc (m:=Ah) ABv rfl (Aa.o2 p1) Ee Ad rfl Ar fun Im Eg=>?_;obtain ⟨Io,Eh,Ei⟩:=(Aa.o2 p1).cells Eg Ad Ar;obtain rfl:=Eh;refine AB8 ACr rfl (Ei 0 _ rfl) (AHf rfl rfl (ABp (⟨_,rfl,fun Bh=>?_,fun Bh=>?_⟩)))
      ·refine ABs (q_t (ABr (ABn (ANi (Wl (Wl (Wl ?_)))))));obtain ⟨Ip,Au,Ej⟩:=ABm (AC2 Cf Bh);refine ADt AB3 rfl (Aa.o2 p1) rfl Au fun Iq Ek Ir Cg El=>AB8 ACo rfl El (Wl (Wl (ADt AB3 rfl (Aa.o2 p1) rfl Ad fun It Em Iu Ch En=>AB8 ACo rfl En (Wl (Wl (ADt AB3 rfl (Aa.o2 p1) rfl Au fun Iv Iw Ix Eo Ep=>AB8 ACo rfl Ep (Wl ?_)))))));obtain ⟨Bi,Ci,Er⟩:=ABm Ej;refine AFc (m:=Ac) ABv rfl (Aa.o2 p1) Eo Au rfl Ci fun Iy Es=>?_;obtain ⟨Iz,Et,Eu⟩:=(Aa.o2 p1).cells Es Au Ci;obtain rfl:=Et;refine AB8 ACr rfl (Eu 0 _ rfl) (Wl (Wl (ADt AB3 rfl (Aa.o2 p1) rfl Ad fun I0 I1 I2 Ev Ew=>AB8 ACo rfl Ew (Wl (AFc (m:=Ah) ABv rfl (Aa.o2 p1) Ev Ad rfl Ar fun I3 Ey=>?_)))));obtain ⟨I6,Ez,Fa⟩:=(Aa.o2 p1).cells Ey Ad Ar;obtain rfl:=Ez;refine AB8 ACr rfl (Fa 0 _ rfl) ?_;obtain ⟨Fb,Fc⟩:=ifN Er;refine AT1 rfl rfl Fb ?_;obtain ⟨Fd,Fe,Ff⟩:=ABm Fc;refine Aaw (l:=[Ek,Em,(.int .i64 (w64 (Int.tdiv Bi Bg)))]) (cl:=[(.pointer (some ⟨Dq,0,none⟩))]) (K':=(fun xr h'=> ∃ x:(LiI),x=Fd/\xr= .tuple #[]/\Kst h h' (Aa.L.set 1 (aO2 (cI .i64) 23 2 Bb Bc Be Af x)))) trivial rfl rfl ?_ fun I7 I9 Fg=>?_
       ·refine cwf (l:=[_,_,_,_]) Tryz.func105 rfl rfl (ABj (Wl (ADy ABv rfl ((Aa.o2 p1).rowI Ch Ad) (Wl (ABp (ABr ?_))))));obtain ⟨Cj,Fh,Fi⟩:=ABm Fe;obtain ⟨Fj,Fk,Fl⟩:=ACd Fh;refine ACi 4294965632 (fun x:(Int) × (LiI)=>[(11,(.int .i64 x.1))]) (fun k x h'=>iter Fj k (x.1,x.2)=some Cj/\Kst h h' (Aa.L.set 1 (aO2 (cI .i64) 23 2 Bb Bc Be Af x.2))) (by kernel_rfl) fuel ((0,Ce):(Int) × (LiI)) ?_ ⟨rfl,trivial⟩ ?_
        ·exact ⟨Fl,Aa⟩
        rintro Ja ⟨Ck,Cm⟩ Jc Je ⟨Fm,Ab⟩;obtain ⟨Fo,Jf,rfl,Aj,Bj⟩:=AB4 Fm;rw [Fk] at Aj;dsimp only at Aj;unfold ALt at Aj;refine ABj (AC1 rfl rfl (ABp (ABn (⟨_,rfl,fun Bl=>?_,fun Bl=>?_⟩))))
        ·refine ABs (q_t (ABn (ABr (ABj (Wl ?_)))));obtain ⟨Jg,Cn,Fp⟩:=ABm (AC2 Aj Bl);obtain ⟨Co,Cp,Fq⟩:=ABm Fp;refine AFc (m:=Ah) ABv rfl (Ab.o2 p1) Ch Cn rfl Cp fun Jh Fr=>?_;obtain ⟨Ji,Ft,Fu⟩:=(Ab.o2 p1).cells Fr Cn Cp;obtain rfl:=Ft;refine AB8 ACr rfl (Fu 0 _ rfl) (ACe (ABq (ANi (Wl (Wl (Wl (Wl ?_)))))));obtain ⟨Fv,Av,Fw⟩:=ABm Fq;obtain ⟨Cq,Aw,Fx⟩:=ABm Fw;refine AFc (m:=Ac) ABv rfl (Ab.o2 p1) Cg Av rfl Aw fun Jj Fy=>?_;obtain ⟨Jk,Fz,F4⟩:=(Ab.o2 p1).cells Fy Av Aw;obtain rfl:=Fz;refine AB8 ACr rfl (F4 0 _ rfl) (AB8 ACr rfl ((Ab.b p0).cell (i:=0) rfl) (Wl (AGt rfl rfl (Wl (AMa rfl rfl (AC0 rfl rfl (AB8 ACr rfl ((Ab.b p0).cell (i:=0) rfl) ?_)))))));obtain ⟨F5,F6⟩:=ifN Fx;refine AF7 rfl rfl F5 (AFc (m:=Ac) ABv rfl (Ab.o2 p1) Cg Av rfl Aw fun Jl F7=>AJt (m:=Ac) (AF3 ACr rfl rfl rfl) (Ab.o2 p1) F7 Av Aw (show ((cI .i64)).rep _ (Int.tmod (w64 (Cq + (w64 ((w64 (Ao - (w64 (Int.tdiv Bi Bg)))) * Co)))) Ao) _ from rfl) fun Jm F8 F9=>ACk (q_b (q_t (ABy (AC0 rfl rfl (Wl (ABp ?_)))))));obtain rfl:=ABl F6;exact ⟨Fo,(((w64 (Ck + 1)),(sI Cm Ac (sI Fv Ck (Int.tmod (w64 (Cq + (w64 ((w64 (Ao - (w64 (Int.tdiv Bi Bg)))) * Co)))) Ao)))):(Int) × (LiI)),Nat.lt_succ_self _,⟨Bj,(Ab.uO2 p1 F9 F8)⟩,rfl,trivial⟩
        ·obtain rfl:=ABl (AC3 Aj Bl);change _=Cj at Bj;subst Bj;refine ACb (ACa (ACa (ADj (⟨_,ATf,(Cm:(LiI)),?_,rfl,?_⟩))))
         ·exact ABl Fi
         ·exact Ab
       obtain ⟨Ga,Gb,rfl,Ax⟩:=Fg;refine ⟨trivial,?_⟩;subst Gb;refine ABp (ABn (ANi (Wl (Wl (Wl (Wl (Wl (Wl ?_))))))));obtain ⟨Gc,Cr,Gd⟩:=ABm Ff;refine ADt AB3 rfl (Ax.o2 p1) rfl Cr fun Jn Jo Jp Ge Gf=>AB8 ACo rfl Gf (Wl (Wl ?_));obtain ⟨Gg,Ct,Gh⟩:=ABm Gd;refine ADt AB3 rfl (Ax.o2 p1) rfl Ct fun Jq Jr Js Gi Gj=>AB8 ACo rfl Gj (AUl AB3 ACo (Ax.o2 p1) Gi Ge Ct Cr rfl rfl (fun _=>rfl) (fun _=>rfl) (fun _=>rfl) (fun _ _=>rfl) fun Jt Ju Gk Gl Gm Jv Gn Gp Gq=>ABp (ABy (Wl (ASw rfl (ACe (ACk (q_b (q_t ?_))))))));obtain rfl:=ABl Gh;exact ⟨Ec,(((w64 (0 - Cd)),(sI (sI Ga Ac Gc) Ah Gg),Gk,Gl,Gm):(Int) × (LiI) × LnA × LnN × LvA),Nat.lt_succ_self _,⟨Bf,(Ax.uo2 p1 Gp Gn Gq)⟩,rfl,trivial⟩
      ·obtain rfl:=ABl (AC3 Cf Bh);change _=Cb at Bf;subst Bf;refine ACb (ACa (ACa (ADj (q_b (q_t (ABy (Wl (AC0 rfl rfl (ABq ?_)))))))));obtain rfl:=ABl D7;exact ⟨D5,((Cd,(w64 (Ah + 1)),Ce,Bb,Bc,Be):(Int) × (Int) × (LiI) × LnA × LnN × LvA),Nat.lt_succ_self _,⟨A9,Aa⟩,rfl,rfl,trivial⟩
     ·obtain rfl:=ABl (AC3 Ai Ba);change _=B5 at A9;subst A9;refine ACb (ACa (ACa (ADj (q_b (q_t (ABy (AC0 rfl rfl (Wl (ABp ?_)))))))));obtain rfl:=ABl D0;exact ⟨Dy,((B6,(w64 (Ac + 1)),B7,B8,B9,Ca):(Int) × (Int) × (LiI) × LnA × LnN × LvA),Nat.lt_succ_self _,⟨A7,Ap⟩,rfl,rfl,trivial⟩
    ·obtain rfl:=ABl (AC3 Ag A8);change _=By at A7;subst A7;refine ACb (ACa (ACa (ADj (q_t (ABj (Wl (ABq (ABt (⟨_,ABu,((Bz,B1,B2,B3,B4):(Int) × (LiI) × LnA × LnN × LvA),?_,rfl,?_⟩)))))))))
     ·exact ABl Dt
     ·exact A6.sel [1] (by decide)
   obtain ⟨⟨Gr,Jw,Jx,Jy,Jz⟩,Gt,rfl,Bm⟩:=Dg;refine ⟨trivial,?_⟩;subst Gt;refine Wl (AC0 rfl rfl (ABq (ABn (ABj (Wl (ADf AB3 rfl (Bm.o2 p0).rd (Wl (ABp (ABr ?_)))))))));obtain ⟨Cu,Gu,Gv⟩:=ABm Df;obtain ⟨Gw,Gx,Gy⟩:=ACd Gu;refine ACi 35183835219712 (fun x:(Int) × (Int)=>[(8,(.int .i64 x.1)),(29,(.int .i64 x.2))]) (fun k x h'=>iter Gw k (x.1,x.2)=some Cu/\Kst h h' (Bm.L)) (by kernel_rfl) fuel (((w64 (Gr + a5)),0):(Int) × (Int)) ?_ ⟨rfl,rfl,trivial⟩ ?_
   ·exact ⟨Gy,Bm⟩
   rintro J0 ⟨Gz,Cv⟩ J1 J2 ⟨G3,Ak⟩;obtain ⟨G4,J3,rfl,Am,Bn⟩:=AB4 G3;rw [Gx] at Am;dsimp only at Am;unfold ANz at Am;refine ABj (AC1 rfl rfl (ABp (ABn (⟨_,rfl,fun Bo=>?_,fun Bo=>?_⟩))))
   ·refine ABs (q_t (ABn (ABr (ABj (Wl ?_)))));obtain ⟨J4,Bp,G5⟩:=ABm (AC2 Am Bo);refine ADt AB3 rfl (Ak.o2 p0) rfl Bp fun J5 J6 J7 G6 G7=>AB8 ACo rfl G7 (ACe (ABq (ANi (Wl (Wl ?_)))));obtain ⟨G8,G9⟩:=ifN G5;refine AF7 rfl rfl G8 (Wl (Wl ?_));obtain ⟨Hb,Cw,Hc⟩:=ABm G9;refine AFc (m:=Cv) ABv rfl (Ak.o2 p0) G6 Bp rfl Cw fun J8 Hd=>?_;obtain ⟨J9,He,Hf⟩:=(Ak.o2 p0).cells Hd Bp Cw;obtain rfl:=He;refine AB8 ACr rfl (Hf 0 _ rfl) (AMa rfl rfl (Wl ?_));obtain ⟨Hg,Hh⟩:=ifN Hc;refine AF7 rfl rfl Hg (ACe (ACk (q_b (q_t (ABy (AC0 rfl rfl (Wl (ABp ?_))))))));obtain rfl:=ABl Hh;exact ⟨G4,(((Int.tmod (w64 ((Int.tmod Gz a5) * Hb)) a5),(w64 (Cv + 1))):(Int) × (Int)),Nat.lt_succ_self _,⟨Bn,Ak⟩,rfl,rfl,trivial⟩
   ·obtain rfl:=ABl (AC3 Am Bo);change _=Cu at Bn;subst Bn;refine ACb (ACa (ACa (ADj (q_t (ABj (Wl (ACe (ABq (ABt ?_)))))))));obtain rfl:=ABl Gv;exact ⟨_,ADa,Ak.x,rfl⟩
end Go.Proofs.YtiegjkmfpcgjjaaGreatDoor
namespace Go.Proofs.YtiegjkmfpcgjjaaGreatDoor
open Go Go.QF
set_option maxRecDepth 100000
theorem An6 {E:Type} {body:Int->Option (Int ⊕ E)} {fuel n:Nat} {e:E} (hf:n < fuel) (hs:∀ i:Nat,i < n->body (i:Int)=some (.inl ((i + 1:Nat):Int))) (he:body (n:Int)=some (.inr e)):iter body fuel 0=some e:=by
 apply ok_eq;refine ACx (fun i s=>s=(i:Int)) n rfl hf fun i s hi hI=>?_;subst hI;by_cases h:i < n
 ·rw [hs i h];exact ABi ⟨h,rfl⟩
 ·obtain rfl:i=n:=by omega
  rw [he];exact ABi rfl
theorem Ae0 {fuel n:Nat} {F:Nat->Nat->Int} (Aa:1<=n) (hn:n<=8) (hf:100 < fuel):AHu fuel (tab n n F)=some true:=by
 unfold AHu;rw [AC5,if_neg (by omega),if_neg (by omega),An2 (ADd (by omega)),ADb,if_neg (by omega),if_neg (by omega)];simp only [Option.bind_some];rw [An6 (n:=n) (e:= .inr ()) (by omega) (fun i hi=>?_) ?_]
 ·rfl
 ·unfold AKm;rw [AC5,if_neg (by omega)]
 ·unfold AKm;rw [AC5,if_pos (by omega),AQu (ADd hi),An2 (ADd (by omega)),ADb,ADb,if_neg (fun h=>h rfl),AGv (by omega)]
theorem Aqu {n j:Nat} {g:Nat->Int} {x:Int}:sI (ADx n g) (j:Int) x=ADx n fun c=>if c=j then x else g c:=by rw [ADz,AE4]
theorem AEh {n i:Nat} {F:Nat->Nat->Int} {g:Nat->Int}:sI (tab n n F) (i:Int) (ADx n g)=tab n n (ADg F i g):=by
 rw [ADz];exact AHw
theorem An7 {n r:Nat} {F:Nat->Nat->Int} {g g':Nat->Int} (h:∀ c,c < n->g c=g' c):tab n n (ADg F r g)=tab n n (ADg F r g'):=AV2 fun i j _ hj=>by
  rw [ACu,ACu,h j hj]
structure AZt (n:Nat) (m:Int) (A F:Nat->Nat->Int) (s:Int) (c:Nat):Prop where
  sg:s=1∨s= -1
  bd:Bd n n m F
  z:Zc n F c
  d:Eqm m (det n F) (s * det n A)
theorem Aqv {m a b x y:Int} (hm:2<=m) (Ab:m<=2147483647) (ha:0<=a/\a < m) (hb:0 < b/\b < m) (hx:0<=x/\x < m) (hy:0<=y/\y < m):Int.tmod (w64 (x + (w64 ((w64 (m - (w64 (Int.tdiv a b)))) * y)))) m=(x + (m - a / b) * y) % m:=by
 have hq:=Ald ha.1 ha.2 hb.1;have h1:Int.tdiv a b=a / b:=Int.tdiv_eq_ediv_of_nonneg ha.1;have h0:0<=(m - a / b) * y:=Int.mul_nonneg (by omega) hy.1;have h2:(m - a / b) * y<=2147483647 * 2147483647:=Int.mul_le_mul (by omega) (by omega) hy.1 (by omega);rw [h1,AEv (x:=a / b) (by omega) (by omega),AEv (x:=m - a / b) (by omega) (by omega),AEv (x:=(m - a / b) * y) (by omega) (by omega),wk (by omega),Int.tmod_eq_emod_of_nonneg (by omega)]
theorem Aqw {fuel n c i:Nat} {m:Int} {F:Nat->Nat->Int} (hn:n<=8) (hm:2<=m) (Ac:m<=2147483647) (hc:c < n) (hi:i < n) (hne:c≠i) (hB:Bd n n m F) (h0:F i c≠0) (hf:100 < fuel):
    iter (fun s=>ALt fuel m c i (ADx n (F i)) (F i c) (F c c) s.1 s.2) fuel (0,tab n n F)=some (tab n n (ADg F c fun x=>(F c x + (m - F c c / F i c) * F i x) % m)):=by
 apply ok_eq;refine ACx (fun j s=>s=((j:Int),tab n n (ADg F c fun x=>if x < j then (F c x + (m - F c c / F i c) * F i x) % m else F c x))) n ?_ (by omega) fun j s hj hI=>?_
 ·have:(fun x=>if x < 0 then (F c x + (m - F c c / F i c) * F i x) % m else F c x)=F c:=funext fun x=>if_neg (by omega);rw [this,ANq];rfl
 ·subst hI;unfold ALt;dsimp only;rw [ADb];by_cases h:j < n
  ·have b1:=hB c c hc hc;have b2:=hB i c hi hc;rw [if_pos (by omega),AQu (ADd hi),AD8 _ _ (Ne.symm hne),AQu (ACn h),AQu (ADd hc),AC8,AQu (ACn h),if_pos (by omega),if_neg (by omega),Aqv hm Ac (hB c c hc hc) ⟨by omega,b2.2⟩ (hB c j hc h) (hB i j hi h),Aqu,AEh,AWe,AGv (by omega)];refine ABi ⟨h,congrArg (fun z=>(((j + 1:Nat):Int),tab n n (ADg F c z))) (funext fun x=>?_)⟩;by_cases h1:x=j
   ·rw [if_pos h1,if_pos (by omega),h1]
   ·rw [if_neg h1];by_cases h2:x < j
    ·rw [if_pos h2,if_pos (by omega)]
    ·rw [if_neg h2,if_neg (by omega)]
  ·obtain rfl:j=n:=by omega
   rw [if_neg (by omega)];exact ABi (An7 fun x hx=>if_pos hx)
theorem Akh {n c i:Nat} {m s:Int} {A F:Nat->Nat->Int} (hm:2<=m) (hc:c < n) (hi:i < n) (hci:c < i) (H:AZt n m A F s c) (q:Int):AZt n m A (AN7 F c i q m) (-s) c:=by
 have h1:=(Eqm.refl m 0).sub H.d;rw [Int.zero_sub,Int.zero_sub] at h1;refine ⟨by rcases H.sg with h | h <;> rw [h] <;> simp,Ag9 (by omega) H.bd hc hi,Aha H.z hci hi,(Aj1 hc hi (by omega)).trans ?_⟩;rw [Int.neg_mul];exact h1
theorem Ag1 {fuel n c i:Nat} {m s:Int} {A F:Nat->Nat->Int} (hn:n<=8) (hm:2<=m) (Ab:m<=2147483647) (hc:c < n) (hi:i < n) (hci:c < i) (H:AZt n m A F s c) (hZ:Zi F c i) (hf:2147483648 < fuel):
    Ok (iter (fun s=>ALu fuel m c i s.1 s.2) fuel (s,tab n n F)) fun e=> ∃ s' F',e=(s',tab n n F')/\AZt n m A F' s' c/\Zi F' c i/\F' i c=0:=by
 refine ACx (fun k st=> ∃ s' F',st=(s',tab n n F')/\AZt n m A F' s' c/\Zi F' c i/\F' i c + k<=m) m.toNat ⟨s,F,rfl,H,hZ,by have:=H.bd i c hi hc;omega⟩ (by omega) fun k st hk hI=>?_;obtain ⟨s',F',rfl,H',hZ',hk'⟩:=hI;have hB:=H'.bd;have b2:=hB i c hi hc;unfold ALu;dsimp only;rw [AQu (ADd hi),AQu (ACn hc)];refine AB5 (fun h=>?_) fun h=>ABi ⟨s',F',rfl,H',hZ',Decidable.not_not.1 h⟩;rw [AQu (ADd hc),AQu (ACn hc),if_pos h,Aqw hn hm Ab hc hi (by omega) hB h (by omega)];simp only [Option.bind_some]
 have e1:∀ g,sI (sI (tab n n (ADg F' c g)) (c:Int) (ADx n (F' i))) (i:Int) (ADx n g)=tab n n (AFt (ADg F' c g) c i):=fun g=>by
   rw [AEh,AEh]
   unfold AFt
   rw [AC8,AD8 _ _ (show i≠c by omega)]
 have b1:=hB c c hc hc;rw [AQu (ADd hi),AD8 _ _ (show i≠c by omega),AQu (ADd hc),AC8,e1,AEv (by rcases H'.sg with h | h <;> omega) (by rcases H'.sg with h | h <;> omega),Int.zero_sub];refine ABi ⟨by omega,-s',_,rfl,Akh hm hc hi hci H' _,Ahb hZ',?_⟩;show AN7 F' c i (F' c c / F' i c) m i c + ((k + 1:Nat):Int)<=m;rw [Aa5];dsimp only;rw [Ahc b1.1 b1.2 (by omega) b2.2];have:=Int.emod_lt_of_pos (F' c c) (show 0 < F' i c by omega);omega
theorem Atb {fuel n:Nat} {T:Nat->Nat->Int} {m:Int} (Af:1<=n) (hn:n<=8) (hm:2<=m) (Ad:m<=2147483647) (hf:2147483648 < fuel):AJm fuel (tab n n T) m=some (det n T % m,0):=by
 unfold AJm
 have h0:AKy fuel (tab n n T)=some true:=by
   unfold AKy
   rw [Ae0 Af hn (by omega)]
   simp only [Option.bind_some,reduceIte]
   rw [An2 (ADd (by omega)),ADb,AC5,if_pos rfl,decide_eq_true (by omega)]
 have h1:AEw fuel m=some 0:=by unfold AEw;rw [if_neg (by omega),if_neg (by omega)]
 rw [h0];simp only [Option.bind_some];rw [if_neg (by decide),h1];simp only [Option.bind_some];rw [if_neg (by decide),An5 hn hm Ad (by omega)];simp only [Option.bind_some];apply ok_eq;generalize hA:(fun i j=>T i j % m)=A;have hAd:Eqm m (det n A) (det n T):=by subst hA;exact AXm fun i j _ _=>Eqm.mod _ _
 have hAb:Bd n n m A:=by subst hA;exact fun i j _ _=>⟨Int.emod_nonneg _ (by omega),Int.emod_lt_of_pos _ (by omega)⟩
 refine ABo (Q:=fun e:Int × List (List Int)=> ∃ F,e.2=tab n n F/\AZt n m A F e.1 n) (ABo (ACx (fun c st=> ∃ s F,st=(s,(c:Int),tab n n F)/\c<=n/\AZt n m A F s c) n (Q:=fun e:Int × List (List Int)=> ∃ F,e.2=tab n n F/\AZt n m A F e.1 n) ⟨1,A,rfl,Nat.zero_le _,.inl rfl,hAb,fun c' i h=>absurd h (Nat.not_lt_zero _),by rw [Int.one_mul];exact Eqm.refl _ _⟩ (by omega) fun c st hc hI=>?_) fun e he=>ABi he) fun e he=>?_
 ·obtain ⟨s,F,rfl,hcn,H⟩:=hI;unfold ANy;dsimp only;rw [AC5];refine AB5 (fun h=>?_) fun h=>ABi ⟨F,rfl,(show c=n by omega) ▸ H⟩;have hc':c < n:=by omega
  rw [AGv (by omega)];refine ABo (ACx (fun k st=> ∃ s F,st=(s,((c + 1 + k:Nat):Int),tab n n F)/\c + 1 + k<=n/\AZt n m A F s c/\Zi F c (c + 1 + k)) (n - (c + 1)) (Q:=fun e:Int × List (List Int)=> ∃ F,e.2=tab n n F/\AZt n m A F e.1 (c + 1)) ⟨s,F,rfl,by omega,H,fun k h1 h2=>by omega⟩ (by omega) fun k st hk hI=>?_) fun e he=>?_
  ·obtain ⟨s',F',rfl,hkn,H',hZ'⟩:=hI;unfold ANx;dsimp only;rw [AC5];refine AB5 (fun h2=>ABo (Ag1 hn hm Ad hc' (by omega) (by omega) H' hZ' hf) fun e he=>?_) fun h2=>ABi ⟨F',rfl,H'.sg,H'.bd,Aa7 H'.z ((show c + 1 + k=n by omega) ▸ hZ'),H'.d⟩;obtain ⟨s2,F2,rfl,H2,Aj,h3⟩:=he;exact ABi ⟨by omega,s2,F2,by rw [AGv (by omega)];rfl,by omega,H2,Aa6 Aj h3⟩
  ·obtain ⟨e1,e2⟩:=e;obtain ⟨F',h2,H'⟩:=he;dsimp only at h2 H';subst h2;exact ABi ⟨by omega,e1,F',rfl,by omega,H'⟩
 ·obtain ⟨s,M⟩:=e;obtain ⟨F,h2,H⟩:=he;dsimp only at h2 H;subst h2;dsimp only;rw [AEv (by rcases H.sg with h | h <;> omega) (by rcases H.sg with h | h <;> omega)];refine ABo (ACx (fun k st=>st=(ARo F m s k,(k:Int))/\k<=n) n (Q:=(· =ARo F m s n)) ⟨rfl,Nat.zero_le _⟩ (by omega) fun k st hk hI=>?_) fun e he=>ABi ?_
  ·obtain ⟨rfl,hkn⟩:=hI;unfold ANz;dsimp only;rw [AC5];by_cases h:k < n
   ·have hd:=Aow (F:=F) (m:=m) (s:=s) hm H.sg k;have hb:=H.bd k k h h;have h3:=Int.emod_nonneg (ARo F m s k) (show m≠0 by omega);have h4:=Int.emod_lt_of_pos (ARo F m s k) (show 0 < m by omega);have h5:=Int.mul_nonneg h3 hb.1;have h6:ARo F m s k % m * F k k<=2147483647 * 2147483647:=Int.mul_le_mul (by omega) (by omega) hb.1 (by omega);rw [if_pos (by omega),AQu (ADd h),if_pos (by omega),AQu (ACn h),if_pos (by omega),Int.tmod_eq_emod_of_nonneg hd.1,AEv (x:=ARo F m s k % m * F k k) (by omega) (by omega),Int.tmod_eq_emod_of_nonneg h5,AGv (by omega)];exact ABi ⟨h,rfl,by omega⟩
   ·obtain rfl:k=n:=by omega
    rw [if_neg (by omega)];exact ABi rfl
  ·subst he
   have h3:Eqm m (ARo F m s n) (det n T):=by
     refine (Am8 _).trans ?_
     rw [<- AQ5 H.z]
     refine ((Eqm.refl m s).mul H.d).trans (Eqm.trans (Eqm.of_eq ?_) hAd)
     rcases H.sg with h | h <;> rw [h] <;> grind
   have h4:0<=ARo F m s n/\ARo F m s n < m:=by
     obtain ⟨k,rfl⟩:∃ k,n=k + 1:=⟨n - 1,by omega⟩
     unfold ARo
     exact ⟨Int.emod_nonneg _ (by omega),Int.emod_lt_of_pos _ (by omega)⟩
   unfold Eqm at h3;rw [<- h3,Int.emod_eq_of_lt h4.1 h4.2]
end Go.Proofs.YtiegjkmfpcgjjaaGreatDoor
namespace Go.Proofs.YtiegjkmfpcgjjaaGreatDoor
open Go Go.QF
set_option maxRecDepth 100000
theorem Atc {E:Type} {body:Int->Option (Int ⊕ (E ⊕ Unit))} {fuel n:Nat} (good:Nat->Prop) (bad:E) (hf:n < fuel) (hs:∀ i:Nat,i < n->Ok (body (i:Int)) fun r=>(r= .inl ((i + 1:Nat):Int)/\good i)∨(r= .inr (.inl bad)/\¬ good i)) (he:body (n:Int)=some (.inr (.inr ()))):
    Ok (iter body fuel 0) fun ex=>(ex= .inr ()/\ ∀ i,i < n->good i)∨(ex= .inl bad/\¬ ∀ i,i < n->good i):=by
  refine ACx (fun i s=>s=(i:Int)/\ ∀ j,j < i->good j) n ⟨rfl,fun j hj=>absurd hj (Nat.not_lt_zero j)⟩ hf fun i s hi hI=>?_;obtain ⟨rfl,hI⟩:=hI
  by_cases h:i < n
  · refine Apo (hs i h) fun r hr=>?_
    rcases hr with ⟨rfl,hg⟩ | ⟨rfl,hg⟩
    · exact ⟨h,rfl,fun j hj=>(Nat.lt_succ_iff_lt_or_eq.1 hj).elim (hI j) fun e=>e ▸ hg⟩
    · exact .inr ⟨rfl,fun hall=>hg (hall i h)⟩
  · obtain rfl:i=n:=by omega
    rw [he];exact ABi (.inl ⟨rfl,hI⟩)
theorem Aqx {α:Type} {body:List α × Int->Option ((List α × Int) ⊕ List α)} {fuel n:Nat} (f:Nat->α) (hf:n < fuel) (hs:∀ i:Nat,i < n->body (ADx i f,(i:Int))=some (.inl (ADx i f ++ [f i],((i + 1:Nat):Int)))) (he:∀ X,body (X,(n:Int))=some (.inr X)):iter body fuel ([],0)=some (ADx n f):=by
  apply ok_eq;refine ACx (fun i s=>s=(ADx i f,(i:Int))) n rfl hf fun i s hi hI=>?_;subst hI
  by_cases h:i < n
  · rw [hs i h,ANp];exact ABi ⟨h,rfl⟩
  · obtain rfl:i=n:=by omega
    rw [he];exact ABi rfl
theorem Aci {p:Int} (hp:1<=p) {a b:Nat} (h:a<=b):p ^ a<=p ^ b:=by
 obtain ⟨c,rfl⟩:∃ c,b=a + c:=⟨b - a,by omega⟩;rw [Int.pow_add];have h1:0 < p ^ a:=Int.pow_pos (by omega);have h2:0 < p ^ c:=Int.pow_pos (by omega);have:=Int.mul_le_mul_of_nonneg_left (show 1<=p ^ c by omega) (Int.le_of_lt h1);omega
end Go.Proofs.YtiegjkmfpcgjjaaGreatDoor
namespace Go.Proofs.YtiegjkmfpcgjjaaGreatDoor
open Go Go.QF
set_option maxRecDepth 100000
set_option maxHeartbeats 4000000
def AMj (fuel:Nat) (a1 a2:Int):Option Int:=
  (if a2≠0 then (if a2≠0 then (some (Int.tmod (w64 ((Int.tmod a1 a2) + a2)) a2)) else none) else none)
theorem APr {fuel:Nat} {h:ABk} {a1 a2 r:Int} (hp:AMj fuel a1 a2=some r):AB9 Tryz.prog 79 #[(.int .i64 a1),(.int .i64 a2)] h (fun x h'=>Ext h h'/\x= .int .i64 r):=by
 unfold AMj at hp;refine cwf (l:=[_,_]) Tryz.func79 rfl rfl (ABj (ACs (Wl (Wl ?_))));obtain ⟨Ac,Ad⟩:=ifN hp;refine AF7 rfl rfl Ac (Wl (AC0 rfl rfl (Wl ?_)));obtain ⟨Ae,Af⟩:=ifN Ad;refine AF7 rfl rfl Ae (ABq (ABt ?_));obtain rfl:=ABl Af;exact ⟨_,ABu,(Kst.k0 h).x,rfl⟩
def AQc (fuel:Nat) (Ac Aa Ab:Int):Option ((Int × Int) ⊕ ((Int × Int))):=
  (if (Int.tmod Aa 2)=0 then (if (Int.tmod Ac 8)=3 then (some (Sum.inl ((w64 (Int.tdiv Aa 2)),(w64 (0 - Ab))))) else (if (Int.tmod Ac 8)=5 then (some (Sum.inl ((w64 (Int.tdiv Aa 2)),(w64 (0 - Ab))))) else (some (Sum.inl ((w64 (Int.tdiv Aa 2)),Ab))))) else (some (Sum.inr<| (Aa,Ab))))
def AQd (fuel:Nat) (Ad Aa Ae:Int):Option ((Int × Int × Int) ⊕ ((Int × Int))):=
  (if ¬ Ad=0 then ((iter (fun s=>AQc fuel Aa s.1 s.2) fuel (Ad,Ae)).bind (fun ((Ab,Ac):Int × Int)=>(((if (Int.tmod Ab 4)=3 then (if (Int.tmod Aa 4)=3 then (some ( (w64 (0 - Ac)))) else (some ( Ac))) else (some ( Ac))):Option ((Int))).bind (fun (Af:Int)=>(if Ab≠0 then (some (Sum.inl ((Int.tmod Aa Ab),Ab,Af))) else none))))) else (some (Sum.inr<| (Aa,Ae))))
def APs (fuel:Nat) (a1 a2:Int):Option Int:=
  ((iter (fun s=>AQd fuel s.1 s.2.1 s.2.2) fuel (a1,a2,1)).bind (fun ((Ac,Ad):Int × Int)=>(if ¬ Ac=1 then (some 0) else (some Ad))))
theorem AVp {fuel:Nat} {h:ABk} {a1 a2 r:Int} (hp:APs fuel a1 a2=some r):AB9 Tryz.prog 80 #[(.int .i64 a1),(.int .i64 a2)] h (fun x h'=>Ext h h'/\x= .int .i64 r):=by
 unfold APs at hp;refine cwf (l:=[_,_]) Tryz.func80 rfl rfl (ABj (ACs (ABq (ABn (ABr ?_)))));have K0:=Kst.k0 h;obtain ⟨Ax,A8,Ay⟩:=ABm hp;obtain ⟨A9,Ba,Bb⟩:=ACd A8;refine ACi 137438953443 (fun x:(Int) × (Int) × (Int)=>[(0,(.int .i64 x.1)),(1,(.int .i64 x.2.1)),(5,(.int .i64 x.2.2))]) (fun k x h'=>iter A9 k (x.1,x.2.1,x.2.2)=some Ax/\Kst h h' (K0.L)) (by kernel_rfl) fuel ((a1,a2,1):(Int) × (Int) × (Int)) ?_ ⟨rfl,rfl,rfl,trivial⟩ ?_
 ·exact ⟨Bb,K0⟩
 rintro k9 ⟨Bc,Az,u16⟩ Bw Bx ⟨Be,Ag⟩;obtain ⟨Bf,By,rfl,Ad,Am⟩:=AB4 Be;rw [Ba] at Ad;dsimp only at Ad;unfold AQd at Ad;refine ABn (ABj (Wl (AHf rfl rfl (ABp (⟨_,rfl,fun Ao=>?_,fun Ao=>?_⟩)))))
 ·refine ABs (q_t (ABr (ABn (ABr ?_))));obtain ⟨A3,Bg,Bh⟩:=ABm (AC2 Ad Ao);obtain ⟨Bi,Bj,Bl⟩:=ACd Bg;refine ACi 8388385 (fun x:(Int) × (Int)=>[(0,(.int .i64 x.1)),(5,(.int .i64 x.2))]) (fun k x h'=>iter Bi k (x.1,x.2)=some A3/\Kst h h' (Ag.L)) (by kernel_rfl) fuel ((Bc,u16):(Int) × (Int)) ?_ ⟨rfl,rfl,trivial⟩ ?_
  ·exact ⟨Bl,Ag⟩
  rintro Bz ⟨Ab,Ac⟩ B1 B2 ⟨Bm,Aa⟩;obtain ⟨Ap,B3,rfl,Ae,Af⟩:=AB4 Bm;rw [Bj] at Ae;dsimp only at Ae;unfold AQc at Ae;refine ABn (ABj (Wl (AF7 rfl rfl (by decide) (ADn rfl rfl (ABp (⟨_,rfl,fun Aq=>?_,fun Aq=>?_⟩))))))
  ·refine ABs (q_t (ABr (ABj (Wl (AT1 rfl rfl (by decide) (ACs (Wl (AF7 rfl rfl (by decide) (ADn rfl rfl (Wl ?_))))))))));have A4:=AC2 Ae Aq;by_cases Ah:(Int.tmod Az 8)=3
   ·rw [decide_eq_true Ah];refine ALx 16 true (AB2 rfl (ABp (ACc rfl (ABy (Wl (ASw rfl (ACe (ACk (q_b (q_t ?_))))))))));obtain rfl:=ABl (ifT A4 Ah);exact ⟨Ap,(((w64 (Int.tdiv Ab 2)),(w64 (0 - Ac))):(Int) × (Int)),Nat.lt_succ_self _,⟨Af,Aa⟩,rfl,rfl,trivial⟩
   ·have A5:=ifF A4 Ah;rw [decide_eq_false Ah];refine ACm 16 false (Wl (ACm 16 false (AF7 rfl rfl (by decide) (ACm 16 false (ADn rfl rfl (ABw rfl (ABp (⟨_,rfl,fun Ar=>?_,fun Ar=>?_⟩))))))))
    ·refine ABy (Wl (ASw rfl (ACe (ACk (q_b (q_t ?_))))));obtain rfl:=ABl (AC2 A5 Ar);exact ⟨Ap,(((w64 (Int.tdiv Ab 2)),(w64 (0 - Ac))):(Int) × (Int)),Nat.lt_succ_self _,⟨Af,Aa⟩,rfl,rfl,trivial⟩
    ·refine ABs (q_b (q_t ?_));obtain rfl:=ABl (AC3 A5 Ar);exact ⟨Ap,(((w64 (Int.tdiv Ab 2)),Ac):(Int) × (Int)),Nat.lt_succ_self _,⟨Af,Aa⟩,rfl,rfl,trivial⟩
  ·obtain rfl:=ABl (AC3 Ae Aq);change _=A3 at Af;subst Af;refine ACb (ACa (ACa (ADj (q_t ?_))));obtain ⟨Bn,A6,Bo⟩:=ABm Bh;refine ANh 8581546016 (fun x:(Int)=>[(5,(.int .i64 x))]) (fun x h'=>( x)=Bn/\Kst h h' (Aa.L)) ?_ ?_
   ·refine ABj (Wl (AF7 rfl rfl (by decide) (ADn rfl rfl (Wl ?_))));by_cases Ai:(Int.tmod Ab 4)=3
    ·have A7:=ifT A6 Ai;rw [decide_eq_true Ai];refine ACm 26 true (Wl (ACm 26 true (AF7 rfl rfl (by decide) (ACm 26 true (ADn rfl rfl (AB2 rfl (ABp (⟨_,rfl,fun Au=>?_,fun Au=>?_⟩))))))))
     ·refine ABy (Wl (ASw rfl (ABq ?_)));exact ⟨((w64 (0 - Ac)):(Int)),⟨ABl (AC2 A7 Au),Aa⟩,rfl,trivial⟩
     ·refine ABs (q_t ?_);exact ⟨(Ac:(Int)),⟨ABl (AC3 A7 Au),Aa⟩,rfl,trivial⟩
    ·rw [decide_eq_false Ai];refine ALx 26 false (ABw rfl (ABp (ACf rfl (ABs (q_t ?_)))));exact ⟨(Ac:(Int)),⟨ABl (ifF A6 Ai),Aa⟩,rfl,trivial⟩
   rintro Bp B4 B5 ⟨Bq,Br⟩;subst Bq;refine ABy (Wl (Wl ?_));obtain ⟨Bt,Bu⟩:=ifN Bo;refine AF7 rfl rfl Bt (Wl (ACe (ACe (ACk (q_b (q_t ?_))))));obtain rfl:=ABl Bu;exact ⟨Bf,(((Int.tmod Az Ab),Ab,Bp):(Int) × (Int) × (Int)),Nat.lt_succ_self _,⟨Am,Br⟩,rfl,rfl,rfl,trivial⟩
 ·obtain rfl:=ABl (AC3 Ad Ao);change _=Ax at Am;subst Am;refine ACb (ACa (ACa (ADj (q_t (ABn (ABj (Wl (AHf rfl rfl (ABp (⟨_,rfl,fun Av=>?_,fun Av=>?_⟩))))))))))
  ·refine ABj (ABq (ABt (AB1 ?_)));obtain rfl:=ABl (AC2 Ay Av);exact ⟨_,ABu,Ag.x,rfl⟩
  ·refine ABs (q_t (ABj (Wl (ABq (ABt ?_)))));obtain rfl:=ABl (AC3 Ay Av);exact ⟨_,ABu,Ag.x,rfl⟩
def AOb (fuel:Nat) (a1 Ab Aa:Int):Option ((Int × Int) ⊕ (((Int × Int)) ⊕ (Int × Int))):=
  (if (Int.tmod Ab 2)=0 then (if (Int.tmod a1 2)=0 then (some (Sum.inr<| Sum.inl <| (0,0))) else ((((AMj fuel a1 8).bind fun Ad=>(if Ad=3 then (some ( (w64 (0 - Aa)))) else (if Ad=5 then (some ( (w64 (0 - Aa)))) else (some ( Aa))))):Option ((Int))).bind (fun (Ae:Int)=>(some (Sum.inl ((w64 (Int.tdiv Ab 2)),Ae)))))) else (some (Sum.inr<| Sum.inr <| (Ab,Aa))))
def ANd (fuel:Nat) (a1 a2:Int):Option (Int × Int):=
  (((if a1 < (-2147483647) then (some (Sum.inl <| (0,1))) else (if 2147483647 < a1 then (some (Sum.inl <| (0,1))) else (if a2 < (-2147483647) then (some (Sum.inl <| (0,1))) else (if 2147483647 < a2 then (some (Sum.inl <| (0,1))) else (some (Sum.inr <| ())))))):Option (((Int × Int)) ⊕ (Unit))).bind (fun ex=>match ex with | Sum.inl Ad=>(some Ad) | Sum.inr (_)=>(if a2=0 then (if a1=1 then (some (1,0)) else (if a1=(-1) then (some (1,0)) else (some (0,0)))) else (((if a2 < 0 then (if a1 < 0 then (some ( ((w64 (0 - a2)),(-1)))) else (some ( ((w64 (0 - a2)),1)))) else (some ( (a2,1)))):Option ((Int × Int))).bind (fun ((Ae,Af):Int × Int)=>((iter (fun s=>AOb fuel a1 s.1 s.2) fuel (Ae,Af)).bind (fun ex=>match ex with | Sum.inl Ag=>(some Ag) | Sum.inr ((Ac,Ah))=>((AMj fuel a1 Ac).bind fun Ai=>((APs fuel Ai Ac).bind fun Aj=>(some ((w64 (Ah * Aj)),0)))))))))))
theorem ATc {fuel:Nat} {h:ABk} {a1 a2:Int} {r:(Int × Int)} (hp:ANd fuel a1 a2=some r):AB9 Tryz.prog 49 #[(.int .i64 a1),(.int .i64 a2)] h (fun x h'=>Ext h h'/\x= .tuple #[.int .i64 r.1,.int .i64 r.2]):=by
 unfold ANd at hp;refine cwf (l:=[_,_]) Tryz.func49 rfl rfl (ABj (ACe (ABq ?_)));have K0:=Kst.k0 h;obtain ⟨Bj,A5,Ad⟩:=ABm hp;refine ANh 4194096 (fun x:Unit=>[]) (fun x h'=>(Sum.inr <| ())=Bj/\Kst h h' (K0.L)) ?_ ?_
 ·refine ABj (Wl (AC1 rfl rfl (Wl ?_)));by_cases Ah:a1 < (-2147483647)
  ·rw [decide_eq_true Ah];refine AGh 10 true (AB2 rfl (Wl (AGh 14 true (AB2 rfl (Wl (AGh 18 true (AB2 rfl (ABp (ACc rfl (ABj (ACe (ABq ?_))))))))))));obtain rfl:=ABl (ifT A5 Ah);refine ABt (AB1 ?_);obtain rfl:=ABl Ad;exact ⟨_,ADa,K0.x,rfl⟩
  ·have A6:=ifF A5 Ah;rw [decide_eq_false Ah];refine ACm 10 false (Wl (ACm 10 false (AI4 rfl rfl (ABw rfl (Wl ?_)))));by_cases Ai:2147483647 < a1
   ·rw [decide_eq_true Ai];refine AGh 14 true (AB2 rfl (Wl (AGh 18 true (AB2 rfl (ABp (ACc rfl (ABj (ACe (ABq ?_)))))))));obtain rfl:=ABl (ifT A6 Ai);refine ABt (AB1 ?_);obtain rfl:=ABl Ad;exact ⟨_,ADa,K0.x,rfl⟩
   ·have A7:=ifF A6 Ai;rw [decide_eq_false Ai];refine ACm 14 false (Wl (ACm 14 false (AC1 rfl rfl (ABw rfl (Wl ?_)))));by_cases Aj:a2 < (-2147483647)
    ·rw [decide_eq_true Aj];refine AGh 18 true (AB2 rfl (ABp (ACc rfl (ABj (ACe (ABq ?_))))));obtain rfl:=ABl (ifT A7 Aj);refine ABt (AB1 ?_);obtain rfl:=ABl Ad;exact ⟨_,ADa,K0.x,rfl⟩
    ·have A8:=ifF A7 Aj;rw [decide_eq_false Aj];refine ACm 18 false (Wl (ACm 18 false (AI4 rfl rfl (ABw rfl (ABp (⟨_,rfl,fun Ap=>?_,fun Ap=>?_⟩))))))
     ·refine ABj (ACe (ABq ?_));obtain rfl:=ABl (AC2 A8 Ap);refine ABt (AB1 ?_);obtain rfl:=ABl Ad;exact ⟨_,ADa,K0.x,rfl⟩
     ·refine ABs (q_t ?_);exact ⟨(():Unit),⟨ABl (AC3 A8 Ap),K0⟩,trivial⟩
 rintro ⟨⟩ Ci Cj ⟨Bl,Aa⟩;subst Bl;refine ABn (ABj (Wl (ADn rfl rfl (ABp (⟨_,rfl,fun Aq=>?_,fun Aq=>?_⟩)))))
 ·refine ABn (ABj (Wl (ADn rfl rfl (Wl ?_))));have A9:=AC2 Ad Aq;by_cases Ak:a1=1
  ·rw [decide_eq_true Ak];refine AGh 26 true (AB2 rfl (ABp (ACc rfl (ABj (ACe (ABq (ABt (AB1 (AB1 ?_)))))))));obtain rfl:=ABl (ifT A9 Ak);exact ⟨_,ADa,Aa.x,rfl⟩
  ·have Ba:=ifF A9 Ak;rw [decide_eq_false Ak];refine ACm 26 false (Wl (ACm 26 false (ADn rfl rfl (ABw rfl (ABp (⟨_,rfl,fun Ar=>?_,fun Ar=>?_⟩))))))
   ·refine ABj (ACe (ABq (ABt (AB1 (AB1 ?_)))));obtain rfl:=ABl (AC2 Ba Ar);exact ⟨_,ADa,Aa.x,rfl⟩
   ·refine ABs (q_t (ABj (ACe (ABq (ABt (AB1 ?_))))));obtain rfl:=ABl (AC3 Ba Ar);exact ⟨_,ADa,Aa.x,rfl⟩
 ·refine ABs (q_t (ABj (ABq ?_)));obtain ⟨Bm,Bb,Bn⟩:=ABm (AC3 Ad Aq);refine ANh 67645734978 (fun x:(Int) × (Int)=>[(1,(.int .i64 x.1)),(6,(.int .i64 x.2))]) (fun x h'=>( (x.1,x.2))=Bm/\Kst h h' (Aa.L)) ?_ ?_
  ·refine ABj (Wl (AC1 rfl rfl (ABp (⟨_,rfl,fun Au=>?_,fun Au=>?_⟩))))
   ·refine ABj (Wl (ASw rfl (ACs (Wl (AC1 rfl rfl (ABp ?_))))));have Bc:=AC2 Bb Au;refine ⟨_,rfl,fun Av=>?_,fun Av=>?_⟩
    ·refine ABy (ABq ?_);exact ⟨(((w64 (0 - a2)),(-1)):(Int) × (Int)),⟨ABl (AC2 Bc Av),Aa⟩,rfl,rfl,trivial⟩
    ·refine ABs (q_t ?_);exact ⟨(((w64 (0 - a2)),1):(Int) × (Int)),⟨ABl (AC3 Bc Av),Aa⟩,rfl,rfl,trivial⟩
   ·refine ABs (q_t ?_);exact ⟨((a2,1):(Int) × (Int)),⟨ABl (AC3 Bb Au),Aa⟩,rfl,rfl,trivial⟩
  rintro ⟨u64,Bo⟩ Ck Cm ⟨Bp,Be⟩;subst Bp;refine ABn (ABr ?_);obtain ⟨Aw,Bq,Bf⟩:=ABm Bn;obtain ⟨Br,Bt,Bu⟩:=ACd Bq;refine ACi 18014329790005490 (fun x:(Int) × (Int)=>[(1,(.int .i64 x.1)),(6,(.int .i64 x.2))]) (fun k x h'=>iter Br k (x.1,x.2)=some Aw/\Kst h h' (Be.L)) (by kernel_rfl) fuel ((u64,Bo):(Int) × (Int)) ?_ ⟨rfl,rfl,trivial⟩ ?_
  ·exact ⟨Bu,Be⟩
  rintro Cn ⟨Bv,Ax⟩ Co Cp ⟨Bw,Am⟩;obtain ⟨Bx,Cq,rfl,Af,Ag⟩:=AB4 Bw;rw [Bt] at Af;dsimp only at Af;unfold AOb at Af;refine ABn (ABj (Wl (AF7 rfl rfl (by decide) (ADn rfl rfl (ABp (⟨_,rfl,fun Ay=>?_,fun Ay=>?_⟩))))))
  ·refine ABs (q_t (ABr (ABn (ABj (Wl (AF7 rfl rfl (by decide) (ADn rfl rfl (ABp ?_))))))));have Bg:=AC2 Af Ay;refine ⟨_,rfl,fun Az=>?_,fun Az=>?_⟩
   ·refine ABj (ACe (ABq ?_));obtain rfl:=ABl (AC2 Bg Az);change _=Aw at Ag;subst Ag;refine ABt (AB1 (ADl (AB1 (ADl (AB1 ?_)))));obtain rfl:=ABl Bf;exact ⟨_,ADa,Am.x,rfl⟩
   ·refine ABs (q_t ?_);obtain ⟨By,Bz,B1⟩:=ABm (AC3 Bg Az);refine ANh 4499201580859584 (fun x:(Int)=>[(6,(.int .i64 x))]) (fun x h'=>( x)=By/\Kst h h' (Am.L)) ?_ ?_
    ·refine ABj (Wl ?_);obtain ⟨B2,B3,Bh⟩:=ABm Bz;refine ACw rfl (APr B3) fun Cr Ct B4 B5=>?_;subst B5;refine ACs (Wl (ADn rfl rfl (Wl ?_)));have A3:=Am.e B4;by_cases Ao:B2=3
     ·rw [decide_eq_true Ao];refine AGh 46 true (AB2 rfl (ABp (ACc rfl (ABy (Wl (ASw rfl (ABq ?_)))))));exact ⟨((w64 (0 - Ax)):(Int)),⟨ABl (ifT Bh Ao),A3⟩,rfl,trivial⟩
     ·have Bi:=ifF Bh Ao;rw [decide_eq_false Ao];refine ACm 46 false (Wl (ACm 46 false (ADn rfl rfl (ABw rfl (ABp (⟨_,rfl,fun A4=>?_,fun A4=>?_⟩))))))
      ·refine ABy (Wl (ASw rfl (ABq ?_)));exact ⟨((w64 (0 - Ax)):(Int)),⟨ABl (AC2 Bi A4),A3⟩,rfl,trivial⟩
      ·refine ABs (q_t ?_);exact ⟨(Ax:(Int)),⟨ABl (AC3 Bi A4),A3⟩,rfl,trivial⟩
    rintro B6 Cu Cv ⟨B7,B8⟩;subst B7;refine ABy (Wl (AT1 rfl rfl (by decide) (ACe (ACk (q_b (q_t ?_))))));obtain rfl:=ABl B1;exact ⟨Bx,(((w64 (Int.tdiv Bv 2)),B6):(Int) × (Int)),Nat.lt_succ_self _,⟨Ag,B8⟩,rfl,rfl,trivial⟩
  ·obtain rfl:=ABl (AC3 Af Ay);change _=Aw at Ag;subst Ag;refine ACb (ACa (ACa (ADj (q_t (ABj (Wl (Wl (Wl ?_))))))));obtain ⟨Cw,B9,Ca⟩:=ABm Bf;refine ACw rfl (APr B9) fun Cx Cy Cb Cd=>?_;subst Cd;refine Wl ?_;obtain ⟨Cz,Ce,Cf⟩:=ABm Ca;refine ACw rfl (AVp Ce) fun C0 C1 Cg Ch=>?_;subst Ch;refine AMa rfl rfl (ACe (ABq (ABt ?_)));obtain rfl:=ABl Cf;exact ⟨_,ADa,((Am.e Cb).e Cg).x,rfl⟩
end Go.Proofs.YtiegjkmfpcgjjaaGreatDoor
namespace Go.QF
open Classical in
noncomputable def Ag2 (A:List (List Int)) (m:Int):Int:=if AH9 A then (if APy m then (if ∃ y,AKs m (AZr A m) y then 0 else 8) else 1) else 3
open Classical in
noncomputable def AZd (A:List (List Int)) (m:Int):List (List Int):=if AH9 A=true/\APy m=true/\ ∃ y,AKs m (AZr A m) y then tab A.length A.length (fun i j=>AKl A.length (ent (AL6 A m)) i j * AX0 m (AZr A m) % m) else []
theorem Aau {m x r:Int} (h:AKs m x r):Eqm m (r * x) 1:=h.2.2
theorem An8 {m x r:Int} (hm:2<=m) (h:Eqm m (r * x) 1):∃ y,AKs m x y:=⟨r % m,Int.emod_nonneg _ (by omega),Int.emod_lt_of_pos _ (by omega),by
  rw [Int.mul_emod,Int.emod_emod,<- Int.mul_emod];exact h⟩
theorem AZe {n:Nat} {m u d:Int} {A B:Nat->Nat->Int} (hu:Eqm m (u * d) 1) (hd:Eqm m d (det n A)) (hBA:∀ i j,i < n->j < n->Eqm m (psum (fun k=>B i k * A k j) n) (dl i j)) {i j:Nat} (hi:i < n) (hj:j < n):Eqm m (B i j) (AKl n A i j * u):=by
  have h1:Eqm m (psum (fun k=>B i k * psum (fun l=>A k l * (AKl n A l j * u)) n) n) (B i j):=by
    have e1:∀ k,k < n->Eqm m (psum (fun l=>A k l * (AKl n A l j * u)) n) (dl k j):=fun k hk=>by
      have e2:psum (fun l=>A k l * (AKl n A l j * u)) n=u * psum (fun l=>A k l * AKl n A l j) n:=by
        rw [<- ADw];exact ABx fun l _=>by grind
      rw [e2,Aak hk hj];refine Eqm.trans (Eqm.of_eq (show u * (det n A * dl k j)=u * det n A * dl k j by rw [Int.mul_assoc])) ?_;have:=(((Eqm.refl m u).mul hd.symm).trans hu).mul (Eqm.refl m (dl k j));rwa [Int.one_mul] at this
    refine Eqm.trans (Eqm.psum fun k hk=>(Eqm.refl m (B i k)).mul (e1 k hk)) (Eqm.of_eq ?_);exact Agi (F:=B) (i:=i) hj
  have h2:psum (fun k=>B i k * psum (fun l=>A k l * (AKl n A l j * u)) n) n=psum (fun l=>psum (fun k=>B i k * A k l) n * (AKl n A l j * u)) n:=by
    rw [ABx (g:=fun k=>psum (fun l=>B i k * A k l * (AKl n A l j * u)) n) (fun k _=>by rw [<- ADw];exact ABx fun l _=>by rw [Int.mul_assoc]),AMv];refine ABx fun l _=>?_;rw [Int.mul_comm (psum (fun k=>B i k * A k l) n),<- ADw];exact ABx fun k _=>by rw [Int.mul_comm]
  refine h1.symm.trans ((Eqm.of_eq h2).trans ?_);refine Eqm.trans (Eqm.psum (g:=fun l=>dl i l * (AKl n A l j * u)) fun l hl=>(hBA i l hi hl).mul (Eqm.refl _ _)) (Eqm.of_eq ?_);rw [ANw hi (fun k hk hne=>by unfold dl;rw [if_neg (fun h=>hne h.symm)];simp)];simp [dl]
end Go.QF
namespace Go.Proofs.YtiegjkmfpcgjjaaGreatDoor
open Go Go.QF
def QJ (A:List (List Int)) (m:Int) (F:Nat->Nat->Int) (s:Int):Prop:=Aed A.length m (ent (AL6 A m)) F
theorem An9 (A:List (List Int)) (m:Int):Am4 A.length (A.length + A.length) m (QJ A m):=fun F s c i q hc hi hne _ _ _ H=>AY4 (Agp hc hi hne) H
noncomputable def AVq (fuel:Nat) (M:List (List Int)) (m:Int):Option (List (List Int) × Int):=some (AZd M m,Ag2 M m)
theorem Ae1 {h:ABk} {v:Value} {M:List (List Int)} (HM:Mat h v M) (m:Int):AB9 Tryz.prog 39 #[v,.int .i64 m] h fun x h'=>Ext h h'/\ ∃ r,x= .tuple #[r,.int .i64 (Ag2 M m)]/\Mat h' r (AZd M m)/\ANk r:=by
 refine (Aec HM m (QJ M m) (fun _ _=>Am9) (An9 M m)).mono fun x h' ⟨⟨hE,r,e,hx,hk⟩,hcp⟩=>⟨hE,r,?_⟩;have hcr:=hcp _ _ hx;clear hcp;subst hx;rw [<- and_assoc];refine ⟨?_,hcr⟩;rcases hk with ⟨h1,rfl,h2⟩ | ⟨h1,h2,rfl,h3⟩ | ⟨h1,h2,F1,s,hs,hQ,hbd,hz,hk⟩
 ·refine ⟨by simp [Ag2,h1],?_⟩;rw [show AZd M m=[] by unfold AZd;rw [if_neg (fun h=>by rw [h1] at h;cases h.1)]];exact h2
 ·refine ⟨by simp [Ag2,h1,h2],?_⟩;rw [show AZd M m=[] by unfold AZd;rw [if_neg (fun h=>by rw [h2] at h;cases h.2.1)]];exact h3
 ·have hm:=AS1 h2
  have hD:Eqm m (AZr M m) (det M.length (ent (AL6 M m))):=by
    have e1:AZr M m=det M.length (ent M) % m:=by simp [AZr,h1,h2]
    rw [e1]
    refine (Eqm.mod _ _).trans (AXm fun i j _ _=>?_)
    rw [Aos];exact (Eqm.mod _ _).symm
  rcases hk with ⟨rfl,h3,c,hc,hno⟩ | ⟨rfl,hun,h3⟩
  ·have hnot: ¬ ∃ y,AKs m (AZr M m) y:=by
     rintro ⟨y,hy⟩
     refine hno (Anc hm.1 hz hQ (V:=fun i k=>y * AKl M.length (ent (AL6 M m)) i k) (fun i j hi hj=>?_) c hc)
     have e2:psum (fun k=>y * AKl M.length (ent (AL6 M m)) i k * ent (AL6 M m) k j) M.length=y * psum (fun k=>AKl M.length (ent (AL6 M m)) i k * ent (AL6 M m) k j) M.length:=by
       rw [<- ADw];exact ABx fun k _=>by rw [Int.mul_assoc]
     rw [e2,Aee hi hj]
     refine Eqm.trans (Eqm.of_eq (show y * (det M.length (ent (AL6 M m)) * dl i j)=y * det M.length (ent (AL6 M m)) * dl i j by rw [Int.mul_assoc])) ?_
     have:=(((Eqm.refl m y).mul hD.symm).trans (Aau hy)).mul (Eqm.refl m (dl i j))
     rwa [Int.one_mul] at this
   refine ⟨by simp [Ag2,h1,h2,hnot],?_⟩;rw [show AZd M m=[] by unfold AZd;rw [if_neg (fun h=>hnot h.2.2)]];exact h3
  ·obtain ⟨hBA,hAB⟩:=Ana hm.1 hbd hz hun hQ
   have hyes:∃ y,AKs m (AZr M m) y:=by
     have e1:=AVf (n:=M.length) (fun i j=>AHn m M.length F1 M.length i (M.length + j)) (ent (AL6 M m))
     have e2:Eqm m (det M.length (AE8 M.length (fun i j=>AHn m M.length F1 M.length i (M.length + j)) (ent (AL6 M m)))) (det M.length dl):=AXm fun i j hi hj=>hBA i j hi hj
     rw [e1,Agh] at e2
     exact An8 hm.1 (((Eqm.refl _ _).mul hD).trans e2)
   refine ⟨by simp [Ag2,h1,h2,hyes],?_⟩
   have e3:AZd M m=tab M.length M.length fun i j=>AHn m M.length F1 M.length i (M.length + j):=by
     unfold AZd
     rw [if_pos ⟨h1,h2,hyes⟩]
     obtain ⟨y,hy⟩:=hyes
     have hu:=Aau (ATh hy)
     refine AV2 fun i j hi hj=>?_
     have h5:=AZe (B:=fun i k=>AHn m M.length F1 M.length i (M.length + k)) hu hD hBA hi hj
     have h6:=Aa8 (n:=M.length) (by omega:0 < m) hbd M.length i (M.length + j) hi (by omega)
     rw [<- Int.emod_eq_of_lt h6.1 h6.2]
     exact h5.symm
   rw [e3];exact h3
theorem Aoa {fuel:Nat} {h:ABk} {v:Value} {M:List (List Int)} {m:Int} {r:List (List Int) × Int} (H:AFn (cI .i64) h v M) (hp:AVq fuel M m=some r):AB9 Tryz.prog 39 #[v,.int .i64 m] h (fun x h'=>Ext h h'/\ ∃ (x0:Value),x= .tuple #[x0,.int .i64 r.2]/\AFn (cI .i64) h' x0 r.1):=by
 cases hp;exact (Ae1 (Am0 H) m).mono fun x h' ⟨E,r,hx,hr,hcp⟩=>⟨E,r,hx,Ah7 hr hcp⟩
end Go.Proofs.YtiegjkmfpcgjjaaGreatDoor
namespace Go.Proofs.YtiegjkmfpcgjjaaGreatDoor
open Go Go.QF
set_option maxRecDepth 100000
set_option maxHeartbeats 4000000
def ASi (fuel:Nat) (a1 a2 s8 s9:Int):Option ((Int × Int) ⊕ ((Int))):=
  (if s9 < a2 then (some (Sum.inl ((w64 (s8 * a1)),(w64 (s9 + 1))))) else (some (Sum.inr<| s8)))
def ANe (fuel:Nat) (a1 a2:Int):Option Int:=
  ((iter (fun s=>ASi fuel a1 a2 s.1 s.2) fuel (1,0)).bind (fun (Ac:Int)=>(some Ac)))
theorem AOo {fuel:Nat} {h:ABk} {a1 a2 r:Int} (hp:ANe fuel a1 a2=some r):AB9 Tryz.prog 47 #[(.int .i64 a1),(.int .i64 a2)] h (fun x h'=>Ext h h'/\x= .int .i64 r):=by
 unfold ANe at hp;refine cwf (l:=[_,_]) Tryz.func47 rfl rfl (ABj (ACs (ABq (ABn (ABj (Wl (Wl (ABp (ABr ?_)))))))));have K0:=Kst.k0 h;obtain ⟨Ag,Ai,Aj⟩:=ABm hp;obtain ⟨Ak,Am,Ao⟩:=ACd Ai;refine ACi 8096 (fun x:(Int) × (Int)=>[(5,(.int .i64 x.1)),(7,(.int .i64 x.2))]) (fun k x h'=>iter Ak k (x.1,x.2)=some Ag/\Kst h h' (K0.L)) (by kernel_rfl) fuel ((1,0):(Int) × (Int)) ?_ ⟨rfl,rfl,trivial⟩ ?_
 ·exact ⟨Ao,K0⟩
 rintro k9 ⟨Ap,Aq⟩ Aw Ax ⟨Ar,Ah⟩;obtain ⟨Au,Ay,rfl,Aa,Ac⟩:=AB4 Ar;rw [Am] at Aa;dsimp only at Aa;unfold ASi at Aa;refine ABj (AC1 rfl rfl (ABp (ABn (⟨_,rfl,fun Ad=>?_,fun Ad=>?_⟩))))
 ·refine ABs (q_t (ABn (ABr (ABy (Wl (Wl (AMa rfl rfl (ACe (ACk (q_b (q_t (ABy (AC0 rfl rfl (Wl (ABp ?_)))))))))))))));obtain rfl:=ABl (AC2 Aa Ad);exact ⟨Au,(((w64 (Ap * a1)),(w64 (Aq + 1))):(Int) × (Int)),Nat.lt_succ_self _,⟨Ac,Ah⟩,rfl,rfl,trivial⟩
 ·obtain rfl:=ABl (AC3 Aa Ad);change _=Ag at Ac;subst Ac;refine ACb (ACa (ACa (ADj (q_t (ABj (Wl (ABq (ABt ?_))))))));obtain rfl:=ABl Aj;exact ⟨_,ABu,Ah.x,rfl⟩
def AOp (fuel:Nat) (a3 a7:LiA) (Ac Aa:Int):Option ((Int × Int) ⊕ ((Int))):=
  (if Aa < (a7.length:Int) then ((gI a7 Aa).bind fun Ae=>((gI a3 Aa).bind fun Af=>(some (Sum.inl ((w64 (Ac + (w64 (Af * Ae)))),(w64 (Aa + 1))))))) else (some (Sum.inr<| Ac)))
def AIj (fuel:Nat) (a3 a7:LiA) (a9:Int):Option Int:=
  ((iter (fun s=>AOp fuel a3 a7 s.1 s.2) fuel (0,0)).bind (fun (Ad:Int)=>(if a9≠0 then (some (Int.tmod Ad a9)) else none)))
theorem ASj {fuel:Nat} {h:ABk} {Ae:Value} {a3:LiA} {Ag:Value} {a7:LiA} {a9 r:Int} (H2:SlC (cI .i64) h Ae a3) (H6:SlC (cI .i64) h Ag a7) (hp:AIj fuel a3 a7 a9=some r):AB9 Tryz.prog 38 #[Ae,Ag,(.int .i64 a9)] h (fun x h'=>Ext h h'/\x= .int .i64 r):=by
 unfold AIj at hp;refine cwf (l:=[_,_,_]) Tryz.func38 rfl rfl (ABj (ACs (ABq (ABn (ABj (Wl (ADy ABv rfl H6 (Wl (ABp (ABr ?_))))))))));have K0:=Kst.k0 h;obtain ⟨Am,Ap,Aq⟩:=ABm hp;obtain ⟨Ar,Au,Av⟩:=ACd Ap;refine ACi 67105664 (fun x:(Int) × (Int)=>[(7,(.int .i64 x.1)),(12,(.int .i64 x.2))]) (fun k x h'=>iter Ar k (x.1,x.2)=some Am/\Kst h h' (K0.L)) (by kernel_rfl) fuel ((0,0):(Int) × (Int)) ?_ ⟨rfl,rfl,trivial⟩ ?_
 ·exact ⟨Av,K0⟩
 rintro Bg ⟨Aw,Ax⟩ Bh Bi ⟨Ay,Ab⟩;obtain ⟨Az,Bj,rfl,Aa,Ac⟩:=AB4 Ay;rw [Au] at Aa;dsimp only at Aa;unfold AOp at Aa;refine ABj (AC1 rfl rfl (ABp (ABn (⟨_,rfl,fun Ad=>?_,fun Ad=>?_⟩))))
 ·refine ABs (q_t (ABn (ABr (ABj (Wl ?_)))));obtain ⟨A3,A4,A5⟩:=ABm (AC2 Aa Ad);refine AIm (c:=(cI .i64)) ABv rfl H6 rfl A4 fun Bl Bm Bn A6 A7=>?_;obtain rfl:=A6;refine AB8 ACr rfl (ABz (A7 0 _ rfl) Ab.x) (ACe (ABq (ABy (Wl (Wl (Wl ?_))))));obtain ⟨A8,A9,Ba⟩:=ABm A5;refine AIm (c:=(cI .i64)) ABv rfl H2 rfl A9 fun Bo Bp Bq Bb Bc=>?_;obtain rfl:=Bb;refine AB8 ACr rfl (ABz (Bc 0 _ rfl) Ab.x) (Wl (AMa rfl rfl (AC0 rfl rfl (ACe (ACk (q_b (q_t (ABy (AC0 rfl rfl (Wl (ABp ?_)))))))))));obtain rfl:=ABl Ba;exact ⟨Az,(((w64 (Aw + (w64 (A8 * A3)))),(w64 (Ax + 1))):(Int) × (Int)),Nat.lt_succ_self _,⟨Ac,Ab⟩,rfl,rfl,trivial⟩
 ·obtain rfl:=ABl (AC3 Aa Ad);change _=Am at Ac;subst Ac;refine ACb (ACa (ACa (ADj (q_t (ABj (Wl (Wl ?_)))))));obtain ⟨Be,Bf⟩:=ifN Aq;refine AF7 rfl rfl Be (ABq (ABt ?_));obtain rfl:=ABl Bf;exact ⟨_,ABu,Ab.x,rfl⟩
def APt (fuel:Nat) (a3:LiI) (a7:LiA) (a9 Ac Aa:Int):Option ((Int × Int) ⊕ ((Int))):=
  (if Aa < (a7.length:Int) then ((gI a7 Aa).bind fun Af=>((gI a3 Aa).bind fun Ag=>((AIj fuel Ag a7 a9).bind fun Ah=>(some (Sum.inl ((w64 (Ac + (w64 (Ah * Af)))),(w64 (Aa + 1)))))))) else (some (Sum.inr<| Ac)))
def AJi (fuel:Nat) (a3:LiI) (a7:LiA) (a9:Int):Option Int:=
  ((iter (fun s=>APt fuel a3 a7 a9 s.1 s.2) fuel (0,0)).bind (fun (Ad:Int)=>(if a9≠0 then (some (Int.tmod Ad a9)) else none)))
theorem APu {fuel:Nat} {h:ABk} {Af:Value} {a3:LiI} {Ah:Value} {a7:LiA} {a9 r:Int} (H2:AFn (cI .i64) h Af a3) (H6:SlC (cI .i64) h Ah a7) (hp:AJi fuel a3 a7 a9=some r):AB9 Tryz.prog 40 #[Af,Ah,(.int .i64 a9)] h (fun x h'=>Ext h h'/\x= .int .i64 r):=by
 unfold AJi at hp;refine cwf (l:=[_,_,_]) Tryz.func40 rfl rfl (ABj (ACs (ABq (ABn (ABj (Wl (ADy ABv rfl H6 (Wl (ABp (ABr ?_))))))))));have K0:=Kst.k0 h;obtain ⟨Am,Ap,Aq⟩:=ABm hp;obtain ⟨Ar,Au,Av⟩:=ACd Ap;refine ACi 536867712 (fun x:(Int) × (Int)=>[(7,(.int .i64 x.1)),(12,(.int .i64 x.2))]) (fun k x h'=>iter Ar k (x.1,x.2)=some Am/\Kst h h' (K0.L)) (by kernel_rfl) fuel ((0,0):(Int) × (Int)) ?_ ⟨rfl,rfl,trivial⟩ ?_
 ·exact ⟨Av,K0⟩
 rintro Bl ⟨Aw,Ax⟩ Bm Bn ⟨Ay,Aa⟩;obtain ⟨Az,Bo,rfl,Ab,Ad⟩:=AB4 Ay;rw [Au] at Ab;dsimp only at Ab;unfold APt at Ab;refine ABj (AC1 rfl rfl (ABp (ABn (⟨_,rfl,fun Ae=>?_,fun Ae=>?_⟩))))
 ·refine ABs (q_t (ABn (ABr (ABj (Wl ?_)))));obtain ⟨A3,A4,A5⟩:=ABm (AC2 Ab Ae);refine AIm (c:=(cI .i64)) ABv rfl H6 rfl A4 fun Bp Bq Br A6 A7=>?_;obtain rfl:=A6;refine AB8 ACr rfl (ABz (A7 0 _ rfl) Aa.x) (ACe (ABq (ABy (Wl (Wl (Wl ?_))))));obtain ⟨Bt,A8,A9⟩:=ABm A5;refine AIn AB3 rfl H2 rfl A8 fun Bu Bv Bw Ba Bb=>AB8 ACo rfl (ABz Ba Aa.x) (Wl (Wl ?_));obtain ⟨Bc,Be,Bf⟩:=ABm A9;refine ACw rfl (ASj (Bb.ext Aa.x) (H6.ext Aa.x) Be) fun Bx By Bg Bh=>?_;subst Bh;refine Wl (AMa rfl rfl (AC0 rfl rfl (ACe (ACk (q_b (q_t (ABy (AC0 rfl rfl (Wl (ABp ?_))))))))));obtain rfl:=ABl Bf;exact ⟨Az,(((w64 (Aw + (w64 (Bc * A3)))),(w64 (Ax + 1))):(Int) × (Int)),Nat.lt_succ_self _,⟨Ad,(Aa.e Bg)⟩,rfl,rfl,trivial⟩
 ·obtain rfl:=ABl (AC3 Ab Ae);change _=Am at Ad;subst Ad;refine ACb (ACa (ACa (ADj (q_t (ABj (Wl (Wl ?_)))))));obtain ⟨Bi,Bj⟩:=ifN Aq;refine AF7 rfl rfl Bi (ABq (ABt ?_));obtain rfl:=ABl Bj;exact ⟨_,ABu,Aa.x,rfl⟩
noncomputable def ALv (fuel:Nat) (a3:LiI) (a5:Int):Option Int:=
  ((AWk fuel a3).bind fun x6=>(if (!x6)=true then (some 6) else (((if a5=2 then (some (Sum.inl <| 20)) else (if 9973 < a5 then (some (Sum.inl <| 20)) else ((AY3 fuel a5).bind fun Ad=>(if (!Ad)=true then (some (Sum.inl <| 20)) else (some (Sum.inr <| ())))))):Option ((Int) ⊕ (Unit))).bind (fun ex=>match ex with | Sum.inl Ae=>(some Ae) | Sum.inr (_)=>((AJm fuel a3 a5).bind fun (Af,Ag)=>(if ¬ Ag=0 then (some 20) else (if Af=0 then (some 20) else (some 0))))))))
theorem ASk {fuel:Nat} {h:ABk} {Am:Value} {a3:LiI} {a5 r:Int} (H2:AFn (cI .i64) h Am a3) (HO:AUy h) (hp:ALv fuel a3 a5=some r):AB9 Tryz.prog 34 #[Am,(.int .i64 a5)] h (fun x h'=>Ext h h'/\x= .int .i64 r):=by
 unfold ALv at hp;refine cwf (l:=[_,_]) Tryz.func34 rfl rfl (ABj (ABq (ABn (ABj (Wl ?_)))));have K0:=Kst.k0 h;obtain ⟨x6,A3,Ar⟩:=ABm hp;refine ACw rfl (Agn (H2.ext K0.x) A3) fun Bh Bi E9 A5=>?_;subst A5;refine AF8 rfl (ABp ?_);have Aa:=K0.e E9;refine ⟨_,rfl,fun Ag=>?_,fun Ag=>?_⟩
 ·refine ABj (ABq (ABt (AB1 ?_)));obtain rfl:=ABl (ifT Ar Ag);exact ⟨_,ABu,Aa.x,rfl⟩
 ·refine ABs (q_t ?_);obtain ⟨A6,Au,Ac⟩:=ABm (AIz Ar Ag);refine ANh 2096144 (fun x:Unit=>[]) (fun x h'=>(Sum.inr <| ())=A6/\Kst h h' (Aa.L)) ?_ ?_
  ·refine ABj (Wl (ADn rfl rfl (Wl ?_)));by_cases Ad:a5=2
   ·rw [decide_eq_true Ad];refine AGh 12 true (AB2 rfl (Wl (ALx 16 true (AB2 rfl (ABp (ACc rfl (ABj (ABq ?_))))))));obtain rfl:=ABl (ifT Au Ad);refine ABt (AB1 ?_);obtain rfl:=ABl Ac;exact ⟨_,ABu,Aa.x,rfl⟩
   ·have Av:=ifF Au Ad;rw [decide_eq_false Ad];refine ACm 12 false (Wl (ACm 12 false (AI4 rfl rfl (ABw rfl (Wl ?_)))));by_cases Ae:9973 < a5
    ·rw [decide_eq_true Ae];refine ALx 16 true (AB2 rfl (ABp (ACc rfl (ABj (ABq ?_)))));obtain rfl:=ABl (ifT Av Ae);refine ABt (AB1 ?_);obtain rfl:=ABl Ac;exact ⟨_,ABu,Aa.x,rfl⟩
    ·rw [decide_eq_false Ae];refine ACm 16 false (Wl (ACm 16 false ?_));obtain ⟨Bj,A7,Aw⟩:=ABm (ifF Av Ae);refine ACw rfl (Aj0 (HO.ext Aa.x) A7) fun Bl Bm A8 A9=>?_;subst A9;refine ACm 16 false (AF8 rfl (ABw rfl (ABp ?_)));have Ax:=Aa.e A8;refine ⟨_,rfl,fun Ah=>?_,fun Ah=>?_⟩
     ·refine ABj (ABq ?_);obtain rfl:=ABl (ifT Aw Ah);refine ABt (AB1 ?_);obtain rfl:=ABl Ac;exact ⟨_,ABu,Ax.x,rfl⟩
     ·refine ABs (q_t ?_);exact ⟨(():Unit),⟨ABl (AIz Aw Ah),Ax⟩,trivial⟩
  rintro ⟨⟩ Bn Bo ⟨Ba,Ay⟩;subst Ba;refine ABn (ABj (Wl (Wl ?_)));obtain ⟨⟨Bp,Bb⟩,Bc,Ai⟩:=ABm Ac;dsimp only at Ai;refine ACw rfl (ARc (H2.ext Ay.x) Bc) fun Bq Br Be Bf=>?_;subst Bf;refine Wl (AC6 rfl rfl (AC6 rfl rfl (ACe (ACs (Wl (AHf rfl rfl (Wl ?_)))))));have Aj:=Ay.e Be;by_cases Af: ¬ Bb=0
  ·rw [decide_eq_true Af];refine AGh 29 true (AB2 rfl (ABp (ACc rfl (ABj (ABq (ABt (AB1 ?_)))))));obtain rfl:=ABl (ifT Ai Af);exact ⟨_,ABu,Aj.x,rfl⟩
  ·have Az:=ifF Ai Af;rw [decide_eq_false Af];refine ACm 29 false (Wl (ACm 29 false (ADn rfl rfl (ABw rfl (ABp (⟨_,rfl,fun Ak=>?_,fun Ak=>?_⟩))))))
   ·refine ABj (ABq (ABt (AB1 ?_)));obtain rfl:=ABl (AC2 Az Ak);exact ⟨_,ABu,Aj.x,rfl⟩
   ·refine ABs (q_t (ABj (ABq (ABt ?_))));obtain rfl:=ABl (AC3 Az Ak);exact ⟨_,ABu,Aj.x,rfl⟩
noncomputable def AOx (fuel:Nat) (a3:LiI) (a5 Ab Ac:Int):Option ((Int × Int) ⊕ ((Int) ⊕ (Unit))):=
  (if Ac < (a3.length:Int) then (if 65536 < (w64 (Ab * a5)) then (some (Sum.inr<| Sum.inl <| 7)) else (some (Sum.inl ((w64 (Ab * a5)),(w64 (Ac + 1)))))) else (some (Sum.inr<| Sum.inr <| ())))
noncomputable def AIl (fuel:Nat) (a3:LiI) (a5:Int):Option Int:=
  ((ALv fuel a3 a5).bind fun x6=>(if ¬ x6=0 then (some x6) else ((iter (fun s=>AOx fuel a3 a5 s.1 s.2) fuel (1,0)).bind (fun ex=>match ex with | Sum.inl Ad=>(some Ad) | Sum.inr (_)=>(some 0)))))
theorem AOy {fuel:Nat} {h:ABk} {Ak:Value} {a3:LiI} {a5 r:Int} (H2:AFn (cI .i64) h Ak a3) (HO:AUy h) (hp:AIl fuel a3 a5=some r):AB9 Tryz.prog 45 #[Ak,(.int .i64 a5)] h (fun x h'=>Ext h h'/\x= .int .i64 r):=by
 unfold AIl at hp;refine cwf (l:=[_,_]) Tryz.func45 rfl rfl (ABj (ABq (ABn (ABj (Wl (Wl ?_))))));have K0:=Kst.k0 h;obtain ⟨x6,Au,Ap⟩:=ABm hp;refine ACw rfl (ASk (H2.ext K0.x) (HO.ext K0.x) Au) fun A9 Ba E9 Aw=>?_;subst Aw;refine ACs (Wl (AHf rfl rfl (ABp ?_)));have Ae:=K0.e E9;refine ⟨_,rfl,fun Af=>?_,fun Af=>?_⟩
 ·refine ABj (Wl (ABq (ABt (AB1 ?_))));obtain rfl:=ABl (AC2 Ap Af);exact ⟨_,ABu,Ae.x,rfl⟩
 ·refine ABs (q_t (ABj (ABq (ABn (ABj (Wl (ADf AB3 rfl H2 (Wl (ABp (ABr ?_))))))))));obtain ⟨Ag,Ax,Aq⟩:=ABm (AC3 Ap Af);obtain ⟨Ay,Az,A3⟩:=ACd Ax;refine ACi 8355920 (fun x:(Int) × (Int)=>[(6,(.int .i64 x.1)),(15,(.int .i64 x.2))]) (fun k x h'=>iter Ay k (x.1,x.2)=some Ag/\Kst h h' (Ae.L)) (by kernel_rfl) fuel ((1,0):(Int) × (Int)) ?_ ⟨rfl,rfl,trivial⟩ ?_
  ·exact ⟨A3,Ae⟩
  rintro Bb ⟨A4,A5⟩ Bc Be ⟨A6,Ah⟩;obtain ⟨A7,Bf,rfl,Aa,Ab⟩:=AB4 A6;rw [Az] at Aa;dsimp only at Aa;unfold AOx at Aa;refine ABj (AC1 rfl rfl (ABp (ABn (⟨_,rfl,fun Ai=>?_,fun Ai=>?_⟩))))
  ·refine ABs (q_t (ABn (ABr (ABj (Wl (Wl (AMa rfl rfl (ACs (Wl (AI4 rfl rfl (ABp ?_)))))))))));have Ar:=AC2 Aa Ai;refine ⟨_,rfl,fun Aj=>?_,fun Aj=>?_⟩
   ·refine ABj (ABq ?_);obtain rfl:=ABl (AC2 Ar Aj);change _=Ag at Ab;subst Ab;refine ABt (ADl (AB1 (AB1 (ADl (AB1 ?_)))));obtain rfl:=ABl Aq;exact ⟨_,ABu,Ah.x,rfl⟩
   ·refine ABs (q_b (q_t (ABy (AC0 rfl rfl (Wl (ABp ?_))))));obtain rfl:=ABl (AC3 Ar Aj);exact ⟨A7,(((w64 (A4 * a5)),(w64 (A5 + 1))):(Int) × (Int)),Nat.lt_succ_self _,⟨Ab,Ah⟩,rfl,rfl,trivial⟩
  ·obtain rfl:=ABl (AC3 Aa Ai);change _=Ag at Ab;subst Ab;refine ACb (ACa (ACa (ADj (q_t (ABj (ABq (ABt ?_)))))));obtain rfl:=ABl Aq;exact ⟨_,ABu,Ah.x,rfl⟩
def ARd (fuel:Nat) (a5:Int) (a8:LiA) (Ab Aa:Int):Option ((Int × Int) ⊕ ((Bool) ⊕ (Int))):=
  (if Aa < (a8.length:Int) then ((gI a8 Aa).bind fun Ac=>(((if Ac < 0 then (some (Sum.inl <| false)) else (if a5<=Ac then (some (Sum.inl <| false)) else (some (Sum.inr <| ())))):Option ((Bool) ⊕ (Unit))).bind (fun ex=>match ex with | Sum.inl Af=>(some (Sum.inr<| Sum.inl <| Af)) | Sum.inr (_)=>(if Ab=0 then (some (Sum.inl (Ac,(w64 (Aa + 1))))) else (some (Sum.inl (Ab,(w64 (Aa + 1))))))))) else (some (Sum.inr<| Sum.inr <| Ab)))
def AK2 (fuel:Nat) (a3:LiI) (a5:Int) (a8:LiA):Option Bool:=
  (if ¬ (a8.length:Int)=(a3.length:Int) then (some false) else ((iter (fun s=>ARd fuel a5 a8 s.1 s.2) fuel (0,0)).bind (fun ex=>match ex with | Sum.inl Ad=>(some Ad) | Sum.inr (Ae)=>((AFe fuel a3 a5).bind fun (Af,Ah)=>(if Ae=1 then ((AJi fuel Af a8 a5).bind fun Ag=>(some (decide (Ag=0)))) else (some false))))))
theorem AWo {fuel:Nat} {h:ABk} {Au:Value} {a3:LiI} {a5:Int} {Ax:Value} {a8:LiA} {r:Bool} (H2:AFn (cI .i64) h Au a3) (H7:SlC (cI .i64) h Ax a8) (hp:AK2 fuel a3 a5 a8=some r):AB9 Tryz.prog 35 #[Au,(.int .i64 a5),Ax] h (fun x h'=>Ext h h'/\x= .bool r):=by
 unfold AK2 at hp;refine cwf (l:=[_,_,_]) Tryz.func35 rfl rfl (ABj (ABq (ABn (ABj (Wl (ADy ABv rfl H7 (Wl (ADf AB3 rfl H2 (AHf rfl rfl (ABp ?_))))))))));have K0:=Kst.k0 h;refine ⟨_,rfl,fun Ak=>?_,fun Ak=>?_⟩
 ·refine ABj (ABq (ABt (AB1 ?_)));obtain rfl:=ABl (AC2 hp Ak);exact ⟨_,ABu,K0.x,rfl⟩
 ·refine ABs (q_t (ABj (ABq (ABn (ABj (Wl (ADy ABv rfl H7 (Wl (ABp (ABr ?_))))))))));obtain ⟨Ae,Ba,Am⟩:=ABm (AC3 hp Ak);obtain ⟨Bb,Bc,Be⟩:=ACd Ba;refine ACi 17179345600 (fun x:(Int) × (Int)=>[(7,(.int .i64 x.1)),(19,(.int .i64 x.2))]) (fun k x h'=>iter Bb k (x.1,x.2)=some Ae/\Kst h h' (K0.L)) (by kernel_rfl) fuel ((0,0):(Int) × (Int)) ?_ ⟨rfl,rfl,trivial⟩ ?_
  ·exact ⟨Be,K0⟩
  rintro Bx ⟨A3,A4⟩ By Bz ⟨Bf,Ab⟩;obtain ⟨A5,B1,rfl,Ac,Aa⟩:=AB4 Bf;rw [Bc] at Ac;dsimp only at Ac;unfold ARd at Ac;refine ABj (AC1 rfl rfl (ABp (ABn (⟨_,rfl,fun Ao=>?_,fun Ao=>?_⟩))))
  ·refine ABs (q_t (ABn (ABr (ABj ?_))));obtain ⟨A6,Bg,Bh⟩:=ABm (AC2 Ac Ao);refine AIm (c:=(cI .i64)) ABv rfl H7 rfl Bg fun B2 B3 B4 Bi Bj=>?_;obtain rfl:=Bi;refine AB8 ACr rfl (ABz (Bj 0 _ rfl) Ab.x) (ABq ?_);obtain ⟨Bl,A7,Af⟩:=ABm Bh;refine ANh 1065353280 (fun x:Unit=>[]) (fun x h'=>(Sum.inr <| ())=Bl/\Kst h h' (Ab.L)) ?_ ?_
   ·refine ABj (Wl (AC1 rfl rfl (Wl ?_)));by_cases Ag:A6 < 0
    ·rw [decide_eq_true Ag];refine ALx 25 true (AB2 rfl (ABp (ACc rfl (ABj (ABq ?_)))));obtain rfl:=ABl (ifT A7 Ag);obtain rfl:=ABl Af;change _=Ae at Aa;subst Aa;refine ABt (AB1 (ADl (AB1 (AB1 (ADl (AB1 ?_))))));obtain rfl:=ABl Am;exact ⟨_,ABu,Ab.x,rfl⟩
    ·have A8:=ifF A7 Ag;rw [decide_eq_false Ag];refine ACm 25 false (Wl (ACm 25 false (Wl (ACm 25 false (AM6 rfl rfl (ABw rfl (ABp (⟨_,rfl,fun Ap=>?_,fun Ap=>?_⟩))))))))
     ·refine ABj (ABq ?_);obtain rfl:=ABl (AC2 A8 Ap);obtain rfl:=ABl Af;change _=Ae at Aa;subst Aa;refine ABt (AB1 (ADl (AB1 (AB1 (ADl (AB1 ?_))))));obtain rfl:=ABl Am;exact ⟨_,ABu,Ab.x,rfl⟩
     ·refine ABs (q_t ?_);exact ⟨(():Unit),⟨ABl (AC3 A8 Ap),Ab⟩,trivial⟩
   rintro ⟨⟩ B5 B6 ⟨Bm,A9⟩;subst Bm;refine ABj (Wl (ADn rfl rfl (ABp (⟨_,rfl,fun Aq=>?_,fun Aq=>?_⟩))))
   ·refine ABy (Wl (ACe (ACk (q_b (q_t (ABy (AC0 rfl rfl (Wl (ABp ?_)))))))));obtain rfl:=ABl (AC2 Af Aq);exact ⟨A5,((A6,(w64 (A4 + 1))):(Int) × (Int)),Nat.lt_succ_self _,⟨Aa,A9⟩,rfl,rfl,trivial⟩
   ·refine ABs (q_b (q_t (ABy (AC0 rfl rfl (Wl (ABp ?_))))));obtain rfl:=ABl (AC3 Af Aq);exact ⟨A5,((A3,(w64 (A4 + 1))):(Int) × (Int)),Nat.lt_succ_self _,⟨Aa,A9⟩,rfl,rfl,trivial⟩
  ·obtain rfl:=ABl (AC3 Ac Ao);change _=Ae at Aa;subst Aa;refine ACb (ACa (ACa (ADj (q_t (ABj (Wl (Wl ?_)))))));obtain ⟨⟨B7,B8⟩,Bn,Ar⟩:=ABm Am;dsimp only at Ar;refine ACw rfl (ALa (H2.ext Ab.x) Bn) fun B9 Ca Bo Bp=>?_;obtain ⟨Cb,Cd,Ce,Cf,rfl,Bq,Br⟩:=Bp;refine Wl (AC6 rfl rfl (AC6 rfl rfl (ACe (ACs (Wl (ADn rfl rfl (Wl ?_)))))));have Ah:=Ab.no2 Bo Br Bq;by_cases Ai:A3=1
   ·rw [decide_eq_true Ai];refine ACm 42 true (Wl (ACm 42 true (Wl (ACm 42 true (Wl (ACm 42 true ?_))))));obtain ⟨Cg,Bt,Bu⟩:=ABm (ifT Ar Ai);refine ACw rfl (APu (Ah.o2 p0).rd (H7.ext Ah.x) Bt) fun Ch Ci Bv Bw=>?_;subst Bw;refine ACm 42 true (ADn rfl rfl (AB2 rfl (ABq (ABt ?_))));obtain rfl:=ABl Bu;exact ⟨_,ABu,(Ah.e Bv).x,rfl⟩
   ·rw [decide_eq_false Ai];refine AKr 42 false (ABw rfl (ABq (ABt ?_)));obtain rfl:=ABl (ifF Ar Ai);exact ⟨_,ABu,Ah.x,rfl⟩
noncomputable def ALn (fuel:Nat) (a3:LiI) (a5:Int):Option (Int × Int):=
  ((AIl fuel a3 a5).bind fun x6=>(if ¬ x6=0 then (some (0,x6)) else (if (Int.tmod (a3.length:Int) 2)=1 then ((ANe fuel a5 (w64 (2 * (w64 (Int.tdiv (a3.length:Int) 2))))).bind fun Af=>(if (w64 (a5 - 1))≠0 then (some ((w64 (Int.tdiv (w64 (Af - 1)) (w64 (a5 - 1)))),0)) else none)) else ((AJm fuel a3 a5).bind fun (Ad,Aj)=>(((if (Int.tmod (w64 (Int.tdiv (a3.length:Int) 2)) 2)=1 then (some ( (w64 (0 - Ad)))) else (some ( Ad))):Option ((Int))).bind (fun (Ag:Int)=>((ANd fuel Ag a5).bind fun (Ae,Ak)=>((ANe fuel a5 (w64 (Int.tdiv (a3.length:Int) 2))).bind fun Ah=>((ANe fuel a5 (w64 ((w64 (Int.tdiv (a3.length:Int) 2)) - 1))).bind fun Ai=>(if (w64 (a5 - 1))≠0 then (some ((w64 (Int.tdiv (w64 ((w64 (Ah - Ae)) * (w64 (Ai + Ae)))) (w64 (a5 - 1)))),0)) else none))))))))))
theorem AVr {fuel:Nat} {h:ABk} {Ah:Value} {a3:LiI} {a5:Int} {r:(Int × Int)} (H2:AFn (cI .i64) h Ah a3) (HO:AUy h) (hp:ALn fuel a3 a5=some r):AB9 Tryz.prog 23 #[Ah,(.int .i64 a5)] h (fun x h'=>Ext h h'/\x= .tuple #[.int .i64 r.1,.int .i64 r.2]):=by
 unfold ALn at hp;refine cwf (l:=[_,_]) Tryz.func23 rfl rfl (ABj (ACe (ABq (ABn (ABj (Wl (Wl ?_)))))));have K0:=Kst.k0 h;obtain ⟨x6,Au,Ak⟩:=ABm hp;refine ACw rfl (AOy (H2.ext K0.x) (HO.ext K0.x) Au) fun Bu Bv E9 Aw=>?_;subst Aw;refine ACs (Wl (AHf rfl rfl (ABp ?_)));have Aa:=K0.e E9;refine ⟨_,rfl,fun Ad=>?_,fun Ad=>?_⟩
 ·refine ABj (Wl (ACe (ABq (ABt (AB1 ?_)))));obtain rfl:=ABl (AC2 Ak Ad);exact ⟨_,ADa,Aa.x,rfl⟩
 ·refine ABs (q_t (ABj (Wl (ADf AB3 rfl H2 (ACs (Wl (AT1 rfl rfl (by decide) (ABq (ABn (ABj (Wl (AF7 rfl rfl (by decide) (ADn rfl rfl (ABp ?_))))))))))))));have Am:=AC3 Ak Ad;refine ⟨_,rfl,fun Ae=>?_,fun Ae=>?_⟩
  ·refine ABj (Wl (Wl (AMa rfl rfl ?_)));obtain ⟨Bw,Ax,Ay⟩:=ABm (AC2 Am Ae);refine ACw rfl (AOo Ax) fun Bx By Az A3=>?_;subst A3;refine AGt rfl rfl (Wl (AGt rfl rfl ?_));obtain ⟨A4,A5⟩:=ifN Ay;refine AT1 rfl rfl A4 (ACe (ABq (ABt (AB1 ?_))));obtain rfl:=ABl A5;exact ⟨_,ADa,(Aa.e Az).x,rfl⟩
  ·refine ABs (q_t (ABj (Wl (Wl ?_))));obtain ⟨⟨Ao,Bz⟩,A6,Ap⟩:=ABm (AC3 Am Ae);dsimp only at Ap;refine ACw rfl (ARc (H2.ext Aa.x) A6) fun B1 B2 A7 A8=>?_;subst A8;refine Wl (AC6 rfl rfl (AC6 rfl rfl (ACe (ABq ?_))));have Af:=Aa.e A7;obtain ⟨A9,Aq,Ba⟩:=ABm Ap;refine ANh 68169720922624 (fun x:(Int)=>[(9,(.int .i64 x))]) (fun x h'=>( x)=A9/\Kst h h' (Af.L)) ?_ ?_
   ·refine ABj (Wl (AF7 rfl rfl (by decide) (ADn rfl rfl (ABp (⟨_,rfl,fun Ag=>?_,fun Ag=>?_⟩)))))
    ·refine ABy (Wl (ASw rfl (ABq ?_)));exact ⟨((w64 (0 - Ao)):(Int)),⟨ABl (AC2 Aq Ag),Af⟩,rfl,trivial⟩
    ·refine ABs (q_t ?_);exact ⟨(Ao:(Int)),⟨ABl (AC3 Aq Ag),Af⟩,rfl,trivial⟩
   rintro B3 B4 B5 ⟨Bb,Bc⟩;subst Bb;refine ABj (Wl (Wl ?_));obtain ⟨⟨B6,B7⟩,Be,Ar⟩:=ABm Ba;dsimp only at Ar;refine ACw rfl (ATc Be) fun B8 B9 Bf Bg=>?_;subst Bg;refine Wl (AC6 rfl rfl (AC6 rfl rfl (ACe (ACs (Wl (ACs (Wl (Wl ?_))))))));obtain ⟨Ca,Bh,Bi⟩:=ABm Ar;refine ACw rfl (AOo Bh) fun Cb Cd Bj Bl=>?_;subst Bl;refine Wl (AGt rfl rfl (Wl (Wl (AGt rfl rfl ?_))));obtain ⟨Ce,Bm,Bn⟩:=ABm Bi;refine ACw rfl (AOo Bm) fun Cf Cg Bo Bp=>?_;subst Bp;refine Wl (AC0 rfl rfl (AMa rfl rfl (Wl (AGt rfl rfl ?_))));obtain ⟨Bq,Br⟩:=ifN Bn;refine AT1 rfl rfl Bq (ACe (ABq (ABt ?_)));obtain rfl:=ABl Br;exact ⟨_,ADa,(((Bc.e Bf).e Bj).e Bo).x,rfl⟩
noncomputable def ALo (fuel:Nat) (a5:Int) (a8:LiA) (Ad:LiI) (Ab:Int) (Ac:LiA):Option ((Int × LiA) ⊕ ((LiA))):=
  (if Ab < (Ad.length:Int) then ((gI Ad Ab).bind fun Ag=>((AIj fuel Ag a8 a5).bind fun Af=>(if Af=0 then (some (Sum.inl ((w64 (Ab + 1)),Ac))) else ((AVq fuel ([([(w64 (2 * Af))]:List Int)]:List LiA) a5).bind fun (Ah,Ao)=>((AJi fuel Ad a8 (w64 (a5 * a5))).bind fun Ai=>(if a5≠0 then ((gI Ah 0).bind fun Aj=>((gI Aj 0).bind fun Ak=>(if a5≠0 then ((gI Ac Ab).bind fun Am=>(some (Sum.inr<| (sI Ac Ab (w64 (Am + (w64 (a5 * (Int.tmod (w64 ((w64 (a5 - (w64 (Int.tdiv Ai a5)))) * Ak)) a5))))))))) else none))) else none)))))) else (some (Sum.inr<| Ac)))
noncomputable def AGd (fuel:Nat) (a3:LiI) (a5:Int) (a8:LiA):Option (LiA × Int):=
  ((ALv fuel a3 a5).bind fun Ad=>(if ¬ Ad=0 then (some ([],Ad)) else ((AK2 fuel a3 a5 a8).bind fun Ae=>(if (!Ae)=true then (some ([],26)) else ((AFe fuel a3 (w64 (a5 * a5))).bind fun (Af,Ai)=>((AJ4 fuel a8).bind fun Ag=>((iter (fun s=>ALo fuel a5 a8 Af s.1 s.2) fuel (0,Ag)).bind (fun (Ah:LiA)=>(some (Ah,0))))))))))
theorem APv {fuel:Nat} {h:ABk} {A5:Value} {a3:LiI} {a5:Int} {A7:Value} {a8:LiA} {r:(LiA × Int)} (H2:AFn (cI .i64) h A5 a3) (H7:SlC (cI .i64) h A7 a8) (HO:AUy h) (hp:AGd fuel a3 a5 a8=some r):AB9 Tryz.prog 15 #[A5,(.int .i64 a5),A7] h (fun x h'=>Ext h h'/\ ∃ (x0:Value) (F0:List Nat),x= .tuple #[x0,.int .i64 r.2]/\OwC (cI .i64) 2 h' F0 x0 r.1/\Sp h' h.size [F0]):=by
 unfold AGd at hp;refine cwf (l:=[_,_,_]) Tryz.func15 rfl rfl (ABj (ACe (ABq (ABn (ABj (Wl (Wl ?_)))))));have K0:=Kst.k0 h;obtain ⟨Dx,Bq,Bb⟩:=ABm hp;refine ACw rfl (ASk (H2.ext K0.x) (HO.ext K0.x) Bq) fun Dy Dz Br Bt=>?_;subst Bt;refine ACs (Wl (AHf rfl rfl (ABp ?_)));have Ag:=K0.e Br;refine ⟨_,rfl,fun Ak=>?_,fun Ak=>?_⟩
 ·refine ABj (Wl (ACe (ABq (ABt (AB1 ?_)))));have Am:=Kst.anil (cI .i64) 2 Ag;obtain rfl:=ABl (AC2 Bb Ak);exact ⟨_,ADa,Am.x,_,_,rfl,(Am.o p0),Am.s.sel [0] (by decide)⟩
 ·refine ABs (q_t (ABn (ABj (Wl (Wl (Wl ?_))))));obtain ⟨D0,Bu,Bc⟩:=ABm (AC3 Bb Ak);refine ACw rfl (AWo (H2.ext Ag.x) (H7.ext Ag.x) Bu) fun D1 D2 Bv Bw=>?_;subst Bw;refine AF8 rfl (ABp ?_);have Ao:=Ag.e Bv;refine ⟨_,rfl,fun Ap=>?_,fun Ap=>?_⟩
  ·refine ABj (ACe (ABq (ABt (AB1 ?_))));have Aq:=Kst.anil (cI .i64) 2 Ao;obtain rfl:=ABl (ifT Bc Ap);exact ⟨_,ADa,Aq.x,_,_,rfl,(Aq.o p0),Aq.s.sel [0] (by decide)⟩
  ·refine ABs (q_t (ABj (Wl (Wl (Wl (AMa rfl rfl ?_))))));obtain ⟨⟨D3,D4⟩,Bx,Be⟩:=ABm (AIz Bc Ap);dsimp only at Be;refine ACw rfl (ALa (H2.ext Ao.x) Bx) fun D5 D6 By Bz=>?_;obtain ⟨D7,D8,D9,Ea,rfl,B1,B2⟩:=Bz;refine Wl (AC6 rfl rfl (AC6 rfl rfl (ACe (ACs (Wl ?_)))));have Bf:=Ao.no2 By B2 B1;obtain ⟨B3,B4,B5⟩:=ABm Be;refine ACw rfl (AQb (H7.ext Bf.x) B4) fun B6 Eb B7 B8=>?_;obtain ⟨Ec,B9,rfl,Ca,Cb⟩:=B8;refine ABq (ABn (ABj (Wl ?_)));have Ar:=Bf.no B7 Cb Ca;refine ADf AB3 rfl (Ar.o2 p1).rd (Wl (ABp (ABr ?_)));obtain ⟨Au,Cd,Bg⟩:=ABm B5;obtain ⟨Ce,Cf,Cg⟩:=ACd Cd;refine ACi 618970019642687938426564608 (fun x:(Int) × (LiA) × LnA=>[(41,(.int .i64 x.1))]) (fun k x h'=>iter Ce k (x.1,x.2.1)=some Au/\Kst h h' (Ar.L.set 0 (aO (cI .i64) 2 x.2.2 B6 x.2.1))) (by kernel_rfl) fuel ((0,B3,B9):(Int) × (LiA) × LnA) ?_ ⟨rfl,trivial⟩ ?_
   ·exact ⟨Cg,Ar⟩
   rintro Ed ⟨Ch,Ci,Cj⟩ Ee Ef ⟨Ck,Aa⟩;obtain ⟨Cm,Eg,rfl,Ac,Ad⟩:=AB4 Ck;rw [Cf] at Ac;dsimp only at Ac;unfold ALo at Ac;refine ABj (AC1 rfl rfl (ABp (ABn (⟨_,rfl,fun Av=>?_,fun Av=>?_⟩))))
   ·refine ABs (q_t (ABn (ABr (ABj (Wl ?_)))));obtain ⟨Eh,Bh,Cn⟩:=ABm (AC2 Ac Av);refine ADt AB3 rfl (Aa.o2 p1) rfl Bh fun Ei Ej Ek Co Cp=>AB8 ACo rfl Cp (ACe (ACs (Wl (Wl (Wl ?_)))));obtain ⟨Bi,Cq,Bj⟩:=ABm Cn;refine ACw rfl (ASj ((Aa.o2 p1).rowI Co Bh) (H7.ext Aa.x) Cq) fun El Em Cr Ct=>?_;subst Ct;refine ABq (ABn (ABj (Wl (ADn rfl rfl (ABp ?_)))));have Bl:=Aa.e Cr;refine ⟨_,rfl,fun Aw=>?_,fun Aw=>?_⟩
    ·refine ACb (ACa (ADj (q_t (ABy (AC0 rfl rfl (Wl (ABp ?_)))))));obtain rfl:=ABl (AC2 Bj Aw);exact ⟨Cm,(((w64 (Ch + 1)),Ci,Cj):(Int) × (LiA) × LnA),Nat.lt_succ_self _,⟨Ad,Bl⟩,rfl,trivial⟩
    ·refine ABs (q_t (ABj (Wl (AMa rfl rfl (AQp (κ:= .i64) [(w64 (2 * Bi))] ABv AGz rfl rfl trivial tt2 rfl rfl rfl rfl fun Cu Cv En Cw Cx Cy Cz=>?_)))));have Ax:=Bl.no Cx (AGr Cy Cz) Cw;refine AMx (c:=(cI .i64)) (el:=2) [[Cu]] [Cv] [([(w64 (2 * Bi))]:List Int)] AB3 AKb rfl rfl trivial tt2 rfl rfl rfl rfl (AKx (Ax.o p0).isOne AP9) ⟨(Ax.o p0),trivial⟩ (by simp) fun Eo Ep Er C0 C1 C2=>Wl ?_;have Bm:=(((Ax.a0).grab p0)).lit C1 C0 (by simpa using C2);obtain ⟨⟨Es,Et⟩,C3,Bn⟩:=ABm (AC3 Bj Aw);dsimp only at Bn;refine ACw rfl (Aoa (Bm.o2 p0).rd C3) fun Eu Ay C4 C5=>?_;obtain ⟨Ev,rfl,C6⟩:=C5;refine Wl (AC6 rfl rfl (AC6 rfl rfl (ACe (ABq (ABn (AEq (fun h'=>UpT [] Ay h') (by kernel_rfl) ?_))))));have Az:=Bm.e C4;have A3:UpT [] Ay Ay:=UpT.start all_nil;refine Wl (Wl (Wl (Wl (Wl (AMa rfl rfl ?_)))));obtain ⟨C7,C8,C9⟩:=ABm Bn;refine ADc A3 (fun _ E=>A3.thenE E) rfl (APu (Az.o2 p3).rd (H7.ext Az.x) C8) fun Ew Ey Bo Da=>?_;subst Da;refine Wl ?_;have Bp:=A3.thenE Bo;have Ae:=Az.e Bo;obtain ⟨Db,Dc⟩:=ifN C9;refine AT1 rfl rfl Db (AGt rfl rfl (Wl ?_));obtain ⟨Ez,Dd,De⟩:=ABm Dc;refine AIn AB3 rfl C6 rfl Dd fun Fa Fb Fc Df Dg=>AGp ACo rfl Bp (fun h' hb=>ABz Df hb.ext) ?_;obtain ⟨Dh,Di,Dj⟩:=ABm De;refine AIm (c:=(cI .i64)) ABv rfl Dg rfl Di fun Fd Fe Ff Dk Dl=>?_;obtain rfl:=Dk;refine AGp ACr rfl Bp (fun h' hb=>ABz (Dl 0 _ rfl) hb.ext) (AMa rfl rfl (Wl ?_));obtain ⟨Dn,Do⟩:=ifN Dj;refine AF7 rfl rfl Dn (ACs (Wl (Wl ?_)));obtain ⟨Dp,Ah,Dq⟩:=ABm Do;refine AMr ABv rfl (Ae.o p2) rfl Ah fun Fg Dr=>?_;obtain ⟨Fh,Ds,Dt⟩:=(Ae.o p2).cells Dr Ah;obtain rfl:=Ds;refine AB8 ACr rfl (Dt 0 _ rfl) (Wl (Wl (AMa rfl rfl (AC0 rfl rfl (AMr ABv rfl (Ae.o p2) rfl Ah fun Fi Du=>AYj (AF3 ACr rfl rfl rfl) (Ae.o p2) Du Ah (show ((cI .i64)).rep _ (w64 (Dp + (w64 (a5 * (Int.tmod (w64 ((w64 (a5 - (w64 (Int.tdiv C7 a5)))) * Dh)) a5))))) _ from rfl) fun Fj Dv Dw=>ABp ?_)))));have A4:=Ae.uO p2 Dw Dv;obtain rfl:=ABl Dq;change _=Au at Ad;subst Ad;refine ACb (Acr (by decide) (ACa (ACa (ADj (q_t (ABj (Wl (ACe (ABq (ABt ?_))))))))));obtain rfl:=ABl Bg;exact ⟨_,ADa,A4.x,_,_,rfl,(A4.o p2),A4.s.sel [2] (by decide)⟩
   ·obtain rfl:=ABl (AC3 Ac Av);change _=Au at Ad;subst Ad;refine ACb (ACa (ACa (ADj (q_t (ABj (Wl (ACe (ABq (ABt ?_)))))))));obtain rfl:=ABl Bg;exact ⟨_,ADa,Aa.x,_,_,rfl,(Aa.o p0),Aa.s.sel [0] (by decide)⟩
noncomputable def ASl (fuel:Nat) (Ac Ad Aa:Int) (Ab:LiA):Option ((Int × LiA) ⊕ ((Int × LiA))):=
  (((if Ad < Aa then ((gI Ab Aa).bind fun Ae=>(if Ae=(w64 (Ac - 1)) then (some (Sum.inl <| ())) else (some (Sum.inr <| ())))) else (some (Sum.inr <| ()))):Option ((Unit) ⊕ (Unit))).bind (fun ex=>match ex with | Sum.inl _=>((gI Ab Aa).bind fun Af=>(some (Sum.inl ((w64 (Aa - 1)),(sI Ab Aa 0))))) | Sum.inr (_)=>(some (Sum.inr<| (Aa,Ab)))))
noncomputable def ASm (fuel:Nat) (a5:Int) (Ah:LiI) (Ai Aj Ad:Int) (Aa:LiI) (Ab:LiA):Option ((LiI × LiA) ⊕ ((LiI))):=
  ((((AJi fuel Ah Ab a5).bind fun Ak=>(if Ak=0 then ((AJ4 fuel Ab).bind fun Am=>(if Aa.length<=100000000 then (some ( (Aa ++ [Am]))) else none)) else (some ( Aa)))):Option (LiI)).bind fun Ae=>((((iter (fun s=>ASl fuel Aj Ad s.1 s.2) fuel ((w64 (Ai - 1)),Ab)).bind (fun ((Ao,Ap):Int × LiA)=>(some ( (Ao,Ap))))):Option ((Int × LiA))).bind (fun ((Ac,Af):Int × LiA)=>(if Ac=Ad then (some (Sum.inr<| Ae)) else ((gI Af Ac).bind fun Aq=>(some (Sum.inl (Ae,(sI Af Ac (w64 (Aq + 1)))))))))))
noncomputable def ASn (fuel:Nat) (a5:Int) (Ae:LiI) (Aa Af Ab:Int) (Ac:LiI):Option ((Int × LiI) ⊕ ((LiI))):=
  (if 0<=Ab then (if 0<=Aa/\Aa<=100000000 then ((gI (List.replicate (Int.toNat Aa) (0:Int)) Ab).bind fun Ah=>((iter (fun s=>ASm fuel a5 Ae Aa Af Ab s.1 s.2) fuel (Ac,(sI (List.replicate (Int.toNat Aa) (0:Int)) Ab 1))).bind (fun (Ag:LiI)=>(some (Sum.inl ((w64 (Ab - 1)),Ag)))))) else none) else (some (Sum.inr<| Ac)))
noncomputable def ANf (fuel:Nat) (a3:LiI) (a5:Int):Option (LiI × Int):=
  ((AIl fuel a3 a5).bind fun Ac=>(if ¬ Ac=0 then (some ([],Ac)) else ((AFe fuel a3 a5).bind fun (Ae,Ai)=>(((some ( ((a3.length:Int),a5))):Option (Int × Int)).bind fun (Ad,Af)=>((((iter (fun s=>ASn fuel a5 Ae Ad Af s.1 s.2) fuel ((w64 (Ad - 1)),[])).bind (fun (Ag:LiI)=>(some ( Ag)))):Option (LiI)).bind fun Ah=>(some (Ah,0)))))))
theorem AW7 {fuel:Nat} {h:ABk} {Bx:Value} {a3:LiI} {a5:Int} {r:(LiI × Int)} (H2:AFn (cI .i64) h Bx a3) (HO:AUy h) (hp:ANf fuel a3 a5=some r):AB9 Tryz.prog 20 #[Bx,(.int .i64 a5)] h (fun x h'=>Ext h h'/\ ∃ (x0:Value) (F0:List Nat) (C1:List LnA) (C2:List Value),x= .tuple #[x0,.int .i64 r.2]/\AFf (cI .i64) 23 2 h' F0 C1 C2 x0 r.1/\Sp h' h.size [F0]):=by
 unfold ANf at hp;refine Aez (l:=[_,_]) mx Tryz.func20 rfl rfl rfl rfl rfl (by kernel_rfl) (AZa (by kernel_rfl) (ABy (AIa [(.int .i64 a5)] trivial tt2 rfl rfl fun b6 h7 V8 E9 C5=>ACe (ABq (AZa (by kernel_rfl) (ABj (Wl ?_)))))));have Aj:=(Kst.k0 h).nb E9 C5 V8;refine AB8 ACr rfl ((Aj.b p0).cell (i:=0) rfl) ?_;obtain ⟨Hc,C6,B1⟩:=ABm hp;refine ACw rfl (AOy (H2.ext Aj.x) (HO.ext Aj.x) C6) fun Hd He C7 C8=>?_;subst C8;refine ACs (Wl (AHf rfl rfl (ABp ?_)));have Ak:=Aj.e C7;refine ⟨_,rfl,fun A3=>?_,fun A3=>?_⟩
 ·refine ABj (Wl (ACe (ABq (ABt (AB1 ?_)))));have A4:=Kst.anil2 (cI .i64) 23 2 Ak;obtain rfl:=ABl (AC2 B1 A3);exact ⟨_,ADa,A4.x,_,_,_,_,rfl,(A4.o2 p0),A4.s.sel [0] (by decide)⟩
 ·refine ABs (q_t (AZa (by kernel_rfl) (ABy (Wl (AB8 ACr rfl ((Ak.b p0).cell (i:=0) rfl) ?_)))));obtain ⟨⟨Hf,Hg⟩,C9,B2⟩:=ABm (AC3 B1 A3);dsimp only at B2;refine ACw rfl (ALa (H2.ext Ak.x) C9) fun Hh Hj Da Db=>?_;obtain ⟨Dc,Hk,Hl,Hm,rfl,Dd,De⟩:=Db;refine Wl (AC6 rfl rfl (AC6 rfl rfl (AD4 [(.slice none 0 0)] Aro rfl trivial tt2 fun Hn Ho Df Dg Dh=>?_)));have A5:=(Ak.no2 Da De Dd).nb Dg Dh Df;refine AU4 [Dc] Adh rfl rfl (A5.o2 p1).isOne (A5.b p0) (Nat.le_of_ble_eq_true rfl) rfl fun Hq Di Dj=>ABq (AZa (by kernel_rfl) (ABy (AD4 [(.slice none 0 0)] Aro rfl trivial tt2 fun Am Hr Dk Dl Dn=>ABp (As9 (by kernel_rfl) (AZa (by kernel_rfl) (ABy (Wl (ADf AB3 rfl H2 ?_))))))));have A6:=(A5.sb p0 Dj Di rfl).nb Dl Dn Dk;refine AB8 ACr rfl ((A6.b p3).cell (i:=0) rfl) ?_;obtain ⟨Do,Dp,Dq⟩:=ABm B2;refine ACp (K':=(fun xr h'=> ∃ x:(Nat) × (Int) × (Nat) × (Int),(x.2.1,x.2.2.2)=Do/\xr=(.func (.func 78) #[] #[(.pointer (some ⟨x.1,0,none⟩)),(.pointer (some ⟨x.2.2.1,0,none⟩))])/\Kst h h' (aB 3 x.1 [(.int .i64 x.2.1)] :: aB 2 x.2.2.1 [(.int .i64 x.2.2.2)] :: A6.L))) trivial rfl ?_ fun Hs Ht Dr=>?_
  ·refine cwf (l:=[_,_]) Tryz.func46 rfl rfl (ABj (AIa [(.int .i64 (a3.length:Int))] trivial tt2 rfl rfl fun Ds Hu Dt Du Dv=>AIa [(.int .i64 a5)] trivial tt2 rfl rfl fun Dw Hv Dx Dy Dz=>ACs (Aru rfl (ABq (ABt (⟨_,ABu,((Ds,(a3.length:Int),Dw,a5):(Nat) × (Int) × (Nat) × (Int)),?_,rfl,?_⟩))))))
   ·exact ABl Dp
   ·exact ((A6.nb Du Dv Dt).nb Dy Dz Dx).sel [1,0,2,3,4,5] (by decide)
  obtain ⟨⟨D0,A7,D1,Hw⟩,D2,rfl,D3⟩:=Dr;refine ⟨trivial,?_⟩;subst D2;refine ABp (Aqk mx (by kernel_rfl) ⟨_,[(.pointer (some ⟨D0,0,none⟩)),(.pointer (some ⟨D1,0,none⟩))],rfl,fun h_rf rf_r rf_b rf_ol rf_ob rf_oe hE_rf l1_rf l2_rf l3_rf l4_rf hne_rf hd_rf hl_rf Ao A8 D4 hY_rf=>?_⟩);have A9:=D3.rg hE_rf l1_rf l2_rf l3_rf l4_rf hne_rf hd_rf hl_rf;obtain ⟨D5,D6,D7⟩:=ABm Dq;refine AB9.mono (K:=(fun xr h'=> ∃ x:(LiI) × (Value) × LnA × LnN × LvA,x.1=D5/\xr= .tuple #[]/\Kst h h' (aO2 (cI .i64) 23 2 x.2.2.1 x.2.2.2.1 x.2.2.2.2 x.2.1 x.1 :: (A9.L.set 4 (aB 22 Am [x.2.1]))))) ?_ fun Hx Hy D8=>?_
  ·refine cwf (l:=[_,_,_]) Tryz.func78 rfl rfl (ABj (AB8 AFq rfl ((A9.b p2).cell (i:=0) rfl) (AGt rfl rfl (ABq (ABr ?_)))));obtain ⟨B3,D9,Ea⟩:=ABm D6;obtain ⟨Eb,Ec,Ed⟩:=ACd D9;have B4:=Kst.anil2 (cI .i64) 23 2 A9;refine ACi 1125899906842224 (fun x:(Int) × (LiI) × (Value) × LnA × LnN × LvA=>[(4,(.int .i64 x.1))]) (fun k x h'=>iter Eb k (x.1,x.2.1)=some B3/\Kst h h' ((B4.L.set 0 (aO2 (cI .i64) 23 2 x.2.2.2.1 x.2.2.2.2.1 x.2.2.2.2.2 x.2.2.1 x.2.1)).set 5 (aB 22 Am [x.2.2.1]))) (by kernel_rfl) fuel (((w64 (A7 - 1)),[],(.slice none 0 0),[],[],[]):(Int) × (LiI) × (Value) × LnA × LnN × LvA) ?_ ⟨rfl,trivial⟩ ?_
   ·exact ⟨Ed,B4⟩
   rintro Hz ⟨Ba,B5,B6,B7,B8,B9⟩ H5 H9 ⟨Ee,Bb⟩;obtain ⟨Ef,Ia,rfl,Ae,Bc⟩:=AB4 Ee;rw [Ec] at Ae;dsimp only at Ae;unfold ASn at Ae;refine ABn (ABj (Wl (AM6 rfl rfl (ABp (⟨_,rfl,fun Be=>?_,fun Be=>?_⟩)))))
   ·refine ABs (q_t (ABn (ABr (ABj (AB8 AFq rfl ((Bb.b p3).cell (i:=0) rfl) ?_)))));obtain ⟨Eg,Eh⟩:=ifN (AC2 Ae Be);refine ARr (c:=(cI .i64)) (a:=0) ABv AGz rfl rfl (fun _=>rfl) rfl trivial tt2 rfl rfl (by decide) Eg fun Bf Bg Ib Ei Ej Ek El=>ACs (Wl (Wl ?_));have Bh:=Bb.no Ej (AGr Ek El) Ei;obtain ⟨Ic,Ca,Em⟩:=ABm Eh;refine AMr ABv rfl (Bh.o p0) rfl Ca fun Id En=>AYj (AF3 ACr rfl rfl rfl) (Bh.o p0) En Ca (show ((cI .i64)).rep _ 1 _ from rfl) fun Ie Eo Ep=>ABp (ABr ?_);have Cb:=Bh.uO p0 Ep Eo;obtain ⟨Cd,Er,Es⟩:=ABm Em;obtain ⟨Et,Eu,Ev⟩:=ACd Er;refine ACi 1125899906580544 (fun x:(LiI) × (Value) × LnA × LnN × LvA × (LiA)=>[]) (fun k x h'=>iter Et k (x.1,x.2.2.2.2.2)=some Cd/\Kst h h' (((Cb.L.set 1 (aO2 (cI .i64) 23 2 x.2.2.1 x.2.2.2.1 x.2.2.2.2.1 x.2.1 x.1)).set 0 (aO (cI .i64) 2 [Bf] Bg x.2.2.2.2.2)).set 6 (aB 22 Am [x.2.1]))) (by kernel_rfl) fuel ((B5,B6,B7,B8,B9,(sI (List.replicate (Int.toNat A7) (0:Int)) Ba 1)):(LiI) × (Value) × LnA × LnN × LvA × (LiA)) ?_ trivial ?_
    ·exact ⟨Ev,Cb⟩
    rintro If ⟨Ce,Ew,Bi,Cf,Cg,Ey⟩ Ih Ii ⟨Ez,Ap⟩;obtain ⟨Fa,Ij,rfl,Aq,Bj⟩:=AB4 Ez;rw [Eu] at Aq;dsimp only at Aq;unfold ASm at Aq;refine ABr (ABn (ABn (An0 (l:=rf_b) (by kernel_rfl) (Wl (Wl (ACk ⟨rfl,_,rfl,?_⟩))))));obtain ⟨Fb,Fc,Fd⟩:=ABm Aq;refine AR7.mono (K':=(fun xr h'=> ∃ x:(LiI) × (Value) × LnA × LnN × LvA,x.1=Fb/\xr= .bool true/\Kst h h' ((Ap.L.set 1 (aO2 (cI .i64) 23 2 x.2.2.1 x.2.2.2.1 x.2.2.2.2 x.2.1 x.1)).set 6 (aB 22 Am [x.2.1])))) ?_ fun Ik Il Fe=>?_
    ·refine hY_rf _ _ _ (Ap.ob p3) (Anx (ACe (ACk (⟨(Ap.ob p3),?_⟩))));obtain ⟨Im,Ff,Io,Af⟩:=Ap.uob (o':=rf_ob) p3 Ao A8;rw [Ff];refine Aqh (Arn (Anx (AB8 Adh rfl ((Af.b p7).cell (i:=0) rfl) (Wl (AB8 ACr rfl ((Af.b p9).cell (i:=0) rfl) ?_)))));obtain ⟨Ip,Fg,Ch⟩:=ABm Fc;refine ACw rfl (APu (Af.o2 p8).rd (Af.o p0).rd Fg) fun Iq Bl Fh Fi=>?_;subst Fi;refine ADn rfl rfl (ABp ?_);have Aa:=Af.e Fh;refine ⟨_,rfl,fun Bm=>?_,fun Bm=>?_⟩
     ·refine Aqi (fun h'=>UpT (Bi ++ []) Bl h') (by kernel_rfl) ?_;have Ar:UpT (Bi ++ []) Bl Bl:=UpT.start (AD9 (Aa.o2 p1).notD all_nil);refine AGp Adh rfl Ar (fun h' hb=>((Aa.b p6).upT hb (Aly (Aa.dj p6 p1 (by decide)) Alz)).cell (i:=0) rfl) (Wl ?_);obtain ⟨Fj,Fk,Fl⟩:=ABm (AC2 Ch Bm);refine ADc Ar (fun _ E=>Ar.thenE E) rfl (AQb (Aa.o p0).rd Fk) fun Fm Ir Ci Fo=>?_;obtain ⟨It,Fp,rfl,Fq,Fr⟩:=Fo;have Cj:=Ar.thenE Ci;have Au:=Aa.no Ci Fr Fq;obtain ⟨Ft,Fu⟩:=ifN Fl;refine Abg AB3 AKb rfl rfl Cj (fun _ U=>Cj.then U (ALy rfl)) (fun _=>rfl) rfl (Au.o p0) (Au.o2 p2) (Au.dj p0 p2 (by decide)) (by decide) Ft fun Iu Fv Ck Iv Fw Fx Fy=>?_;have Bn:=Au.m2 p0 p2 (by decide) Fx Fw Fy;refine AU4 [Ck] Adh rfl rfl (Bn.o2 p2).isOne (Bn.b p7) (Nat.le_of_ble_eq_true rfl) rfl fun Iw Fz F4=>ACk (q_b ?_);have Cm:=Bn.sb p7 F4 Fz rfl;refine ⟨(Cm.ob p4),?_⟩;obtain ⟨Ix,F5,Iy,F6⟩:=Cm.uob (o':=rf_ol) p4 A8 Ao;rw [F5];refine ⟨(((Ce ++ [Fj]),Ck,Fv,(Cf ++ [Fp]),(Cg ++ [Fm])):(LiI) × (Value) × LnA × LnN × LvA),?_,rfl,?_⟩
      ·exact ABl Fu
      ·exact F6.sel [1,2,3,4,5,6,7,8,9,10] (by decide)
     ·refine As8 (q_b (⟨(Aa.ob p3),?_⟩));obtain ⟨Iz,F7,I0,F8⟩:=Aa.uob (o':=rf_ol) p3 A8 Ao;rw [F7];refine ⟨((Ce,Ew,Bi,Cf,Cg):(LiI) × (Value) × LnA × LnN × LvA),?_,rfl,?_⟩
      ·exact ABl (AC3 Ch Bm)
      ·exact F8
    obtain ⟨⟨Cn,Co,Cp,Cq,Cr⟩,F9,rfl,Av⟩:=Fe;subst F9;refine AF8 rfl (ABp (ACf rfl (ABs (q_t (ABj (AB8 AFq rfl ((Av.b p4).cell (i:=0) rfl) (AGt rfl rfl (ABq ?_))))))));obtain ⟨Ga,Gb,Ct⟩:=ABm Fd;refine ANh 2199006478400 (fun x:(Int) × (LiA)=>[(6,(.int .i64 x.1))]) (fun x h'=>( (x.1,x.2))=Ga/\Kst h h' (Av.L.set 0 (aO (cI .i64) 2 [Bf] Bg x.2))) ?_ ?_
    ·refine ABr ?_;obtain ⟨Bo,Gc,Cu⟩:=ABm Gb;obtain ⟨Gd,Ge,Gf⟩:=ACd Gc;refine ACi 2199006478400 (fun x:(Int) × (LiA)=>[(6,(.int .i64 x.1))]) (fun k x h'=>iter Gd k (x.1,x.2)=some Bo/\Kst h h' (Av.L.set 0 (aO (cI .i64) 2 [Bf] Bg x.2))) (by kernel_rfl) fuel (((w64 (A7 - 1)),Ey):(Int) × (LiA)) ?_ ⟨rfl,trivial⟩ ?_
     ·exact ⟨Gf,Av⟩
     rintro I1 ⟨Ag,Bp⟩ I2 I3 ⟨Gg,Ab⟩;obtain ⟨Gh,I6,rfl,Aw,Ah⟩:=AB4 Gg;rw [Ge] at Aw;dsimp only at Aw;unfold ASl at Aw;obtain ⟨Gi,Cv,Bq⟩:=ABm Aw;refine ANh 68702699520 (fun x:Unit=>[]) (fun x h'=>(Sum.inl <| ())=Gi/\Kst h h' (Ab.L)) ?_ ?_
     ·refine ABn (ANi (Wl (Wl (AI4 rfl rfl (Wl ?_)))));by_cases Ax:Ba < Ag
      ·rw [decide_eq_true Ax];refine ACm 27 true (Wl (ACm 27 true (Wl (ACm 27 true ?_))));obtain ⟨I7,Cw,Cx⟩:=ABm (ifT Cv Ax);refine AMr ABv rfl (Ab.o p0) rfl Cw fun I9 Gj=>ACm 27 true ?_;obtain ⟨Ja,Gk,Gl⟩:=(Ab.o p0).cells Gj Cw;obtain rfl:=Gk;refine AB8 ACr rfl (Gl 0 _ rfl) (ACm 27 true (AB8 ACr rfl ((Ab.b p5).cell (i:=0) rfl) (ACm 27 true (AGt rfl rfl (ACm 27 true (ADn rfl rfl (AB2 rfl (ABp (⟨_,rfl,fun Br=>?_,fun Br=>?_⟩)))))))))
       ·refine ABs (q_t ?_);exact ⟨(():Unit),⟨ABl (AC2 Cx Br),Ab⟩,trivial⟩
       ·obtain rfl:=ABl (AC3 Cx Br);obtain rfl:=ABl Bq;change _=Bo at Ah;subst Ah;refine ACb (ACa (ACa (ADj (q_t ?_))));exact ⟨((Ag,Bp):(Int) × (LiA)),⟨ABl Cu,Ab⟩,rfl,trivial⟩
      ·rw [decide_eq_false Ax];refine AKr 27 false (AGh 27 false (ABw rfl (ABp (ACf rfl ?_))));obtain rfl:=ABl (ifF Cv Ax);obtain rfl:=ABl Bq;change _=Bo at Ah;subst Ah;refine ACb (ACa (ACa (ADj (q_t ?_))));exact ⟨((Ag,Bp):(Int) × (LiA)),⟨ABl Cu,Ab⟩,rfl,trivial⟩
     rintro ⟨⟩ Jc Je ⟨Gm,Bt⟩;subst Gm;refine ABr (ABj (Wl (Wl ?_)));obtain ⟨Jf,Cy,Gn⟩:=ABm Bq;refine AMr ABv rfl (Bt.o p0) rfl Cy fun Jg Gp=>AYj (AF3 ACr rfl rfl rfl) (Bt.o p0) Gp Cy (show ((cI .i64)).rep _ 0 _ from rfl) fun Jh Gq Gr=>ABp (ABy (Wl (AGt rfl rfl (ACe (ACk (q_b (q_t ?_)))))));obtain rfl:=ABl Gn;exact ⟨Gh,(((w64 (Ag - 1)),(sI Bp Ag 0)):(Int) × (LiA)),Nat.lt_succ_self _,⟨Ah,(Bt.uO p0 Gr Gq)⟩,rfl,trivial⟩
    rintro ⟨Gt,Gu⟩ Ji Jj ⟨Gv,Ac⟩;subst Gv;refine ABn (ABj (Wl (Wl (ADn rfl rfl (ABp (⟨_,rfl,fun Bu=>?_,fun Bu=>?_⟩))))))
    ·obtain rfl:=ABl (AC2 Ct Bu);change _=Cd at Bj;subst Bj;refine ACb (ACa (Acr (by decide) (ACa (ADj (q_b (q_t (ABy (Wl (AGt rfl rfl (ABq ?_))))))))));obtain rfl:=ABl Es;exact ⟨Ef,(((w64 (Ba - 1)),Cn,Co,Cp,Cq,Cr):(Int) × (LiI) × (Value) × LnA × LnN × LvA),Nat.lt_succ_self _,⟨Bc,Ac.sel [1,2,3,4,5,6,7,8,9] (by decide)⟩,rfl,trivial⟩
    ·refine ABs (q_t (ABy (Wl (Wl ?_))));obtain ⟨Cz,Ay,Gw⟩:=ABm (AC3 Ct Bu);refine AMr ABv rfl (Ac.o p0) rfl Ay fun Jk Gx=>?_;obtain ⟨Jl,Gy,Gz⟩:=(Ac.o p0).cells Gx Ay;obtain rfl:=Gy;refine AB8 ACr rfl (Gz 0 _ rfl) (AC0 rfl rfl (AMr ABv rfl (Ac.o p0) rfl Ay fun Jm G3=>AYj (AF3 ACr rfl rfl rfl) (Ac.o p0) G3 Ay (show ((cI .i64)).rep _ (w64 (Cz + 1)) _ from rfl) fun Jn G4 G5=>ACk (q_b (q_t ?_))));obtain rfl:=ABl Gw;exact ⟨Fa,((Cn,Co,Cp,Cq,Cr,(sI Gu Gt (w64 (Cz + 1)))):(LiI) × (Value) × LnA × LnN × LvA × (LiA)),Nat.lt_succ_self _,⟨Bj,(Ac.uO p0 G5 G4)⟩,trivial⟩
   ·obtain rfl:=ABl (AC3 Ae Be);change _=B3 at Bc;subst Bc;refine ACb (ACa (ACa (ADj (⟨_,ATf,((B5,B6,B7,B8,B9):(LiI) × (Value) × LnA × LnN × LvA),?_,rfl,?_⟩))))
    ·exact ABl Ea
    ·exact Bb
  obtain ⟨⟨Jo,Jp,Jq,Jr,Js⟩,G6,rfl,C0⟩:=D8;subst G6;refine ⟨(C0.ob p2),?_⟩;obtain ⟨Jt,G7,Ju,Bv⟩:=C0.uob (o':=rf_oe) p2 Ao D4;rw [G7];refine q_t (Arn (Anx (AB8 Adh rfl ((Bv.b p5).cell (i:=0) rfl) (ACe (ABq (Auf ?_))))));obtain rfl:=ABl D7;refine ⟨(Bv.ob p1),?_⟩;obtain ⟨Jv,G8,Jw,Bw⟩:=Bv.uob (o':=(.deferred none)) p1 rfl rfl;rw [G8];exact ⟨_,ADa,Bw.x,_,_,_,_,rfl,(Bw.o2 p0),Bw.s.sel [0] (by decide)⟩
end Go.Proofs.YtiegjkmfpcgjjaaGreatDoor
namespace Go.Proofs.YtiegjkmfpcgjjaaGreatDoor
open Go Go.QF
set_option maxRecDepth 100000
noncomputable def AR8 (M:List (List Int)) (p:Int) (lim:Bool):Int:=
  if isRed M=true then (if APn p=true/\det M.length (ent M) % p≠0 then (if lim=true/\65536 < p ^ M.length then 7 else 0) else 20) else 6
theorem Ae2 {E:Type} {body:Int × Int->Option ((Int × Int) ⊕ (E ⊕ Unit))} {fuel n:Nat} {p:Int} {x:E} (hp:2<=p) (Ab:p<=9973) (hn:n<=16) (hf:100 < fuel) (hb:∀ a b,body (a,b)=if b < (n:Int) then (if 65536 < w64 (a * p) then some (.inr (.inl x)) else some (.inl (w64 (a * p),w64 (b + 1)))) else some (.inr (.inr ()))):Ok (iter body fuel (1,0)) fun e=>(e= .inl x/\65536 < p ^ n)∨(e= .inr ()/\p ^ n<=65536):=by
 refine ACx (fun i s=>s=(p ^ i,(i:Int))/\i<=n/\p ^ i<=65536) n ⟨by simp,Nat.zero_le _,by simp⟩ (by omega) fun i s hi hI=>?_;obtain ⟨rfl,h1,h2⟩:=hI;rw [hb];have hpos:0 < p ^ i:=Int.pow_pos (by omega);have hm:p ^ i * p<=65536 * 9973:=Int.mul_le_mul h2 Ab (by omega) (by omega);have Ae:0<=p ^ i * p:=Int.mul_nonneg (by omega) (by omega);have hs:p ^ (i + 1)=p ^ i * p:=Int.pow_succ p i
 refine AB5 (fun h=>?_) fun h=>ABi (.inr ⟨rfl,by
   obtain rfl:i=n:=by omega
   exact h2⟩)
 rw [wk (by omega)];refine AB5 (fun h3=>ABi (.inl ⟨rfl,?_⟩)) fun h3=>ABi ⟨by omega,by rw [AGv (by omega),hs],by omega,by rw [hs];omega⟩;have:=Aci (p:=p) (by omega) (show i + 1<=n by omega);omega
theorem AVs {p:Int} (h:APn p=true):3<=p/\p<=9973:=by have:=AVi h;omega
theorem ATd {fuel:Nat} {M:List (List Int)} {p:Int} (hf:2147483648 < fuel):ALv fuel M p=some (AR8 M p false):=by
 unfold ALv AWk AR8;simp only [Option.bind_some]
 cases hr:isRed M with
 | false=>rfl
 | true=>
   have R:=(ARa M).1 hr
   simp only [Bool.not_true,Bool.false_eq_true,reduceIte,false_and]
   apply ok_eq
   refine ABo (Q:=fun ex=>(ex= .inl 20/\APn p=false)∨(ex= .inr ()/\APn p=true)) ?_ fun ex hex=>?_
   · refine AB5 (fun h=>ABi (.inl ⟨rfl,(AR3 (by omega)).symm⟩)) fun h=>AB5 (fun h2=>ABi (.inl ⟨rfl,(AR3 (by omega)).symm⟩)) fun h2=>?_
     unfold AY3
     simp only [Option.bind_some]
     refine AB5 (fun h3=>ABi (.inl ⟨rfl,(AR3 fun hc=>?_).symm⟩)) fun h3=>ABi (.inr ⟨rfl,?_⟩)
     · have h3:AK5 p=false:=by simpa using h3
       exact AZi h3 ⟨by omega,hc.2.2⟩
     · have h3:AK5 p=true:=by simpa using h3
       have:=AZy h3
       have h4:=this.2.1
       exact (AUm ⟨by omega,by omega,this.2⟩).symm
   · rcases hex with ⟨rfl,ho⟩ | ⟨rfl,ho⟩
     · exact ABi (by rw [if_neg (by simp [ho])])
     · have hb:=AVs ho
       dsimp only
       have hM:=ARb R
       have hd:AJm fuel M p=some (det M.length (ent M) % p,0):=by
         conv=>lhs;rw [hM]
         exact Atb R.1.1 R.1.2 (by omega) (by omega) hf
       rw [hd]
       simp only [Option.bind_some]
       rw [if_neg (by decide)]
       exact AB5 (fun h=>ABi (by rw [if_neg (by simp [h])])) fun h=>ABi (by rw [if_pos ⟨ho,h⟩])
theorem Aiu {fuel:Nat} {M:List (List Int)} {p:Int} (hf:2147483648 < fuel):AIl fuel M p=some (AR8 M p true):=by
 unfold AIl;rw [ATd hf];simp only [Option.bind_some];apply ok_eq;refine AB5 (fun h=>ABi ?_) fun h=>?_
 ·unfold AR8 at h ⊢;by_cases hr:isRed M=true
  ·rw [if_pos hr] at h ⊢;rw [if_pos hr];by_cases hg:APn p=true/\det M.length (ent M) % p≠0
   ·rw [if_pos hg] at h;simp at h
   ·rw [if_neg hg,if_neg hg]
  ·rw [if_neg hr,if_neg hr]
 ·have h:AR8 M p false=0:=by simpa using h
  unfold AR8 at h;by_cases hr:isRed M=true
  ·rw [if_pos hr] at h;by_cases hg:APn p=true/\det M.length (ent M) % p≠0
   ·have R:=(ARa M).1 hr;have hb:=AVs hg.1;have h8:=R.1.2;refine ABo (Ae2 (n:=M.length) (x:=(7:Int)) (by omega) hb.2 (by omega) (by omega) fun a b=>rfl) fun ex hex=>?_;rcases hex with ⟨rfl,h3⟩ | ⟨rfl,h3⟩
    ·exact ABi (by unfold AR8;rw [if_pos hr,if_pos hg,if_pos ⟨rfl,h3⟩])
    ·exact ABi (by unfold AR8;rw [if_pos hr,if_pos hg,if_neg (fun hh=>absurd hh.2 (by omega))])
   ·rw [if_neg hg] at h;simp at h
  ·rw [if_neg hr] at h;simp at h
theorem Atd {M:List (List Int)} {p:Int} {lim:Bool} (h:AR8 M p lim=0):ATa M/\(3<=p/\p<=9973)/\APn p=true/\det M.length (ent M) % p≠0/\(lim=true->p ^ M.length<=65536):=by
  unfold AR8 at h
  by_cases hr:isRed M=true
  · rw [if_pos hr] at h
    by_cases hg:APn p=true/\det M.length (ent M) % p≠0
    · rw [if_pos hg] at h;refine ⟨(ARa M).1 hr,AVs hg.1,hg.1,hg.2,fun hl=>?_⟩
      by_cases h6:lim=true/\65536 < p ^ M.length
      · rw [if_pos h6] at h;simp at h
      · exact Int.not_lt.1 fun hh=>h6 ⟨hl,hh⟩
    · rw [if_neg hg] at h;simp at h
  · rw [if_neg hr] at h;simp at h
end Go.Proofs.YtiegjkmfpcgjjaaGreatDoor
namespace Go.Proofs.YtiegjkmfpcgjjaaGreatDoor
open Go Go.QF
set_option maxRecDepth 100000
set_option maxHeartbeats 4000000
noncomputable def AGe (fuel:Nat) (a3:LiI) (a5:Int):Option Bool:=
  ((Ab3 fuel a5).bind fun x6=>(if x6=true then ((AH5 fuel a3).bind fun Ad=>(if a5≠0 then (some (decide (¬ (Int.tmod Ad a5)=0))) else none)) else (some false)))
theorem AMz {fuel:Nat} {h:ABk} {Ab:Value} {a3:LiI} {a5:Int} {r:Bool} (H2:AFn (cI .i64) h Ab a3) (hp:AGe fuel a3 a5=some r):AB9 Tryz.prog 31 #[Ab,(.int .i64 a5)] h (fun x h'=>Ext h h'/\x= .bool r):=by
 unfold AGe at hp;refine cwf (l:=[_,_]) Tryz.func31 rfl rfl (ABj (ACs (Wl ?_)));obtain ⟨x6,Ai,Ae⟩:=ABm hp;refine ACw rfl (Am7 Ai) fun Av Aw E9 Ak=>?_;subst Ak;refine Wl ?_;have Aa:=(Kst.k0 h).e E9;cases Af:x6
 ·refine AKr 7 false (ABw rfl (ABq (ABt ?_)));obtain rfl:=ABl (AIz Ae Af);exact ⟨_,ABu,Aa.x,rfl⟩
 ·refine ACm 7 true (Wl (ACm 7 true ?_));obtain ⟨Ax,Am,Ao⟩:=ABm (ifT Ae Af);refine ACw rfl (AR4 (H2.ext Aa.x) Am) fun Ay Az Ap Aq=>?_;subst Aq;refine ACm 7 true (Wl (ACm 7 true ?_));obtain ⟨Ar,Au⟩:=ifN Ao;refine AF7 rfl rfl Ar (ACm 7 true (AHf rfl rfl (AB2 rfl (ABq (ABt ?_)))));obtain rfl:=ABl Au;exact ⟨_,ABu,(Aa.e Ap).x,rfl⟩
def AL3 (fuel:Nat) (a1 a2 Ab Ac:Int):Option ((Int × Int) ⊕ ((Bool) ⊕ (Unit))):=
  (if Ac < a1 then (if 65536 < (w64 (Ab * a2)) then (some (Sum.inr<| Sum.inl <| false)) else (some (Sum.inl ((w64 (Ab * a2)),(w64 (Ac + 1)))))) else (some (Sum.inr<| Sum.inr <| ())))
def AFk (fuel:Nat) (a1 a2:Int):Option Bool:=
  ((iter (fun s=>AL3 fuel a1 a2 s.1 s.2) fuel (1,0)).bind (fun ex=>match ex with | Sum.inl Ac=>(some Ac) | Sum.inr (_)=>(some true)))
theorem AL4 {fuel:Nat} {h:ABk} {a1 a2:Int} {r:Bool} (hp:AFk fuel a1 a2=some r):AB9 Tryz.prog 32 #[(.int .i64 a1),(.int .i64 a2)] h (fun x h'=>Ext h h'/\x= .bool r):=by
 unfold AFk at hp;refine cwf (l:=[_,_]) Tryz.func32 rfl rfl (ABj (ACs (ABq (ABn (ABj (ABq (ABr ?_)))))));have K0:=Kst.k0 h;obtain ⟨Ad,Am,Aj⟩:=ABm hp;obtain ⟨Ao,Ap,Aq⟩:=ACd Am;refine ACi 131056 (fun x:(Int) × (Int)=>[(5,(.int .i64 x.1)),(6,(.int .i64 x.2))]) (fun k x h'=>iter Ao k (x.1,x.2)=some Ad/\Kst h h' (K0.L)) (by kernel_rfl) fuel ((1,0):(Int) × (Int)) ?_ ⟨rfl,rfl,trivial⟩ ?_
 ·exact ⟨Aq,K0⟩
 rintro k9 ⟨Ar,Au⟩ Ay Az ⟨Av,Ae⟩;obtain ⟨Aw,A3,rfl,Aa,Ab⟩:=AB4 Av;rw [Ap] at Aa;dsimp only at Aa;unfold AL3 at Aa;refine ABn (ABj (Wl (Wl (AC1 rfl rfl (ABp (⟨_,rfl,fun Af=>?_,fun Af=>?_⟩))))))
 ·refine ABs (q_t (ABn (ABr (ABj (Wl (Wl (AMa rfl rfl (ACs (Wl (AI4 rfl rfl (ABp ?_)))))))))));have Ak:=AC2 Aa Af;refine ⟨_,rfl,fun Ag=>?_,fun Ag=>?_⟩
  ·refine ABj (ABq ?_);obtain rfl:=ABl (AC2 Ak Ag);change _=Ad at Ab;subst Ab;refine ABt (ADl (AB1 (AB1 (ADl (AB1 ?_)))));obtain rfl:=ABl Aj;exact ⟨_,ABu,Ae.x,rfl⟩
  ·refine ABs (q_b (q_t (ABy (Wl (AC0 rfl rfl (ABq ?_))))));obtain rfl:=ABl (AC3 Ak Ag);exact ⟨Aw,(((w64 (Ar * a2)),(w64 (Au + 1))):(Int) × (Int)),Nat.lt_succ_self _,⟨Ab,Ae⟩,rfl,rfl,trivial⟩
 ·obtain rfl:=ABl (AC3 Aa Af);change _=Ad at Ab;subst Ab;refine ACb (ACa (ACa (ADj (q_t (ABj (ABq (ABt ?_)))))));obtain rfl:=ABl Aj;exact ⟨_,ABu,Ae.x,rfl⟩
noncomputable def AGl (fuel:Nat) (a3:LiI) (a5:Int) (a6:Bool):Option Int:=
  ((AEp fuel a3).bind fun x7=>(if (!x7)=true then (some 6) else ((AGe fuel a3 a5).bind fun Ae=>(if (!Ae)=true then (some 20) else (if a6=true then ((AFk fuel (a3.length:Int) a5).bind fun Af=>(if (!Af)=true then (some 7) else (some 0))) else (some 0))))))
theorem AP2 {fuel:Nat} {h:ABk} {Ah:Value} {a3:LiI} {a5:Int} {a6:Bool} {r:Int} (H2:AFn (cI .i64) h Ah a3) (hp:AGl fuel a3 a5 a6=some r):AB9 Tryz.prog 41 #[Ah,(.int .i64 a5),(.bool a6)] h (fun x h'=>Ext h h'/\x= .int .i64 r):=by
 unfold AGl at hp;refine cwf (l:=[_,_,_]) Tryz.func41 rfl rfl (ABj (ABq (ABn (ABr (ABj (Wl ?_))))));have K0:=Kst.k0 h;obtain ⟨x7,Av,Am⟩:=ABm hp;refine ACw rfl (AOk (H2.ext K0.x) Av) fun A8 A9 Aw Ax=>?_;subst Ax;refine AF8 rfl (ABq ?_);have Ac:=K0.e Aw;refine ⟨_,rfl,fun Ad=>?_,fun Ad=>?_⟩
 ·refine ABj (ABq (ABt (ADl (AB1 ?_))));obtain rfl:=ABl (ifT Am Ad);exact ⟨_,ABu,Ac.x,rfl⟩
 ·refine ABj (Wl (Wl ?_));obtain ⟨Ba,Ay,Ao⟩:=ABm (AIz Am Ad);refine ACw rfl (AMz (H2.ext Ac.x) Ay) fun Bb Bc Az A3=>?_;subst A3;refine AF8 rfl (ABq ?_);have Ae:=Ac.e Az;refine ⟨_,rfl,fun Af=>?_,fun Af=>?_⟩
  ·refine ABj (ABq (ABt (ADl (AB1 ?_))));obtain rfl:=ABl (ifT Ao Af);exact ⟨_,ABu,Ae.x,rfl⟩
  ·refine ABj (Wl (Wl ?_));have Ap:=AIz Ao Af;cases Aq:a6
   ·refine AKr 18 false (ABw rfl (ABq (ACf rfl (ABs (q_b (q_t (ABj (ABq (ABt ?_)))))))));obtain rfl:=ABl (AIz Ap Aq);exact ⟨_,ABu,Ae.x,rfl⟩
   ·refine ACm 18 true (Wl (ACm 18 true (ADf AB3 rfl H2 (ACm 18 true (Wl (ACm 18 true ?_))))));obtain ⟨Be,A4,Ar⟩:=ABm (ifT Ap Aq);refine ACw rfl (AL4 A4) fun Bf Bg A5 A6=>?_;subst A6;refine ACm 18 true (AF8 rfl (AB2 rfl (ABq ?_)));have Au:=Ae.e A5;refine ⟨_,rfl,fun Ag=>?_,fun Ag=>?_⟩
    ·refine ABj (ABq (ABt (ADl (AB1 ?_))));obtain rfl:=ABl (ifT Ar Ag);exact ⟨_,ABu,Au.x,rfl⟩
    ·refine ABs (q_b (q_t (ABj (ABq (ABt ?_)))));obtain rfl:=ABl (AIz Ar Ag);exact ⟨_,ABu,Au.x,rfl⟩
def AG8 (fuel:Nat) (a7:LiA) (a9:Int) (Ac:LiA) (Ad Ab:Int):Option ((Int × Int) ⊕ ((Int))):=
  (if Ab < (Ac.length:Int) then ((gI Ac Ab).bind fun Af=>((AFs fuel Af a9).bind fun Ag=>((gI a7 Ab).bind fun Ah=>((AFs fuel Ah a9).bind fun Ai=>(if a9≠0 then (if a9≠0 then (some (Sum.inl ((Int.tmod (w64 (Ad + (Int.tmod (w64 (Ag * Ai)) a9))) a9),(w64 (Ab + 1))))) else none) else none))))) else (some (Sum.inr<| Ad)))
def AG9 (fuel:Nat) (a3:LiI) (a7:LiA) (a9:Int) (Aa:LiA) (Ab:Int):Option ((LiA × Int) ⊕ ((LiA))):=
  (if Ab < (a3.length:Int) then ((gI a3 Ab).bind fun Af=>((iter (fun s=>AG8 fuel a7 a9 Af s.1 s.2) fuel (0,0)).bind (fun (Ag:Int)=>(if Aa.length<=100000000 then (some (Sum.inl ((Aa ++ [Ag]),(w64 (Ab + 1))))) else none)))) else (some (Sum.inr<| Aa)))
def AE3 (fuel:Nat) (a3:LiI) (a7:LiA) (a9:Int):Option LiA:=
  ((iter (fun s=>AG9 fuel a3 a7 a9 s.1 s.2) fuel ([],0)).bind (fun (Ad:LiA)=>(some Ad)))
theorem AMg {fuel:Nat} {h:ABk} {Ap:Value} {a3:LiI} {Ar:Value} {a7:LiA} {a9:Int} {r:LiA} (H2:AFn (cI .i64) h Ap a3) (H6:SlC (cI .i64) h Ar a7) (hp:AE3 fuel a3 a7 a9=some r):AB9 Tryz.prog 43 #[Ap,Ar,(.int .i64 a9)] h (fun x h'=>Ext h h'/\ ∃ (x0:Value) (F0:List Nat),x=x0/\OwC (cI .i64) 2 h' F0 x0 r/\Sp h' h.size [F0]):=by
 unfold AE3 at hp;refine cwf (l:=[_,_,_]) Tryz.func43 rfl rfl (ABj (ACs (ABq (ABn (ABj (Wl (ADf AB3 rfl H2 (Wl (ABp (ABr ?_))))))))));have Ay:=Kst.anil (cI .i64) 2 (Kst.k0 h);obtain ⟨Az,A7,A8⟩:=ABm hp;obtain ⟨A9,Ba,Bb⟩:=ACd A7;refine ACi 281474976685696 (fun x:(LiA) × (Value) × LnA × (Int)=>[(7,x.2.1),(15,(.int .i64 x.2.2.2))]) (fun k x h'=>iter A9 k (x.1,x.2.2.2)=some Az/\Kst h h' (Ay.L.set 0 (aO (cI .i64) 2 x.2.2.1 x.2.1 x.1))) (by kernel_rfl) fuel (([],(.slice none 0 0),[],0):(LiA) × (Value) × LnA × (Int)) ?_ ⟨rfl,rfl,trivial⟩ ?_
 ·exact ⟨Bb,Ay⟩
 rintro Cp ⟨Bc,Cq,Cr,Be⟩ Ct Cu ⟨Bf,Aa⟩;obtain ⟨Bg,Cv,rfl,Ab,Ag⟩:=AB4 Bf;rw [Ba] at Ab;dsimp only at Ab;unfold AG9 at Ab;refine ABj (AC1 rfl rfl (ABp (ABn (⟨_,rfl,fun Ah=>?_,fun Ah=>?_⟩))))
 ·refine ABs (q_t (ABn (ABr (ABj ?_))));obtain ⟨Cw,Bh,Bi⟩:=ABm (AC2 Ab Ah);refine AIn AB3 rfl H2 rfl Bh fun Cx Cy Cz Bj A3=>AB8 ACo rfl (ABz Bj Aa.x) (ACs (ABq (ABn (ABj (Wl (ADy ABv rfl A3 (Wl (ABp (ABr ?_)))))))));obtain ⟨A4,Bl,Bm⟩:=ABm Bi;obtain ⟨Bn,Bo,Bp⟩:=ACd Bl;refine ACi 8796090932224 (fun x:(Int) × (Int)=>[(10,(.int .i64 x.1)),(21,(.int .i64 x.2))]) (fun k x h'=>iter Bn k (x.1,x.2)=some A4/\Kst h h' (Aa.L)) (by kernel_rfl) fuel ((0,0):(Int) × (Int)) ?_ ⟨rfl,rfl,trivial⟩ ?_
  ·exact ⟨Bp,Aa⟩
  rintro C0 ⟨Af,Bq⟩ C1 Ai ⟨Br,Ac⟩;obtain ⟨Bt,C2,rfl,Ad,Aj⟩:=AB4 Br;rw [Bo] at Ad;dsimp only at Ad;unfold AG8 at Ad;refine ABj (AC1 rfl rfl (ABp (ABn (⟨_,rfl,fun Ak=>?_,fun Ak=>?_⟩))))
  ·refine ABs (q_t (ABn (ABr (ABj (Wl ?_)))));obtain ⟨C3,Bu,Bv⟩:=ABm (AC2 Ad Ak);refine AIm (c:=(cI .i64)) ABv rfl A3 rfl Bu fun C4 C5 C6 Bw Bx=>?_;obtain rfl:=Bw;refine AB8 ACr rfl (ABz (Bx 0 _ rfl) Ac.x) (ACe (ABq (AEq (fun h'=>UpT [] Ai h') (by kernel_rfl) ?_)));have Am:UpT [] Ai Ai:=UpT.start all_nil;refine Wl (Wl (Wl ?_));obtain ⟨By,Bz,B1⟩:=ABm Bv;refine ADc Am (fun _ E=>Am.thenE E) rfl (AKk Bz) fun C7 C8 A5 B2=>?_;subst B2;refine Wl (Wl ?_);have Ao:=Am.thenE A5;obtain ⟨C9,B3,B4⟩:=ABm B1;refine AIm (c:=(cI .i64)) ABv rfl H6 rfl B3 fun Da Db Dc B5 B6=>?_;obtain rfl:=B5;refine AGp ACr rfl Ao (fun h' hb=>ABz (B6 0 _ rfl) (Ac.x.trans hb.ext)) (Wl ?_);obtain ⟨B7,B8,B9⟩:=ABm B4;refine ADc Ao (fun _ E=>Ao.thenE E) rfl (AKk B8) fun Dd De Ca Cb=>?_;subst Cb;refine AMa rfl rfl (Wl ?_);obtain ⟨Cd,Ce⟩:=ifN B9;refine AF7 rfl rfl Cd (AC0 rfl rfl (Wl ?_));obtain ⟨Cf,Cg⟩:=ifN Ce;refine AF7 rfl rfl Cf (ACe (ACk (q_b (q_t (ABy (AC0 rfl rfl (Wl (ABp ?_))))))));obtain rfl:=ABl Cg;exact ⟨Bt,(((Int.tmod (w64 (Af + (Int.tmod (w64 (By * B7)) a9))) a9),(w64 (Bq + 1))):(Int) × (Int)),Nat.lt_succ_self _,⟨Aj,((Ac.e A5).e Ca)⟩,rfl,rfl,trivial⟩
  ·obtain rfl:=ABl (AC3 Ad Ak);change _=A4 at Aj;subst Aj;refine ACb (ACa (ACa (ADj (q_t (ABy (Wl (Wl ?_)))))));obtain ⟨Ch,Ci⟩:=ifN Bm;refine AN2 ABv AGz rfl rfl trivial tt2 (fun _=>rfl) rfl (show ((cI .i64)).rep _ Af [(.int .i64 Af)] from rfl) (Ac.o p0) (by decide) Ch fun Df Cj Ck Dg Cm Cn Co=>ACe (ACk (q_b (q_t (ABy (AC0 rfl rfl (Wl (ABp ?_)))))));obtain rfl:=ABl Ci;exact ⟨Bg,(((Bc ++ [Af]),Ck,Cj,(w64 (Be + 1))):(LiA) × (Value) × LnA × (Int)),Nat.lt_succ_self _,⟨Ag,(Ac.uo p0 Cn Cm Co)⟩,rfl,rfl,trivial⟩
 ·obtain rfl:=ABl (AC3 Ab Ah);change _=Az at Ag;subst Ag;refine ACb (ACa (ACa (ADj (q_t (ABj (Wl (ABq (ABt ?_))))))));obtain rfl:=ABl A8;exact ⟨_,ABu,Aa.x,_,_,rfl,(Aa.o p0),Aa.s.sel [0] (by decide)⟩
def AJ5 (fuel:Nat) (a7:LiA) (a9:Int) (Ac:LiA) (Ad Ab:Int):Option ((Int × Int) ⊕ ((Int))):=
  (if Ab < (Ac.length:Int) then ((gI Ac Ab).bind fun Af=>((gI a7 Ab).bind fun Ag=>((AFs fuel Ag a9).bind fun Ah=>(if a9≠0 then (if a9≠0 then (some (Sum.inl ((Int.tmod (w64 (Ad + (Int.tmod (w64 (Af * Ah)) a9))) a9),(w64 (Ab + 1))))) else none) else none)))) else (some (Sum.inr<| Ad)))
def AEl (fuel:Nat) (a3:LiI) (a7:LiA) (a9:Int):Option Int:=
  ((AE3 fuel a3 a7 a9).bind fun Ad=>((iter (fun s=>AJ5 fuel a7 a9 Ad s.1 s.2) fuel (0,0)).bind (fun (Ae:Int)=>(some Ae))))
theorem AM0 {fuel:Nat} {h:ABk} {Ah:Value} {a3:LiI} {Aj:Value} {a7:LiA} {a9 r:Int} (H2:AFn (cI .i64) h Ah a3) (H6:SlC (cI .i64) h Aj a7) (hp:AEl fuel a3 a7 a9=some r):AB9 Tryz.prog 44 #[Ah,Aj,(.int .i64 a9)] h (fun x h'=>Ext h h'/\x= .int .i64 r):=by
 unfold AEl at hp;refine cwf (l:=[_,_,_]) Tryz.func44 rfl rfl (ABj (ACs (ABq (ABn (ABj (Wl (Wl (Wl ?_))))))));have K0:=Kst.k0 h;obtain ⟨Bw,Ar,Au⟩:=ABm hp;refine ACw rfl (AMg (H2.ext K0.x) (H6.ext K0.x) Ar) fun Bx By Av Aw=>?_;obtain ⟨Bz,B1,rfl,Ax,Ay⟩:=Aw;have Ae:=K0.no Av Ay Ax;refine ADy ABv rfl (Ae.o p0).rd (Wl (ABp (ABr ?_)));obtain ⟨Ao,Az,A3⟩:=ABm Au;obtain ⟨A4,A5,A6⟩:=ACd Az;refine ACi 34359706496 (fun x:(Int) × (Int)=>[(7,(.int .i64 x.1)),(15,(.int .i64 x.2))]) (fun k x h'=>iter A4 k (x.1,x.2)=some Ao/\Kst h h' (Ae.L)) (by kernel_rfl) fuel ((0,0):(Int) × (Int)) ?_ ⟨rfl,rfl,trivial⟩ ?_
 ·exact ⟨A6,Ae⟩
 rintro B2 ⟨A7,A8⟩ B3 B4 ⟨A9,Aa⟩;obtain ⟨Ba,B5,rfl,Ab,Af⟩:=AB4 A9;rw [A5] at Ab;dsimp only at Ab;unfold AJ5 at Ab;refine ABj (AC1 rfl rfl (ABp (ABn (⟨_,rfl,fun Ag=>?_,fun Ag=>?_⟩))))
 ·refine ABs (q_t (ABn (ABr (ABj (Wl ?_)))));obtain ⟨Bb,Ap,Bc⟩:=ABm (AC2 Ab Ag);refine AMr ABv rfl (Aa.o p0) rfl Ap fun B6 Be=>?_;obtain ⟨B7,Bf,Bg⟩:=(Aa.o p0).cells Be Ap;obtain rfl:=Bf;refine AB8 ACr rfl (Bg 0 _ rfl) (ACe (ABq (ABy (Wl (Wl (Wl (Wl ?_)))))));obtain ⟨B8,Bh,Bi⟩:=ABm Bc;refine AIm (c:=(cI .i64)) ABv rfl H6 rfl Bh fun B9 Ca Cb Bj Bl=>?_;obtain rfl:=Bj;refine AB8 ACr rfl (ABz (Bl 0 _ rfl) Aa.x) (Wl ?_);obtain ⟨Bm,Bn,Bo⟩:=ABm Bi;refine ACw rfl (AKk Bn) fun Cd Ce Bp Bq=>?_;subst Bq;refine AMa rfl rfl (Wl ?_);obtain ⟨Br,Bt⟩:=ifN Bo;refine AF7 rfl rfl Br (AC0 rfl rfl (Wl ?_));obtain ⟨Bu,Bv⟩:=ifN Bt;refine AF7 rfl rfl Bu (ACe (ACk (q_b (q_t (ABy (AC0 rfl rfl (Wl (ABp ?_))))))));obtain rfl:=ABl Bv;exact ⟨Ba,(((Int.tmod (w64 (A7 + (Int.tmod (w64 (Bb * Bm)) a9))) a9),(w64 (A8 + 1))):(Int) × (Int)),Nat.lt_succ_self _,⟨Af,(Aa.e Bp)⟩,rfl,rfl,trivial⟩
 ·obtain rfl:=ABl (AC3 Ab Ag);change _=Ao at Af;subst Af;refine ACb (ACa (ACa (ADj (q_t (ABj (Wl (ABq (ABt ?_))))))));obtain rfl:=ABl A3;exact ⟨_,ABu,Aa.x,rfl⟩
def AJ8 (fuel:Nat) (a5:Int) (a8:LiA) (Ab Aa:Int):Option ((Int × Int) ⊕ ((Bool) ⊕ (Int))):=
  (if Aa < (a8.length:Int) then ((gI a8 Aa).bind fun Ac=>(((if Ac < 0 then (some (Sum.inl <| false)) else (if a5<=Ac then (some (Sum.inl <| false)) else (some (Sum.inr <| ())))):Option ((Bool) ⊕ (Unit))).bind (fun ex=>match ex with | Sum.inl Af=>(some (Sum.inr<| Sum.inl <| Af)) | Sum.inr (_)=>(if Ab=0 then (some (Sum.inl (Ac,(w64 (Aa + 1))))) else (some (Sum.inl (Ab,(w64 (Aa + 1))))))))) else (some (Sum.inr<| Sum.inr <| Ab)))
def AEg (fuel:Nat) (a3:LiI) (a5:Int) (a8:LiA):Option Bool:=
  (if ¬ (a8.length:Int)=(a3.length:Int) then (some false) else ((iter (fun s=>AJ8 fuel a5 a8 s.1 s.2) fuel (0,0)).bind (fun ex=>match ex with | Sum.inl Ad=>(some Ad) | Sum.inr (Ae)=>(if Ae=1 then ((AEl fuel a3 a8 a5).bind fun Af=>(some (decide (Af=0)))) else (some false)))))
theorem AJ9 {fuel:Nat} {h:ABk} {Aq:Value} {a3:LiI} {a5:Int} {Av:Value} {a8:LiA} {r:Bool} (H2:AFn (cI .i64) h Aq a3) (H7:SlC (cI .i64) h Av a8) (hp:AEg fuel a3 a5 a8=some r):AB9 Tryz.prog 42 #[Aq,(.int .i64 a5),Av] h (fun x h'=>Ext h h'/\x= .bool r):=by
 unfold AEg at hp;refine cwf (l:=[_,_,_]) Tryz.func42 rfl rfl (ABj (ABq (ABn (ABj (Wl (ADy ABv rfl H7 (Wl (ADf AB3 rfl H2 (AHf rfl rfl (ABp ?_))))))))));have K0:=Kst.k0 h;refine ⟨_,rfl,fun Ak=>?_,fun Ak=>?_⟩
 ·refine ABj (ABq (ABt (AB1 ?_)));obtain rfl:=ABl (AC2 hp Ak);exact ⟨_,ABu,K0.x,rfl⟩
 ·refine ABs (q_t (ABj (ABq (ABn (ABj (Wl (ADy ABv rfl H7 (Wl (ABp (ABr ?_))))))))));obtain ⟨Ae,A8,Af⟩:=ABm (AC3 hp Ak);obtain ⟨A9,Ba,Bb⟩:=ACd A8;refine ACi 4294836928 (fun x:(Int) × (Int)=>[(7,(.int .i64 x.1)),(17,(.int .i64 x.2))]) (fun k x h'=>iter A9 k (x.1,x.2)=some Ae/\Kst h h' (K0.L)) (by kernel_rfl) fuel ((0,0):(Int) × (Int)) ?_ ⟨rfl,rfl,trivial⟩ ?_
  ·exact ⟨Bb,K0⟩
  rintro Bp ⟨Ay,Az⟩ Bq Br ⟨Bc,Aa⟩;obtain ⟨A3,Bt,rfl,Ac,Ab⟩:=AB4 Bc;rw [Ba] at Ac;dsimp only at Ac;unfold AJ8 at Ac;refine ABj (AC1 rfl rfl (ABp (ABn (⟨_,rfl,fun Am=>?_,fun Am=>?_⟩))))
  ·refine ABs (q_t (ABn (ABr (ABj ?_))));obtain ⟨A4,Be,Bf⟩:=ABm (AC2 Ac Am);refine AIm (c:=(cI .i64)) ABv rfl H7 rfl Be fun Bu Bv Bw Bg Bh=>?_;obtain rfl:=Bg;refine AB8 ACr rfl (ABz (Bh 0 _ rfl) Aa.x) (ABq ?_);obtain ⟨Bi,A5,Ag⟩:=ABm Bf;refine ANh 266338368 (fun x:Unit=>[]) (fun x h'=>(Sum.inr <| ())=Bi/\Kst h h' (Aa.L)) ?_ ?_
   ·refine ABj (Wl (AC1 rfl rfl (Wl ?_)));by_cases Ah:A4 < 0
    ·rw [decide_eq_true Ah];refine ALx 23 true (AB2 rfl (ABp (ACc rfl (ABj (ABq ?_)))));obtain rfl:=ABl (ifT A5 Ah);obtain rfl:=ABl Ag;change _=Ae at Ab;subst Ab;refine ABt (AB1 (ADl (AB1 (AB1 (ADl (AB1 ?_))))));obtain rfl:=ABl Af;exact ⟨_,ABu,Aa.x,rfl⟩
    ·have A6:=ifF A5 Ah;rw [decide_eq_false Ah];refine ACm 23 false (Wl (ACm 23 false (Wl (ACm 23 false (AM6 rfl rfl (ABw rfl (ABp (⟨_,rfl,fun Ao=>?_,fun Ao=>?_⟩))))))))
     ·refine ABj (ABq ?_);obtain rfl:=ABl (AC2 A6 Ao);obtain rfl:=ABl Ag;change _=Ae at Ab;subst Ab;refine ABt (AB1 (ADl (AB1 (AB1 (ADl (AB1 ?_))))));obtain rfl:=ABl Af;exact ⟨_,ABu,Aa.x,rfl⟩
     ·refine ABs (q_t ?_);exact ⟨(():Unit),⟨ABl (AC3 A6 Ao),Aa⟩,trivial⟩
   rintro ⟨⟩ Bx By ⟨Bj,A7⟩;subst Bj;refine ABj (Wl (ADn rfl rfl (ABp (⟨_,rfl,fun Ap=>?_,fun Ap=>?_⟩))))
   ·refine ABy (Wl (ACe (ACk (q_b (q_t (ABy (AC0 rfl rfl (Wl (ABp ?_)))))))));obtain rfl:=ABl (AC2 Ag Ap);exact ⟨A3,((A4,(w64 (Az + 1))):(Int) × (Int)),Nat.lt_succ_self _,⟨Ab,A7⟩,rfl,rfl,trivial⟩
   ·refine ABs (q_b (q_t (ABy (AC0 rfl rfl (Wl (ABp ?_))))));obtain rfl:=ABl (AC3 Ag Ap);exact ⟨A3,((Ay,(w64 (Az + 1))):(Int) × (Int)),Nat.lt_succ_self _,⟨Ab,A7⟩,rfl,rfl,trivial⟩
  ·obtain rfl:=ABl (AC3 Ac Am);change _=Ae at Ab;subst Ab;refine ACb (ACa (ACa (ADj (q_t (ABj (Wl (ADn rfl rfl (Wl ?_))))))));by_cases Ai:Ay=1
   ·rw [decide_eq_true Ai];refine ACm 34 true (Wl (ACm 34 true (Wl (ACm 34 true (Wl (ACm 34 true ?_))))));obtain ⟨Bz,Bl,Bm⟩:=ABm (ifT Af Ai);refine ACw rfl (AM0 (H2.ext Aa.x) (H7.ext Aa.x) Bl) fun B1 B2 Bn Bo=>?_;subst Bo;refine ACm 34 true (ADn rfl rfl (AB2 rfl (ABq (ABt ?_))));obtain rfl:=ABl Bm;exact ⟨_,ABu,(Aa.e Bn).x,rfl⟩
   ·rw [decide_eq_false Ai];refine AKr 34 false (ABw rfl (ABq (ABt ?_)));obtain rfl:=ABl (ifF Af Ai);exact ⟨_,ABu,Aa.x,rfl⟩
def AKn (fuel:Nat) (a5 Aa:Int) (Ab:LiA):Option ((Int × LiA) ⊕ ((Int × LiA))):=
  (((if 0<=Aa then ((gI Ab Aa).bind fun Ad=>(if Ad=(w64 (a5 - 1)) then (some (Sum.inl <| ())) else (some (Sum.inr <| ())))) else (some (Sum.inr <| ()))):Option ((Unit) ⊕ (Unit))).bind (fun ex=>match ex with | Sum.inl _=>((gI Ab Aa).bind fun Ae=>(some (Sum.inl ((w64 (Aa - 1)),(sI Ab Aa 0))))) | Sum.inr (_)=>(some (Sum.inr<| (Aa,Ab)))))
def AKo (fuel:Nat) (a3:LiI) (a5:Int) (Ab:LiI) (Aa:LiA):Option ((LiI × LiA) ⊕ ((LiI))):=
  ((((AEg fuel a3 a5 Aa).bind fun Ah=>(if Ah=true then (if Aa.length<=100000000 then (if Ab.length<=100000000 then (some ( (Ab ++ [Aa]))) else none) else none) else (some ( Ab)))):Option ((LiI))).bind (fun (Ae:LiI)=>((((iter (fun s=>AKn fuel a5 s.1 s.2) fuel ((w64 ((Aa.length:Int) - 1)),Aa)).bind (fun ((Ai,Aj):Int × LiA)=>(some ( (Ai,Aj))))):Option ((Int × LiA))).bind (fun ((Ac,Af):Int × LiA)=>(if Ac < 0 then (some (Sum.inr<| Ae)) else ((gI Af Ac).bind fun Ak=>(some (Sum.inl (Ae,(sI Af Ac (w64 (Ak + 1))))))))))))
def AH6 (fuel:Nat) (a3:LiI) (a5:Int):Option LiI:=
  (if 0<=(a3.length:Int)/\(a3.length:Int)<=100000000 then ((iter (fun s=>AKo fuel a3 a5 s.1 s.2) fuel ([],(List.replicate (Int.toNat (a3.length:Int)) (0:Int)))).bind (fun (Ac:LiI)=>(some Ac))) else none)
theorem AR9 {fuel:Nat} {h:ABk} {A5:Value} {a3:LiI} {a5:Int} {r:LiI} (H2:AFn (cI .i64) h A5 a3) (hp:AH6 fuel a3 a5=some r):AB9 Tryz.prog 33 #[A5,(.int .i64 a5)] h (fun x h'=>Ext h h'/\ ∃ (x0:Value) (F0:List Nat) (Bp:List LnA) (Bq:List Value),x=x0/\AFf (cI .i64) 23 2 h' F0 Bp Bq x0 r/\Sp h' h.size [F0]):=by
 unfold AH6 at hp;refine cwf (l:=[_,_]) Tryz.func33 rfl rfl (ABj (ACs (ACs (Wl (ADf AB3 rfl H2 ?_)))));obtain ⟨Br,Bt⟩:=ifN hp;refine ARr (c:=(cI .i64)) (a:=0) ABv AGz rfl rfl (fun _=>rfl) rfl trivial tt2 rfl rfl (by decide) Br fun Bu Ao Dw Bv E8 Bx By=>ABq (ABr ?_);have Ba:=Kst.anil2 (cI .i64) 23 2 ((Kst.k0 h).no E8 (AGr Bx By) Bv);obtain ⟨Bb,Bz,B1⟩:=ABm Bt;obtain ⟨B2,B3,B4⟩:=ACd Bz;refine ACi 281474976708784 (fun x:(LiI) × (Value) × LnA × LnN × LvA × (LiA) × LnA=>[(5,x.2.1)]) (fun k x h'=>iter B2 k (x.1,x.2.2.2.2.2.1)=some Bb/\Kst h h' ((Ba.L.set 0 (aO2 (cI .i64) 23 2 x.2.2.1 x.2.2.2.1 x.2.2.2.2.1 x.2.1 x.1)).set 1 (aO (cI .i64) 2 x.2.2.2.2.2.2 Ao x.2.2.2.2.2.1))) (by kernel_rfl) fuel (([],(.slice none 0 0),[],[],[],(List.replicate (Int.toNat (a3.length:Int)) (0:Int)),[Bu]):(LiI) × (Value) × LnA × LnN × LvA × (LiA) × LnA) ?_ ⟨rfl,trivial⟩ ?_
 ·exact ⟨B4,Ba⟩
 rintro Dx ⟨Bc,B5,B6,Be,Bf,Ap,B7⟩ Dy Dz ⟨B8,Ae⟩;obtain ⟨B9,D0,rfl,Af,Aq⟩:=AB4 B8;rw [B3] at Af;dsimp only at Af;unfold AKo at Af;refine ABr ?_;obtain ⟨Ca,Cb,Cd⟩:=ABm Af;refine ANh 1046560 (fun x:(LiI) × (Value) × LnA × LnN × LvA=>[(5,x.2.1)]) (fun x h'=>( x.1)=Ca/\Kst h h' (Ae.L.set 0 (aO2 (cI .i64) 23 2 x.2.2.1 x.2.2.2.1 x.2.2.2.2 x.2.1 x.1))) ?_ ?_
 ·refine ABj (Wl (Wl (Wl ?_)));obtain ⟨D1,Ce,Bg⟩:=ABm Cb;refine ACw rfl (AJ9 (H2.ext Ae.x) (Ae.o p1).rd Ce) fun D2 D3 Cf Cg=>?_;subst Cg;refine ABp ?_;have Ar:=Ae.e Cf;refine ⟨_,rfl,fun Au=>?_,fun Au=>?_⟩
  ·refine ABy (Wl (Wl ?_));obtain ⟨Ch,Ci⟩:=ifN (ifT Bg Au);refine Adr ABv AGz rfl rfl trivial tt2 rfl rfl (Ar.o p1).rd (by decide) Ch fun Cj Ck D4 Cm Cn Co=>?_;have Ag:=Ar.no Cn Co Cm;obtain ⟨Cp,Cq⟩:=ifN Ci;refine Abg AB3 AKb rfl rfl trivial tt2 (fun _=>rfl) rfl (Ag.o p0) (Ag.o2 p1) (Ag.dj p0 p1 (by decide)) (by decide) Cp fun D5 Cr Ct D6 Cu Cv Cw=>ABq ?_;exact ⟨(((Bc ++ [Ap]),Ct,Cr,(Be ++ [Cj]),(Bf ++ [Ck])):(LiI) × (Value) × LnA × LnN × LvA),⟨ABl Cq,(Ag.m2 p0 p1 (by decide) Cv Cu Cw).sel [1,2] (by decide)⟩,rfl,trivial⟩
  ·refine ABs (q_t ?_);exact ⟨((Bc,B5,B6,Be,Bf):(LiI) × (Value) × LnA × LnN × LvA),⟨ABl (AIz Bg Au),Ar⟩,rfl,trivial⟩
 rintro ⟨Cx,Cy,Cz,C0,C1⟩ D7 D8 ⟨C2,Ah⟩;subst C2;refine ABj (Wl (ADy ABv rfl (Ah.o p1).rd (AGt rfl rfl (ABq ?_))));obtain ⟨C3,C4,Bh⟩:=ABm Cd;refine ANh 549747425408 (fun x:(Int) × (LiA) × LnA=>[(7,(.int .i64 x.1))]) (fun x h'=>( (x.1,x.2.1))=C3/\Kst h h' (Ah.L.set 1 (aO (cI .i64) 2 x.2.2 Ao x.2.1))) ?_ ?_
 ·refine ABr ?_;obtain ⟨Av,C5,Bi⟩:=ABm C4;obtain ⟨C6,C7,C8⟩:=ACd C5;refine ACi 549747425408 (fun x:(Int) × (LiA) × LnA=>[(7,(.int .i64 x.1))]) (fun k x h'=>iter C6 k (x.1,x.2.1)=some Av/\Kst h h' (Ah.L.set 1 (aO (cI .i64) 2 x.2.2 Ao x.2.1))) (by kernel_rfl) fuel (((w64 ((Ap.length:Int) - 1)),Ap,B7):(Int) × (LiA) × LnA) ?_ ⟨rfl,trivial⟩ ?_
  ·exact ⟨C8,Ah⟩
  rintro D9 ⟨Ac,Aw,Ax⟩ Ea Eb ⟨C9,Ab⟩;obtain ⟨Da,Ec,rfl,Ai,Ad⟩:=AB4 C9;rw [C7] at Ai;dsimp only at Ai;unfold AKn at Ai;obtain ⟨Db,Bj,Ay⟩:=ABm Ai;refine ANh 17171480576 (fun x:Unit=>[]) (fun x h'=>(Sum.inl <| ())=Db/\Kst h h' (Ab.L)) ?_ ?_
  ·refine ABj (Wl (AM6 rfl rfl (Wl ?_)));by_cases Aj:0<=Ac
   ·rw [decide_eq_true Aj];refine ACm 25 true (Wl (ACm 25 true (Wl (ACm 25 true ?_))));obtain ⟨Ed,Bl,Bm⟩:=ABm (ifT Bj Aj);refine AMr ABv rfl (Ab.o p1) rfl Bl fun Ee Dc=>ACm 25 true ?_;obtain ⟨Ef,Dd,De⟩:=(Ab.o p1).cells Dc Bl;obtain rfl:=Dd;refine AB8 ACr rfl (De 0 _ rfl) (ACm 25 true (Wl (ACm 25 true (AGt rfl rfl (ACm 25 true (ADn rfl rfl (AB2 rfl (ABp (⟨_,rfl,fun Az=>?_,fun Az=>?_⟩)))))))))
    ·refine ABs (q_t ?_);exact ⟨(():Unit),⟨ABl (AC2 Bm Az),Ab⟩,trivial⟩
    ·obtain rfl:=ABl (AC3 Bm Az);obtain rfl:=ABl Ay;change _=Av at Ad;subst Ad;refine ACb (ACa (ACa (ADj (q_t ?_))));exact ⟨((Ac,Aw,Ax):(Int) × (LiA) × LnA),⟨ABl Bi,Ab⟩,rfl,trivial⟩
   ·rw [decide_eq_false Aj];refine AKr 25 false (AGh 25 false (ABw rfl (ABp (ACf rfl ?_))));obtain rfl:=ABl (ifF Bj Aj);obtain rfl:=ABl Ay;change _=Av at Ad;subst Ad;refine ACb (ACa (ACa (ADj (q_t ?_))));exact ⟨((Ac,Aw,Ax):(Int) × (LiA) × LnA),⟨ABl Bi,Ab⟩,rfl,trivial⟩
  rintro ⟨⟩ Eg Eh ⟨Df,A3⟩;subst Df;refine ABr (ABj (Wl (Wl ?_)));obtain ⟨Ei,Bn,Dg⟩:=ABm Ay;refine AMr ABv rfl (A3.o p1) rfl Bn fun Ej Dh=>AYj (AF3 ACr rfl rfl rfl) (A3.o p1) Dh Bn (show ((cI .i64)).rep _ 0 _ from rfl) fun Ek Di Dj=>ABp (ABy (Wl (AGt rfl rfl (ACe (ACk (q_b (q_t ?_)))))));obtain rfl:=ABl Dg;exact ⟨Da,(((w64 (Ac - 1)),(sI Aw Ac 0),Ax):(Int) × (LiA) × LnA),Nat.lt_succ_self _,⟨Ad,(A3.uO p1 Dj Di)⟩,rfl,trivial⟩
 rintro ⟨Dk,Dl,Dn⟩ El Em ⟨Do,Aa⟩;subst Do;refine ABn (ABj (Wl (AC1 rfl rfl (ABp (⟨_,rfl,fun A4=>?_,fun A4=>?_⟩)))))
 ·refine ABj (Wl (ABq ?_));obtain rfl:=ABl (AC2 Bh A4);change _=Bb at Aq;subst Aq;refine ABt (AB1 (ADl (AB1 (ADl ?_))));obtain rfl:=ABl B1;exact ⟨_,ABu,Aa.x,_,_,_,_,rfl,(Aa.o2 p0),Aa.s.sel [0] (by decide)⟩
 ·refine ABs (q_t (ABy (Wl (Wl ?_))));obtain ⟨Bo,Ak,Dp⟩:=ABm (AC3 Bh A4);refine AMr ABv rfl (Aa.o p1) rfl Ak fun En Dq=>?_;obtain ⟨Eo,Dr,Ds⟩:=(Aa.o p1).cells Dq Ak;obtain rfl:=Dr;refine AB8 ACr rfl (Ds 0 _ rfl) (AC0 rfl rfl (AMr ABv rfl (Aa.o p1) rfl Ak fun Ep Dt=>AYj (AF3 ACr rfl rfl rfl) (Aa.o p1) Dt Ak (show ((cI .i64)).rep _ (w64 (Bo + 1)) _ from rfl) fun Er Du Dv=>ACk (q_b (q_t ?_))));obtain rfl:=ABl Dp;exact ⟨B9,((Cx,Cy,Cz,C0,C1,(sI Dl Dk (w64 (Bo + 1))),Dn):(LiI) × (Value) × LnA × LnN × LvA × (LiA) × LnA),Nat.lt_succ_self _,⟨Aq,(Aa.uO p1 Dv Du)⟩,rfl,trivial⟩
noncomputable def AJ6 (fuel:Nat) (a3:LiI) (a5 Ac:Int) (Aa:LiA):Option ((LiA) ⊕ ((LiA))):=
  ((AEl fuel a3 Aa (w64 (a5 * a5))).bind fun Ae=>(if ¬ Ae=0 then ((gI Aa Ac).bind fun Af=>(some (Sum.inl (sI Aa Ac (w64 (Af + a5)))))) else (some (Sum.inr<| Aa))))
noncomputable def AJ7 (fuel:Nat) (a3:LiI) (a5:Int) (a8:LiA) (Aa:Int):Option ((Int) ⊕ ((Int))):=
  ((AE3 fuel a3 a8 a5).bind fun Ae=>((gI Ae Aa).bind fun Af=>(if Af=0 then (some (Sum.inl (w64 (Aa + 1)))) else (some (Sum.inr<| Aa)))))
noncomputable def AD1 (fuel:Nat) (a3:LiI) (a5:Int) (a8:LiA):Option (LiA × Int):=
  ((AGl fuel a3 a5 false).bind fun Ad=>(if ¬ Ad=0 then (some ([],Ad)) else ((AEg fuel a3 a5 a8).bind fun Ae=>(if (!Ae)=true then (some ([],26)) else ((iter (fun s=>AJ7 fuel a3 a5 a8 s) fuel 0).bind (fun (Af:Int)=>(if a8.length<=100000000 then ((iter (fun s=>AJ6 fuel a3 a5 Af s) fuel a8).bind (fun (Ag:LiA)=>(some (Ag,0)))) else none)))))))
theorem AM1 {fuel:Nat} {h:ABk} {A3:Value} {a3:LiI} {a5:Int} {A5:Value} {a8:LiA} {r:(LiA × Int)} (H2:AFn (cI .i64) h A3 a3) (H7:SlC (cI .i64) h A5 a8) (hp:AD1 fuel a3 a5 a8=some r):AB9 Tryz.prog 16 #[A3,(.int .i64 a5),A5] h (fun x h'=>Ext h h'/\ ∃ (x0:Value) (F0:List Nat),x= .tuple #[x0,.int .i64 r.2]/\OwC (cI .i64) 2 h' F0 x0 r.1/\Sp h' h.size [F0]):=by
 unfold AD1 at hp;refine cwf (l:=[_,_,_]) Tryz.func16 rfl rfl (ABj (ACe (ABq (ABn (ABj (Wl (Wl ?_)))))));have K0:=Kst.k0 h;obtain ⟨C1,Bj,A9⟩:=ABm hp;refine ACw rfl (AP2 (H2.ext K0.x) Bj) fun C2 C3 Bl Bm=>?_;subst Bm;refine ACs (Wl (AHf rfl rfl (ABp ?_)));have Ae:=K0.e Bl;refine ⟨_,rfl,fun Ak=>?_,fun Ak=>?_⟩
 ·refine ABj (Wl (ACe (ABq (ABt (AB1 ?_)))));have Am:=Kst.anil (cI .i64) 2 Ae;obtain rfl:=ABl (AC2 A9 Ak);exact ⟨_,ADa,Am.x,_,_,rfl,(Am.o p0),Am.s.sel [0] (by decide)⟩
 ·refine ABs (q_t (ABn (ABj (Wl (Wl (Wl ?_))))));obtain ⟨C4,Bn,Ba⟩:=ABm (AC3 A9 Ak);refine ACw rfl (AJ9 (H2.ext Ae.x) (H7.ext Ae.x) Bn) fun C5 C6 Bo Bp=>?_;subst Bp;refine AF8 rfl (ABp ?_);have Ao:=Ae.e Bo;refine ⟨_,rfl,fun Ap=>?_,fun Ap=>?_⟩
  ·refine ABj (ACe (ABq (ABt (AB1 ?_))));have Aq:=Kst.anil (cI .i64) 2 Ao;obtain rfl:=ABl (ifT Ba Ap);exact ⟨_,ADa,Aq.x,_,_,rfl,(Aq.o p0),Aq.s.sel [0] (by decide)⟩
  ·refine ABs (q_t (ABj (ABq (ABn (ABr ?_)))));obtain ⟨Bb,Bq,Br⟩:=ABm (AIz Ba Ap);obtain ⟨Bt,Bu,Bv⟩:=ACd Bq;refine ACi 4290773504 (fun x:(Int)=>[(9,(.int .i64 x))]) (fun k x h'=>iter Bt k x=some Bb/\Kst h h' (Ao.L)) (by kernel_rfl) fuel (0:(Int)) ?_ ⟨rfl,trivial⟩ ?_
   ·exact ⟨Bv,Ao⟩
   rintro C7 Bc C8 C9 ⟨Bw,Ar⟩;obtain ⟨Bx,Da,rfl,Af,Au⟩:=AB4 Bw;rw [Bu] at Af;dsimp only at Af;unfold AJ7 at Af;refine ABn (ABj (Wl (Wl (Wl ?_))));obtain ⟨Db,By,Bz⟩:=ABm Af;refine ACw rfl (AMg (H2.ext Ar.x) (H7.ext Ar.x) By) fun Dc Dd B1 B2=>?_;obtain ⟨De,Df,rfl,B3,B4⟩:=B2;refine Wl ?_;have Ab:=Ar.no B1 B4 B3;obtain ⟨Dg,Be,Bf⟩:=ABm Bz;refine AMr ABv rfl (Ab.o p0) rfl Be fun Dh B5=>?_;obtain ⟨Di,B6,B7⟩:=(Ab.o p0).cells B5 Be;obtain rfl:=B6;refine AB8 ACr rfl (B7 0 _ rfl) (ADn rfl rfl (ABp (⟨_,rfl,fun Av=>?_,fun Av=>?_⟩)))
   ·refine ABs (q_t (ABr (ABy (Wl (AC0 rfl rfl (ACe (ACk (q_b (q_t ?_)))))))));obtain rfl:=ABl (AC2 Bf Av);exact ⟨Bx,((w64 (Bc + 1)):(Int)),Nat.lt_succ_self _,⟨Au,Ab.sel [] (by decide)⟩,rfl,trivial⟩
   ·obtain rfl:=ABl (AC3 Bf Av);change _=Bb at Au;subst Au;refine ACb (ACa (ACa (ADj (q_t (ABj (Wl ?_))))));obtain ⟨B8,B9⟩:=ifN Br;refine Adr ABv AGz rfl rfl trivial tt2 rfl rfl (H7.ext Ab.x) (by decide) B8 fun Ca Cb Dj Cd Ce Cf=>ABq (ABn (ABr ?_));obtain ⟨Bg,Cg,Ch⟩:=ABm B9;obtain ⟨Ci,Cj,Ck⟩:=ACd Cg;have Aw:=(Ab.no Ce Cf Cd).sel [0] (by decide);dsimp only [AI0,ALr] at Aw;refine ACi 281457796841472 (fun x:(LiA) × LnA=>[]) (fun k x h'=>iter Ci k x.1=some Bg/\Kst h h' (Aw.L.set 0 (aO (cI .i64) 2 x.2 Cb x.1))) (by kernel_rfl) fuel ((a8,Ca):(LiA) × LnA) ?_ trivial ?_
    ·exact ⟨Ck,Aw⟩
    rintro Dk ⟨Cm,Cn⟩ Dl Dn ⟨Co,Ax⟩;obtain ⟨Cp,Do,rfl,Ag,Ay⟩:=AB4 Co;rw [Cj] at Ag;dsimp only at Ag;unfold AJ6 at Ag;refine ABn (ABj (Wl (Wl (Wl (Wl (AMa rfl rfl ?_))))));obtain ⟨Dp,Cq,Bh⟩:=ABm Ag;refine ACw rfl (AM0 (H2.ext Ax.x) (Ax.o p0).rd Cq) fun Dq Dr Cr Ct=>?_;subst Ct;refine AHf rfl rfl (ABp ?_);have Aa:=Ax.e Cr;refine ⟨_,rfl,fun Az=>?_,fun Az=>?_⟩
    ·refine ABs (q_t (ABr (ABy (Wl (Wl ?_)))));obtain ⟨Bi,Ah,Cu⟩:=ABm (AC2 Bh Az);refine AMr ABv rfl (Aa.o p0) rfl Ah fun Ds Cv=>?_;obtain ⟨Dt,Cw,Cx⟩:=(Aa.o p0).cells Cv Ah;obtain rfl:=Cw;refine AB8 ACr rfl (Cx 0 _ rfl) (Wl (AC0 rfl rfl (AMr ABv rfl (Aa.o p0) rfl Ah fun Du Cy=>AYj (AF3 ACr rfl rfl rfl) (Aa.o p0) Cy Ah (show ((cI .i64)).rep _ (w64 (Bi + a5)) _ from rfl) fun Dv Cz C0=>ACk (q_b (q_t ?_)))));obtain rfl:=ABl Cu;exact ⟨Cp,(((sI Cm Bc (w64 (Bi + a5))),Cn):(LiA) × LnA),Nat.lt_succ_self _,⟨Ay,(Aa.uO p0 C0 Cz)⟩,trivial⟩
    ·obtain rfl:=ABl (AC3 Bh Az);change _=Bg at Ay;subst Ay;refine ACb (ACa (ACa (ADj (q_t (ABj (Wl (ACe (ABq (ABt ?_)))))))));obtain rfl:=ABl Ch;exact ⟨_,ADa,Aa.x,_,_,rfl,(Aa.o p0),Aa.s.sel [0] (by decide)⟩
noncomputable def AHv (fuel:Nat) (a3:LiI) (Ab Aa:Int):Option ((Int × Int) ⊕ ((Int))):=
  ((AGe fuel a3 Aa).bind fun Ad=>(if Ad=true then (if Ab=0 then (some (Sum.inr<| Aa)) else (some (Sum.inl ((w64 (Ab - 1)),(w64 (Aa + 2)))))) else (some (Sum.inl (Ab,(w64 (Aa + 2)))))))
noncomputable def AFp (fuel:Nat) (a3:LiI) (a5:Int):Option Int:=
  ((iter (fun s=>AHv fuel a3 s.1 s.2) fuel ((w64 (Int.tmod a5 2)),3)).bind (fun (Ac:Int)=>(some Ac)))
theorem AOq {fuel:Nat} {h:ABk} {Ag:Value} {a3:LiI} {a5 r:Int} (H2:AFn (cI .i64) h Ag a3) (hp:AFp fuel a3 a5=some r):AB9 Tryz.prog 13 #[Ag,(.int .u8 a5)] h (fun x h'=>Ext h h'/\x= .int .i64 r):=by
 unfold AFp at hp;refine cwf (l:=[_,_]) Tryz.func13 rfl rfl (ABj (ACs (Wl (AF7 rfl rfl (by decide) (AL5 APd APc rfl (ACs (ABq (ABr ?_))))))));have K0:=Kst.k0 h;obtain ⟨Aj,Av,Aw⟩:=ABm hp;obtain ⟨Ax,Ay,Az⟩:=ACd Av;refine ACi 1047664 (fun x:(Int) × (Int)=>[(5,(.int .i64 x.1)),(6,(.int .i64 x.2))]) (fun k x h'=>iter Ax k (x.1,x.2)=some Aj/\Kst h h' (K0.L)) (by kernel_rfl) fuel (((w64 (Int.tmod a5 2)),3):(Int) × (Int)) ?_ ⟨rfl,rfl,trivial⟩ ?_
 ·exact ⟨Az,K0⟩
 rintro A7 ⟨Ak,Am⟩ A8 A9 ⟨A3,Ao⟩;obtain ⟨Ap,Ba,rfl,Aa,Ab⟩:=AB4 A3;rw [Ay] at Aa;dsimp only at Aa;unfold AHv at Aa;refine ABn (ABr (ABj (Wl (Wl ?_))));obtain ⟨Bb,A4,Aq⟩:=ABm Aa;refine ACw rfl (AMz (H2.ext Ao.x) A4) fun Bc Be A5 A6=>?_;subst A6;refine ABp ?_;have Ad:=Ao.e A5;refine ⟨_,rfl,fun Ae=>?_,fun Ae=>?_⟩
 ·refine ABn (ABj (Wl (ADn rfl rfl (ABp ?_))));have Ar:=ifT Aq Ae;refine ⟨_,rfl,fun Af=>?_,fun Af=>?_⟩
  ·refine ABj (Wl (ABq ?_));obtain rfl:=ABl (AC2 Ar Af);change _=Aj at Ab;subst Ab;refine ABt (AB1 (ADl (AB1 (AB1 (ADl ?_)))));obtain rfl:=ABl Aw;exact ⟨_,ABu,Ad.x,rfl⟩
  ·refine ABs (q_t (ABy (Wl (AGt rfl rfl (ACe (ACk (q_b (q_t (ABy (Wl (AC0 rfl rfl (ABq ?_))))))))))));obtain rfl:=ABl (AC3 Ar Af);exact ⟨Ap,(((w64 (Ak - 1)),(w64 (Am + 2))):(Int) × (Int)),Nat.lt_succ_self _,⟨Ab,Ad⟩,rfl,rfl,trivial⟩
 ·refine ABs (q_b (q_t (ABy (Wl (AC0 rfl rfl (ABq ?_))))));obtain rfl:=ABl (AIz Aq Ae);exact ⟨Ap,((Ak,(w64 (Am + 2))):(Int) × (Int)),Nat.lt_succ_self _,⟨Ab,Ad⟩,rfl,rfl,trivial⟩
def AHh (fuel:Nat) (a3:LiI) (a5 a6:Int):Option (LiA × Bool):=
  ((AFk fuel (a3.length:Int) a5).bind fun x7=>(if (!x7)=true then (some ([],false)) else ((AH6 fuel a3 a5).bind fun Aa=>(if (Aa.length:Int)=0 then (some ([],false)) else (if (Aa.length:Int)≠0 then ((gI Aa (Int.tmod (w64 a6) (Aa.length:Int))).bind fun Af=>(some (Af,true))) else none)))))
theorem ARe {fuel:Nat} {h:ABk} {Ag:Value} {a3:LiI} {a5 a6:Int} {r:(LiA × Bool)} (H2:AFn (cI .i64) h Ag a3) (hp:AHh fuel a3 a5 a6=some r):AB9 Tryz.prog 14 #[Ag,(.int .i64 a5),(.int .u16 a6)] h (fun x h'=>Ext h h'/\ ∃ (x0:Value) (F0:List Nat),x= .tuple #[x0,.bool r.2]/\OwC (cI .i64) 2 h' F0 x0 r.1/\Sp h' h.size [F0]):=by
 unfold AHh at hp;refine cwf (l:=[_,_,_]) Tryz.func14 rfl rfl (ABj (ACe (ABq (ABn (ABj (Wl (ADf AB3 rfl H2 (Wl ?_))))))));obtain ⟨x7,Au,Ap⟩:=ABm hp;refine ACw rfl (AL4 Au) fun Be Bf Av Aw=>?_;subst Aw;refine AF8 rfl (ABp ?_);have Ab:=(Kst.k0 h).e Av;refine ⟨_,rfl,fun Ac=>?_,fun Ac=>?_⟩
 ·refine ABj (ACe (ABq (ABt (AB1 ?_))));have Ad:=Kst.anil (cI .i64) 2 Ab;obtain rfl:=ABl (ifT Ap Ac);exact ⟨_,ADa,Ad.x,_,_,rfl,(Ad.o p0),Ad.s.sel [0] (by decide)⟩
 ·refine ABs (q_t (ABj (Wl (Wl ?_))));obtain ⟨Bg,Ax,Aq⟩:=ABm (AIz Ap Ac);refine ACw rfl (AR9 (H2.ext Ab.x) Ax) fun Bh Bi Ay Az=>?_;obtain ⟨Bj,Bl,Bm,Bn,rfl,A3,A4⟩:=Az;refine ABq (ABn (ABj (Wl ?_)));have Aa:=Ab.no2 Ay A4 A3;refine ADf AB3 rfl (Aa.o2 p0).rd (ADn rfl rfl (ABp (⟨_,rfl,fun Ae=>?_,fun Ae=>?_⟩)))
  ·refine ABj (ACe (ABq (ABt (AB1 ?_))));have Af:=Kst.anil (cI .i64) 2 Aa;obtain rfl:=ABl (AC2 Aq Ae);exact ⟨_,ADa,Af.x,_,_,rfl,(Af.o p0),Af.s.sel [0] (by decide)⟩
  ·refine ABs (q_t (ABj (Wl (Wl (AL5 Asd APc rfl (Wl (ADf AB3 rfl (Aa.o2 p0).rd ?_)))))));obtain ⟨A5,A6⟩:=ifN (AC3 Aq Ae);refine AF7 rfl rfl A5 ?_;obtain ⟨Bo,Ar,A7⟩:=ABm A6;refine ADt AB3 rfl (Aa.o2 p0) rfl Ar fun Bp Bq Br A8 A9=>AB8 ACo rfl A9 (ACe (ABq (ABt ?_)));obtain rfl:=ABl A7;obtain ⟨Bt,Ba,Bb⟩:=Aa.rowS p0 A8 Ar;exact ⟨_,ADa,Aa.x,_,_,rfl,Ba,Bb⟩
noncomputable def ADs (fuel:Nat):Option Bool:=
  ((ANf fuel ([([1,0]:List Int),([0,1]:List Int)]:List LiA) 5).bind fun (Ab,Ac)=>((AGd fuel ([([1,0]:List Int),([0,1]:List Int)]:List LiA) 5 ([1,2]:List Int)).bind fun (Aa,Ad)=>((ALn fuel ([([1,0,0]:List Int),([0,1,0]:List Int),([0,0,1]:List Int)]:List LiA) 3).bind fun (Ae,Af)=>(if Ac=0 then (if Ad=0 then (if Af=0 then ((AEk fuel Ab ([([1,2]:List Int),([1,3]:List Int)]:List LiA)).bind fun Ag=>(if Ag=true then (if (Aa.length:Int)=2 then ((gI Aa 0).bind fun Ah=>(if Ah=11 then ((gI Aa 1).bind fun Ai=>(if Ai=2 then (some (decide (Ae=4))) else (some false))) else (some false))) else (some false)) else (some false))) else (some false)) else (some false)) else (some false)))))
theorem AHa {fuel:Nat} {h:ABk} {r:Bool} (HO:AUy h) (hp:ADs fuel=some r):AB9 Tryz.prog 10 #[] h (fun x h'=>Ext h h'/\x= .bool r):=by
 unfold ADs at hp;refine cwf (l:=[]) Tryz.func10 rfl rfl (ABj (ACs (AQp (κ:= .i64) [1,0] ABv AGz rfl rfl trivial tt2 rfl rfl rfl rfl fun b1 v2 h3 I4 E5 Bf Bg=>AQp (κ:= .i64) [0,1] ABv AGz rfl rfl trivial tt2 rfl rfl rfl rfl fun Bh Bi Dv Bj Bl Bm Bn=>?_)));have Ac:=((Kst.k0 h).no E5 (AGr Bf Bg) I4).no Bl (AGr Bm Bn) Bj;have Au:=(((Ac.a0).grab p1).grab p0);refine AMx (c:=(cI .i64)) (el:=2) [[b1],[Bh]] [v2,Bi] [([1,0]:List Int),([0,1]:List Int)] AB3 AKb rfl rfl trivial tt2 rfl rfl rfl rfl (AKx (Ac.o p1).isOne (AKx (Ac.o p0).isOne AP9)) ⟨(Ac.o p1),(Ac.o p0),trivial⟩ (by simpa using Au.ndT) fun Dw Dx Dy Bo Bp Bq=>ACs (Wl ?_);have Ao:=Au.lit Bp Bo (by simpa using Bq);obtain ⟨⟨Dz,Br⟩,Bt,Av⟩:=ABm hp;dsimp only at Av;refine ACw rfl (AW7 (Ao.o2 p0).rd (HO.ext Ao.x) Bt) fun D0 D1 Bu Bv=>?_;obtain ⟨D2,D3,D4,D5,rfl,Bw,Bx⟩:=Bv;refine Wl (AC6 rfl rfl (AC6 rfl rfl (ACe (ACs (Wl (AQp (κ:= .i64) [1,2] ABv AGz rfl rfl trivial tt2 rfl rfl rfl rfl fun D6 D7 D8 By Bz B1 B2=>?_))))));have Ae:=(Ao.no2 Bu Bx Bw).no Bz (AGr B1 B2) By;obtain ⟨⟨B3,B4⟩,B5,Aw⟩:=ABm Av;dsimp only at Aw;refine ACw rfl (APv (Ae.o2 p2).rd (Ae.o p0).rd (HO.ext Ae.x) B5) fun D9 Ea B6 B7=>?_;obtain ⟨Eb,Ec,rfl,B8,B9⟩:=B7;refine Wl (AC6 rfl rfl (AC6 rfl rfl (ACe (ACs (AQp (κ:= .i64) [1,0,0] ABv AGz rfl rfl trivial tt2 rfl rfl rfl rfl fun Ca Cb Ed Cd Ce Cf Cg=>AQp (κ:= .i64) [0,1,0] ABv AGz rfl rfl trivial tt2 rfl rfl rfl rfl fun Ch Ci Ee Cj Ck Cm Cn=>AQp (κ:= .i64) [0,0,1] ABv AGz rfl rfl trivial tt2 rfl rfl rfl rfl fun Co Cp Ef Cq Cr Ct Cu=>?_)))));have Ab:=(((Ae.no B6 B9 B8).no Ce (AGr Cf Cg) Cd).no Ck (AGr Cm Cn) Cj).no Cr (AGr Ct Cu) Cq;have Ax:=((((Ab.a0).grab p2).grab p1).grab p0);refine AMx (c:=(cI .i64)) (el:=2) [[Ca],[Ch],[Co]] [Cb,Ci,Cp] [([1,0,0]:List Int),([0,1,0]:List Int),([0,0,1]:List Int)] AB3 AKb rfl rfl trivial tt2 rfl rfl rfl rfl (AKx (Ab.o p2).isOne (AKx (Ab.o p1).isOne (AKx (Ab.o p0).isOne AP9))) ⟨(Ab.o p2),(Ab.o p1),(Ab.o p0),trivial⟩ (by simpa using Ax.ndT) fun Eg Eh Ei Cv Cw Cx=>?_;have Ap:=Ax.lit Cw Cv (by simpa using Cx);obtain ⟨⟨Ej,Cy⟩,Cz,Aq⟩:=ABm Aw;dsimp only at Aq;refine ACw rfl (AVr (Ap.o2 p0).rd (HO.ext Ap.x) Cz) fun Ek El C0 C1=>?_;subst C1;refine Wl (AC6 rfl rfl (AC6 rfl rfl (ACe (ACs (Wl (ADn rfl rfl (Wl ?_)))))));have Af:=Ap.e C0;by_cases Ag:Br=0
 ·have Ay:=ifT Aq Ag;rw [decide_eq_true Ag];refine ACm 32 true (Wl (ACm 32 true (ADn rfl rfl (AB2 rfl (Wl ?_)))));by_cases Ah:B4=0
  ·have Az:=ifT Ay Ah;rw [decide_eq_true Ah];refine ACm 36 true (Wl (ACm 36 true (ADn rfl rfl (AB2 rfl (Wl ?_)))));by_cases Ai:Cy=0
   ·rw [decide_eq_true Ai];refine ACm 40 true (Wl (ACm 40 true (AQp (κ:= .i64) [1,2] ABv AGz rfl rfl trivial tt2 rfl rfl rfl rfl fun C2 C3 Em C4 C5 C6 C7=>ACm 40 true (AQp (κ:= .i64) [1,3] ABv AGz rfl rfl trivial tt2 rfl rfl rfl rfl fun C8 C9 En Da Db Dc Dd=>ACm 40 true ?_))));have Ad:=(Af.no C5 (AGr C6 C7) C4).no Db (AGr Dc Dd) Da;have A3:=(((Ad.a0).grab p1).grab p0);refine AMx (c:=(cI .i64)) (el:=2) [[C2],[C8]] [C3,C9] [([1,2]:List Int),([1,3]:List Int)] AB3 AKb rfl rfl trivial tt2 rfl rfl rfl rfl (AKx (Ad.o p1).isOne (AKx (Ad.o p0).isOne AP9)) ⟨(Ad.o p1),(Ad.o p0),trivial⟩ (by simpa using A3.ndT) fun Eo Ep Er De Df Dg=>ACm 40 true ?_;have Ar:=A3.lit Df De (by simpa using Dg);obtain ⟨Dh,Di,A4⟩:=ABm (ifT Az Ai);refine ACw rfl (AJ3 (Ar.o2 p9).rd (Ar.o2 p0).rd Di) fun Es Et Dj Dk=>?_;subst Dk;refine AB2 rfl (Wl ?_);have Aa:=Ar.e Dj;cases A5:Dh
    ·refine ALx 47 false (ABw rfl (Wl (AOt 52 false (ABw rfl (Wl (AOt 58 false (ABw rfl (Wl (AGh 64 false (ABw rfl (ABq (ABt ?_))))))))))));obtain rfl:=ABl (AIz A4 A5);exact ⟨_,ABu,Aa.x,rfl⟩
    ·refine ACm 47 true (Wl (ACm 47 true (ADy ABv rfl (Aa.o p7).rd (ACm 47 true (ADn rfl rfl (AB2 rfl (Wl ?_)))))));have A6:=ifT A4 A5;by_cases Aj:(B3.length:Int)=2
     ·rw [decide_eq_true Aj];refine ACm 52 true (Wl (ACm 52 true ?_));obtain ⟨Dl,A7,A8⟩:=ABm (ifT A6 Aj);refine AMr ABv rfl (Aa.o p7) rfl A7 fun Eu Dn=>ACm 52 true ?_;obtain ⟨Ev,Do,Dp⟩:=(Aa.o p7).cells Dn A7;obtain rfl:=Do;refine AB8 ACr rfl (Dp 0 _ rfl) (ACm 52 true (ADn rfl rfl (AB2 rfl (Wl ?_))));by_cases Ak:Dl=11
      ·rw [decide_eq_true Ak];refine ACm 58 true (Wl (ACm 58 true ?_));obtain ⟨Dq,A9,Ba⟩:=ABm (ifT A8 Ak);refine AMr ABv rfl (Aa.o p7) rfl A9 fun Ew Dr=>ACm 58 true ?_;obtain ⟨Ey,Ds,Dt⟩:=(Aa.o p7).cells Dr A9;obtain rfl:=Ds;refine AB8 ACr rfl (Dt 0 _ rfl) (ACm 58 true (ADn rfl rfl (AB2 rfl (Wl ?_))));by_cases Am:Dq=2
       ·rw [decide_eq_true Am];refine ACm 64 true (Wl (ACm 64 true (ADn rfl rfl (AB2 rfl (ABq (ABt ?_))))));obtain rfl:=ABl (ifT Ba Am);exact ⟨_,ABu,Aa.x,rfl⟩
       ·rw [decide_eq_false Am];refine AGh 64 false (ABw rfl (ABq (ABt ?_)));obtain rfl:=ABl (ifF Ba Am);exact ⟨_,ABu,Aa.x,rfl⟩
      ·rw [decide_eq_false Ak];refine AOt 58 false (ABw rfl (Wl (AGh 64 false (ABw rfl (ABq (ABt ?_))))));obtain rfl:=ABl (ifF A8 Ak);exact ⟨_,ABu,Aa.x,rfl⟩
     ·rw [decide_eq_false Aj];refine AOt 52 false (ABw rfl (Wl (AOt 58 false (ABw rfl (Wl (AGh 64 false (ABw rfl (ABq (ABt ?_)))))))));obtain rfl:=ABl (ifF A6 Aj);exact ⟨_,ABu,Aa.x,rfl⟩
   ·rw [decide_eq_false Ai];refine AKr 40 false (ABw rfl (Wl (ALx 47 false (ABw rfl (Wl (AOt 52 false (ABw rfl (Wl (AOt 58 false (ABw rfl (Wl (AGh 64 false (ABw rfl (ABq (ABt ?_)))))))))))))));obtain rfl:=ABl (ifF Az Ai);exact ⟨_,ABu,Af.x,rfl⟩
  ·rw [decide_eq_false Ah];refine AGh 36 false (ABw rfl (Wl (AKr 40 false (ABw rfl (Wl (ALx 47 false (ABw rfl (Wl (AOt 52 false (ABw rfl (Wl (AOt 58 false (ABw rfl (Wl (AGh 64 false (ABw rfl (ABq (ABt ?_))))))))))))))))));obtain rfl:=ABl (ifF Ay Ah);exact ⟨_,ABu,Af.x,rfl⟩
 ·rw [decide_eq_false Ag];refine AGh 32 false (ABw rfl (Wl (AGh 36 false (ABw rfl (Wl (AKr 40 false (ABw rfl (Wl (ALx 47 false (ABw rfl (Wl (AOt 52 false (ABw rfl (Wl (AOt 58 false (ABw rfl (Wl (AGh 64 false (ABw rfl (ABq (ABt ?_)))))))))))))))))))));obtain rfl:=ABl (ifF Aq Ag);exact ⟨_,ABu,Af.x,rfl⟩
def AHb (fuel:Nat) (a3:LiI) (Aa:Int):Option ((Int) ⊕ ((Bool) ⊕ (Unit))):=
  (if Aa < (a3.length:Int) then ((gI a3 Aa).bind fun Ac=>(if 12 < (Ac.length:Int) then (some (Sum.inr<| Sum.inl <| true)) else (some (Sum.inl (w64 (Aa + 1)))))) else (some (Sum.inr<| Sum.inr <| ())))
def AGw (fuel:Nat) (a3:LiI):Option Bool:=
  (if 12 < (a3.length:Int) then (some true) else ((iter (fun s=>AHb fuel a3 s) fuel 0).bind (fun ex=>match ex with | Sum.inl Ab=>(some Ab) | Sum.inr (_)=>(some false))))
theorem AQv {fuel:Nat} {h:ABk} {Aj:Value} {a3:LiI} {r:Bool} (H2:AFn (cI .i64) h Aj a3) (hp:AGw fuel a3=some r):AB9 Tryz.prog 9 #[Aj] h (fun x h'=>Ext h h'/\x= .bool r):=by
 unfold AGw at hp;refine cwf (l:=[_]) Tryz.func9 rfl rfl (ABj (ABq (ABn (ABj (Wl (ADf AB3 rfl H2 (AI4 rfl rfl (ABp ?_))))))));have K0:=Kst.k0 h;refine ⟨_,rfl,fun Af=>?_,fun Af=>?_⟩
 ·refine ABj (ABq (ABt (AB1 ?_)));obtain rfl:=ABl (AC2 hp Af);exact ⟨_,ABu,K0.x,rfl⟩
 ·refine ABs (q_t (ABn (ABj (Wl (ADf AB3 rfl H2 (Wl (ABp (ABr ?_))))))));obtain ⟨Ag,Ap,Am⟩:=ABm (AC3 hp Af);obtain ⟨Aq,Ar,Au⟩:=ACd Ap;refine ACi 261140 (fun x:(Int)=>[(10,(.int .i64 x))]) (fun k x h'=>iter Aq k x=some Ag/\Kst h h' (K0.L)) (by kernel_rfl) fuel (0:(Int)) ?_ ⟨rfl,trivial⟩ ?_
  ·exact ⟨Au,K0⟩
  rintro A4 Av A5 A6 ⟨Aw,Ac⟩;obtain ⟨Ax,A7,rfl,Aa,Ab⟩:=AB4 Aw;rw [Ar] at Aa;dsimp only at Aa;unfold AHb at Aa;refine ABj (AC1 rfl rfl (ABp (ABn (⟨_,rfl,fun Ah=>?_,fun Ah=>?_⟩))))
  ·refine ABs (q_t (ABn (ABr (ABj ?_))));obtain ⟨A8,Ay,Ao⟩:=ABm (AC2 Aa Ah);refine AIn AB3 rfl H2 rfl Ay fun A9 Ba Bb Az A3=>AB8 ACo rfl (ABz Az Ac.x) (ACs (Wl (ADy ABv rfl A3 (AI4 rfl rfl (ABp (⟨_,rfl,fun Ai=>?_,fun Ai=>?_⟩))))))
   ·refine ABj (ABq ?_);obtain rfl:=ABl (AC2 Ao Ai);change _=Ag at Ab;subst Ab;refine ABt (ADl (AB1 (AB1 (ADl (AB1 ?_)))));obtain rfl:=ABl Am;exact ⟨_,ABu,Ac.x,rfl⟩
   ·refine ABs (q_b (q_t (ABy (AC0 rfl rfl (Wl (ABp ?_))))));obtain rfl:=ABl (AC3 Ao Ai);exact ⟨Ax,((w64 (Av + 1)):(Int)),Nat.lt_succ_self _,⟨Ab,Ac⟩,rfl,trivial⟩
  ·obtain rfl:=ABl (AC3 Aa Ah);change _=Ag at Ab;subst Ab;refine ACb (ACa (ACa (ADj (q_t (ABj (ABq (ABt ?_)))))));obtain rfl:=ABl Am;exact ⟨_,ABu,Ac.x,rfl⟩
def AGx (fuel:Nat) (a1 a2:Int) (a3:Bool):Option Int:=
  (if a3=true then (some a2) else ((AIw fuel a1).bind fun x7=>(some x7)))
theorem AQw {fuel:Nat} {h:ABk} {a1 a2:Int} {a3:Bool} {r:Int} (hp:AGx fuel a1 a2 a3=some r):AB9 Tryz.prog 11 #[(.int .u8 a1),(.int .i64 a2),(.bool a3)] h (fun x h'=>Ext h h'/\x= .int .i64 r):=by
 unfold AGx at hp;refine cwf (l:=[_,_,_]) Tryz.func11 rfl rfl (ABj (ABq (ABn (ABj (Wl (ABp ?_))))));have K0:=Kst.k0 h;refine ⟨_,rfl,fun Aa=>?_,fun Aa=>?_⟩
 ·refine ABj (Wl (ABq (ABt (AB1 ?_))));obtain rfl:=ABl (ifT hp Aa);exact ⟨_,ABu,K0.x,rfl⟩
 ·refine ABs (q_t (ABj (Wl ?_)));obtain ⟨x8,Af,Ag⟩:=ABm (AIz hp Aa);refine ACw rfl (AQt Af) fun Ak Am Ah Ai=>?_;subst Ai;refine ABq (ABt ?_);obtain rfl:=ABl Ag;exact ⟨_,ABu,(K0.e Ah).x,rfl⟩
end Go.Proofs.YtiegjkmfpcgjjaaGreatDoor
namespace Go.Proofs.YtiegjkmfpcgjjaaGreatDoor
open Go Go.QF
set_option maxRecDepth 100000
theorem Aiv {fuel:Nat} {x p r:Int} (hp:2<=p/\p<=2147483647) (h:AKs p (x % p) r):AVq fuel [[x]] p=some ([[r]],0):=by
 have hs:AH9 [[x]]=true:=decide_eq_true (by simp [AV1,Valid,ALf]);have hm:APy p=true:=decide_eq_true hp
 have hd:AZr [[x]] p=x % p:=by
   unfold AZr
   rw [hs,hm]
   simp only [Bool.and_self,if_true]
   have:det [[x]].length (ent [[x]])=x:=by
     show det 1 (ent [[x]])=x
     simp [det,ent,psum,sg]
   rw [this]
 unfold AVq AZd Ag2;rw [hs,hm,hd,if_pos ⟨rfl,rfl,r,h⟩,if_pos rfl,if_pos rfl,if_pos ⟨r,h⟩,Ag6 h]
 have:AKl [[x]].length (ent (AL6 [[x]] p)) 0 0=1:=by
   show AKl 1 _ 0 0=1
   simp [AKl,AVj,det,psum,sg,ADg,dl]
 have h3:tab [[x]].length [[x]].length (fun i j=>AKl [[x]].length (ent (AL6 [[x]] p)) i j * r % p)=[[r]]:=by
   show tab 1 1 (fun i j=>AKl 1 (ent (AL6 [[x]] p)) i j * r % p)=[[r]]
   have h4:AKl 1 (ent (AL6 [[x]] p)) 0 0 * r % p=r:=by
     rw [show AKl 1 (ent (AL6 [[x]] p)) 0 0=1 from this,Int.one_mul]
     exact Int.emod_eq_of_lt h.1 h.2.1
   simp [tab,h4]
 rw [h3]
theorem Auw:Pr 3:=⟨by omega,fun d h1 h2=>by
  obtain rfl:d=2:=by omega
  decide⟩
theorem Aux:Pr 5:=⟨by omega,fun d h1 h2=>by
  rcases (by omega:d=2∨d=3∨d=4) with rfl | rfl | rfl <;> decide⟩
theorem Aob (lim:Bool):AR8 [[1,0],[0,1]] 5 lim=0:=by
 have hr:isRed [[1,0],[0,1]]=true:=by
   unfold isRed
   rw [<- AGn (M:=[[1,0],[0,1]]) ⟨by decide,by decide,fun i j hi hj=>by
     have hi:i < 2:=hi
     have hj:j < 2:=hj
     rcases (by omega:i=0∨i=1) with rfl | rfl <;> rcases (by omega:j=0∨j=1) with rfl | rfl <;> decide⟩]
   decide +kernel
 have ho:APn 5=true:=(AUm ⟨by omega,by omega,Aux⟩).symm;unfold AR8;rw [if_pos hr,if_pos ⟨ho,by decide +kernel⟩,if_neg (fun h=>absurd h.2 (by decide))]
theorem Ate (lim:Bool):AR8 [[1,0,0],[0,1,0],[0,0,1]] 3 lim=0:=by
 have hr:isRed [[1,0,0],[0,1,0],[0,0,1]]=true:=by
   unfold isRed
   rw [<- AGn (M:=[[1,0,0],[0,1,0],[0,0,1]]) ⟨by decide,by decide,fun i j hi hj=>by
     have hi:i < 3:=hi
     have hj:j < 3:=hj
     rcases (by omega:i=0∨i=1∨i=2) with rfl | rfl | rfl <;> rcases (by omega:j=0∨j=1∨j=2) with rfl | rfl | rfl <;> decide⟩]
   decide +kernel
 have ho:APn 3=true:=(AUm ⟨by omega,by omega,Auw⟩).symm;unfold AR8;rw [if_pos hr,if_pos ⟨ho,by decide +kernel⟩,if_neg (fun h=>absurd h.2 (by decide))]
theorem Aoc {S E:Type} {body:S->Option (S ⊕ E)} {fuel:Nat} {s:S} {e:E} (h:body s=some (.inr e)):iter body (fuel + 1) s=some e:=by simp [iter,h]
theorem Auy:ANf (AEr + 1) [[1,0],[0,1]] 5=some ([[1,2],[1,3]],0):=by
 have hf:2147483648 < AEr + 1:=Nat.lt_of_le_of_lt (by decide) (Nat.lt_succ_self AEr);unfold ANf;rw [Aiu hf,Aob];simp only [Option.bind_some];rw [if_neg (by decide)];decide +kernel
theorem Auz:ALn (AEr + 1) [[1,0,0],[0,1,0],[0,0,1]] 3=some (4,0):=by
 have hf:2147483648 < AEr + 1:=Nat.lt_of_le_of_lt (by decide) (Nat.lt_succ_self AEr);unfold ALn;rw [Aiu hf,Ate];simp only [Option.bind_some];rw [if_neg (by decide)];decide +kernel
theorem Au0:AGd (AEr + 1) [[1,0],[0,1]] 5 [1,2]=some ([11,2],0):=by
 have hf:2147483648 < AEr + 1:=Nat.lt_of_le_of_lt (by decide) (Nat.lt_succ_self AEr);unfold AGd;have h1:AK2 (AEr + 1) [[1,0],[0,1]] 5 [1,2]=some true:=by decide +kernel
 have h2:AFe (AEr + 1) [[1,0],[0,1]] (w64 (5 * 5))=some ([[1,0],[0,1]],0):=by decide +kernel
 have h3:AJ4 (AEr + 1) [1,2]=some [1,2]:=by decide +kernel
 rw [ATd hf,Aob];simp only [Option.bind_some];rw [if_neg (by decide),h1];simp only [Option.bind_some];rw [if_neg (by decide),h2];simp only [Option.bind_some];rw [h3];simp only [Option.bind_some]
 have hb:ALo (AEr + 1) 5 [1,2] [[1,0],[0,1]] 0 [1,2]=some (.inr [11,2]):=by
   unfold ALo
   have g1:gI [[1,0],[0,1]] (0:Int)=some ([1,0]:List Int):=rfl
   have g2:AIj (AEr + 1) [1,0] [1,2] 5=some 1:=by decide +kernel
   have g3:AVq (AEr + 1) [[w64 (2 * 1)]] 5=some ([[3]],0):=Aiv (by omega) ⟨by omega,by omega,by decide⟩
   rw [if_pos (by decide),g1]
   simp only [Option.bind_some]
   rw [g2]
   simp only [Option.bind_some]
   rw [if_neg (by decide),g3]
   simp only [Option.bind_some]
   decide +kernel
 rw [Aoc hb];rfl
theorem Acj:ADs (AEr + 1)=some true:=by
 unfold ADs;rw [Auy];simp only [Option.bind_some];rw [Au0];simp only [Option.bind_some];rw [Auz];simp only [Option.bind_some];decide +kernel
def nqI (n:Nat) (A:Nat->Nat->Int) (v:Nat->Int) (i:Nat):Int:=psum (fun j=>A i j * v j) n
def nq (n:Nat) (A:Nat->Nat->Int) (v:Nat->Int) (m:Int):Int:=psum (fun i=>nqI n A v i * v i) n % m
theorem AXr {g:Nat->Int} {B:Int}:∀ {n:Nat},(∀ i,i < n->0<=g i/\g i<=B)->0<=psum g n/\psum g n<=n * B:=by
 intro n
 induction n with
 | zero=>intro _;simp [psum]
 | succ n ih=>
   intro h
   have h1:=ih fun i hi=>h i (by omega)
   have h2:=h n (by omega)
   show 0<=psum g n + g n/\psum g n + g n<=((n + 1:Nat):Int) * B
   rw [Int.natCast_add,Int.add_mul]
   omega
theorem Aiw {fuel n:Nat} {f v:Nat->Int} {m:Int} (hn:n<=8) (hm:2<=m) (Ac:m<=100000000) (hF:∀ i,i < n->0<=f i/\f i < 100000000) (hv:∀ i,i < n->0<=v i/\v i < 10000) (hf:100 < fuel):AIj fuel (ADx n f) (ADx n v) m=some (psum (fun i=>f i * v i) n % m):=by
 have hb:∀ i,i < n->0<=f i * v i/\f i * v i<=1000000000000:=fun i hi=>⟨Int.mul_nonneg (hF i hi).1 (hv i hi).1,by
   have:=Int.mul_le_mul (show f i<=100000000 by have:=hF i hi;omega) (show v i<=10000 by have:=hv i hi;omega) (hv i hi).1 (by omega)
   omega⟩
 apply ok_eq;unfold AIj;refine ABo (Q:=fun e=>e=psum (fun i=>f i * v i) n) (ACx (fun i s=>s=(psum (fun i=>f i * v i) i,(i:Int))/\i<=n) n ⟨rfl,Nat.zero_le _⟩ (by omega) fun i s hi hI=>?_) fun e he=>?_
 ·obtain ⟨rfl,h1⟩:=hI;unfold AOp;rw [ADb];refine AB5 (fun h=>?_) fun h=>ABi ?_
  ·have Aa:i < n:=by omega
   have h3:=hb i Aa;have h4:=AXr (n:=i) fun a ha=>hb a (by omega);refine AB6 (ACn Aa) rfl (AB6 (ACn Aa) rfl (ABi ⟨by omega,?_,by omega⟩));rw [AEv (x:=f i * v i) (by omega) (by omega),AEv (x:=psum (fun i=>f i * v i) i + f i * v i) (by omega) (by omega),AGv (by omega)];rfl
  ·obtain rfl:i=n:=by omega
   rfl
 ·subst he;have h4:=AXr (n:=n) hb;exact AEu (by omega) (ABi (Int.tmod_eq_emod_of_nonneg h4.1))
theorem Aix {fuel n:Nat} {A:Nat->Nat->Int} {v:Nat->Int} {m:Int} (hn:n<=8) (hm:2<=m) (Ad:m<=100000000) (hv:∀ i,i < n->0<=v i/\v i < 10000) (hf:100 < fuel):AJi fuel (tab n n fun i j=>A i j % m) (ADx n v) m=some (nq n A v m):=by
 have hin:∀ i,i < n->AIj fuel (ADx n fun j=>A i j % m) (ADx n v) m=some (nqI n A v i % m):=fun i hi=>by
   rw [Aiw hn hm Ad (fun j _=>⟨Int.emod_nonneg _ (by omega),by have:=Int.emod_lt_of_pos (A i j) (show 0 < m by omega);omega⟩) hv hf]
   exact congrArg some (Eqm.psum fun j _=>(Eqm.mod m (A i j)).mul (Eqm.refl m (v j)))
 have hb:∀ i,i < n->0<=nqI n A v i % m * v i/\nqI n A v i % m * v i<=1000000000000:=fun i hi=>by
   have h1:=Int.emod_nonneg (nqI n A v i) (show m≠0 by omega)
   have h2:=Int.emod_lt_of_pos (nqI n A v i) (show 0 < m by omega)
   refine ⟨Int.mul_nonneg h1 (hv i hi).1,?_⟩
   have:=Int.mul_le_mul (show nqI n A v i % m<=100000000 by omega) (show v i<=10000 by have:=hv i hi;omega) (hv i hi).1 (by omega)
   omega
 apply ok_eq;unfold AJi;refine ABo (Q:=fun e=>e=psum (fun i=>nqI n A v i % m * v i) n) (ACx (fun i s=>s=(psum (fun i=>nqI n A v i % m * v i) i,(i:Int))/\i<=n) n ⟨rfl,Nat.zero_le _⟩ (by omega) fun i s hi hI=>?_) fun e he=>?_
 ·obtain ⟨rfl,h1⟩:=hI;unfold APt;rw [ADb];refine AB5 (fun h=>?_) fun h=>ABi ?_
  ·have Aa:i < n:=by omega
   have h3:=hb i Aa;have h4:=AXr (n:=i) fun a ha=>hb a (by omega);refine AB6 (ACn Aa) rfl (AB6 (ADd Aa) rfl ?_);rw [hin i Aa];simp only [Option.bind_some];refine ABi ⟨by omega,?_,by omega⟩;rw [AEv (x:=nqI n A v i % m * v i) (by omega) (by omega),AEv (x:=psum (fun i=>nqI n A v i % m * v i) i + nqI n A v i % m * v i) (by omega) (by omega),AGv (by omega)];rfl
  ·obtain rfl:i=n:=by omega
   rfl
 ·subst he;have h4:=AXr (n:=n) hb;refine AEu (by omega) (ABi ?_);rw [Int.tmod_eq_emod_of_nonneg h4.1];exact Eqm.psum fun i _=>(Eqm.mod m _).mul (Eqm.refl m (v i))
theorem Ae3 {m S a b:Int} (hm:0 < m) (Ad:m<=100000000):Int.tmod (w64 (S % m + Int.tmod (w64 (a % m * (b % m))) m)) m=(S + a * b) % m:=by
 have h1:=Int.emod_nonneg a (show m≠0 by omega);have h2:=Int.emod_lt_of_pos a hm;have h3:=Int.emod_nonneg b (show m≠0 by omega);have h4:=Int.emod_lt_of_pos b hm;have h5:=Int.emod_nonneg S (show m≠0 by omega);have h6:=Int.emod_lt_of_pos S hm;have h7:=Int.mul_nonneg h1 h3;have h8:=Int.mul_le_mul (show a % m<=100000000 by omega) (show b % m<=100000000 by omega) h3 (by omega);rw [AEv (x:=a % m * (b % m)) (by omega) (by omega),Int.tmod_eq_emod_of_nonneg h7];have h9:=Int.emod_nonneg (a % m * (b % m)) (show m≠0 by omega);have Ak:=Int.emod_lt_of_pos (a % m * (b % m)) hm;rw [wk (by omega),Int.tmod_eq_emod_of_nonneg (by omega)];exact (Eqm.mod m S).add ((Eqm.mod m _).trans ((Eqm.mod m a).mul (Eqm.mod m b)))
theorem Aiy {fuel n:Nat} {A:Nat->Nat->Int} {v:Nat->Int} {m:Int} (hn:n<=8) (hm:0 < m) (Ab:m<=100000000) (hf:100 < fuel):AE3 fuel (tab n n A) (ADx n v) m=some (ADx n fun i=>nqI n A v i % m):=by
 unfold AE3;rw [Aqx (n:=n) (fun i=>nqI n A v i % m) (by omega) (fun i hi=>?_) fun X=>?_]
 ·rfl
 ·unfold AG9;rw [AC5,if_pos (by omega),AQu (ADd hi)]
  have:iter (fun s:Int × Int=>AG8 fuel (ADx n v) m (ADx n (A i)) s.1 s.2) fuel (0,0)=some (nqI n A v i % m):=by
    apply ok_eq
    refine ACx (fun j s=>s=(psum (fun j=>A i j * v j) j % m,(j:Int))/\j<=n) n ⟨by simp [psum],Nat.zero_le _⟩ (by omega) fun j s hj hI=>?_
    obtain ⟨rfl,h1⟩:=hI
    unfold AG8
    rw [ADb]
    refine AB5 (fun h=>?_) fun h=>ABi ?_
    · have Aa:j < n:=by omega
      refine AB6 (ACn Aa) rfl ?_
      rw [Ago hm (by omega)]
      simp only [Option.bind_some]
      refine AB6 (ACn Aa) rfl ?_
      rw [Ago hm (by omega)]
      simp only [Option.bind_some]
      rw [if_pos (by omega),if_pos (by omega)]
      refine ABi ⟨by omega,?_,by omega⟩
      rw [Ae3 hm Ab,AGv (by omega)]
      rfl
    · obtain rfl:j=n:=by omega
      rfl
  rw [this];simp only [Option.bind_some];rw [ADb,if_pos (by omega),AGv (by omega)]
 ·unfold AG9;rw [AC5,if_neg (by omega)]
theorem Aiz {fuel n:Nat} {A:Nat->Nat->Int} {v:Nat->Int} {m:Int} (hn:n<=8) (hm:0 < m) (Aa:m<=100000000) (hf:100 < fuel):AEl fuel (tab n n A) (ADx n v) m=some (nq n A v m):=by
 apply ok_eq;unfold AEl;rw [Aiy hn hm Aa hf];simp only [Option.bind_some];refine ABo (Q:=fun e=>e=nq n A v m) (ACx (fun j s=>s=(psum (fun i=>nqI n A v i * v i) j % m,(j:Int))/\j<=n) n ⟨by simp [psum],Nat.zero_le _⟩ (by omega) fun j s hj hI=>?_) fun e he=>ABi he;obtain ⟨rfl,h1⟩:=hI;unfold AJ5;rw [ADb];refine AB5 (fun h=>?_) fun h=>ABi ?_
 ·have Ab:j < n:=by omega
  refine AB6 (ACn Ab) rfl (AB6 (ACn Ab) rfl ?_);rw [Ago hm (by omega)];simp only [Option.bind_some];rw [if_pos (by omega),if_pos (by omega)];refine ABi ⟨by omega,?_,by omega⟩;rw [Ae3 hm Aa,AGv (by omega)];rfl
 ·obtain rfl:j=n:=by omega
  rfl
def InR (p:Int) (V:List Int):Prop:= ∀ x∈V,0<=x/\x < p
def APw:List Int->Int
  | []=>0
  | x :: L=>if x=0 then APw L else x
theorem AWp (x:Int):∀ L:List Int,APw (L ++ [x])=if APw L=0 then x else APw L
  | []=>by by_cases h:x=0 <;> simp [APw,h]
  | y :: L=>by
    have ih:=AWp x L
    show (if y=0 then APw (L ++ [x]) else y)=if (if y=0 then APw L else y)=0 then x else (if y=0 then APw L else y)
    by_cases h:y=0
    · simp only [if_pos h,ih]
    · simp only [if_neg h]
theorem Ae4 {body:Int × Int->Option ((Int × Int) ⊕ (Bool ⊕ Int))} {fuel:Nat} {V:List Int} {p:Int} (hl:V.length<=90) (hf:100 < fuel) (hb:∀ a b,body (a,b)=if b < (V.length:Int) then ((gI V b).bind fun x=>(((if x < 0 then some (.inl false) else (if p<=x then some (.inl false) else some (.inr ()))):Option (Bool ⊕ Unit)).bind fun ex=>match ex with | .inl e=>some (.inr (.inl e)) | .inr _=>(if a=0 then some (.inl (x,w64 (b + 1))) else some (.inl (a,w64 (b + 1)))))) else some (.inr (.inr a))):
    Ok (iter body fuel (0,0)) fun ex=>(ex= .inl false/\¬ InR p V)∨(ex= .inr (APw V)/\InR p V):=by
 refine ACx (fun i s=>s=(APw (V.take i),(i:Int))/\i<=V.length/\InR p (V.take i)) V.length ⟨rfl,Nat.zero_le _,fun x hx=>by simp at hx⟩ (by omega) fun i s hi hI=>?_;obtain ⟨rfl,h1,h2⟩:=hI;rw [hb];refine AB5 (fun h=>?_) fun h=>ABi ?_
 ·have Ac:i < V.length:=by omega
  have hx:V[i]? =some V[i]:=List.getElem?_eq_getElem Ac;have ht:V.take (i + 1)=V.take i ++ [V[i]]:=(List.take_append_getElem Ac).symm;refine AB6 hx rfl ?_;generalize V[i]=x at hx ht;have hw:w64 ((i:Int) + 1)=((i + 1:Nat):Int):=AGv (by omega);by_cases h3:0<=x/\x < p
  ·rw [if_neg (by omega),if_neg (by omega)];simp only [Option.bind_some]
   have hr:InR p (V.take (i + 1)):=fun y hy=>by
     rw [ht,List.mem_append,List.mem_singleton] at hy
     rcases hy with hy | rfl
     · exact h2 y hy
     · exact h3
   refine AB5 (fun h4=>ABi ⟨by omega,?_,by omega,hr⟩) fun h4=>ABi ⟨by omega,?_,by omega,hr⟩
   ·rw [ht,AWp,if_pos h4,hw]
   ·rw [ht,AWp,if_neg h4,hw]
  ·have hno: ¬ InR p V:=fun hh=>h3 (hh x (List.mem_of_getElem? hx));by_cases h4:x < 0
   ·rw [if_pos h4];exact ABi (.inl ⟨rfl,hno⟩)
   ·rw [if_neg h4,if_pos (by omega)];exact ABi (.inl ⟨rfl,hno⟩)
 ·obtain rfl:i=V.length:=by omega
  rw [List.take_length] at h2 ⊢;exact .inr ⟨rfl,h2⟩
def vF (V:List Int) (i:Nat):Int:=V[i]?.getD 0
theorem Ack (V:List Int):ADx V.length (vF V)=V:=by
 refine List.ext_getElem (by rw [ADb]) fun i h1 h2=>?_;have:=ACn (f:=vF V) h2;rw [List.getElem?_eq_getElem h1] at this;injection this with this;rw [this];simp [vF,h2]
theorem Ai0 {p:Int} {V:List Int} (h:InR p V) {i:Nat} (hi:i < V.length):0<=vF V i/\vF V i < p:=h _ (by simp [vF,hi])
def Acl (M:List (List Int)) (p:Int) (V:List Int):Prop:=V.length=M.length/\InR p V/\APw V=1/\nq M.length (ent M) (vF V) p=0
open Classical in
noncomputable def ARf (M:List (List Int)) (p:Int) (V:List Int):Bool:=decide (Acl M p V)
theorem Acm {M:List (List Int)} {p:Int} {V:List Int} (h:Acl M p V):true=ARf M p V:=by simp [ARf,h]
theorem ASa {M:List (List Int)} {p:Int} {V:List Int} (h: ¬ Acl M p V):false=ARf M p V:=by simp [ARf,h]
theorem Ai1 {M:List (List Int)} {p:Int} {V:List Int} (h:ARf M p V=true):Acl M p V:=by simpa [ARf] using h
theorem Aod {fuel:Nat} {M:List (List Int)} {m:Int} (R:ATa M) (hm:2<=m) (Aa:m<=2147483647) (hf:100 < fuel):AFe fuel M m=some (tab M.length M.length fun i j=>ent M i j % m,0):=by
 have hM:=ARb R;unfold AFe AEw;have h1:AHu fuel M=some true:=by rw [hM];exact Ae0 R.1.1 R.1.2 hf
 have h2:AF6 fuel M m=some (tab M.length M.length fun i j=>ent M i j % m):=by
   conv=>lhs;rw [hM]
   exact An5 R.1.2 hm Aa hf
 rw [h1];simp only [Option.bind_some];rw [if_neg (by decide),if_neg (by omega),if_neg (by omega)];simp only [Option.bind_some];rw [if_neg (by decide),h2];rfl
theorem Ae5 {fuel:Nat} {M:List (List Int)} {p:Int} {V:List Int} (R:ATa M) (hp:3<=p) (Ad:p<=9973) (hf:100 < fuel):AK2 fuel M p V=some (ARf M p V):=by
 apply ok_eq;unfold AK2;have h8:=R.1.2;refine AB5 (fun h=>ABi (ASa fun hh=>h (by rw [hh.1]))) fun h=>?_;have hl:V.length=M.length:=by omega
 refine ABo (Ae4 (V:=V) (p:=p) (by omega) hf fun a b=>rfl) fun ex hex=>?_;rcases hex with ⟨rfl,hn⟩ | ⟨rfl,hr⟩
 ·exact ABi (ASa fun hh=>hn hh.2.1)
 ·dsimp only;rw [Aod R (by omega) (by omega) hf];simp only [Option.bind_some];refine AB5 (fun h1=>?_) fun h1=>ABi (ASa fun hh=>h1 hh.2.2.1);have hV:V=ADx M.length (vF V):=by rw [<- hl];exact (Ack V).symm
  have hn:AJi fuel (tab M.length M.length fun i j=>ent M i j % p) V p=some (nq M.length (ent M) (vF V) p):=by
    conv=>lhs;rw [hV]
    exact Aix h8 (by omega) (by omega) (fun i hi=>by have:=Ai0 hr (i:=i) (by omega);omega) hf
  rw [hn];simp only [Option.bind_some];refine ABi ?_;by_cases h0:nq M.length (ent M) (vF V) p=0
  ·rw [decide_eq_true h0];exact Acm ⟨hl,hr,h1,h0⟩
  ·rw [decide_eq_false h0];exact ASa fun hh=>h0 hh.2.2.2
theorem ASb {fuel:Nat} {M:List (List Int)} {p:Int} {V:List Int} (R:ATa M) (hp:3<=p) (Ad:p<=9973) (hf:100 < fuel):AEg fuel M p V=some (ARf M p V):=by
 apply ok_eq;unfold AEg;have h8:=R.1.2;refine AB5 (fun h=>ABi (ASa fun hh=>h (by rw [hh.1]))) fun h=>?_;have hl:V.length=M.length:=by omega
 refine ABo (Ae4 (V:=V) (p:=p) (by omega) hf fun a b=>rfl) fun ex hex=>?_;rcases hex with ⟨rfl,hn⟩ | ⟨rfl,hr⟩
 ·exact ABi (ASa fun hh=>hn hh.2.1)
 ·dsimp only;refine AB5 (fun h1=>?_) fun h1=>ABi (ASa fun hh=>h1 hh.2.2.1);have hV:V=ADx M.length (vF V):=by rw [<- hl];exact (Ack V).symm
  have hn:AEl fuel M V p=some (nq M.length (ent M) (vF V) p):=by
    conv=>lhs;rw [hV,ARb R]
    rw [AC5]
    exact Aiz h8 (by omega) (by omega) hf
  rw [hn];simp only [Option.bind_some];refine ABi ?_;by_cases h0:nq M.length (ent M) (vF V) p=0
  ·rw [decide_eq_true h0];exact Acm ⟨hl,hr,h1,h0⟩
  ·rw [decide_eq_false h0];exact ASa fun hh=>h0 hh.2.2.2
open Classical in
theorem Ae6 {fuel:Nat} {M:List (List Int)} {p:Int} (R:ATa M) (hf:100 < fuel):Ok (AGe fuel M p) fun b=>b=true↔APn p=true/\det M.length (ent M) % p≠0:=by
  unfold AGe Ab3;simp only [Option.bind_some];refine AB5 (fun h=>?_) fun h=>ABi ⟨fun hh=>(by cases hh),fun hh=>absurd hh.1 h⟩;have hb:=AVs h;have hd:=AZb R;rw [Akf R hf];simp only [Option.bind_some];refine AEu (by omega) (ABi ?_);rw [decide_eq_true_iff,Int.tmod_eq_emod_of_nonneg (by omega)];exact ⟨fun hh=>⟨h,hh⟩,fun hh=>hh.2⟩
theorem Ae7 {fuel n:Nat} {p:Int} (hp:2<=p) (Aa:p<=9973) (hn:n<=16) (hf:100 < fuel):AFk fuel (n:Int) p=some (decide (p ^ n<=65536)):=by
 apply ok_eq;unfold AFk;refine ABo (Ae2 (n:=n) (x:=false) hp Aa hn hf fun a b=>rfl) fun ex hex=>?_;rcases hex with ⟨rfl,h⟩ | ⟨rfl,h⟩
 ·exact ABi (decide_eq_false (by omega)).symm
 ·exact ABi (decide_eq_true h).symm
theorem AZf {fuel:Nat} {M:List (List Int)} {p:Int} {lim:Bool} (hM:Ach M) (hf:100 < fuel):AGl fuel M p lim=some (AR8 M p lim):=by
 apply ok_eq;unfold AGl AR8;rw [Agz hM hf];simp only [Option.bind_some]
 cases hr:isRed M with
 | false=>exact ABi (by simp)
 | true=>
   have R:=(ARa M).1 hr
   rw [if_neg (by decide),if_pos rfl]
   refine ABo (Ae6 (p:=p) R hf) fun b hb=>?_
   refine AB5 (fun h=>ABi ?_) fun h=>?_
   · rw [if_neg (fun hh=>by rw [hb.2 hh] at h;cases h)]
   · have hg:=hb.1 (by cases b with | true=>rfl | false=>exact absurd rfl h)
     rw [if_pos hg]
     have ho:=AVs hg.1
     have h8:=R.1.2
     refine AB5 (fun hl=>?_) fun hl=>ABi (by rw [if_neg (fun hh=>hl hh.1)])
     rw [Ae7 (by omega) ho.2 (by omega) hf]
     simp only [Option.bind_some]
     refine AB5 (fun h5=>ABi ?_) fun h5=>ABi ?_
     · rw [if_pos ⟨hl,by simpa using h5⟩]
     · rw [if_neg (fun hh=>h5 (by simpa using hh.2))]
end Go.Proofs.YtiegjkmfpcgjjaaGreatDoor
namespace Go.Proofs.YtiegjkmfpcgjjaaGreatDoor
open Go Go.QF
def Qf (n:Nat) (A:Nat->Nat->Int) (v:Nat->Int):Int:=psum (fun i=>nqI n A v i * v i) n
def ASc (v:Nat->Int) (i:Nat) (x:Int):Nat->Int:=fun j=>if j=i then v j + x else v j
theorem Ai2 {n i a:Nat} {A:Nat->Nat->Int} {v:Nat->Int} {x:Int} (hi:i < n):nqI n A (ASc v i x) a=nqI n A v a + A a i * x:=by
 unfold nqI;rw [AS7 (f:=fun j=>A a j * v j) (a:=i) hi (fun j hj=>by simp only [ASc,if_neg hj])];simp only [ASc,if_true];rw [Int.mul_add];omega
theorem Atf {n i:Nat} {A:Nat->Nat->Int} {v:Nat->Int} {x:Int} (hA:∀ a b,a < n->b < n->A a b=A b a) (hi:i < n):Qf n A (ASc v i x)=Qf n A v + 2 * x * nqI n A v i + x * x * A i i:=by
 unfold Qf
 have h1:psum (fun a=>nqI n A (ASc v i x) a * ASc v i x a) n=psum (fun a=>(nqI n A v a + A a i * x) * v a) n + ((nqI n A v i + A i i * x) * (v i + x) - (nqI n A v i + A i i * x) * v i):=by
   rw [AS7 (f:=fun a=>(nqI n A v a + A a i * x) * v a) (a:=i) hi (fun a ha=>by simp only [Ai2 hi,ASc,if_neg ha])]
   simp only [Ai2 hi,ASc,if_true]
 have h2:psum (fun a=>(nqI n A v a + A a i * x) * v a) n=psum (fun a=>nqI n A v a * v a) n + x * nqI n A v i:=by
   rw [ABx (g:=fun a=>nqI n A v a * v a + x * (A i a * v a)) (fun a ha=>by rw [hA a i ha hi];grind),ALl,ADw]
   rfl
 rw [h1,h2];grind
theorem Ai3 {n:Nat} {A:Nat->Nat->Int} {v:Nat->Int} {m:Int}:nq n A v m=Qf n A v % m:=rfl
theorem Aoe {n:Nat} {A:Nat->Nat->Int} {p:Int} {V:List Int} (hp:Pr p) (hd:det n A % p≠0) (hl:V.length=n) (hr:InR p V) (h1:APw V=1):∃ i,i < n/\nqI n A (vF V) i % p≠0:=by
  refine Classical.byContradiction fun hno=>?_
  have h0:∀ i,i < n->Eqm p (nqI n A (vF V) i) 0:=fun i hi=>by
    refine Classical.byContradiction fun hh=>hno ⟨i,hi,fun h2=>hh ?_⟩;show _ % p=0 % p;rw [h2];simp
  have h2:∀ l,l < n->Eqm p (det n A * vF V l) 0:=fun l hl=>by
    have e1:psum (fun i=>AKl n A l i * nqI n A (vF V) i) n=det n A * vF V l:=by
      have:psum (fun i=>AKl n A l i * nqI n A (vF V) i) n=psum (fun j=>psum (fun i=>AKl n A l i * A i j) n * vF V j) n:=by
        unfold nqI;rw [ABx (g:=fun i=>psum (fun j=>AKl n A l i * A i j * vF V j) n) (fun i _=>by rw [<- ADw];exact ABx fun j _=>by rw [Int.mul_assoc]),AMv];refine ABx fun j _=>?_;rw [Int.mul_comm,<- ADw];exact ABx fun i _=>by rw [Int.mul_comm]
      rw [this,ABx (g:=fun j=>det n A * dl l j * vF V j) (fun j hj=>by rw [Aee hl hj]),AF0 (a:=l) hl (fun j hj=>by unfold dl;rw [if_neg (fun h=>hj h.symm)];simp)];simp [dl]
    rw [<- e1];have:=Eqm.psum (m:=p) (n:=n) (f:=fun i=>AKl n A l i * nqI n A (vF V) i) (g:=fun i=>AKl n A l i * 0) fun i hi=>(Eqm.refl p _).mul (h0 i hi);refine this.trans (Eqm.of_eq ?_);rw [ABx (g:=fun _=>(0:Int)) (fun _ _=>by simp),ANr]
  have hp2:=hp.1
  have h3:∀ l,l < n->vF V l=0:=fun l hln=>by
    have hb:=Ai0 hr (i:=l) (by omega);refine Classical.byContradiction fun hne=>?_;have hd1:=Int.emod_nonneg (det n A) (show p≠0 by omega);have hd2:=Int.emod_lt_of_pos (det n A) (show 0 < p by omega);have:=Aa4 hp (a:=det n A % p) (x:=vF V l) (by omega) hd2 (by omega) hb.2;exact this (by have:=((Eqm.mod p (det n A)).mul (Eqm.refl p (vF V l))).trans (h2 l hln);exact Eqm.zero this)
  have h4:∀ W:List Int,(∀ x∈W,x=0)->APw W=0:=by
    intro W;induction W with
    | nil=>intro _;rfl
    | cons y W ih=>intro hw;show (if y=0 then APw W else y)=0;rw [if_pos (hw y (List.mem_cons_self ..))];exact ih fun x hx=>hw x (List.mem_cons_of_mem _ hx)
  have h5:APw V=0:=h4 V fun x hx=>by
    obtain ⟨i,hi⟩:=List.getElem?_of_mem hx;have hil:=(List.getElem?_eq_some_iff.1 hi).1;have:=h3 i (by omega);simpa [vF,hi] using this
  omega
theorem AW1 {p c s t k:Int} (hp:Pr p) (h2:2 < p) (hs:s % p≠0) (ht:0<=t/\t < p) (hk:0<=k/\k < p) (h:(c + 2 * t * s) % p=0) (h':(c + 2 * k * s) % p=0):k=t:=by
  have e:Eqm p (t * (2 * s)) (k * (2 * s)):=by
    have a1:Eqm p (c + 2 * t * s) (c + 2 * k * s):=h.trans h'.symm;have a2:=a1.sub (Eqm.refl p c);have b1:c + 2 * t * s - c=t * (2 * s):=by grind
    have b2:c + 2 * k * s - c=k * (2 * s):=by grind
    rwa [b1,b2] at a2
  have hs1:=Int.emod_nonneg s (show p≠0 by omega);have hs2:=Int.emod_lt_of_pos s (show 0 < p by omega)
  have h2s:2 * (s % p) % p≠0:=by
    have:=Aa4 hp (a:=2) (x:=s % p) (by omega) h2 (by omega) hs2;exact this
  have hz1:=Int.emod_nonneg (2 * (s % p)) (show p≠0 by omega);have hz2:=Int.emod_lt_of_pos (2 * (s % p)) (show 0 < p by omega);have hm:Eqm p (2 * (s % p) % p) (2 * s):=(Eqm.mod p _).trans ((Eqm.refl p 2).mul (Eqm.mod p s));have e2:t * (2 * (s % p) % p) % p=k * (2 * (s % p) % p) % p:=((Eqm.refl p t).mul hm).trans (e.trans ((Eqm.refl p k).mul hm).symm);have:=cancel hp (by omega) hz2 e2;rw [Int.emod_eq_of_lt ht.1 ht.2,Int.emod_eq_of_lt hk.1 hk.2] at this;exact this.symm
theorem Aki {n i:Nat} {A:Nat->Nat->Int} {v:Nat->Int} {p k:Int} (hp:0 < p) (hA:∀ a b,a < n->b < n->A a b=A b a) (hi:i < n) (h0:nq n A v p=0):nq n A (ASc v i (p * k)) (p * p)=p * ((nq n A v (p * p) / p + 2 * k * nqI n A v i) % p):=by
  rw [Ai3,Ai3,Atf hA hi];rw [Ai3] at h0;obtain ⟨q,hq⟩:=Int.dvd_of_emod_eq_zero h0;have e1:Qf n A v % (p * p)=p * (q % p):=by rw [hq,Int.mul_emod_mul_of_pos _ _ hp]
  rw [e1,Int.mul_ediv_cancel_left _ (by omega),hq];have e2:p * q + 2 * (p * k) * nqI n A v i + p * k * (p * k) * A i i=p * (q + 2 * k * nqI n A v i + p * (k * k * A i i)):=by grind
  rw [e2,Int.mul_emod_mul_of_pos _ _ hp];congr 1
  have e3:Eqm p (q + 2 * k * nqI n A v i + p * (k * k * A i i)) (q % p + 2 * k * nqI n A v i):=by
    have a1:Eqm p (p * (k * k * A i i)) 0:=by show _ % p=0 % p;simp
    have a2:=((Eqm.mod p q).symm.add (Eqm.refl p (2 * k * nqI n A v i))).add a1;rwa [Int.add_zero] at a2
  exact e3
end Go.Proofs.YtiegjkmfpcgjjaaGreatDoor
namespace Go.Proofs.YtiegjkmfpcgjjaaGreatDoor
open Go Go.QF
set_option maxRecDepth 100000
def Ae8 (M:List (List Int)) (p:Int) (V W:List Int):Prop:= ∃ (i:Nat) (t:Int),i < M.length/\(∀ a,a < i->nqI M.length (ent M) (vF V) a % p=0)/\nqI M.length (ent M) (vF V) i % p≠0/\(0<=t/\t < p)/\(nq M.length (ent M) (vF V) (p * p) / p + 2 * t * nqI M.length (ent M) (vF V) i) % p=0/\W=ADx M.length (ASc (vF V) i (p * t))
theorem Acn {M:List (List Int)} {p:Int} {V W W':List Int} (hp:Pr p) (h2:2 < p) (h:Ae8 M p V W) (h':Ae8 M p V W'):W=W':=by
 obtain ⟨i,t,h1,h3,h4,h5,h6,rfl⟩:=h;obtain ⟨k,u,g1,g3,g4,g5,g6,rfl⟩:=h'
 have:i=k:=by
   rcases Nat.lt_trichotomy i k with hh | hh | hh
   · exact absurd (g3 i hh) h4
   · exact hh
   · exact absurd (h3 k hh) g4
 subst this;rw [AW1 hp h2 h4 h5 g5 h6 g6]
theorem Ae9 {M:List (List Int)} {p:Int} {V:List Int} (h:Acl M p V):V=ADx M.length (vF V):=by rw [<- h.1];exact (Ack V).symm
theorem Aof {n i:Nat} {A:Nat->Nat->Int} {v:Nat->Int} {p:Int}:psum (fun j=>A i j % (p * p) * v j) n % p=nqI n A v i % p:=by
 refine Eqm.psum fun j _=>Eqm.mul ?_ (Eqm.refl p (v j));show A i j % (p * p) % p=A i j % p;exact Int.emod_emod_of_dvd _ ⟨p,rfl⟩
theorem Aog {p:Int} (h3:3<=p) (h:p<=9973):9<=p * p/\p * p<=99460729:=by
 have h1:=Int.mul_le_mul h h (by omega) (by omega);have h2:=Int.mul_le_mul h3 h3 (by omega) (by omega);omega
theorem Aoh {p c s r:Int} (hp:2 < p) (hr:r * (2 * (s % p) % p) % p=1 % p):(c + 2 * ((p - c) * r % p) * s) % p=0:=by
  have e1:Eqm p (r * (2 * s)) 1:=((Eqm.refl p r).mul ((Eqm.refl p 2).mul (Eqm.mod p s) |>.symm.trans (Eqm.mod p _).symm)).trans hr
  have e2:Eqm p (2 * ((p - c) * r % p) * s) ((p - c) * (r * (2 * s))):=by
    have a1:=((Eqm.refl p 2).mul (Eqm.mod p ((p - c) * r))).mul (Eqm.refl p s);refine a1.trans (Eqm.of_eq ?_);grind
  have e3:Eqm p ((p - c) * (r * (2 * s))) ((p - c) * 1):=(Eqm.refl p (p - c)).mul e1;have e4:=(Eqm.refl p c).add (e2.trans e3);refine Eqm.zero (e4.trans ?_);have:c + (p - c) * 1=p:=by omega
  rw [this];show p % p=0 % p;simp
theorem Aqy {fuel:Nat} {M:List (List Int)} {p:Int} {V:List Int} (h0:AR8 M p false=0) (hV:Acl M p V) (hf:2147483648 < fuel):Ok (AGd fuel M p V) fun r=>r.2=0/\Ae8 M p V r.1:=by
 obtain ⟨R,⟨Ag,Ab⟩,ho,hd,-⟩:=Atd h0;have hpr:=(AVi ho).2.2;have h8:=R.1.2;have hsq:=Aog Ag Ab;have hw:w64 (p * p)=p * p:=wk (by omega);have hv:∀ i,i < M.length->0<=vF V i/\vF V i < 10000:=fun i hi=>by have:=Ai0 hV.2.1 (i:=i) (by rw [hV.1];exact hi);omega
 unfold AGd;rw [ATd hf,h0];simp only [Option.bind_some];rw [if_neg (by decide),Ae5 R Ag Ab (by omega),<- Acm hV];simp only [Option.bind_some];rw [if_neg (by decide),hw,Aod R (by omega) (by omega) (by omega)];simp only [Option.bind_some];have hcl:AJ4 fuel V=some V:=if_pos (by have:=hV.1;omega);rw [hcl];simp only [Option.bind_some];refine ABo (Q:=fun e=>Ae8 M p V e) (ACx (fun i s=>s=((i:Int),V)/\i<=M.length/\ ∀ a,a < i->nqI M.length (ent M) (vF V) a % p=0) M.length ⟨rfl,Nat.zero_le _,fun a ha=>absurd ha (Nat.not_lt_zero _)⟩ (by omega) fun i s hi hI=>?_) fun e he=>ABi ⟨rfl,he⟩;obtain ⟨rfl,h1,h2⟩:=hI;unfold ALo;rw [AC5];refine AB5 (fun h=>?_) fun h=>?_
 ·have Ad:i < M.length:=by omega
  refine AB6 (ADd Ad) rfl ?_
  have hin:AIj fuel (ADx M.length fun j=>ent M i j % (p * p)) V p=some (nqI M.length (ent M) (vF V) i % p):=by
    conv=>lhs;rw [Ae9 hV]
    rw [Aiw h8 (by omega) (by omega) (fun j _=>⟨Int.emod_nonneg _ (by omega),by have:=Int.emod_lt_of_pos (ent M i j) (show 0 < p * p by omega);omega⟩) hv (by omega),Aof]
  rw [hin];simp only [Option.bind_some];refine AB5 (fun hz=>ABi ⟨by omega,by rw [AGv (by omega)],by omega,fun a ha=>?_⟩) fun hz=>?_
  ·rcases Nat.lt_or_ge a i with h5 | h5
   ·exact h2 a h5
   ·obtain rfl:a=i:=by omega
    exact hz
  ·generalize hs:nqI M.length (ent M) (vF V) i=s at hz hin;have Aw:=Int.emod_nonneg s (show p≠0 by omega);have Ao:=Int.emod_lt_of_pos s (show 0 < p by omega);have h2s:2 * (s % p) % p≠0:=Aa4 hpr (a:=2) (x:=s % p) (by omega) (by omega) (by omega) Ao;have Ax:=Int.emod_nonneg (2 * (s % p)) (show p≠0 by omega);have Ap:=Int.emod_lt_of_pos (2 * (s % p)) (show 0 < p by omega);obtain ⟨r,hr⟩:=AU1 hpr (x:=2 * (s % p) % p) (by omega) Ap;rw [AEv (x:=2 * (s % p)) (by omega) (by omega),Aiv (fuel:=fuel) ⟨by omega,by omega⟩ hr];simp only [Option.bind_some]
   have hno:AJi fuel (tab M.length M.length fun i j=>ent M i j % (p * p)) V (p * p)=some (nq M.length (ent M) (vF V) (p * p)):=by
     conv=>lhs;rw [Ae9 hV]
     exact Aix h8 (by omega) (by omega) hv (by omega)
   rw [hw,hno];simp only [Option.bind_some];rw [if_pos (by omega)];refine AB6 (n:=0) (x:=[r]) rfl rfl (AB6 (n:=0) (x:=r) rfl rfl ?_);rw [if_pos (by omega)];have hVi:V[i]? =some (vF V i):=by have:=hV.1;simp [vF,show i < V.length by omega]
   refine AB6 hVi rfl (ABi ?_);have Ae:=Int.emod_nonneg (Qf M.length (ent M) (vF V)) (show p * p≠0 by omega);have Aj:=Int.emod_lt_of_pos (Qf M.length (ent M) (vF V)) (show 0 < p * p by omega);rw [<- Ai3] at Ae Aj;have Aq:0<=nq M.length (ent M) (vF V) (p * p) / p:=Int.ediv_nonneg Ae (by omega);have Ar:nq M.length (ent M) (vF V) (p * p) / p < p:=Int.ediv_lt_of_lt_mul (by omega) Aj;rw [Int.tdiv_eq_ediv_of_nonneg Ae];generalize hc:nq M.length (ent M) (vF V) (p * p) / p=c at Aq Ar;rw [AEv (x:=c) (by omega) (by omega),AEv (x:=p - c) (by omega) (by omega)];have Ak:=hr.1;have Ay:=hr.2.1;have Au:0<=(p - c) * r:=Int.mul_nonneg (by omega) Ak;have Az:=Int.mul_le_mul (show p - c<=9973 by omega) (show r<=9973 by omega) Ak (by omega);rw [AEv (x:=(p - c) * r) (by omega) (by omega),Int.tmod_eq_emod_of_nonneg Au];have Aa:=Int.emod_nonneg ((p - c) * r) (show p≠0 by omega);have Am:=Int.emod_lt_of_pos ((p - c) * r) (show 0 < p by omega);have htp:=Aoh (c:=c) (by omega) hr.2.2;generalize (p - c) * r % p=t at Aa Am htp;have A3:0<=p * t:=Int.mul_nonneg (by omega) Aa;have A4:=Int.mul_le_mul Ab (show t<=9973 by omega) Aa (by omega);have hvi:=hv i Ad;rw [AEv (x:=p * t) (by omega) (by omega),AEv (x:=vF V i + p * t) (by omega) (by omega)];refine ⟨i,t,Ad,h2,by rw [hs];exact hz,⟨Aa,Am⟩,by rw [hc,hs];exact htp,?_⟩
   have hset:∀ x,sI V (i:Int) x=ADx M.length fun c=>if c=i then x else vF V c:=fun x=>by
     conv=>lhs;rw [Ae9 hV]
     rw [ADz,AE4]
   rw [hset]
   exact ACv fun j _=>by
     unfold ASc
     by_cases hj:j=i
     · subst hj;simp
     · simp [hj]
 ·obtain ⟨a,ha,hne⟩:=Aoe hpr hd hV.1 hV.2.1 hV.2.2.1;exact absurd (h2 a (by omega)) hne
theorem Aqz {fuel:Nat} {M:List (List Int)} {p:Int} {V:List Int} (hM:Ach M) (h0:AR8 M p false=0) (hV:Acl M p V) (hf:2147483648 < fuel):Ok (AD1 fuel M p V) fun r=>r.2=0/\Ae8 M p V r.1:=by
 obtain ⟨R,⟨Ae,Ac⟩,ho,hd,-⟩:=Atd h0;have hpr:=(AVi ho).2.2;have h8:=R.1.2;have hsq:=Aog Ae Ac;have hw:w64 (p * p)=p * p:=wk (by omega);have hA:∀ a b,a < M.length->b < M.length->ent M a b=ent M b a:=fun a b ha hb=>R.2.2.sym a b ha hb;unfold AD1;rw [AZf hM (by omega),h0];simp only [Option.bind_some];rw [if_neg (by decide),ASb R Ae Ac (by omega),<- Acm hV];simp only [Option.bind_some];rw [if_neg (by decide)]
 have him:AE3 fuel M V p=some (ADx M.length fun i=>nqI M.length (ent M) (vF V) i % p):=by
   conv=>lhs;rw [Ae9 hV,ARb R]
   rw [AC5]
   exact Aiy h8 (by omega) (by omega) (by omega)
 refine ABo (Q:=fun e:Int=> ∃ i:Nat,e=i/\i < M.length/\(∀ a,a < i->nqI M.length (ent M) (vF V) a % p=0)/\nqI M.length (ent M) (vF V) i % p≠0) (ACx (fun i s=>s=(i:Int)/\i<=M.length/\ ∀ a,a < i->nqI M.length (ent M) (vF V) a % p=0) M.length ⟨rfl,Nat.zero_le _,fun a ha=>absurd ha (Nat.not_lt_zero _)⟩ (by omega) fun i s hi hI=>?_) fun e he=>?_
 ·obtain ⟨rfl,h1,h2⟩:=hI
  have Aa:i < M.length:=by
    refine Nat.lt_of_le_of_ne h1 fun hh=>?_
    obtain ⟨a,ha,hne⟩:=Aoe hpr hd hV.1 hV.2.1 hV.2.2.1
    exact hne (h2 a (by omega))
  unfold AJ7;rw [him];simp only [Option.bind_some];refine AB6 (ACn Aa) rfl (AB5 (fun hz=>ABi ⟨Aa,AGv (by omega),Aa,fun a ha=>?_⟩) fun hz=>ABi ⟨i,rfl,Aa,h2,hz⟩);rcases Nat.lt_or_ge a i with h5 | h5
  ·exact h2 a h5
  ·obtain rfl:a=i:=by omega
   exact hz
 ·obtain ⟨i,rfl,Aa,h2,hz⟩:=he;rw [if_pos (by have:=hV.1;omega)]
  have ⟨t,ht,hts⟩:∃ t,(0<=t/\t < p)/\(nq M.length (ent M) (vF V) (p * p) / p + 2 * t * nqI M.length (ent M) (vF V) i) % p=0:=by
    have Aq:=Int.emod_nonneg (nqI M.length (ent M) (vF V) i) (show p≠0 by omega)
    have Aj:=Int.emod_lt_of_pos (nqI M.length (ent M) (vF V) i) (show 0 < p by omega)
    have h2s:=Aa4 hpr (a:=2) (x:=nqI M.length (ent M) (vF V) i % p) (by omega) (by omega) (by omega) Aj
    have Ar:=Int.emod_nonneg (2 * (nqI M.length (ent M) (vF V) i % p)) (show p≠0 by omega)
    have Ak:=Int.emod_lt_of_pos (2 * (nqI M.length (ent M) (vF V) i % p)) (show 0 < p by omega)
    obtain ⟨r,hr⟩:=AU1 hpr (x:=2 * (nqI M.length (ent M) (vF V) i % p) % p) (by omega) Ak
    exact ⟨_,⟨Int.emod_nonneg _ (by omega),Int.emod_lt_of_pos _ (by omega)⟩,Aoh (by omega) hr.2.2⟩
  have hvi:=Ai0 hV.2.1 (i:=i) (by rw [hV.1];exact Aa);refine ABo (Q:=fun e=>e=ADx M.length (ASc (vF V) i (p * t))) (ACx (fun k s=>s=ADx M.length (ASc (vF V) i (p * k))/\(k:Int)<=t) t.toNat ⟨?_,by omega⟩ (by omega) fun k s hk hI=>?_) fun e he=>ABi ⟨rfl,i,t,Aa,h2,hz,ht,hts,he⟩
  ·conv=>lhs;rw [Ae9 hV]
   exact ACv fun j _=>by unfold ASc;simp
  ·obtain ⟨rfl,hkt⟩:=hI;unfold AJ6
   have hno:AEl fuel M (ADx M.length (ASc (vF V) i (p * k))) (p * p)=some (nq M.length (ent M) (ASc (vF V) i (p * k)) (p * p)):=by
     conv=>lhs;rw [ARb R]
     rw [AC5]
     exact Aiz h8 (by omega) (by omega) (by omega)
   rw [hw,hno,Aki (by omega) hA Aa hV.2.2.2];simp only [Option.bind_some];have Au:=Int.emod_nonneg (nq M.length (ent M) (vF V) (p * p) / p + 2 * (k:Int) * nqI M.length (ent M) (vF V) i) (show p≠0 by omega);refine AB5 (fun h=>?_) fun h=>?_
   ·have Av:(k:Int) < t:=by
      have:(k:Int)≠t:=fun hh=>h (by rw [hh,hts];simp)
      omega
    refine AB6 (ACn Aa) rfl (ABi ⟨by omega,?_,by omega⟩);have h9:=Int.mul_le_mul Ac (show (k:Int)<=9973 by omega) (by omega) (by omega);have Ax:0<=p * (k:Int):=Int.mul_nonneg (by omega) (by omega);have e1:ASc (vF V) i (p * k) i=vF V i + p * k:=by simp [ASc]
    have e2:p * ((k + 1:Nat):Int)=p * k + p:=by rw [Int.natCast_add,Int.mul_add];simp
    rw [e1,AEv (x:=vF V i + p * k + p) (by omega) (by omega),ADz,AE4,e2];refine ACv fun j _=>?_;unfold ASc;by_cases hj:j=i
    ·subst hj;simp only [if_true];omega
    ·simp [hj]
   ·refine ABi ?_
    have Ap:(nq M.length (ent M) (vF V) (p * p) / p + 2 * (k:Int) * nqI M.length (ent M) (vF V) i) % p=0:=by
      have h:p * ((nq M.length (ent M) (vF V) (p * p) / p + 2 * (k:Int) * nqI M.length (ent M) (vF V) i) % p)=0:=Classical.byContradiction fun hh=>h hh
      rcases Int.mul_eq_zero.1 h with Ah | Ah
      · omega
      · exact Ah
    rw [AW1 hpr (by omega) hz ht ⟨by omega,by omega⟩ hts Ap]
theorem Akj {fuel:Nat} {M:List (List Int)} {p:Int} {V:List Int} (hM:Ach M) (hf:2147483648 < fuel):∃ r,AGd fuel M p V=some r/\AD1 fuel M p V=some r/\(r.1.length=V.length∨r.1=[]):=by
  by_cases h:AR8 M p false=0
  · have hc:=Atd h
    by_cases hV:Acl M p V
    · obtain ⟨⟨W,e⟩,h1,h2,h3⟩:=Aqy h hV hf;obtain ⟨⟨W',e'⟩,g1,g2,g3⟩:=Aqz hM h hV hf;dsimp only at h2 h3 g2 g3;have:=Acn (AVi hc.2.2.1).2.2 (by have:=hc.2.1;omega) h3 g3;subst this;subst h2;subst g2;refine ⟨_,h1,g1,.inl ?_⟩;obtain ⟨i,t,-,-,-,-,-,rfl⟩:=h3;dsimp only;rw [ADb,hV.1]
    · unfold AGd AD1;rw [ATd hf,AZf hM (by omega),h];simp only [Option.bind_some];rw [if_neg (by decide),if_neg (by decide),Ae5 hc.1 hc.2.1.1 hc.2.1.2 (by omega),ASb hc.1 hc.2.1.1 hc.2.1.2 (by omega),<- ASa hV];simp only [Option.bind_some];rw [if_pos (by decide),if_pos (by decide)];exact ⟨_,rfl,rfl,.inr rfl⟩
  · unfold AGd AD1;rw [ATd hf,AZf hM (by omega)];simp only [Option.bind_some];rw [if_pos h,if_pos h];exact ⟨_,rfl,rfl,.inr rfl⟩
def dg (n P i c:Nat):Nat:=i / P ^ (n - 1 - c) % P
def ATe (n P i:Nat):List Int:=ADx n fun c=>((dg n P i c:Nat):Int)
theorem AUt {n P i j:Nat} (hP:2<=P) (hj:j<=n) (h:∀ c,n - j<=c->c < n->dg n P i c=P - 1):i % P ^ j=P ^ j - 1:=by
 induction j with
 | zero=>simp [Nat.mod_one]
 | succ j ih=>
   have h1:=ih (by omega) fun c h1 h2=>h c (by omega) h2
   have h2:=h (n - (j + 1)) (by omega) (by omega)
   unfold dg at h2
   rw [show n - 1 - (n - (j + 1))=j by omega] at h2
   have hpos:0 < P ^ j:=Nat.pow_pos (by omega)
   rw [Nat.pow_succ,Nat.mod_mul,h1,h2]
   have:P ^ j * (P - 1) + P ^ j=P ^ j * P:=by
     rw [<- Nat.mul_succ,show (P - 1).succ=P by omega]
   omega
theorem Afa {n P i j:Nat} (hP:2<=P) (hj:j < n) (h:∀ c,n - j<=c->c < n->dg n P i c=P - 1) (hx:dg n P i (n - 1 - j)≠P - 1) (c:Nat) (hc:c < n):dg n P (i + 1) c=if n - j<=c then 0 else if c=n - 1 - j then dg n P i c + 1 else dg n P i c:=by
 have hl:=AUt hP (Nat.le_of_lt hj) h;have hpos:0 < P ^ j:=Nat.pow_pos (by omega);have hdm:=Nat.div_add_mod i (P ^ j);have hi:i + 1=P ^ j * (i / P ^ j + 1):=by rw [Nat.mul_succ];omega
 have Ac:i / P ^ j % P≠P - 1:=by unfold dg at hx;rwa [show n - 1 - (n - 1 - j)=j by omega] at hx
 generalize hq:i / P ^ j=q at hi Ac;unfold dg;by_cases h1:n - j<=c
 ·rw [if_pos h1];obtain ⟨e,he⟩:∃ e,j=(n - 1 - c) + 1 + e:=⟨j - (n - 1 - c) - 1,by omega⟩
  have h2:P ^ j=P ^ (n - 1 - c) * (P * P ^ e):=by
    conv=>lhs;rw [he]
    rw [Nat.pow_add,Nat.pow_succ,Nat.mul_assoc]
  rw [hi,h2,Nat.mul_assoc,Nat.mul_div_cancel_left _ (Nat.pow_pos (by omega)),Nat.mul_assoc,Nat.mul_mod_right]
 ·rw [if_neg h1];obtain ⟨k,hk⟩:∃ k,n - 1 - c=j + k:=⟨n - 1 - c - j,by omega⟩;rw [hk,Nat.pow_add,<- Nat.div_div_eq_div_mul,<- Nat.div_div_eq_div_mul,hi,Nat.mul_div_cancel_left _ hpos,hq];have hqm:=Nat.div_add_mod q P;have hql:=Nat.mod_lt q (show P > 0 by omega);by_cases h2:c=n - 1 - j
  ·rw [if_pos h2];obtain rfl:k=0:=by omega
   simp only [Nat.pow_zero,Nat.div_one];rw [Nat.add_mod,Nat.mod_eq_of_lt (show 1 < P by omega),Nat.mod_eq_of_lt (by omega)]
  ·rw [if_neg h2];obtain ⟨k',rfl⟩:∃ k',k=k' + 1:=⟨k - 1,by omega⟩
   have h3:(q + 1) / P=q / P:=by
     refine Nat.div_eq_of_lt_le ?_ ?_
     · rw [Nat.mul_comm];omega
     · rw [Nat.mul_comm,Nat.mul_succ];omega
   rw [Nat.pow_succ,Nat.mul_comm,<- Nat.div_div_eq_div_mul,<- Nat.div_div_eq_div_mul,h3]
theorem Aui {n P i c:Nat} (hP:2<=P):dg n P i c < P:=Nat.mod_lt _ (by omega)
theorem Aq0 {n P c:Nat}:dg n P 0 c=0:=by simp [dg]
theorem Auj {fuel:Nat} {M:List (List Int)} {P:Nat} (R:ATa M) (hp:3<=P) (hp2:P<=9973) (hq:P ^ M.length<=65536) (hf:2147483648 < fuel):AH6 fuel M (P:Int)=some (((List.range (P ^ M.length)).map (ATe M.length P)).filter (ARf M P)):=by
  have h8:=R.1.2;have h1n:=R.1.1;apply ok_eq;unfold AH6;refine AEu (by omega) (ABo (Q:=fun e=>e=((List.range (P ^ M.length)).map (ATe M.length P)).filter (ARf M P)) ?_ fun e he=>ABi he);generalize hn:M.length=n at *
  have hcar:∀ i,i<=P ^ n->(((List.range i).map (ATe n P)).filter (ARf M P)).length<=65536:=fun i hi=>by
    have:=List.length_filter_le (ARf M P) ((List.range i).map (ATe n P));rw [List.length_map,List.length_range] at this;omega
  refine ACx (fun i s=>s=(((List.range i).map (ATe n P)).filter (ARf M P),ATe n P i)/\i < P ^ n) (P ^ n) ⟨?_,Nat.pow_pos (by omega)⟩ (by omega) fun i s hi hI=>?_
  · refine Prod.ext rfl ?_;show List.replicate ((n:Int)).toNat (0:Int)=ATe n P 0;rw [Int.toNat_natCast,AH3];exact ACv fun c _=>by rw [Aq0];rfl
  · obtain ⟨rfl,hin⟩:=hI
    have hfil:((List.range (i + 1)).map (ATe n P)).filter (ARf M P)=((List.range i).map (ATe n P)).filter (ARf M P) ++ (if ARf M P (ATe n P i)=true then [ATe n P i] else []):=by
      rw [List.range_succ,List.map_append,List.filter_append];congr 1
      by_cases h:ARf M P (ATe n P i)=true
      · simp [h]
      · simp [h]
    unfold AKo;dsimp only;rw [ASb R (by omega) (by omega) (by omega)];simp only [Option.bind_some]
    refine ABo (Q:=fun e=>e=((List.range (i + 1)).map (ATe n P)).filter (ARf M P)) ?_ fun e he=>?_
    · have hl:(ATe n P i).length=n:=ADb ..;refine AB5 (fun h=>?_) fun h=>ABi (by rw [hfil,if_neg h,List.append_nil]);rw [if_pos (by omega),if_pos (by have:=hcar i (by omega);omega)];exact ABi (by rw [hfil,if_pos h])
    · subst he;have hl:(ATe n P i).length=n:=ADb ..;rw [hl]
      refine ABo (Q:=fun e:Int × List Int=>(e.1= -1/\i + 1=P ^ n)∨ ∃ j:Nat,j < n/\e.1=((n - 1 - j:Nat):Int)/\(∀ c,n - j<=c->c < n->dg n P i c=P - 1)/\dg n P i (n - 1 - j)≠P - 1/\e.2=ADx n fun c=>if n - j<=c then 0 else ((dg n P i c:Nat):Int)) (ABo (ACx (fun j s=>s=((n:Int) - 1 - j,ADx n fun c=>if n - j<=c then 0 else ((dg n P i c:Nat):Int))/\j<=n/\ ∀ c,n - j<=c->c < n->dg n P i c=P - 1) n ⟨?_,Nat.zero_le _,fun c h1 h2=>by omega⟩ (by omega) fun j s hj hI=>?_) fun e he=>ABi he) fun e he=>?_
      · refine Prod.ext ?_ (ACv fun c hc=>by rw [if_neg (by omega)]);show w64 ((n:Int) - 1)=(n:Int) - 1 - ((0:Nat):Int);rw [wk (by omega)];omega
      · obtain ⟨rfl,hjn,hall⟩:=hI;unfold AKn;dsimp only
        refine ABo (Q:=fun ex=>(ex= .inl ()/\j < n/\dg n P i (n - 1 - j)=P - 1)∨(ex= .inr ()/\(j=n∨dg n P i (n - 1 - j)≠P - 1))) ?_ fun ex hex=>?_
        · refine AB5 (fun h=>?_) fun h=>ABi (.inr ⟨rfl,.inl (by omega)⟩);have hj2:n - 1 - j < n:=by omega
          refine AB6 (n:=n - 1 - j) (ACn hj2) (by omega) ?_;have e1:(if n - j<=n - 1 - j then (0:Int) else ((dg n P i (n - 1 - j):Nat):Int))=((dg n P i (n - 1 - j):Nat):Int):=if_neg (by omega);rw [e1,AEv (x:=(P:Int) - 1) (by omega) (by omega)];refine AB5 (fun h3=>ABi (.inl ⟨rfl,by omega,by omega⟩)) fun h3=>ABi (.inr ⟨rfl,.inr fun h4=>h3 (by omega)⟩)
        · rcases hex with ⟨rfl,h3,h4⟩ | ⟨rfl,h3⟩
          · have hj2:n - 1 - j < n:=by omega
            dsimp only
            refine AB6 (n:=n - 1 - j) (ACn hj2) (by omega) (ABi ⟨h3,?_,by omega,fun c h5 h6=>?_⟩)
            · rw [show (n:Int) - 1 - (j:Int)=((n - 1 - j:Nat):Int) by omega,ADz,AE4]
              refine Prod.ext ?_ (ACv fun c hc=>?_)
              · show w64 (((n - 1 - j:Nat):Int) - 1)=(n:Int) - 1 - ((j + 1:Nat):Int);rw [wk (by omega)];omega
              · by_cases h7:c=n - 1 - j
                · rw [if_pos h7,if_pos (by omega)]
                · rw [if_neg h7]
                  by_cases h8:n - j<=c
                  · rw [if_pos h8,if_pos (by omega)]
                  · rw [if_neg h8,if_neg (by omega)]
            · rcases Nat.lt_or_ge c (n - j) with h7 | h7
              · obtain rfl:c=n - 1 - j:=by omega
                exact h4
              · exact hall c h7 h6
          · refine ABi ?_
            by_cases hjn2:j=n
            · subst hjn2;refine .inl ⟨by dsimp only;omega,?_⟩;have hl2:=AUt (n:=j) (P:=P) (i:=i) (by omega) (Nat.le_refl _) hall;rw [Nat.mod_eq_of_lt hin] at hl2;omega
            · exact .inr ⟨j,by omega,by dsimp only;omega,hall,h3.resolve_left hjn2,rfl⟩
      · obtain ⟨x,W⟩:=e
        rcases he with ⟨h3,h4⟩ | ⟨j,hjn,h3,hall,hne,h4⟩
        · dsimp only at h3 ⊢;subst h3;rw [if_pos (by decide)];exact ABi (by rw [h4])
        · dsimp only at h3 h4 ⊢;subst h3;subst h4;rw [if_neg (by omega)];have hj2:n - 1 - j < n:=by omega
          refine AB6 (ACn hj2) rfl (ABi ?_);have e1:(if n - j<=n - 1 - j then (0:Int) else ((dg n P i (n - 1 - j):Nat):Int))=((dg n P i (n - 1 - j):Nat):Int):=if_neg (by omega);rw [e1];have hlt:=Aui (n:=n) (i:=i) (c:=n - 1 - j) (show 2<=P by omega)
          have hsucc:ATe n P (i + 1)=sI (ADx n fun c=>if n - j<=c then 0 else ((dg n P i c:Nat):Int)) ((n - 1 - j:Nat):Int) (w64 (((dg n P i (n - 1 - j):Nat):Int) + 1)):=by
            rw [wk (by omega),ADz,AE4];refine ACv fun c hc=>?_;rw [Afa (by omega) hjn hall hne c hc]
            by_cases h7:c=n - 1 - j
            · subst h7;rw [if_neg (by omega),if_pos rfl,if_pos rfl];rfl
            · rw [if_neg h7,if_neg h7]
              by_cases h8:n - j<=c
              · rw [if_pos h8,if_pos h8];rfl
              · rw [if_neg h8,if_neg h8]
          have hi1:i + 1 < P ^ n:=by
            refine Nat.lt_of_le_of_ne (by omega) fun hh=>?_
            have:i % P ^ (j + 1)=P ^ (j + 1) - 1:=by
              obtain ⟨e,he⟩:∃ e,n=(j + 1) + e:=⟨n - (j + 1),by omega⟩
              have hpw:P ^ n=P ^ (j + 1) * P ^ e:=by
                conv=>lhs;rw [he]
                exact Nat.pow_add ..
              have hp1:0 < P ^ (j + 1):=Nat.pow_pos (by omega);have hp2:0 < P ^ e:=Nat.pow_pos (by omega)
              have:i=P ^ (j + 1) * (P ^ e - 1) + (P ^ (j + 1) - 1):=by
                have:P ^ (j + 1) * (P ^ e - 1) + P ^ (j + 1)=P ^ (j + 1) * P ^ e:=by
                  rw [<- Nat.mul_succ,show (P ^ e - 1).succ=P ^ e by omega]
                omega
              rw [this,Nat.mul_add_mod,Nat.mod_eq_of_lt (by omega)]
            have hlow:=AUt (n:=n) (P:=P) (i:=i) (j:=j) (by omega) (by omega) hall;have hpos:0 < P ^ j:=Nat.pow_pos (by omega);rw [Nat.pow_succ,Nat.mod_mul,hlow] at this;have hd:dg n P i (n - 1 - j)=i / P ^ j % P:=by unfold dg;rw [show n - 1 - (n - 1 - j)=j by omega]
            rw [<- hd] at this
            have h9:P ^ j * (P - 1) + P ^ j=P ^ j * P:=by
              rw [<- Nat.mul_succ,show (P - 1).succ=P by omega]
            exact hne (Nat.eq_of_mul_eq_mul_left hpos (by omega))
          exact ⟨hin,by rw [<- hsucc],hi1⟩
theorem Atg {fuel:Nat} {M:List (List Int)} {P:Nat} {k:Int} (R:ATa M) (hp:3<=P) (Ab:P<=9973) (hk:0<=k/\k < 65536) (hf:2147483648 < fuel):Ok (AHh fuel M (P:Int) k) fun r=>(r.2=true->Acl M P r.1)/\r.1.length<=8:=by
 have h8:=R.1.2;unfold AHh;rw [Ae7 (by omega) (by omega) (by omega) (by omega)];simp only [Option.bind_some];refine AB5 (fun h=>ABi ⟨fun hh=>(by cases hh),by simp⟩) fun h=>?_
 have hq:P ^ M.length<=65536:=by
   have h:((P:Int) ^ M.length)<=65536:=by simpa using h
   exact Int.ofNat_le.1 (by rw [Int.natCast_pow];exact h)
 rw [Auj R hp Ab hq hf];simp only [Option.bind_some];generalize hL:((List.range (P ^ M.length)).map (ATe M.length P)).filter (ARf M P)=L;refine AB5 (fun h=>ABi ⟨fun hh=>(by cases hh),by simp⟩) fun h=>?_;have hl:0 < L.length:=by omega
 rw [if_pos (by omega),wk (by omega)];obtain ⟨q,h1,h2⟩:=AOz k L.length hk.1 hl
 have hmem:∀ W∈L,ARf M P W=true:=fun W hW=>by
   rw [<- hL] at hW
   exact (List.mem_filter.1 hW).2
 exact AB6 (List.getElem?_eq_getElem h2) h1 (ABi ⟨fun _=>Ai1 (hmem _ (List.getElem_mem h2)),by have:=(Ai1 (hmem _ (List.getElem_mem h2))).1;dsimp only;omega⟩)
def gd (d q:Nat):Bool:=(q == 3 || q == 5 || q == 7 || q == 11 || q == 13 || q == 17) && d % q != 0
def AW8 (d:Nat):Nat->Nat
  | 0=>0
  | i + 1=>AW8 d i + (if gd d (3 + 2 * i)=true then 1 else 0)
theorem Ath:(List.range 10000).all (fun d=>decide (1<=AW8 (d + 1) 7/\(AW8 (d + 1) 7=1->gd (d + 1) 17=true)))=true:=by decide +kernel
theorem Akk {q:Nat} (h3:3<=q) (h:q<=17):APn (q:Int)=true↔(q=3∨q=5∨q=7∨q=11∨q=13∨q=17):=by
 have prs:∀ (n:Int) (d:Nat),2<=n->2<=d->n < d * d->(∀ c,c < d->2<=c->¬ n % (c:Int)=0)->Pr n:=fun n d hn hd hsq h=>AUf (d:=d) hn (by omega) hsq fun c h1 h2 h3=>h c.toNat (by omega) (by omega) (by rw [show ((c.toNat:Nat):Int)=c by omega];exact h3);constructor
 ·intro ho;have hp:=AVi ho;refine Classical.byContradiction fun hno=>?_;have hcase:q=4∨q=6∨q=8∨q=9∨q=10∨q=12∨q=14∨q=15∨q=16:=by omega
  rcases hcase with rfl | rfl | rfl | rfl | rfl | rfl | rfl | rfl | rfl
  ·exact hp.2.2.2 2 (by decide) (by decide) (by decide)
  ·exact hp.2.2.2 2 (by decide) (by decide) (by decide)
  ·exact hp.2.2.2 2 (by decide) (by decide) (by decide)
  ·exact hp.2.2.2 3 (by decide) (by decide) (by decide)
  ·exact hp.2.2.2 2 (by decide) (by decide) (by decide)
  ·exact hp.2.2.2 2 (by decide) (by decide) (by decide)
  ·exact hp.2.2.2 2 (by decide) (by decide) (by decide)
  ·exact hp.2.2.2 3 (by decide) (by decide) (by decide)
  ·exact hp.2.2.2 2 (by decide) (by decide) (by decide)
 ·intro hc;refine (AUm ?_).symm;rcases hc with rfl | rfl | rfl | rfl | rfl | rfl <;> refine ⟨by decide,by decide,?_⟩
  ·exact prs _ 2 (by decide) (by decide) (by decide) (by decide)
  ·exact prs _ 3 (by decide) (by decide) (by decide) (by decide)
  ·exact prs _ 3 (by decide) (by decide) (by decide) (by decide)
  ·exact prs _ 4 (by decide) (by decide) (by decide) (by decide)
  ·exact prs _ 4 (by decide) (by decide) (by decide) (by decide)
  ·exact prs _ 5 (by decide) (by decide) (by decide) (by decide)
theorem Afb {fuel:Nat} {M:List (List Int)} {k:Int} (R:ATa M) (hk:0<=k) (Ah:k < 256) (hf:2147483648 < fuel):Ok (AFp fuel M k) fun p=> ∃ P:Nat,p=P/\3<=P/\P<=17/\APn p=true/\det M.length (ent M) % p≠0:=by
 have hdv:=AZb R;obtain ⟨d,hd⟩:∃ d:Nat,det M.length (ent M)=(d:Int):=⟨(det M.length (ent M)).toNat,by omega⟩;have hdd:1<=d/\d<=10000:=by omega
 have hall:=of_decide_eq_true (List.all_eq_true.1 Ath (d - 1) (List.mem_range.2 (by omega)));rw [show d - 1 + 1=d by omega] at hall
 have hg:∀ q:Nat,3<=q->q<=17->(gd d q=true↔APn (q:Int)=true/\det M.length (ent M) % (q:Int)≠0):=fun q h3 Af=>by
   rw [Akk h3 Af,hd]
   unfold gd
   simp only [Bool.and_eq_true,Bool.or_eq_true,beq_iff_eq,bne_iff_ne,ne_eq]
   have:((d:Int) % (q:Int)=0)↔d % q=0:=by omega
   rw [this]
   constructor
   · rintro ⟨h1,h2⟩;exact ⟨by omega,h2⟩
   · rintro ⟨h1,h2⟩;exact ⟨by omega,h2⟩
 unfold AFp;have hkm:w64 (Int.tmod k 2)=k % 2:=by rw [Int.tmod_eq_emod_of_nonneg hk,wk (by omega)]
 rw [hkm];refine ABo (ACx (fun i s=>s=(k % 2 - (AW8 d i:Int),((3 + 2 * i:Nat):Int))/\i<=7/\(AW8 d i:Int)<=k % 2) 7 (Q:=fun p:Int=> ∃ P:Nat,p=P/\3<=P/\P<=17/\APn p=true/\det M.length (ent M) % p≠0) ⟨by simp [AW8],by omega,by simp [AW8];omega⟩ (by omega) fun i s hi hI=>?_) fun e he=>ABi he;obtain ⟨rfl,h1,h2⟩:=hI;unfold AHv;refine ABo (Ae6 (p:=((3 + 2 * i:Nat):Int)) R (by omega)) fun b hb=>?_;rw [<- hg (3 + 2 * i) (by omega) (by omega)] at hb;have hsucc:AW8 d (i + 1)=AW8 d i + (if gd d (3 + 2 * i)=true then 1 else 0):=rfl
 have h7:i=7->AW8 d i=1/\gd d 17=true:=fun h=>by
   subst h
   have h3:AW8 d 7<=1:=by omega
   have h4:AW8 d 7=1:=by omega
   exact ⟨h4,hall.2 h4⟩
 dsimp only;refine AB5 (fun h=>?_) fun h=>?_
 ·have hgd:=hb.1 h;rw [if_pos hgd] at hsucc;refine AB5 (fun h5=>ABi ⟨3 + 2 * i,rfl,by omega,by omega,(hg _ (by omega) (by omega)).1 hgd⟩) fun h5=>?_;have hne:i≠7:=fun hh=>by have:=h7 hh;omega
  exact ABi ⟨by omega,by rw [wk (by omega),wk (by omega),hsucc];exact Prod.ext (by dsimp only;omega) (by dsimp only;omega),by omega,by rw [hsucc];omega⟩
 ·have hgd: ¬ gd d (3 + 2 * i)=true:=fun hh=>h (hb.2 hh);rw [if_neg hgd] at hsucc;have hne:i≠7:=fun hh=>by have:=h7 hh;subst hh;exact hgd this.2
  exact ABi ⟨by omega,by rw [wk (by omega),hsucc];exact Prod.ext (by dsimp only;omega) (by dsimp only;omega),by omega,by rw [hsucc];omega⟩
end Go.Proofs.YtiegjkmfpcgjjaaGreatDoor
namespace Go.Proofs.YtiegjkmfpcgjjaaGreatDoor
open Go Go.QF
set_option maxRecDepth 100000
set_option maxHeartbeats 4000000
noncomputable def AHc (fuel:Nat) (a3:LiI) (a7:LiA) (a9 Ai:Int) (Aj Ak:LiA) (Ae Am Ao:Int) (Ap Aq:Bool):Option Bool:=
  ((((AGw fuel a3).bind fun Ar=>(if Ar=true then ((ADs fuel).bind fun Au=>(some (Sum.inl <| Au))) else (if 12 < (a7.length:Int) then ((ADs fuel).bind fun Av=>(some (Sum.inl <| Av))) else (some (Sum.inr <| ()))))):Option ((Bool) ⊕ (Unit))).bind (fun ex=>match ex with | Sum.inl Aw=>(some Aw) | Sum.inr (_)=>((AGx fuel Ae Am Ap).bind fun Af=>(if Aq=true then ((AE6 fuel a9 Ai Aj Ak 5).bind fun Aa=>((AFp fuel Aa Ae).bind fun Ad=>((AHh fuel Aa Ad Ao).bind fun (Ag,Bc)=>((AGd fuel Aa Ad Ag).bind fun (Ax,Ay)=>((AD1 fuel Aa Ad Ag).bind fun (Az,A3)=>(if Ay=A3 then ((AEk fuel ([Ax]:List LiA) ([Az]:List LiA)).bind fun A4=>(if A4=true then ((ADs fuel).bind fun A5=>(some A5)) else (some false))) else (some false))))))) else ((AGd fuel a3 Af a7).bind fun (A6,A7)=>((AD1 fuel a3 Af a7).bind fun (A8,A9)=>(if A7=A9 then ((AEk fuel ([A6]:List LiA) ([A8]:List LiA)).bind fun Ba=>(if Ba=true then ((ADs fuel).bind fun Bb=>(some Bb)) else (some false))) else (some false))))))))
theorem AO3 {fuel:Nat} {h:ABk} {A8:Value} {a3:LiI} {Ba:Value} {a7:LiA} {a9 Ad:Int} {Ae:Value} {Bc:LiA} {Af:Value} {Be:LiA} {Bf Bg Bh:Int} {Bi Bj r:Bool} (H2:AFn (cI .i64) h A8 a3) (H6:SlC (cI .i64) h Ba a7) (B4:SlC (cI .i8) h Ae Bc) (B5:SlC (cI .i8) h Af Be) (HO:AUy h) (hp:AHc fuel a3 a7 a9 Ad Bc Be Bf Bg Bh Bi Bj=some r):AB9 Tryz.prog 3 #[A8,Ba,(.agg #[(.int .u8 a9),(.int .u8 Ad),Ae,Af]),(.int .u8 Bf),(.int .i64 Bg),(.int .u16 Bh),(.bool Bi),(.bool Bj)] h (fun x h'=>Ext h h'/\x= .bool r):=by
 unfold AHc at hp;refine cwf (l:=[_,_,_,_,_,_,_,_]) Tryz.func3 rfl rfl (ABj (AIa [(.int .u8 a9),(.int .u8 Ad),Ae,Af] trivial tt2 rfl rfl fun Ff Fg B6 B7 B8=>ABq ?_));have Ap:=(Kst.k0 h).nb B7 B8 B6;obtain ⟨B9,Ca,Aq⟩:=ABm hp;refine ANh 1069613056 (fun x:Unit=>[]) (fun x h'=>(Sum.inr <| ())=B9/\Kst h h' (Ap.L)) ?_ ?_
 ·refine ABj (Wl ?_);obtain ⟨Cb,Cd,Bl⟩:=ABm Ca;refine ACw rfl (AQv (H2.ext Ap.x) Cd) fun Fh Fi Ce Cf=>?_;subst Cf;refine Wl ?_;have Ab:=Ap.e Ce;cases Bm:Cb
  ·refine ACm 24 false (Wl (ACm 24 false (ADy ABv rfl H6 (ACm 24 false (AI4 rfl rfl (ABw rfl (ABp ?_)))))));have Bn:=AIz Bl Bm;refine ⟨_,rfl,fun Ar=>?_,fun Ar=>?_⟩
   ·refine ABj ?_;obtain ⟨Fj,Cg,Ch⟩:=ABm (AC2 Bn Ar);refine ACw rfl (AHa (HO.ext Ab.x) Cg) fun Fk Fl Ci Cj=>?_;subst Cj;refine ABq ?_;obtain rfl:=ABl Ch;refine ABt (AB1 ?_);obtain rfl:=ABl Aq;exact ⟨_,ABu,(Ab.e Ci).x,rfl⟩
   ·refine ABs (q_t ?_);exact ⟨(():Unit),⟨ABl (AC3 Bn Ar),Ab⟩,trivial⟩
  ·refine ALx 24 true (AB2 rfl (ABp (ACc rfl (ABj ?_))));obtain ⟨Fm,Ck,Cm⟩:=ABm (ifT Bl Bm);refine ACw rfl (AHa (HO.ext Ab.x) Ck) fun Fo Fp Cn Co=>?_;subst Co;refine ABq ?_;obtain rfl:=ABl Cm;refine ABt (AB1 ?_);obtain rfl:=ABl Aq;exact ⟨_,ABu,(Ab.e Cn).x,rfl⟩
 rintro ⟨⟩ Fq Fr ⟨Cp,Cq⟩;subst Cp;refine ABj (Wl (Wl (Wl ?_)));obtain ⟨Ft,Cr,Bo⟩:=ABm Aq;refine ACw rfl (AQw Cr) fun Fu Fv Ct Cu=>?_;subst Cu;refine ABq (ABn (ABj (Wl (ABp ?_))));have Aa:=Cq.e Ct;refine ⟨_,rfl,fun Au=>?_,fun Au=>?_⟩
 ·refine ABj (AHd [(.int .u8 a9),(.int .u8 Ad),Ae,Af] Amz rfl rfl (Aa.b p0).agg ?_);obtain ⟨Fw,Cv,Cw⟩:=ABm (ifT Bo Au);refine ACw rfl (ANu (B4.ext Aa.x) (B5.ext Aa.x) Cv) fun Fx Fy Cx Cy=>?_;obtain ⟨Fz,F4,F5,F6,rfl,Cz,C0⟩:=Cy;refine ACs (Wl (Wl ?_));have Bp:=Aa.no2 Cx C0 Cz;obtain ⟨F7,C1,C2⟩:=ABm Cw;refine ACw rfl (AOq (Bp.o2 p0).rd C1) fun F8 F9 C3 C4=>?_;subst C4;refine ABq (ABy (Wl (Wl (Wl ?_))));have Bq:=Bp.e C3;obtain ⟨⟨Ga,Gb⟩,C5,Br⟩:=ABm C2;dsimp only at Br;refine ACw rfl (ARe (Bq.o2 p0).rd C5) fun Gc Gd C6 C7=>?_;obtain ⟨Ge,Gf,rfl,C8,C9⟩:=C7;refine Wl (AC6 rfl rfl (AC6 rfl rfl (ACs (Wl (Wl (Wl ?_))))));have Ag:=Bq.no C6 C9 C8;obtain ⟨⟨Da,Db⟩,Dc,Bt⟩:=ABm Br;dsimp only at Bt;refine ACw rfl (APv (Ag.o2 p1).rd (Ag.o p0).rd (HO.ext Ag.x) Dc) fun Gg Gh Dd De=>?_;obtain ⟨Df,Dg,rfl,Dh,Di⟩:=De;refine Wl (AC6 rfl rfl (AC6 rfl rfl (ACe (ACs (Wl (Wl (Wl ?_)))))));have Av:=Ag.no Dd Di Dh;obtain ⟨⟨Dj,Dk⟩,Dl,Aw⟩:=ABm Bt;dsimp only at Aw;refine ACw rfl (AM1 (Av.o2 p2).rd (Av.o p1).rd Dl) fun Gi Gj Dn Do=>?_;obtain ⟨Dp,Dq,rfl,Dr,Ds⟩:=Do;refine Wl (AC6 rfl rfl (AC6 rfl rfl (ACe (ACs (Wl (Wl (ADn rfl rfl (Wl ?_))))))));have Ah:=Av.no Dn Ds Dr;by_cases Ai:Db=Dk
  ·rw [decide_eq_true Ai];refine ACm 64 true (Wl (ACm 64 true ?_));have Bu:=((Ah.a0).grab p1);refine AMx (c:=(cI .i64)) (el:=2) [Dg] [Df] [Da] AB3 AKb rfl rfl trivial tt2 rfl rfl rfl rfl (AKx (Ah.o p1).isOne AP9) ⟨(Ah.o p1),trivial⟩ (by simpa using Bu.ndT) fun Gk Gl Gm Dt Du Dv=>ACm 64 true (Wl (ACm 64 true ?_));have Ax:=Bu.lit Du Dt (by simpa using Dv);have Bv:=((Ax.a0).grab p1);refine AMx (c:=(cI .i64)) (el:=2) [Dq] [Dp] [Dj] AB3 AKb rfl rfl trivial tt2 rfl rfl rfl rfl (AKx (Ax.o p1).isOne AP9) ⟨(Ax.o p1),trivial⟩ (by simpa using Bv.ndT) fun Gn Gp Gq Dw Dx Dy=>ACm 64 true ?_;have Ay:=Bv.lit Dx Dw (by simpa using Dy);obtain ⟨Dz,D0,Bw⟩:=ABm (ifT Aw Ai);refine ACw rfl (AJ3 (Ay.o2 p1).rd (Ay.o2 p0).rd D0) fun Gr Gt D1 D2=>?_;subst D2;refine AB2 rfl (Wl ?_);have Az:=Ay.e D1;cases Bx:Dz
   ·refine Ag5 71 false (ABw rfl (ABq (ABt ?_)));obtain rfl:=ABl (AIz Bw Bx);exact ⟨_,ABu,Az.x,rfl⟩
   ·refine ACm 71 true ?_;obtain ⟨Gu,D3,D4⟩:=ABm (ifT Bw Bx);refine ACw rfl (AHa (HO.ext Az.x) D3) fun Gv Gw D5 D6=>?_;subst D6;refine AB2 rfl (ABq (ABt ?_));obtain rfl:=ABl D4;exact ⟨_,ABu,(Az.e D5).x,rfl⟩
  ·rw [decide_eq_false Ai];refine AKr 64 false (ABw rfl (Wl (Ag5 71 false (ABw rfl (ABq (ABt ?_))))));obtain rfl:=ABl (ifF Aw Ai);exact ⟨_,ABu,Ah.x,rfl⟩
 ·refine ABs (q_t (ABj (Wl (Wl (Wl ?_)))));obtain ⟨⟨D7,D8⟩,D9,By⟩:=ABm (AIz Bo Au);dsimp only at By;refine ACw rfl (APv (H2.ext Aa.x) (H6.ext Aa.x) (HO.ext Aa.x) D9) fun Gx Gy Ea Eb=>?_;obtain ⟨Ec,Ed,rfl,Ee,Ef⟩:=Eb;refine Wl (AC6 rfl rfl (AC6 rfl rfl (ACe (ACs (Wl (Wl (Wl ?_)))))));have A3:=Aa.no Ea Ef Ee;obtain ⟨⟨Eg,Eh⟩,Ei,A4⟩:=ABm By;dsimp only at A4;refine ACw rfl (AM1 (H2.ext A3.x) (H6.ext A3.x) Ei) fun Gz G3 Ej Ek=>?_;obtain ⟨El,Em,rfl,En,Eo⟩:=Ek;refine Wl (AC6 rfl rfl (AC6 rfl rfl (ACe (ACs (Wl (Wl (ADn rfl rfl (Wl ?_))))))));have Aj:=A3.no Ej Eo En;by_cases Ak:D8=Eh
  ·rw [decide_eq_true Ak];refine ACm 64 true (Wl (ACm 64 true ?_));have Bz:=((Aj.a0).grab p1);refine AMx (c:=(cI .i64)) (el:=2) [Ed] [Ec] [D7] AB3 AKb rfl rfl trivial tt2 rfl rfl rfl rfl (AKx (Aj.o p1).isOne AP9) ⟨(Aj.o p1),trivial⟩ (by simpa using Bz.ndT) fun G4 G5 G6 Ep Er Es=>ACm 64 true (Wl (ACm 64 true ?_));have A5:=Bz.lit Er Ep (by simpa using Es);have B1:=((A5.a0).grab p1);refine AMx (c:=(cI .i64)) (el:=2) [Em] [El] [Eg] AB3 AKb rfl rfl trivial tt2 rfl rfl rfl rfl (AKx (A5.o p1).isOne AP9) ⟨(A5.o p1),trivial⟩ (by simpa using B1.ndT) fun G7 G8 G9 Et Eu Ev=>ACm 64 true ?_;have A6:=B1.lit Eu Et (by simpa using Ev);obtain ⟨Ew,Ey,B2⟩:=ABm (ifT A4 Ak);refine ACw rfl (AJ3 (A6.o2 p1).rd (A6.o2 p0).rd Ey) fun Hb Hc Ez Fa=>?_;subst Fa;refine AB2 rfl (Wl ?_);have A7:=A6.e Ez;cases B3:Ew
   ·refine Ag5 71 false (ABw rfl (ABq (ABt ?_)));obtain rfl:=ABl (AIz B2 B3);exact ⟨_,ABu,A7.x,rfl⟩
   ·refine ACm 71 true ?_;obtain ⟨Hd,Fb,Fc⟩:=ABm (ifT B2 B3);refine ACw rfl (AHa (HO.ext A7.x) Fb) fun He Hf Fd Fe=>?_;subst Fe;refine AB2 rfl (ABq (ABt ?_));obtain rfl:=ABl Fc;exact ⟨_,ABu,(A7.e Fd).x,rfl⟩
  ·rw [decide_eq_false Ak];refine AKr 64 false (ABw rfl (Wl (Ag5 71 false (ABw rfl (ABq (ABt ?_))))));obtain rfl:=ABl (ifF A4 Ak);exact ⟨_,ABu,Aj.x,rfl⟩
end Go.Proofs.YtiegjkmfpcgjjaaGreatDoor
namespace Go.Proofs.YtiegjkmfpcgjjaaGreatDoor
open Go Go.QF
set_option maxRecDepth 100000
theorem Akl {fuel:Nat} {M:List (List Int)} (hf:100 < fuel):Ok (AGw fuel M) fun _=>True:=by
 unfold AGw;refine AB5 (fun _=>ABi trivial) fun h=>ABo (Atc (n:=M.length) (fun i=> ∀ z,M[i]? =some z->¬ 12 < z.length) true (by omega) (fun i hi=>?_) ?_) fun ex hex=>?_
 ·obtain ⟨z,hz⟩:∃ z,M[i]? =some z:=⟨M[i],List.getElem?_eq_getElem hi⟩;unfold AHb;rw [if_pos (by omega),AQu hz];exact AB5 (fun h=>ABi (.inr ⟨rfl,fun h2=>h2 z hz (by omega)⟩)) fun h=>ABi (.inl ⟨by rw [AGv (by omega)],fun y hy=>by rw [hz] at hy;cases hy;omega⟩)
 ·unfold AHb;rw [if_neg (by omega)]
 ·rcases hex with ⟨rfl,_⟩ | ⟨rfl,_⟩ <;> exact ABi trivial
theorem Akm {fuel:Nat} {k raw:Int} {wild:Bool} (hk:0<=k/\k < 256):Ok (AGx fuel k raw wild) fun _=>True:=by
 unfold AGx;refine AB5 (fun _=>ABi trivial) fun _=>ABo (Q:=fun _=>True) ?_ fun _ _=>ABi trivial;unfold AIw;refine AEu (by decide) ?_;obtain ⟨q,h1,h2⟩:=AOz (w64 k) 20 (by rw [wk (by omega)];exact hk.1) (by decide);exact AB6 (n:=q) (List.getElem?_eq_getElem (by exact h2)) h1 (ABi trivial)
theorem Aq1 {fuel:Nat} {W:List Int} (hl:W.length<=90) (hf:100 < fuel):Ok (AEk fuel [W] [W]) (· =true):=by
 unfold AEk;rw [if_neg (by simp)];refine ABo (Q:=fun ex=>ex= .inr ()) (ACx (fun i s=>s=(i:Int)/\i<=1) 1 ⟨rfl,by omega⟩ (by omega) fun i s hi hI=>?_) fun ex hex=>by subst hex;exact ABi rfl
 obtain ⟨rfl,h1⟩:=hI;unfold AJ2;refine AB5 (fun h=>?_) fun h=>ABi rfl;have h0:i=0:=by have:(i:Int) < 1:=h;omega
 subst h0;refine AB6 (n:=0) (x:=W) rfl rfl (AB6 (n:=0) (x:=W) rfl rfl ?_);rw [if_neg (by simp)];refine ABo (Q:=fun ex=>ex= .inr ()) (ACx (fun j s=>s=(j:Int)/\j<=W.length) W.length ⟨rfl,by omega⟩ (by omega) fun j s hj hJ=>?_) fun ex hex=>by subst hex;exact ABi ⟨by omega,rfl,by omega⟩
 obtain ⟨rfl,h2⟩:=hJ;unfold AJ1;refine AB5 (fun h=>?_) fun h=>ABi rfl;have Aa:j < W.length:=by omega
 refine AB6 (n:=0) (x:=W) rfl rfl (AB6 (List.getElem?_eq_getElem Aa) rfl (AB6 (n:=0) (x:=W) rfl rfl (AB6 (List.getElem?_eq_getElem Aa) rfl ?_)));rw [if_neg (by simp)];exact ABi ⟨by omega,AGv (by omega),by omega⟩
theorem AZu {g kd k raw w:Int} {Z Y:List Int} {M:List (List Int)} {V:List Int} {wild made:Bool} (hg:0<=g/\g < 256) (hk:0<=k/\k < 256) (hw:0<=w/\w < 65536) (hM:Ach M):AHc (AEr + 1) M V g kd Z Y k raw w wild made=some true:=by
 have hf:AEr < AEr + 1:=Nat.lt_succ_self _;have Ad:100 < AEr + 1:=Nat.lt_of_le_of_lt (by decide) hf;have Ab:2147483648 < AEr + 1:=Nat.lt_of_le_of_lt (by decide) hf;apply ok_eq;unfold AHc;have aw:Ok (ADs (AEr + 1)) (· =true):=⟨true,Acj,rfl⟩;refine ABo (Q:=fun ex=>ex= .inl true∨(ex= .inr ()/\V.length<=12)) ?_ fun ex hex=>?_
 ·exact ABo (Akl Ad) fun l _=>AB5 (fun _=>ABo aw fun x hx=>ABi (.inl (by rw [hx]))) fun _=>AB5 (fun _=>ABo aw fun x hx=>ABi (.inl (by rw [hx]))) fun h=>ABi (.inr ⟨rfl,by omega⟩)
 rcases hex with rfl | ⟨rfl,hl⟩
 ·exact ABi rfl
 refine ABo (Akm hk) fun p _=>?_
 have key:∀ (M:List (List Int)) (p:Int) (V:List Int),Ach M->V.length<=12->Ok ((AGd (AEr + 1) M p V).bind fun (Af,Ag)=>((AD1 (AEr + 1) M p V).bind fun (Ah,Ai)=>(if Ag=Ai then ((AEk (AEr + 1) ([Af]:List (List Int)) ([Ah]:List (List Int))).bind fun Aj=>(if Aj=true then ((ADs (AEr + 1)).bind fun Ak=>(some Ak)) else (some false))) else (some false)))) (· =true):=fun M p V hM hl=>by
   obtain ⟨r,h1,h2,h3⟩:=Akj (p:=p) (V:=V) hM Ab
   rw [h1,h2]
   obtain ⟨x,y⟩:=r
   dsimp only at h3
   simp only [Option.bind_some,if_true]
   refine ABo (Aq1 (W:=x) (by rcases h3 with h3 | h3 <;> simp [h3] <;> omega) Ad) fun b hb=>?_
   subst hb
   rw [if_pos rfl]
   exact ABo aw fun x hx=>ABi hx
 refine AB5 (fun _=>ABo (As5 hg (by decide) hf) fun h hh=>?_) fun _=>key M p V hM hl;obtain ⟨n,A,rfl,h1,h2,R,-⟩:=hh;have hA:=An1 (by omega) R;have RM:=Aqr h1 (by omega) R;refine ABo (Afb RM hk.1 hk.2 Ab) fun q hq=>?_;obtain ⟨P,rfl,h3,Am,ho,hd⟩:=hq;refine ABo (Atg RM h3 (by omega) hw Ab) fun r hr=>?_;obtain ⟨W,b⟩:=r;have Ao:W.length<=8:=hr.2;exact key _ _ _ hA (by omega)
end Go.Proofs.YtiegjkmfpcgjjaaGreatDoor
