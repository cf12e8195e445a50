/-
  Texts of a proof, joined. Conditions stand in each statement.
-/
import Derived.RangeFuncRecord
import Derived.OrdersIn
import Derived.Test.YtiegjkmfpcgjjaaGreatDoorMLineLifts4
set_option linter.unusedVariables false
set_option linter.unusedSimpArgs false
namespace Go.QF
open Go
def FR (r:Option Nat):Fence:= { Fence.wide with round:=r }
theorem Ahm {r:Option Nat} {m:Nat} {P:Program} {f:FuncId} {args:Array Value} {w:World} {R:Ending->World->Prop} (h:Calls P f args w R):CallsIn (FR r) m P f args w R:=
  (callsIn_wide (n:=m)).2 h
structure AL1 (D:List Deferred) (n:Nat) (e:Env) (a:Act):Prop where
  r:Rep n e { a with defers:=[] }
  d:a.defers=D
theorem AL1.eval {D:List Deferred} {n:Nat} {e:Env} {a:Act} (r:AL1 D n e a):a.eval=e.ev:=r.r.eval
theorem AL1.put {D:List Deferred} {n:Nat} {e:Env} {a:Act} (r:AL1 D n e a) (d:Option Nat) (v:Value) (hd:∀ x,d=some x->x < n):AL1 D n (e.put d v) (a.put d v):=by
 have h1:=r.r.put d v hd;have h2:=r.d
 cases d with
 | none=>exact ⟨h1,h2⟩
 | some d=>exact ⟨h1,h2⟩
theorem AL1.yields {D:List Deferred} {n:Nat} {e:Env} {a:Act} (r:AL1 D n e a) (ops:Array Oper):yielded ops a.tmps=AI2 ops e:=r.r.yields ops
theorem AL1.of {n:Nat} {e:Env} {a:Act} (r:Rep n e a):AL1 [] n e a:=⟨⟨r.size,rfl,r.get⟩,r.defers⟩
theorem AL1.rep {n:Nat} {e:Env} {a:Act} (r:AL1 [] n e a):Rep n e a:=⟨r.r.size,r.d,r.r.get⟩
def APh (o:Oper):Bool:=match o.op with | .defer _=>false | _=>true
theorem ATm {P:Program} {B:ABg->Prop} {st:Bool} {ops:Array Oper} {Q:Exit->Act->World->Prop} {i:Nat} {o:Oper} {n m:Nat} {ro:Option Nat} {D:List Deferred} {e:Env} {a:Act} {w:World} {K:Env->ABg->Prop} {K':Act->World->Prop} (hi:ops[i]? =some o) (hnd:APh o=true) (hd:∀ x,o.dst=some x->x < n) (r:AL1 D n e a) (H:GOp P B st ops o e w.heap K) (hK:∀ e' a' w',AL1 D n e' a'->Same w w'->K e' w'.heap->K' a' w'):wpOpIn (FR ro) m P ops Q i K' a w:=by
 unfold wpOpIn;simp only [hi];unfold GOp at H;rw [r.yields ops];split
 ·rename_i hw;rw [if_pos hw] at H;unfold Oper.wpIn;refine ⟨fun _ _=>trivial,?_⟩;rw [Oper.semAt_eq _ _ _ (fun c hc=>by simp [APh,hc] at hnd),r.eval]
  have eff:∀ {K:Value->ABg->Prop},ANp P e.ev o w.heap K->(∀ v h',K v h'-> ∀ a' w',AL1 D n (e.put o.dst v) a'->Same w w'->w'.heap=h'->K' a' w')->o.uponIn (FR ro) m P a K' Q ((execOp e.ev o).run P w):=by
    intro K H hK
    have H':=H w rfl
    generalize (execOp e.ev o).run P w=res at H'
    cases res with
    | ok nx w'=>
      cases nx <;> simp only [ANb] at H' <;> simp only [Oper.uponIn]
      case value v=>exact hK _ _ H'.2 _ _ (r.put _ _ hd) H'.1 rfl
      case skip=>exact hK _ _ H'.2 _ _ (r.put _ _ hd) H'.1 rfl
      case enter f args=>
        refine ⟨fun hh=>by simp [FR,Fence.wide] at hh,(Ahm H'.2).mono fun en w'' ⟨v,he,hs,hk⟩=>?_⟩
        subst he
        exact hK _ _ hk _ _ (r.put _ _ hd) (H'.1.trans hs) rfl
    | halt x w'=>exact H'.elim
  unfold SOp at H;split at H
  ·obtain ⟨v,hv,hk⟩:=H;rw [hv w];exact hK _ _ _ (r.put _ _ hd) (.refl w) hk
  ·obtain ⟨v,hv,hk⟩:=H;rw [hv w rfl];exact hK _ _ _ (r.put _ _ hd) (.refl w) hk
  ·obtain ⟨v,hb,hv,hk⟩:=H;rw [hv w hb];exact hK _ _ _ (r.put _ _ hd) (.refl w) hk
  ·exact eff H.2 fun v h' hk a' w' r' s' hh=>hK _ _ _ r' s' (by rw [hh];exact hk.2)
  ·exact eff H fun v h' hk a' w' r' s' hh=>hK _ _ _ r' s' (by rw [hh];exact hk)
 ·rename_i hw;rw [if_neg hw] at H;exact ⟨fun _ _=>trivial,hK _ _ _ (r.put _ _ hd) (.refl w) H⟩
section
variable {P:Program} {ops:Array Oper} {m:Nat} {ro:Option Nat} {D:List Deferred}
theorem AYx {B:ABg->Prop} {n:Nat} {Q:Exit->Act->World->Prop} (hok:AT5 n ops true=true) (hnd:∀ (j:Nat) (o:Oper),ops[j]? =some o->APh o=true):∀ (fuel:Nat) (R:List Nat) (listed:Array Bool) (e:Env) (a:Act) (w:World) (K:Env->ABg->Prop),
    R.length=fuel->List.Pairwise (· < ·) R->listed.size=ops.size->(∀ j,j∈R↔(j < ops.size/\listed.getD j true=false))->
    (∀ j oj,listed.getD j false=true->ops[j]? =some oj-> ∀ ed∈oj.after,Region.binds .any ed=true->listed.getD ed.on false=true)->
    AL1 D n e a->LI P B (ALw ops true) ops R e w.heap K->(∀ e' a' w',AL1 D n e' a'->Same w w'->K e' w'.heap->Q .normal a' w')->
    wpAnyIn (FR ro) m P .any ops Q fuel listed a w:=by
 intro fuel
 induction fuel with
 | zero=>
   intro R listed e a w K hlen _ _ hmem _ r H hK
   obtain rfl:R=[]:=List.length_eq_zero_iff.1 hlen
   refine ⟨?_,hK _ _ _ r (.refl w) H⟩
   refine List.eq_nil_iff_forall_not_mem.2 fun j hj=>?_
   obtain ⟨hjl,oj,hoj,_⟩:=mem_ready.1 hj
   have:=(hmem j).2 ⟨(Array.getElem?_eq_some_iff.1 hoj).1,hjl⟩
   cases this
 | succ fuel ih=>
   intro R listed e a w K hlen hpw hsz hmem hcl r H hK
   constructor
   · intro hr
     exfalso
     cases R with
     | nil=>simp at hlen
     | cons j R=>
       obtain ⟨hjs,hjl⟩:=(hmem j).1 (List.mem_cons_self ..)
       obtain ⟨oj,hoj⟩:∃ oj,ops[j]? =some oj:=⟨ops[j],Array.getElem?_eq_getElem hjs⟩
       have:j∈Region.ready .any ops listed:=mem_ready.2 ⟨hjl,oj,hoj,fun ed hed hbd=>by
         obtain ⟨_,_,hd⟩:=AKu hok hoj
         have hlt:=(hd rfl).1 ed hed hbd
         cases hl:listed.getD ed.on false with
         | true=>rfl
         | false=>
           exfalso
           have hs:ed.on < ops.size:=Nat.lt_trans hlt hjs
           have hm:ed.on∈j :: R:=(hmem ed.on).2 ⟨hs,by
             have h':ed.on < listed.size:=by omega
             simp [h'] at hl ⊢;exact hl⟩
           rcases List.mem_cons.1 hm with he | he
           · omega
           · have:=(List.pairwise_cons.1 hpw).1 _ he
             omega⟩
       rw [hr] at this
       cases this
   · intro i hi
     obtain ⟨hil,oi,hoi,hall⟩:=mem_ready.1 hi
     have his:i < ops.size:=(Array.getElem?_eq_some_iff.1 hoi).1
     have hiR:i∈R:=(hmem i).2 ⟨his,hil⟩
     obtain ⟨R1,R2,rfl⟩:=List.append_of_mem hiR
     obtain ⟨hdi,hsi,hdri⟩:=AKu hok hoi
     have hpw':=List.pairwise_append.1 hpw
     have hb:LI P B (ALw ops true) ops (i :: (R1 ++ R2)) e w.heap K:=by
       refine LI.bubble hoi hsi R1 (fun k hk=>?_) H
       have hki:k < i:=hpw'.2.2 k hk i (List.mem_cons_self ..)
       have hks:k < ops.size:=Nat.lt_trans hki his
       obtain ⟨ok,hok'⟩:∃ ok,ops[k]? =some ok:=⟨ops[k],Array.getElem?_eq_getElem hks⟩
       refine ⟨ok,hok',(AKu hok hok').2.1,?_⟩
       rcases (hdri rfl).2 k ok hki hok' with ⟨nre,hre⟩ | h
       · exfalso
         have h1:listed.getD k false=true:=AIw (L:=fun j=>listed.getD j false=true) hcl nre k i oi hoi hall hre
         have h2:=((hmem k).1 (List.mem_append_left _ hk)).2
         have hks':k < listed.size:=by omega
         simp [hks'] at h1 h2
         rw [h1] at h2;cases h2
       · exact h
     simp only [LI,hoi] at hb
     refine ATm hoi (hnd i oi hoi) hdi r hb fun e' a' w' r' hs hk=>?_
     have his':i < listed.size:=by omega
     refine ih (R1 ++ R2) _ e' a' w' K ?_ ?_ ?_ ?_ ?_ r' hk (fun e2 a2 w2 r2 s2 k2=>hK _ _ _ r2 (hs.trans s2) k2)
     · simp at hlen ⊢;omega
     · refine List.pairwise_append.2 ⟨hpw'.1,(List.pairwise_cons.1 hpw'.2.1).2,fun x hx y hy=>hpw'.2.2 x hx y (List.mem_cons_of_mem _ hy)⟩
     · simp [hsz]
     · intro j
       have hm:=hmem j
       constructor
       · intro hj
         have hj':j∈R1 ++ i :: R2:=by
           rcases List.mem_append.1 hj with h | h
           · exact List.mem_append_left _ h
           · exact List.mem_append_right _ (List.mem_cons_of_mem _ h)
         obtain ⟨h1,h2⟩:=hm.1 hj'
         have hne:i≠j:=by
           intro he
           subst he
           rcases List.mem_append.1 hj with h | h
           · have:=hpw'.2.2 i h i (List.mem_cons_self ..);omega
           · have:=(List.pairwise_cons.1 hpw'.2.1).1 i h;omega
         exact ⟨h1,by rw [getD_set_ne true hne];exact h2⟩
       · rintro ⟨h1,h2⟩
         have hne:i≠j:=by
           intro he
           subst he
           simp [his'] at h2
         rw [getD_set_ne true hne] at h2
         have:=hm.2 ⟨h1,h2⟩
         rcases List.mem_append.1 this with h | h
         · exact List.mem_append_left _ h
         · rcases List.mem_cons.1 h with h | h
           · exact absurd h.symm hne
           · exact List.mem_append_right _ h
     · intro j oj hj hoj ed hed hbd
       by_cases hij:i=j
       · subst hij
         rw [hoi] at hoj
         injection hoj with hoj
         subst hoj
         exact getD_set_true (hall ed hed hbd)
       · rw [getD_set_ne false hij] at hj
         exact getD_set_true (hcl j oj hj hoj ed hed hbd)
theorem ASf {B:ABg->Prop} {n:Nat} {Q:Exit->Act->World->Prop} (rest:List Nat):∀ (l:List Oper) (k:Nat) (e:Env) (a:Act) (w:World) (K:Env->ABg->Prop),
    (∀ (j:Nat) (o:Oper),l[j]? =some o->ops[k + j]? =some o/\APh o=true/\ ∀ x,o.dst=some x->x < n)->AL1 D n e a->RL P B false ops l e w.heap K->
    (∀ e' a' w',AL1 D n e' a'->Same w w'->K e' w'.heap->wpOpsIn (FR ro) m P ops Q rest a' w')->wpOpsIn (FR ro) m P ops Q (List.range' k l.length ++ rest) a w:=by
  intro l;induction l with
  | nil=>intro k e a w K _ r H hK;exact hK _ _ _ r (.refl w) H
  | cons o l ih=>
    intro k e a w K hl r H hK;rw [List.length_cons,List.range'_succ,List.cons_append,wpOpsIn_cons];obtain ⟨h1,h2,h3⟩:=hl 0 o rfl;refine ATm h1 h2 h3 r H fun e' a' w' r' hs hk=>?_;exact ih (k + 1) e' a' w' K (fun j o hj=>by have:=hl (j + 1) o hj;rwa [<- Nat.add_assoc,Nat.add_right_comm] at this) r' hk fun e2 a2 w2 r2 s2 k2=>hK _ _ _ r2 (hs.trans s2) k2
theorem AUv {B:ABg->Prop} {n:Nat} (hmx:P.follows .mixedOrders=true) {id:Nat} {draw:Bool} {Q:Exit->Act->World->Prop} {e:Env} {a:Act} {w:World} {K:Env->ABg->Prop} (hok:AT5 n ops draw=true) (hnd:∀ (j:Nat) (o:Oper),ops[j]? =some o->APh o=true) (r:AL1 D n e a) (H:RL P B (ALw ops draw) ops ops.toList e w.heap K) (hK:∀ e' a' w',AL1 D n e' a'->Same w w'->K e' w'.heap->Q .normal a' w'):(Code.region id ops draw).wpIn (FR ro) m P Q a w:=by
 cases draw with
 | true=>
   have HL:LI P B (ALw ops true) ops (List.range ops.size) e w.heap K:=by
     rw [List.range_eq_range',<- Array.length_toList]
     exact Apu ops.toList 0 (by simp) e _ H
   refine wpIn_region_any hmx (AYx hok hnd ops.size (List.range ops.size) (Array.replicate ops.size false) e a { w with drawn:=w.drawn + 1 } K (by simp)
       List.pairwise_lt_range (by simp) (fun j=>by
         simp only [List.mem_range]
         constructor
         · intro h;exact ⟨h,by simp [h]⟩
         · exact fun h=>h.1)
       (fun j oj hj _=>by
         exfalso
         rcases Nat.lt_or_ge j ops.size with h' | h'
         · simp [h'] at hj
         · simp [h'] at hj) r HL
       (fun e' a' w' r' hs hk=>hK e' a' w' r' ⟨hs.os,hs.tape,hs.output⟩ hk))
 | false=>
   refine wpIn_region ?_
   have:=ASf (ro:=ro) (m:=m) (Q:=Q) (D:=D) (n:=n) [] ops.toList 0 e a w K (fun j o hj=>by
     have hj':ops[j]? =some o:=by simpa using hj
     exact ⟨by simpa using hj',hnd j o hj',(AKu hok hj').1⟩) r H (fun e' a' w' r' s k=>hK _ _ _ r' s k)
   rw [List.append_nil,Array.length_toList,<- List.range_eq_range'] at this
   exact this
end
def WI (P:Program):Code->(Exit->Env->ABg->Prop)->Env->ABg->Prop
  | .skip,Q,e,h=>Q .normal e h
  | .region _ ops draw,Q,e,h=> ∃ B,RL P B (ALw ops draw) ops ops.toList e h (Q .normal)
  | .seq a b,Q,e,h=>WI P a (AJ4 (fun e h=>WI P b Q e h) Q) e h
  | .cond c x y,Q,e,h=> ∃ b,e.ev c= .bool b/\(b=true->WI P x Q e h)/\(b=false->WI P y Q e h)
  | .block id c,Q,e,h=>WI P c (AKg id Q) e h
  | .exit id,Q,e,h=>Q (.exit id) e h
  | .ret,Q,e,h=>Q .ret e h
  | .label _,Q,e,h=>Q .normal e h
  | _,_,_,_=>False
def okI (n:Nat):Code->Bool
  | .region _ ops draw=>AT5 n ops draw && ops.toList.all APh
  | .seq a b=>okI n a && okI n b
  | .cond _ a b=>okI n a && okI n b
  | .block _ c=>okI n c
  | .skip | .exit _ | .ret | .label _=>true
  | _=>false
theorem WI.sound {P:Program} (hmx:P.follows .mixedOrders=true) {n m:Nat} {ro:Option Nat} {D:List Deferred} {c:Code}:∀ {Q:Exit->Env->ABg->Prop} {Q':Exit->Act->World->Prop} {e:Env} {a:Act} {w:World},okI n c=true->AL1 D n e a->WI P c Q e w.heap->
    (∀ x e' a' w',AL1 D n e' a'->Same w w'->Q x e' w'.heap->Q' x a' w')->c.wpIn (FR ro) m P Q' a w:=by
 induction c with
 | skip=>intro Q Q' e a w _ r H hQ;exact wpIn_skip (hQ _ _ _ _ r (.refl w) H)
 | region id ops draw=>
   intro Q Q' e a w hok r H hQ
   simp only [okI,Bool.and_eq_true] at hok
   obtain ⟨B,H⟩:=H
   exact AUv hmx hok.1 (fun j o hj=>List.all_eq_true.1 hok.2 o (List.mem_of_getElem? (by simpa using hj))) r H fun e' a' w' r' s k=>hQ _ _ _ _ r' s k
 | seq x y ihx ihy=>
   intro Q Q' e a w hok r H hQ
   simp only [okI,Bool.and_eq_true] at hok
   refine wpIn_seq (ihx hok.1 r H fun ex e' a' w' r' s k=>?_)
   cases ex <;> first | exact hQ _ _ _ _ r' s k | exact ihy hok.2 r' k fun Ae e2 a2 w2 r2 s2 k2=>hQ _ _ _ _ r2 (s.trans s2) k2
 | cond c x y ihx ihy=>
   intro Q Q' e a w hok r H hQ
   simp only [okI,Bool.and_eq_true] at hok
   obtain ⟨b,hb,h1,h2⟩:=H
   refine wpIn_cond_split (t:=b) (by rw [r.eval];exact hb) (fun hh=>ihx hok.1 r (h1 hh) hQ) (fun hh=>ihy hok.2 r (h2 hh) hQ)
 | block id c ih=>
   intro Q Q' e a w hok r H hQ
   refine wpIn_block (ih hok r H fun ex e' a' w' r' s k=>?_)
   cases ex <;> first | exact hQ _ _ _ _ r' s k | skip
   rename_i id'
   by_cases hid:id'=id
   · simp only [AKg,Exit.inBlock,hid,if_true] at k ⊢;exact hQ _ _ _ _ r' s k
   · simp only [AKg,Exit.inBlock,hid,if_false] at k ⊢;exact hQ _ _ _ _ r' s k
 | exit id=>intro Q Q' e a w _ r H hQ;exact wpIn_exit (hQ _ _ _ _ r (.refl w) H)
 | ret=>intro Q Q' e a w _ r H hQ;exact wpIn_ret (hQ _ _ _ _ r (.refl w) H)
 | label=>intro Q Q' e a w _ r H hQ;exact wpIn_label (hQ _ _ _ _ r (.refl w) H)
 | loop=>intro Q Q' e a w _ _ H;exact H.elim
 | rangeFunc=>intro Q Q' e a w _ _ H;exact H.elim
 | scope=>intro Q Q' e a w _ _ H;exact H.elim
 | goto=>intro Q Q' e a w _ _ H;exact H.elim
 | refuse=>intro Q Q' e a w _ _ H;exact H.elim
section
variable {P:Program} {Q:Exit->Env->ABg->Prop} {e:Env} {h:ABg}
theorem Arz (H:Q .normal e h):WI P .skip Q e h:=H
theorem Atb (H:Q .ret e h):WI P .ret Q e h:=H
theorem Aqf {a b:Code} (H:WI P a (AJ4 (fun e h=>WI P b Q e h) Q) e h):WI P (.seq a b) Q e h:=H
theorem Ao9 {id:Nat} {c:Code} (H:WI P c (AKg id Q) e h):WI P (.block id c) Q e h:=H
theorem Amm {id:Nat} {l:List Oper} (H:RL P (fun _=>True) false l.toArray l e h (Q .normal)):WI P (.region id l.toArray false) Q e h:=⟨fun _=>True,H⟩
theorem Apa {id:Nat} {l:List Oper} (B:ABg->Prop) (hst:(ALw l.toArray true,AWy l.toArray true)=(true,true)) (H:RL P B true l.toArray l e h (Q .normal)):WI P (.region id l.toArray true) Q e h:=
  ⟨B,by rw [(Prod.mk.inj hst).1];exact H⟩
end
def AZy (K:Env->ABg->Prop):Exit->Env->ABg->Prop
  | .normal=>K
  | _=>fun _ _=>False
def ARg (P:Program) (l:Nat) (args:List Value) (h:ABg) (K:Value->ABg->Prop):Prop:=
  ∀ w:World,w.heap=h-> ∃ f tmps assign body,(Instr.yield l args.toArray).run P w= .ok (.round l f tmps assign body) w/\RoundIn (FR none) 0 P l f tmps assign body w fun en w'=> ∃ v,en= .returned v/\Same w w'/\K v w'.heap
def AMc (f:FuncId) (tmps:Array Value) (p:Tmp) (assign body:Code) (r:Nat):Loop:= { state:= .ready,pending:=none,fn:=f,tmps,params:= #[p],assign,body,defers:=r }
def Ahn (f:FuncId) (tmps:Array Value) (p:Tmp) (assign body:Code) (r:Nat):Loop:= { state:= .busy,pending:=none,fn:=f,tmps,params:= #[p],assign,body,defers:=r }
theorem AUw (w:World) (l:Nat) (o:Obj):Same w (w.putObj l o):=⟨rfl,rfl,rfl⟩
theorem Ai5 {P:Program} (hmx:P.follows .mixedOrders=true) {l n r f:Nat} {tmps:Array Value} {p:Tmp} {assign body:Code} {v:Value} {e0:Env} {h:ABg} {K:Value->ABg->Prop} (hl:h[l]? =some (.loop (AMc f tmps p assign body r))) (hn:tmps.size=n) (he:∀ t,tmps.getD t undef=e0 t) (hp:p < n) (Ag:okI n assign=true) (Ah:okI n body=true) (H:WI P assign (AZy fun e1 h1=>h1[l]? =some (.loop (AMc f tmps p assign body r))/\WI P body (AZy fun _ h2=>h2[l]? =some (.loop (Ahn f tmps p assign body r))/\K (.bool true) (h2.setIfInBounds l (.loop (AMc f tmps p assign body r)))) e1
      (h1.setIfInBounds l (.loop (Ahn f tmps p assign body r)))) (e0.set p v) h):ARg P l [v] h K:=by
 intro w hw;subst hw;refine ⟨_,_,_,_,run_yield hl rfl,roundIn_of_wpIn trivial ?_⟩;have hrep:Rep n e0 { tmps:=tmps,defers:=[] } :=⟨hn,rfl,he⟩;have Ai:AL1 [] n (e0.set p v) { tmps:=tmps.setIfInBounds p v,defers:=[] } :=AL1.of (hrep.put (some p) v fun x hx=>by cases hx;exact hp);have htm:(((AMc f tmps p assign body r).params.zip #[v]).foldl (fun tmps (x:Tmp × Value)=>match x with | (t,a)=>tmps.setIfInBounds t a) (AMc f tmps p assign body r).tmps)=tmps.setIfInBounds p v:=by simp [AMc]
 have hz:([v]:List Value).toArray= #[v]:=rfl;rw [hz,htm];refine WI.sound (ro:=some l) hmx Ag Ai H fun x e1 a1 w1 r1 s1 k1=>?_;cases x <;> first | exact k1.elim | skip
 obtain ⟨k1,k2⟩:=k1;refine ⟨_,run_beginRound k1 rfl,?_⟩;refine WI.sound (ro:=some l) hmx Ah r1 (w:=w1.putObj l (.loop (Ahn f tmps p assign body r))) k2 fun x e2 a2 w2 r2 s2 k2=>?_;cases x <;> first | exact k2.elim | skip
 obtain ⟨k2,k3⟩:=k2;exact ⟨_,_,run_endRound none k2,.bool true,rfl,(s1.trans (AUw _ _ _)).trans (s2.trans (AUw _ _ _)),k3⟩
theorem RL.frameT {P:Program} {B:ABg->Prop} {st:Bool} {ops:Array Oper} {l:List Oper} {e e0:Env} {h:ABg} {K:Env->ABg->Prop} {T:Nat->Prop} (hl:∀ o∈l,∀ t,o.dst=some t->T t) (he:∀ t,¬ T t->e t=e0 t) (H:RL P B st ops l e h K):RL P B st ops l e h fun e' h'=>K e' h'/\ ∀ t,¬ T t->e' t=e0 t:=
  (RL.frame0 H).mono fun e' h' hk=>⟨hk.1,fun t ht=>(hk.2 t fun o ho hd=>ht (hl o ho t hd)).trans (he t ht)⟩
theorem Apb {P:Program} {Q:Exit->Env->ABg->Prop} {e:Env} {h:ABg} {id l:Nat} {pre post:List Oper} {d:Tmp} {c:Operand} {xs:List Operand} {ts:Array TypeId} {ty:TypeId} {pos:String} {af:Array Edge}
    (hnd:((pre ++ post).all APh && (pre ++ ⟨some d,.call ⟨.value c,xs.toArray,ts⟩,ty,pos,af,none⟩ :: post).all AG7)=true)
    (H:RL P (fun _=>True) false (pre ++ ⟨some d,.call ⟨.value c,xs.toArray,ts⟩,ty,pos,af,none⟩ :: post).toArray pre e h fun e1 h1=>e1.ev c= .func (.yield l) #[] #[]/\ ∃ l1,xs.map e1.ev=l1/\ARg P l l1 h1 fun v h2=>
      RL P (fun _=>True) false (pre ++ ⟨some d,.call ⟨.value c,xs.toArray,ts⟩,ty,pos,af,none⟩ :: post).toArray post (e1.set d v) h2 (Q .normal)):
    W P (.region id (pre ++ ⟨some d,.call ⟨.value c,xs.toArray,ts⟩,ty,pos,af,none⟩ :: post).toArray false) Q e h:=by
  intro hmx n id' a w Q' hb r hw hQ;subst hw;rw [<- wpIn_wide (n:=1)];show (Code.region id' _ false).wpIn (FR none) 1 P Q' a w;generalize hops:(pre ++ (⟨some d,.call ⟨.value c,xs.toArray,ts⟩,ty,pos,af,none⟩:Oper) :: post)=ops at *
  have hat:∀ (j:Nat) (o:Oper),ops[j]? =some o->(∀ x,o.dst=some x->x < n):=fun j o hj=>(AL3 (ops:=ops.toArray) hb (j:=j) (by simpa using hj)).1
  have hsz:List.range ops.toArray.size=List.range' 0 pre.length ++ pre.length :: (List.range' (pre.length + 1) post.length ++ []):=by
    rw [List.range_eq_range',<- hops];simp only [List.size_toArray,List.length_append,List.length_cons,List.append_nil];rw [<- List.range'_append_1,Nat.zero_add,List.range'_succ]
  rw [Bool.and_eq_true] at hnd;have hnd:=List.all_eq_true.1 hnd.1;refine wpIn_region ?_;rw [hsz]
  refine ASf (D:=[]) (n:=n) (B:=fun _=>True) _ pre 0 e a w _ (fun j o hj=>?_) (AL1.of r) (RL.frameT (T:=fun t=> ∃ o∈ops,o.dst=some t) (e0:=e) (fun o ho t ht=>⟨o,by rw [<- hops];simp [ho],ht⟩) (fun _ _=>rfl) H) fun e1 a1 w1 r1 s1 k1=>?_
  · have h1:ops[j]? =some o:=by rw [<- hops,List.getElem?_append_left (List.getElem?_eq_some_iff.1 hj).1];exact hj
    exact ⟨by simpa using h1,hnd o (List.mem_append_left _ (List.mem_of_getElem? hj)),hat j o h1⟩
  obtain ⟨⟨hc,l1,hl1,HY⟩,hf1⟩:=k1;rw [wpOpsIn_cons];have hop:ops.toArray[pre.length]? =some ⟨some d,.call ⟨.value c,xs.toArray,ts⟩,ty,pos,af,none⟩:=by rw [<- hops];simp
  unfold wpOpIn;simp only [hop];rw [if_pos (by rfl)];refine ⟨fun _ _=>trivial,?_⟩;obtain ⟨f,tmps,assign,body,hy,HR⟩:=HY w1 rfl
  have hrun:(execOp a1.eval ⟨some d,.call ⟨.value c,xs.toArray,ts⟩,ty,pos,af,none⟩).run P w1= .ok (.round l f tmps assign body) w1:=by
    rw [r1.eval];simp only [execOp,resolve,List.map_toArray,hl1,hc,Deferred.ofValue,pure,bind,Sem.bind,invoke,Array.append_empty,Array.empty_append];exact hy
  show Oper.uponIn _ _ _ _ _ _ _ ((execOp a1.eval ⟨some d,.call ⟨.value c,xs.toArray,ts⟩,ty,pos,af,none⟩).run P w1);rw [hrun];refine ⟨fun _=>Nat.le_refl 1,HR.mono fun en w2 hen=>?_⟩;obtain ⟨v,rfl,s2,k2⟩:=hen;have hdn:d < n:=hat pre.length _ (by simpa using hop) d rfl;have r2:AL1 [] n (e1.set d v) (a1.put (some d) v):=r1.put (some d) v fun x hx=>by cases hx;exact hdn
  refine ASf (D:=[]) (n:=n) (B:=fun _=>True) [] post (pre.length + 1) (e1.set d v) _ w2 _ (fun j o hj=>?_) r2 (RL.frameT (T:=fun t=> ∃ o∈ops,o.dst=some t) (e0:=e) (fun o ho t ht=>⟨o,by rw [<- hops];simp [ho],ht⟩) (fun t ht=>?_) k2) fun e3 a3 w3 r3 s3 k3=>?_
  · have h1:ops[pre.length + 1 + j]? =some o:=by rw [<- hops,List.getElem?_append_right (by omega),show pre.length + 1 + j - pre.length=j + 1 from by omega];exact hj
    exact ⟨by simpa using h1,hnd o (List.mem_append_right _ (List.mem_of_getElem? hj)),hat _ o h1⟩
  · rw [Env.set_other _ _ (fun he=>ht ⟨_,by rw [<- hops];exact List.mem_append_right _ (List.mem_cons_self ..),by rw [he]⟩)];exact hf1 t ht
  · exact hQ e3 a3 w3 r3.rep ((s1.trans s2).trans s3) k3.1 fun t ht=>k3.2 t fun ⟨o,ho,hd⟩=>ht o (by simpa using ho) hd
def Afx (P:Program) (g:Operand) (p:Tmp) (assign body:Code) (n:Nat) (K:Nat->Env->ABg->Prop) (e:Env) (h:ABg):Prop:=
  ∃ (f:FuncId) (cl:List Value),e.ev g= .func (.func f) #[] cl.toArray/\ ∀ (fn:FuncId) (tmps:Array Value),tmps.size=n->(∀ t,tmps.getD t undef=e t)-> ∀ (h1:ABg) (r b:Nat),Ext h h1->h.size<=r->h.size<=b->r < h1.size->b < h1.size->r≠b->
    h1[r]? =some (.deferred (some []))->h1[b]? =some (.loop (AMc fn tmps p assign body r))->
    AB8 P f (.func (.yield b) #[] #[] :: cl).toArray h1 fun _ h'=>h'[b]? =some (.loop (AMc fn tmps p assign body r))/\K r e (h'.setIfInBounds b (.loop { AMc fn tmps p assign body r with state:= .exhausted }))
def Atc (P:Program) (rs:List ResultVar) (r:Nat) (K:Value->ABg->Prop):Exit->Env->ABg->Prop
  | .normal,e,h | .ret,e,h=>h[r]? =some (.deferred (some []))/\ ∃ v,AV8 P rs e (h.setIfInBounds r (.deferred none)) v/\K v (h.setIfInBounds r (.deferred none))
  | _,_,_=>False
theorem Adz {P:Program} (hmx:P.follows .mixedOrders=true) {id:Nat} {g:Operand} {p:Tmp} {assign body:Code} {n:Nat} {K:Nat->Env->ABg->Prop} {e1:Env} {a1:Act} {w1:World} {Q':Exit->Act->World->Prop} (r1:Rep n e1 a1) (H:Afx P g p assign body n K e1 w1.heap) (hQ:∀ r e' a' w',AL1 [{ target:= .collected r,args:= #[] }] n e' a'->Same w1 w'->K r e' w'.heap->Q' .normal a' w'):(Code.block id (.rangeFunc g #[p] assign body)).wpIn Fence.wide 1 P Q' a1 w1:=by
 obtain ⟨f2,cl,hg,HC⟩:=H;refine wpIn_block (wpIn_rangeFunc fun fid _=>?_);have Af:(w1.alloc (.deferred (some []))).heap.size=w1.heap.size + 1:=by show (w1.heap.push _).size=_;simp
 have hext:Ext w1.heap ((w1.alloc (.deferred (some []))).alloc (.loop (AMc fid a1.tmps p assign body w1.heap.size))).heap:=by
   show Ext w1.heap ((w1.heap.push _).push _)
   refine ⟨by simp;omega,fun k hk=>?_⟩
   rw [Array.getElem?_push_lt (by simp;omega)]
   simp [Array.getElem_push_lt hk,hk]
 have h1:((w1.alloc (.deferred (some []))).alloc (.loop (AMc fid a1.tmps p assign body w1.heap.size))).heap[w1.heap.size]? =some (.deferred (some [])):=by
   show ((w1.heap.push _).push _)[w1.heap.size]? =_
   rw [Array.getElem?_push_lt (by simp)];simp
 have h2:((w1.alloc (.deferred (some []))).alloc (.loop (AMc fid a1.tmps p assign body w1.heap.size))).heap[w1.heap.size + 1]? =some (.loop (AMc fid a1.tmps p assign body w1.heap.size)):=by
   have:=World.alloc_heap_new (w1.alloc (.deferred (some []))) (.loop (AMc fid a1.tmps p assign body w1.heap.size))
   rwa [Af] at this
 have hsz:((w1.alloc (.deferred (some []))).alloc (.loop (AMc fid a1.tmps p assign body w1.heap.size))).heap.size=w1.heap.size + 2:=by show ((w1.heap.push _).push _).size=_;simp
 obtain ⟨⟨Ai,Aj,Ak,Am⟩,Ao⟩:=HC fid a1.tmps r1.size r1.get _ w1.heap.size (w1.heap.size + 1) hext (Nat.le_refl _) (Nat.le_succ _) (by omega) (by omega) (by omega) h1 h2;have hcall:=AQs ⟨Ai,Aj,Ak,Am⟩ (.func (.yield (w1.heap.size + 1)) #[] #[] :: cl).toArray ((w1.alloc (.deferred (some []))).alloc (.loop (AMc fid a1.tmps p assign body w1.heap.size)));have heval:a1.eval g= .func (.func f2) #[] cl.toArray:=by rw [r1.eval];exact hg
 refine ⟨_,_,_,{ target:= .fn (.func f2) cl.toArray,args:= #[.func (.yield (w1.heap.size + 1)) #[] #[]] },(w1.alloc (.deferred (some []))).alloc (.loop (AMc fid a1.tmps p assign body w1.heap.size)),f2,(.func (.yield (w1.heap.size + 1)) #[] #[] :: cl).toArray,(w1.alloc (.deferred (some []))).alloc (.loop (AMc fid a1.tmps p assign body w1.heap.size)),run_enterLoop_outer fid a1.tmps #[p] assign body,?_,fun _ _=>trivial,?_,fun _=>Nat.le_refl 1,?_⟩
 ·simp only [resolve,heval,Deferred.ofValue,pure,bind,Sem.bind];rw [show (#[] ++ Array.map a1.eval #[Operand.const (Value.func (Fn.yield (w1.heap.size + 1)) #[] #[])]:Array Value)= #[.func (.yield (w1.heap.size + 1)) #[] #[]] by simp;rfl];rfl
 ·show (invoke (.fn (.func f2) cl.toArray) #[.func (.yield (w1.heap.size + 1)) #[] #[]]).run P _=_;simp only [invoke];have:(#[Value.func (.yield (w1.heap.size + 1)) #[] #[]] ++ cl.toArray)=(.func (.yield (w1.heap.size + 1)) #[] #[] :: cl).toArray:=by simp
  rw [this];exact hcall
 ·refine (Ahm (r:=none) (Ao _ rfl)).mono fun en w2 hen=>?_;obtain ⟨v,rfl,s2,k2,k3⟩:=hen;refine ⟨none,_,run_endLoop k2 (by simp [AMc]),?_⟩;have Ar:Same w1 ((w1.alloc (.deferred (some []))).alloc (.loop (AMc fid a1.tmps p assign body w1.heap.size))):=⟨rfl,rfl,rfl⟩;have Au:AL1 [{ target:= .collected w1.heap.size,args:= #[] }] n e1 { a1 with defers:=[{ target:= .collected w1.heap.size,args:= #[] }] ++ a1.defers } :=⟨⟨r1.size,rfl,r1.get⟩,by simp [r1.defers]⟩;exact hQ w1.heap.size e1 _ _ Au (Ar.trans (s2.trans (AUw _ _ _))) k3
theorem Ai6 {P:Program} (hmx:P.follows .mixedOrders=true) {g:Operand} {p:Tmp} {assign body:Code} {n:Nat} {K:Nat->Env->ABg->Prop} {e:Env} {h:ABg} (hok:(okI n assign && okI n body && Nat.blt p n)=true)
    (H:∃ (f:FuncId) (cl:List Value),e.ev g= .func (.func f) #[] cl.toArray/\ ∀ (h1:ABg) (r b:Nat) (ol ob oe:Obj),Ext h h1->h.size<=r->h.size<=b->r < h1.size->b < h1.size->r≠b->h1[r]? =some (.deferred (some []))->h1[b]? =some ol->Aai ol=false->Aai ob=false->Aai oe=false->
      (∀ (v:Value) (h2:ABg) (K':Value->ABg->Prop),h2[b]? =some ol->WI P assign (AZy fun e1 h3=>h3[b]? =some ol/\WI P body (AZy fun _ h4=>h4[b]? =some ob/\K' (.bool true) (h4.setIfInBounds b ol)) e1 (h3.setIfInBounds b ob)) (e.set p v) h2->ARg P b [v] h2 K')->
      AB8 P f (.func (.yield b) #[] #[] :: cl).toArray h1 fun _ h'=>h'[b]? =some ol/\K r e (h'.setIfInBounds b oe)):Afx P g p assign body n K e h:=by
  obtain ⟨f,cl,hg,H⟩:=H;simp only [Bool.and_eq_true] at hok;refine ⟨f,cl,hg,fun fn tmps hn ht h1 r b hE h2 h3 h4 h5 hne hd hl=>?_⟩;exact H h1 r b _ (.loop (Ahn fn tmps p assign body r)) _ hE h2 h3 h4 h5 hne hd hl rfl rfl rfl fun v h2 K' hl2 HW=>Ai5 hmx hl2 hn ht (by have:=hok.2;simpa [Nat.blt,Nat.lt_iff_add_one_le] using this) hok.1.1 hok.1.2 HW
def Ad0:Code->Bool
  | .rangeFunc .. =>true
  | .seq a b=>Ad0 a || Ad0 b
  | .block _ c=>Ad0 c
  | _=>false
def WR (P:Program) (n:Nat):Code->(Nat->Exit->Env->ABg->Prop)->(Exit->Env->ABg->Prop)->Env->ABg->Prop
  | .seq a b,N,Q,e,h=>if Ad0 a=true then WR P n a (fun r=>AJ4 (fun e h=>WI P b (N r) e h) (N r)) (AJ4 (fun e h=>W P b Q e h) Q) e h else W P a (AJ4 (fun e h=>WR P n b N Q e h) Q) e h
  | .block _ (.rangeFunc g ps assign body),N,_,e,h=> ∃ p,ps= #[p]/\Afx P g p assign body n (fun r e h=>N r .normal e h) e h
  | _,_,_,_,_=>False
def okR (n:Nat):Code->Bool
  | .seq a b=>bif Ad0 a then okR n a && okI n b && okC n b else okC n a && okR n b
  | .block _ (.rangeFunc ..)=>true
  | _=>false
theorem Ar0 {P:Program} {n:Nat} {a b:Code} {N:Nat->Exit->Env->ABg->Prop} {Q:Exit->Env->ABg->Prop} {e:Env} {h:ABg} (ha:Ad0 a=true) (H:WR P n a (fun r=>AJ4 (fun e h=>WI P b (N r) e h) (N r)) (AJ4 (fun e h=>W P b Q e h) Q) e h):WR P n (.seq a b) N Q e h:=by
 unfold WR;rw [if_pos ha];exact H
theorem AYe {P:Program} {n:Nat} {a b:Code} {N:Nat->Exit->Env->ABg->Prop} {Q:Exit->Env->ABg->Prop} {e:Env} {h:ABg} (ha:Ad0 a=false) (H:W P a (AJ4 (fun e h=>WR P n b N Q e h) Q) e h):WR P n (.seq a b) N Q e h:=by
 unfold WR;rw [if_neg (by rw [ha];simp)];exact H
theorem Apc {P:Program} (hmx:P.follows .mixedOrders=true) {n id:Nat} {g:Operand} {p:Tmp} {assign body:Code} {N:Nat->Exit->Env->ABg->Prop} {Q:Exit->Env->ABg->Prop} {e:Env} {h:ABg} (hok:(okI n assign && okI n body && Nat.blt p n)=true) (H:∃ (f:FuncId) (cl:List Value),e.ev g= .func (.func f) #[] cl.toArray/\ ∀ (h1:ABg) (r b:Nat) (ol ob oe:Obj),Ext h h1->h.size<=r->h.size<=b->r < h1.size->b < h1.size->r≠b->h1[r]? =some (.deferred (some []))->h1[b]? =some ol->Aai ol=false->Aai ob=false->Aai oe=false->
      (∀ (v:Value) (h2:ABg) (K':Value->ABg->Prop),h2[b]? =some ol->WI P assign (AZy fun e1 h3=>h3[b]? =some ol/\WI P body (AZy fun _ h4=>h4[b]? =some ob/\K' (.bool true) (h4.setIfInBounds b ol)) e1 (h3.setIfInBounds b ob)) (e.set p v) h2->ARg P b [v] h2 K')->
      AB8 P f (.func (.yield b) #[] #[] :: cl).toArray h1 fun _ h'=>h'[b]? =some ol/\N r .normal e (h'.setIfInBounds b oe)):WR P n (.block id (.rangeFunc g #[p] assign body)) N Q e h:=⟨p,rfl,Ai6 hmx hok H⟩
theorem WR.sound {P:Program} (hmx:P.follows .mixedOrders=true) {n:Nat} {c:Code}:∀ {N:Nat->Exit->Env->ABg->Prop} {Q:Exit->Env->ABg->Prop} {Q':Exit->Act->World->Prop} {e:Env} {a:Act} {w:World},okR n c=true->Rep n e a->WR P n c N Q e w.heap->
    (∀ x e' a' w',Rep n e' a'->Same w w'->Q x e' w'.heap->Q' x a' w')->(∀ r x e' a' w',AL1 [{ target:= .collected r,args:= #[] }] n e' a'->Same w w'->N r x e' w'.heap->Q' x a' w')->c.wpIn Fence.wide 1 P Q' a w:=by
 induction c with
 | seq x y ihx ihy=>
   intro N Q Q' e a w hok r H hQ hN
   unfold WR at H
   unfold okR at hok
   by_cases hx:Ad0 x=true
   · rw [if_pos hx] at H
     rw [hx] at hok
     simp only [cond_true,Bool.and_eq_true] at hok
     refine wpIn_seq (ihx hok.1.1 r H (fun ex e' a' w' r' s k=>?_) fun rr ex e' a' w' r' s k=>?_)
     · cases ex <;> first | exact hQ _ _ _ _ r' s k | exact wpIn_wide.2 (W.sound hmx hok.2 r' k fun Ac e2 a2 w2 r2 s2 k2=>hQ _ _ _ _ r2 (s.trans s2) k2)
     · cases ex <;> first | exact hN _ _ _ _ _ r' s k | exact WI.sound (ro:=none) hmx hok.1.2 r' k fun Ac e2 a2 w2 r2 s2 k2=>hN _ _ _ _ _ r2 (s.trans s2) k2
   · rw [if_neg hx] at H
     rw [Bool.not_eq_true] at hx
     rw [hx] at hok
     simp only [cond_false,Bool.and_eq_true] at hok
     refine wpIn_seq (wpIn_wide.2 (W.sound hmx hok.1 r H fun ex e' a' w' r' s k=>?_))
     cases ex <;> first | exact hQ _ _ _ _ r' s k | exact ihy hok.2 r' k (fun Ac e2 a2 w2 r2 s2 k2=>hQ _ _ _ _ r2 (s.trans s2) k2) fun rr Ac e2 a2 w2 r2 s2 k2=>hN _ _ _ _ _ r2 (s.trans s2) k2
 | block id c ih=>
   intro N Q Q' e a w hok r H hQ hN
   cases c <;> first | exact H.elim | skip
   obtain ⟨p,rfl,H⟩:=H
   exact Adz hmx r H fun rr e' a' w' r' s k=>hN _ _ _ _ _ r' s k
 | skip=>intro N Q Q' e a w _ _ H;exact H.elim
 | region=>intro N Q Q' e a w _ _ H;exact H.elim
 | cond=>intro N Q Q' e a w _ _ H;exact H.elim
 | loop=>intro N Q Q' e a w _ _ H;exact H.elim
 | exit=>intro N Q Q' e a w _ _ H;exact H.elim
 | ret=>intro N Q Q' e a w _ _ H;exact H.elim
 | rangeFunc=>intro N Q Q' e a w _ _ H;exact H.elim
 | scope=>intro N Q Q' e a w _ _ H;exact H.elim
 | label=>intro N Q Q' e a w _ _ H;exact H.elim
 | goto=>intro N Q Q' e a w _ _ H;exact H.elim
 | refuse=>intro N Q Q' e a w _ _ H;exact H.elim
theorem Ad1 {P:Program} (hmx:P.follows .mixedOrders=true) {f:FuncId} {fn:Func} {c:Code} {rs:List ResultVar} {n:Nat} {l:List Value} {h:ABg} {K:Value->ABg->Prop} (hf:P.funcs[f]? =some fn) (hnm:(fn.name == "runtime.NumGoroutine")=false) (hb:fn.body=some c) (hr:fn.results=rs.toArray) (hnt:fn.ntmps=n) (hl:Nat.ble l.length n=true) (hok:okR n c=true) (H:WR P n c (fun r=>Atc P rs r K) (Anb P rs K) (AYl l) h):AB8 P f l.toArray h K:=by
 refine ⟨⟨fn,hf,hnm,by simp [hb]⟩,fun w hw=>?_⟩;subst hw;have hl:=Nat.le_of_ble_eq_true hl;rw [<- callsIn_wide (n:=1)];have hres:∀ {e':Env} {a':Act} {w2:World} {D:List Deferred} {v:Value},AL1 D n e' a'->AV8 P rs e' w2.heap v->(results fn a'.tmps).run P w2= .ok v w2:=fun r hv=>hv fn _ _ hr r.r.get rfl;refine callsIn_of_wp_marks hf hb trivial (WR.sound hmx (n:=n) hok (e:=AYl l) ⟨?_,rfl,fun t=>?_⟩ H (fun x e1 a1 w1 r1 s1 k1=>?_) fun r x e3 a3 w3 r3 s3 k3=>?_)
 ·simp [hnt];omega
 ·rw [AW0];simp only [Array.getD_eq_getD_getElem?];rw [Array.getElem?_append];split
  ·simp
  ·rename_i hge;have hge':l.length<=t:=by simpa using hge
   rw [List.getElem?_eq_none hge'];simp only [Option.getD_none];rw [Array.getElem?_replicate];split <;> rfl
 ·have early:∀ {v:Value},AV8 P rs e1 w1.heap v->K v w1.heap->LeavesInM Fence.wide 1 P fn a1.tmps (fun en w'=> ∃ v,en= .returned v/\Same w w'/\K v w'.heap) a1.defers .returning w1:=by
    intro v hv hk
    rw [r1.defers]
    exact ⟨v,hres (AL1.of r1) hv,v,rfl,s1,hk⟩
  cases x <;> first | exact k1.elim | (obtain ⟨v,hv,hk⟩:=k1;exact early hv hk)
 ·have fin:(w3.heap[r]? =some (.deferred (some []))/\ ∃ v,AV8 P rs e3 (w3.heap.setIfInBounds r (.deferred none)) v/\K v (w3.heap.setIfInBounds r (.deferred none)))->LeavesInM Fence.wide 1 P fn a3.tmps (fun en w'=> ∃ v,en= .returned v/\Same w w'/\K v w'.heap) a3.defers .returning w3:=by
    rintro ⟨hd,v,hv,hk⟩
    rw [r3.d]
    refine ⟨by simp,.inl ⟨r,w3.putObj r (.deferred none),rfl,run_takeDeferred hd,?_⟩⟩
    exact ⟨v,hres (w2:=w3.putObj r (.deferred none)) r3 hv,v,rfl,s3.trans (AUw _ _ _),hk⟩
  cases x <;> first | exact k3.elim | exact fin k3
end Go.QF
namespace Go.QF
open Go
theorem Ar1 {P:Program} {B:ABg->Prop} {st:Bool} {ops:Array Oper} {rest:List Oper} {e:Env} {h:ABg} {K:Env->ABg->Prop} {d:Nat} {ty:TypeId} {pos:String} {af:Array Edge} {t el s:Nat} (hT:SlT P t el s) (hb:B h)
    (H:B (h.push (.cells #[] el (0,0)))/\RL P B st ops rest (e.set d (.slice (some ⟨h.size,0,none⟩) 0 0)) (h.push (.cells #[] el (0,0))) K):
    RL P B st ops (⟨some d,.buildSlice t 0 #[],ty,pos,af,none⟩ :: rest) e h K:=by
  refine AN4 rfl rfl hb fun w hw=>?_;subst hw;obtain ⟨hu,i0,hi0,hs0⟩:=hT
  have hrun:(execOp e.ev ⟨some d,.buildSlice t 0 #[],ty,pos,af,none⟩).run P w= .ok (.value (.slice (some ⟨w.heap.size,0,none⟩) 0 0)) (w.alloc (.cells #[] el)):=by
    simp [execOp,Instr.buildSlice,AL4 hu,AOk hi0,Instr.fill,newRow];rw [show Array.range 0= #[] from rfl,Array.map_empty]
  rw [hrun];exact ⟨⟨rfl,rfl,rfl⟩,H.1,H.2⟩
theorem Apd {h:ABg} {κ:IntKind} {a:Option Addr} {n c:Nat} {L:List Int} (H:SlC (cI κ) h (.slice a n c) L) (hn:a=none):L=[]:=by
 subst hn;obtain ⟨Ls,⟨xa,xc,hv,hx⟩,hA⟩:=H;injection hv with h1 h2 h3
 cases Ls with
 | nil=>exact List.eq_nil_of_length_eq_zero hA.1.symm
 | cons r Ls=>
   obtain ⟨b,o,hb,_⟩:=hx 0 r rfl
   rw [<- h1] at hb;cases hb
theorem Ape {h:ABg} {κ:IntKind} {a:Option Addr} {n c:Nat} (H:SlC (cI κ) h (.slice a n c) []):n=0:=by
 obtain ⟨Ls,⟨xa,xc,hv,hx⟩,hA⟩:=H;injection hv with h1 h2 h3;rw [h2];exact hA.1
theorem Apf (h:ABg):Sp h h.size [[]]:=⟨by simp,fun b hb=>by simp at hb⟩
theorem Apg {P:Program} {B:ABg->Prop} {st:Bool} {ops:Array Oper} {rest:List Oper} {e:Env} {h:ABg} {K:Env->ABg->Prop} {d:Nat} {ty:TypeId} {pos:String} {af:Array Edge} {s x:Operand} {t el:TypeId} {g n c:Nat} {xa:Option Addr} (hT:SlT P t el 1) (hb:B h) (hs:e.ev s= .slice (some ⟨g,0,none⟩) 0 0) (hx:e.ev x= .slice xa n c) (hn:n=0)
    (H:RL P B st ops rest (e.set d (.slice (some ⟨g,0,none⟩) 0 0)) h K):RL P B st ops (⟨some d,.call ⟨.builtin .append,#[s,x],#[t,t]⟩,ty,pos,af,none⟩ :: rest) e h K:=by
  subst hn;refine AN4 rfl rfl hb fun w hw=>?_;subst hw;obtain ⟨hu,i,hi,hs0⟩:=hT
  have hc:(Builtin.firstCells i.size 0 (.slice xa 0 c)).run P w= .ok #[] w:=by
    cases xa with
    | none=>exact run_firstCells_none (P:=P) w _ 0 0 c
    | some a=>exact run_firstCells_some (P:=P) w i.size 0 a 0 c [] (by simp) (fun j v hj=>by simp at hj)
  have hrun:(execOp e.ev ⟨some d,.call ⟨.builtin .append,#[s,x],#[t,t]⟩,ty,pos,af,none⟩).run P w= .ok (.value (.slice (some ⟨g,0,none⟩) 0 0)) w:=by
    simp [execOp,resolve,invoke,builtin,hs,hx,Builtin.append_,AL4 hu,AOk hi,Builtin.lenOf,hc,storeCells,Result.andThen]
  rw [hrun];exact ⟨⟨rfl,rfl,rfl⟩,hb,H⟩
theorem Amn {P:Program} {B:ABg->Prop} {st:Bool} {ops:Array Oper} {rest:List Oper} {e:Env} {h:ABg} {K:Env->ABg->Prop} {d:Nat} {ty:TypeId} {pos:String} {af:Array Edge} {x y:Operand} {t t2 el:TypeId} {s:Nat} {a:Option Addr} {n c:Nat} (hT:SlT P t el s) (hx:e.ev x= .slice a n c) (hy:e.ev y= .slice none 0 0) (H:RL P B st ops rest (e.set d (.bool a.isNone)) h K):
    RL P B st ops (⟨some d,.binOp .eql t x y t2,ty,pos,af,none⟩ :: rest) e h K:=
  AF0 (v:= .bool a.isNone) rfl rfl (fun w=>by
    have hr:(Op.equal t (.slice a n c) (.slice none 0 0)).run P w= .ok a.isNone w:=by
      show (Op.equalIn (9999 + 1) t _ _).run P w=_;rw [Op.equalIn];cases a <;> simp [AL4 hT.1]
    simp [execOp,hx,hy,eqGuard,binOp,hr]) H
theorem Aho {h:ABg} {κ:IntKind} {el g:Nat} {v:Value} {L:List Int} (H:AD1 h el g v (L.map (.int κ))) (hel:Nat.beq el 147=false):OwC (cI κ) el h [g] v L:=by
 refine .inr ⟨g,L.map fun a=>[.int κ a],rfl,?_,⟨by simp,fun i cs a h1 h2=>?_⟩,hel⟩
 ·have:=Aak H;rwa [List.map_map] at this
 ·rw [List.getElem?_map,h2] at h1;cases h1;rfl
theorem ARg.mono {P:Program} {l:Nat} {args:List Value} {h:ABg} {K K':Value->ABg->Prop} (H:ARg P l args h K') (hK:∀ v h',K' v h'->K v h'):ARg P l args h K:=fun w hw=>by
  obtain ⟨f,tmps,assign,body,h1,h2⟩:=H w hw
  exact ⟨f,tmps,assign,body,h1,h2.mono fun en w' ⟨v,he,hs,hk⟩=>⟨v,he,hs,hK _ _ hk⟩⟩
theorem Amo {P:Program} {Q:Exit->Env->ABg->Prop} {e:Env} {h:ABg} {id l:Nat} {o1 o2:Oper} {post:List Oper} {d:Tmp} {c:Operand} {xs:List Operand} {ts:Array TypeId} {ty:TypeId} {pos:String} {af:Array Edge} (hnd:(([o1,o2] ++ post).all APh && ([o1,o2] ++ ⟨some d,.call ⟨.value c,xs.toArray,ts⟩,ty,pos,af,none⟩ :: post).all AG7)=true) (H:RL P (fun _=>True) false (o1 :: o2 :: ⟨some d,.call ⟨.value c,xs.toArray,ts⟩,ty,pos,af,none⟩ :: post).toArray [o1,o2] e h fun e1 h1=>e1.ev c= .func (.yield l) #[] #[]/\ ∃ l1,xs.map e1.ev=l1/\ARg P l l1 h1 fun v h2=>
      RL P (fun _=>True) false (o1 :: o2 :: ⟨some d,.call ⟨.value c,xs.toArray,ts⟩,ty,pos,af,none⟩ :: post).toArray post (e1.set d v) h2 (Q .normal)):
    W P (.region id (o1 :: o2 :: ⟨some d,.call ⟨.value c,xs.toArray,ts⟩,ty,pos,af,none⟩ :: post).toArray false) Q e h:=Apb (pre:=[o1,o2]) hnd H
end Go.QF
namespace Go.Proofs.YtiegjkmfpcgjjaaGreatDoor
open Go Go.QF
theorem Aqg:ZeT Tryz.prog 22 (.slice none 0 0) 24:=AR4 (by kernel_rfl)
def aOb (b:Nat) (o:Obj):Asr:=⟨[b],fun h=>h[b]? =some o,fun {G h h'} U d H=>(U.1.2 b (Array.getElem?_eq_some_iff.1 H).1 (d b (by simp))).trans H⟩
namespace Kst
variable {h0 h h':ABg} {l l':List Asr}
theorem ob (k:Kst h0 h l) {i b:Nat} {o:Obj} (e:Rep i l (aOb b o) (aOb b o) l'):h[b]? =some o:=AMj k.p e.1
theorem rg (k:Kst h0 h l) (E:Ext h h') {r b:Nat} {o o2:Obj} (h1:h.size<=r) (h2:h.size<=b) (h3:r < h'.size) (h4:b < h'.size) (hne:r≠b) (H1:h'[r]? =some o) (H2:h'[b]? =some o2):Kst h0 h' (aOb r o :: aOb b o2 :: l):=
  k.n E [aOb r o,aOb b o2] (Ae6 h1 h2 h3 h4 hne) ⟨H1,H2,trivial⟩
theorem uob (k:Kst h0 h l) {i b:Nat} {o o':Obj} (e:Rep i l (aOb b o) (aOb b o') l') (hd:Aai o=false) (hd':Aai o'=false):∃ h',Array.setIfInBounds h b o'=h'/\UpT [b] h h'/\Kst h0 h' l':=by
 have H:h[b]? =some o:=AMj k.p e.1;have hb:=(Array.getElem?_eq_some_iff.1 H).1;have H':(h.setIfInBounds b o')[b]? =some o':=by simp [hb]
 have U:UpT [b] h (h.setIfInBounds b o'):=⟨⟨by simp,fun k hk hn=>by rw [Array.getElem?_setIfInBounds_ne (fun he=>hn (by simp [he]))]⟩,fun x hx hl=>by
   rw [List.mem_singleton.1 hx];exact ⟨⟨o,H,hd⟩,⟨o',H',hd'⟩⟩⟩
 exact ⟨_,rfl,U,k.u e U H' (by simp [aOb]) (fun x hx=>by simp [aOb] at hx;subst hx;simpa using hb) fun x hx=> .inl hx⟩
theorem rowS {α:Type} {c:Cod α} (k:Kst h0 h l) {i er el:Nat} {F:List Nat} {Gs:List (List Nat)} {rs:List Value} {v:Value} {M:List (List α)} (e:Rep i l (aO2 c er el F Gs rs v M) (aO2 c er el F Gs rs v M) l') {q:Int} {r:Value} {L:List α} (hr:rs[q.toNat]? =some r) (hL:gI M q=some L):∃ G,OwC c el h G r L/\Sp h h0.size [G]:=by
 obtain ⟨n,rfl,hL⟩:=AIx hL;obtain ⟨G,_,HO,hG⟩:=(k.o2 e).row hr hL
 exact ⟨G,HO,by simpa using HO.nodup,fun b hb=>by
   have hb:b∈G:=by simpa using hb
   exact ⟨k.lo e b (hG b hb),HO.lt b hb⟩⟩
end Kst
def AJl (fuel:Nat) (L:List Int):Option (List Int):=if L.length<=100000000 then some L else none
theorem APi {fuel:Nat} {h:ABg} {v:Value} {L r:List Int} (H:SlC (cI .i64) h v L) (hp:AJl fuel L=some r):AB8 Tryz.prog 37 #[v] h (fun x h'=>Ext h h'/\ ∃ (x0:Value) (F0:List Nat),x=x0/\OwC (cI .i64) 2 h' F0 x0 r/\Sp h' h.size [F0]):=by
 unfold AJl at hp;obtain ⟨hl,hp⟩:=ifN hp;cases hp;obtain ⟨a,n,c,hv⟩:∃ a n c,v= .slice a n c:=by obtain ⟨Ls,⟨xa,xc,hv,_⟩,_⟩:=H;exact ⟨_,_,_,hv⟩
 subst hv;refine ACu (l:=[_]) mx Tryz.func37 rfl rfl rfl rfl rfl (by kernel_rfl) (ABh (ABp (ABl (ABh (Wj (Amn (a:=a) (n:=n) (c:=c) ABt rfl rfl (ABn (⟨_,rfl,fun hc=>?_,fun hc=>?_⟩))))))))
 ·refine ABh (ABp (ABr (ABz ?_)));have hL:L=[]:=Apd H (by cases a with | none=>rfl | some a=>cases hc);subst hL;exact ⟨_,ABs,Ext.refl _,_,[],rfl,Aaj _ _ _,Apf _⟩
 ·refine ABq (q_t (ABh (Ar1 ABt trivial ⟨trivial,?_⟩)));have E0:Ext h (h.push (.cells #[] 2 (0,0))):=AD8 _ _;have hO:AD1 (h.push (.cells #[] 2 (0,0))) 2 h.size (.slice (some ⟨h.size,0,none⟩) 0 0) []:=AW3 h 2 [] (by simp);by_cases hL:L=[]
  ·subst hL;refine Wj (Apg (xa:=a) (n:=n) (c:=c) ABt trivial rfl rfl (Ape H) (ABp (ABr ?_)));exact ⟨_,ABs,E0,_,[h.size],rfl,Aho (κ:= .i64) hO (by kernel_rfl),AGm (Nat.le_refl _) (by simp)⟩
  ·have H2:Sl (h.push (.cells #[] 2 (0,0))) (.slice a n c) (L.map (.int .i64)):=Aqa (H.ext E0);refine Wj (Apw (bytes:=8) ABt AHa rfl trivial rfl hO rfl H2 (fun u hu=>by obtain ⟨q,_,rfl⟩:=List.mem_map.1 hu;rfl) (by simpa using hL) (by simp;omega) (by simp;omega) fun v' g' h' HO hg U=>⟨trivial,?_⟩);refine ABp (ABr ?_);have Ae:h.size<=g':=by rcases hg with rfl | rfl <;> simp
   exact ⟨_,ABs,⟨Nat.le_trans E0.1 U.1,fun k hk=>(U.2 k (by simp;omega) (by omega)).trans (E0.2 k hk)⟩,_,[g'],rfl,Aho (κ:= .i64) (v:=v') (by simpa using HO) (by kernel_rfl),AGm Ae HO.lt⟩
end Go.Proofs.YtiegjkmfpcgjjaaGreatDoor
namespace Go.Proofs.YtiegjkmfpcgjjaaGreatDoor
open Go Go.QF
open Go.ChangeShapes Go.WideShapes Go.ChangeAt Go.RowKit
set_option maxRecDepth 100000
theorem Aph {z:Int} (h:(Lit.int .u16 z).wf=true):0<=z/\z < 65536:=by
 simp [Lit.wf,IntKind.min,IntKind.max,IntKind.bits,IntKind.signed] at h;omega
end Go.Proofs.YtiegjkmfpcgjjaaGreatDoor
namespace Go.Proofs.YtiegjkmfpcgjjaaGreatDoor
open Go Go.QF
set_option maxRecDepth 100000
theorem ASg {M:List (List Int)} (R:AT0 M):M=tab M.length M.length (ent M):=AZ5 R.2.1
theorem Api {n:Nat} {A:Nat->Nat->Int} (Ab:1<=n) (hn:n<=8) (R:Afu n A):AT0 (tab n n A):=by
 refine ⟨by rw [AC9];exact ⟨Ab,hn⟩,fun z hz=>by rw [AC9];exact AT8 z hz,?_⟩;rw [AC9];have e:∀ i j,i < n->j < n->ent (tab n n A) i j=A i j:=fun i j hi hj=>Anf hi hj;have hd:∀ k,k<=n->det k (ent (tab n n A))=det k A:=fun k hk=>ADc fun i j hi hj=>e i j (by omega) (by omega)
 have hm:∀ k i j,k<=n->i < n->j < n->Mn k (ent (tab n n A)) i j=Mn k A i j:=fun k i j hk hi hj=>by
   unfold Mn
   exact ADc fun a b ha hb=>e _ _ (AMl hk hi) (AMl hk hj)
 refine ⟨fun i j hi hj=>by rw [e i j hi hj,e j i hj hi];exact R.sym i j hi hj,fun k hk=>by rw [hd k hk];exact R.pos k hk,fun r l h1 h2=>?_,fun r hr=>?_,by rw [hd n (Nat.le_refl n)];exact R.dt⟩
 ·have:=R.sz r l h1 h2;unfold SzF at this ⊢;rw [hd _ (by omega),hm _ _ _ (by omega) h2 (by omega)];exact this
 ·have:=R.lv r hr;unfold LvF at this ⊢;rw [hd _ (by omega),hd _ (by omega),hd _ (by omega),hm _ _ _ (by omega) hr (by omega)];exact this
theorem AYf {M:List (List Int)} (R:AT0 M):1<=det M.length (ent M)/\det M.length (ent M)<=10000:=⟨by have:=R.2.2.pos _ (Nat.le_refl _);omega,R.2.2.dt⟩
theorem Apj {M:List (List Int)} (R:AT0 M) {i j:Nat} (hi:i < M.length) (hj:j < M.length):(ent M i j).natAbs<=192000:=by have:=Abj R.1.2 R.2.2 hi hj;omega
theorem Ai7 {fuel:Nat} {M:List (List Int)} (R:AT0 M) (hf:100 < fuel):AHu fuel M=some (det M.length (ent M)):=by
 apply ok_eq;obtain ⟨v1,v2⟩:=AYf R;have hT:=ASg R;have h1:=R.1;unfold AHu;generalize hF:ent M=F at *;generalize hL:M.length=n at *;have hb:∀ i j,i < n->j < n->(F i j).natAbs<=192000:=fun i j hi hj=>by subst hF;subst hL;exact Apj R hi hj
 rw [hT];refine ABm (AC7 (Afv h1.1 (by omega) (fun i j hi hj=>Nat.le_trans (hb i j hi hj) (by decide)) (by omega))) fun x hx=>?_;subst hx;refine ABm (AC7 (AUo h1.2 (fun i j hi hj=>Nat.le_trans (hb i j hi hj) (by decide)) (by omega))) fun y hy=>?_;subst hy;refine ABm (AC7 (a:=(det n F,true)) (if_pos (by omega))) fun z hz=>ABj ?_;rw [hz]
theorem APa (a:Int) (m:Nat) (ha:0<=a) (hm:0 < m):∃ q:Nat,Int.tmod a (m:Int)=q/\q < m:=by
 rw [Int.tmod_eq_emod_of_nonneg ha];have h1:=Int.emod_nonneg a (show (m:Int)≠0 by omega);have h2:=Int.emod_lt_of_pos a (show (0:Int) < m by omega);exact ⟨(a % m).toNat,by omega,by omega⟩
end Go.Proofs.YtiegjkmfpcgjjaaGreatDoor
namespace Go.Proofs.YtiegjkmfpcgjjaaGreatDoor
open Go Go.QF
set_option maxRecDepth 100000
set_option maxHeartbeats 4000000
def AJ0 (fuel:Nat) (a3:LiI) (Ab:Int):Option ((Int) ⊕ ((Bool) ⊕ (Unit))):=
  (if Ab < (a3.length:Int) then ((gI a3 Ab).bind fun Ac=>((gI a3 0).bind fun Ad=>(if ¬ (Ac.length:Int)=(Ad.length:Int) then (some (Sum.inr<| Sum.inl <| false)) else (some (Sum.inl (w64 (Ab + 1))))))) else (some (Sum.inr<| Sum.inr <| ())))
def AHh (fuel:Nat) (a3:LiI):Option Bool:=
  (((if (a3.length:Int) < 1 then (some (Sum.inl <| false)) else (if 16 < (a3.length:Int) then (some (Sum.inl <| false)) else ((gI a3 0).bind fun Ab=>(if (Ab.length:Int) < 1 then (some (Sum.inl <| false)) else (if 16 < (Ab.length:Int) then (some (Sum.inl <| false)) else (some (Sum.inr <| ()))))))):Option ((Bool) ⊕ (Unit))).bind (fun ex=>match ex with | Sum.inl Ac=>(some Ac) | Sum.inr (_)=>((iter (fun s=>AJ0 fuel a3 s) fuel 0).bind (fun ex=>match ex with | Sum.inl Ad=>(some Ad) | Sum.inr (_)=>(some true)))))
theorem AOx {fuel:Nat} {h:ABg} {Aq:Value} {a3:LiI} {r:Bool} (H2:AF2 (cI .i64) h Aq a3) (hp:AHh fuel a3=some r):AB8 Tryz.prog 69 #[Aq] h (fun x h'=>Ext h h'/\x= .bool r):=by
 unfold AHh at hp;refine cwf (l:=[_]) Tryz.func69 rfl rfl (ABh (ABp ?_));have K0:=Kst.k0 h;obtain ⟨A4,Ar,Ac⟩:=ABk hp;refine AMd 134217700 (fun x:Unit=>[]) (fun x h'=>(Sum.inr <| ())=A4/\Kst h h' (K0.L)) ?_ ?_
 ·refine ABh (Wj (ADf AB1 rfl H2 (ACx rfl rfl (Wj ?_))));by_cases Ah:(a3.length:Int) < 1
  ·rw [decide_eq_true Ah];refine ALo 8 true (AB0 rfl (Wj (AJa 13 true (AB0 rfl (Wj (AJa 20 true (AB0 rfl (ABn (AB6 rfl (ABh (ABp ?_)))))))))));obtain rfl:=ABi (ifT Ar Ah);refine ABr (ABz ?_);obtain rfl:=ABi Ac;exact ⟨_,ABs,K0.x,rfl⟩
  ·have Au:=ifF Ar Ah;rw [decide_eq_false Ah];refine ACl 8 false (Wj (ACl 8 false (ADf AB1 rfl H2 (ACl 8 false (AKj rfl rfl (ABx rfl (Wj ?_)))))));by_cases Ai:16 < (a3.length:Int)
   ·rw [decide_eq_true Ai];refine AJa 13 true (AB0 rfl (Wj (AJa 20 true (AB0 rfl (ABn (AB6 rfl (ABh (ABp ?_))))))));obtain rfl:=ABi (ifT Au Ai);refine ABr (ABz ?_);obtain rfl:=ABi Ac;exact ⟨_,ABs,K0.x,rfl⟩
   ·rw [decide_eq_false Ai];refine ACl 13 false (Wj (ACl 13 false ?_));obtain ⟨A5,Av,Aw⟩:=ABk (ifF Au Ai);refine AIn AB1 rfl H2 rfl Av fun Br Bt Bu A6 A7=>ACl 13 false (AB3 ACn rfl (ABv A6 K0.x) (ACl 13 false (ADs ABt rfl A7 (ACl 13 false (ACx rfl rfl (ABx rfl (Wj ?_)))))));by_cases Aj:(A5.length:Int) < 1
    ·rw [decide_eq_true Aj];refine AJa 20 true (AB0 rfl (ABn (AB6 rfl (ABh (ABp ?_)))));obtain rfl:=ABi (ifT Aw Aj);refine ABr (ABz ?_);obtain rfl:=ABi Ac;exact ⟨_,ABs,K0.x,rfl⟩
    ·have Ax:=ifF Aw Aj;rw [decide_eq_false Aj];refine ACl 20 false (Wj (ACl 20 false (AIn AB1 rfl H2 rfl Av fun Bv Bw Bx A8 A9=>ACl 20 false (AB3 ACn rfl (ABv A8 K0.x) (ACl 20 false (ADs ABt rfl A9 (ACl 20 false (AKj rfl rfl (ABx rfl (ABn (⟨_,rfl,fun Ak=>?_,fun Ak=>?_⟩)))))))))))
     ·refine ABh (ABp ?_);obtain rfl:=ABi (AC0 Ax Ak);refine ABr (ABz ?_);obtain rfl:=ABi Ac;exact ⟨_,ABs,K0.x,rfl⟩
     ·refine ABq (q_t ?_);exact ⟨(():Unit),⟨ABi (AC1 Ax Ak),K0⟩,trivial⟩
 rintro ⟨⟩ By Bz ⟨Ba,Ay⟩;subst Ba;refine ABl (ABh (Wj (ADf AB1 rfl H2 (Wj (ABn (ABo ?_))))));obtain ⟨Am,Bb,Az⟩:=ABk Ac;obtain ⟨Bc,Be,Bf⟩:=ACe Bb;refine ACg 2198486384660 (fun x:(Int)=>[(29,(.int .i64 x))]) (fun k x h'=>iter Bc k x=some Am/\Kst h h' (Ay.L)) (by kernel_rfl) fuel (0:(Int)) ?_ ⟨rfl,trivial⟩ ?_
 ·exact ⟨Bf,Ay⟩
 rintro B1 Bg B2 B3 ⟨Bh,Ad⟩;obtain ⟨Bi,B4,rfl,Ae,Af⟩:=AB2 Bh;rw [Be] at Ae;dsimp only at Ae;unfold AJ0 at Ae;refine ABh (ACx rfl rfl (ABn (ABl (⟨_,rfl,fun Ao=>?_,fun Ao=>?_⟩))))
 ·refine ABq (q_t (ABl (ABo (ABh ?_))));obtain ⟨B5,Bj,Bl⟩:=ABk (AC0 Ae Ao);refine AIn AB1 rfl H2 rfl Bj fun B6 B7 B8 Bm Bn=>AB3 ACn rfl (ABv Bm Ad.x) (ACq (Wj (ADs ABt rfl Bn (Wj ?_))));obtain ⟨B9,Bo,A3⟩:=ABk Bl;refine AIn AB1 rfl H2 rfl Bo fun Ca Cb Cd Bp Bq=>AB3 ACn rfl (ABv Bp Ad.x) (ADs ABt rfl Bq (AGe rfl rfl (ABn (⟨_,rfl,fun Ap=>?_,fun Ap=>?_⟩))))
  ·refine ABh (ABp ?_);obtain rfl:=ABi (AC0 A3 Ap);change _=Am at Af;subst Af;refine ABr (ADk (ABz (ABz (ADk (ABz ?_)))));obtain rfl:=ABi Az;exact ⟨_,ABs,Ad.x,rfl⟩
  ·refine ABq (q_b (q_t (ABw (ACw rfl rfl (Wj (ABn ?_))))));obtain rfl:=ABi (AC1 A3 Ap);exact ⟨Bi,((w64 (Bg + 1)):(Int)),Nat.lt_succ_self _,⟨Af,Ad⟩,rfl,trivial⟩
 ·obtain rfl:=ABi (AC1 Ae Ao);change _=Am at Af;subst Af;refine AB9 (AB7 (AB7 (ADh (q_t (ABh (ABp (ABr ?_)))))));obtain rfl:=ABi Az;exact ⟨_,ABs,Ad.x,rfl⟩
def AKb (fuel:Nat) (a3:LiI):Option Bool:=
  ((AHh fuel a3).bind fun x5=>(if x5=true then ((gI a3 0).bind fun Ac=>(if (a3.length:Int)=(Ac.length:Int) then (some (decide ((a3.length:Int)<=8))) else (some false))) else (some false)))
theorem AT1 {fuel:Nat} {h:ABg} {Ae:Value} {a3:LiI} {r:Bool} (H2:AF2 (cI .i64) h Ae a3) (hp:AKb fuel a3=some r):AB8 Tryz.prog 72 #[Ae] h (fun x h'=>Ext h h'/\x= .bool r):=by
 unfold AKb at hp;refine cwf (l:=[_]) Tryz.func72 rfl rfl (ABh (ACq (Wj ?_)));have K0:=Kst.k0 h;obtain ⟨x5,Ak,Ag⟩:=ABk hp;refine AC2 rfl (AOx (H2.ext K0.x) Ak) fun Av h9 E8 Ao=>?_;subst Ao;refine Wj ?_;have Ab:=K0.e E8;cases Ah:x5
 ·refine AJa 5 false (AGg 5 false (ABx rfl (Wj (ALo 14 false (ABx rfl (ABp (ABr ?_)))))));obtain rfl:=ABi (ALj Ag Ah);exact ⟨_,ABs,Ab.x,rfl⟩
 ·refine ACl 5 true (Wj (ACl 5 true (ADf AB1 rfl H2 (ACl 5 true (Wj (ACl 5 true ?_))))));obtain ⟨Ap,Aq,Ai⟩:=ABk (ifT Ag Ah);refine AIn AB1 rfl H2 rfl Aq fun Ax Ay Az Ar Au=>ACl 5 true (AB3 ACn rfl (ABv Ar Ab.x) (ACl 5 true (ADs ABt rfl Au (ACl 5 true (ADo rfl rfl (AB0 rfl (Wj ?_)))))));by_cases Ac:(a3.length:Int)=(Ap.length:Int)
  ·rw [decide_eq_true Ac];refine ACl 14 true (Wj (ACl 14 true (ADf AB1 rfl H2 (ACl 14 true (AVi rfl rfl (AB0 rfl (ABp (ABr ?_))))))));obtain rfl:=ABi (ifT Ai Ac);exact ⟨_,ABs,Ab.x,rfl⟩
  ·rw [decide_eq_false Ac];refine ALo 14 false (ABx rfl (ABp (ABr ?_)));obtain rfl:=ABi (ifF Ai Ac);exact ⟨_,ABs,Ab.x,rfl⟩
def AEk (fuel:Nat) (a1:Int):Option Int:=
  (if a1 < 2 then (some 1) else (if 2147483647 < a1 then (some 1) else (some 0)))
theorem ALf {fuel:Nat} {h:ABg} {a1 r:Int} (hp:AEk fuel a1=some r):AB8 Tryz.prog 70 #[(.int .i64 a1)] h (fun x h'=>Ext h h'/\x= .int .i64 r):=by
 unfold AEk at hp;refine cwf (l:=[_]) Tryz.func70 rfl rfl (ABh (ABp (ABl (ABh (Wj (ACx rfl rfl (Wj ?_)))))));have K0:=Kst.k0 h;by_cases Aa:a1 < 2
 ·rw [decide_eq_true Aa];refine AGg 5 true (AB0 rfl (ABn (AB6 rfl (ABh (ABp (ABr (ABz ?_)))))));obtain rfl:=ABi (ifT hp Aa);exact ⟨_,ABs,K0.x,rfl⟩
 ·have Ae:=ifF hp Aa;rw [decide_eq_false Aa];refine ACl 5 false (Wj (ACl 5 false (AKj rfl rfl (ABx rfl (ABn (⟨_,rfl,fun Ad=>?_,fun Ad=>?_⟩))))))
  ·refine ABh (ABp (ABr (ABz ?_)));obtain rfl:=ABi (AC0 Ae Ad);exact ⟨_,ABs,K0.x,rfl⟩
  ·refine ABq (q_t (ABh (ABp (ABr ?_))));obtain rfl:=ABi (AC1 Ae Ad);exact ⟨_,ABs,K0.x,rfl⟩
def AIi (fuel:Nat) (a5 Ad:Int) (Ae:LiA) (Ab:Int) (Ac:LiI):Option ((Int × LiI) ⊕ ((LiI))):=
  (if Ab < (Ae.length:Int) then ((gI Ae Ab).bind fun Ag=>((gI Ac Ad).bind fun Af=>(if a5≠0 then (if a5≠0 then ((gI Af Ab).bind fun Ah=>(some (Sum.inl ((w64 (Ab + 1)),(sI Ac Ad (sI Af Ab (Int.tmod (w64 ((Int.tmod Ag a5) + a5)) a5))))))) else none) else none))) else (some (Sum.inr<| Ac)))
def AIj (fuel:Nat) (a3:LiI) (a5 Aa:Int) (Ac:LiI):Option ((Int × LiI) ⊕ ((LiI))):=
  (if Aa < (a3.length:Int) then ((gI a3 Aa).bind fun Ab=>(if 0<=(Ab.length:Int)/\(Ab.length:Int)<=100000000 then ((gI Ac Aa).bind fun Ag=>((iter (fun s=>AIi fuel a5 Aa Ab s.1 s.2) fuel (0,(sI Ac Aa (List.replicate (Int.toNat (Ab.length:Int)) (0:Int))))).bind (fun (Af:LiI)=>(some (Sum.inl ((w64 (Aa + 1)),Af)))))) else none)) else (some (Sum.inr<| Ac)))
def AFt (fuel:Nat) (a3:LiI) (a5:Int):Option LiI:=
  (if 0<=(a3.length:Int)/\(a3.length:Int)<=100000000 then ((iter (fun s=>AIj fuel a3 a5 s.1 s.2) fuel (0,(List.replicate (Int.toNat (a3.length:Int)) ([]:List Int)))).bind (fun (Ac:LiI)=>(some Ac))) else none)
theorem AMx {fuel:Nat} {h:ABg} {Au:Value} {a3:LiI} {a5:Int} {r:LiI} (H2:AF2 (cI .i64) h Au a3) (hp:AFt fuel a3 a5=some r):AB8 Tryz.prog 71 #[Au,(.int .i64 a5)] h (fun x h'=>Ext h h'/\ ∃ (x0:Value) (F0:List Nat) (Bf:List LnA) (Bg:List Value),x=x0/\AE8 (cI .i64) 23 2 h' F0 Bf Bg x0 r/\Sp h' h.size [F0]):=by
 unfold AFt at hp;refine cwf (l:=[_,_]) Tryz.func71 rfl rfl (ABh (ACq (Wj (ADf AB1 rfl H2 ?_))));obtain ⟨Bh,Bi⟩:=ifN hp;refine AUh (cI .i64) 2 AB1 ALx rfl trivial tt2 rfl rfl (by decide) Bh fun Bj Bl Bm Ax C8 Bn E8 S9=>ABp (ABl (ABh (Wj (ADf AB1 rfl H2 (Wj (ABn (ABo ?_)))))));have Ay:=(Kst.k0 h).no2 E8 S9 Bn;obtain ⟨Az,Bq,Br⟩:=ABk Bi;obtain ⟨Bt,Bu,Bv⟩:=ACe Bq;refine ACg 281474976678848 (fun x:(Int) × (LiI) × LnA × LnN × LvA=>[(15,(.int .i64 x.1))]) (fun k x h'=>iter Bt k (x.1,x.2.1)=some Az/\Kst h h' (Ay.L.set 0 (aO2 (cI .i64) 23 2 x.2.2.1 x.2.2.2.1 x.2.2.2.2 Ax x.2.1))) (by kernel_rfl) fuel ((0,(List.replicate (Int.toNat (a3.length:Int)) ([]:List Int)),Bj,Bl,Bm):(Int) × (LiI) × LnA × LnN × LvA) ?_ ⟨rfl,trivial⟩ ?_
 ·exact ⟨Bv,Ay⟩
 rintro C9 ⟨Ab,Bw,Da,A3,Bx⟩ Db Dc ⟨By,Ad⟩;obtain ⟨Bz,Dd,rfl,Ae,Aj⟩:=AB2 By;rw [Bu] at Ae;dsimp only at Ae;unfold AIj at Ae;refine ABh (ACx rfl rfl (ABn (ABl (⟨_,rfl,fun Ak=>?_,fun Ak=>?_⟩))))
 ·refine ABq (q_t (ABl (ABo (ABh (Wj ?_)))));obtain ⟨B1,B2,B3⟩:=ABk (AC0 Ae Ak);refine AIn AB1 rfl H2 rfl B2 fun De Df Dg B4 Am=>AB3 ACn rfl (ABv B4 Ad.x) (ACd (ACq (Wj (Wj (Wj (ADs ABt rfl Am ?_))))));obtain ⟨B5,B6⟩:=ifN B3;refine AQz (c:=(cI .i64)) (a:=0) ABt AHa rfl rfl (fun _=>rfl) rfl trivial tt2 rfl rfl (by decide) B5 fun A4 B7 Dh B8 B9 Ca Cb=>?_;have Af:=Ad.no B9 (AGm Ca Cb) B8;obtain ⟨Di,A5,Cd⟩:=ABk B6;refine ADl AB1 rfl (Af.o2 p1) rfl A5 fun Ce Dj Cf Dk Dl=>AVz ACn (Af.o2 p1) A5 Cf rfl rfl (Af.o p0) (Af.dj p0 p1 (by decide)) fun Dn Cg Ch Ci=>AMh (Wj (ADs ABt rfl Am (Wj (ABn (ABo ?_)))));obtain ⟨A6,Cj,Ck⟩:=ABk Cd;obtain ⟨Cm,Cn,Co⟩:=ACe Cj;have Ao:=(Af.m2 p0 p1 (by decide) Ch Cg (fun z hz=> .inl (Ci z hz))).sel [1] (by decide);dsimp only [AIk,ALl] at Ao;refine ACg 140737219920640 (fun x:(Int) × (LiI) × LnA × LnN × LvA=>[(28,(.int .i64 x.1))]) (fun k x h'=>iter Cm k (x.1,x.2.1)=some A6/\Kst h h' (Ao.L.set 0 (aO2 (cI .i64) 23 2 x.2.2.1 x.2.2.2.1 x.2.2.2.2 Ax x.2.1))) (by kernel_rfl) fuel ((0,(sI Bw Ab (List.replicate (Int.toNat (B1.length:Int)) (0:Int))),(Ce :: (A3.set (Int.toNat Ab) [A4]).flatten),(A3.set (Int.toNat Ab) [A4]),(Bx.set (Int.toNat Ab) B7)):(Int) × (LiI) × LnA × LnN × LvA) ?_ ⟨rfl,trivial⟩ ?_
  ·exact ⟨Co,Ao⟩
  rintro Do ⟨A7,A8,A9,Ba,Bb⟩ Dp Dq ⟨Cp,Ac⟩;obtain ⟨Cq,Dr,rfl,Ag,Ap⟩:=AB2 Cp;rw [Cn] at Ag;dsimp only at Ag;unfold AIi at Ag;refine ABh (ACx rfl rfl (ABn (ABl (⟨_,rfl,fun Aq=>?_,fun Aq=>?_⟩))))
  ·refine ABq (q_t (ABl (ABo (ABh (Wj ?_)))));obtain ⟨Bc,Cr,Ct⟩:=ABk (AC0 Ag Aq);refine AIc (c:=(cI .i64)) ABt rfl Am rfl Cr fun Ds Dt Du Cu Cv=>?_;obtain rfl:=Cu;refine AB3 ACm rfl (ABv (Cv 0 _ rfl) Ac.x) (ACd (ABp (AMe (Wj (Wj ?_)))));obtain ⟨Cw,Ar,Cx⟩:=ABk Ct;refine ADl AB1 rfl (Ac.o2 p0) rfl Ar fun Dv Dw Dx Cy Cz=>AB3 ACn rfl Cz (Wj (Wj (Wj ?_)));obtain ⟨C0,C1⟩:=ifN Cx;refine AFq rfl rfl C0 (Wj (ACw rfl rfl (Wj ?_)));obtain ⟨C2,C3⟩:=ifN C1;refine AFq rfl rfl C2 ?_;obtain ⟨Dy,Be,C4⟩:=ABk C3;refine AEx (m:=Ab) ABt rfl (Ac.o2 p0) Cy Ar rfl Be fun Dz C5=>AJd (m:=Ab) (AFy ACm rfl rfl rfl) (Ac.o2 p0) C5 Ar Be (show ((cI .i64)).rep _ (Int.tmod (w64 ((Int.tmod Bc a5) + a5)) a5) _ from rfl) fun D0 C6 C7=>ACh (q_b (q_t (ABw (ACw rfl rfl (Wj (ABn ?_))))));obtain rfl:=ABi C4;exact ⟨Cq,(((w64 (A7 + 1)),(sI A8 Ab (sI Cw A7 (Int.tmod (w64 ((Int.tmod Bc a5) + a5)) a5))),A9,Ba,Bb):(Int) × (LiI) × LnA × LnN × LvA),Nat.lt_succ_self _,⟨Ap,(Ac.uO2 p0 C7 C6)⟩,rfl,trivial⟩
  ·obtain rfl:=ABi (AC1 Ag Aq);change _=A6 at Ap;subst Ap;refine AB9 (AB7 (AB7 (ADh (q_b (q_t (ABw (ACw rfl rfl (Wj (ABn ?_)))))))));obtain rfl:=ABi Ck;exact ⟨Bz,(((w64 (Ab + 1)),A8,A9,Ba,Bb):(Int) × (LiI) × LnA × LnN × LvA),Nat.lt_succ_self _,⟨Aj,Ac⟩,rfl,trivial⟩
 ·obtain rfl:=ABi (AC1 Ae Ak);change _=Az at Aj;subst Aj;refine AB9 (AB7 (AB7 (ADh (q_t (ABh (Wj (ABp (ABr ?_))))))));obtain rfl:=ABi Br;exact ⟨_,ABs,Ad.x,_,_,_,_,rfl,(Ad.o2 p0),Ad.s.sel [0] (by decide)⟩
def AE6 (fuel:Nat) (a3:LiI) (a5:Int):Option (LiI × Int):=
  ((AHh fuel a3).bind fun x6=>(if (!x6)=true then (some ([],3)) else ((AEk fuel a5).bind fun Ac=>(if ¬ Ac=0 then (some ([],Ac)) else ((AFt fuel a3 a5).bind fun Ae=>(some (Ae,0)))))))
theorem AKo {fuel:Nat} {h:ABg} {Ag:Value} {a3:LiI} {a5:Int} {r:(LiI × Int)} (H2:AF2 (cI .i64) h Ag a3) (hp:AE6 fuel a3 a5=some r):AB8 Tryz.prog 36 #[Ag,(.int .i64 a5)] h (fun x h'=>Ext h h'/\ ∃ (x0:Value) (F0:List Nat) (Au:List LnA) (Av:List Value),x= .tuple #[x0,.int .i64 r.2]/\AE8 (cI .i64) 23 2 h' F0 Au Av x0 r.1/\Sp h' h.size [F0]):=by
 unfold AE6 at hp;refine cwf (l:=[_,_]) Tryz.func36 rfl rfl (ABh (ACd (ABp (ABl (ABh (Wj ?_))))));have K0:=Kst.k0 h;obtain ⟨x6,Aw,Ap⟩:=ABk hp;refine AC2 rfl (AOx (H2.ext K0.x) Aw) fun Bc Be E9 Ay=>?_;subst Ay;refine AGt rfl (ABn ?_);have Aq:=K0.e E9;refine ⟨_,rfl,fun Aa=>?_,fun Aa=>?_⟩
 ·refine ABh (ACd (ABp (ABr (ABz ?_))));have Ab:=Kst.anil2 (cI .i64) 23 2 Aq;obtain rfl:=ABi (ifT Ap Aa);exact ⟨_,AC6,Ab.x,_,_,_,_,rfl,(Ab.o2 p0),Ab.s.sel [0] (by decide)⟩
 ·refine ABq (q_t (ABl (ABh (Wj ?_))));obtain ⟨Bf,Az,Ar⟩:=ABk (ALj Ap Aa);refine AC2 rfl (ALf Az) fun Bg Bh A3 A4=>?_;subst A4;refine ACq (Wj (AGe rfl rfl (ABn ?_)));have Ac:=Aq.e A3;refine ⟨_,rfl,fun Ad=>?_,fun Ad=>?_⟩
  ·refine ABh (Wj (ACd (ABp (ABr (ABz ?_)))));have Ae:=Kst.anil2 (cI .i64) 23 2 Ac;obtain rfl:=ABi (AC0 Ar Ad);exact ⟨_,AC6,Ae.x,_,_,_,_,rfl,(Ae.o2 p0),Ae.s.sel [0] (by decide)⟩
  ·refine ABq (q_t (ABh (Wj (Wj ?_))));obtain ⟨Bi,A5,A6⟩:=ABk (AC1 Ar Ad);refine AC2 rfl (AMx (H2.ext Ac.x) A5) fun Bj Bl A7 A8=>?_;obtain ⟨Bm,Bn,Bo,Bp,rfl,A9,Ba⟩:=A8;refine ACd (ABp (ABr ?_));have Af:=Ac.no2 A7 Ba A9;obtain rfl:=ABi A6;exact ⟨_,AC6,Af.x,_,_,_,_,rfl,(Af.o2 p0),Af.s.sel [0] (by decide)⟩
end Go.Proofs.YtiegjkmfpcgjjaaGreatDoor
namespace Go.Proofs.YtiegjkmfpcgjjaaGreatDoor
open Go Go.QF
set_option maxRecDepth 100000
theorem AQh {α β:Type} {L:List α} {n:Nat} {x:α} {f:α->Option β} (hx:L[n]? =some x):(gI L (n:Int)).bind f=f x:=by
 unfold gI;rw [if_pos (by omega),Int.toNat_natCast,hx];rfl
theorem Amp {α β:Type} {L:List α} {x:α} {f:α->Option β} (hx:L[0]? =some x):(gI L 0).bind f=f x:=AQh (n:=0) hx
theorem AG3 {i:Nat} (h:i<=1000000000):w64 ((i:Int) + 1)=((i + 1:Nat):Int):=by rw [wk (by omega)];omega
theorem AYg {n i r:Nat} {G:Nat->Nat->Int} {g g':Nat->Int} (h:∀ c,c < n->g c=g' c):part n i (ADd G r g)=part n i (ADd G r g'):=by
 unfold part;refine ACv fun k _=>?_;split
 ·refine ACv fun c hc=>?_;by_cases hk:k=r
  ·subst hk;rw [AC4,AC4,h c hc]
  ·rw [AD2 _ _ hk,AD2 _ _ hk]
 ·rfl
theorem Amq {n i:Nat} {F:Nat->Nat->Int} {g:Nat->Int} (h:∀ c,c < n->g c=F i c):part n (i + 1) (ADd F i g)=part n (i + 1) F:=by
 rw [AYg h,AM1]
theorem Apk {body:Int × List (List Int)->Option ((Int × List (List Int)) ⊕ List (List Int))} {fuel n i:Nat} {G:Nat->Nat->Int} (v:Nat->Int) (hf:n < fuel)
    (hs:∀ (j:Nat) (g:Nat->Int),j < n->g j=G i j->body ((j:Int),part n (i + 1) (ADd G i g))=some (.inl (((j + 1:Nat):Int),part n (i + 1) (ADd G i fun c=>if c=j then v j else g c))))
    (he:∀ X,body ((n:Int),X)=some (.inr X)):iter body fuel (0,part n (i + 1) G)=some (part n (i + 1) (ADd G i v)):=by
  apply ok_eq
  refine ACy (fun j s=>s=((j:Int),part n (i + 1) (ADd G i fun c=>if c < j then v c else G i c))) n ?_ hf fun j s hj hI=>?_
  · have:(fun c=>if c < 0 then v c else G i c)=G i:=funext fun c=>if_neg (by omega);rw [this,AM1];rfl
  · subst hI
    by_cases h:j < n
    · rw [hs j _ h (if_neg (by omega))];refine ABj ⟨h,?_⟩;refine congrArg (fun z=>(((j + 1:Nat):Int),part n (i + 1) (ADd G i z))) (funext fun c=>?_)
      by_cases h1:c=j
      · rw [if_pos h1,if_pos (by omega),h1]
      · rw [if_neg h1]
        by_cases h2:c < j
        · rw [if_pos h2,if_pos (by omega)]
        · rw [if_neg h2,if_neg (by omega)]
    · obtain rfl:j=n:=by omega
      rw [he];exact ABj (AYg fun c hc=>if_pos hc)
theorem Amr {body:Int × List (List Int)->Option ((Int × List (List Int)) ⊕ List (List Int))} {fuel n:Nat} (F:Nat->Nat->Int) (hf:n < fuel)
    (hs:∀ i:Nat,i < n->body ((i:Int),part n i F)=some (.inl (((i + 1:Nat):Int),part n (i + 1) F))) (he:∀ X,body ((n:Int),X)=some (.inr X)):iter body fuel (0,List.replicate n ([]:List Int))=some (tab n n F):=by
  apply ok_eq;refine ACy (fun i s=>s=((i:Int),part n i F)) n (by rw [AOj n F];rfl) hf fun i s hi hI=>?_;subst hI
  by_cases h:i < n
  · rw [hs i h];exact ABj ⟨h,rfl⟩
  · obtain rfl:i=n:=by omega
    rw [he];exact ABj (AOi _ _)
theorem Ai8 {x m:Int} (hm:2<=m) (Ab:m<=2147483647):Int.tmod (w64 (Int.tmod x m + m)) m=x % m:=by
 have h1:=Int.tmod_lt_of_pos x (show 0 < m by omega);have h2:=Int.tmod_lt_of_pos (-x) (show 0 < m by omega);rw [Int.neg_tmod] at h2;rw [wk (by omega),Int.tmod_eq_emod_of_nonneg (by omega),Int.add_emod_right,Int.tmod_def,Int.sub_mul_emod_self_left]
theorem Ams {fuel n:Nat} {F:Nat->Nat->Int} {m:Int} (hn:n<=8) (hm:2<=m) (Aa:m<=2147483647) (hf:100 < fuel):AFt fuel (tab n n F) m=some (tab n n fun i j=>F i j % m):=by
 unfold AFt;rw [AC9,if_pos (by omega),Int.toNat_natCast,Amr (n:=n) (fun i j=>F i j % m) (by omega) (fun i hi=>?_) fun X=>?_]
 ·rfl
 ·unfold AIj;dsimp only;rw [AC9,if_pos (by omega),AQh (ADb hi),AC8,if_pos (by omega),AQh (AS3 hi),ADv,Int.toNat_natCast,AHs n (0:Int),AQg,Apk (n:=n) (fun j=>F i j % m) (by omega) (fun j g hj hg=>?_) fun X=>?_]
  ·dsimp only [Option.bind_some];rw [AVm,Amq fun c _=>rfl,AG3 (by omega)]
  ·unfold AIi;dsimp only;rw [AC8,if_pos (by omega),AQh (ACj hj),AQh (AMn (by omega) hi),if_pos (by omega),if_pos (by omega),AC4,AQh (ACj hj),Ai8 hm Aa,ADv,ADv,AE5,ANl (by omega),AVm,AG3 (by omega)]
  ·unfold AIi;dsimp only;rw [AC8,if_neg (by omega)]
 ·unfold AIj;dsimp only;rw [AC9,if_neg (by omega)]
end Go.Proofs.YtiegjkmfpcgjjaaGreatDoor
namespace Go.Proofs.YtiegjkmfpcgjjaaGreatDoor
open Go Go.QF
set_option maxRecDepth 100000
set_option maxHeartbeats 4000000
def AK8 (fuel:Nat) (Ac Ad Af:Int) (Ag:LiA) (Ah Ai Aa:Int) (Ab:LiI):Option ((Int × LiI) ⊕ ((LiI))):=
  (if Aa < (Ag.length:Int) then ((gI Ab Af).bind fun Aj=>((gI Aj Aa).bind fun Ak=>((gI Ab Ad).bind fun Ae=>((gI Ae Aa).bind fun Am=>(if Ac≠0 then (some (Sum.inl ((w64 (Aa + 1)),(sI Ab Ad (sI Ae Aa (Int.tmod (w64 (Am + (w64 ((w64 (Ac - (w64 (Int.tdiv Ai Ah)))) * Ak)))) Ac)))))) else none))))) else (some (Sum.inr<| Ab)))
def AK9 (fuel:Nat) (Ah Aa Ab Af:Int) (Ac:LiI):Option ((Int × LiI) ⊕ ((Int × LiI))):=
  ((gI Ac Ab).bind fun Ag=>((gI Ag Aa).bind fun Ad=>(if ¬ Ad=0 then ((gI Ac Aa).bind fun Ai=>((gI Ai Aa).bind fun Aj=>(if Ad≠0 then ((((iter (fun s=>AK8 fuel Ah Aa Ab Ag Ad Aj s.1 s.2) fuel (0,Ac)).bind (fun (Ak:LiI)=>(some ( Ak)))):Option (LiI)).bind fun Ae=>((gI Ae Ab).bind fun Am=>((gI Ae Aa).bind fun Ao=>(some (Sum.inl ((w64 (0 - Af)),(sI (sI Ae Aa Am) Ab Ao))))))) else none))) else (some (Sum.inr<| (Af,Ac))))))
def AM8 (fuel:Nat) (Ad Ae Ac Aa:Int) (Ab:LiI):Option ((Int × Int × LiI) ⊕ ((Int × LiI))):=
  (if Aa < (Ab.length:Int) then ((iter (fun s=>AK9 fuel Ad Ae Aa s.1 s.2) fuel (Ac,Ab)).bind (fun ((Af,Ag):Int × LiI)=>(some (Sum.inl (Af,(w64 (Aa + 1)),Ag))))) else (some (Sum.inr<| (Ac,Ab))))
def AM9 (fuel:Nat) (Ad:LiI) (Ae Ab Aa:Int) (Ac:LiI):Option ((Int × Int × LiI) ⊕ ((Int × LiI))):=
  (if Aa < (Ad.length:Int) then ((iter (fun s=>AM8 fuel Ae Aa s.1 s.2.1 s.2.2) fuel (Ab,(w64 (Aa + 1)),Ac)).bind (fun ((Af,Ag):Int × LiI)=>(some (Sum.inl (Af,(w64 (Aa + 1)),Ag))))) else (some (Sum.inr<| (Ab,Ac))))
def ANa (fuel:Nat) (a5:Int) (Ac:LiI) (Ad Ab:Int):Option ((Int × Int) ⊕ ((Int))):=
  (if Ab < (Ac.length:Int) then ((gI Ac Ab).bind fun Ae=>(if a5≠0 then ((gI Ae Ab).bind fun Af=>(if a5≠0 then (some (Sum.inl ((Int.tmod (w64 ((Int.tmod Ad a5) * Af)) a5),(w64 (Ab + 1))))) else none)) else none)) else (some (Sum.inr<| Ad)))
def AI5 (fuel:Nat) (a3:LiI) (a5:Int):Option (Int × Int):=
  ((AKb fuel a3).bind fun x6=>(if (!x6)=true then (some (0,3)) else ((AEk fuel a5).bind fun Ac=>(if ¬ Ac=0 then (some (0,Ac)) else ((AFt fuel a3 a5).bind fun Ad=>(((((some ( a5)):Option (Int)).bind fun Af=>((iter (fun s=>AM9 fuel Ad Af s.1 s.2.1 s.2.2) fuel (1,0,Ad)).bind (fun ((Ag,Ah):Int × LiI)=>(some ( (Ag,Ah)))))):Option (Int × LiI)).bind fun (Ai,Aj)=>((iter (fun s=>ANa fuel a5 Aj s.1 s.2) fuel ((w64 (Ai + a5)),0)).bind (fun (Ak:Int)=>(some (Ak,0))))))))))
theorem AQi {fuel:Nat} {h:ABg} {Bq:Value} {a3:LiI} {a5:Int} {r:(Int × Int)} (H2:AF2 (cI .i64) h Bq a3) (hp:AI5 fuel a3 a5=some r):AB8 Tryz.prog 48 #[Bq,(.int .i64 a5)] h (fun x h'=>Ext h h'/\x= .tuple #[.int .i64 r.1,.int .i64 r.2]):=by
 unfold AI5 at hp;refine cwf (l:=[_,_]) Tryz.func48 rfl rfl (ABh (ACd (ABp (ABl (ABh (Wj ?_))))));have K0:=Kst.k0 h;obtain ⟨x6,Cx,Bv⟩:=ABk hp;refine AC2 rfl (AT1 (H2.ext K0.x) Cx) fun Hk Hl E9 Cz=>?_;subst Cz;refine AGt rfl (ABn ?_);have Bw:=K0.e E9;refine ⟨_,rfl,fun Ay=>?_,fun Ay=>?_⟩
 ·refine ABh (ACd (ABp (ABr (ABz ?_))));obtain rfl:=ABi (ifT Bv Ay);exact ⟨_,AC6,Bw.x,rfl⟩
 ·refine ABq (q_t (ABl (ABh (Wj ?_))));obtain ⟨Hm,C0,Bx⟩:=ABk (ALj Bv Ay);refine AC2 rfl (ALf C0) fun Hn Ho C1 C2=>?_;subst C2;refine ACq (Wj (AGe rfl rfl (ABn ?_)));have Az:=Bw.e C1;refine ⟨_,rfl,fun A3=>?_,fun A3=>?_⟩
  ·refine ABh (Wj (ACd (ABp (ABr (ABz ?_)))));obtain rfl:=ABi (AC0 Bx A3);exact ⟨_,AC6,Az.x,rfl⟩
  ·refine ABq (q_t (ABh (Wj (Wj ?_))));obtain ⟨C3,C4,C5⟩:=ABk (AC1 Bx A3);refine AC2 rfl (AMx (H2.ext Az.x) C4) fun Af Hq C6 C7=>?_;obtain ⟨Hr,C8,C9,Da,rfl,Db,Dc⟩:=C7;refine ACq (Wj (Wj ?_));have A4:=Az.no2 C6 Dc Db;obtain ⟨Dd,De,Df⟩:=ABk C5;refine ACo (K':=(fun xr h'=> ∃ x:(Int) × (LiI) × LnA × LnN × LvA,(x.1,x.2.1)=Dd/\xr=(.int .i64 x.1)/\Kst h h' (A4.L.set 0 (aO2 (cI .i64) 23 2 x.2.2.1 x.2.2.2.1 x.2.2.2.2 Af x.2.1)))) trivial rfl ?_ fun Hs Ht Dg=>?_
   ·refine cwf (l:=[_,_]) Tryz.func73 rfl rfl (ABh (ACq (Wj ?_)));obtain ⟨Dh,Di,Dj⟩:=ABk De;refine ACo (K':=(fun xr h'=> ∃ x:(Nat) × (Int),x.2=Dh/\xr=(.func (.func 105) #[] #[(.pointer (some ⟨x.1,0,none⟩))])/\Kst h h' (aB 2 x.1 [(.int .i64 x.2)] :: A4.L))) trivial rfl ?_ fun Hu Hv Dk=>?_
    ·refine cwf (l:=[_]) Tryz.func74 rfl rfl (ABh (AHz [(.int .i64 a5)] trivial tt2 rfl rfl fun Dl Hw Dn Do Dp=>ACq (Aqn rfl (ABp (ABr (⟨_,ABs,((Dl,a5):(Nat) × (Int)),?_,rfl,?_⟩))))))
     ·exact ABi Di
     ·exact (A4.nb Do Dp Dn)
    obtain ⟨⟨Dq,Ao⟩,Dr,rfl,A5⟩:=Dk;refine ⟨trivial,?_⟩;subst Dr;refine ACq (ABp (ABl (ABh (Wj (ADf AB1 rfl (A5.o2 p1).rd (Wj (ABn (ABo ?_))))))));obtain ⟨By,Ds,Dt⟩:=ABk Dj;obtain ⟨Du,Dv,Dw⟩:=ACe Ds;refine ACg 18889465931478580847040 (fun x:(Int) × (Int) × (LiI) × LnA × LnN × LvA=>[(6,(.int .i64 x.1)),(13,(.int .i64 x.2.1))]) (fun k x h'=>iter Du k (x.1,x.2.1,x.2.2.1)=some By/\Kst h h' (A5.L.set 1 (aO2 (cI .i64) 23 2 x.2.2.2.1 x.2.2.2.2.1 x.2.2.2.2.2 Af x.2.2.1))) (by kernel_rfl) fuel ((1,0,C3,C8,C9,Da):(Int) × (Int) × (LiI) × LnA × LnN × LvA) ?_ ⟨rfl,rfl,trivial⟩ ?_
    ·exact ⟨Dw,A5⟩
    rintro Hx ⟨Bz,Ac,B1,B2,B3,B4⟩ Hy Hz ⟨Dx,A6⟩;obtain ⟨Dy,H5,rfl,Ag,A7⟩:=AB2 Dx;rw [Dv] at Ag;dsimp only at Ag;unfold AM9 at Ag;refine ABh (ACx rfl rfl (ABn (ABl (⟨_,rfl,fun A8=>?_,fun A8=>?_⟩))))
    ·refine ABq (q_t (ABl (ABo (ABh (Wj (ACq (Wj (ACw rfl rfl (ABp (ABo ?_))))))))));obtain ⟨B5,Dz,D0⟩:=ABk (AC0 Ag A8);obtain ⟨D1,D2,D3⟩:=ACe Dz;refine ACg 9444732965739290165568 (fun x:(Int) × (Int) × (LiI) × LnA × LnN × LvA=>[(6,(.int .i64 x.1)),(8,(.int .i64 x.2.1))]) (fun k x h'=>iter D1 k (x.1,x.2.1,x.2.2.1)=some B5/\Kst h h' (A6.L.set 1 (aO2 (cI .i64) 23 2 x.2.2.2.1 x.2.2.2.2.1 x.2.2.2.2.2 Af x.2.2.1))) (by kernel_rfl) fuel ((Bz,(w64 (Ac + 1)),B1,B2,B3,B4):(Int) × (Int) × (LiI) × LnA × LnN × LvA) ?_ ⟨rfl,rfl,trivial⟩ ?_
     ·exact ⟨D3,A6⟩
     rintro H9 ⟨B6,Ah,B7,B8,B9,Ca⟩ Ia Ib ⟨D4,Ap⟩;obtain ⟨D5,Ic,rfl,Ai,A9⟩:=AB2 D4;rw [D2] at Ai;dsimp only at Ai;unfold AM8 at Ai;refine ABl (ABh (Wj (Wj (ADf AB1 rfl (Ap.o2 p1).rd (ACx rfl rfl (ABn (⟨_,rfl,fun Ba=>?_,fun Ba=>?_⟩)))))))
     ·refine ABq (q_t (ABl (ABo (ABo ?_))));obtain ⟨Cb,D6,D7⟩:=ABk (AC0 Ai Ba);obtain ⟨D8,D9,Ea⟩:=ACe D6;refine ACg 9444732965739273650240 (fun x:(Int) × (LiI) × LnA × LnN × LvA=>[(6,(.int .i64 x.1))]) (fun k x h'=>iter D8 k (x.1,x.2.1)=some Cb/\Kst h h' (Ap.L.set 1 (aO2 (cI .i64) 23 2 x.2.2.1 x.2.2.2.1 x.2.2.2.2 Af x.2.1))) (by kernel_rfl) fuel ((B6,B7,B8,B9,Ca):(Int) × (LiI) × LnA × LnN × LvA) ?_ ⟨rfl,trivial⟩ ?_
      ·exact ⟨Ea,Ap⟩
      rintro Id ⟨Cd,Ce,Bb,Bc,Be⟩ Ie If ⟨Eb,Aa⟩;obtain ⟨Ec,Ih,rfl,Aq,Bf⟩:=AB2 Eb;rw [D9] at Aq;dsimp only at Aq;unfold AK9 at Aq;refine ABl (ABh (Wj (Wj ?_)));obtain ⟨Ii,Ad,Ed⟩:=ABk Aq;refine ADl AB1 rfl (Aa.o2 p1) rfl Ad fun Ij Ik Il Ee Ef=>AB3 ACn rfl Ef (Wj ?_);obtain ⟨Bg,Ar,Cf⟩:=ABk Ed;refine AEx (m:=Ah) ABt rfl (Aa.o2 p1) Ee Ad rfl Ar fun Im Eg=>?_;obtain ⟨Io,Eh,Ei⟩:=(Aa.o2 p1).cells Eg Ad Ar;obtain rfl:=Eh;refine AB3 ACm rfl (Ei 0 _ rfl) (AGe rfl rfl (ABn (⟨_,rfl,fun Bh=>?_,fun Bh=>?_⟩)))
      ·refine ABq (q_t (ABo (ABl (AMe (Wj (Wj (Wj ?_)))))));obtain ⟨Ip,Au,Ej⟩:=ABk (AC0 Cf Bh);refine ADl AB1 rfl (Aa.o2 p1) rfl Au fun Iq Ek Ir Cg El=>AB3 ACn rfl El (Wj (Wj (ADl AB1 rfl (Aa.o2 p1) rfl Ad fun It Em Iu Ch En=>AB3 ACn rfl En (Wj (Wj (ADl AB1 rfl (Aa.o2 p1) rfl Au fun Iv Iw Ix Eo Ep=>AB3 ACn rfl Ep (Wj ?_)))))));obtain ⟨Bi,Ci,Er⟩:=ABk Ej;refine AEx (m:=Ac) ABt rfl (Aa.o2 p1) Eo Au rfl Ci fun Iy Es=>?_;obtain ⟨Iz,Et,Eu⟩:=(Aa.o2 p1).cells Es Au Ci;obtain rfl:=Et;refine AB3 ACm rfl (Eu 0 _ rfl) (Wj (Wj (ADl AB1 rfl (Aa.o2 p1) rfl Ad fun I0 I1 I2 Ev Ew=>AB3 ACn rfl Ew (Wj (AEx (m:=Ah) ABt rfl (Aa.o2 p1) Ev Ad rfl Ar fun I3 Ey=>?_)))));obtain ⟨I6,Ez,Fa⟩:=(Aa.o2 p1).cells Ey Ad Ar;obtain rfl:=Ez;refine AB3 ACm rfl (Fa 0 _ rfl) ?_;obtain ⟨Fb,Fc⟩:=ifN Er;refine ATb rfl rfl Fb ?_;obtain ⟨Fd,Fe,Ff⟩:=ABk Fc;refine AZ1 (l:=[Ek,Em,(.int .i64 (w64 (Int.tdiv Bi Bg)))]) (cl:=[(.pointer (some ⟨Dq,0,none⟩))]) (K':=(fun xr h'=> ∃ x:(LiI),x=Fd/\xr= .tuple #[]/\Kst h h' (Aa.L.set 1 (aO2 (cI .i64) 23 2 Bb Bc Be Af x)))) trivial rfl rfl ?_ fun I7 I9 Fg=>?_
       ·refine cwf (l:=[_,_,_,_]) Tryz.func105 rfl rfl (ABh (Wj (ADs ABt rfl ((Aa.o2 p1).rowI Ch Ad) (Wj (ABn (ABo ?_))))));obtain ⟨Cj,Fh,Fi⟩:=ABk Fe;obtain ⟨Fj,Fk,Fl⟩:=ACe Fh;refine ACg 4294965632 (fun x:(Int) × (LiI)=>[(11,(.int .i64 x.1))]) (fun k x h'=>iter Fj k (x.1,x.2)=some Cj/\Kst h h' (Aa.L.set 1 (aO2 (cI .i64) 23 2 Bb Bc Be Af x.2))) (by kernel_rfl) fuel ((0,Ce):(Int) × (LiI)) ?_ ⟨rfl,trivial⟩ ?_
        ·exact ⟨Fl,Aa⟩
        rintro Ja ⟨Ck,Cm⟩ Jc Je ⟨Fm,Ab⟩;obtain ⟨Fo,Jf,rfl,Aj,Bj⟩:=AB2 Fm;rw [Fk] at Aj;dsimp only at Aj;unfold AK8 at Aj;refine ABh (ACx rfl rfl (ABn (ABl (⟨_,rfl,fun Bl=>?_,fun Bl=>?_⟩))))
        ·refine ABq (q_t (ABl (ABo (ABh (Wj ?_)))));obtain ⟨Jg,Cn,Fp⟩:=ABk (AC0 Aj Bl);obtain ⟨Co,Cp,Fq⟩:=ABk Fp;refine AEx (m:=Ah) ABt rfl (Ab.o2 p1) Ch Cn rfl Cp fun Jh Fr=>?_;obtain ⟨Ji,Ft,Fu⟩:=(Ab.o2 p1).cells Fr Cn Cp;obtain rfl:=Ft;refine AB3 ACm rfl (Fu 0 _ rfl) (ACd (ABp (AMe (Wj (Wj (Wj (Wj ?_)))))));obtain ⟨Fv,Av,Fw⟩:=ABk Fq;obtain ⟨Cq,Aw,Fx⟩:=ABk Fw;refine AEx (m:=Ac) ABt rfl (Ab.o2 p1) Cg Av rfl Aw fun Jj Fy=>?_;obtain ⟨Jk,Fz,F4⟩:=(Ab.o2 p1).cells Fy Av Aw;obtain rfl:=Fz;refine AB3 ACm rfl (F4 0 _ rfl) (AB3 ACm rfl ((Ab.b p0).cell (i:=0) rfl) (Wj (AGb rfl rfl (Wj (AJn rfl rfl (ACw rfl rfl (AB3 ACm rfl ((Ab.b p0).cell (i:=0) rfl) ?_)))))));obtain ⟨F5,F6⟩:=ifN Fx;refine AFq rfl rfl F5 (AEx (m:=Ac) ABt rfl (Ab.o2 p1) Cg Av rfl Aw fun Jl F7=>AJd (m:=Ac) (AFy ACm rfl rfl rfl) (Ab.o2 p1) F7 Av Aw (show ((cI .i64)).rep _ (Int.tmod (w64 (Cq + (w64 ((w64 (Ao - (w64 (Int.tdiv Bi Bg)))) * Co)))) Ao) _ from rfl) fun Jm F8 F9=>ACh (q_b (q_t (ABw (ACw rfl rfl (Wj (ABn ?_)))))));obtain rfl:=ABi F6;exact ⟨Fo,(((w64 (Ck + 1)),(sI Cm Ac (sI Fv Ck (Int.tmod (w64 (Cq + (w64 ((w64 (Ao - (w64 (Int.tdiv Bi Bg)))) * Co)))) Ao)))):(Int) × (LiI)),Nat.lt_succ_self _,⟨Bj,(Ab.uO2 p1 F9 F8)⟩,rfl,trivial⟩
        ·obtain rfl:=ABi (AC1 Aj Bl);change _=Cj at Bj;subst Bj;refine AB9 (AB7 (AB7 (ADh (⟨_,ASm,(Cm:(LiI)),?_,rfl,?_⟩))))
         ·exact ABi Fi
         ·exact Ab
       obtain ⟨Ga,Gb,rfl,Ax⟩:=Fg;refine ⟨trivial,?_⟩;subst Gb;refine ABn (ABl (AMe (Wj (Wj (Wj (Wj (Wj (Wj ?_))))))));obtain ⟨Gc,Cr,Gd⟩:=ABk Ff;refine ADl AB1 rfl (Ax.o2 p1) rfl Cr fun Jn Jo Jp Ge Gf=>AB3 ACn rfl Gf (Wj (Wj ?_));obtain ⟨Gg,Ct,Gh⟩:=ABk Gd;refine ADl AB1 rfl (Ax.o2 p1) rfl Ct fun Jq Jr Js Gi Gj=>AB3 ACn rfl Gj (ATv AB1 ACn (Ax.o2 p1) Gi Ge Ct Cr rfl rfl (fun _=>rfl) (fun _=>rfl) (fun _=>rfl) (fun _ _=>rfl) fun Jt Ju Gk Gl Gm Jv Gn Gp Gq=>ABn (ABw (Wj (AR1 rfl (ACd (ACh (q_b (q_t ?_))))))));obtain rfl:=ABi Gh;exact ⟨Ec,(((w64 (0 - Cd)),(sI (sI Ga Ac Gc) Ah Gg),Gk,Gl,Gm):(Int) × (LiI) × LnA × LnN × LvA),Nat.lt_succ_self _,⟨Bf,(Ax.uo2 p1 Gp Gn Gq)⟩,rfl,trivial⟩
      ·obtain rfl:=ABi (AC1 Cf Bh);change _=Cb at Bf;subst Bf;refine AB9 (AB7 (AB7 (ADh (q_b (q_t (ABw (Wj (ACw rfl rfl (ABp ?_)))))))));obtain rfl:=ABi D7;exact ⟨D5,((Cd,(w64 (Ah + 1)),Ce,Bb,Bc,Be):(Int) × (Int) × (LiI) × LnA × LnN × LvA),Nat.lt_succ_self _,⟨A9,Aa⟩,rfl,rfl,trivial⟩
     ·obtain rfl:=ABi (AC1 Ai Ba);change _=B5 at A9;subst A9;refine AB9 (AB7 (AB7 (ADh (q_b (q_t (ABw (ACw rfl rfl (Wj (ABn ?_)))))))));obtain rfl:=ABi D0;exact ⟨Dy,((B6,(w64 (Ac + 1)),B7,B8,B9,Ca):(Int) × (Int) × (LiI) × LnA × LnN × LvA),Nat.lt_succ_self _,⟨A7,Ap⟩,rfl,rfl,trivial⟩
    ·obtain rfl:=ABi (AC1 Ag A8);change _=By at A7;subst A7;refine AB9 (AB7 (AB7 (ADh (q_t (ABh (Wj (ABp (ABr (⟨_,ABs,((Bz,B1,B2,B3,B4):(Int) × (LiI) × LnA × LnN × LvA),?_,rfl,?_⟩)))))))))
     ·exact ABi Dt
     ·exact A6.sel [1] (by decide)
   obtain ⟨⟨Gr,Jw,Jx,Jy,Jz⟩,Gt,rfl,Bm⟩:=Dg;refine ⟨trivial,?_⟩;subst Gt;refine Wj (ACw rfl rfl (ABp (ABl (ABh (Wj (ADf AB1 rfl (Bm.o2 p0).rd (Wj (ABn (ABo ?_)))))))));obtain ⟨Cu,Gu,Gv⟩:=ABk Df;obtain ⟨Gw,Gx,Gy⟩:=ACe Gu;refine ACg 35183835219712 (fun x:(Int) × (Int)=>[(8,(.int .i64 x.1)),(29,(.int .i64 x.2))]) (fun k x h'=>iter Gw k (x.1,x.2)=some Cu/\Kst h h' (Bm.L)) (by kernel_rfl) fuel (((w64 (Gr + a5)),0):(Int) × (Int)) ?_ ⟨rfl,rfl,trivial⟩ ?_
   ·exact ⟨Gy,Bm⟩
   rintro J0 ⟨Gz,Cv⟩ J1 J2 ⟨G3,Ak⟩;obtain ⟨G4,J3,rfl,Am,Bn⟩:=AB2 G3;rw [Gx] at Am;dsimp only at Am;unfold ANa at Am;refine ABh (ACx rfl rfl (ABn (ABl (⟨_,rfl,fun Bo=>?_,fun Bo=>?_⟩))))
   ·refine ABq (q_t (ABl (ABo (ABh (Wj ?_)))));obtain ⟨J4,Bp,G5⟩:=ABk (AC0 Am Bo);refine ADl AB1 rfl (Ak.o2 p0) rfl Bp fun J5 J6 J7 G6 G7=>AB3 ACn rfl G7 (ACd (ABp (AMe (Wj (Wj ?_)))));obtain ⟨G8,G9⟩:=ifN G5;refine AFq rfl rfl G8 (Wj (Wj ?_));obtain ⟨Hb,Cw,Hc⟩:=ABk G9;refine AEx (m:=Cv) ABt rfl (Ak.o2 p0) G6 Bp rfl Cw fun J8 Hd=>?_;obtain ⟨J9,He,Hf⟩:=(Ak.o2 p0).cells Hd Bp Cw;obtain rfl:=He;refine AB3 ACm rfl (Hf 0 _ rfl) (AJn rfl rfl (Wj ?_));obtain ⟨Hg,Hh⟩:=ifN Hc;refine AFq rfl rfl Hg (ACd (ACh (q_b (q_t (ABw (ACw rfl rfl (Wj (ABn ?_))))))));obtain rfl:=ABi Hh;exact ⟨G4,(((Int.tmod (w64 ((Int.tmod Gz a5) * Hb)) a5),(w64 (Cv + 1))):(Int) × (Int)),Nat.lt_succ_self _,⟨Bn,Ak⟩,rfl,rfl,trivial⟩
   ·obtain rfl:=ABi (AC1 Am Bo);change _=Cu at Bn;subst Bn;refine AB9 (AB7 (AB7 (ADh (q_t (ABh (Wj (ACd (ABp (ABr ?_)))))))));obtain rfl:=ABi Gv;exact ⟨_,AC6,Ak.x,rfl⟩
end Go.Proofs.YtiegjkmfpcgjjaaGreatDoor
namespace Go.Proofs.YtiegjkmfpcgjjaaGreatDoor
open Go Go.QF
set_option maxRecDepth 100000
theorem Amt {E:Type} {body:Int->Option (Int ⊕ E)} {fuel n:Nat} {e:E} (hf:n < fuel) (hs:∀ i:Nat,i < n->body (i:Int)=some (.inl ((i + 1:Nat):Int))) (he:body (n:Int)=some (.inr e)):iter body fuel 0=some e:=by
 apply ok_eq;refine ACy (fun i s=>s=(i:Int)) n rfl hf fun i s hi hI=>?_;subst hI;by_cases h:i < n
 ·rw [hs i h];exact ABj ⟨h,rfl⟩
 ·obtain rfl:i=n:=by omega
  rw [he];exact ABj rfl
theorem Ad2 {fuel n:Nat} {F:Nat->Nat->Int} (Aa:1<=n) (hn:n<=8) (hf:100 < fuel):AHh fuel (tab n n F)=some true:=by
 unfold AHh;rw [AC9,if_neg (by omega),if_neg (by omega),Amp (ADb (by omega)),AC8,if_neg (by omega),if_neg (by omega)];simp only [Option.bind_some];rw [Amt (n:=n) (e:= .inr ()) (by omega) (fun i hi=>?_) ?_]
 ·rfl
 ·unfold AJ0;rw [AC9,if_neg (by omega)]
 ·unfold AJ0;rw [AC9,if_pos (by omega),AQh (ADb hi),Amp (ADb (by omega)),AC8,AC8,if_neg (fun h=>h rfl),AG3 (by omega)]
theorem Apl {n j:Nat} {g:Nat->Int} {x:Int}:sI (ADu n g) (j:Int) x=ADu n fun c=>if c=j then x else g c:=by rw [ADv,AE5]
theorem AEc {n i:Nat} {F:Nat->Nat->Int} {g:Nat->Int}:sI (tab n n F) (i:Int) (ADu n g)=tab n n (ADd F i g):=by
 rw [ADv];exact AHl
theorem Amu {n r:Nat} {F:Nat->Nat->Int} {g g':Nat->Int} (h:∀ c,c < n->g c=g' c):tab n n (ADd F r g)=tab n n (ADd F r g'):=AU9 fun i j _ hj=>by
  rw [ACr,ACr,h j hj]
structure AYy (n:Nat) (m:Int) (A F:Nat->Nat->Int) (s:Int) (c:Nat):Prop where
  sg:s=1∨s= -1
  bd:Bd n n m F
  z:Zc n F c
  d:Eqm m (det n F) (s * det n A)
theorem Apm {m a b x y:Int} (hm:2<=m) (Ab:m<=2147483647) (ha:0<=a/\a < m) (hb:0 < b/\b < m) (hx:0<=x/\x < m) (hy:0<=y/\y < m):Int.tmod (w64 (x + (w64 ((w64 (m - (w64 (Int.tdiv a b)))) * y)))) m=(x + (m - a / b) * y) % m:=by
 have hq:=Aj2 ha.1 ha.2 hb.1;have h1:Int.tdiv a b=a / b:=Int.tdiv_eq_ediv_of_nonneg ha.1;have h0:0<=(m - a / b) * y:=Int.mul_nonneg (by omega) hy.1;have h2:(m - a / b) * y<=2147483647 * 2147483647:=Int.mul_le_mul (by omega) (by omega) hy.1 (by omega);rw [h1,AD6 (x:=a / b) (by omega) (by omega),AD6 (x:=m - a / b) (by omega) (by omega),AD6 (x:=(m - a / b) * y) (by omega) (by omega),wk (by omega),Int.tmod_eq_emod_of_nonneg (by omega)]
theorem Apn {fuel n c i:Nat} {m:Int} {F:Nat->Nat->Int} (hn:n<=8) (hm:2<=m) (Ac:m<=2147483647) (hc:c < n) (hi:i < n) (hne:c≠i) (hB:Bd n n m F) (h0:F i c≠0) (hf:100 < fuel):
    iter (fun s=>AK8 fuel m c i (ADu n (F i)) (F i c) (F c c) s.1 s.2) fuel (0,tab n n F)=some (tab n n (ADd F c fun x=>(F c x + (m - F c c / F i c) * F i x) % m)):=by
 apply ok_eq;refine ACy (fun j s=>s=((j:Int),tab n n (ADd F c fun x=>if x < j then (F c x + (m - F c c / F i c) * F i x) % m else F c x))) n ?_ (by omega) fun j s hj hI=>?_
 ·have:(fun x=>if x < 0 then (F c x + (m - F c c / F i c) * F i x) % m else F c x)=F c:=funext fun x=>if_neg (by omega);rw [this,AM1];rfl
 ·subst hI;unfold AK8;dsimp only;rw [AC8];by_cases h:j < n
  ·have b1:=hB c c hc hc;have b2:=hB i c hi hc;rw [if_pos (by omega),AQh (ADb hi),AD2 _ _ (Ne.symm hne),AQh (ACj h),AQh (ADb hc),AC4,AQh (ACj h),if_pos (by omega),if_neg (by omega),Apm hm Ac (hB c c hc hc) ⟨by omega,b2.2⟩ (hB c j hc h) (hB i j hi h),Apl,AEc,AVm,AG3 (by omega)];refine ABj ⟨h,congrArg (fun z=>(((j + 1:Nat):Int),tab n n (ADd F c z))) (funext fun x=>?_)⟩;by_cases h1:x=j
   ·rw [if_pos h1,if_pos (by omega),h1]
   ·rw [if_neg h1];by_cases h2:x < j
    ·rw [if_pos h2,if_pos (by omega)]
    ·rw [if_neg h2,if_neg (by omega)]
  ·obtain rfl:j=n:=by omega
   rw [if_neg (by omega)];exact ABj (Amu fun x hx=>if_pos hx)
theorem Ai9 {n c i:Nat} {m s:Int} {A F:Nat->Nat->Int} (hm:2<=m) (hc:c < n) (hi:i < n) (hci:c < i) (H:AYy n m A F s c) (q:Int):AYy n m A (ANi F c i q m) (-s) c:=by
 have h1:=(Eqm.refl m 0).sub H.d;rw [Int.zero_sub,Int.zero_sub] at h1;refine ⟨by rcases H.sg with h | h <;> rw [h] <;> simp,Af6 (by omega) H.bd hc hi,Af7 H.z hci hi,(Aiv hc hi (by omega)).trans ?_⟩;rw [Int.neg_mul];exact h1
theorem Afy {fuel n c i:Nat} {m s:Int} {A F:Nat->Nat->Int} (hn:n<=8) (hm:2<=m) (Ab:m<=2147483647) (hc:c < n) (hi:i < n) (hci:c < i) (H:AYy n m A F s c) (hZ:Zi F c i) (hf:2147483648 < fuel):
    Ok (iter (fun s=>AK9 fuel m c i s.1 s.2) fuel (s,tab n n F)) fun e=> ∃ s' F',e=(s',tab n n F')/\AYy n m A F' s' c/\Zi F' c i/\F' i c=0:=by
 refine ACy (fun k st=> ∃ s' F',st=(s',tab n n F')/\AYy n m A F' s' c/\Zi F' c i/\F' i c + k<=m) m.toNat ⟨s,F,rfl,H,hZ,by have:=H.bd i c hi hc;omega⟩ (by omega) fun k st hk hI=>?_;obtain ⟨s',F',rfl,H',hZ',hk'⟩:=hI;have hB:=H'.bd;have b2:=hB i c hi hc;unfold AK9;dsimp only;rw [AQh (ADb hi),AQh (ACj hc)];refine ACk (fun h=>?_) fun h=>ABj ⟨s',F',rfl,H',hZ',Decidable.not_not.1 h⟩;rw [AQh (ADb hc),AQh (ACj hc),if_pos h,Apn hn hm Ab hc hi (by omega) hB h (by omega)];simp only [Option.bind_some]
 have e1:∀ g,sI (sI (tab n n (ADd F' c g)) (c:Int) (ADu n (F' i))) (i:Int) (ADu n g)=tab n n (AFj (ADd F' c g) c i):=fun g=>by
   rw [AEc,AEc]
   unfold AFj
   rw [AC4,AD2 _ _ (show i≠c by omega)]
 have b1:=hB c c hc hc;rw [AQh (ADb hi),AD2 _ _ (show i≠c by omega),AQh (ADb hc),AC4,e1,AD6 (by rcases H'.sg with h | h <;> omega) (by rcases H'.sg with h | h <;> omega),Int.zero_sub];refine ABj ⟨by omega,-s',_,rfl,Ai9 hm hc hi hci H' _,Af8 hZ',?_⟩;show ANi F' c i (F' c c / F' i c) m i c + ((k + 1:Nat):Int)<=m;rw [Aab];dsimp only;rw [Af9 b1.1 b1.2 (by omega) b2.2];have:=Int.emod_lt_of_pos (F' c c) (show 0 < F' i c by omega);omega
theorem Ar2 {fuel n:Nat} {T:Nat->Nat->Int} {m:Int} (Af:1<=n) (hn:n<=8) (hm:2<=m) (Ad:m<=2147483647) (hf:2147483648 < fuel):AI5 fuel (tab n n T) m=some (det n T % m,0):=by
 unfold AI5
 have h0:AKb fuel (tab n n T)=some true:=by
   unfold AKb
   rw [Ad2 Af hn (by omega)]
   simp only [Option.bind_some,reduceIte]
   rw [Amp (ADb (by omega)),AC8,AC9,if_pos rfl,decide_eq_true (by omega)]
 have h1:AEk fuel m=some 0:=by unfold AEk;rw [if_neg (by omega),if_neg (by omega)]
 rw [h0];simp only [Option.bind_some];rw [if_neg (by decide),h1];simp only [Option.bind_some];rw [if_neg (by decide),Ams hn hm Ad (by omega)];simp only [Option.bind_some];apply ok_eq;generalize hA:(fun i j=>T i j % m)=A;have hAd:Eqm m (det n A) (det n T):=by subst hA;exact AWr fun i j _ _=>Eqm.mod _ _
 have hAb:Bd n n m A:=by subst hA;exact fun i j _ _=>⟨Int.emod_nonneg _ (by omega),Int.emod_lt_of_pos _ (by omega)⟩
 refine ABm (Q:=fun e:Int × List (List Int)=> ∃ F,e.2=tab n n F/\AYy n m A F e.1 n) (ABm (ACy (fun c st=> ∃ s F,st=(s,(c:Int),tab n n F)/\c<=n/\AYy n m A F s c) n (Q:=fun e:Int × List (List Int)=> ∃ F,e.2=tab n n F/\AYy n m A F e.1 n) ⟨1,A,rfl,Nat.zero_le _,.inl rfl,hAb,fun c' i h=>absurd h (Nat.not_lt_zero _),by rw [Int.one_mul];exact Eqm.refl _ _⟩ (by omega) fun c st hc hI=>?_) fun e he=>ABj he) fun e he=>?_
 ·obtain ⟨s,F,rfl,hcn,H⟩:=hI;unfold AM9;dsimp only;rw [AC9];refine ACk (fun h=>?_) fun h=>ABj ⟨F,rfl,(show c=n by omega) ▸ H⟩;have hc':c < n:=by omega
  rw [AG3 (by omega)];refine ABm (ACy (fun k st=> ∃ s F,st=(s,((c + 1 + k:Nat):Int),tab n n F)/\c + 1 + k<=n/\AYy n m A F s c/\Zi F c (c + 1 + k)) (n - (c + 1)) (Q:=fun e:Int × List (List Int)=> ∃ F,e.2=tab n n F/\AYy n m A F e.1 (c + 1)) ⟨s,F,rfl,by omega,H,fun k h1 h2=>by omega⟩ (by omega) fun k st hk hI=>?_) fun e he=>?_
  ·obtain ⟨s',F',rfl,hkn,H',hZ'⟩:=hI;unfold AM8;dsimp only;rw [AC9];refine ACk (fun h2=>ABm (Afy hn hm Ad hc' (by omega) (by omega) H' hZ' hf) fun e he=>?_) fun h2=>ABj ⟨F',rfl,H'.sg,H'.bd,Aad H'.z ((show c + 1 + k=n by omega) ▸ hZ'),H'.d⟩;obtain ⟨s2,F2,rfl,H2,Aj,h3⟩:=he;exact ABj ⟨by omega,s2,F2,by rw [AG3 (by omega)];rfl,by omega,H2,Aac Aj h3⟩
  ·obtain ⟨e1,e2⟩:=e;obtain ⟨F',h2,H'⟩:=he;dsimp only at h2 H';subst h2;exact ABj ⟨by omega,e1,F',rfl,by omega,H'⟩
 ·obtain ⟨s,M⟩:=e;obtain ⟨F,h2,H⟩:=he;dsimp only at h2 H;subst h2;dsimp only;rw [AD6 (by rcases H.sg with h | h <;> omega) (by rcases H.sg with h | h <;> omega)];refine ABm (ACy (fun k st=>st=(AQw F m s k,(k:Int))/\k<=n) n (Q:=(· =AQw F m s n)) ⟨rfl,Nat.zero_le _⟩ (by omega) fun k st hk hI=>?_) fun e he=>ABj ?_
  ·obtain ⟨rfl,hkn⟩:=hI;unfold ANa;dsimp only;rw [AC9];by_cases h:k < n
   ·have hd:=Anl (F:=F) (m:=m) (s:=s) hm H.sg k;have hb:=H.bd k k h h;have h3:=Int.emod_nonneg (AQw F m s k) (show m≠0 by omega);have h4:=Int.emod_lt_of_pos (AQw F m s k) (show 0 < m by omega);have h5:=Int.mul_nonneg h3 hb.1;have h6:AQw F m s k % m * F k k<=2147483647 * 2147483647:=Int.mul_le_mul (by omega) (by omega) hb.1 (by omega);rw [if_pos (by omega),AQh (ADb h),if_pos (by omega),AQh (ACj h),if_pos (by omega),Int.tmod_eq_emod_of_nonneg hd.1,AD6 (x:=AQw F m s k % m * F k k) (by omega) (by omega),Int.tmod_eq_emod_of_nonneg h5,AG3 (by omega)];exact ABj ⟨h,rfl,by omega⟩
   ·obtain rfl:k=n:=by omega
    rw [if_neg (by omega)];exact ABj rfl
  ·subst he
   have h3:Eqm m (AQw F m s n) (det n T):=by
     refine (Alx _).trans ?_
     rw [<- AQc H.z]
     refine ((Eqm.refl m s).mul H.d).trans (Eqm.trans (Eqm.of_eq ?_) hAd)
     rcases H.sg with h | h <;> rw [h] <;> grind
   have h4:0<=AQw F m s n/\AQw F m s n < m:=by
     obtain ⟨k,rfl⟩:∃ k,n=k + 1:=⟨n - 1,by omega⟩
     unfold AQw
     exact ⟨Int.emod_nonneg _ (by omega),Int.emod_lt_of_pos _ (by omega)⟩
   unfold Eqm at h3;rw [<- h3,Int.emod_eq_of_lt h4.1 h4.2]
end Go.Proofs.YtiegjkmfpcgjjaaGreatDoor
namespace Go.Proofs.YtiegjkmfpcgjjaaGreatDoor
open Go Go.QF
set_option maxRecDepth 100000
theorem Apo {α:Type} {body:List α × Int->Option ((List α × Int) ⊕ List α)} {fuel n:Nat} (f:Nat->α) (hf:n < fuel) (hs:∀ i:Nat,i < n->body (ADu i f,(i:Int))=some (.inl (ADu i f ++ [f i],((i + 1:Nat):Int)))) (he:∀ X,body (X,(n:Int))=some (.inr X)):iter body fuel ([],0)=some (ADu n f):=by
  apply ok_eq;refine ACy (fun i s=>s=(ADu i f,(i:Int))) n rfl hf fun i s hi hI=>?_;subst hI
  by_cases h:i < n
  · rw [hs i h,AM0];exact ABj ⟨h,rfl⟩
  · obtain rfl:i=n:=by omega
    rw [he];exact ABj rfl
theorem Abk {p:Int} (hp:1<=p) {a b:Nat} (h:a<=b):p ^ a<=p ^ b:=by
 obtain ⟨c,rfl⟩:∃ c,b=a + c:=⟨b - a,by omega⟩;rw [Int.pow_add];have h1:0 < p ^ a:=Int.pow_pos (by omega);have h2:0 < p ^ c:=Int.pow_pos (by omega);have:=Int.mul_le_mul_of_nonneg_left (show 1<=p ^ c by omega) (Int.le_of_lt h1);omega
end Go.Proofs.YtiegjkmfpcgjjaaGreatDoor
namespace Go.Proofs.YtiegjkmfpcgjjaaGreatDoor
open Go Go.QF
set_option maxRecDepth 100000
set_option maxHeartbeats 4000000
def ALv (fuel:Nat) (a1 a2:Int):Option Int:=
  (if a2≠0 then (if a2≠0 then (some (Int.tmod (w64 ((Int.tmod a1 a2) + a2)) a2)) else none) else none)
theorem AOy {fuel:Nat} {h:ABg} {a1 a2 r:Int} (hp:ALv fuel a1 a2=some r):AB8 Tryz.prog 79 #[(.int .i64 a1),(.int .i64 a2)] h (fun x h'=>Ext h h'/\x= .int .i64 r):=by
 unfold ALv at hp;refine cwf (l:=[_,_]) Tryz.func79 rfl rfl (ABh (ACq (Wj (Wj ?_))));obtain ⟨Ac,Ad⟩:=ifN hp;refine AFq rfl rfl Ac (Wj (ACw rfl rfl (Wj ?_)));obtain ⟨Ae,Af⟩:=ifN Ad;refine AFq rfl rfl Ae (ABp (ABr ?_));obtain rfl:=ABi Af;exact ⟨_,ABs,(Kst.k0 h).x,rfl⟩
def APj (fuel:Nat) (Ac Aa Ab:Int):Option ((Int × Int) ⊕ ((Int × Int))):=
  (if (Int.tmod Aa 2)=0 then (if (Int.tmod Ac 8)=3 then (some (Sum.inl ((w64 (Int.tdiv Aa 2)),(w64 (0 - Ab))))) else (if (Int.tmod Ac 8)=5 then (some (Sum.inl ((w64 (Int.tdiv Aa 2)),(w64 (0 - Ab))))) else (some (Sum.inl ((w64 (Int.tdiv Aa 2)),Ab))))) else (some (Sum.inr<| (Aa,Ab))))
def APk (fuel:Nat) (Ad Aa Ae:Int):Option ((Int × Int × Int) ⊕ ((Int × Int))):=
  (if ¬ Ad=0 then ((iter (fun s=>APj fuel Aa s.1 s.2) fuel (Ad,Ae)).bind (fun ((Ab,Ac):Int × Int)=>(((if (Int.tmod Ab 4)=3 then (if (Int.tmod Aa 4)=3 then (some ( (w64 (0 - Ac)))) else (some ( Ac))) else (some ( Ac))):Option ((Int))).bind (fun (Af:Int)=>(if Ab≠0 then (some (Sum.inl ((Int.tmod Aa Ab),Ab,Af))) else none))))) else (some (Sum.inr<| (Aa,Ae))))
def AOz (fuel:Nat) (a1 a2:Int):Option Int:=
  ((iter (fun s=>APk fuel s.1 s.2.1 s.2.2) fuel (a1,a2,1)).bind (fun ((Ac,Ad):Int × Int)=>(if ¬ Ac=1 then (some 0) else (some Ad))))
theorem AUx {fuel:Nat} {h:ABg} {a1 a2 r:Int} (hp:AOz fuel a1 a2=some r):AB8 Tryz.prog 80 #[(.int .i64 a1),(.int .i64 a2)] h (fun x h'=>Ext h h'/\x= .int .i64 r):=by
 unfold AOz at hp;refine cwf (l:=[_,_]) Tryz.func80 rfl rfl (ABh (ACq (ABp (ABl (ABo ?_)))));have K0:=Kst.k0 h;obtain ⟨Ax,A8,Ay⟩:=ABk hp;obtain ⟨A9,Ba,Bb⟩:=ACe A8;refine ACg 137438953443 (fun x:(Int) × (Int) × (Int)=>[(0,(.int .i64 x.1)),(1,(.int .i64 x.2.1)),(5,(.int .i64 x.2.2))]) (fun k x h'=>iter A9 k (x.1,x.2.1,x.2.2)=some Ax/\Kst h h' (K0.L)) (by kernel_rfl) fuel ((a1,a2,1):(Int) × (Int) × (Int)) ?_ ⟨rfl,rfl,rfl,trivial⟩ ?_
 ·exact ⟨Bb,K0⟩
 rintro k9 ⟨Bc,Az,u16⟩ Bw Bx ⟨Be,Ag⟩;obtain ⟨Bf,By,rfl,Ad,Am⟩:=AB2 Be;rw [Ba] at Ad;dsimp only at Ad;unfold APk at Ad;refine ABl (ABh (Wj (AGe rfl rfl (ABn (⟨_,rfl,fun Ao=>?_,fun Ao=>?_⟩)))))
 ·refine ABq (q_t (ABo (ABl (ABo ?_))));obtain ⟨A3,Bg,Bh⟩:=ABk (AC0 Ad Ao);obtain ⟨Bi,Bj,Bl⟩:=ACe Bg;refine ACg 8388385 (fun x:(Int) × (Int)=>[(0,(.int .i64 x.1)),(5,(.int .i64 x.2))]) (fun k x h'=>iter Bi k (x.1,x.2)=some A3/\Kst h h' (Ag.L)) (by kernel_rfl) fuel ((Bc,u16):(Int) × (Int)) ?_ ⟨rfl,rfl,trivial⟩ ?_
  ·exact ⟨Bl,Ag⟩
  rintro Bz ⟨Ab,Ac⟩ B1 B2 ⟨Bm,Aa⟩;obtain ⟨Ap,B3,rfl,Ae,Af⟩:=AB2 Bm;rw [Bj] at Ae;dsimp only at Ae;unfold APj at Ae;refine ABl (ABh (Wj (AFq rfl rfl (by decide) (ADo rfl rfl (ABn (⟨_,rfl,fun Aq=>?_,fun Aq=>?_⟩))))))
  ·refine ABq (q_t (ABo (ABh (Wj (ATb rfl rfl (by decide) (ACq (Wj (AFq rfl rfl (by decide) (ADo rfl rfl (Wj ?_))))))))));have A4:=AC0 Ae Aq;by_cases Ah:(Int.tmod Az 8)=3
   ·rw [decide_eq_true Ah];refine ALo 16 true (AB0 rfl (ABn (AB6 rfl (ABw (Wj (AR1 rfl (ACd (ACh (q_b (q_t ?_))))))))));obtain rfl:=ABi (ifT A4 Ah);exact ⟨Ap,(((w64 (Int.tdiv Ab 2)),(w64 (0 - Ac))):(Int) × (Int)),Nat.lt_succ_self _,⟨Af,Aa⟩,rfl,rfl,trivial⟩
   ·have A5:=ifF A4 Ah;rw [decide_eq_false Ah];refine ACl 16 false (Wj (ACl 16 false (AFq rfl rfl (by decide) (ACl 16 false (ADo rfl rfl (ABx rfl (ABn (⟨_,rfl,fun Ar=>?_,fun Ar=>?_⟩))))))))
    ·refine ABw (Wj (AR1 rfl (ACd (ACh (q_b (q_t ?_))))));obtain rfl:=ABi (AC0 A5 Ar);exact ⟨Ap,(((w64 (Int.tdiv Ab 2)),(w64 (0 - Ac))):(Int) × (Int)),Nat.lt_succ_self _,⟨Af,Aa⟩,rfl,rfl,trivial⟩
    ·refine ABq (q_b (q_t ?_));obtain rfl:=ABi (AC1 A5 Ar);exact ⟨Ap,(((w64 (Int.tdiv Ab 2)),Ac):(Int) × (Int)),Nat.lt_succ_self _,⟨Af,Aa⟩,rfl,rfl,trivial⟩
  ·obtain rfl:=ABi (AC1 Ae Aq);change _=A3 at Af;subst Af;refine AB9 (AB7 (AB7 (ADh (q_t ?_))));obtain ⟨Bn,A6,Bo⟩:=ABk Bh;refine AMd 8581546016 (fun x:(Int)=>[(5,(.int .i64 x))]) (fun x h'=>( x)=Bn/\Kst h h' (Aa.L)) ?_ ?_
   ·refine ABh (Wj (AFq rfl rfl (by decide) (ADo rfl rfl (Wj ?_))));by_cases Ai:(Int.tmod Ab 4)=3
    ·have A7:=ifT A6 Ai;rw [decide_eq_true Ai];refine ACl 26 true (Wj (ACl 26 true (AFq rfl rfl (by decide) (ACl 26 true (ADo rfl rfl (AB0 rfl (ABn (⟨_,rfl,fun Au=>?_,fun Au=>?_⟩))))))))
     ·refine ABw (Wj (AR1 rfl (ABp ?_)));exact ⟨((w64 (0 - Ac)):(Int)),⟨ABi (AC0 A7 Au),Aa⟩,rfl,trivial⟩
     ·refine ABq (q_t ?_);exact ⟨(Ac:(Int)),⟨ABi (AC1 A7 Au),Aa⟩,rfl,trivial⟩
    ·rw [decide_eq_false Ai];refine ALo 26 false (ABx rfl (ABn (ACc rfl (ABq (q_t ?_)))));exact ⟨(Ac:(Int)),⟨ABi (ifF A6 Ai),Aa⟩,rfl,trivial⟩
   rintro Bp B4 B5 ⟨Bq,Br⟩;subst Bq;refine ABw (Wj (Wj ?_));obtain ⟨Bt,Bu⟩:=ifN Bo;refine AFq rfl rfl Bt (Wj (ACd (ACd (ACh (q_b (q_t ?_))))));obtain rfl:=ABi Bu;exact ⟨Bf,(((Int.tmod Az Ab),Ab,Bp):(Int) × (Int) × (Int)),Nat.lt_succ_self _,⟨Am,Br⟩,rfl,rfl,rfl,trivial⟩
 ·obtain rfl:=ABi (AC1 Ad Ao);change _=Ax at Am;subst Am;refine AB9 (AB7 (AB7 (ADh (q_t (ABl (ABh (Wj (AGe rfl rfl (ABn (⟨_,rfl,fun Av=>?_,fun Av=>?_⟩))))))))))
  ·refine ABh (ABp (ABr (ABz ?_)));obtain rfl:=ABi (AC0 Ay Av);exact ⟨_,ABs,Ag.x,rfl⟩
  ·refine ABq (q_t (ABh (Wj (ABp (ABr ?_)))));obtain rfl:=ABi (AC1 Ay Av);exact ⟨_,ABs,Ag.x,rfl⟩
def ANn (fuel:Nat) (a1 Ab Aa:Int):Option ((Int × Int) ⊕ (((Int × Int)) ⊕ (Int × Int))):=
  (if (Int.tmod Ab 2)=0 then (if (Int.tmod a1 2)=0 then (some (Sum.inr<| Sum.inl <| (0,0))) else ((((ALv fuel a1 8).bind fun Ad=>(if Ad=3 then (some ( (w64 (0 - Aa)))) else (if Ad=5 then (some ( (w64 (0 - Aa)))) else (some ( Aa))))):Option ((Int))).bind (fun (Ae:Int)=>(some (Sum.inl ((w64 (Int.tdiv Ab 2)),Ae)))))) else (some (Sum.inr<| Sum.inr <| (Ab,Aa))))
def AMp (fuel:Nat) (a1 a2:Int):Option (Int × Int):=
  (((if a1 < (-2147483647) then (some (Sum.inl <| (0,1))) else (if 2147483647 < a1 then (some (Sum.inl <| (0,1))) else (if a2 < (-2147483647) then (some (Sum.inl <| (0,1))) else (if 2147483647 < a2 then (some (Sum.inl <| (0,1))) else (some (Sum.inr <| ())))))):Option (((Int × Int)) ⊕ (Unit))).bind (fun ex=>match ex with | Sum.inl Ad=>(some Ad) | Sum.inr (_)=>(if a2=0 then (if a1=1 then (some (1,0)) else (if a1=(-1) then (some (1,0)) else (some (0,0)))) else (((if a2 < 0 then (if a1 < 0 then (some ( ((w64 (0 - a2)),(-1)))) else (some ( ((w64 (0 - a2)),1)))) else (some ( (a2,1)))):Option ((Int × Int))).bind (fun ((Ae,Af):Int × Int)=>((iter (fun s=>ANn fuel a1 s.1 s.2) fuel (Ae,Af)).bind (fun ex=>match ex with | Sum.inl Ag=>(some Ag) | Sum.inr ((Ac,Ah))=>((ALv fuel a1 Ac).bind fun Ai=>((AOz fuel Ai Ac).bind fun Aj=>(some ((w64 (Ah * Aj)),0)))))))))))
theorem ASh {fuel:Nat} {h:ABg} {a1 a2:Int} {r:(Int × Int)} (hp:AMp fuel a1 a2=some r):AB8 Tryz.prog 49 #[(.int .i64 a1),(.int .i64 a2)] h (fun x h'=>Ext h h'/\x= .tuple #[.int .i64 r.1,.int .i64 r.2]):=by
 unfold AMp at hp;refine cwf (l:=[_,_]) Tryz.func49 rfl rfl (ABh (ACd (ABp ?_)));have K0:=Kst.k0 h;obtain ⟨Bj,A5,Ad⟩:=ABk hp;refine AMd 4194096 (fun x:Unit=>[]) (fun x h'=>(Sum.inr <| ())=Bj/\Kst h h' (K0.L)) ?_ ?_
 ·refine ABh (Wj (ACx rfl rfl (Wj ?_)));by_cases Ah:a1 < (-2147483647)
  ·rw [decide_eq_true Ah];refine AGg 10 true (AB0 rfl (Wj (AGg 14 true (AB0 rfl (Wj (AGg 18 true (AB0 rfl (ABn (AB6 rfl (ABh (ACd (ABp ?_))))))))))));obtain rfl:=ABi (ifT A5 Ah);refine ABr (ABz ?_);obtain rfl:=ABi Ad;exact ⟨_,AC6,K0.x,rfl⟩
  ·have A6:=ifF A5 Ah;rw [decide_eq_false Ah];refine ACl 10 false (Wj (ACl 10 false (AKj rfl rfl (ABx rfl (Wj ?_)))));by_cases Ai:2147483647 < a1
   ·rw [decide_eq_true Ai];refine AGg 14 true (AB0 rfl (Wj (AGg 18 true (AB0 rfl (ABn (AB6 rfl (ABh (ACd (ABp ?_)))))))));obtain rfl:=ABi (ifT A6 Ai);refine ABr (ABz ?_);obtain rfl:=ABi Ad;exact ⟨_,AC6,K0.x,rfl⟩
   ·have A7:=ifF A6 Ai;rw [decide_eq_false Ai];refine ACl 14 false (Wj (ACl 14 false (ACx rfl rfl (ABx rfl (Wj ?_)))));by_cases Aj:a2 < (-2147483647)
    ·rw [decide_eq_true Aj];refine AGg 18 true (AB0 rfl (ABn (AB6 rfl (ABh (ACd (ABp ?_))))));obtain rfl:=ABi (ifT A7 Aj);refine ABr (ABz ?_);obtain rfl:=ABi Ad;exact ⟨_,AC6,K0.x,rfl⟩
    ·have A8:=ifF A7 Aj;rw [decide_eq_false Aj];refine ACl 18 false (Wj (ACl 18 false (AKj rfl rfl (ABx rfl (ABn (⟨_,rfl,fun Ap=>?_,fun Ap=>?_⟩))))))
     ·refine ABh (ACd (ABp ?_));obtain rfl:=ABi (AC0 A8 Ap);refine ABr (ABz ?_);obtain rfl:=ABi Ad;exact ⟨_,AC6,K0.x,rfl⟩
     ·refine ABq (q_t ?_);exact ⟨(():Unit),⟨ABi (AC1 A8 Ap),K0⟩,trivial⟩
 rintro ⟨⟩ Ci Cj ⟨Bl,Aa⟩;subst Bl;refine ABl (ABh (Wj (ADo rfl rfl (ABn (⟨_,rfl,fun Aq=>?_,fun Aq=>?_⟩)))))
 ·refine ABl (ABh (Wj (ADo rfl rfl (Wj ?_))));have A9:=AC0 Ad Aq;by_cases Ak:a1=1
  ·rw [decide_eq_true Ak];refine AGg 26 true (AB0 rfl (ABn (AB6 rfl (ABh (ACd (ABp (ABr (ABz (ABz ?_)))))))));obtain rfl:=ABi (ifT A9 Ak);exact ⟨_,AC6,Aa.x,rfl⟩
  ·have Ba:=ifF A9 Ak;rw [decide_eq_false Ak];refine ACl 26 false (Wj (ACl 26 false (ADo rfl rfl (ABx rfl (ABn (⟨_,rfl,fun Ar=>?_,fun Ar=>?_⟩))))))
   ·refine ABh (ACd (ABp (ABr (ABz (ABz ?_)))));obtain rfl:=ABi (AC0 Ba Ar);exact ⟨_,AC6,Aa.x,rfl⟩
   ·refine ABq (q_t (ABh (ACd (ABp (ABr (ABz ?_))))));obtain rfl:=ABi (AC1 Ba Ar);exact ⟨_,AC6,Aa.x,rfl⟩
 ·refine ABq (q_t (ABh (ABp ?_)));obtain ⟨Bm,Bb,Bn⟩:=ABk (AC1 Ad Aq);refine AMd 67645734978 (fun x:(Int) × (Int)=>[(1,(.int .i64 x.1)),(6,(.int .i64 x.2))]) (fun x h'=>( (x.1,x.2))=Bm/\Kst h h' (Aa.L)) ?_ ?_
  ·refine ABh (Wj (ACx rfl rfl (ABn (⟨_,rfl,fun Au=>?_,fun Au=>?_⟩))))
   ·refine ABh (Wj (AR1 rfl (ACq (Wj (ACx rfl rfl (ABn ?_))))));have Bc:=AC0 Bb Au;refine ⟨_,rfl,fun Av=>?_,fun Av=>?_⟩
    ·refine ABw (ABp ?_);exact ⟨(((w64 (0 - a2)),(-1)):(Int) × (Int)),⟨ABi (AC0 Bc Av),Aa⟩,rfl,rfl,trivial⟩
    ·refine ABq (q_t ?_);exact ⟨(((w64 (0 - a2)),1):(Int) × (Int)),⟨ABi (AC1 Bc Av),Aa⟩,rfl,rfl,trivial⟩
   ·refine ABq (q_t ?_);exact ⟨((a2,1):(Int) × (Int)),⟨ABi (AC1 Bb Au),Aa⟩,rfl,rfl,trivial⟩
  rintro ⟨u64,Bo⟩ Ck Cm ⟨Bp,Be⟩;subst Bp;refine ABl (ABo ?_);obtain ⟨Aw,Bq,Bf⟩:=ABk Bn;obtain ⟨Br,Bt,Bu⟩:=ACe Bq;refine ACg 18014329790005490 (fun x:(Int) × (Int)=>[(1,(.int .i64 x.1)),(6,(.int .i64 x.2))]) (fun k x h'=>iter Br k (x.1,x.2)=some Aw/\Kst h h' (Be.L)) (by kernel_rfl) fuel ((u64,Bo):(Int) × (Int)) ?_ ⟨rfl,rfl,trivial⟩ ?_
  ·exact ⟨Bu,Be⟩
  rintro Cn ⟨Bv,Ax⟩ Co Cp ⟨Bw,Am⟩;obtain ⟨Bx,Cq,rfl,Af,Ag⟩:=AB2 Bw;rw [Bt] at Af;dsimp only at Af;unfold ANn at Af;refine ABl (ABh (Wj (AFq rfl rfl (by decide) (ADo rfl rfl (ABn (⟨_,rfl,fun Ay=>?_,fun Ay=>?_⟩))))))
  ·refine ABq (q_t (ABo (ABl (ABh (Wj (AFq rfl rfl (by decide) (ADo rfl rfl (ABn ?_))))))));have Bg:=AC0 Af Ay;refine ⟨_,rfl,fun Az=>?_,fun Az=>?_⟩
   ·refine ABh (ACd (ABp ?_));obtain rfl:=ABi (AC0 Bg Az);change _=Aw at Ag;subst Ag;refine ABr (ABz (ADk (ABz (ADk (ABz ?_)))));obtain rfl:=ABi Bf;exact ⟨_,AC6,Am.x,rfl⟩
   ·refine ABq (q_t ?_);obtain ⟨By,Bz,B1⟩:=ABk (AC1 Bg Az);refine AMd 4499201580859584 (fun x:(Int)=>[(6,(.int .i64 x))]) (fun x h'=>( x)=By/\Kst h h' (Am.L)) ?_ ?_
    ·refine ABh (Wj ?_);obtain ⟨B2,B3,Bh⟩:=ABk Bz;refine AC2 rfl (AOy B3) fun Cr Ct B4 B5=>?_;subst B5;refine ACq (Wj (ADo rfl rfl (Wj ?_)));have A3:=Am.e B4;by_cases Ao:B2=3
     ·rw [decide_eq_true Ao];refine AGg 46 true (AB0 rfl (ABn (AB6 rfl (ABw (Wj (AR1 rfl (ABp ?_)))))));exact ⟨((w64 (0 - Ax)):(Int)),⟨ABi (ifT Bh Ao),A3⟩,rfl,trivial⟩
     ·have Bi:=ifF Bh Ao;rw [decide_eq_false Ao];refine ACl 46 false (Wj (ACl 46 false (ADo rfl rfl (ABx rfl (ABn (⟨_,rfl,fun A4=>?_,fun A4=>?_⟩))))))
      ·refine ABw (Wj (AR1 rfl (ABp ?_)));exact ⟨((w64 (0 - Ax)):(Int)),⟨ABi (AC0 Bi A4),A3⟩,rfl,trivial⟩
      ·refine ABq (q_t ?_);exact ⟨(Ax:(Int)),⟨ABi (AC1 Bi A4),A3⟩,rfl,trivial⟩
    rintro B6 Cu Cv ⟨B7,B8⟩;subst B7;refine ABw (Wj (ATb rfl rfl (by decide) (ACd (ACh (q_b (q_t ?_))))));obtain rfl:=ABi B1;exact ⟨Bx,(((w64 (Int.tdiv Bv 2)),B6):(Int) × (Int)),Nat.lt_succ_self _,⟨Ag,B8⟩,rfl,rfl,trivial⟩
  ·obtain rfl:=ABi (AC1 Af Ay);change _=Aw at Ag;subst Ag;refine AB9 (AB7 (AB7 (ADh (q_t (ABh (Wj (Wj (Wj ?_))))))));obtain ⟨Cw,B9,Ca⟩:=ABk Bf;refine AC2 rfl (AOy B9) fun Cx Cy Cb Cd=>?_;subst Cd;refine Wj ?_;obtain ⟨Cz,Ce,Cf⟩:=ABk Ca;refine AC2 rfl (AUx Ce) fun C0 C1 Cg Ch=>?_;subst Ch;refine AJn rfl rfl (ACd (ABp (ABr ?_)));obtain rfl:=ABi Cf;exact ⟨_,AC6,((Am.e Cb).e Cg).x,rfl⟩
end Go.Proofs.YtiegjkmfpcgjjaaGreatDoor
namespace Go.QF
open Classical in
noncomputable def Afz (A:List (List Int)) (m:Int):Int:=if AHy A then (if AO3 m then (if ∃ y,AJ5 m (AYw A m) y then 0 else 8) else 1) else 3
open Classical in
noncomputable def AYh (A:List (List Int)) (m:Int):List (List Int):=if AHy A=true/\AO3 m=true/\ ∃ y,AJ5 m (AYw A m) y then tab A.length A.length (fun i j=>AJz A.length (ent (ALh A m)) i j * AW5 m (AYw A m) % m) else []
theorem AZz {m x r:Int} (h:AJ5 m x r):Eqm m (r * x) 1:=h.2.2
theorem Amv {m x r:Int} (hm:2<=m) (h:Eqm m (r * x) 1):∃ y,AJ5 m x y:=⟨r % m,Int.emod_nonneg _ (by omega),Int.emod_lt_of_pos _ (by omega),by
  rw [Int.mul_emod,Int.emod_emod,<- Int.mul_emod];exact h⟩
theorem AYi {n:Nat} {m u d:Int} {A B:Nat->Nat->Int} (hu:Eqm m (u * d) 1) (hd:Eqm m d (det n A)) (hBA:∀ i j,i < n->j < n->Eqm m (psum (fun k=>B i k * A k j) n) (dl i j)) {i j:Nat} (hi:i < n) (hj:j < n):Eqm m (B i j) (AJz n A i j * u):=by
  have h1:Eqm m (psum (fun k=>B i k * psum (fun l=>A k l * (AJz n A l j * u)) n) n) (B i j):=by
    have e1:∀ k,k < n->Eqm m (psum (fun l=>A k l * (AJz n A l j * u)) n) (dl k j):=fun k hk=>by
      have e2:psum (fun l=>A k l * (AJz n A l j * u)) n=u * psum (fun l=>A k l * AJz n A l j) n:=by
        rw [<- ADr];exact ABu fun l _=>by grind
      rw [e2,AZo hk hj];refine Eqm.trans (Eqm.of_eq (show u * (det n A * dl k j)=u * det n A * dl k j by rw [Int.mul_assoc])) ?_;have:=(((Eqm.refl m u).mul hd.symm).trans hu).mul (Eqm.refl m (dl k j));rwa [Int.one_mul] at this
    refine Eqm.trans (Eqm.psum fun k hk=>(Eqm.refl m (B i k)).mul (e1 k hk)) (Eqm.of_eq ?_);exact Afg (F:=B) (i:=i) hj
  have h2:psum (fun k=>B i k * psum (fun l=>A k l * (AJz n A l j * u)) n) n=psum (fun l=>psum (fun k=>B i k * A k l) n * (AJz n A l j * u)) n:=by
    rw [ABu (g:=fun k=>psum (fun l=>B i k * A k l * (AJz n A l j * u)) n) (fun k _=>by rw [<- ADr];exact ABu fun l _=>by rw [Int.mul_assoc]),AL8];refine ABu fun l _=>?_;rw [Int.mul_comm (psum (fun k=>B i k * A k l) n),<- ADr];exact ABu fun k _=>by rw [Int.mul_comm]
  refine h1.symm.trans ((Eqm.of_eq h2).trans ?_);refine Eqm.trans (Eqm.psum (g:=fun l=>dl i l * (AJz n A l j * u)) fun l hl=>(hBA i l hi hl).mul (Eqm.refl _ _)) (Eqm.of_eq ?_);rw [AM7 hi (fun k hk hne=>by unfold dl;rw [if_neg (fun h=>hne h.symm)];simp)];simp [dl]
end Go.QF
namespace Go.Proofs.YtiegjkmfpcgjjaaGreatDoor
open Go Go.QF
def QJ (A:List (List Int)) (m:Int) (F:Nat->Nat->Int) (s:Int):Prop:=Adg A.length m (ent (ALh A m)) F
theorem Amw (A:List (List Int)) (m:Int):Alr A.length (A.length + A.length) m (QJ A m):=fun F s c i q hc hi hne _ _ _ H=>AX7 (Afn hc hi hne) H
noncomputable def AUy (fuel:Nat) (M:List (List Int)) (m:Int):Option (List (List Int) × Int):=some (AYh M m,Afz M m)
theorem Ad3 {h:ABg} {v:Value} {M:List (List Int)} (HM:Mat h v M) (m:Int):AB8 Tryz.prog 39 #[v,.int .i64 m] h fun x h'=>Ext h h'/\ ∃ r,x= .tuple #[r,.int .i64 (Afz M m)]/\Mat h' r (AYh M m)/\AMv r:=by
 refine (Adf HM m (QJ M m) (fun _ _=>Aly) (Amw M m)).mono fun x h' ⟨⟨hE,r,e,hx,hk⟩,hcp⟩=>⟨hE,r,?_⟩;have hcr:=hcp _ _ hx;clear hcp;subst hx;rw [<- and_assoc];refine ⟨?_,hcr⟩;rcases hk with ⟨h1,rfl,h2⟩ | ⟨h1,h2,rfl,h3⟩ | ⟨h1,h2,F1,s,hs,hQ,hbd,hz,hk⟩
 ·refine ⟨by simp [Afz,h1],?_⟩;rw [show AYh M m=[] by unfold AYh;rw [if_neg (fun h=>by rw [h1] at h;cases h.1)]];exact h2
 ·refine ⟨by simp [Afz,h1,h2],?_⟩;rw [show AYh M m=[] by unfold AYh;rw [if_neg (fun h=>by rw [h2] at h;cases h.2.1)]];exact h3
 ·have hm:=AR6 h2
  have hD:Eqm m (AYw M m) (det M.length (ent (ALh M m))):=by
    have e1:AYw M m=det M.length (ent M) % m:=by simp [AYw,h1,h2]
    rw [e1]
    refine (Eqm.mod _ _).trans (AWr fun i j _ _=>?_)
    rw [Anh];exact (Eqm.mod _ _).symm
  rcases hk with ⟨rfl,h3,c,hc,hno⟩ | ⟨rfl,hun,h3⟩
  ·have hnot: ¬ ∃ y,AJ5 m (AYw M m) y:=by
     rintro ⟨y,hy⟩
     refine hno (Al1 hm.1 hz hQ (V:=fun i k=>y * AJz M.length (ent (ALh M m)) i k) (fun i j hi hj=>?_) c hc)
     have e2:psum (fun k=>y * AJz M.length (ent (ALh M m)) i k * ent (ALh M m) k j) M.length=y * psum (fun k=>AJz M.length (ent (ALh M m)) i k * ent (ALh M m) k j) M.length:=by
       rw [<- ADr];exact ABu fun k _=>by rw [Int.mul_assoc]
     rw [e2,Adh hi hj]
     refine Eqm.trans (Eqm.of_eq (show y * (det M.length (ent (ALh M m)) * dl i j)=y * det M.length (ent (ALh M m)) * dl i j by rw [Int.mul_assoc])) ?_
     have:=(((Eqm.refl m y).mul hD.symm).trans (AZz hy)).mul (Eqm.refl m (dl i j))
     rwa [Int.one_mul] at this
   refine ⟨by simp [Afz,h1,h2,hnot],?_⟩;rw [show AYh M m=[] by unfold AYh;rw [if_neg (fun h=>hnot h.2.2)]];exact h3
  ·obtain ⟨hBA,hAB⟩:=Alz hm.1 hbd hz hun hQ
   have hyes:∃ y,AJ5 m (AYw M m) y:=by
     have e1:=AUn (n:=M.length) (fun i j=>AHb m M.length F1 M.length i (M.length + j)) (ent (ALh M m))
     have e2:Eqm m (det M.length (AE0 M.length (fun i j=>AHb m M.length F1 M.length i (M.length + j)) (ent (ALh M m)))) (det M.length dl):=AWr fun i j hi hj=>hBA i j hi hj
     rw [e1,Aff] at e2
     exact Amv hm.1 (((Eqm.refl _ _).mul hD).trans e2)
   refine ⟨by simp [Afz,h1,h2,hyes],?_⟩
   have e3:AYh M m=tab M.length M.length fun i j=>AHb m M.length F1 M.length i (M.length + j):=by
     unfold AYh
     rw [if_pos ⟨h1,h2,hyes⟩]
     obtain ⟨y,hy⟩:=hyes
     have hu:=AZz (ASo hy)
     refine AU9 fun i j hi hj=>?_
     have h5:=AYi (B:=fun i k=>AHb m M.length F1 M.length i (M.length + k)) hu hD hBA hi hj
     have h6:=Aae (n:=M.length) (by omega:0 < m) hbd M.length i (M.length + j) hi (by omega)
     rw [<- Int.emod_eq_of_lt h6.1 h6.2]
     exact h5.symm
   rw [e3];exact h3
theorem Amx {fuel:Nat} {h:ABg} {v:Value} {M:List (List Int)} {m:Int} {r:List (List Int) × Int} (H:AF2 (cI .i64) h v M) (hp:AUy fuel M m=some r):AB8 Tryz.prog 39 #[v,.int .i64 m] h (fun x h'=>Ext h h'/\ ∃ (x0:Value),x= .tuple #[x0,.int .i64 r.2]/\AF2 (cI .i64) h' x0 r.1):=by
 cases hp;exact (Ad3 (Aln H) m).mono fun x h' ⟨E,r,hx,hr,hcp⟩=>⟨E,r,hx,Aoq hr hcp⟩
end Go.Proofs.YtiegjkmfpcgjjaaGreatDoor
namespace Go.Proofs.YtiegjkmfpcgjjaaGreatDoor
open Go Go.QF
set_option maxRecDepth 100000
set_option maxHeartbeats 4000000
def ARm (fuel:Nat) (a1 a2 s8 s9:Int):Option ((Int × Int) ⊕ ((Int))):=
  (if s9 < a2 then (some (Sum.inl ((w64 (s8 * a1)),(w64 (s9 + 1))))) else (some (Sum.inr<| s8)))
def AMq (fuel:Nat) (a1 a2:Int):Option Int:=
  ((iter (fun s=>ARm fuel a1 a2 s.1 s.2) fuel (1,0)).bind (fun (Ac:Int)=>(some Ac)))
theorem AN0 {fuel:Nat} {h:ABg} {a1 a2 r:Int} (hp:AMq fuel a1 a2=some r):AB8 Tryz.prog 47 #[(.int .i64 a1),(.int .i64 a2)] h (fun x h'=>Ext h h'/\x= .int .i64 r):=by
 unfold AMq at hp;refine cwf (l:=[_,_]) Tryz.func47 rfl rfl (ABh (ACq (ABp (ABl (ABh (Wj (Wj (ABn (ABo ?_)))))))));have K0:=Kst.k0 h;obtain ⟨Ag,Ai,Aj⟩:=ABk hp;obtain ⟨Ak,Am,Ao⟩:=ACe Ai;refine ACg 8096 (fun x:(Int) × (Int)=>[(5,(.int .i64 x.1)),(7,(.int .i64 x.2))]) (fun k x h'=>iter Ak k (x.1,x.2)=some Ag/\Kst h h' (K0.L)) (by kernel_rfl) fuel ((1,0):(Int) × (Int)) ?_ ⟨rfl,rfl,trivial⟩ ?_
 ·exact ⟨Ao,K0⟩
 rintro k9 ⟨Ap,Aq⟩ Aw Ax ⟨Ar,Ah⟩;obtain ⟨Au,Ay,rfl,Aa,Ac⟩:=AB2 Ar;rw [Am] at Aa;dsimp only at Aa;unfold ARm at Aa;refine ABh (ACx rfl rfl (ABn (ABl (⟨_,rfl,fun Ad=>?_,fun Ad=>?_⟩))))
 ·refine ABq (q_t (ABl (ABo (ABw (Wj (Wj (AJn rfl rfl (ACd (ACh (q_b (q_t (ABw (ACw rfl rfl (Wj (ABn ?_)))))))))))))));obtain rfl:=ABi (AC0 Aa Ad);exact ⟨Au,(((w64 (Ap * a1)),(w64 (Aq + 1))):(Int) × (Int)),Nat.lt_succ_self _,⟨Ac,Ah⟩,rfl,rfl,trivial⟩
 ·obtain rfl:=ABi (AC1 Aa Ad);change _=Ag at Ac;subst Ac;refine AB9 (AB7 (AB7 (ADh (q_t (ABh (Wj (ABp (ABr ?_))))))));obtain rfl:=ABi Aj;exact ⟨_,ABs,Ah.x,rfl⟩
def AN1 (fuel:Nat) (a3 a7:LiA) (Ac Aa:Int):Option ((Int × Int) ⊕ ((Int))):=
  (if Aa < (a7.length:Int) then ((gI a7 Aa).bind fun Ae=>((gI a3 Aa).bind fun Af=>(some (Sum.inl ((w64 (Ac + (w64 (Af * Ae)))),(w64 (Aa + 1))))))) else (some (Sum.inr<| Ac)))
def AH7 (fuel:Nat) (a3 a7:LiA) (a9:Int):Option Int:=
  ((iter (fun s=>AN1 fuel a3 a7 s.1 s.2) fuel (0,0)).bind (fun (Ad:Int)=>(if a9≠0 then (some (Int.tmod Ad a9)) else none)))
theorem ARn {fuel:Nat} {h:ABg} {Ae:Value} {a3:LiA} {Ag:Value} {a7:LiA} {a9 r:Int} (H2:SlC (cI .i64) h Ae a3) (H6:SlC (cI .i64) h Ag a7) (hp:AH7 fuel a3 a7 a9=some r):AB8 Tryz.prog 38 #[Ae,Ag,(.int .i64 a9)] h (fun x h'=>Ext h h'/\x= .int .i64 r):=by
 unfold AH7 at hp;refine cwf (l:=[_,_,_]) Tryz.func38 rfl rfl (ABh (ACq (ABp (ABl (ABh (Wj (ADs ABt rfl H6 (Wj (ABn (ABo ?_))))))))));have K0:=Kst.k0 h;obtain ⟨Am,Ap,Aq⟩:=ABk hp;obtain ⟨Ar,Au,Av⟩:=ACe Ap;refine ACg 67105664 (fun x:(Int) × (Int)=>[(7,(.int .i64 x.1)),(12,(.int .i64 x.2))]) (fun k x h'=>iter Ar k (x.1,x.2)=some Am/\Kst h h' (K0.L)) (by kernel_rfl) fuel ((0,0):(Int) × (Int)) ?_ ⟨rfl,rfl,trivial⟩ ?_
 ·exact ⟨Av,K0⟩
 rintro Bg ⟨Aw,Ax⟩ Bh Bi ⟨Ay,Ab⟩;obtain ⟨Az,Bj,rfl,Aa,Ac⟩:=AB2 Ay;rw [Au] at Aa;dsimp only at Aa;unfold AN1 at Aa;refine ABh (ACx rfl rfl (ABn (ABl (⟨_,rfl,fun Ad=>?_,fun Ad=>?_⟩))))
 ·refine ABq (q_t (ABl (ABo (ABh (Wj ?_)))));obtain ⟨A3,A4,A5⟩:=ABk (AC0 Aa Ad);refine AIc (c:=(cI .i64)) ABt rfl H6 rfl A4 fun Bl Bm Bn A6 A7=>?_;obtain rfl:=A6;refine AB3 ACm rfl (ABv (A7 0 _ rfl) Ab.x) (ACd (ABp (ABw (Wj (Wj (Wj ?_))))));obtain ⟨A8,A9,Ba⟩:=ABk A5;refine AIc (c:=(cI .i64)) ABt rfl H2 rfl A9 fun Bo Bp Bq Bb Bc=>?_;obtain rfl:=Bb;refine AB3 ACm rfl (ABv (Bc 0 _ rfl) Ab.x) (Wj (AJn rfl rfl (ACw rfl rfl (ACd (ACh (q_b (q_t (ABw (ACw rfl rfl (Wj (ABn ?_)))))))))));obtain rfl:=ABi Ba;exact ⟨Az,(((w64 (Aw + (w64 (A8 * A3)))),(w64 (Ax + 1))):(Int) × (Int)),Nat.lt_succ_self _,⟨Ac,Ab⟩,rfl,rfl,trivial⟩
 ·obtain rfl:=ABi (AC1 Aa Ad);change _=Am at Ac;subst Ac;refine AB9 (AB7 (AB7 (ADh (q_t (ABh (Wj (Wj ?_)))))));obtain ⟨Be,Bf⟩:=ifN Aq;refine AFq rfl rfl Be (ABp (ABr ?_));obtain rfl:=ABi Bf;exact ⟨_,ABs,Ab.x,rfl⟩
def AO0 (fuel:Nat) (a3:LiI) (a7:LiA) (a9 Ac Aa:Int):Option ((Int × Int) ⊕ ((Int))):=
  (if Aa < (a7.length:Int) then ((gI a7 Aa).bind fun Af=>((gI a3 Aa).bind fun Ag=>((AH7 fuel Ag a7 a9).bind fun Ah=>(some (Sum.inl ((w64 (Ac + (w64 (Ah * Af)))),(w64 (Aa + 1)))))))) else (some (Sum.inr<| Ac)))
def AI1 (fuel:Nat) (a3:LiI) (a7:LiA) (a9:Int):Option Int:=
  ((iter (fun s=>AO0 fuel a3 a7 a9 s.1 s.2) fuel (0,0)).bind (fun (Ad:Int)=>(if a9≠0 then (some (Int.tmod Ad a9)) else none)))
theorem AO1 {fuel:Nat} {h:ABg} {Af:Value} {a3:LiI} {Ah:Value} {a7:LiA} {a9 r:Int} (H2:AF2 (cI .i64) h Af a3) (H6:SlC (cI .i64) h Ah a7) (hp:AI1 fuel a3 a7 a9=some r):AB8 Tryz.prog 40 #[Af,Ah,(.int .i64 a9)] h (fun x h'=>Ext h h'/\x= .int .i64 r):=by
 unfold AI1 at hp;refine cwf (l:=[_,_,_]) Tryz.func40 rfl rfl (ABh (ACq (ABp (ABl (ABh (Wj (ADs ABt rfl H6 (Wj (ABn (ABo ?_))))))))));have K0:=Kst.k0 h;obtain ⟨Am,Ap,Aq⟩:=ABk hp;obtain ⟨Ar,Au,Av⟩:=ACe Ap;refine ACg 536867712 (fun x:(Int) × (Int)=>[(7,(.int .i64 x.1)),(12,(.int .i64 x.2))]) (fun k x h'=>iter Ar k (x.1,x.2)=some Am/\Kst h h' (K0.L)) (by kernel_rfl) fuel ((0,0):(Int) × (Int)) ?_ ⟨rfl,rfl,trivial⟩ ?_
 ·exact ⟨Av,K0⟩
 rintro Bl ⟨Aw,Ax⟩ Bm Bn ⟨Ay,Aa⟩;obtain ⟨Az,Bo,rfl,Ab,Ad⟩:=AB2 Ay;rw [Au] at Ab;dsimp only at Ab;unfold AO0 at Ab;refine ABh (ACx rfl rfl (ABn (ABl (⟨_,rfl,fun Ae=>?_,fun Ae=>?_⟩))))
 ·refine ABq (q_t (ABl (ABo (ABh (Wj ?_)))));obtain ⟨A3,A4,A5⟩:=ABk (AC0 Ab Ae);refine AIc (c:=(cI .i64)) ABt rfl H6 rfl A4 fun Bp Bq Br A6 A7=>?_;obtain rfl:=A6;refine AB3 ACm rfl (ABv (A7 0 _ rfl) Aa.x) (ACd (ABp (ABw (Wj (Wj (Wj ?_))))));obtain ⟨Bt,A8,A9⟩:=ABk A5;refine AIn AB1 rfl H2 rfl A8 fun Bu Bv Bw Ba Bb=>AB3 ACn rfl (ABv Ba Aa.x) (Wj (Wj ?_));obtain ⟨Bc,Be,Bf⟩:=ABk A9;refine AC2 rfl (ARn (Bb.ext Aa.x) (H6.ext Aa.x) Be) fun Bx By Bg Bh=>?_;subst Bh;refine Wj (AJn rfl rfl (ACw rfl rfl (ACd (ACh (q_b (q_t (ABw (ACw rfl rfl (Wj (ABn ?_))))))))));obtain rfl:=ABi Bf;exact ⟨Az,(((w64 (Aw + (w64 (Bc * A3)))),(w64 (Ax + 1))):(Int) × (Int)),Nat.lt_succ_self _,⟨Ad,(Aa.e Bg)⟩,rfl,rfl,trivial⟩
 ·obtain rfl:=ABi (AC1 Ab Ae);change _=Am at Ad;subst Ad;refine AB9 (AB7 (AB7 (ADh (q_t (ABh (Wj (Wj ?_)))))));obtain ⟨Bi,Bj⟩:=ifN Aq;refine AFq rfl rfl Bi (ABp (ABr ?_));obtain rfl:=ABi Bj;exact ⟨_,ABs,Aa.x,rfl⟩
noncomputable def ALa (fuel:Nat) (a3:LiI) (a5:Int):Option Int:=
  ((AVr fuel a3).bind fun x6=>(if (!x6)=true then (some 6) else (((if a5=2 then (some (Sum.inl <| 20)) else (if 9973 < a5 then (some (Sum.inl <| 20)) else ((AX5 fuel a5).bind fun Ad=>(if (!Ad)=true then (some (Sum.inl <| 20)) else (some (Sum.inr <| ())))))):Option ((Int) ⊕ (Unit))).bind (fun ex=>match ex with | Sum.inl Ae=>(some Ae) | Sum.inr (_)=>((AI5 fuel a3 a5).bind fun (Af,Ag)=>(if ¬ Ag=0 then (some 20) else (if Af=0 then (some 20) else (some 0))))))))
theorem ARo {fuel:Nat} {h:ABg} {Am:Value} {a3:LiI} {a5 r:Int} (H2:AF2 (cI .i64) h Am a3) (HO:AT7 h) (hp:ALa fuel a3 a5=some r):AB8 Tryz.prog 34 #[Am,(.int .i64 a5)] h (fun x h'=>Ext h h'/\x= .int .i64 r):=by
 unfold ALa at hp;refine cwf (l:=[_,_]) Tryz.func34 rfl rfl (ABh (ABp (ABl (ABh (Wj ?_)))));have K0:=Kst.k0 h;obtain ⟨x6,A3,Ar⟩:=ABk hp;refine AC2 rfl (Afm (H2.ext K0.x) A3) fun Bh Bi E9 A5=>?_;subst A5;refine AGt rfl (ABn ?_);have Aa:=K0.e E9;refine ⟨_,rfl,fun Ag=>?_,fun Ag=>?_⟩
 ·refine ABh (ABp (ABr (ABz ?_)));obtain rfl:=ABi (ifT Ar Ag);exact ⟨_,ABs,Aa.x,rfl⟩
 ·refine ABq (q_t ?_);obtain ⟨A6,Au,Ac⟩:=ABk (ALj Ar Ag);refine AMd 2096144 (fun x:Unit=>[]) (fun x h'=>(Sum.inr <| ())=A6/\Kst h h' (Aa.L)) ?_ ?_
  ·refine ABh (Wj (ADo rfl rfl (Wj ?_)));by_cases Ad:a5=2
   ·rw [decide_eq_true Ad];refine AGg 12 true (AB0 rfl (Wj (ALo 16 true (AB0 rfl (ABn (AB6 rfl (ABh (ABp ?_))))))));obtain rfl:=ABi (ifT Au Ad);refine ABr (ABz ?_);obtain rfl:=ABi Ac;exact ⟨_,ABs,Aa.x,rfl⟩
   ·have Av:=ifF Au Ad;rw [decide_eq_false Ad];refine ACl 12 false (Wj (ACl 12 false (AKj rfl rfl (ABx rfl (Wj ?_)))));by_cases Ae:9973 < a5
    ·rw [decide_eq_true Ae];refine ALo 16 true (AB0 rfl (ABn (AB6 rfl (ABh (ABp ?_)))));obtain rfl:=ABi (ifT Av Ae);refine ABr (ABz ?_);obtain rfl:=ABi Ac;exact ⟨_,ABs,Aa.x,rfl⟩
    ·rw [decide_eq_false Ae];refine ACl 16 false (Wj (ACl 16 false ?_));obtain ⟨Bj,A7,Aw⟩:=ABk (ifF Av Ae);refine AC2 rfl (Aiu (HO.ext Aa.x) A7) fun Bl Bm A8 A9=>?_;subst A9;refine ACl 16 false (AGt rfl (ABx rfl (ABn ?_)));have Ax:=Aa.e A8;refine ⟨_,rfl,fun Ah=>?_,fun Ah=>?_⟩
     ·refine ABh (ABp ?_);obtain rfl:=ABi (ifT Aw Ah);refine ABr (ABz ?_);obtain rfl:=ABi Ac;exact ⟨_,ABs,Ax.x,rfl⟩
     ·refine ABq (q_t ?_);exact ⟨(():Unit),⟨ABi (ALj Aw Ah),Ax⟩,trivial⟩
  rintro ⟨⟩ Bn Bo ⟨Ba,Ay⟩;subst Ba;refine ABl (ABh (Wj (Wj ?_)));obtain ⟨⟨Bp,Bb⟩,Bc,Ai⟩:=ABk Ac;dsimp only at Ai;refine AC2 rfl (AQi (H2.ext Ay.x) Bc) fun Bq Br Be Bf=>?_;subst Bf;refine Wj (ADa rfl rfl (ADa rfl rfl (ACd (ACq (Wj (AGe rfl rfl (Wj ?_)))))));have Aj:=Ay.e Be;by_cases Af: ¬ Bb=0
  ·rw [decide_eq_true Af];refine AGg 29 true (AB0 rfl (ABn (AB6 rfl (ABh (ABp (ABr (ABz ?_)))))));obtain rfl:=ABi (ifT Ai Af);exact ⟨_,ABs,Aj.x,rfl⟩
  ·have Az:=ifF Ai Af;rw [decide_eq_false Af];refine ACl 29 false (Wj (ACl 29 false (ADo rfl rfl (ABx rfl (ABn (⟨_,rfl,fun Ak=>?_,fun Ak=>?_⟩))))))
   ·refine ABh (ABp (ABr (ABz ?_)));obtain rfl:=ABi (AC0 Az Ak);exact ⟨_,ABs,Aj.x,rfl⟩
   ·refine ABq (q_t (ABh (ABp (ABr ?_))));obtain rfl:=ABi (AC1 Az Ak);exact ⟨_,ABs,Aj.x,rfl⟩
noncomputable def AN9 (fuel:Nat) (a3:LiI) (a5 Ab Ac:Int):Option ((Int × Int) ⊕ ((Int) ⊕ (Unit))):=
  (if Ac < (a3.length:Int) then (if 65536 < (w64 (Ab * a5)) then (some (Sum.inr<| Sum.inl <| 7)) else (some (Sum.inl ((w64 (Ab * a5)),(w64 (Ac + 1)))))) else (some (Sum.inr<| Sum.inr <| ())))
noncomputable def AIa (fuel:Nat) (a3:LiI) (a5:Int):Option Int:=
  ((ALa fuel a3 a5).bind fun x6=>(if ¬ x6=0 then (some x6) else ((iter (fun s=>AN9 fuel a3 a5 s.1 s.2) fuel (1,0)).bind (fun ex=>match ex with | Sum.inl Ad=>(some Ad) | Sum.inr (_)=>(some 0)))))
theorem AOa {fuel:Nat} {h:ABg} {Ak:Value} {a3:LiI} {a5 r:Int} (H2:AF2 (cI .i64) h Ak a3) (HO:AT7 h) (hp:AIa fuel a3 a5=some r):AB8 Tryz.prog 45 #[Ak,(.int .i64 a5)] h (fun x h'=>Ext h h'/\x= .int .i64 r):=by
 unfold AIa at hp;refine cwf (l:=[_,_]) Tryz.func45 rfl rfl (ABh (ABp (ABl (ABh (Wj (Wj ?_))))));have K0:=Kst.k0 h;obtain ⟨x6,Au,Ap⟩:=ABk hp;refine AC2 rfl (ARo (H2.ext K0.x) (HO.ext K0.x) Au) fun A9 Ba E9 Aw=>?_;subst Aw;refine ACq (Wj (AGe rfl rfl (ABn ?_)));have Ae:=K0.e E9;refine ⟨_,rfl,fun Af=>?_,fun Af=>?_⟩
 ·refine ABh (Wj (ABp (ABr (ABz ?_))));obtain rfl:=ABi (AC0 Ap Af);exact ⟨_,ABs,Ae.x,rfl⟩
 ·refine ABq (q_t (ABh (ABp (ABl (ABh (Wj (ADf AB1 rfl H2 (Wj (ABn (ABo ?_))))))))));obtain ⟨Ag,Ax,Aq⟩:=ABk (AC1 Ap Af);obtain ⟨Ay,Az,A3⟩:=ACe Ax;refine ACg 8355920 (fun x:(Int) × (Int)=>[(6,(.int .i64 x.1)),(15,(.int .i64 x.2))]) (fun k x h'=>iter Ay k (x.1,x.2)=some Ag/\Kst h h' (Ae.L)) (by kernel_rfl) fuel ((1,0):(Int) × (Int)) ?_ ⟨rfl,rfl,trivial⟩ ?_
  ·exact ⟨A3,Ae⟩
  rintro Bb ⟨A4,A5⟩ Bc Be ⟨A6,Ah⟩;obtain ⟨A7,Bf,rfl,Aa,Ab⟩:=AB2 A6;rw [Az] at Aa;dsimp only at Aa;unfold AN9 at Aa;refine ABh (ACx rfl rfl (ABn (ABl (⟨_,rfl,fun Ai=>?_,fun Ai=>?_⟩))))
  ·refine ABq (q_t (ABl (ABo (ABh (Wj (Wj (AJn rfl rfl (ACq (Wj (AKj rfl rfl (ABn ?_)))))))))));have Ar:=AC0 Aa Ai;refine ⟨_,rfl,fun Aj=>?_,fun Aj=>?_⟩
   ·refine ABh (ABp ?_);obtain rfl:=ABi (AC0 Ar Aj);change _=Ag at Ab;subst Ab;refine ABr (ADk (ABz (ABz (ADk (ABz ?_)))));obtain rfl:=ABi Aq;exact ⟨_,ABs,Ah.x,rfl⟩
   ·refine ABq (q_b (q_t (ABw (ACw rfl rfl (Wj (ABn ?_))))));obtain rfl:=ABi (AC1 Ar Aj);exact ⟨A7,(((w64 (A4 * a5)),(w64 (A5 + 1))):(Int) × (Int)),Nat.lt_succ_self _,⟨Ab,Ah⟩,rfl,rfl,trivial⟩
  ·obtain rfl:=ABi (AC1 Aa Ai);change _=Ag at Ab;subst Ab;refine AB9 (AB7 (AB7 (ADh (q_t (ABh (ABp (ABr ?_)))))));obtain rfl:=ABi Aq;exact ⟨_,ABs,Ah.x,rfl⟩
def AQj (fuel:Nat) (a5:Int) (a8:LiA) (Ab Aa:Int):Option ((Int × Int) ⊕ ((Bool) ⊕ (Int))):=
  (if Aa < (a8.length:Int) then ((gI a8 Aa).bind fun Ac=>(((if Ac < 0 then (some (Sum.inl <| false)) else (if a5<=Ac then (some (Sum.inl <| false)) else (some (Sum.inr <| ())))):Option ((Bool) ⊕ (Unit))).bind (fun ex=>match ex with | Sum.inl Af=>(some (Sum.inr<| Sum.inl <| Af)) | Sum.inr (_)=>(if Ab=0 then (some (Sum.inl (Ac,(w64 (Aa + 1))))) else (some (Sum.inl (Ab,(w64 (Aa + 1))))))))) else (some (Sum.inr<| Sum.inr <| Ab)))
def AKf (fuel:Nat) (a3:LiI) (a5:Int) (a8:LiA):Option Bool:=
  (if ¬ (a8.length:Int)=(a3.length:Int) then (some false) else ((iter (fun s=>AQj fuel a5 a8 s.1 s.2) fuel (0,0)).bind (fun ex=>match ex with | Sum.inl Ad=>(some Ad) | Sum.inr (Ae)=>((AE6 fuel a3 a5).bind fun (Af,Ah)=>(if Ae=1 then ((AI1 fuel Af a8 a5).bind fun Ag=>(some (decide (Ag=0)))) else (some false))))))
theorem AVu {fuel:Nat} {h:ABg} {Au:Value} {a3:LiI} {a5:Int} {Ax:Value} {a8:LiA} {r:Bool} (H2:AF2 (cI .i64) h Au a3) (H7:SlC (cI .i64) h Ax a8) (hp:AKf fuel a3 a5 a8=some r):AB8 Tryz.prog 35 #[Au,(.int .i64 a5),Ax] h (fun x h'=>Ext h h'/\x= .bool r):=by
 unfold AKf at hp;refine cwf (l:=[_,_,_]) Tryz.func35 rfl rfl (ABh (ABp (ABl (ABh (Wj (ADs ABt rfl H7 (Wj (ADf AB1 rfl H2 (AGe rfl rfl (ABn ?_))))))))));have K0:=Kst.k0 h;refine ⟨_,rfl,fun Ak=>?_,fun Ak=>?_⟩
 ·refine ABh (ABp (ABr (ABz ?_)));obtain rfl:=ABi (AC0 hp Ak);exact ⟨_,ABs,K0.x,rfl⟩
 ·refine ABq (q_t (ABh (ABp (ABl (ABh (Wj (ADs ABt rfl H7 (Wj (ABn (ABo ?_))))))))));obtain ⟨Ae,Ba,Am⟩:=ABk (AC1 hp Ak);obtain ⟨Bb,Bc,Be⟩:=ACe Ba;refine ACg 17179345600 (fun x:(Int) × (Int)=>[(7,(.int .i64 x.1)),(19,(.int .i64 x.2))]) (fun k x h'=>iter Bb k (x.1,x.2)=some Ae/\Kst h h' (K0.L)) (by kernel_rfl) fuel ((0,0):(Int) × (Int)) ?_ ⟨rfl,rfl,trivial⟩ ?_
  ·exact ⟨Be,K0⟩
  rintro Bx ⟨A3,A4⟩ By Bz ⟨Bf,Ab⟩;obtain ⟨A5,B1,rfl,Ac,Aa⟩:=AB2 Bf;rw [Bc] at Ac;dsimp only at Ac;unfold AQj at Ac;refine ABh (ACx rfl rfl (ABn (ABl (⟨_,rfl,fun Ao=>?_,fun Ao=>?_⟩))))
  ·refine ABq (q_t (ABl (ABo (ABh ?_))));obtain ⟨A6,Bg,Bh⟩:=ABk (AC0 Ac Ao);refine AIc (c:=(cI .i64)) ABt rfl H7 rfl Bg fun B2 B3 B4 Bi Bj=>?_;obtain rfl:=Bi;refine AB3 ACm rfl (ABv (Bj 0 _ rfl) Ab.x) (ABp ?_);obtain ⟨Bl,A7,Af⟩:=ABk Bh;refine AMd 1065353280 (fun x:Unit=>[]) (fun x h'=>(Sum.inr <| ())=Bl/\Kst h h' (Ab.L)) ?_ ?_
   ·refine ABh (Wj (ACx rfl rfl (Wj ?_)));by_cases Ag:A6 < 0
    ·rw [decide_eq_true Ag];refine ALo 25 true (AB0 rfl (ABn (AB6 rfl (ABh (ABp ?_)))));obtain rfl:=ABi (ifT A7 Ag);obtain rfl:=ABi Af;change _=Ae at Aa;subst Aa;refine ABr (ABz (ADk (ABz (ABz (ADk (ABz ?_))))));obtain rfl:=ABi Am;exact ⟨_,ABs,Ab.x,rfl⟩
    ·have A8:=ifF A7 Ag;rw [decide_eq_false Ag];refine ACl 25 false (Wj (ACl 25 false (Wj (ACl 25 false (AL0 rfl rfl (ABx rfl (ABn (⟨_,rfl,fun Ap=>?_,fun Ap=>?_⟩))))))))
     ·refine ABh (ABp ?_);obtain rfl:=ABi (AC0 A8 Ap);obtain rfl:=ABi Af;change _=Ae at Aa;subst Aa;refine ABr (ABz (ADk (ABz (ABz (ADk (ABz ?_))))));obtain rfl:=ABi Am;exact ⟨_,ABs,Ab.x,rfl⟩
     ·refine ABq (q_t ?_);exact ⟨(():Unit),⟨ABi (AC1 A8 Ap),Ab⟩,trivial⟩
   rintro ⟨⟩ B5 B6 ⟨Bm,A9⟩;subst Bm;refine ABh (Wj (ADo rfl rfl (ABn (⟨_,rfl,fun Aq=>?_,fun Aq=>?_⟩))))
   ·refine ABw (Wj (ACd (ACh (q_b (q_t (ABw (ACw rfl rfl (Wj (ABn ?_)))))))));obtain rfl:=ABi (AC0 Af Aq);exact ⟨A5,((A6,(w64 (A4 + 1))):(Int) × (Int)),Nat.lt_succ_self _,⟨Aa,A9⟩,rfl,rfl,trivial⟩
   ·refine ABq (q_b (q_t (ABw (ACw rfl rfl (Wj (ABn ?_))))));obtain rfl:=ABi (AC1 Af Aq);exact ⟨A5,((A3,(w64 (A4 + 1))):(Int) × (Int)),Nat.lt_succ_self _,⟨Aa,A9⟩,rfl,rfl,trivial⟩
  ·obtain rfl:=ABi (AC1 Ac Ao);change _=Ae at Aa;subst Aa;refine AB9 (AB7 (AB7 (ADh (q_t (ABh (Wj (Wj ?_)))))));obtain ⟨⟨B7,B8⟩,Bn,Ar⟩:=ABk Am;dsimp only at Ar;refine AC2 rfl (AKo (H2.ext Ab.x) Bn) fun B9 Ca Bo Bp=>?_;obtain ⟨Cb,Cd,Ce,Cf,rfl,Bq,Br⟩:=Bp;refine Wj (ADa rfl rfl (ADa rfl rfl (ACd (ACq (Wj (ADo rfl rfl (Wj ?_)))))));have Ah:=Ab.no2 Bo Br Bq;by_cases Ai:A3=1
   ·rw [decide_eq_true Ai];refine ACl 42 true (Wj (ACl 42 true (Wj (ACl 42 true (Wj (ACl 42 true ?_))))));obtain ⟨Cg,Bt,Bu⟩:=ABk (ifT Ar Ai);refine AC2 rfl (AO1 (Ah.o2 p0).rd (H7.ext Ah.x) Bt) fun Ch Ci Bv Bw=>?_;subst Bw;refine ACl 42 true (ADo rfl rfl (AB0 rfl (ABp (ABr ?_))));obtain rfl:=ABi Bu;exact ⟨_,ABs,(Ah.e Bv).x,rfl⟩
   ·rw [decide_eq_false Ai];refine AJa 42 false (ABx rfl (ABp (ABr ?_)));obtain rfl:=ABi (ifF Ar Ai);exact ⟨_,ABs,Ah.x,rfl⟩
noncomputable def AK3 (fuel:Nat) (a3:LiI) (a5:Int):Option (Int × Int):=
  ((AIa fuel a3 a5).bind fun x6=>(if ¬ x6=0 then (some (0,x6)) else (if (Int.tmod (a3.length:Int) 2)=1 then ((AMq fuel a5 (w64 (2 * (w64 (Int.tdiv (a3.length:Int) 2))))).bind fun Af=>(if (w64 (a5 - 1))≠0 then (some ((w64 (Int.tdiv (w64 (Af - 1)) (w64 (a5 - 1)))),0)) else none)) else ((AI5 fuel a3 a5).bind fun (Ad,Aj)=>(((if (Int.tmod (w64 (Int.tdiv (a3.length:Int) 2)) 2)=1 then (some ( (w64 (0 - Ad)))) else (some ( Ad))):Option ((Int))).bind (fun (Ag:Int)=>((AMp fuel Ag a5).bind fun (Ae,Ak)=>((AMq fuel a5 (w64 (Int.tdiv (a3.length:Int) 2))).bind fun Ah=>((AMq fuel a5 (w64 ((w64 (Int.tdiv (a3.length:Int) 2)) - 1))).bind fun Ai=>(if (w64 (a5 - 1))≠0 then (some ((w64 (Int.tdiv (w64 ((w64 (Ah - Ae)) * (w64 (Ai + Ae)))) (w64 (a5 - 1)))),0)) else none))))))))))
theorem AUz {fuel:Nat} {h:ABg} {Ah:Value} {a3:LiI} {a5:Int} {r:(Int × Int)} (H2:AF2 (cI .i64) h Ah a3) (HO:AT7 h) (hp:AK3 fuel a3 a5=some r):AB8 Tryz.prog 23 #[Ah,(.int .i64 a5)] h (fun x h'=>Ext h h'/\x= .tuple #[.int .i64 r.1,.int .i64 r.2]):=by
 unfold AK3 at hp;refine cwf (l:=[_,_]) Tryz.func23 rfl rfl (ABh (ACd (ABp (ABl (ABh (Wj (Wj ?_)))))));have K0:=Kst.k0 h;obtain ⟨x6,Au,Ak⟩:=ABk hp;refine AC2 rfl (AOa (H2.ext K0.x) (HO.ext K0.x) Au) fun Bu Bv E9 Aw=>?_;subst Aw;refine ACq (Wj (AGe rfl rfl (ABn ?_)));have Aa:=K0.e E9;refine ⟨_,rfl,fun Ad=>?_,fun Ad=>?_⟩
 ·refine ABh (Wj (ACd (ABp (ABr (ABz ?_)))));obtain rfl:=ABi (AC0 Ak Ad);exact ⟨_,AC6,Aa.x,rfl⟩
 ·refine ABq (q_t (ABh (Wj (ADf AB1 rfl H2 (ACq (Wj (ATb rfl rfl (by decide) (ABp (ABl (ABh (Wj (AFq rfl rfl (by decide) (ADo rfl rfl (ABn ?_))))))))))))));have Am:=AC1 Ak Ad;refine ⟨_,rfl,fun Ae=>?_,fun Ae=>?_⟩
  ·refine ABh (Wj (Wj (AJn rfl rfl ?_)));obtain ⟨Bw,Ax,Ay⟩:=ABk (AC0 Am Ae);refine AC2 rfl (AN0 Ax) fun Bx By Az A3=>?_;subst A3;refine AGb rfl rfl (Wj (AGb rfl rfl ?_));obtain ⟨A4,A5⟩:=ifN Ay;refine ATb rfl rfl A4 (ACd (ABp (ABr (ABz ?_))));obtain rfl:=ABi A5;exact ⟨_,AC6,(Aa.e Az).x,rfl⟩
  ·refine ABq (q_t (ABh (Wj (Wj ?_))));obtain ⟨⟨Ao,Bz⟩,A6,Ap⟩:=ABk (AC1 Am Ae);dsimp only at Ap;refine AC2 rfl (AQi (H2.ext Aa.x) A6) fun B1 B2 A7 A8=>?_;subst A8;refine Wj (ADa rfl rfl (ADa rfl rfl (ACd (ABp ?_))));have Af:=Aa.e A7;obtain ⟨A9,Aq,Ba⟩:=ABk Ap;refine AMd 68169720922624 (fun x:(Int)=>[(9,(.int .i64 x))]) (fun x h'=>( x)=A9/\Kst h h' (Af.L)) ?_ ?_
   ·refine ABh (Wj (AFq rfl rfl (by decide) (ADo rfl rfl (ABn (⟨_,rfl,fun Ag=>?_,fun Ag=>?_⟩)))))
    ·refine ABw (Wj (AR1 rfl (ABp ?_)));exact ⟨((w64 (0 - Ao)):(Int)),⟨ABi (AC0 Aq Ag),Af⟩,rfl,trivial⟩
    ·refine ABq (q_t ?_);exact ⟨(Ao:(Int)),⟨ABi (AC1 Aq Ag),Af⟩,rfl,trivial⟩
   rintro B3 B4 B5 ⟨Bb,Bc⟩;subst Bb;refine ABh (Wj (Wj ?_));obtain ⟨⟨B6,B7⟩,Be,Ar⟩:=ABk Ba;dsimp only at Ar;refine AC2 rfl (ASh Be) fun B8 B9 Bf Bg=>?_;subst Bg;refine Wj (ADa rfl rfl (ADa rfl rfl (ACd (ACq (Wj (ACq (Wj (Wj ?_))))))));obtain ⟨Ca,Bh,Bi⟩:=ABk Ar;refine AC2 rfl (AN0 Bh) fun Cb Cd Bj Bl=>?_;subst Bl;refine Wj (AGb rfl rfl (Wj (Wj (AGb rfl rfl ?_))));obtain ⟨Ce,Bm,Bn⟩:=ABk Bi;refine AC2 rfl (AN0 Bm) fun Cf Cg Bo Bp=>?_;subst Bp;refine Wj (ACw rfl rfl (AJn rfl rfl (Wj (AGb rfl rfl ?_))));obtain ⟨Bq,Br⟩:=ifN Bn;refine ATb rfl rfl Bq (ACd (ABp (ABr ?_)));obtain rfl:=ABi Br;exact ⟨_,AC6,(((Bc.e Bf).e Bj).e Bo).x,rfl⟩
noncomputable def AK4 (fuel:Nat) (a5:Int) (a8:LiA) (Ad:LiI) (Ab:Int) (Ac:LiA):Option ((Int × LiA) ⊕ ((LiA))):=
  (if Ab < (Ad.length:Int) then ((gI Ad Ab).bind fun Ag=>((AH7 fuel Ag a8 a5).bind fun Af=>(if Af=0 then (some (Sum.inl ((w64 (Ab + 1)),Ac))) else ((AUy fuel ([([(w64 (2 * Af))]:List Int)]:List LiA) a5).bind fun (Ah,Ao)=>((AI1 fuel Ad a8 (w64 (a5 * a5))).bind fun Ai=>(if a5≠0 then ((gI Ah 0).bind fun Aj=>((gI Aj 0).bind fun Ak=>(if a5≠0 then ((gI Ac Ab).bind fun Am=>(some (Sum.inr<| (sI Ac Ab (w64 (Am + (w64 (a5 * (Int.tmod (w64 ((w64 (a5 - (w64 (Int.tdiv Ai a5)))) * Ak)) a5))))))))) else none))) else none)))))) else (some (Sum.inr<| Ac)))
noncomputable def AJo (fuel:Nat) (a3:LiI) (a5:Int) (a8:LiA):Option (LiA × Int):=
  ((ALa fuel a3 a5).bind fun Ad=>(if ¬ Ad=0 then (some ([],Ad)) else ((AKf fuel a3 a5 a8).bind fun Ae=>(if (!Ae)=true then (some ([],26)) else ((AE6 fuel a3 (w64 (a5 * a5))).bind fun (Af,Ai)=>((AJl fuel a8).bind fun Ag=>((iter (fun s=>AK4 fuel a5 a8 Af s.1 s.2) fuel (0,Ag)).bind (fun (Ah:LiA)=>(some (Ah,0))))))))))
theorem ASi {fuel:Nat} {h:ABg} {A5:Value} {a3:LiI} {a5:Int} {A7:Value} {a8:LiA} {r:(LiA × Int)} (H2:AF2 (cI .i64) h A5 a3) (H7:SlC (cI .i64) h A7 a8) (HO:AT7 h) (hp:AJo fuel a3 a5 a8=some r):AB8 Tryz.prog 15 #[A5,(.int .i64 a5),A7] h (fun x h'=>Ext h h'/\ ∃ (x0:Value) (F0:List Nat),x= .tuple #[x0,.int .i64 r.2]/\OwC (cI .i64) 2 h' F0 x0 r.1/\Sp h' h.size [F0]):=by
 unfold AJo at hp;refine cwf (l:=[_,_,_]) Tryz.func15 rfl rfl (ABh (ACd (ABp (ABl (ABh (Wj (Wj ?_)))))));have K0:=Kst.k0 h;obtain ⟨Dx,Bq,Bb⟩:=ABk hp;refine AC2 rfl (ARo (H2.ext K0.x) (HO.ext K0.x) Bq) fun Dy Dz Br Bt=>?_;subst Bt;refine ACq (Wj (AGe rfl rfl (ABn ?_)));have Ag:=K0.e Br;refine ⟨_,rfl,fun Ak=>?_,fun Ak=>?_⟩
 ·refine ABh (Wj (ACd (ABp (ABr (ABz ?_)))));have Am:=Kst.anil (cI .i64) 2 Ag;obtain rfl:=ABi (AC0 Bb Ak);exact ⟨_,AC6,Am.x,_,_,rfl,(Am.o p0),Am.s.sel [0] (by decide)⟩
 ·refine ABq (q_t (ABl (ABh (Wj (Wj (Wj ?_))))));obtain ⟨D0,Bu,Bc⟩:=ABk (AC1 Bb Ak);refine AC2 rfl (AVu (H2.ext Ag.x) (H7.ext Ag.x) Bu) fun D1 D2 Bv Bw=>?_;subst Bw;refine AGt rfl (ABn ?_);have Ao:=Ag.e Bv;refine ⟨_,rfl,fun Ap=>?_,fun Ap=>?_⟩
  ·refine ABh (ACd (ABp (ABr (ABz ?_))));have Aq:=Kst.anil (cI .i64) 2 Ao;obtain rfl:=ABi (ifT Bc Ap);exact ⟨_,AC6,Aq.x,_,_,rfl,(Aq.o p0),Aq.s.sel [0] (by decide)⟩
  ·refine ABq (q_t (ABh (Wj (Wj (Wj (AJn rfl rfl ?_))))));obtain ⟨⟨D3,D4⟩,Bx,Be⟩:=ABk (ALj Bc Ap);dsimp only at Be;refine AC2 rfl (AKo (H2.ext Ao.x) Bx) fun D5 D6 By Bz=>?_;obtain ⟨D7,D8,D9,Ea,rfl,B1,B2⟩:=Bz;refine Wj (ADa rfl rfl (ADa rfl rfl (ACd (ACq (Wj ?_)))));have Bf:=Ao.no2 By B2 B1;obtain ⟨B3,B4,B5⟩:=ABk Be;refine AC2 rfl (APi (H7.ext Bf.x) B4) fun B6 Eb B7 B8=>?_;obtain ⟨Ec,B9,rfl,Ca,Cb⟩:=B8;refine ABp (ABl (ABh (Wj ?_)));have Ar:=Bf.no B7 Cb Ca;refine ADf AB1 rfl (Ar.o2 p1).rd (Wj (ABn (ABo ?_)));obtain ⟨Au,Cd,Bg⟩:=ABk B5;obtain ⟨Ce,Cf,Cg⟩:=ACe Cd;refine ACg 618970019642687938426564608 (fun x:(Int) × (LiA) × LnA=>[(41,(.int .i64 x.1))]) (fun k x h'=>iter Ce k (x.1,x.2.1)=some Au/\Kst h h' (Ar.L.set 0 (aO (cI .i64) 2 x.2.2 B6 x.2.1))) (by kernel_rfl) fuel ((0,B3,B9):(Int) × (LiA) × LnA) ?_ ⟨rfl,trivial⟩ ?_
   ·exact ⟨Cg,Ar⟩
   rintro Ed ⟨Ch,Ci,Cj⟩ Ee Ef ⟨Ck,Aa⟩;obtain ⟨Cm,Eg,rfl,Ac,Ad⟩:=AB2 Ck;rw [Cf] at Ac;dsimp only at Ac;unfold AK4 at Ac;refine ABh (ACx rfl rfl (ABn (ABl (⟨_,rfl,fun Av=>?_,fun Av=>?_⟩))))
   ·refine ABq (q_t (ABl (ABo (ABh (Wj ?_)))));obtain ⟨Eh,Bh,Cn⟩:=ABk (AC0 Ac Av);refine ADl AB1 rfl (Aa.o2 p1) rfl Bh fun Ei Ej Ek Co Cp=>AB3 ACn rfl Cp (ACd (ACq (Wj (Wj (Wj ?_)))));obtain ⟨Bi,Cq,Bj⟩:=ABk Cn;refine AC2 rfl (ARn ((Aa.o2 p1).rowI Co Bh) (H7.ext Aa.x) Cq) fun El Em Cr Ct=>?_;subst Ct;refine ABp (ABl (ABh (Wj (ADo rfl rfl (ABn ?_)))));have Bl:=Aa.e Cr;refine ⟨_,rfl,fun Aw=>?_,fun Aw=>?_⟩
    ·refine AB9 (AB7 (ADh (q_t (ABw (ACw rfl rfl (Wj (ABn ?_)))))));obtain rfl:=ABi (AC0 Bj Aw);exact ⟨Cm,(((w64 (Ch + 1)),Ci,Cj):(Int) × (LiA) × LnA),Nat.lt_succ_self _,⟨Ad,Bl⟩,rfl,trivial⟩
    ·refine ABq (q_t (ABh (Wj (AJn rfl rfl (AQ2 (κ:= .i64) [(w64 (2 * Bi))] ABt AHa rfl rfl trivial tt2 rfl rfl rfl rfl fun Cu Cv En Cw Cx Cy Cz=>?_)))));have Ax:=Bl.no Cx (AGm Cy Cz) Cw;refine AS5 (c:=(cI .i64)) (el:=2) [[Cu]] [Cv] [([(w64 (2 * Bi))]:List Int)] AB1 ALx rfl rfl trivial tt2 rfl rfl rfl rfl (ANm (Ax.o p0).isOne AWu) ⟨(Ax.o p0),trivial⟩ (by simp) fun Eo Ep Er C0 C1 C2=>Wj ?_;have Bm:=(((Ax.a0).grab p0)).lit C1 C0 (by simpa using C2);obtain ⟨⟨Es,Et⟩,C3,Bn⟩:=ABk (AC1 Bj Aw);dsimp only at Bn;refine AC2 rfl (Amx (Bm.o2 p0).rd C3) fun Eu Ay C4 C5=>?_;obtain ⟨Ev,rfl,C6⟩:=C5;refine Wj (ADa rfl rfl (ADa rfl rfl (ACd (ABp (ABl (AEb (fun h'=>UpT [] Ay h') (by kernel_rfl) ?_))))));have Az:=Bm.e C4;have A3:UpT [] Ay Ay:=UpT.start all_nil;refine Wj (Wj (Wj (Wj (Wj (AJn rfl rfl ?_)))));obtain ⟨C7,C8,C9⟩:=ABk Bn;refine AC5 A3 (fun _ E=>A3.thenE E) rfl (AO1 (Az.o2 p3).rd (H7.ext Az.x) C8) fun Ew Ey Bo Da=>?_;subst Da;refine Wj ?_;have Bp:=A3.thenE Bo;have Ae:=Az.e Bo;obtain ⟨Db,Dc⟩:=ifN C9;refine ATb rfl rfl Db (AGb rfl rfl (Wj ?_));obtain ⟨Ez,Dd,De⟩:=ABk Dc;refine AIn AB1 rfl C6 rfl Dd fun Fa Fb Fc Df Dg=>AFr ACn rfl Bp (fun h' hb=>ABv Df hb.ext) ?_;obtain ⟨Dh,Di,Dj⟩:=ABk De;refine AIc (c:=(cI .i64)) ABt rfl Dg rfl Di fun Fd Fe Ff Dk Dl=>?_;obtain rfl:=Dk;refine AFr ACm rfl Bp (fun h' hb=>ABv (Dl 0 _ rfl) hb.ext) (AJn rfl rfl (Wj ?_));obtain ⟨Dn,Do⟩:=ifN Dj;refine AFq rfl rfl Dn (ACq (Wj (Wj ?_)));obtain ⟨Dp,Ah,Dq⟩:=ABk Do;refine AKp ABt rfl (Ae.o p2) rfl Ah fun Fg Dr=>?_;obtain ⟨Fh,Ds,Dt⟩:=(Ae.o p2).cells Dr Ah;obtain rfl:=Ds;refine AB3 ACm rfl (Dt 0 _ rfl) (Wj (Wj (AJn rfl rfl (ACw rfl rfl (AKp ABt rfl (Ae.o p2) rfl Ah fun Fi Du=>AY8 (AFy ACm rfl rfl rfl) (Ae.o p2) Du Ah (show ((cI .i64)).rep _ (w64 (Dp + (w64 (a5 * (Int.tmod (w64 ((w64 (a5 - (w64 (Int.tdiv C7 a5)))) * Dh)) a5))))) _ from rfl) fun Fj Dv Dw=>ABn ?_)))));have A4:=Ae.uO p2 Dw Dv;obtain rfl:=ABi Dq;change _=Au at Ad;subst Ad;refine AB9 (Abq (by decide) (AB7 (AB7 (ADh (q_t (ABh (Wj (ACd (ABp (ABr ?_))))))))));obtain rfl:=ABi Bg;exact ⟨_,AC6,A4.x,_,_,rfl,(A4.o p2),A4.s.sel [2] (by decide)⟩
   ·obtain rfl:=ABi (AC1 Ac Av);change _=Au at Ad;subst Ad;refine AB9 (AB7 (AB7 (ADh (q_t (ABh (Wj (ACd (ABp (ABr ?_)))))))));obtain rfl:=ABi Bg;exact ⟨_,AC6,Aa.x,_,_,rfl,(Aa.o p0),Aa.s.sel [0] (by decide)⟩
noncomputable def ARp (fuel:Nat) (Ac Ad Aa:Int) (Ab:LiA):Option ((Int × LiA) ⊕ ((Int × LiA))):=
  (((if Ad < Aa then ((gI Ab Aa).bind fun Ae=>(if Ae=(w64 (Ac - 1)) then (some (Sum.inl <| ())) else (some (Sum.inr <| ())))) else (some (Sum.inr <| ()))):Option ((Unit) ⊕ (Unit))).bind (fun ex=>match ex with | Sum.inl _=>((gI Ab Aa).bind fun Af=>(some (Sum.inl ((w64 (Aa - 1)),(sI Ab Aa 0))))) | Sum.inr (_)=>(some (Sum.inr<| (Aa,Ab)))))
noncomputable def ARq (fuel:Nat) (a5:Int) (Ah:LiI) (Ai Aj Ad:Int) (Aa:LiI) (Ab:LiA):Option ((LiI × LiA) ⊕ ((LiI))):=
  ((((AI1 fuel Ah Ab a5).bind fun Ak=>(if Ak=0 then ((AJl fuel Ab).bind fun Am=>(if Aa.length<=100000000 then (some ( (Aa ++ [Am]))) else none)) else (some ( Aa)))):Option (LiI)).bind fun Ae=>((((iter (fun s=>ARp fuel Aj Ad s.1 s.2) fuel ((w64 (Ai - 1)),Ab)).bind (fun ((Ao,Ap):Int × LiA)=>(some ( (Ao,Ap))))):Option ((Int × LiA))).bind (fun ((Ac,Af):Int × LiA)=>(if Ac=Ad then (some (Sum.inr<| Ae)) else ((gI Af Ac).bind fun Aq=>(some (Sum.inl (Ae,(sI Af Ac (w64 (Aq + 1)))))))))))
noncomputable def ARr (fuel:Nat) (a5:Int) (Ae:LiI) (Aa Af Ab:Int) (Ac:LiI):Option ((Int × LiI) ⊕ ((LiI))):=
  (if 0<=Ab then (if 0<=Aa/\Aa<=100000000 then ((gI (List.replicate (Int.toNat Aa) (0:Int)) Ab).bind fun Ah=>((iter (fun s=>ARq fuel a5 Ae Aa Af Ab s.1 s.2) fuel (Ac,(sI (List.replicate (Int.toNat Aa) (0:Int)) Ab 1))).bind (fun (Ag:LiI)=>(some (Sum.inl ((w64 (Ab - 1)),Ag)))))) else none) else (some (Sum.inr<| Ac)))
noncomputable def AMr (fuel:Nat) (a3:LiI) (a5:Int):Option (LiI × Int):=
  ((AIa fuel a3 a5).bind fun Ac=>(if ¬ Ac=0 then (some ([],Ac)) else ((AE6 fuel a3 a5).bind fun (Ae,Ai)=>(((some ( ((a3.length:Int),a5))):Option (Int × Int)).bind fun (Ad,Af)=>((((iter (fun s=>ARr fuel a5 Ae Ad Af s.1 s.2) fuel ((w64 (Ad - 1)),[])).bind (fun (Ag:LiI)=>(some ( Ag)))):Option (LiI)).bind fun Ah=>(some (Ah,0)))))))
theorem AWc {fuel:Nat} {h:ABg} {Bx:Value} {a3:LiI} {a5:Int} {r:(LiI × Int)} (H2:AF2 (cI .i64) h Bx a3) (HO:AT7 h) (hp:AMr fuel a3 a5=some r):AB8 Tryz.prog 20 #[Bx,(.int .i64 a5)] h (fun x h'=>Ext h h'/\ ∃ (x0:Value) (F0:List Nat) (C1:List LnA) (C2:List Value),x= .tuple #[x0,.int .i64 r.2]/\AE8 (cI .i64) 23 2 h' F0 C1 C2 x0 r.1/\Sp h' h.size [F0]):=by
 unfold AMr at hp;refine Ad1 (l:=[_,_]) mx Tryz.func20 rfl rfl rfl rfl rfl (by kernel_rfl) (AYe (by kernel_rfl) (ABw (AHz [(.int .i64 a5)] trivial tt2 rfl rfl fun b6 h7 V8 E9 C5=>ACd (ABp (AYe (by kernel_rfl) (ABh (Wj ?_)))))));have Aj:=(Kst.k0 h).nb E9 C5 V8;refine AB3 ACm rfl ((Aj.b p0).cell (i:=0) rfl) ?_;obtain ⟨Hc,C6,B1⟩:=ABk hp;refine AC2 rfl (AOa (H2.ext Aj.x) (HO.ext Aj.x) C6) fun Hd He C7 C8=>?_;subst C8;refine ACq (Wj (AGe rfl rfl (ABn ?_)));have Ak:=Aj.e C7;refine ⟨_,rfl,fun A3=>?_,fun A3=>?_⟩
 ·refine ABh (Wj (ACd (ABp (ABr (ABz ?_)))));have A4:=Kst.anil2 (cI .i64) 23 2 Ak;obtain rfl:=ABi (AC0 B1 A3);exact ⟨_,AC6,A4.x,_,_,_,_,rfl,(A4.o2 p0),A4.s.sel [0] (by decide)⟩
 ·refine ABq (q_t (AYe (by kernel_rfl) (ABw (Wj (AB3 ACm rfl ((Ak.b p0).cell (i:=0) rfl) ?_)))));obtain ⟨⟨Hf,Hg⟩,C9,B2⟩:=ABk (AC1 B1 A3);dsimp only at B2;refine AC2 rfl (AKo (H2.ext Ak.x) C9) fun Hh Hj Da Db=>?_;obtain ⟨Dc,Hk,Hl,Hm,rfl,Dd,De⟩:=Db;refine Wj (ADa rfl rfl (ADa rfl rfl (ADx [(.slice none 0 0)] Aqg rfl trivial tt2 fun Hn Ho Df Dg Dh=>?_)));have A5:=(Ak.no2 Da De Dd).nb Dg Dh Df;refine AUc [Dc] Ach rfl rfl (A5.o2 p1).isOne (A5.b p0) (Nat.le_of_ble_eq_true rfl) rfl fun Hq Di Dj=>ABp (AYe (by kernel_rfl) (ABw (ADx [(.slice none 0 0)] Aqg rfl trivial tt2 fun Am Hr Dk Dl Dn=>ABn (Ar0 (by kernel_rfl) (AYe (by kernel_rfl) (ABw (Wj (ADf AB1 rfl H2 ?_))))))));have A6:=(A5.sb p0 Dj Di rfl).nb Dl Dn Dk;refine AB3 ACm rfl ((A6.b p3).cell (i:=0) rfl) ?_;obtain ⟨Do,Dp,Dq⟩:=ABk B2;refine ACo (K':=(fun xr h'=> ∃ x:(Nat) × (Int) × (Nat) × (Int),(x.2.1,x.2.2.2)=Do/\xr=(.func (.func 78) #[] #[(.pointer (some ⟨x.1,0,none⟩)),(.pointer (some ⟨x.2.2.1,0,none⟩))])/\Kst h h' (aB 3 x.1 [(.int .i64 x.2.1)] :: aB 2 x.2.2.1 [(.int .i64 x.2.2.2)] :: A6.L))) trivial rfl ?_ fun Hs Ht Dr=>?_
  ·refine cwf (l:=[_,_]) Tryz.func46 rfl rfl (ABh (AHz [(.int .i64 (a3.length:Int))] trivial tt2 rfl rfl fun Ds Hu Dt Du Dv=>AHz [(.int .i64 a5)] trivial tt2 rfl rfl fun Dw Hv Dx Dy Dz=>ACq (Aqn rfl (ABp (ABr (⟨_,ABs,((Ds,(a3.length:Int),Dw,a5):(Nat) × (Int) × (Nat) × (Int)),?_,rfl,?_⟩))))))
   ·exact ABi Dp
   ·exact ((A6.nb Du Dv Dt).nb Dy Dz Dx).sel [1,0,2,3,4,5] (by decide)
  obtain ⟨⟨D0,A7,D1,Hw⟩,D2,rfl,D3⟩:=Dr;refine ⟨trivial,?_⟩;subst D2;refine ABn (Apc mx (by kernel_rfl) ⟨_,[(.pointer (some ⟨D0,0,none⟩)),(.pointer (some ⟨D1,0,none⟩))],rfl,fun h_rf rf_r rf_b rf_ol rf_ob rf_oe hE_rf l1_rf l2_rf l3_rf l4_rf hne_rf hd_rf hl_rf Ao A8 D4 hY_rf=>?_⟩);have A9:=D3.rg hE_rf l1_rf l2_rf l3_rf l4_rf hne_rf hd_rf hl_rf;obtain ⟨D5,D6,D7⟩:=ABk Dq;refine AB8.mono (K:=(fun xr h'=> ∃ x:(LiI) × (Value) × LnA × LnN × LvA,x.1=D5/\xr= .tuple #[]/\Kst h h' (aO2 (cI .i64) 23 2 x.2.2.1 x.2.2.2.1 x.2.2.2.2 x.2.1 x.1 :: (A9.L.set 4 (aB 22 Am [x.2.1]))))) ?_ fun Hx Hy D8=>?_
  ·refine cwf (l:=[_,_,_]) Tryz.func78 rfl rfl (ABh (AB3 AFh rfl ((A9.b p2).cell (i:=0) rfl) (AGb rfl rfl (ABp (ABo ?_)))));obtain ⟨B3,D9,Ea⟩:=ABk D6;obtain ⟨Eb,Ec,Ed⟩:=ACe D9;have B4:=Kst.anil2 (cI .i64) 23 2 A9;refine ACg 1125899906842224 (fun x:(Int) × (LiI) × (Value) × LnA × LnN × LvA=>[(4,(.int .i64 x.1))]) (fun k x h'=>iter Eb k (x.1,x.2.1)=some B3/\Kst h h' ((B4.L.set 0 (aO2 (cI .i64) 23 2 x.2.2.2.1 x.2.2.2.2.1 x.2.2.2.2.2 x.2.2.1 x.2.1)).set 5 (aB 22 Am [x.2.2.1]))) (by kernel_rfl) fuel (((w64 (A7 - 1)),[],(.slice none 0 0),[],[],[]):(Int) × (LiI) × (Value) × LnA × LnN × LvA) ?_ ⟨rfl,trivial⟩ ?_
   ·exact ⟨Ed,B4⟩
   rintro Hz ⟨Ba,B5,B6,B7,B8,B9⟩ H5 H9 ⟨Ee,Bb⟩;obtain ⟨Ef,Ia,rfl,Ae,Bc⟩:=AB2 Ee;rw [Ec] at Ae;dsimp only at Ae;unfold ARr at Ae;refine ABl (ABh (Wj (AL0 rfl rfl (ABn (⟨_,rfl,fun Be=>?_,fun Be=>?_⟩)))))
   ·refine ABq (q_t (ABl (ABo (ABh (AB3 AFh rfl ((Bb.b p3).cell (i:=0) rfl) ?_)))));obtain ⟨Eg,Eh⟩:=ifN (AC0 Ae Be);refine AQz (c:=(cI .i64)) (a:=0) ABt AHa rfl rfl (fun _=>rfl) rfl trivial tt2 rfl rfl (by decide) Eg fun Bf Bg Ib Ei Ej Ek El=>ACq (Wj (Wj ?_));have Bh:=Bb.no Ej (AGm Ek El) Ei;obtain ⟨Ic,Ca,Em⟩:=ABk Eh;refine AKp ABt rfl (Bh.o p0) rfl Ca fun Id En=>AY8 (AFy ACm rfl rfl rfl) (Bh.o p0) En Ca (show ((cI .i64)).rep _ 1 _ from rfl) fun Ie Eo Ep=>ABn (ABo ?_);have Cb:=Bh.uO p0 Ep Eo;obtain ⟨Cd,Er,Es⟩:=ABk Em;obtain ⟨Et,Eu,Ev⟩:=ACe Er;refine ACg 1125899906580544 (fun x:(LiI) × (Value) × LnA × LnN × LvA × (LiA)=>[]) (fun k x h'=>iter Et k (x.1,x.2.2.2.2.2)=some Cd/\Kst h h' (((Cb.L.set 1 (aO2 (cI .i64) 23 2 x.2.2.1 x.2.2.2.1 x.2.2.2.2.1 x.2.1 x.1)).set 0 (aO (cI .i64) 2 [Bf] Bg x.2.2.2.2.2)).set 6 (aB 22 Am [x.2.1]))) (by kernel_rfl) fuel ((B5,B6,B7,B8,B9,(sI (List.replicate (Int.toNat A7) (0:Int)) Ba 1)):(LiI) × (Value) × LnA × LnN × LvA × (LiA)) ?_ trivial ?_
    ·exact ⟨Ev,Cb⟩
    rintro If ⟨Ce,Ew,Bi,Cf,Cg,Ey⟩ Ih Ii ⟨Ez,Ap⟩;obtain ⟨Fa,Ij,rfl,Aq,Bj⟩:=AB2 Ez;rw [Eu] at Aq;dsimp only at Aq;unfold ARq at Aq;refine ABo (ABl (ABl (Amo (l:=rf_b) (by kernel_rfl) (Wj (Wj (ACh ⟨rfl,_,rfl,?_⟩))))));obtain ⟨Fb,Fc,Fd⟩:=ABk Aq;refine ARg.mono (K':=(fun xr h'=> ∃ x:(LiI) × (Value) × LnA × LnN × LvA,x.1=Fb/\xr= .bool true/\Kst h h' ((Ap.L.set 1 (aO2 (cI .i64) 23 2 x.2.2.1 x.2.2.2.1 x.2.2.2.2 x.2.1 x.1)).set 6 (aB 22 Am [x.2.1])))) ?_ fun Ik Il Fe=>?_
    ·refine hY_rf _ _ _ (Ap.ob p3) (Amm (ACd (ACh (⟨(Ap.ob p3),?_⟩))));obtain ⟨Im,Ff,Io,Af⟩:=Ap.uob (o':=rf_ob) p3 Ao A8;rw [Ff];refine Ao9 (Aqf (Amm (AB3 Ach rfl ((Af.b p7).cell (i:=0) rfl) (Wj (AB3 ACm rfl ((Af.b p9).cell (i:=0) rfl) ?_)))));obtain ⟨Ip,Fg,Ch⟩:=ABk Fc;refine AC2 rfl (AO1 (Af.o2 p8).rd (Af.o p0).rd Fg) fun Iq Bl Fh Fi=>?_;subst Fi;refine ADo rfl rfl (ABn ?_);have Aa:=Af.e Fh;refine ⟨_,rfl,fun Bm=>?_,fun Bm=>?_⟩
     ·refine Apa (fun h'=>UpT (Bi ++ []) Bl h') (by kernel_rfl) ?_;have Ar:UpT (Bi ++ []) Bl Bl:=UpT.start (AD3 (Aa.o2 p1).notD all_nil);refine AFr Ach rfl Ar (fun h' hb=>((Aa.b p6).upT hb (Akk (Aa.dj p6 p1 (by decide)) Akl)).cell (i:=0) rfl) (Wj ?_);obtain ⟨Fj,Fk,Fl⟩:=ABk (AC0 Ch Bm);refine AC5 Ar (fun _ E=>Ar.thenE E) rfl (APi (Aa.o p0).rd Fk) fun Fm Ir Ci Fo=>?_;obtain ⟨It,Fp,rfl,Fq,Fr⟩:=Fo;have Cj:=Ar.thenE Ci;have Au:=Aa.no Ci Fr Fq;obtain ⟨Ft,Fu⟩:=ifN Fl;refine Aal AB1 ALx rfl rfl Cj (fun _ U=>Cj.then U (ALc rfl)) (fun _=>rfl) rfl (Au.o p0) (Au.o2 p2) (Au.dj p0 p2 (by decide)) (by decide) Ft fun Iu Fv Ck Iv Fw Fx Fy=>?_;have Bn:=Au.m2 p0 p2 (by decide) Fx Fw Fy;refine AUc [Ck] Ach rfl rfl (Bn.o2 p2).isOne (Bn.b p7) (Nat.le_of_ble_eq_true rfl) rfl fun Iw Fz F4=>ACh (q_b ?_);have Cm:=Bn.sb p7 F4 Fz rfl;refine ⟨(Cm.ob p4),?_⟩;obtain ⟨Ix,F5,Iy,F6⟩:=Cm.uob (o':=rf_ol) p4 A8 Ao;rw [F5];refine ⟨(((Ce ++ [Fj]),Ck,Fv,(Cf ++ [Fp]),(Cg ++ [Fm])):(LiI) × (Value) × LnA × LnN × LvA),?_,rfl,?_⟩
      ·exact ABi Fu
      ·exact F6.sel [1,2,3,4,5,6,7,8,9,10] (by decide)
     ·refine Arz (q_b (⟨(Aa.ob p3),?_⟩));obtain ⟨Iz,F7,I0,F8⟩:=Aa.uob (o':=rf_ol) p3 A8 Ao;rw [F7];refine ⟨((Ce,Ew,Bi,Cf,Cg):(LiI) × (Value) × LnA × LnN × LvA),?_,rfl,?_⟩
      ·exact ABi (AC1 Ch Bm)
      ·exact F8
    obtain ⟨⟨Cn,Co,Cp,Cq,Cr⟩,F9,rfl,Av⟩:=Fe;subst F9;refine AGt rfl (ABn (ACc rfl (ABq (q_t (ABh (AB3 AFh rfl ((Av.b p4).cell (i:=0) rfl) (AGb rfl rfl (ABp ?_))))))));obtain ⟨Ga,Gb,Ct⟩:=ABk Fd;refine AMd 2199006478400 (fun x:(Int) × (LiA)=>[(6,(.int .i64 x.1))]) (fun x h'=>( (x.1,x.2))=Ga/\Kst h h' (Av.L.set 0 (aO (cI .i64) 2 [Bf] Bg x.2))) ?_ ?_
    ·refine ABo ?_;obtain ⟨Bo,Gc,Cu⟩:=ABk Gb;obtain ⟨Gd,Ge,Gf⟩:=ACe Gc;refine ACg 2199006478400 (fun x:(Int) × (LiA)=>[(6,(.int .i64 x.1))]) (fun k x h'=>iter Gd k (x.1,x.2)=some Bo/\Kst h h' (Av.L.set 0 (aO (cI .i64) 2 [Bf] Bg x.2))) (by kernel_rfl) fuel (((w64 (A7 - 1)),Ey):(Int) × (LiA)) ?_ ⟨rfl,trivial⟩ ?_
     ·exact ⟨Gf,Av⟩
     rintro I1 ⟨Ag,Bp⟩ I2 I3 ⟨Gg,Ab⟩;obtain ⟨Gh,I6,rfl,Aw,Ah⟩:=AB2 Gg;rw [Ge] at Aw;dsimp only at Aw;unfold ARp at Aw;obtain ⟨Gi,Cv,Bq⟩:=ABk Aw;refine AMd 68702699520 (fun x:Unit=>[]) (fun x h'=>(Sum.inl <| ())=Gi/\Kst h h' (Ab.L)) ?_ ?_
     ·refine ABl (AMe (Wj (Wj (AKj rfl rfl (Wj ?_)))));by_cases Ax:Ba < Ag
      ·rw [decide_eq_true Ax];refine ACl 27 true (Wj (ACl 27 true (Wj (ACl 27 true ?_))));obtain ⟨I7,Cw,Cx⟩:=ABk (ifT Cv Ax);refine AKp ABt rfl (Ab.o p0) rfl Cw fun I9 Gj=>ACl 27 true ?_;obtain ⟨Ja,Gk,Gl⟩:=(Ab.o p0).cells Gj Cw;obtain rfl:=Gk;refine AB3 ACm rfl (Gl 0 _ rfl) (ACl 27 true (AB3 ACm rfl ((Ab.b p5).cell (i:=0) rfl) (ACl 27 true (AGb rfl rfl (ACl 27 true (ADo rfl rfl (AB0 rfl (ABn (⟨_,rfl,fun Br=>?_,fun Br=>?_⟩)))))))))
       ·refine ABq (q_t ?_);exact ⟨(():Unit),⟨ABi (AC0 Cx Br),Ab⟩,trivial⟩
       ·obtain rfl:=ABi (AC1 Cx Br);obtain rfl:=ABi Bq;change _=Bo at Ah;subst Ah;refine AB9 (AB7 (AB7 (ADh (q_t ?_))));exact ⟨((Ag,Bp):(Int) × (LiA)),⟨ABi Cu,Ab⟩,rfl,trivial⟩
      ·rw [decide_eq_false Ax];refine AJa 27 false (AGg 27 false (ABx rfl (ABn (ACc rfl ?_))));obtain rfl:=ABi (ifF Cv Ax);obtain rfl:=ABi Bq;change _=Bo at Ah;subst Ah;refine AB9 (AB7 (AB7 (ADh (q_t ?_))));exact ⟨((Ag,Bp):(Int) × (LiA)),⟨ABi Cu,Ab⟩,rfl,trivial⟩
     rintro ⟨⟩ Jc Je ⟨Gm,Bt⟩;subst Gm;refine ABo (ABh (Wj (Wj ?_)));obtain ⟨Jf,Cy,Gn⟩:=ABk Bq;refine AKp ABt rfl (Bt.o p0) rfl Cy fun Jg Gp=>AY8 (AFy ACm rfl rfl rfl) (Bt.o p0) Gp Cy (show ((cI .i64)).rep _ 0 _ from rfl) fun Jh Gq Gr=>ABn (ABw (Wj (AGb rfl rfl (ACd (ACh (q_b (q_t ?_)))))));obtain rfl:=ABi Gn;exact ⟨Gh,(((w64 (Ag - 1)),(sI Bp Ag 0)):(Int) × (LiA)),Nat.lt_succ_self _,⟨Ah,(Bt.uO p0 Gr Gq)⟩,rfl,trivial⟩
    rintro ⟨Gt,Gu⟩ Ji Jj ⟨Gv,Ac⟩;subst Gv;refine ABl (ABh (Wj (Wj (ADo rfl rfl (ABn (⟨_,rfl,fun Bu=>?_,fun Bu=>?_⟩))))))
    ·obtain rfl:=ABi (AC0 Ct Bu);change _=Cd at Bj;subst Bj;refine AB9 (AB7 (Abq (by decide) (AB7 (ADh (q_b (q_t (ABw (Wj (AGb rfl rfl (ABp ?_))))))))));obtain rfl:=ABi Es;exact ⟨Ef,(((w64 (Ba - 1)),Cn,Co,Cp,Cq,Cr):(Int) × (LiI) × (Value) × LnA × LnN × LvA),Nat.lt_succ_self _,⟨Bc,Ac.sel [1,2,3,4,5,6,7,8,9] (by decide)⟩,rfl,trivial⟩
    ·refine ABq (q_t (ABw (Wj (Wj ?_))));obtain ⟨Cz,Ay,Gw⟩:=ABk (AC1 Ct Bu);refine AKp ABt rfl (Ac.o p0) rfl Ay fun Jk Gx=>?_;obtain ⟨Jl,Gy,Gz⟩:=(Ac.o p0).cells Gx Ay;obtain rfl:=Gy;refine AB3 ACm rfl (Gz 0 _ rfl) (ACw rfl rfl (AKp ABt rfl (Ac.o p0) rfl Ay fun Jm G3=>AY8 (AFy ACm rfl rfl rfl) (Ac.o p0) G3 Ay (show ((cI .i64)).rep _ (w64 (Cz + 1)) _ from rfl) fun Jn G4 G5=>ACh (q_b (q_t ?_))));obtain rfl:=ABi Gw;exact ⟨Fa,((Cn,Co,Cp,Cq,Cr,(sI Gu Gt (w64 (Cz + 1)))):(LiI) × (Value) × LnA × LnN × LvA × (LiA)),Nat.lt_succ_self _,⟨Bj,(Ac.uO p0 G5 G4)⟩,trivial⟩
   ·obtain rfl:=ABi (AC1 Ae Be);change _=B3 at Bc;subst Bc;refine AB9 (AB7 (AB7 (ADh (⟨_,ASm,((B5,B6,B7,B8,B9):(LiI) × (Value) × LnA × LnN × LvA),?_,rfl,?_⟩))))
    ·exact ABi Ea
    ·exact Bb
  obtain ⟨⟨Jo,Jp,Jq,Jr,Js⟩,G6,rfl,C0⟩:=D8;subst G6;refine ⟨(C0.ob p2),?_⟩;obtain ⟨Jt,G7,Ju,Bv⟩:=C0.uob (o':=rf_oe) p2 Ao D4;rw [G7];refine q_t (Aqf (Amm (AB3 Ach rfl ((Bv.b p5).cell (i:=0) rfl) (ACd (ABp (Atb ?_))))));obtain rfl:=ABi D7;refine ⟨(Bv.ob p1),?_⟩;obtain ⟨Jv,G8,Jw,Bw⟩:=Bv.uob (o':=(.deferred none)) p1 rfl rfl;rw [G8];exact ⟨_,AC6,Bw.x,_,_,_,_,rfl,(Bw.o2 p0),Bw.s.sel [0] (by decide)⟩
end Go.Proofs.YtiegjkmfpcgjjaaGreatDoor
namespace Go.Proofs.YtiegjkmfpcgjjaaGreatDoor
open Go Go.QF
set_option maxRecDepth 100000
noncomputable def ASj (M:List (List Int)) (p:Int) (lim:Bool):Int:=
  if isRed M=true then (if AOg p=true/\det M.length (ent M) % p≠0 then (if lim=true/\65536 < p ^ M.length then 7 else 0) else 20) else 6
theorem Ad4 {E:Type} {body:Int × Int->Option ((Int × Int) ⊕ (E ⊕ Unit))} {fuel n:Nat} {p:Int} {x:E} (hp:2<=p) (Ab:p<=9973) (hn:n<=16) (hf:100 < fuel) (hb:∀ a b,body (a,b)=if b < (n:Int) then (if 65536 < w64 (a * p) then some (.inr (.inl x)) else some (.inl (w64 (a * p),w64 (b + 1)))) else some (.inr (.inr ()))):Ok (iter body fuel (1,0)) fun e=>(e= .inl x/\65536 < p ^ n)∨(e= .inr ()/\p ^ n<=65536):=by
 refine ACy (fun i s=>s=(p ^ i,(i:Int))/\i<=n/\p ^ i<=65536) n ⟨by simp,Nat.zero_le _,by simp⟩ (by omega) fun i s hi hI=>?_;obtain ⟨rfl,h1,h2⟩:=hI;rw [hb];have hpos:0 < p ^ i:=Int.pow_pos (by omega);have hm:p ^ i * p<=65536 * 9973:=Int.mul_le_mul h2 Ab (by omega) (by omega);have Ae:0<=p ^ i * p:=Int.mul_nonneg (by omega) (by omega);have hs:p ^ (i + 1)=p ^ i * p:=Int.pow_succ p i
 refine ACk (fun h=>?_) fun h=>ABj (.inr ⟨rfl,by
   obtain rfl:i=n:=by omega
   exact h2⟩)
 rw [wk (by omega)];refine ACk (fun h3=>ABj (.inl ⟨rfl,?_⟩)) fun h3=>ABj ⟨by omega,by rw [AG3 (by omega),hs],by omega,by rw [hs];omega⟩;have:=Abk (p:=p) (by omega) (show i + 1<=n by omega);omega
theorem AWv {p:Int} (h:AOg p=true):3<=p/\p<=9973:=by have:=Aa6 h;omega
theorem AYj {fuel:Nat} {M:List (List Int)} {p:Int} (hf:2147483648 < fuel):ALa fuel M p=some (ASj M p false):=by
 unfold ALa AVr ASj;simp only [Option.bind_some]
 cases hr:isRed M with
 | false=>rfl
 | true=>
   have R:=(AS4 M).1 hr
   simp only [Bool.not_true,Bool.false_eq_true,reduceIte,false_and]
   apply ok_eq
   refine ABm (Q:=fun ex=>(ex= .inl 20/\AOg p=false)∨(ex= .inr ()/\AOg p=true)) ?_ fun ex hex=>?_
   · refine ACk (fun h=>ABj (.inl ⟨rfl,(ARc (by omega)).symm⟩)) fun h=>ACk (fun h2=>ABj (.inl ⟨rfl,(ARc (by omega)).symm⟩)) fun h2=>?_
     unfold AX5
     simp only [Option.bind_some]
     refine ACk (fun h3=>ABj (.inl ⟨rfl,(ARc fun hc=>?_).symm⟩)) fun h3=>ABj (.inr ⟨rfl,?_⟩)
     · have h3:AKi p=false:=by simpa using h3
       exact AYn h3 ⟨by omega,hc.2.2⟩
     · have h3:AKi p=true:=by simpa using h3
       have:=AY2 h3
       have h4:=this.2.1
       exact (ATw ⟨by omega,by omega,this.2⟩).symm
   · rcases hex with ⟨rfl,ho⟩ | ⟨rfl,ho⟩
     · exact ABj (by rw [if_neg (by simp [ho])])
     · have hb:=AWv ho
       dsimp only
       have hM:=ASg R
       have hd:AI5 fuel M p=some (det M.length (ent M) % p,0):=by
         conv=>lhs;rw [hM]
         exact Ar2 R.1.1 R.1.2 (by omega) (by omega) hf
       rw [hd]
       simp only [Option.bind_some]
       rw [if_neg (by decide)]
       exact ACk (fun h=>ABj (by rw [if_neg (by simp [h])])) fun h=>ABj (by rw [if_pos ⟨ho,h⟩])
theorem Ahp {fuel:Nat} {M:List (List Int)} {p:Int} (hf:2147483648 < fuel):AIa fuel M p=some (ASj M p true):=by
 unfold AIa;rw [AYj hf];simp only [Option.bind_some];apply ok_eq;refine ACk (fun h=>ABj ?_) fun h=>?_
 ·unfold ASj at h ⊢;by_cases hr:isRed M=true
  ·rw [if_pos hr] at h ⊢;rw [if_pos hr];by_cases hg:AOg p=true/\det M.length (ent M) % p≠0
   ·rw [if_pos hg] at h;simp at h
   ·rw [if_neg hg,if_neg hg]
  ·rw [if_neg hr,if_neg hr]
 ·have h:ASj M p false=0:=by simpa using h
  unfold ASj at h;by_cases hr:isRed M=true
  ·rw [if_pos hr] at h;by_cases hg:AOg p=true/\det M.length (ent M) % p≠0
   ·have R:=(AS4 M).1 hr;have hb:=AWv hg.1;have h8:=R.1.2;refine ABm (Ad4 (n:=M.length) (x:=(7:Int)) (by omega) hb.2 (by omega) (by omega) fun a b=>rfl) fun ex hex=>?_;rcases hex with ⟨rfl,h3⟩ | ⟨rfl,h3⟩
    ·exact ABj (by unfold ASj;rw [if_pos hr,if_pos hg,if_pos ⟨rfl,h3⟩])
    ·exact ABj (by unfold ASj;rw [if_pos hr,if_pos hg,if_neg (fun hh=>absurd hh.2 (by omega))])
   ·rw [if_neg hg] at h;simp at h
  ·rw [if_neg hr] at h;simp at h
theorem Ats {M:List (List Int)} {p:Int} {lim:Bool} (h:ASj M p lim=0):AT0 M/\(3<=p/\p<=9973)/\AOg p=true/\det M.length (ent M) % p≠0/\(lim=true->p ^ M.length<=65536):=by
  unfold ASj at h
  by_cases hr:isRed M=true
  · rw [if_pos hr] at h
    by_cases hg:AOg p=true/\det M.length (ent M) % p≠0
    · rw [if_pos hg] at h;refine ⟨(AS4 M).1 hr,AWv hg.1,hg.1,hg.2,fun hl=>?_⟩
      by_cases h6:lim=true/\65536 < p ^ M.length
      · rw [if_pos h6] at h;simp at h
      · exact Int.not_lt.1 fun hh=>h6 ⟨hl,hh⟩
    · rw [if_neg hg] at h;simp at h
  · rw [if_neg hr] at h;simp at h
end Go.Proofs.YtiegjkmfpcgjjaaGreatDoor
namespace Go.Proofs.YtiegjkmfpcgjjaaGreatDoor
open Go Go.QF
set_option maxRecDepth 100000
set_option maxHeartbeats 4000000
noncomputable def AG4 (fuel:Nat) (a3:LiI) (a5:Int):Option Bool:=
  ((Aa7 fuel a5).bind fun x6=>(if x6=true then ((AHu fuel a3).bind fun Ad=>(if a5≠0 then (some (decide (¬ (Int.tmod Ad a5)=0))) else none)) else (some false)))
theorem AQk {fuel:Nat} {h:ABg} {Ab:Value} {a3:LiI} {a5:Int} {r:Bool} (H2:AF2 (cI .i64) h Ab a3) (hp:AG4 fuel a3 a5=some r):AB8 Tryz.prog 31 #[Ab,(.int .i64 a5)] h (fun x h'=>Ext h h'/\x= .bool r):=by
 unfold AG4 at hp;refine cwf (l:=[_,_]) Tryz.func31 rfl rfl (ABh (ACq (Wj ?_)));obtain ⟨x6,Ai,Ae⟩:=ABk hp;refine AC2 rfl (Alw Ai) fun Av Aw E9 Ak=>?_;subst Ak;refine Wj ?_;have Aa:=(Kst.k0 h).e E9;cases Af:x6
 ·refine AJa 7 false (ABx rfl (ABp (ABr ?_)));obtain rfl:=ABi (ALj Ae Af);exact ⟨_,ABs,Aa.x,rfl⟩
 ·refine ACl 7 true (Wj (ACl 7 true ?_));obtain ⟨Ax,Am,Ao⟩:=ABk (ifT Ae Af);refine AC2 rfl (ARd (H2.ext Aa.x) Am) fun Ay Az Ap Aq=>?_;subst Aq;refine ACl 7 true (Wj (ACl 7 true ?_));obtain ⟨Ar,Au⟩:=ifN Ao;refine AFq rfl rfl Ar (ACl 7 true (AGe rfl rfl (AB0 rfl (ABp (ABr ?_)))));obtain rfl:=ABi Au;exact ⟨_,ABs,(Aa.e Ap).x,rfl⟩
def ALg (fuel:Nat) (a1 a2 Ab Ac:Int):Option ((Int × Int) ⊕ ((Bool) ⊕ (Unit))):=
  (if Ac < a1 then (if 65536 < (w64 (Ab * a2)) then (some (Sum.inr<| Sum.inl <| false)) else (some (Sum.inl ((w64 (Ab * a2)),(w64 (Ac + 1)))))) else (some (Sum.inr<| Sum.inr <| ())))
def AF8 (fuel:Nat) (a1 a2:Int):Option Bool:=
  ((iter (fun s=>ALg fuel a1 a2 s.1 s.2) fuel (1,0)).bind (fun ex=>match ex with | Sum.inl Ac=>(some Ac) | Sum.inr (_)=>(some true)))
theorem AO8 {fuel:Nat} {h:ABg} {a1 a2:Int} {r:Bool} (hp:AF8 fuel a1 a2=some r):AB8 Tryz.prog 32 #[(.int .i64 a1),(.int .i64 a2)] h (fun x h'=>Ext h h'/\x= .bool r):=by
 unfold AF8 at hp;refine cwf (l:=[_,_]) Tryz.func32 rfl rfl (ABh (ACq (ABp (ABl (ABh (ABp (ABo ?_)))))));have K0:=Kst.k0 h;obtain ⟨Ad,Am,Aj⟩:=ABk hp;obtain ⟨Ao,Ap,Aq⟩:=ACe Am;refine ACg 131056 (fun x:(Int) × (Int)=>[(5,(.int .i64 x.1)),(6,(.int .i64 x.2))]) (fun k x h'=>iter Ao k (x.1,x.2)=some Ad/\Kst h h' (K0.L)) (by kernel_rfl) fuel ((1,0):(Int) × (Int)) ?_ ⟨rfl,rfl,trivial⟩ ?_
 ·exact ⟨Aq,K0⟩
 rintro k9 ⟨Ar,Au⟩ Ay Az ⟨Av,Ae⟩;obtain ⟨Aw,A3,rfl,Aa,Ab⟩:=AB2 Av;rw [Ap] at Aa;dsimp only at Aa;unfold ALg at Aa;refine ABl (ABh (Wj (Wj (ACx rfl rfl (ABn (⟨_,rfl,fun Af=>?_,fun Af=>?_⟩))))))
 ·refine ABq (q_t (ABl (ABo (ABh (Wj (Wj (AJn rfl rfl (ACq (Wj (AKj rfl rfl (ABn ?_)))))))))));have Ak:=AC0 Aa Af;refine ⟨_,rfl,fun Ag=>?_,fun Ag=>?_⟩
  ·refine ABh (ABp ?_);obtain rfl:=ABi (AC0 Ak Ag);change _=Ad at Ab;subst Ab;refine ABr (ADk (ABz (ABz (ADk (ABz ?_)))));obtain rfl:=ABi Aj;exact ⟨_,ABs,Ae.x,rfl⟩
  ·refine ABq (q_b (q_t (ABw (Wj (ACw rfl rfl (ABp ?_))))));obtain rfl:=ABi (AC1 Ak Ag);exact ⟨Aw,(((w64 (Ar * a2)),(w64 (Au + 1))):(Int) × (Int)),Nat.lt_succ_self _,⟨Ab,Ae⟩,rfl,rfl,trivial⟩
 ·obtain rfl:=ABi (AC1 Aa Af);change _=Ad at Ab;subst Ab;refine AB9 (AB7 (AB7 (ADh (q_t (ABh (ABp (ABr ?_)))))));obtain rfl:=ABi Aj;exact ⟨_,ABs,Ae.x,rfl⟩
def AGy (fuel:Nat) (a7:LiA) (a9:Int) (Ac:LiA) (Ad Ab:Int):Option ((Int × Int) ⊕ ((Int))):=
  (if Ab < (Ac.length:Int) then ((gI Ac Ab).bind fun Af=>((AD7 fuel Af a9).bind fun Ag=>((gI a7 Ab).bind fun Ah=>((AD7 fuel Ah a9).bind fun Ai=>(if a9≠0 then (if a9≠0 then (some (Sum.inl ((Int.tmod (w64 (Ad + (Int.tmod (w64 (Ag * Ai)) a9))) a9),(w64 (Ab + 1))))) else none) else none))))) else (some (Sum.inr<| Ad)))
def AGz (fuel:Nat) (a3:LiI) (a7:LiA) (a9:Int) (Aa:LiA) (Ab:Int):Option ((LiA × Int) ⊕ ((LiA))):=
  (if Ab < (a3.length:Int) then ((gI a3 Ab).bind fun Af=>((iter (fun s=>AGy fuel a7 a9 Af s.1 s.2) fuel (0,0)).bind (fun (Ag:Int)=>(if Aa.length<=100000000 then (some (Sum.inl ((Aa ++ [Ag]),(w64 (Ab + 1))))) else none)))) else (some (Sum.inr<| Aa)))
def AGk (fuel:Nat) (a3:LiI) (a7:LiA) (a9:Int):Option LiA:=
  ((iter (fun s=>AGz fuel a3 a7 a9 s.1 s.2) fuel ([],0)).bind (fun (Ad:LiA)=>(some Ad)))
theorem AP1 {fuel:Nat} {h:ABg} {Ap:Value} {a3:LiI} {Ar:Value} {a7:LiA} {a9:Int} {r:LiA} (H2:AF2 (cI .i64) h Ap a3) (H6:SlC (cI .i64) h Ar a7) (hp:AGk fuel a3 a7 a9=some r):AB8 Tryz.prog 43 #[Ap,Ar,(.int .i64 a9)] h (fun x h'=>Ext h h'/\ ∃ (x0:Value) (F0:List Nat),x=x0/\OwC (cI .i64) 2 h' F0 x0 r/\Sp h' h.size [F0]):=by
 unfold AGk at hp;refine cwf (l:=[_,_,_]) Tryz.func43 rfl rfl (ABh (ACq (ABp (ABl (ABh (Wj (ADf AB1 rfl H2 (Wj (ABn (ABo ?_))))))))));have Ay:=Kst.anil (cI .i64) 2 (Kst.k0 h);obtain ⟨Az,A7,A8⟩:=ABk hp;obtain ⟨A9,Ba,Bb⟩:=ACe A7;refine ACg 281474976685696 (fun x:(LiA) × (Value) × LnA × (Int)=>[(7,x.2.1),(15,(.int .i64 x.2.2.2))]) (fun k x h'=>iter A9 k (x.1,x.2.2.2)=some Az/\Kst h h' (Ay.L.set 0 (aO (cI .i64) 2 x.2.2.1 x.2.1 x.1))) (by kernel_rfl) fuel (([],(.slice none 0 0),[],0):(LiA) × (Value) × LnA × (Int)) ?_ ⟨rfl,rfl,trivial⟩ ?_
 ·exact ⟨Bb,Ay⟩
 rintro Cp ⟨Bc,Cq,Cr,Be⟩ Ct Cu ⟨Bf,Aa⟩;obtain ⟨Bg,Cv,rfl,Ab,Ag⟩:=AB2 Bf;rw [Ba] at Ab;dsimp only at Ab;unfold AGz at Ab;refine ABh (ACx rfl rfl (ABn (ABl (⟨_,rfl,fun Ah=>?_,fun Ah=>?_⟩))))
 ·refine ABq (q_t (ABl (ABo (ABh ?_))));obtain ⟨Cw,Bh,Bi⟩:=ABk (AC0 Ab Ah);refine AIn AB1 rfl H2 rfl Bh fun Cx Cy Cz Bj A3=>AB3 ACn rfl (ABv Bj Aa.x) (ACq (ABp (ABl (ABh (Wj (ADs ABt rfl A3 (Wj (ABn (ABo ?_)))))))));obtain ⟨A4,Bl,Bm⟩:=ABk Bi;obtain ⟨Bn,Bo,Bp⟩:=ACe Bl;refine ACg 8796090932224 (fun x:(Int) × (Int)=>[(10,(.int .i64 x.1)),(21,(.int .i64 x.2))]) (fun k x h'=>iter Bn k (x.1,x.2)=some A4/\Kst h h' (Aa.L)) (by kernel_rfl) fuel ((0,0):(Int) × (Int)) ?_ ⟨rfl,rfl,trivial⟩ ?_
  ·exact ⟨Bp,Aa⟩
  rintro C0 ⟨Af,Bq⟩ C1 Ai ⟨Br,Ac⟩;obtain ⟨Bt,C2,rfl,Ad,Aj⟩:=AB2 Br;rw [Bo] at Ad;dsimp only at Ad;unfold AGy at Ad;refine ABh (ACx rfl rfl (ABn (ABl (⟨_,rfl,fun Ak=>?_,fun Ak=>?_⟩))))
  ·refine ABq (q_t (ABl (ABo (ABh (Wj ?_)))));obtain ⟨C3,Bu,Bv⟩:=ABk (AC0 Ad Ak);refine AIc (c:=(cI .i64)) ABt rfl A3 rfl Bu fun C4 C5 C6 Bw Bx=>?_;obtain rfl:=Bw;refine AB3 ACm rfl (ABv (Bx 0 _ rfl) Ac.x) (ACd (ABp (AEb (fun h'=>UpT [] Ai h') (by kernel_rfl) ?_)));have Am:UpT [] Ai Ai:=UpT.start all_nil;refine Wj (Wj (Wj ?_));obtain ⟨By,Bz,B1⟩:=ABk Bv;refine AC5 Am (fun _ E=>Am.thenE E) rfl (AF7 Bz) fun C7 C8 A5 B2=>?_;subst B2;refine Wj (Wj ?_);have Ao:=Am.thenE A5;obtain ⟨C9,B3,B4⟩:=ABk B1;refine AIc (c:=(cI .i64)) ABt rfl H6 rfl B3 fun Da Db Dc B5 B6=>?_;obtain rfl:=B5;refine AFr ACm rfl Ao (fun h' hb=>ABv (B6 0 _ rfl) (Ac.x.trans hb.ext)) (Wj ?_);obtain ⟨B7,B8,B9⟩:=ABk B4;refine AC5 Ao (fun _ E=>Ao.thenE E) rfl (AF7 B8) fun Dd De Ca Cb=>?_;subst Cb;refine AJn rfl rfl (Wj ?_);obtain ⟨Cd,Ce⟩:=ifN B9;refine AFq rfl rfl Cd (ACw rfl rfl (Wj ?_));obtain ⟨Cf,Cg⟩:=ifN Ce;refine AFq rfl rfl Cf (ACd (ACh (q_b (q_t (ABw (ACw rfl rfl (Wj (ABn ?_))))))));obtain rfl:=ABi Cg;exact ⟨Bt,(((Int.tmod (w64 (Af + (Int.tmod (w64 (By * B7)) a9))) a9),(w64 (Bq + 1))):(Int) × (Int)),Nat.lt_succ_self _,⟨Aj,((Ac.e A5).e Ca)⟩,rfl,rfl,trivial⟩
  ·obtain rfl:=ABi (AC1 Ad Ak);change _=A4 at Aj;subst Aj;refine AB9 (AB7 (AB7 (ADh (q_t (ABw (Wj (Wj ?_)))))));obtain ⟨Ch,Ci⟩:=ifN Bm;refine ANd ABt AHa rfl rfl trivial tt2 (fun _=>rfl) rfl (show ((cI .i64)).rep _ Af [(.int .i64 Af)] from rfl) (Ac.o p0) (by decide) Ch fun Df Cj Ck Dg Cm Cn Co=>ACd (ACh (q_b (q_t (ABw (ACw rfl rfl (Wj (ABn ?_)))))));obtain rfl:=ABi Ci;exact ⟨Bg,(((Bc ++ [Af]),Ck,Cj,(w64 (Be + 1))):(LiA) × (Value) × LnA × (Int)),Nat.lt_succ_self _,⟨Ag,(Ac.uo p0 Cn Cm Co)⟩,rfl,rfl,trivial⟩
 ·obtain rfl:=ABi (AC1 Ab Ah);change _=Az at Ag;subst Ag;refine AB9 (AB7 (AB7 (ADh (q_t (ABh (Wj (ABp (ABr ?_))))))));obtain rfl:=ABi A8;exact ⟨_,ABs,Aa.x,_,_,rfl,(Aa.o p0),Aa.s.sel [0] (by decide)⟩
def AJm (fuel:Nat) (a7:LiA) (a9:Int) (Ac:LiA) (Ad Ab:Int):Option ((Int × Int) ⊕ ((Int))):=
  (if Ab < (Ac.length:Int) then ((gI Ac Ab).bind fun Af=>((gI a7 Ab).bind fun Ag=>((AD7 fuel Ag a9).bind fun Ah=>(if a9≠0 then (if a9≠0 then (some (Sum.inl ((Int.tmod (w64 (Ad + (Int.tmod (w64 (Af * Ah)) a9))) a9),(w64 (Ab + 1))))) else none) else none)))) else (some (Sum.inr<| Ad)))
def AFx (fuel:Nat) (a3:LiI) (a7:LiA) (a9:Int):Option Int:=
  ((AGk fuel a3 a7 a9).bind fun Ad=>((iter (fun s=>AJm fuel a7 a9 Ad s.1 s.2) fuel (0,0)).bind (fun (Ae:Int)=>(some Ae))))
theorem AQl {fuel:Nat} {h:ABg} {Ah:Value} {a3:LiI} {Aj:Value} {a7:LiA} {a9 r:Int} (H2:AF2 (cI .i64) h Ah a3) (H6:SlC (cI .i64) h Aj a7) (hp:AFx fuel a3 a7 a9=some r):AB8 Tryz.prog 44 #[Ah,Aj,(.int .i64 a9)] h (fun x h'=>Ext h h'/\x= .int .i64 r):=by
 unfold AFx at hp;refine cwf (l:=[_,_,_]) Tryz.func44 rfl rfl (ABh (ACq (ABp (ABl (ABh (Wj (Wj (Wj ?_))))))));have K0:=Kst.k0 h;obtain ⟨Bw,Ar,Au⟩:=ABk hp;refine AC2 rfl (AP1 (H2.ext K0.x) (H6.ext K0.x) Ar) fun Bx By Av Aw=>?_;obtain ⟨Bz,B1,rfl,Ax,Ay⟩:=Aw;have Ae:=K0.no Av Ay Ax;refine ADs ABt rfl (Ae.o p0).rd (Wj (ABn (ABo ?_)));obtain ⟨Ao,Az,A3⟩:=ABk Au;obtain ⟨A4,A5,A6⟩:=ACe Az;refine ACg 34359706496 (fun x:(Int) × (Int)=>[(7,(.int .i64 x.1)),(15,(.int .i64 x.2))]) (fun k x h'=>iter A4 k (x.1,x.2)=some Ao/\Kst h h' (Ae.L)) (by kernel_rfl) fuel ((0,0):(Int) × (Int)) ?_ ⟨rfl,rfl,trivial⟩ ?_
 ·exact ⟨A6,Ae⟩
 rintro B2 ⟨A7,A8⟩ B3 B4 ⟨A9,Aa⟩;obtain ⟨Ba,B5,rfl,Ab,Af⟩:=AB2 A9;rw [A5] at Ab;dsimp only at Ab;unfold AJm at Ab;refine ABh (ACx rfl rfl (ABn (ABl (⟨_,rfl,fun Ag=>?_,fun Ag=>?_⟩))))
 ·refine ABq (q_t (ABl (ABo (ABh (Wj ?_)))));obtain ⟨Bb,Ap,Bc⟩:=ABk (AC0 Ab Ag);refine AKp ABt rfl (Aa.o p0) rfl Ap fun B6 Be=>?_;obtain ⟨B7,Bf,Bg⟩:=(Aa.o p0).cells Be Ap;obtain rfl:=Bf;refine AB3 ACm rfl (Bg 0 _ rfl) (ACd (ABp (ABw (Wj (Wj (Wj (Wj ?_)))))));obtain ⟨B8,Bh,Bi⟩:=ABk Bc;refine AIc (c:=(cI .i64)) ABt rfl H6 rfl Bh fun B9 Ca Cb Bj Bl=>?_;obtain rfl:=Bj;refine AB3 ACm rfl (ABv (Bl 0 _ rfl) Aa.x) (Wj ?_);obtain ⟨Bm,Bn,Bo⟩:=ABk Bi;refine AC2 rfl (AF7 Bn) fun Cd Ce Bp Bq=>?_;subst Bq;refine AJn rfl rfl (Wj ?_);obtain ⟨Br,Bt⟩:=ifN Bo;refine AFq rfl rfl Br (ACw rfl rfl (Wj ?_));obtain ⟨Bu,Bv⟩:=ifN Bt;refine AFq rfl rfl Bu (ACd (ACh (q_b (q_t (ABw (ACw rfl rfl (Wj (ABn ?_))))))));obtain rfl:=ABi Bv;exact ⟨Ba,(((Int.tmod (w64 (A7 + (Int.tmod (w64 (Bb * Bm)) a9))) a9),(w64 (A8 + 1))):(Int) × (Int)),Nat.lt_succ_self _,⟨Af,(Aa.e Bp)⟩,rfl,rfl,trivial⟩
 ·obtain rfl:=ABi (AC1 Ab Ag);change _=Ao at Af;subst Af;refine AB9 (AB7 (AB7 (ADh (q_t (ABh (Wj (ABp (ABr ?_))))))));obtain rfl:=ABi A3;exact ⟨_,ABs,Aa.x,rfl⟩
def AJp (fuel:Nat) (a5:Int) (a8:LiA) (Ab Aa:Int):Option ((Int × Int) ⊕ ((Bool) ⊕ (Int))):=
  (if Aa < (a8.length:Int) then ((gI a8 Aa).bind fun Ac=>(((if Ac < 0 then (some (Sum.inl <| false)) else (if a5<=Ac then (some (Sum.inl <| false)) else (some (Sum.inr <| ())))):Option ((Bool) ⊕ (Unit))).bind (fun ex=>match ex with | Sum.inl Af=>(some (Sum.inr<| Sum.inl <| Af)) | Sum.inr (_)=>(if Ab=0 then (some (Sum.inl (Ac,(w64 (Aa + 1))))) else (some (Sum.inl (Ab,(w64 (Aa + 1))))))))) else (some (Sum.inr<| Sum.inr <| Ab)))
def AE7 (fuel:Nat) (a3:LiI) (a5:Int) (a8:LiA):Option Bool:=
  (if ¬ (a8.length:Int)=(a3.length:Int) then (some false) else ((iter (fun s=>AJp fuel a5 a8 s.1 s.2) fuel (0,0)).bind (fun ex=>match ex with | Sum.inl Ad=>(some Ad) | Sum.inr (Ae)=>(if Ae=1 then ((AFx fuel a3 a8 a5).bind fun Af=>(some (decide (Af=0)))) else (some false)))))
theorem ANo {fuel:Nat} {h:ABg} {Aq:Value} {a3:LiI} {a5:Int} {Av:Value} {a8:LiA} {r:Bool} (H2:AF2 (cI .i64) h Aq a3) (H7:SlC (cI .i64) h Av a8) (hp:AE7 fuel a3 a5 a8=some r):AB8 Tryz.prog 42 #[Aq,(.int .i64 a5),Av] h (fun x h'=>Ext h h'/\x= .bool r):=by
 unfold AE7 at hp;refine cwf (l:=[_,_,_]) Tryz.func42 rfl rfl (ABh (ABp (ABl (ABh (Wj (ADs ABt rfl H7 (Wj (ADf AB1 rfl H2 (AGe rfl rfl (ABn ?_))))))))));have K0:=Kst.k0 h;refine ⟨_,rfl,fun Ak=>?_,fun Ak=>?_⟩
 ·refine ABh (ABp (ABr (ABz ?_)));obtain rfl:=ABi (AC0 hp Ak);exact ⟨_,ABs,K0.x,rfl⟩
 ·refine ABq (q_t (ABh (ABp (ABl (ABh (Wj (ADs ABt rfl H7 (Wj (ABn (ABo ?_))))))))));obtain ⟨Ae,A8,Af⟩:=ABk (AC1 hp Ak);obtain ⟨A9,Ba,Bb⟩:=ACe A8;refine ACg 4294836928 (fun x:(Int) × (Int)=>[(7,(.int .i64 x.1)),(17,(.int .i64 x.2))]) (fun k x h'=>iter A9 k (x.1,x.2)=some Ae/\Kst h h' (K0.L)) (by kernel_rfl) fuel ((0,0):(Int) × (Int)) ?_ ⟨rfl,rfl,trivial⟩ ?_
  ·exact ⟨Bb,K0⟩
  rintro Bp ⟨Ay,Az⟩ Bq Br ⟨Bc,Aa⟩;obtain ⟨A3,Bt,rfl,Ac,Ab⟩:=AB2 Bc;rw [Ba] at Ac;dsimp only at Ac;unfold AJp at Ac;refine ABh (ACx rfl rfl (ABn (ABl (⟨_,rfl,fun Am=>?_,fun Am=>?_⟩))))
  ·refine ABq (q_t (ABl (ABo (ABh ?_))));obtain ⟨A4,Be,Bf⟩:=ABk (AC0 Ac Am);refine AIc (c:=(cI .i64)) ABt rfl H7 rfl Be fun Bu Bv Bw Bg Bh=>?_;obtain rfl:=Bg;refine AB3 ACm rfl (ABv (Bh 0 _ rfl) Aa.x) (ABp ?_);obtain ⟨Bi,A5,Ag⟩:=ABk Bf;refine AMd 266338368 (fun x:Unit=>[]) (fun x h'=>(Sum.inr <| ())=Bi/\Kst h h' (Aa.L)) ?_ ?_
   ·refine ABh (Wj (ACx rfl rfl (Wj ?_)));by_cases Ah:A4 < 0
    ·rw [decide_eq_true Ah];refine ALo 23 true (AB0 rfl (ABn (AB6 rfl (ABh (ABp ?_)))));obtain rfl:=ABi (ifT A5 Ah);obtain rfl:=ABi Ag;change _=Ae at Ab;subst Ab;refine ABr (ABz (ADk (ABz (ABz (ADk (ABz ?_))))));obtain rfl:=ABi Af;exact ⟨_,ABs,Aa.x,rfl⟩
    ·have A6:=ifF A5 Ah;rw [decide_eq_false Ah];refine ACl 23 false (Wj (ACl 23 false (Wj (ACl 23 false (AL0 rfl rfl (ABx rfl (ABn (⟨_,rfl,fun Ao=>?_,fun Ao=>?_⟩))))))))
     ·refine ABh (ABp ?_);obtain rfl:=ABi (AC0 A6 Ao);obtain rfl:=ABi Ag;change _=Ae at Ab;subst Ab;refine ABr (ABz (ADk (ABz (ABz (ADk (ABz ?_))))));obtain rfl:=ABi Af;exact ⟨_,ABs,Aa.x,rfl⟩
     ·refine ABq (q_t ?_);exact ⟨(():Unit),⟨ABi (AC1 A6 Ao),Aa⟩,trivial⟩
   rintro ⟨⟩ Bx By ⟨Bj,A7⟩;subst Bj;refine ABh (Wj (ADo rfl rfl (ABn (⟨_,rfl,fun Ap=>?_,fun Ap=>?_⟩))))
   ·refine ABw (Wj (ACd (ACh (q_b (q_t (ABw (ACw rfl rfl (Wj (ABn ?_)))))))));obtain rfl:=ABi (AC0 Ag Ap);exact ⟨A3,((A4,(w64 (Az + 1))):(Int) × (Int)),Nat.lt_succ_self _,⟨Ab,A7⟩,rfl,rfl,trivial⟩
   ·refine ABq (q_b (q_t (ABw (ACw rfl rfl (Wj (ABn ?_))))));obtain rfl:=ABi (AC1 Ag Ap);exact ⟨A3,((Ay,(w64 (Az + 1))):(Int) × (Int)),Nat.lt_succ_self _,⟨Ab,A7⟩,rfl,rfl,trivial⟩
  ·obtain rfl:=ABi (AC1 Ac Am);change _=Ae at Ab;subst Ab;refine AB9 (AB7 (AB7 (ADh (q_t (ABh (Wj (ADo rfl rfl (Wj ?_))))))));by_cases Ai:Ay=1
   ·rw [decide_eq_true Ai];refine ACl 34 true (Wj (ACl 34 true (Wj (ACl 34 true (Wj (ACl 34 true ?_))))));obtain ⟨Bz,Bl,Bm⟩:=ABk (ifT Af Ai);refine AC2 rfl (AQl (H2.ext Aa.x) (H7.ext Aa.x) Bl) fun B1 B2 Bn Bo=>?_;subst Bo;refine ACl 34 true (ADo rfl rfl (AB0 rfl (ABp (ABr ?_))));obtain rfl:=ABi Bm;exact ⟨_,ABs,(Aa.e Bn).x,rfl⟩
   ·rw [decide_eq_false Ai];refine AJa 34 false (ABx rfl (ABp (ABr ?_)));obtain rfl:=ABi (ifF Af Ai);exact ⟨_,ABs,Aa.x,rfl⟩
def AJ1 (fuel:Nat) (a5 Aa:Int) (Ab:LiA):Option ((Int × LiA) ⊕ ((Int × LiA))):=
  (((if 0<=Aa then ((gI Ab Aa).bind fun Ad=>(if Ad=(w64 (a5 - 1)) then (some (Sum.inl <| ())) else (some (Sum.inr <| ())))) else (some (Sum.inr <| ()))):Option ((Unit) ⊕ (Unit))).bind (fun ex=>match ex with | Sum.inl _=>((gI Ab Aa).bind fun Ae=>(some (Sum.inl ((w64 (Aa - 1)),(sI Ab Aa 0))))) | Sum.inr (_)=>(some (Sum.inr<| (Aa,Ab)))))
def AJ2 (fuel:Nat) (a3:LiI) (a5:Int) (Ab:LiI) (Aa:LiA):Option ((LiI × LiA) ⊕ ((LiI))):=
  ((((AE7 fuel a3 a5 Aa).bind fun Ah=>(if Ah=true then (if Aa.length<=100000000 then (if Ab.length<=100000000 then (some ( (Ab ++ [Aa]))) else none) else none) else (some ( Ab)))):Option ((LiI))).bind (fun (Ae:LiI)=>((((iter (fun s=>AJ1 fuel a5 s.1 s.2) fuel ((w64 ((Aa.length:Int) - 1)),Aa)).bind (fun ((Ai,Aj):Int × LiA)=>(some ( (Ai,Aj))))):Option ((Int × LiA))).bind (fun ((Ac,Af):Int × LiA)=>(if Ac < 0 then (some (Sum.inr<| Ae)) else ((gI Af Ac).bind fun Ak=>(some (Sum.inl (Ae,(sI Af Ac (w64 (Ak + 1))))))))))))
def AHv (fuel:Nat) (a3:LiI) (a5:Int):Option LiI:=
  (if 0<=(a3.length:Int)/\(a3.length:Int)<=100000000 then ((iter (fun s=>AJ2 fuel a3 a5 s.1 s.2) fuel ([],(List.replicate (Int.toNat (a3.length:Int)) (0:Int)))).bind (fun (Ac:LiI)=>(some Ac))) else none)
theorem ARh {fuel:Nat} {h:ABg} {A5:Value} {a3:LiI} {a5:Int} {r:LiI} (H2:AF2 (cI .i64) h A5 a3) (hp:AHv fuel a3 a5=some r):AB8 Tryz.prog 33 #[A5,(.int .i64 a5)] h (fun x h'=>Ext h h'/\ ∃ (x0:Value) (F0:List Nat) (Bp:List LnA) (Bq:List Value),x=x0/\AE8 (cI .i64) 23 2 h' F0 Bp Bq x0 r/\Sp h' h.size [F0]):=by
 unfold AHv at hp;refine cwf (l:=[_,_]) Tryz.func33 rfl rfl (ABh (ACq (ACq (Wj (ADf AB1 rfl H2 ?_)))));obtain ⟨Br,Bt⟩:=ifN hp;refine AQz (c:=(cI .i64)) (a:=0) ABt AHa rfl rfl (fun _=>rfl) rfl trivial tt2 rfl rfl (by decide) Br fun Bu Ao Dw Bv E8 Bx By=>ABp (ABo ?_);have Ba:=Kst.anil2 (cI .i64) 23 2 ((Kst.k0 h).no E8 (AGm Bx By) Bv);obtain ⟨Bb,Bz,B1⟩:=ABk Bt;obtain ⟨B2,B3,B4⟩:=ACe Bz;refine ACg 281474976708784 (fun x:(LiI) × (Value) × LnA × LnN × LvA × (LiA) × LnA=>[(5,x.2.1)]) (fun k x h'=>iter B2 k (x.1,x.2.2.2.2.2.1)=some Bb/\Kst h h' ((Ba.L.set 0 (aO2 (cI .i64) 23 2 x.2.2.1 x.2.2.2.1 x.2.2.2.2.1 x.2.1 x.1)).set 1 (aO (cI .i64) 2 x.2.2.2.2.2.2 Ao x.2.2.2.2.2.1))) (by kernel_rfl) fuel (([],(.slice none 0 0),[],[],[],(List.replicate (Int.toNat (a3.length:Int)) (0:Int)),[Bu]):(LiI) × (Value) × LnA × LnN × LvA × (LiA) × LnA) ?_ ⟨rfl,trivial⟩ ?_
 ·exact ⟨B4,Ba⟩
 rintro Dx ⟨Bc,B5,B6,Be,Bf,Ap,B7⟩ Dy Dz ⟨B8,Ae⟩;obtain ⟨B9,D0,rfl,Af,Aq⟩:=AB2 B8;rw [B3] at Af;dsimp only at Af;unfold AJ2 at Af;refine ABo ?_;obtain ⟨Ca,Cb,Cd⟩:=ABk Af;refine AMd 1046560 (fun x:(LiI) × (Value) × LnA × LnN × LvA=>[(5,x.2.1)]) (fun x h'=>( x.1)=Ca/\Kst h h' (Ae.L.set 0 (aO2 (cI .i64) 23 2 x.2.2.1 x.2.2.2.1 x.2.2.2.2 x.2.1 x.1))) ?_ ?_
 ·refine ABh (Wj (Wj (Wj ?_)));obtain ⟨D1,Ce,Bg⟩:=ABk Cb;refine AC2 rfl (ANo (H2.ext Ae.x) (Ae.o p1).rd Ce) fun D2 D3 Cf Cg=>?_;subst Cg;refine ABn ?_;have Ar:=Ae.e Cf;refine ⟨_,rfl,fun Au=>?_,fun Au=>?_⟩
  ·refine ABw (Wj (Wj ?_));obtain ⟨Ch,Ci⟩:=ifN (ifT Bg Au);refine Aku ABt AHa rfl rfl trivial tt2 rfl rfl (Ar.o p1).rd (by decide) Ch fun Cj Ck D4 Cm Cn Co=>?_;have Ag:=Ar.no Cn Co Cm;obtain ⟨Cp,Cq⟩:=ifN Ci;refine Aal AB1 ALx rfl rfl trivial tt2 (fun _=>rfl) rfl (Ag.o p0) (Ag.o2 p1) (Ag.dj p0 p1 (by decide)) (by decide) Cp fun D5 Cr Ct D6 Cu Cv Cw=>ABp ?_;exact ⟨(((Bc ++ [Ap]),Ct,Cr,(Be ++ [Cj]),(Bf ++ [Ck])):(LiI) × (Value) × LnA × LnN × LvA),⟨ABi Cq,(Ag.m2 p0 p1 (by decide) Cv Cu Cw).sel [1,2] (by decide)⟩,rfl,trivial⟩
  ·refine ABq (q_t ?_);exact ⟨((Bc,B5,B6,Be,Bf):(LiI) × (Value) × LnA × LnN × LvA),⟨ABi (ALj Bg Au),Ar⟩,rfl,trivial⟩
 rintro ⟨Cx,Cy,Cz,C0,C1⟩ D7 D8 ⟨C2,Ah⟩;subst C2;refine ABh (Wj (ADs ABt rfl (Ah.o p1).rd (AGb rfl rfl (ABp ?_))));obtain ⟨C3,C4,Bh⟩:=ABk Cd;refine AMd 549747425408 (fun x:(Int) × (LiA) × LnA=>[(7,(.int .i64 x.1))]) (fun x h'=>( (x.1,x.2.1))=C3/\Kst h h' (Ah.L.set 1 (aO (cI .i64) 2 x.2.2 Ao x.2.1))) ?_ ?_
 ·refine ABo ?_;obtain ⟨Av,C5,Bi⟩:=ABk C4;obtain ⟨C6,C7,C8⟩:=ACe C5;refine ACg 549747425408 (fun x:(Int) × (LiA) × LnA=>[(7,(.int .i64 x.1))]) (fun k x h'=>iter C6 k (x.1,x.2.1)=some Av/\Kst h h' (Ah.L.set 1 (aO (cI .i64) 2 x.2.2 Ao x.2.1))) (by kernel_rfl) fuel (((w64 ((Ap.length:Int) - 1)),Ap,B7):(Int) × (LiA) × LnA) ?_ ⟨rfl,trivial⟩ ?_
  ·exact ⟨C8,Ah⟩
  rintro D9 ⟨Ac,Aw,Ax⟩ Ea Eb ⟨C9,Ab⟩;obtain ⟨Da,Ec,rfl,Ai,Ad⟩:=AB2 C9;rw [C7] at Ai;dsimp only at Ai;unfold AJ1 at Ai;obtain ⟨Db,Bj,Ay⟩:=ABk Ai;refine AMd 17171480576 (fun x:Unit=>[]) (fun x h'=>(Sum.inl <| ())=Db/\Kst h h' (Ab.L)) ?_ ?_
  ·refine ABh (Wj (AL0 rfl rfl (Wj ?_)));by_cases Aj:0<=Ac
   ·rw [decide_eq_true Aj];refine ACl 25 true (Wj (ACl 25 true (Wj (ACl 25 true ?_))));obtain ⟨Ed,Bl,Bm⟩:=ABk (ifT Bj Aj);refine AKp ABt rfl (Ab.o p1) rfl Bl fun Ee Dc=>ACl 25 true ?_;obtain ⟨Ef,Dd,De⟩:=(Ab.o p1).cells Dc Bl;obtain rfl:=Dd;refine AB3 ACm rfl (De 0 _ rfl) (ACl 25 true (Wj (ACl 25 true (AGb rfl rfl (ACl 25 true (ADo rfl rfl (AB0 rfl (ABn (⟨_,rfl,fun Az=>?_,fun Az=>?_⟩)))))))))
    ·refine ABq (q_t ?_);exact ⟨(():Unit),⟨ABi (AC0 Bm Az),Ab⟩,trivial⟩
    ·obtain rfl:=ABi (AC1 Bm Az);obtain rfl:=ABi Ay;change _=Av at Ad;subst Ad;refine AB9 (AB7 (AB7 (ADh (q_t ?_))));exact ⟨((Ac,Aw,Ax):(Int) × (LiA) × LnA),⟨ABi Bi,Ab⟩,rfl,trivial⟩
   ·rw [decide_eq_false Aj];refine AJa 25 false (AGg 25 false (ABx rfl (ABn (ACc rfl ?_))));obtain rfl:=ABi (ifF Bj Aj);obtain rfl:=ABi Ay;change _=Av at Ad;subst Ad;refine AB9 (AB7 (AB7 (ADh (q_t ?_))));exact ⟨((Ac,Aw,Ax):(Int) × (LiA) × LnA),⟨ABi Bi,Ab⟩,rfl,trivial⟩
  rintro ⟨⟩ Eg Eh ⟨Df,A3⟩;subst Df;refine ABo (ABh (Wj (Wj ?_)));obtain ⟨Ei,Bn,Dg⟩:=ABk Ay;refine AKp ABt rfl (A3.o p1) rfl Bn fun Ej Dh=>AY8 (AFy ACm rfl rfl rfl) (A3.o p1) Dh Bn (show ((cI .i64)).rep _ 0 _ from rfl) fun Ek Di Dj=>ABn (ABw (Wj (AGb rfl rfl (ACd (ACh (q_b (q_t ?_)))))));obtain rfl:=ABi Dg;exact ⟨Da,(((w64 (Ac - 1)),(sI Aw Ac 0),Ax):(Int) × (LiA) × LnA),Nat.lt_succ_self _,⟨Ad,(A3.uO p1 Dj Di)⟩,rfl,trivial⟩
 rintro ⟨Dk,Dl,Dn⟩ El Em ⟨Do,Aa⟩;subst Do;refine ABl (ABh (Wj (ACx rfl rfl (ABn (⟨_,rfl,fun A4=>?_,fun A4=>?_⟩)))))
 ·refine ABh (Wj (ABp ?_));obtain rfl:=ABi (AC0 Bh A4);change _=Bb at Aq;subst Aq;refine ABr (ABz (ADk (ABz (ADk ?_))));obtain rfl:=ABi B1;exact ⟨_,ABs,Aa.x,_,_,_,_,rfl,(Aa.o2 p0),Aa.s.sel [0] (by decide)⟩
 ·refine ABq (q_t (ABw (Wj (Wj ?_))));obtain ⟨Bo,Ak,Dp⟩:=ABk (AC1 Bh A4);refine AKp ABt rfl (Aa.o p1) rfl Ak fun En Dq=>?_;obtain ⟨Eo,Dr,Ds⟩:=(Aa.o p1).cells Dq Ak;obtain rfl:=Dr;refine AB3 ACm rfl (Ds 0 _ rfl) (ACw rfl rfl (AKp ABt rfl (Aa.o p1) rfl Ak fun Ep Dt=>AY8 (AFy ACm rfl rfl rfl) (Aa.o p1) Dt Ak (show ((cI .i64)).rep _ (w64 (Bo + 1)) _ from rfl) fun Er Du Dv=>ACh (q_b (q_t ?_))));obtain rfl:=ABi Dp;exact ⟨B9,((Cx,Cy,Cz,C0,C1,(sI Dl Dk (w64 (Bo + 1))),Dn):(LiI) × (Value) × LnA × LnN × LvA × (LiA) × LnA),Nat.lt_succ_self _,⟨Aq,(Aa.uO p1 Dv Du)⟩,rfl,trivial⟩
noncomputable def AHi (fuel:Nat) (a3:LiI) (Ab Aa:Int):Option ((Int × Int) ⊕ ((Int))):=
  ((AG4 fuel a3 Aa).bind fun Ad=>(if Ad=true then (if Ab=0 then (some (Sum.inr<| Aa)) else (some (Sum.inl ((w64 (Ab - 1)),(w64 (Aa + 2)))))) else (some (Sum.inl (Ab,(w64 (Aa + 2)))))))
noncomputable def AFg (fuel:Nat) (a3:LiI) (a5:Int):Option Int:=
  ((iter (fun s=>AHi fuel a3 s.1 s.2) fuel ((w64 (Int.tmod a5 2)),3)).bind (fun (Ac:Int)=>(some Ac)))
theorem AN2 {fuel:Nat} {h:ABg} {Ag:Value} {a3:LiI} {a5 r:Int} (H2:AF2 (cI .i64) h Ag a3) (hp:AFg fuel a3 a5=some r):AB8 Tryz.prog 13 #[Ag,(.int .u8 a5)] h (fun x h'=>Ext h h'/\x= .int .i64 r):=by
 unfold AFg at hp;refine cwf (l:=[_,_]) Tryz.func13 rfl rfl (ABh (ACq (Wj (AFq rfl rfl (by decide) (ALn APc APm rfl (ACq (ABp (ABo ?_))))))));have K0:=Kst.k0 h;obtain ⟨Aj,Av,Aw⟩:=ABk hp;obtain ⟨Ax,Ay,Az⟩:=ACe Av;refine ACg 1047664 (fun x:(Int) × (Int)=>[(5,(.int .i64 x.1)),(6,(.int .i64 x.2))]) (fun k x h'=>iter Ax k (x.1,x.2)=some Aj/\Kst h h' (K0.L)) (by kernel_rfl) fuel (((w64 (Int.tmod a5 2)),3):(Int) × (Int)) ?_ ⟨rfl,rfl,trivial⟩ ?_
 ·exact ⟨Az,K0⟩
 rintro A7 ⟨Ak,Am⟩ A8 A9 ⟨A3,Ao⟩;obtain ⟨Ap,Ba,rfl,Aa,Ab⟩:=AB2 A3;rw [Ay] at Aa;dsimp only at Aa;unfold AHi at Aa;refine ABl (ABo (ABh (Wj (Wj ?_))));obtain ⟨Bb,A4,Aq⟩:=ABk Aa;refine AC2 rfl (AQk (H2.ext Ao.x) A4) fun Bc Be A5 A6=>?_;subst A6;refine ABn ?_;have Ad:=Ao.e A5;refine ⟨_,rfl,fun Ae=>?_,fun Ae=>?_⟩
 ·refine ABl (ABh (Wj (ADo rfl rfl (ABn ?_))));have Ar:=ifT Aq Ae;refine ⟨_,rfl,fun Af=>?_,fun Af=>?_⟩
  ·refine ABh (Wj (ABp ?_));obtain rfl:=ABi (AC0 Ar Af);change _=Aj at Ab;subst Ab;refine ABr (ABz (ADk (ABz (ABz (ADk ?_)))));obtain rfl:=ABi Aw;exact ⟨_,ABs,Ad.x,rfl⟩
  ·refine ABq (q_t (ABw (Wj (AGb rfl rfl (ACd (ACh (q_b (q_t (ABw (Wj (ACw rfl rfl (ABp ?_))))))))))));obtain rfl:=ABi (AC1 Ar Af);exact ⟨Ap,(((w64 (Ak - 1)),(w64 (Am + 2))):(Int) × (Int)),Nat.lt_succ_self _,⟨Ab,Ad⟩,rfl,rfl,trivial⟩
 ·refine ABq (q_b (q_t (ABw (Wj (ACw rfl rfl (ABp ?_))))));obtain rfl:=ABi (ALj Aq Ae);exact ⟨Ap,((Ak,(w64 (Am + 2))):(Int) × (Int)),Nat.lt_succ_self _,⟨Ab,Ad⟩,rfl,rfl,trivial⟩
def AG5 (fuel:Nat) (a3:LiI) (a5 a6:Int):Option (LiA × Bool):=
  ((AF8 fuel (a3.length:Int) a5).bind fun x7=>(if (!x7)=true then (some ([],false)) else ((AHv fuel a3 a5).bind fun Aa=>(if (Aa.length:Int)=0 then (some ([],false)) else (if (Aa.length:Int)≠0 then ((gI Aa (Int.tmod (w64 a6) (Aa.length:Int))).bind fun Af=>(some (Af,true))) else none)))))
theorem AQm {fuel:Nat} {h:ABg} {Ag:Value} {a3:LiI} {a5 a6:Int} {r:(LiA × Bool)} (H2:AF2 (cI .i64) h Ag a3) (hp:AG5 fuel a3 a5 a6=some r):AB8 Tryz.prog 14 #[Ag,(.int .i64 a5),(.int .u16 a6)] h (fun x h'=>Ext h h'/\ ∃ (x0:Value) (F0:List Nat),x= .tuple #[x0,.bool r.2]/\OwC (cI .i64) 2 h' F0 x0 r.1/\Sp h' h.size [F0]):=by
 unfold AG5 at hp;refine cwf (l:=[_,_,_]) Tryz.func14 rfl rfl (ABh (ACd (ABp (ABl (ABh (Wj (ADf AB1 rfl H2 (Wj ?_))))))));obtain ⟨x7,Au,Ap⟩:=ABk hp;refine AC2 rfl (AO8 Au) fun Be Bf Av Aw=>?_;subst Aw;refine AGt rfl (ABn ?_);have Ab:=(Kst.k0 h).e Av;refine ⟨_,rfl,fun Ac=>?_,fun Ac=>?_⟩
 ·refine ABh (ACd (ABp (ABr (ABz ?_))));have Ad:=Kst.anil (cI .i64) 2 Ab;obtain rfl:=ABi (ifT Ap Ac);exact ⟨_,AC6,Ad.x,_,_,rfl,(Ad.o p0),Ad.s.sel [0] (by decide)⟩
 ·refine ABq (q_t (ABh (Wj (Wj ?_))));obtain ⟨Bg,Ax,Aq⟩:=ABk (ALj Ap Ac);refine AC2 rfl (ARh (H2.ext Ab.x) Ax) fun Bh Bi Ay Az=>?_;obtain ⟨Bj,Bl,Bm,Bn,rfl,A3,A4⟩:=Az;refine ABp (ABl (ABh (Wj ?_)));have Aa:=Ab.no2 Ay A4 A3;refine ADf AB1 rfl (Aa.o2 p0).rd (ADo rfl rfl (ABn (⟨_,rfl,fun Ae=>?_,fun Ae=>?_⟩)))
  ·refine ABh (ACd (ABp (ABr (ABz ?_))));have Af:=Kst.anil (cI .i64) 2 Aa;obtain rfl:=ABi (AC0 Aq Ae);exact ⟨_,AC6,Af.x,_,_,rfl,(Af.o p0),Af.s.sel [0] (by decide)⟩
  ·refine ABq (q_t (ABh (Wj (Wj (ALn Aq6 APm rfl (Wj (ADf AB1 rfl (Aa.o2 p0).rd ?_)))))));obtain ⟨A5,A6⟩:=ifN (AC1 Aq Ae);refine AFq rfl rfl A5 ?_;obtain ⟨Bo,Ar,A7⟩:=ABk A6;refine ADl AB1 rfl (Aa.o2 p0) rfl Ar fun Bp Bq Br A8 A9=>AB3 ACn rfl A9 (ACd (ABp (ABr ?_)));obtain rfl:=ABi A7;obtain ⟨Bt,Ba,Bb⟩:=Aa.rowS p0 A8 Ar;exact ⟨_,AC6,Aa.x,_,_,rfl,Ba,Bb⟩
noncomputable def AEu (fuel:Nat):Option Bool:=
  ((AMr fuel ([([1,0]:List Int),([0,1]:List Int)]:List LiA) 5).bind fun (Ab,Ac)=>((AJo fuel ([([1,0]:List Int),([0,1]:List Int)]:List LiA) 5 ([1,2]:List Int)).bind fun (Aa,Ad)=>((AK3 fuel ([([1,0,0]:List Int),([0,1,0]:List Int),([0,0,1]:List Int)]:List LiA) 3).bind fun (Ae,Af)=>(if Ac=0 then (if Ad=0 then (if Af=0 then ((AK2 fuel Ab ([([1,2]:List Int),([1,3]:List Int)]:List LiA)).bind fun Ag=>(if Ag=true then (if (Aa.length:Int)=2 then ((gI Aa 0).bind fun Ah=>(if Ah=11 then ((gI Aa 1).bind fun Ai=>(if Ai=2 then (some (decide (Ae=4))) else (some false))) else (some false))) else (some false)) else (some false))) else (some false)) else (some false)) else (some false)))))
theorem ALs {fuel:Nat} {h:ABg} {r:Bool} (HO:AT7 h) (hp:AEu fuel=some r):AB8 Tryz.prog 10 #[] h (fun x h'=>Ext h h'/\x= .bool r):=by
 unfold AEu at hp;refine cwf (l:=[]) Tryz.func10 rfl rfl (ABh (ACq (AQ2 (κ:= .i64) [1,0] ABt AHa rfl rfl trivial tt2 rfl rfl rfl rfl fun b1 v2 h3 I4 E5 Bf Bg=>AQ2 (κ:= .i64) [0,1] ABt AHa rfl rfl trivial tt2 rfl rfl rfl rfl fun Bh Bi Dv Bj Bl Bm Bn=>?_)));have Ac:=((Kst.k0 h).no E5 (AGm Bf Bg) I4).no Bl (AGm Bm Bn) Bj;have Au:=(((Ac.a0).grab p1).grab p0);refine AS5 (c:=(cI .i64)) (el:=2) [[b1],[Bh]] [v2,Bi] [([1,0]:List Int),([0,1]:List Int)] AB1 ALx rfl rfl trivial tt2 rfl rfl rfl rfl (ANm (Ac.o p1).isOne (ANm (Ac.o p0).isOne AWu)) ⟨(Ac.o p1),(Ac.o p0),trivial⟩ (by simpa using Au.ndT) fun Dw Dx Dy Bo Bp Bq=>ACq (Wj ?_);have Ao:=Au.lit Bp Bo (by simpa using Bq);obtain ⟨⟨Dz,Br⟩,Bt,Av⟩:=ABk hp;dsimp only at Av;refine AC2 rfl (AWc (Ao.o2 p0).rd (HO.ext Ao.x) Bt) fun D0 D1 Bu Bv=>?_;obtain ⟨D2,D3,D4,D5,rfl,Bw,Bx⟩:=Bv;refine Wj (ADa rfl rfl (ADa rfl rfl (ACd (ACq (Wj (AQ2 (κ:= .i64) [1,2] ABt AHa rfl rfl trivial tt2 rfl rfl rfl rfl fun D6 D7 D8 By Bz B1 B2=>?_))))));have Ae:=(Ao.no2 Bu Bx Bw).no Bz (AGm B1 B2) By;obtain ⟨⟨B3,B4⟩,B5,Aw⟩:=ABk Av;dsimp only at Aw;refine AC2 rfl (ASi (Ae.o2 p2).rd (Ae.o p0).rd (HO.ext Ae.x) B5) fun D9 Ea B6 B7=>?_;obtain ⟨Eb,Ec,rfl,B8,B9⟩:=B7;refine Wj (ADa rfl rfl (ADa rfl rfl (ACd (ACq (AQ2 (κ:= .i64) [1,0,0] ABt AHa rfl rfl trivial tt2 rfl rfl rfl rfl fun Ca Cb Ed Cd Ce Cf Cg=>AQ2 (κ:= .i64) [0,1,0] ABt AHa rfl rfl trivial tt2 rfl rfl rfl rfl fun Ch Ci Ee Cj Ck Cm Cn=>AQ2 (κ:= .i64) [0,0,1] ABt AHa rfl rfl trivial tt2 rfl rfl rfl rfl fun Co Cp Ef Cq Cr Ct Cu=>?_)))));have Ab:=(((Ae.no B6 B9 B8).no Ce (AGm Cf Cg) Cd).no Ck (AGm Cm Cn) Cj).no Cr (AGm Ct Cu) Cq;have Ax:=((((Ab.a0).grab p2).grab p1).grab p0);refine AS5 (c:=(cI .i64)) (el:=2) [[Ca],[Ch],[Co]] [Cb,Ci,Cp] [([1,0,0]:List Int),([0,1,0]:List Int),([0,0,1]:List Int)] AB1 ALx rfl rfl trivial tt2 rfl rfl rfl rfl (ANm (Ab.o p2).isOne (ANm (Ab.o p1).isOne (ANm (Ab.o p0).isOne AWu))) ⟨(Ab.o p2),(Ab.o p1),(Ab.o p0),trivial⟩ (by simpa using Ax.ndT) fun Eg Eh Ei Cv Cw Cx=>?_;have Ap:=Ax.lit Cw Cv (by simpa using Cx);obtain ⟨⟨Ej,Cy⟩,Cz,Aq⟩:=ABk Aw;dsimp only at Aq;refine AC2 rfl (AUz (Ap.o2 p0).rd (HO.ext Ap.x) Cz) fun Ek El C0 C1=>?_;subst C1;refine Wj (ADa rfl rfl (ADa rfl rfl (ACd (ACq (Wj (ADo rfl rfl (Wj ?_)))))));have Af:=Ap.e C0;by_cases Ag:Br=0
 ·have Ay:=ifT Aq Ag;rw [decide_eq_true Ag];refine ACl 32 true (Wj (ACl 32 true (ADo rfl rfl (AB0 rfl (Wj ?_)))));by_cases Ah:B4=0
  ·have Az:=ifT Ay Ah;rw [decide_eq_true Ah];refine ACl 36 true (Wj (ACl 36 true (ADo rfl rfl (AB0 rfl (Wj ?_)))));by_cases Ai:Cy=0
   ·rw [decide_eq_true Ai];refine ACl 40 true (Wj (ACl 40 true (AQ2 (κ:= .i64) [1,2] ABt AHa rfl rfl trivial tt2 rfl rfl rfl rfl fun C2 C3 Em C4 C5 C6 C7=>ACl 40 true (AQ2 (κ:= .i64) [1,3] ABt AHa rfl rfl trivial tt2 rfl rfl rfl rfl fun C8 C9 En Da Db Dc Dd=>ACl 40 true ?_))));have Ad:=(Af.no C5 (AGm C6 C7) C4).no Db (AGm Dc Dd) Da;have A3:=(((Ad.a0).grab p1).grab p0);refine AS5 (c:=(cI .i64)) (el:=2) [[C2],[C8]] [C3,C9] [([1,2]:List Int),([1,3]:List Int)] AB1 ALx rfl rfl trivial tt2 rfl rfl rfl rfl (ANm (Ad.o p1).isOne (ANm (Ad.o p0).isOne AWu)) ⟨(Ad.o p1),(Ad.o p0),trivial⟩ (by simpa using A3.ndT) fun Eo Ep Er De Df Dg=>ACl 40 true ?_;have Ar:=A3.lit Df De (by simpa using Dg);obtain ⟨Dh,Di,A4⟩:=ABk (ifT Az Ai);refine AC2 rfl (AQe (Ar.o2 p9).rd (Ar.o2 p0).rd Di) fun Es Et Dj Dk=>?_;subst Dk;refine AB0 rfl (Wj ?_);have Aa:=Ar.e Dj;cases A5:Dh
    ·refine ALo 47 false (ABx rfl (Wj (AN6 52 false (ABx rfl (Wj (AN6 58 false (ABx rfl (Wj (AGg 64 false (ABx rfl (ABp (ABr ?_))))))))))));obtain rfl:=ABi (ALj A4 A5);exact ⟨_,ABs,Aa.x,rfl⟩
    ·refine ACl 47 true (Wj (ACl 47 true (ADs ABt rfl (Aa.o p7).rd (ACl 47 true (ADo rfl rfl (AB0 rfl (Wj ?_)))))));have A6:=ifT A4 A5;by_cases Aj:(B3.length:Int)=2
     ·rw [decide_eq_true Aj];refine ACl 52 true (Wj (ACl 52 true ?_));obtain ⟨Dl,A7,A8⟩:=ABk (ifT A6 Aj);refine AKp ABt rfl (Aa.o p7) rfl A7 fun Eu Dn=>ACl 52 true ?_;obtain ⟨Ev,Do,Dp⟩:=(Aa.o p7).cells Dn A7;obtain rfl:=Do;refine AB3 ACm rfl (Dp 0 _ rfl) (ACl 52 true (ADo rfl rfl (AB0 rfl (Wj ?_))));by_cases Ak:Dl=11
      ·rw [decide_eq_true Ak];refine ACl 58 true (Wj (ACl 58 true ?_));obtain ⟨Dq,A9,Ba⟩:=ABk (ifT A8 Ak);refine AKp ABt rfl (Aa.o p7) rfl A9 fun Ew Dr=>ACl 58 true ?_;obtain ⟨Ey,Ds,Dt⟩:=(Aa.o p7).cells Dr A9;obtain rfl:=Ds;refine AB3 ACm rfl (Dt 0 _ rfl) (ACl 58 true (ADo rfl rfl (AB0 rfl (Wj ?_))));by_cases Am:Dq=2
       ·rw [decide_eq_true Am];refine ACl 64 true (Wj (ACl 64 true (ADo rfl rfl (AB0 rfl (ABp (ABr ?_))))));obtain rfl:=ABi (ifT Ba Am);exact ⟨_,ABs,Aa.x,rfl⟩
       ·rw [decide_eq_false Am];refine AGg 64 false (ABx rfl (ABp (ABr ?_)));obtain rfl:=ABi (ifF Ba Am);exact ⟨_,ABs,Aa.x,rfl⟩
      ·rw [decide_eq_false Ak];refine AN6 58 false (ABx rfl (Wj (AGg 64 false (ABx rfl (ABp (ABr ?_))))));obtain rfl:=ABi (ifF A8 Ak);exact ⟨_,ABs,Aa.x,rfl⟩
     ·rw [decide_eq_false Aj];refine AN6 52 false (ABx rfl (Wj (AN6 58 false (ABx rfl (Wj (AGg 64 false (ABx rfl (ABp (ABr ?_)))))))));obtain rfl:=ABi (ifF A6 Aj);exact ⟨_,ABs,Aa.x,rfl⟩
   ·rw [decide_eq_false Ai];refine AJa 40 false (ABx rfl (Wj (ALo 47 false (ABx rfl (Wj (AN6 52 false (ABx rfl (Wj (AN6 58 false (ABx rfl (Wj (AGg 64 false (ABx rfl (ABp (ABr ?_)))))))))))))));obtain rfl:=ABi (ifF Az Ai);exact ⟨_,ABs,Af.x,rfl⟩
  ·rw [decide_eq_false Ah];refine AGg 36 false (ABx rfl (Wj (AJa 40 false (ABx rfl (Wj (ALo 47 false (ABx rfl (Wj (AN6 52 false (ABx rfl (Wj (AN6 58 false (ABx rfl (Wj (AGg 64 false (ABx rfl (ABp (ABr ?_))))))))))))))))));obtain rfl:=ABi (ifF Ay Ah);exact ⟨_,ABs,Af.x,rfl⟩
 ·rw [decide_eq_false Ag];refine AGg 32 false (ABx rfl (Wj (AGg 36 false (ABx rfl (Wj (AJa 40 false (ABx rfl (Wj (ALo 47 false (ABx rfl (Wj (AN6 52 false (ABx rfl (Wj (AN6 58 false (ABx rfl (Wj (AGg 64 false (ABx rfl (ABp (ABr ?_)))))))))))))))))))));obtain rfl:=ABi (ifF Aq Ag);exact ⟨_,ABs,Af.x,rfl⟩
end Go.Proofs.YtiegjkmfpcgjjaaGreatDoor
namespace Go.Proofs.YtiegjkmfpcgjjaaGreatDoor
open Go Go.QF
set_option maxRecDepth 100000
theorem Ahq {fuel:Nat} {x p r:Int} (hp:2<=p/\p<=2147483647) (h:AJ5 p (x % p) r):AUy fuel [[x]] p=some ([[r]],0):=by
 have hs:AHy [[x]]=true:=decide_eq_true (by simp [AU8,Valid,ALy]);have hm:AO3 p=true:=decide_eq_true hp
 have hd:AYw [[x]] p=x % p:=by
   unfold AYw
   rw [hs,hm]
   simp only [Bool.and_self,if_true]
   have:det [[x]].length (ent [[x]])=x:=by
     show det 1 (ent [[x]])=x
     simp [det,ent,psum,sg]
   rw [this]
 unfold AUy AYh Afz;rw [hs,hm,hd,if_pos ⟨rfl,rfl,r,h⟩,if_pos rfl,if_pos rfl,if_pos ⟨r,h⟩,Af3 h]
 have:AJz [[x]].length (ent (ALh [[x]] p)) 0 0=1:=by
   show AJz 1 _ 0 0=1
   simp [AJz,AUq,det,psum,sg,ADd,dl]
 have h3:tab [[x]].length [[x]].length (fun i j=>AJz [[x]].length (ent (ALh [[x]] p)) i j * r % p)=[[r]]:=by
   show tab 1 1 (fun i j=>AJz 1 (ent (ALh [[x]] p)) i j * r % p)=[[r]]
   have h4:AJz 1 (ent (ALh [[x]] p)) 0 0 * r % p=r:=by
     rw [show AJz 1 (ent (ALh [[x]] p)) 0 0=1 from this,Int.one_mul]
     exact Int.emod_eq_of_lt h.1 h.2.1
   simp [tab,h4]
 rw [h3]
theorem Att:Pr 3:=⟨by omega,fun d h1 h2=>by
  obtain rfl:d=2:=by omega
  decide⟩
theorem Atu:Pr 5:=⟨by omega,fun d h1 h2=>by
  rcases (by omega:d=2∨d=3∨d=4) with rfl | rfl | rfl <;> decide⟩
theorem Amy (lim:Bool):ASj [[1,0],[0,1]] 5 lim=0:=by
 have hr:isRed [[1,0],[0,1]]=true:=by
   unfold isRed
   rw [<- AGa (M:=[[1,0],[0,1]]) ⟨by decide,by decide,fun i j hi hj=>by
     have hi:i < 2:=hi
     have hj:j < 2:=hj
     rcases (by omega:i=0∨i=1) with rfl | rfl <;> rcases (by omega:j=0∨j=1) with rfl | rfl <;> decide⟩]
   decide +kernel
 have ho:AOg 5=true:=(ATw ⟨by omega,by omega,Atu⟩).symm;unfold ASj;rw [if_pos hr,if_pos ⟨ho,by decide +kernel⟩,if_neg (fun h=>absurd h.2 (by decide))]
theorem Ar3 (lim:Bool):ASj [[1,0,0],[0,1,0],[0,0,1]] 3 lim=0:=by
 have hr:isRed [[1,0,0],[0,1,0],[0,0,1]]=true:=by
   unfold isRed
   rw [<- AGa (M:=[[1,0,0],[0,1,0],[0,0,1]]) ⟨by decide,by decide,fun i j hi hj=>by
     have hi:i < 3:=hi
     have hj:j < 3:=hj
     rcases (by omega:i=0∨i=1∨i=2) with rfl | rfl | rfl <;> rcases (by omega:j=0∨j=1∨j=2) with rfl | rfl | rfl <;> decide⟩]
   decide +kernel
 have ho:AOg 3=true:=(ATw ⟨by omega,by omega,Att⟩).symm;unfold ASj;rw [if_pos hr,if_pos ⟨ho,by decide +kernel⟩,if_neg (fun h=>absurd h.2 (by decide))]
theorem Amz {S E:Type} {body:S->Option (S ⊕ E)} {fuel:Nat} {s:S} {e:E} (h:body s=some (.inr e)):iter body (fuel + 1) s=some e:=by simp [iter,h]
theorem Atv:AMr (AEt + 1) [[1,0],[0,1]] 5=some ([[1,2],[1,3]],0):=by
 have hf:2147483648 < AEt + 1:=Nat.lt_of_le_of_lt (by decide) (Nat.lt_succ_self AEt);unfold AMr;rw [Ahp hf,Amy];simp only [Option.bind_some];rw [if_neg (by decide)];decide +kernel
theorem Atw:AK3 (AEt + 1) [[1,0,0],[0,1,0],[0,0,1]] 3=some (4,0):=by
 have hf:2147483648 < AEt + 1:=Nat.lt_of_le_of_lt (by decide) (Nat.lt_succ_self AEt);unfold AK3;rw [Ahp hf,Ar3];simp only [Option.bind_some];rw [if_neg (by decide)];decide +kernel
theorem Atx:AJo (AEt + 1) [[1,0],[0,1]] 5 [1,2]=some ([11,2],0):=by
 have hf:2147483648 < AEt + 1:=Nat.lt_of_le_of_lt (by decide) (Nat.lt_succ_self AEt);unfold AJo;have h1:AKf (AEt + 1) [[1,0],[0,1]] 5 [1,2]=some true:=by decide +kernel
 have h2:AE6 (AEt + 1) [[1,0],[0,1]] (w64 (5 * 5))=some ([[1,0],[0,1]],0):=by decide +kernel
 have h3:AJl (AEt + 1) [1,2]=some [1,2]:=by decide +kernel
 rw [AYj hf,Amy];simp only [Option.bind_some];rw [if_neg (by decide),h1];simp only [Option.bind_some];rw [if_neg (by decide),h2];simp only [Option.bind_some];rw [h3];simp only [Option.bind_some]
 have hb:AK4 (AEt + 1) 5 [1,2] [[1,0],[0,1]] 0 [1,2]=some (.inr [11,2]):=by
   unfold AK4
   have g1:gI [[1,0],[0,1]] (0:Int)=some ([1,0]:List Int):=rfl
   have g2:AH7 (AEt + 1) [1,0] [1,2] 5=some 1:=by decide +kernel
   have g3:AUy (AEt + 1) [[w64 (2 * 1)]] 5=some ([[3]],0):=Ahq (by omega) ⟨by omega,by omega,by decide⟩
   rw [if_pos (by decide),g1]
   simp only [Option.bind_some]
   rw [g2]
   simp only [Option.bind_some]
   rw [if_neg (by decide),g3]
   simp only [Option.bind_some]
   decide +kernel
 rw [Amz hb];rfl
theorem Abl:AEu (AEt + 1)=some true:=by
 unfold AEu;rw [Atv];simp only [Option.bind_some];rw [Atx];simp only [Option.bind_some];rw [Atw];simp only [Option.bind_some];decide +kernel
def nqI (n:Nat) (A:Nat->Nat->Int) (v:Nat->Int) (i:Nat):Int:=psum (fun j=>A i j * v j) n
def nq (n:Nat) (A:Nat->Nat->Int) (v:Nat->Int) (m:Int):Int:=psum (fun i=>nqI n A v i * v i) n % m
theorem AWw {g:Nat->Int} {B:Int}:∀ {n:Nat},(∀ i,i < n->0<=g i/\g i<=B)->0<=psum g n/\psum g n<=n * B:=by
 intro n
 induction n with
 | zero=>intro _;simp [psum]
 | succ n ih=>
   intro h
   have h1:=ih fun i hi=>h i (by omega)
   have h2:=h n (by omega)
   show 0<=psum g n + g n/\psum g n + g n<=((n + 1:Nat):Int) * B
   rw [Int.natCast_add,Int.add_mul]
   omega
theorem Ahr {fuel n:Nat} {f v:Nat->Int} {m:Int} (hn:n<=8) (hm:2<=m) (Ac:m<=100000000) (hF:∀ i,i < n->0<=f i/\f i < 100000000) (hv:∀ i,i < n->0<=v i/\v i < 10000) (hf:100 < fuel):AH7 fuel (ADu n f) (ADu n v) m=some (psum (fun i=>f i * v i) n % m):=by
 have hb:∀ i,i < n->0<=f i * v i/\f i * v i<=1000000000000:=fun i hi=>⟨Int.mul_nonneg (hF i hi).1 (hv i hi).1,by
   have:=Int.mul_le_mul (show f i<=100000000 by have:=hF i hi;omega) (show v i<=10000 by have:=hv i hi;omega) (hv i hi).1 (by omega)
   omega⟩
 apply ok_eq;unfold AH7;refine ABm (Q:=fun e=>e=psum (fun i=>f i * v i) n) (ACy (fun i s=>s=(psum (fun i=>f i * v i) i,(i:Int))/\i<=n) n ⟨rfl,Nat.zero_le _⟩ (by omega) fun i s hi hI=>?_) fun e he=>?_
 ·obtain ⟨rfl,h1⟩:=hI;unfold AN1;rw [AC8];refine ACk (fun h=>?_) fun h=>ABj ?_
  ·have Aa:i < n:=by omega
   have h3:=hb i Aa;have h4:=AWw (n:=i) fun a ha=>hb a (by omega);refine AB4 (ACj Aa) rfl (AB4 (ACj Aa) rfl (ABj ⟨by omega,?_,by omega⟩));rw [AD6 (x:=f i * v i) (by omega) (by omega),AD6 (x:=psum (fun i=>f i * v i) i + f i * v i) (by omega) (by omega),AG3 (by omega)];rfl
  ·obtain rfl:i=n:=by omega
   rfl
 ·subst he;have h4:=AWw (n:=n) hb;exact AEo (by omega) (ABj (Int.tmod_eq_emod_of_nonneg h4.1))
theorem Ahs {fuel n:Nat} {A:Nat->Nat->Int} {v:Nat->Int} {m:Int} (hn:n<=8) (hm:2<=m) (Ad:m<=100000000) (hv:∀ i,i < n->0<=v i/\v i < 10000) (hf:100 < fuel):AI1 fuel (tab n n fun i j=>A i j % m) (ADu n v) m=some (nq n A v m):=by
 have hin:∀ i,i < n->AH7 fuel (ADu n fun j=>A i j % m) (ADu n v) m=some (nqI n A v i % m):=fun i hi=>by
   rw [Ahr hn hm Ad (fun j _=>⟨Int.emod_nonneg _ (by omega),by have:=Int.emod_lt_of_pos (A i j) (show 0 < m by omega);omega⟩) hv hf]
   exact congrArg some (Eqm.psum fun j _=>(Eqm.mod m (A i j)).mul (Eqm.refl m (v j)))
 have hb:∀ i,i < n->0<=nqI n A v i % m * v i/\nqI n A v i % m * v i<=1000000000000:=fun i hi=>by
   have h1:=Int.emod_nonneg (nqI n A v i) (show m≠0 by omega)
   have h2:=Int.emod_lt_of_pos (nqI n A v i) (show 0 < m by omega)
   refine ⟨Int.mul_nonneg h1 (hv i hi).1,?_⟩
   have:=Int.mul_le_mul (show nqI n A v i % m<=100000000 by omega) (show v i<=10000 by have:=hv i hi;omega) (hv i hi).1 (by omega)
   omega
 apply ok_eq;unfold AI1;refine ABm (Q:=fun e=>e=psum (fun i=>nqI n A v i % m * v i) n) (ACy (fun i s=>s=(psum (fun i=>nqI n A v i % m * v i) i,(i:Int))/\i<=n) n ⟨rfl,Nat.zero_le _⟩ (by omega) fun i s hi hI=>?_) fun e he=>?_
 ·obtain ⟨rfl,h1⟩:=hI;unfold AO0;rw [AC8];refine ACk (fun h=>?_) fun h=>ABj ?_
  ·have Aa:i < n:=by omega
   have h3:=hb i Aa;have h4:=AWw (n:=i) fun a ha=>hb a (by omega);refine AB4 (ACj Aa) rfl (AB4 (ADb Aa) rfl ?_);rw [hin i Aa];simp only [Option.bind_some];refine ABj ⟨by omega,?_,by omega⟩;rw [AD6 (x:=nqI n A v i % m * v i) (by omega) (by omega),AD6 (x:=psum (fun i=>nqI n A v i % m * v i) i + nqI n A v i % m * v i) (by omega) (by omega),AG3 (by omega)];rfl
  ·obtain rfl:i=n:=by omega
   rfl
 ·subst he;have h4:=AWw (n:=n) hb;refine AEo (by omega) (ABj ?_);rw [Int.tmod_eq_emod_of_nonneg h4.1];exact Eqm.psum fun i _=>(Eqm.mod m _).mul (Eqm.refl m (v i))
theorem Ad5 {m S a b:Int} (hm:0 < m) (Ad:m<=100000000):Int.tmod (w64 (S % m + Int.tmod (w64 (a % m * (b % m))) m)) m=(S + a * b) % m:=by
 have h1:=Int.emod_nonneg a (show m≠0 by omega);have h2:=Int.emod_lt_of_pos a hm;have h3:=Int.emod_nonneg b (show m≠0 by omega);have h4:=Int.emod_lt_of_pos b hm;have h5:=Int.emod_nonneg S (show m≠0 by omega);have h6:=Int.emod_lt_of_pos S hm;have h7:=Int.mul_nonneg h1 h3;have h8:=Int.mul_le_mul (show a % m<=100000000 by omega) (show b % m<=100000000 by omega) h3 (by omega);rw [AD6 (x:=a % m * (b % m)) (by omega) (by omega),Int.tmod_eq_emod_of_nonneg h7];have h9:=Int.emod_nonneg (a % m * (b % m)) (show m≠0 by omega);have Ak:=Int.emod_lt_of_pos (a % m * (b % m)) hm;rw [wk (by omega),Int.tmod_eq_emod_of_nonneg (by omega)];exact (Eqm.mod m S).add ((Eqm.mod m _).trans ((Eqm.mod m a).mul (Eqm.mod m b)))
theorem Apq {fuel n:Nat} {A:Nat->Nat->Int} {v:Nat->Int} {m:Int} (hn:n<=8) (hm:0 < m) (Ab:m<=100000000) (hf:100 < fuel):AGk fuel (tab n n A) (ADu n v) m=some (ADu n fun i=>nqI n A v i % m):=by
 unfold AGk;rw [Apo (n:=n) (fun i=>nqI n A v i % m) (by omega) (fun i hi=>?_) fun X=>?_]
 ·rfl
 ·unfold AGz;rw [AC9,if_pos (by omega),AQh (ADb hi)]
  have:iter (fun s:Int × Int=>AGy fuel (ADu n v) m (ADu n (A i)) s.1 s.2) fuel (0,0)=some (nqI n A v i % m):=by
    apply ok_eq
    refine ACy (fun j s=>s=(psum (fun j=>A i j * v j) j % m,(j:Int))/\j<=n) n ⟨by simp [psum],Nat.zero_le _⟩ (by omega) fun j s hj hI=>?_
    obtain ⟨rfl,h1⟩:=hI
    unfold AGy
    rw [AC8]
    refine ACk (fun h=>?_) fun h=>ABj ?_
    · have Aa:j < n:=by omega
      refine AB4 (ACj Aa) rfl ?_
      rw [AX6 hm (by omega)]
      simp only [Option.bind_some]
      refine AB4 (ACj Aa) rfl ?_
      rw [AX6 hm (by omega)]
      simp only [Option.bind_some]
      rw [if_pos (by omega),if_pos (by omega)]
      refine ABj ⟨by omega,?_,by omega⟩
      rw [Ad5 hm Ab,AG3 (by omega)]
      rfl
    · obtain rfl:j=n:=by omega
      rfl
  rw [this];simp only [Option.bind_some];rw [AC8,if_pos (by omega),AG3 (by omega)]
 ·unfold AGz;rw [AC9,if_neg (by omega)]
theorem Apr {fuel n:Nat} {A:Nat->Nat->Int} {v:Nat->Int} {m:Int} (hn:n<=8) (hm:0 < m) (Aa:m<=100000000) (hf:100 < fuel):AFx fuel (tab n n A) (ADu n v) m=some (nq n A v m):=by
 apply ok_eq;unfold AFx;rw [Apq hn hm Aa hf];simp only [Option.bind_some];refine ABm (Q:=fun e=>e=nq n A v m) (ACy (fun j s=>s=(psum (fun i=>nqI n A v i * v i) j % m,(j:Int))/\j<=n) n ⟨by simp [psum],Nat.zero_le _⟩ (by omega) fun j s hj hI=>?_) fun e he=>ABj he;obtain ⟨rfl,h1⟩:=hI;unfold AJm;rw [AC8];refine ACk (fun h=>?_) fun h=>ABj ?_
 ·have Ab:j < n:=by omega
  refine AB4 (ACj Ab) rfl (AB4 (ACj Ab) rfl ?_);rw [AX6 hm (by omega)];simp only [Option.bind_some];rw [if_pos (by omega),if_pos (by omega)];refine ABj ⟨by omega,?_,by omega⟩;rw [Ad5 hm Aa,AG3 (by omega)];rfl
 ·obtain rfl:j=n:=by omega
  rfl
def InR (p:Int) (V:List Int):Prop:= ∀ x∈V,0<=x/\x < p
def AO2:List Int->Int
  | []=>0
  | x :: L=>if x=0 then AO2 L else x
theorem AVv (x:Int):∀ L:List Int,AO2 (L ++ [x])=if AO2 L=0 then x else AO2 L
  | []=>by by_cases h:x=0 <;> simp [AO2,h]
  | y :: L=>by
    have ih:=AVv x L
    show (if y=0 then AO2 (L ++ [x]) else y)=if (if y=0 then AO2 L else y)=0 then x else (if y=0 then AO2 L else y)
    by_cases h:y=0
    · simp only [if_pos h,ih]
    · simp only [if_neg h]
theorem Ad6 {body:Int × Int->Option ((Int × Int) ⊕ (Bool ⊕ Int))} {fuel:Nat} {V:List Int} {p:Int} (hl:V.length<=90) (hf:100 < fuel) (hb:∀ a b,body (a,b)=if b < (V.length:Int) then ((gI V b).bind fun x=>(((if x < 0 then some (.inl false) else (if p<=x then some (.inl false) else some (.inr ()))):Option (Bool ⊕ Unit)).bind fun ex=>match ex with | .inl e=>some (.inr (.inl e)) | .inr _=>(if a=0 then some (.inl (x,w64 (b + 1))) else some (.inl (a,w64 (b + 1)))))) else some (.inr (.inr a))):
    Ok (iter body fuel (0,0)) fun ex=>(ex= .inl false/\¬ InR p V)∨(ex= .inr (AO2 V)/\InR p V):=by
 refine ACy (fun i s=>s=(AO2 (V.take i),(i:Int))/\i<=V.length/\InR p (V.take i)) V.length ⟨rfl,Nat.zero_le _,fun x hx=>by simp at hx⟩ (by omega) fun i s hi hI=>?_;obtain ⟨rfl,h1,h2⟩:=hI;rw [hb];refine ACk (fun h=>?_) fun h=>ABj ?_
 ·have Ac:i < V.length:=by omega
  have hx:V[i]? =some V[i]:=List.getElem?_eq_getElem Ac;have ht:V.take (i + 1)=V.take i ++ [V[i]]:=(List.take_append_getElem Ac).symm;refine AB4 hx rfl ?_;generalize V[i]=x at hx ht;have hw:w64 ((i:Int) + 1)=((i + 1:Nat):Int):=AG3 (by omega);by_cases h3:0<=x/\x < p
  ·rw [if_neg (by omega),if_neg (by omega)];simp only [Option.bind_some]
   have hr:InR p (V.take (i + 1)):=fun y hy=>by
     rw [ht,List.mem_append,List.mem_singleton] at hy
     rcases hy with hy | rfl
     · exact h2 y hy
     · exact h3
   refine ACk (fun h4=>ABj ⟨by omega,?_,by omega,hr⟩) fun h4=>ABj ⟨by omega,?_,by omega,hr⟩
   ·rw [ht,AVv,if_pos h4,hw]
   ·rw [ht,AVv,if_neg h4,hw]
  ·have hno: ¬ InR p V:=fun hh=>h3 (hh x (List.mem_of_getElem? hx));by_cases h4:x < 0
   ·rw [if_pos h4];exact ABj (.inl ⟨rfl,hno⟩)
   ·rw [if_neg h4,if_pos (by omega)];exact ABj (.inl ⟨rfl,hno⟩)
 ·obtain rfl:i=V.length:=by omega
  rw [List.take_length] at h2 ⊢;exact .inr ⟨rfl,h2⟩
def vF (V:List Int) (i:Nat):Int:=V[i]?.getD 0
theorem Abm (V:List Int):ADu V.length (vF V)=V:=by
 refine List.ext_getElem (by rw [AC8]) fun i h1 h2=>?_;have:=ACj (f:=vF V) h2;rw [List.getElem?_eq_getElem h1] at this;injection this with this;rw [this];simp [vF,h2]
theorem Aht {p:Int} {V:List Int} (h:InR p V) {i:Nat} (hi:i < V.length):0<=vF V i/\vF V i < p:=h _ (by simp [vF,hi])
def Ad7 (M:List (List Int)) (p:Int) (V:List Int):Prop:=V.length=M.length/\InR p V/\AO2 V=1/\nq M.length (ent M) (vF V) p=0
open Classical in
noncomputable def AQn (M:List (List Int)) (p:Int) (V:List Int):Bool:=decide (Ad7 M p V)
theorem Af0 {M:List (List Int)} {p:Int} {V:List Int} (h:Ad7 M p V):true=AQn M p V:=by simp [AQn,h]
theorem ASk {M:List (List Int)} {p:Int} {V:List Int} (h: ¬ Ad7 M p V):false=AQn M p V:=by simp [AQn,h]
theorem Ahu {M:List (List Int)} {p:Int} {V:List Int} (h:AQn M p V=true):Ad7 M p V:=by simpa [AQn] using h
theorem Am0 {fuel:Nat} {M:List (List Int)} {m:Int} (R:AT0 M) (hm:2<=m) (Aa:m<=2147483647) (hf:100 < fuel):AE6 fuel M m=some (tab M.length M.length fun i j=>ent M i j % m,0):=by
 have hM:=ASg R;unfold AE6 AEk;have h1:AHh fuel M=some true:=by rw [hM];exact Ad2 R.1.1 R.1.2 hf
 have h2:AFt fuel M m=some (tab M.length M.length fun i j=>ent M i j % m):=by
   conv=>lhs;rw [hM]
   exact Ams R.1.2 hm Aa hf
 rw [h1];simp only [Option.bind_some];rw [if_neg (by decide),if_neg (by omega),if_neg (by omega)];simp only [Option.bind_some];rw [if_neg (by decide),h2];rfl
theorem Am1 {fuel:Nat} {M:List (List Int)} {p:Int} {V:List Int} (R:AT0 M) (hp:3<=p) (Ad:p<=9973) (hf:100 < fuel):AKf fuel M p V=some (AQn M p V):=by
 apply ok_eq;unfold AKf;have h8:=R.1.2;refine ACk (fun h=>ABj (ASk fun hh=>h (by rw [hh.1]))) fun h=>?_;have hl:V.length=M.length:=by omega
 refine ABm (Ad6 (V:=V) (p:=p) (by omega) hf fun a b=>rfl) fun ex hex=>?_;rcases hex with ⟨rfl,hn⟩ | ⟨rfl,hr⟩
 ·exact ABj (ASk fun hh=>hn hh.2.1)
 ·dsimp only;rw [Am0 R (by omega) (by omega) hf];simp only [Option.bind_some];refine ACk (fun h1=>?_) fun h1=>ABj (ASk fun hh=>h1 hh.2.2.1);have hV:V=ADu M.length (vF V):=by rw [<- hl];exact (Abm V).symm
  have hn:AI1 fuel (tab M.length M.length fun i j=>ent M i j % p) V p=some (nq M.length (ent M) (vF V) p):=by
    conv=>lhs;rw [hV]
    exact Ahs h8 (by omega) (by omega) (fun i hi=>by have:=Aht hr (i:=i) (by omega);omega) hf
  rw [hn];simp only [Option.bind_some];refine ABj ?_;by_cases h0:nq M.length (ent M) (vF V) p=0
  ·rw [decide_eq_true h0];exact Af0 ⟨hl,hr,h1,h0⟩
  ·rw [decide_eq_false h0];exact ASk fun hh=>h0 hh.2.2.2
theorem Abn {fuel:Nat} {M:List (List Int)} {p:Int} {V:List Int} (R:AT0 M) (hp:3<=p) (Ad:p<=9973) (hf:100 < fuel):AE7 fuel M p V=some (AQn M p V):=by
 apply ok_eq;unfold AE7;have h8:=R.1.2;refine ACk (fun h=>ABj (ASk fun hh=>h (by rw [hh.1]))) fun h=>?_;have hl:V.length=M.length:=by omega
 refine ABm (Ad6 (V:=V) (p:=p) (by omega) hf fun a b=>rfl) fun ex hex=>?_;rcases hex with ⟨rfl,hn⟩ | ⟨rfl,hr⟩
 ·exact ABj (ASk fun hh=>hn hh.2.1)
 ·dsimp only;refine ACk (fun h1=>?_) fun h1=>ABj (ASk fun hh=>h1 hh.2.2.1);have hV:V=ADu M.length (vF V):=by rw [<- hl];exact (Abm V).symm
  have hn:AFx fuel M V p=some (nq M.length (ent M) (vF V) p):=by
    conv=>lhs;rw [hV,ASg R]
    rw [AC9]
    exact Apr h8 (by omega) (by omega) hf
  rw [hn];simp only [Option.bind_some];refine ABj ?_;by_cases h0:nq M.length (ent M) (vF V) p=0
  ·rw [decide_eq_true h0];exact Af0 ⟨hl,hr,h1,h0⟩
  ·rw [decide_eq_false h0];exact ASk fun hh=>h0 hh.2.2.2
open Classical in
theorem Am2 {fuel:Nat} {M:List (List Int)} {p:Int} (R:AT0 M) (hf:100 < fuel):Ok (AG4 fuel M p) fun b=>b=true↔AOg p=true/\det M.length (ent M) % p≠0:=by
  unfold AG4 Aa7;simp only [Option.bind_some];refine ACk (fun h=>?_) fun h=>ABj ⟨fun hh=>(by cases hh),fun hh=>absurd hh.1 h⟩;have hb:=AWv h;have hd:=AYf R;rw [Ai7 R hf];simp only [Option.bind_some];refine AEo (by omega) (ABj ?_);rw [decide_eq_true_iff,Int.tmod_eq_emod_of_nonneg (by omega)];exact ⟨fun hh=>⟨h,hh⟩,fun hh=>hh.2⟩
theorem Am3 {fuel n:Nat} {p:Int} (hp:2<=p) (Aa:p<=9973) (hn:n<=16) (hf:100 < fuel):AF8 fuel (n:Int) p=some (decide (p ^ n<=65536)):=by
 apply ok_eq;unfold AF8;refine ABm (Ad4 (n:=n) (x:=false) hp Aa hn hf fun a b=>rfl) fun ex hex=>?_;rcases hex with ⟨rfl,h⟩ | ⟨rfl,h⟩
 ·exact ABj (decide_eq_false (by omega)).symm
 ·exact ABj (decide_eq_true h).symm
end Go.Proofs.YtiegjkmfpcgjjaaGreatDoor
namespace Go.Proofs.YtiegjkmfpcgjjaaGreatDoor
open Go Go.QF
def Qf (n:Nat) (A:Nat->Nat->Int) (v:Nat->Int):Int:=psum (fun i=>nqI n A v i * v i) n
def ATa (v:Nat->Int) (i:Nat) (x:Int):Nat->Int:=fun j=>if j=i then v j + x else v j
theorem Ahv {n i a:Nat} {A:Nat->Nat->Int} {v:Nat->Int} {x:Int} (hi:i < n):nqI n A (ATa v i x) a=nqI n A v a + A a i * x:=by
 unfold nqI;rw [ASc (f:=fun j=>A a j * v j) (a:=i) hi (fun j hj=>by simp only [ATa,if_neg hj])];simp only [ATa,if_true];rw [Int.mul_add];omega
theorem Ar4 {n i:Nat} {A:Nat->Nat->Int} {v:Nat->Int} {x:Int} (hA:∀ a b,a < n->b < n->A a b=A b a) (hi:i < n):Qf n A (ATa v i x)=Qf n A v + 2 * x * nqI n A v i + x * x * A i i:=by
 unfold Qf
 have h1:psum (fun a=>nqI n A (ATa v i x) a * ATa v i x a) n=psum (fun a=>(nqI n A v a + A a i * x) * v a) n + ((nqI n A v i + A i i * x) * (v i + x) - (nqI n A v i + A i i * x) * v i):=by
   rw [ASc (f:=fun a=>(nqI n A v a + A a i * x) * v a) (a:=i) hi (fun a ha=>by simp only [Ahv hi,ATa,if_neg ha])]
   simp only [Ahv hi,ATa,if_true]
 have h2:psum (fun a=>(nqI n A v a + A a i * x) * v a) n=psum (fun a=>nqI n A v a * v a) n + x * nqI n A v i:=by
   rw [ABu (g:=fun a=>nqI n A v a * v a + x * (A i a * v a)) (fun a ha=>by rw [hA a i ha hi];grind),AK0,ADr]
   rfl
 rw [h1,h2];grind
theorem Ahw {n:Nat} {A:Nat->Nat->Int} {v:Nat->Int} {m:Int}:nq n A v m=Qf n A v % m:=rfl
theorem Ar5 {n:Nat} {A:Nat->Nat->Int} {p:Int} {V:List Int} (hp:Pr p) (hd:det n A % p≠0) (hl:V.length=n) (hr:InR p V) (h1:AO2 V=1):∃ i,i < n/\nqI n A (vF V) i % p≠0:=by
  refine Classical.byContradiction fun hno=>?_
  have h0:∀ i,i < n->Eqm p (nqI n A (vF V) i) 0:=fun i hi=>by
    refine Classical.byContradiction fun hh=>hno ⟨i,hi,fun h2=>hh ?_⟩;show _ % p=0 % p;rw [h2];simp
  have h2:∀ l,l < n->Eqm p (det n A * vF V l) 0:=fun l hl=>by
    have e1:psum (fun i=>AJz n A l i * nqI n A (vF V) i) n=det n A * vF V l:=by
      have:psum (fun i=>AJz n A l i * nqI n A (vF V) i) n=psum (fun j=>psum (fun i=>AJz n A l i * A i j) n * vF V j) n:=by
        unfold nqI;rw [ABu (g:=fun i=>psum (fun j=>AJz n A l i * A i j * vF V j) n) (fun i _=>by rw [<- ADr];exact ABu fun j _=>by rw [Int.mul_assoc]),AL8];refine ABu fun j _=>?_;rw [Int.mul_comm,<- ADr];exact ABu fun i _=>by rw [Int.mul_comm]
      rw [this,ABu (g:=fun j=>det n A * dl l j * vF V j) (fun j hj=>by rw [Adh hl hj]),AFn (a:=l) hl (fun j hj=>by unfold dl;rw [if_neg (fun h=>hj h.symm)];simp)];simp [dl]
    rw [<- e1];have:=Eqm.psum (m:=p) (n:=n) (f:=fun i=>AJz n A l i * nqI n A (vF V) i) (g:=fun i=>AJz n A l i * 0) fun i hi=>(Eqm.refl p _).mul (h0 i hi);refine this.trans (Eqm.of_eq ?_);rw [ABu (g:=fun _=>(0:Int)) (fun _ _=>by simp),AM2]
  have hp2:=hp.1
  have h3:∀ l,l < n->vF V l=0:=fun l hln=>by
    have hb:=Aht hr (i:=l) (by omega);refine Classical.byContradiction fun hne=>?_;have hd1:=Int.emod_nonneg (det n A) (show p≠0 by omega);have hd2:=Int.emod_lt_of_pos (det n A) (show 0 < p by omega);have:=Aj1 hp (a:=det n A % p) (x:=vF V l) (by omega) hd2 (by omega) hb.2;exact this (by have:=((Eqm.mod p (det n A)).mul (Eqm.refl p (vF V l))).trans (h2 l hln);exact Eqm.zero this)
  have h4:∀ W:List Int,(∀ x∈W,x=0)->AO2 W=0:=by
    intro W;induction W with
    | nil=>intro _;rfl
    | cons y W ih=>intro hw;show (if y=0 then AO2 W else y)=0;rw [if_pos (hw y (List.mem_cons_self ..))];exact ih fun x hx=>hw x (List.mem_cons_of_mem _ hx)
  have h5:AO2 V=0:=h4 V fun x hx=>by
    obtain ⟨i,hi⟩:=List.getElem?_of_mem hx;have hil:=(List.getElem?_eq_some_iff.1 hi).1;have:=h3 i (by omega);simpa [vF,hi] using this
  omega
theorem Aja {n i:Nat} {A:Nat->Nat->Int} {v:Nat->Int} {p k:Int} (hp:0 < p) (hA:∀ a b,a < n->b < n->A a b=A b a) (hi:i < n) (h0:nq n A v p=0):nq n A (ATa v i (p * k)) (p * p)=p * ((nq n A v (p * p) / p + 2 * k * nqI n A v i) % p):=by
  rw [Ahw,Ahw,Ar4 hA hi];rw [Ahw] at h0;obtain ⟨q,hq⟩:=Int.dvd_of_emod_eq_zero h0;have e1:Qf n A v % (p * p)=p * (q % p):=by rw [hq,Int.mul_emod_mul_of_pos _ _ hp]
  rw [e1,Int.mul_ediv_cancel_left _ (by omega),hq];have e2:p * q + 2 * (p * k) * nqI n A v i + p * k * (p * k) * A i i=p * (q + 2 * k * nqI n A v i + p * (k * k * A i i)):=by grind
  rw [e2,Int.mul_emod_mul_of_pos _ _ hp];congr 1
  have e3:Eqm p (q + 2 * k * nqI n A v i + p * (k * k * A i i)) (q % p + 2 * k * nqI n A v i):=by
    have a1:Eqm p (p * (k * k * A i i)) 0:=by show _ % p=0 % p;simp
    have a2:=((Eqm.mod p q).symm.add (Eqm.refl p (2 * k * nqI n A v i))).add a1;rwa [Int.add_zero] at a2
  exact e3
end Go.Proofs.YtiegjkmfpcgjjaaGreatDoor
namespace Go.Proofs.YtiegjkmfpcgjjaaGreatDoor
open Go Go.QF
set_option maxRecDepth 100000
def Aqi (M:List (List Int)) (p:Int) (V W:List Int):Prop:= ∃ (i:Nat) (t:Int),i < M.length/\(∀ a,a < i->nqI M.length (ent M) (vF V) a % p=0)/\nqI M.length (ent M) (vF V) i % p≠0/\(0<=t/\t < p)/\(nq M.length (ent M) (vF V) (p * p) / p + 2 * t * nqI M.length (ent M) (vF V) i) % p=0/\W=ADu M.length (ATa (vF V) i (p * t))
theorem Am4 {M:List (List Int)} {p:Int} {V:List Int} (h:Ad7 M p V):V=ADu M.length (vF V):=by rw [<- h.1];exact (Abm V).symm
theorem Am5 {n i:Nat} {A:Nat->Nat->Int} {v:Nat->Int} {p:Int}:psum (fun j=>A i j % (p * p) * v j) n % p=nqI n A v i % p:=by
 refine Eqm.psum fun j _=>Eqm.mul ?_ (Eqm.refl p (v j));show A i j % (p * p) % p=A i j % p;exact Int.emod_emod_of_dvd _ ⟨p,rfl⟩
theorem Ar6 {p:Int} (h3:3<=p) (h:p<=9973):9<=p * p/\p * p<=99460729:=by
 have h1:=Int.mul_le_mul h h (by omega) (by omega);have h2:=Int.mul_le_mul h3 h3 (by omega) (by omega);omega
theorem Ar7 {p c s r:Int} (hp:2 < p) (hr:r * (2 * (s % p) % p) % p=1 % p):(c + 2 * ((p - c) * r % p) * s) % p=0:=by
  have e1:Eqm p (r * (2 * s)) 1:=((Eqm.refl p r).mul ((Eqm.refl p 2).mul (Eqm.mod p s) |>.symm.trans (Eqm.mod p _).symm)).trans hr
  have e2:Eqm p (2 * ((p - c) * r % p) * s) ((p - c) * (r * (2 * s))):=by
    have a1:=((Eqm.refl p 2).mul (Eqm.mod p ((p - c) * r))).mul (Eqm.refl p s);refine a1.trans (Eqm.of_eq ?_);grind
  have e3:Eqm p ((p - c) * (r * (2 * s))) ((p - c) * 1):=(Eqm.refl p (p - c)).mul e1;have e4:=(Eqm.refl p c).add (e2.trans e3);refine Eqm.zero (e4.trans ?_);have:c + (p - c) * 1=p:=by omega
  rw [this];show p % p=0 % p;simp
theorem Aps {fuel:Nat} {M:List (List Int)} {p:Int} {V:List Int} (h0:ASj M p false=0) (hV:Ad7 M p V) (hf:2147483648 < fuel):Ok (AJo fuel M p V) fun r=>r.2=0/\Aqi M p V r.1:=by
 obtain ⟨R,⟨Ag,Ab⟩,ho,hd,-⟩:=Ats h0;have hpr:=(Aa6 ho).2.2;have h8:=R.1.2;have hsq:=Ar6 Ag Ab;have hw:w64 (p * p)=p * p:=wk (by omega);have hv:∀ i,i < M.length->0<=vF V i/\vF V i < 10000:=fun i hi=>by have:=Aht hV.2.1 (i:=i) (by rw [hV.1];exact hi);omega
 unfold AJo;rw [AYj hf,h0];simp only [Option.bind_some];rw [if_neg (by decide),Am1 R Ag Ab (by omega),<- Af0 hV];simp only [Option.bind_some];rw [if_neg (by decide),hw,Am0 R (by omega) (by omega) (by omega)];simp only [Option.bind_some];have hcl:AJl fuel V=some V:=if_pos (by have:=hV.1;omega);rw [hcl];simp only [Option.bind_some];refine ABm (Q:=fun e=>Aqi M p V e) (ACy (fun i s=>s=((i:Int),V)/\i<=M.length/\ ∀ a,a < i->nqI M.length (ent M) (vF V) a % p=0) M.length ⟨rfl,Nat.zero_le _,fun a ha=>absurd ha (Nat.not_lt_zero _)⟩ (by omega) fun i s hi hI=>?_) fun e he=>ABj ⟨rfl,he⟩;obtain ⟨rfl,h1,h2⟩:=hI;unfold AK4;rw [AC9];refine ACk (fun h=>?_) fun h=>?_
 ·have Ad:i < M.length:=by omega
  refine AB4 (ADb Ad) rfl ?_
  have hin:AH7 fuel (ADu M.length fun j=>ent M i j % (p * p)) V p=some (nqI M.length (ent M) (vF V) i % p):=by
    conv=>lhs;rw [Am4 hV]
    rw [Ahr h8 (by omega) (by omega) (fun j _=>⟨Int.emod_nonneg _ (by omega),by have:=Int.emod_lt_of_pos (ent M i j) (show 0 < p * p by omega);omega⟩) hv (by omega),Am5]
  rw [hin];simp only [Option.bind_some];refine ACk (fun hz=>ABj ⟨by omega,by rw [AG3 (by omega)],by omega,fun a ha=>?_⟩) fun hz=>?_
  ·rcases Nat.lt_or_ge a i with h5 | h5
   ·exact h2 a h5
   ·obtain rfl:a=i:=by omega
    exact hz
  ·generalize hs:nqI M.length (ent M) (vF V) i=s at hz hin;have Aw:=Int.emod_nonneg s (show p≠0 by omega);have Ao:=Int.emod_lt_of_pos s (show 0 < p by omega);have h2s:2 * (s % p) % p≠0:=Aj1 hpr (a:=2) (x:=s % p) (by omega) (by omega) (by omega) Ao;have Ax:=Int.emod_nonneg (2 * (s % p)) (show p≠0 by omega);have Ap:=Int.emod_lt_of_pos (2 * (s % p)) (show 0 < p by omega);obtain ⟨r,hr⟩:=Aaa hpr (x:=2 * (s % p) % p) (by omega) Ap;rw [AD6 (x:=2 * (s % p)) (by omega) (by omega),Ahq (fuel:=fuel) ⟨by omega,by omega⟩ hr];simp only [Option.bind_some]
   have hno:AI1 fuel (tab M.length M.length fun i j=>ent M i j % (p * p)) V (p * p)=some (nq M.length (ent M) (vF V) (p * p)):=by
     conv=>lhs;rw [Am4 hV]
     exact Ahs h8 (by omega) (by omega) hv (by omega)
   rw [hw,hno];simp only [Option.bind_some];rw [if_pos (by omega)];refine AB4 (n:=0) (x:=[r]) rfl rfl (AB4 (n:=0) (x:=r) rfl rfl ?_);rw [if_pos (by omega)];have hVi:V[i]? =some (vF V i):=by have:=hV.1;simp [vF,show i < V.length by omega]
   refine AB4 hVi rfl (ABj ?_);have Ae:=Int.emod_nonneg (Qf M.length (ent M) (vF V)) (show p * p≠0 by omega);have Aj:=Int.emod_lt_of_pos (Qf M.length (ent M) (vF V)) (show 0 < p * p by omega);rw [<- Ahw] at Ae Aj;have Aq:0<=nq M.length (ent M) (vF V) (p * p) / p:=Int.ediv_nonneg Ae (by omega);have Ar:nq M.length (ent M) (vF V) (p * p) / p < p:=Int.ediv_lt_of_lt_mul (by omega) Aj;rw [Int.tdiv_eq_ediv_of_nonneg Ae];generalize hc:nq M.length (ent M) (vF V) (p * p) / p=c at Aq Ar;rw [AD6 (x:=c) (by omega) (by omega),AD6 (x:=p - c) (by omega) (by omega)];have Ak:=hr.1;have Ay:=hr.2.1;have Au:0<=(p - c) * r:=Int.mul_nonneg (by omega) Ak;have Az:=Int.mul_le_mul (show p - c<=9973 by omega) (show r<=9973 by omega) Ak (by omega);rw [AD6 (x:=(p - c) * r) (by omega) (by omega),Int.tmod_eq_emod_of_nonneg Au];have Aa:=Int.emod_nonneg ((p - c) * r) (show p≠0 by omega);have Am:=Int.emod_lt_of_pos ((p - c) * r) (show 0 < p by omega);have htp:=Ar7 (c:=c) (by omega) hr.2.2;generalize (p - c) * r % p=t at Aa Am htp;have A3:0<=p * t:=Int.mul_nonneg (by omega) Aa;have A4:=Int.mul_le_mul Ab (show t<=9973 by omega) Aa (by omega);have hvi:=hv i Ad;rw [AD6 (x:=p * t) (by omega) (by omega),AD6 (x:=vF V i + p * t) (by omega) (by omega)];refine ⟨i,t,Ad,h2,by rw [hs];exact hz,⟨Aa,Am⟩,by rw [hc,hs];exact htp,?_⟩
   have hset:∀ x,sI V (i:Int) x=ADu M.length fun c=>if c=i then x else vF V c:=fun x=>by
     conv=>lhs;rw [Am4 hV]
     rw [ADv,AE5]
   rw [hset]
   exact ACv fun j _=>by
     unfold ATa
     by_cases hj:j=i
     · subst hj;simp
     · simp [hj]
 ·obtain ⟨a,ha,hne⟩:=Ar5 hpr hd hV.1 hV.2.1 hV.2.2.1;exact absurd (h2 a (by omega)) hne
def dg (n P i c:Nat):Nat:=i / P ^ (n - 1 - c) % P
def ASl (n P i:Nat):List Int:=ADu n fun c=>((dg n P i c:Nat):Int)
theorem AT2 {n P i j:Nat} (hP:2<=P) (hj:j<=n) (h:∀ c,n - j<=c->c < n->dg n P i c=P - 1):i % P ^ j=P ^ j - 1:=by
 induction j with
 | zero=>simp [Nat.mod_one]
 | succ j ih=>
   have h1:=ih (by omega) fun c h1 h2=>h c (by omega) h2
   have h2:=h (n - (j + 1)) (by omega) (by omega)
   unfold dg at h2
   rw [show n - 1 - (n - (j + 1))=j by omega] at h2
   have hpos:0 < P ^ j:=Nat.pow_pos (by omega)
   rw [Nat.pow_succ,Nat.mod_mul,h1,h2]
   have:P ^ j * (P - 1) + P ^ j=P ^ j * P:=by
     rw [<- Nat.mul_succ,show (P - 1).succ=P by omega]
   omega
theorem Ad8 {n P i j:Nat} (hP:2<=P) (hj:j < n) (h:∀ c,n - j<=c->c < n->dg n P i c=P - 1) (hx:dg n P i (n - 1 - j)≠P - 1) (c:Nat) (hc:c < n):dg n P (i + 1) c=if n - j<=c then 0 else if c=n - 1 - j then dg n P i c + 1 else dg n P i c:=by
 have hl:=AT2 hP (Nat.le_of_lt hj) h;have hpos:0 < P ^ j:=Nat.pow_pos (by omega);have hdm:=Nat.div_add_mod i (P ^ j);have hi:i + 1=P ^ j * (i / P ^ j + 1):=by rw [Nat.mul_succ];omega
 have Ac:i / P ^ j % P≠P - 1:=by unfold dg at hx;rwa [show n - 1 - (n - 1 - j)=j by omega] at hx
 generalize hq:i / P ^ j=q at hi Ac;unfold dg;by_cases h1:n - j<=c
 ·rw [if_pos h1];obtain ⟨e,he⟩:∃ e,j=(n - 1 - c) + 1 + e:=⟨j - (n - 1 - c) - 1,by omega⟩
  have h2:P ^ j=P ^ (n - 1 - c) * (P * P ^ e):=by
    conv=>lhs;rw [he]
    rw [Nat.pow_add,Nat.pow_succ,Nat.mul_assoc]
  rw [hi,h2,Nat.mul_assoc,Nat.mul_div_cancel_left _ (Nat.pow_pos (by omega)),Nat.mul_assoc,Nat.mul_mod_right]
 ·rw [if_neg h1];obtain ⟨k,hk⟩:∃ k,n - 1 - c=j + k:=⟨n - 1 - c - j,by omega⟩;rw [hk,Nat.pow_add,<- Nat.div_div_eq_div_mul,<- Nat.div_div_eq_div_mul,hi,Nat.mul_div_cancel_left _ hpos,hq];have hqm:=Nat.div_add_mod q P;have hql:=Nat.mod_lt q (show P > 0 by omega);by_cases h2:c=n - 1 - j
  ·rw [if_pos h2];obtain rfl:k=0:=by omega
   simp only [Nat.pow_zero,Nat.div_one];rw [Nat.add_mod,Nat.mod_eq_of_lt (show 1 < P by omega),Nat.mod_eq_of_lt (by omega)]
  ·rw [if_neg h2];obtain ⟨k',rfl⟩:∃ k',k=k' + 1:=⟨k - 1,by omega⟩
   have h3:(q + 1) / P=q / P:=by
     refine Nat.div_eq_of_lt_le ?_ ?_
     · rw [Nat.mul_comm];omega
     · rw [Nat.mul_comm,Nat.mul_succ];omega
   rw [Nat.pow_succ,Nat.mul_comm,<- Nat.div_div_eq_div_mul,<- Nat.div_div_eq_div_mul,h3]
theorem Ate {n P i c:Nat} (hP:2<=P):dg n P i c < P:=Nat.mod_lt _ (by omega)
theorem Apt {n P c:Nat}:dg n P 0 c=0:=by simp [dg]
theorem Atf {fuel:Nat} {M:List (List Int)} {P:Nat} (R:AT0 M) (hp:3<=P) (hp2:P<=9973) (hq:P ^ M.length<=65536) (hf:2147483648 < fuel):AHv fuel M (P:Int)=some (((List.range (P ^ M.length)).map (ASl M.length P)).filter (AQn M P)):=by
  have h8:=R.1.2;have h1n:=R.1.1;apply ok_eq;unfold AHv;refine AEo (by omega) (ABm (Q:=fun e=>e=((List.range (P ^ M.length)).map (ASl M.length P)).filter (AQn M P)) ?_ fun e he=>ABj he);generalize hn:M.length=n at *
  have hcar:∀ i,i<=P ^ n->(((List.range i).map (ASl n P)).filter (AQn M P)).length<=65536:=fun i hi=>by
    have:=List.length_filter_le (AQn M P) ((List.range i).map (ASl n P));rw [List.length_map,List.length_range] at this;omega
  refine ACy (fun i s=>s=(((List.range i).map (ASl n P)).filter (AQn M P),ASl n P i)/\i < P ^ n) (P ^ n) ⟨?_,Nat.pow_pos (by omega)⟩ (by omega) fun i s hi hI=>?_
  · refine Prod.ext rfl ?_;show List.replicate ((n:Int)).toNat (0:Int)=ASl n P 0;rw [Int.toNat_natCast,AHs];exact ACv fun c _=>by rw [Apt];rfl
  · obtain ⟨rfl,hin⟩:=hI
    have hfil:((List.range (i + 1)).map (ASl n P)).filter (AQn M P)=((List.range i).map (ASl n P)).filter (AQn M P) ++ (if AQn M P (ASl n P i)=true then [ASl n P i] else []):=by
      rw [List.range_succ,List.map_append,List.filter_append];congr 1
      by_cases h:AQn M P (ASl n P i)=true
      · simp [h]
      · simp [h]
    unfold AJ2;dsimp only;rw [Abn R (by omega) (by omega) (by omega)];simp only [Option.bind_some]
    refine ABm (Q:=fun e=>e=((List.range (i + 1)).map (ASl n P)).filter (AQn M P)) ?_ fun e he=>?_
    · have hl:(ASl n P i).length=n:=AC8 ..;refine ACk (fun h=>?_) fun h=>ABj (by rw [hfil,if_neg h,List.append_nil]);rw [if_pos (by omega),if_pos (by have:=hcar i (by omega);omega)];exact ABj (by rw [hfil,if_pos h])
    · subst he;have hl:(ASl n P i).length=n:=AC8 ..;rw [hl]
      refine ABm (Q:=fun e:Int × List Int=>(e.1= -1/\i + 1=P ^ n)∨ ∃ j:Nat,j < n/\e.1=((n - 1 - j:Nat):Int)/\(∀ c,n - j<=c->c < n->dg n P i c=P - 1)/\dg n P i (n - 1 - j)≠P - 1/\e.2=ADu n fun c=>if n - j<=c then 0 else ((dg n P i c:Nat):Int)) (ABm (ACy (fun j s=>s=((n:Int) - 1 - j,ADu n fun c=>if n - j<=c then 0 else ((dg n P i c:Nat):Int))/\j<=n/\ ∀ c,n - j<=c->c < n->dg n P i c=P - 1) n ⟨?_,Nat.zero_le _,fun c h1 h2=>by omega⟩ (by omega) fun j s hj hI=>?_) fun e he=>ABj he) fun e he=>?_
      · refine Prod.ext ?_ (ACv fun c hc=>by rw [if_neg (by omega)]);show w64 ((n:Int) - 1)=(n:Int) - 1 - ((0:Nat):Int);rw [wk (by omega)];omega
      · obtain ⟨rfl,hjn,hall⟩:=hI;unfold AJ1;dsimp only
        refine ABm (Q:=fun ex=>(ex= .inl ()/\j < n/\dg n P i (n - 1 - j)=P - 1)∨(ex= .inr ()/\(j=n∨dg n P i (n - 1 - j)≠P - 1))) ?_ fun ex hex=>?_
        · refine ACk (fun h=>?_) fun h=>ABj (.inr ⟨rfl,.inl (by omega)⟩);have hj2:n - 1 - j < n:=by omega
          refine AB4 (n:=n - 1 - j) (ACj hj2) (by omega) ?_;have e1:(if n - j<=n - 1 - j then (0:Int) else ((dg n P i (n - 1 - j):Nat):Int))=((dg n P i (n - 1 - j):Nat):Int):=if_neg (by omega);rw [e1,AD6 (x:=(P:Int) - 1) (by omega) (by omega)];refine ACk (fun h3=>ABj (.inl ⟨rfl,by omega,by omega⟩)) fun h3=>ABj (.inr ⟨rfl,.inr fun h4=>h3 (by omega)⟩)
        · rcases hex with ⟨rfl,h3,h4⟩ | ⟨rfl,h3⟩
          · have hj2:n - 1 - j < n:=by omega
            dsimp only
            refine AB4 (n:=n - 1 - j) (ACj hj2) (by omega) (ABj ⟨h3,?_,by omega,fun c h5 h6=>?_⟩)
            · rw [show (n:Int) - 1 - (j:Int)=((n - 1 - j:Nat):Int) by omega,ADv,AE5]
              refine Prod.ext ?_ (ACv fun c hc=>?_)
              · show w64 (((n - 1 - j:Nat):Int) - 1)=(n:Int) - 1 - ((j + 1:Nat):Int);rw [wk (by omega)];omega
              · by_cases h7:c=n - 1 - j
                · rw [if_pos h7,if_pos (by omega)]
                · rw [if_neg h7]
                  by_cases h8:n - j<=c
                  · rw [if_pos h8,if_pos (by omega)]
                  · rw [if_neg h8,if_neg (by omega)]
            · rcases Nat.lt_or_ge c (n - j) with h7 | h7
              · obtain rfl:c=n - 1 - j:=by omega
                exact h4
              · exact hall c h7 h6
          · refine ABj ?_
            by_cases hjn2:j=n
            · subst hjn2;refine .inl ⟨by dsimp only;omega,?_⟩;have hl2:=AT2 (n:=j) (P:=P) (i:=i) (by omega) (Nat.le_refl _) hall;rw [Nat.mod_eq_of_lt hin] at hl2;omega
            · exact .inr ⟨j,by omega,by dsimp only;omega,hall,h3.resolve_left hjn2,rfl⟩
      · obtain ⟨x,W⟩:=e
        rcases he with ⟨h3,h4⟩ | ⟨j,hjn,h3,hall,hne,h4⟩
        · dsimp only at h3 ⊢;subst h3;rw [if_pos (by decide)];exact ABj (by rw [h4])
        · dsimp only at h3 h4 ⊢;subst h3;subst h4;rw [if_neg (by omega)];have hj2:n - 1 - j < n:=by omega
          refine AB4 (ACj hj2) rfl (ABj ?_);have e1:(if n - j<=n - 1 - j then (0:Int) else ((dg n P i (n - 1 - j):Nat):Int))=((dg n P i (n - 1 - j):Nat):Int):=if_neg (by omega);rw [e1];have hlt:=Ate (n:=n) (i:=i) (c:=n - 1 - j) (show 2<=P by omega)
          have hsucc:ASl n P (i + 1)=sI (ADu n fun c=>if n - j<=c then 0 else ((dg n P i c:Nat):Int)) ((n - 1 - j:Nat):Int) (w64 (((dg n P i (n - 1 - j):Nat):Int) + 1)):=by
            rw [wk (by omega),ADv,AE5];refine ACv fun c hc=>?_;rw [Ad8 (by omega) hjn hall hne c hc]
            by_cases h7:c=n - 1 - j
            · subst h7;rw [if_neg (by omega),if_pos rfl,if_pos rfl];rfl
            · rw [if_neg h7,if_neg h7]
              by_cases h8:n - j<=c
              · rw [if_pos h8,if_pos h8];rfl
              · rw [if_neg h8,if_neg h8]
          have hi1:i + 1 < P ^ n:=by
            refine Nat.lt_of_le_of_ne (by omega) fun hh=>?_
            have:i % P ^ (j + 1)=P ^ (j + 1) - 1:=by
              obtain ⟨e,he⟩:∃ e,n=(j + 1) + e:=⟨n - (j + 1),by omega⟩
              have hpw:P ^ n=P ^ (j + 1) * P ^ e:=by
                conv=>lhs;rw [he]
                exact Nat.pow_add ..
              have hp1:0 < P ^ (j + 1):=Nat.pow_pos (by omega);have hp2:0 < P ^ e:=Nat.pow_pos (by omega)
              have:i=P ^ (j + 1) * (P ^ e - 1) + (P ^ (j + 1) - 1):=by
                have:P ^ (j + 1) * (P ^ e - 1) + P ^ (j + 1)=P ^ (j + 1) * P ^ e:=by
                  rw [<- Nat.mul_succ,show (P ^ e - 1).succ=P ^ e by omega]
                omega
              rw [this,Nat.mul_add_mod,Nat.mod_eq_of_lt (by omega)]
            have hlow:=AT2 (n:=n) (P:=P) (i:=i) (j:=j) (by omega) (by omega) hall;have hpos:0 < P ^ j:=Nat.pow_pos (by omega);rw [Nat.pow_succ,Nat.mod_mul,hlow] at this;have hd:dg n P i (n - 1 - j)=i / P ^ j % P:=by unfold dg;rw [show n - 1 - (n - 1 - j)=j by omega]
            rw [<- hd] at this
            have h9:P ^ j * (P - 1) + P ^ j=P ^ j * P:=by
              rw [<- Nat.mul_succ,show (P - 1).succ=P by omega]
            exact hne (Nat.eq_of_mul_eq_mul_left hpos (by omega))
          exact ⟨hin,by rw [<- hsucc],hi1⟩
theorem Ar8 {fuel:Nat} {M:List (List Int)} {P:Nat} {k:Int} (R:AT0 M) (hp:3<=P) (Ab:P<=9973) (hk:0<=k/\k < 65536) (hf:2147483648 < fuel):Ok (AG5 fuel M (P:Int) k) fun r=>(r.2=true->Ad7 M P r.1)/\r.1.length<=8:=by
 have h8:=R.1.2;unfold AG5;rw [Am3 (by omega) (by omega) (by omega) (by omega)];simp only [Option.bind_some];refine ACk (fun h=>ABj ⟨fun hh=>(by cases hh),by simp⟩) fun h=>?_
 have hq:P ^ M.length<=65536:=by
   have h:((P:Int) ^ M.length)<=65536:=by simpa using h
   exact Int.ofNat_le.1 (by rw [Int.natCast_pow];exact h)
 rw [Atf R hp Ab hq hf];simp only [Option.bind_some];generalize hL:((List.range (P ^ M.length)).map (ASl M.length P)).filter (AQn M P)=L;refine ACk (fun h=>ABj ⟨fun hh=>(by cases hh),by simp⟩) fun h=>?_;have hl:0 < L.length:=by omega
 rw [if_pos (by omega),wk (by omega)];obtain ⟨q,h1,h2⟩:=APa k L.length hk.1 hl
 have hmem:∀ W∈L,AQn M P W=true:=fun W hW=>by
   rw [<- hL] at hW
   exact (List.mem_filter.1 hW).2
 exact AB4 (List.getElem?_eq_getElem h2) h1 (ABj ⟨fun _=>Ahu (hmem _ (List.getElem_mem h2)),by have:=(Ahu (hmem _ (List.getElem_mem h2))).1;dsimp only;omega⟩)
def gd (d q:Nat):Bool:=(q == 3 || q == 5 || q == 7 || q == 11 || q == 13 || q == 17) && d % q != 0
def AWd (d:Nat):Nat->Nat
  | 0=>0
  | i + 1=>AWd d i + (if gd d (3 + 2 * i)=true then 1 else 0)
theorem Ar9:(List.range 10000).all (fun d=>decide (1<=AWd (d + 1) 7/\(AWd (d + 1) 7=1->gd (d + 1) 17=true)))=true:=by decide +kernel
theorem Ajb {q:Nat} (h3:3<=q) (h:q<=17):AOg (q:Int)=true↔(q=3∨q=5∨q=7∨q=11∨q=13∨q=17):=by
 have prs:∀ (n:Int) (d:Nat),2<=n->2<=d->n < d * d->(∀ c,c < d->2<=c->¬ n % (c:Int)=0)->Pr n:=fun n d hn hd hsq h=>ATp (d:=d) hn (by omega) hsq fun c h1 h2 h3=>h c.toNat (by omega) (by omega) (by rw [show ((c.toNat:Nat):Int)=c by omega];exact h3);constructor
 ·intro ho;have hp:=Aa6 ho;refine Classical.byContradiction fun hno=>?_;have hcase:q=4∨q=6∨q=8∨q=9∨q=10∨q=12∨q=14∨q=15∨q=16:=by omega
  rcases hcase with rfl | rfl | rfl | rfl | rfl | rfl | rfl | rfl | rfl
  ·exact hp.2.2.2 2 (by decide) (by decide) (by decide)
  ·exact hp.2.2.2 2 (by decide) (by decide) (by decide)
  ·exact hp.2.2.2 2 (by decide) (by decide) (by decide)
  ·exact hp.2.2.2 3 (by decide) (by decide) (by decide)
  ·exact hp.2.2.2 2 (by decide) (by decide) (by decide)
  ·exact hp.2.2.2 2 (by decide) (by decide) (by decide)
  ·exact hp.2.2.2 2 (by decide) (by decide) (by decide)
  ·exact hp.2.2.2 3 (by decide) (by decide) (by decide)
  ·exact hp.2.2.2 2 (by decide) (by decide) (by decide)
 ·intro hc;refine (ATw ?_).symm;rcases hc with rfl | rfl | rfl | rfl | rfl | rfl <;> refine ⟨by decide,by decide,?_⟩
  ·exact prs _ 2 (by decide) (by decide) (by decide) (by decide)
  ·exact prs _ 3 (by decide) (by decide) (by decide) (by decide)
  ·exact prs _ 3 (by decide) (by decide) (by decide) (by decide)
  ·exact prs _ 4 (by decide) (by decide) (by decide) (by decide)
  ·exact prs _ 4 (by decide) (by decide) (by decide) (by decide)
  ·exact prs _ 5 (by decide) (by decide) (by decide) (by decide)
theorem Ad9 {fuel:Nat} {M:List (List Int)} {k:Int} (R:AT0 M) (hk:0<=k) (Ah:k < 256) (hf:2147483648 < fuel):Ok (AFg fuel M k) fun p=> ∃ P:Nat,p=P/\3<=P/\P<=17/\AOg p=true/\det M.length (ent M) % p≠0:=by
 have hdv:=AYf R;obtain ⟨d,hd⟩:∃ d:Nat,det M.length (ent M)=(d:Int):=⟨(det M.length (ent M)).toNat,by omega⟩;have hdd:1<=d/\d<=10000:=by omega
 have hall:=of_decide_eq_true (List.all_eq_true.1 Ar9 (d - 1) (List.mem_range.2 (by omega)));rw [show d - 1 + 1=d by omega] at hall
 have hg:∀ q:Nat,3<=q->q<=17->(gd d q=true↔AOg (q:Int)=true/\det M.length (ent M) % (q:Int)≠0):=fun q h3 Af=>by
   rw [Ajb h3 Af,hd]
   unfold gd
   simp only [Bool.and_eq_true,Bool.or_eq_true,beq_iff_eq,bne_iff_ne,ne_eq]
   have:((d:Int) % (q:Int)=0)↔d % q=0:=by omega
   rw [this]
   constructor
   · rintro ⟨h1,h2⟩;exact ⟨by omega,h2⟩
   · rintro ⟨h1,h2⟩;exact ⟨by omega,h2⟩
 unfold AFg;have hkm:w64 (Int.tmod k 2)=k % 2:=by rw [Int.tmod_eq_emod_of_nonneg hk,wk (by omega)]
 rw [hkm];refine ABm (ACy (fun i s=>s=(k % 2 - (AWd d i:Int),((3 + 2 * i:Nat):Int))/\i<=7/\(AWd d i:Int)<=k % 2) 7 (Q:=fun p:Int=> ∃ P:Nat,p=P/\3<=P/\P<=17/\AOg p=true/\det M.length (ent M) % p≠0) ⟨by simp [AWd],by omega,by simp [AWd];omega⟩ (by omega) fun i s hi hI=>?_) fun e he=>ABj he;obtain ⟨rfl,h1,h2⟩:=hI;unfold AHi;refine ABm (Am2 (p:=((3 + 2 * i:Nat):Int)) R (by omega)) fun b hb=>?_;rw [<- hg (3 + 2 * i) (by omega) (by omega)] at hb;have hsucc:AWd d (i + 1)=AWd d i + (if gd d (3 + 2 * i)=true then 1 else 0):=rfl
 have h7:i=7->AWd d i=1/\gd d 17=true:=fun h=>by
   subst h
   have h3:AWd d 7<=1:=by omega
   have h4:AWd d 7=1:=by omega
   exact ⟨h4,hall.2 h4⟩
 dsimp only;refine ACk (fun h=>?_) fun h=>?_
 ·have hgd:=hb.1 h;rw [if_pos hgd] at hsucc;refine ACk (fun h5=>ABj ⟨3 + 2 * i,rfl,by omega,by omega,(hg _ (by omega) (by omega)).1 hgd⟩) fun h5=>?_;have hne:i≠7:=fun hh=>by have:=h7 hh;omega
  exact ABj ⟨by omega,by rw [wk (by omega),wk (by omega),hsucc];exact Prod.ext (by dsimp only;omega) (by dsimp only;omega),by omega,by rw [hsucc];omega⟩
 ·have hgd: ¬ gd d (3 + 2 * i)=true:=fun hh=>h (hb.2 hh);rw [if_neg hgd] at hsucc;have hne:i≠7:=fun hh=>by have:=h7 hh;subst hh;exact hgd this.2
  exact ABj ⟨by omega,by rw [wk (by omega),hsucc];exact Prod.ext (by dsimp only;omega) (by dsimp only;omega),by omega,by rw [hsucc];omega⟩
end Go.Proofs.YtiegjkmfpcgjjaaGreatDoor
namespace Go.Proofs.YtiegjkmfpcgjjaaGreatDoor
open Go Go.QF
set_option maxRecDepth 100000
set_option maxHeartbeats 4000000
noncomputable def AHj (fuel:Nat) (Af:LiI) (Aa:Int) (Ac:LiA) (Ad Ae Ab:Int):Option ((Int × Int) ⊕ ((Int))):=
  (if Ab < (Ac.length:Int) then ((gI Af Ad).bind fun Ag=>((gI Ag Ab).bind fun Ah=>((AD7 fuel Ah (w64 (Aa * Aa))).bind fun Ai=>((gI Ac Ad).bind fun Aj=>(if (w64 (Aa * Aa))≠0 then ((gI Ac Ab).bind fun Ak=>((AD7 fuel (w64 (Ae + (w64 ((Int.tmod (w64 (Ai * Aj)) (w64 (Aa * Aa))) * Ak)))) (w64 (Aa * Aa))).bind fun Am=>(some (Sum.inl (Am,(w64 (Ab + 1))))))) else none))))) else (some (Sum.inr<| Ae)))
noncomputable def AHk (fuel:Nat) (Ah:LiI) (Ab:Int) (Af Ac:LiA) (Ad Ag Aa:Int):Option ((Int × Int × Int) ⊕ ((Bool) ⊕ (Int × Int))):=
  (if Aa < (Ac.length:Int) then ((((gI Ac Aa).bind fun Ai=>((gI Af Aa).bind fun Aj=>(if ¬ Ai=Aj then (some ( (w64 (Ad + 1)))) else (some ( Ad))))):Option ((Int))).bind (fun (Ak:Int)=>((((gI Ac Aa).bind fun Ae=>(if Ae < 0 then (some (Sum.inl <| false)) else (if (w64 (Ab * Ab))<=Ae then (some (Sum.inl <| false)) else ((gI Af Aa).bind fun Am=>(if Ab≠0 then (if ¬ (Int.tmod (w64 (Ae - Am)) Ab)=0 then (some (Sum.inl <| false)) else (some (Sum.inr <| ()))) else none))))):Option ((Bool) ⊕ (Unit))).bind (fun ex=>match ex with | Sum.inl Ao=>(some (Sum.inr<| Sum.inl <| Ao)) | Sum.inr (_)=>((iter (fun s=>AHj fuel Ah Ab Ac Aa s.1 s.2) fuel (Ag,0)).bind (fun (Ap:Int)=>(some (Sum.inl (Ak,Ap,(w64 (Aa + 1))))))))))) else (some (Sum.inr<| Sum.inr <| (Ad,Ag))))
noncomputable def AGf (fuel:Nat) (a1 a2:Int) (a5 a9:LiA) (Ai Aj:Int):Option Bool:=
  ((AEw fuel a1 a2 a5 a9 5).bind fun Aa=>((AFg fuel Aa Ai).bind fun Ab=>((AG5 fuel Aa Ab Aj).bind fun (Ac,Ak)=>(if (!Ak)=true then ((AEu fuel).bind fun Am=>(some Am)) else ((AJo fuel Aa Ab Ac).bind fun (Ad,Ao)=>(((if ¬ Ao=0 then (some (Sum.inl <| false)) else (if ¬ (Ad.length:Int)=(Aa.length:Int) then (some (Sum.inl <| false)) else (some (Sum.inr <| ())))):Option ((Bool) ⊕ (Unit))).bind (fun ex=>match ex with | Sum.inl Ap=>(some Ap) | Sum.inr (_)=>((iter (fun s=>AHk fuel Aa Ab Ac Ad s.1 s.2.1 s.2.2) fuel (0,0,0)).bind (fun ex=>match ex with | Sum.inl Aq=>(some Aq) | Sum.inr ((Ar,Au))=>(if Ar<=1 then (if Au=0 then ((AEu fuel).bind fun Av=>(some Av)) else (some false)) else (some false)))))))))))
theorem AN3 {fuel:Nat} {h:ABg} {a1 a2:Int} {Aq:Value} {a5:LiA} {Ar:Value} {a9:LiA} {Bn Bo:Int} {r:Bool} (H4:SlC (cI .i8) h Aq a5) (H8:SlC (cI .i8) h Ar a9) (HO:AT7 h) (hp:AGf fuel a1 a2 a5 a9 Bn Bo=some r):AB8 Tryz.prog 4 #[(.agg #[(.int .u8 a1),(.int .u8 a2),Aq,Ar]),(.int .u8 Bn),(.int .u16 Bo)] h (fun x h'=>Ext h h'/\x= .bool r):=by
 unfold AGf at hp;refine cwf (l:=[_,_,_]) Tryz.func4 rfl rfl (ABh (AHz [(.int .u8 a1),(.int .u8 a2),Aq,Ar] trivial tt2 rfl rfl fun Fr Ft Cg Ch Ci=>ACq ?_));have Au:=(Kst.k0 h).nb Ch Ci Cg;refine AG0 [(.int .u8 a1),(.int .u8 a2),Aq,Ar] Alm rfl rfl (Au.b p0).agg ?_;obtain ⟨Fu,Cj,Ck⟩:=ABk hp;refine AC2 rfl (AM5 (H4.ext Au.x) (H8.ext Au.x) Cj) fun Fv Fw Cm Cn=>?_;obtain ⟨Fx,Fy,Fz,F4,rfl,Co,Cp⟩:=Cn;refine ACq (Wj (Wj ?_));have Bp:=Au.no2 Cm Cp Co;obtain ⟨Bq,Cq,Cr⟩:=ABk Ck;refine AC2 rfl (AN2 (Bp.o2 p0).rd Cq) fun F5 F6 Ct Cu=>?_;subst Cu;refine ACq (Wj (Wj (Wj ?_)));have Br:=Bp.e Ct;obtain ⟨⟨F7,F8⟩,Cv,A5⟩:=ABk Cr;dsimp only at A5;refine AC2 rfl (AQm (Br.o2 p0).rd Cv) fun F9 Ga Cw Cx=>?_;obtain ⟨Gb,Gc,rfl,Cy,Cz⟩:=Cx;refine Wj (ADa rfl rfl (ADa rfl rfl (ACd (ABp (ABl (ABh (Wj (AGt rfl (ABn ?_)))))))));have Ae:=Br.no Cw Cz Cy;refine ⟨_,rfl,fun A6=>?_,fun A6=>?_⟩
 ·refine ABh ?_;obtain ⟨Gd,C0,C1⟩:=ABk (ifT A5 A6);refine AC2 rfl (ALs (HO.ext Ae.x) C0) fun Ge Gf C2 C3=>?_;subst C3;refine ABp (ABr (ABz ?_));obtain rfl:=ABi C1;exact ⟨_,ABs,(Ae.e C2).x,rfl⟩
 ·refine ABq (q_t (ABh (Wj (Wj (Wj ?_)))));obtain ⟨⟨Gg,C4⟩,C5,Bt⟩:=ABk (ALj A5 A6);dsimp only at Bt;refine AC2 rfl (ASi (Ae.o2 p1).rd (Ae.o p0).rd (HO.ext Ae.x) C5) fun Gh Gi C6 C7=>?_;obtain ⟨Gj,Gk,rfl,C8,C9⟩:=C7;refine Wj (ADa rfl rfl (ADa rfl rfl (ACd (ABp ?_))));have Af:=Ae.no C6 C9 C8;obtain ⟨Da,Bu,A7⟩:=ABk Bt;refine AMd 280925220896832 (fun x:Unit=>[]) (fun x h'=>(Sum.inr <| ())=Da/\Kst h h' (AIk Af.L [0,1,2])) ?_ ?_
  ·refine ABh (Wj (AGe rfl rfl (Wj ?_)));by_cases Av: ¬ C4=0
   ·rw [decide_eq_true Av];refine AJa 41 true (AB0 rfl (ABn (AB6 rfl (ABh (ABp ?_)))));obtain rfl:=ABi (ifT Bu Av);refine ABr (ABz ?_);obtain rfl:=ABi A7;exact ⟨_,ABs,Af.x,rfl⟩
   ·have Bv:=ifF Bu Av;rw [decide_eq_false Av];refine ACl 41 false (Wj (ACl 41 false (ADs ABt rfl (Af.o p0).rd (ACl 41 false (Wj (ACl 41 false (ADf AB1 rfl (Af.o2 p2).rd (ACl 41 false (AGe rfl rfl (ABx rfl (ABn (⟨_,rfl,fun A8=>?_,fun A8=>?_⟩))))))))))))
    ·refine ABh (ABp ?_);obtain rfl:=ABi (AC0 Bv A8);refine ABr (ABz ?_);obtain rfl:=ABi A7;exact ⟨_,ABs,Af.x,rfl⟩
    ·refine ABq (q_t ?_);exact ⟨(():Unit),⟨ABi (AC1 Bv A8),Af.sel [0,1,2] (by decide)⟩,trivial⟩
  rintro ⟨⟩ Gl Gm ⟨Db,A9⟩;subst Db;refine ABh (ACd (ABp (ABl (ABh (Wj (ADs ABt rfl (A9.o p0).rd (Wj (ABn (ABo ?_)))))))));obtain ⟨Ah,Dc,Ai⟩:=ABk A7;obtain ⟨Dd,De,Df⟩:=ACe Dc;refine ACg 2722258935367507707706995733554238971968 (fun x:(Int) × (Int) × (Int)=>[(13,(.int .i64 x.1)),(14,(.int .i64 x.2.1)),(50,(.int .i64 x.2.2))]) (fun k x h'=>iter Dd k (x.1,x.2.1,x.2.2)=some Ah/\Kst h h' (A9.L)) (by kernel_rfl) fuel ((0,0,0):(Int) × (Int) × (Int)) ?_ ⟨rfl,rfl,rfl,trivial⟩ ?_
  ·exact ⟨Df,A9⟩
  rintro Gn ⟨Ba,Bw,Bx⟩ Gp Gq ⟨Dg,Ab⟩;obtain ⟨Dh,Gr,rfl,Aj,Ac⟩:=AB2 Dg;rw [De] at Aj;dsimp only at Aj;unfold AHk at Aj;refine ABh (ACx rfl rfl (ABn (ABl (⟨_,rfl,fun Bb=>?_,fun Bb=>?_⟩))))
  ·refine ABq (q_t (ABl (ABo (ABh (Wj (ABp ?_))))));obtain ⟨Di,Dj,Dk⟩:=ABk (AC0 Aj Bb);refine AMd 18437736874454818816 (fun x:(Int)=>[(13,(.int .i64 x))]) (fun x h'=>( x)=Di/\Kst h h' (Ab.L)) ?_ ?_
   ·refine ABl (AMe (Wj (Wj ?_)));obtain ⟨Gt,By,Dl⟩:=ABk Dj;refine AKp ABt rfl (Ab.o p0) rfl By fun Gu Dn=>?_;obtain ⟨Gv,Do,Dp⟩:=(Ab.o p0).cells Dn By;obtain rfl:=Do;refine AB3 ACm rfl (Dp 0 _ rfl) (Wj (Wj ?_));obtain ⟨Gw,Bz,B1⟩:=ABk Dl;refine AKp ABt rfl (Ab.o p1) rfl Bz fun Gx Dq=>?_;obtain ⟨Gy,Dr,Ds⟩:=(Ab.o p1).cells Dq Bz;obtain rfl:=Dr;refine AB3 ACm rfl (Ds 0 _ rfl) (AGe rfl rfl (ABn (⟨_,rfl,fun Bc=>?_,fun Bc=>?_⟩)))
    ·refine ABw (Wj (ACw rfl rfl (ABp ?_)));exact ⟨((w64 (Ba + 1)):(Int)),⟨ABi (AC0 B1 Bc),Ab⟩,rfl,trivial⟩
    ·refine ABq (q_t ?_);exact ⟨(Ba:(Int)),⟨ABi (AC1 B1 Bc),Ab⟩,rfl,trivial⟩
   rintro Dt Gz G3 ⟨Du,Aa⟩;subst Du;obtain ⟨Dv,Dw,Aw⟩:=ABk Dk;refine AMd 9903520295836298125483442240 (fun x:Unit=>[]) (fun x h'=>(Sum.inr <| ())=Dv/\Kst h h' (Aa.L)) ?_ ?_
   ·refine ABl (AMe (Wj (Wj ?_)));obtain ⟨B2,Ag,B3⟩:=ABk Dw;refine AKp ABt rfl (Aa.o p0) rfl Ag fun G4 Dx=>?_;obtain ⟨G5,Dy,Dz⟩:=(Aa.o p0).cells Dx Ag;obtain rfl:=Dy;refine AB3 ACm rfl (Dz 0 _ rfl) (ACx rfl rfl (Wj ?_));by_cases Ax:B2 < 0
    ·rw [decide_eq_true Ax];refine AJa 69 true (ALo 69 true (AB0 rfl (Wj (AJa 79 true (AJa 79 true (AGg 79 true (AB0 rfl (ABn (AB6 rfl (ABh (ABp ?_)))))))))));obtain rfl:=ABi (ifT B3 Ax);obtain rfl:=ABi Aw;change _=Ah at Ac;subst Ac;refine ABr (ABz (ADk (ABz (ABz (ADk (ABz ?_))))));obtain rfl:=ABi Ai;exact ⟨_,ABs,Aa.x,rfl⟩
    ·have B4:=ifF B3 Ax;rw [decide_eq_false Ax];refine ACl 69 false (Wj (ACl 69 false (Wj (ACl 69 false (AKp ABt rfl (Aa.o p0) rfl Ag fun G6 D0=>ACl 69 false ?_)))));obtain ⟨G7,D1,D2⟩:=(Aa.o p0).cells D0 Ag;obtain rfl:=D1;refine AB3 ACm rfl (D2 0 _ rfl) (ACl 69 false (Wj (ACl 69 false (Wj (ACl 69 false (AJn rfl rfl (ACl 69 false (AL0 rfl rfl (ABx rfl (Wj ?_))))))))));by_cases Ay:(w64 (Bq * Bq))<=B2
     ·rw [decide_eq_true Ay];refine AJa 79 true (AJa 79 true (AGg 79 true (AB0 rfl (ABn (AB6 rfl (ABh (ABp ?_)))))));obtain rfl:=ABi (ifT B4 Ay);obtain rfl:=ABi Aw;change _=Ah at Ac;subst Ac;refine ABr (ABz (ADk (ABz (ABz (ADk (ABz ?_))))));obtain rfl:=ABi Ai;exact ⟨_,ABs,Aa.x,rfl⟩
     ·rw [decide_eq_false Ay];refine ACl 79 false (Wj (ACl 79 false (Wj (ACl 79 false (AKp ABt rfl (Aa.o p0) rfl Ag fun G8 D3=>ACl 79 false ?_)))));obtain ⟨G9,D4,D5⟩:=(Aa.o p0).cells D3 Ag;obtain rfl:=D4;refine AB3 ACm rfl (D5 0 _ rfl) (ACl 79 false (Wj (ACl 79 false (Wj (ACl 79 false ?_)))));obtain ⟨Hb,B5,D6⟩:=ABk (ifF B4 Ay);refine AKp ABt rfl (Aa.o p1) rfl B5 fun Hc D7=>ACl 79 false ?_;obtain ⟨Hd,D8,D9⟩:=(Aa.o p1).cells D7 B5;obtain rfl:=D8;refine AB3 ACm rfl (D9 0 _ rfl) (ACl 79 false (AGb rfl rfl (ACl 79 false (Wj (ACl 79 false ?_)))));obtain ⟨Ea,B6⟩:=ifN D6;refine AFq rfl rfl Ea (ACl 79 false (AGe rfl rfl (ABx rfl (ABn (⟨_,rfl,fun Be=>?_,fun Be=>?_⟩)))))
      ·refine ABh (ABp ?_);obtain rfl:=ABi (AC0 B6 Be);obtain rfl:=ABi Aw;change _=Ah at Ac;subst Ac;refine ABr (ABz (ADk (ABz (ABz (ADk (ABz ?_))))));obtain rfl:=ABi Ai;exact ⟨_,ABs,Aa.x,rfl⟩
      ·refine ABq (q_t ?_);exact ⟨(():Unit),⟨ABi (AC1 B6 Be),Aa⟩,trivial⟩
   rintro ⟨⟩ He Hf ⟨Eb,Bf⟩;subst Eb;refine ABh (Wj (ADs ABt rfl (Bf.o p0).rd (Wj (ABn (ABo ?_)))));obtain ⟨B7,Ec,Ed⟩:=ABk Aw;obtain ⟨Ee,Ef,Eg⟩:=ACe Ec;refine ACg 1361129467644139772596366260930300952576 (fun x:(Int) × (Int)=>[(14,(.int .i64 x.1)),(95,(.int .i64 x.2))]) (fun k x h'=>iter Ee k (x.1,x.2)=some B7/\Kst h h' (Bf.L)) (by kernel_rfl) fuel ((Bw,0):(Int) × (Int)) ?_ ⟨rfl,rfl,trivial⟩ ?_
   ·exact ⟨Eg,Bf⟩
   rintro Hg ⟨Eh,Ei⟩ Hh Bg ⟨Ej,Ad⟩;obtain ⟨Ek,Hj,rfl,Ak,Bh⟩:=AB2 Ej;rw [Ef] at Ak;dsimp only at Ak;unfold AHj at Ak;refine ABh (ACx rfl rfl (ABn (ABl (⟨_,rfl,fun Bi=>?_,fun Bi=>?_⟩))))
   ·refine ABq (q_t (ABl (ABo (ABh (Wj (ABp (AEb (fun h'=>UpT [] Bg h') (by kernel_rfl) ?_)))))));have Am:UpT [] Bg Bg:=UpT.start all_nil;refine Wj (Wj (Wj ?_));obtain ⟨Hk,Bj,El⟩:=ABk (AC0 Ak Bi);refine ADl AB1 rfl (Ad.o2 p2) rfl Bj fun Hl Hm Hn Em En=>AFr ACn rfl Am (fun h' hb=>ABv En hb.ext) (Wj ?_);obtain ⟨Ho,B8,Eo⟩:=ABk El;refine AEx (m:=Bx) ABt rfl (Ad.o2 p2) Em Bj rfl B8 fun Hq Ep=>?_;obtain ⟨Hr,Er,Es⟩:=(Ad.o2 p2).cells Ep Bj B8;obtain rfl:=Er;refine AFr ACm rfl Am (fun h' hb=>ABv (Es 0 _ rfl) hb.ext) (Wj (Wj (AJn rfl rfl ?_)));obtain ⟨Hs,Et,Eu⟩:=ABk Eo;refine AC5 Am (fun _ E=>Am.thenE E) rfl (AF7 Et) fun Ht Hu B9 Ev=>?_;subst Ev;refine Wj (Wj ?_);have Az:=Am.thenE B9;obtain ⟨Hv,Ca,Ew⟩:=ABk Eu;refine AKp ABt rfl (Ad.o p0) rfl Ca fun Hw Ey=>?_;obtain ⟨Hx,Ez,Fa⟩:=(Ad.o p0).cells Ey Ca;obtain rfl:=Ez;refine AFr ACm rfl Az (fun h' hb=>ABv (Fa 0 _ rfl) hb.ext) (AJn rfl rfl (Wj (Wj (AJn rfl rfl ?_))));obtain ⟨Fb,Fc⟩:=ifN Ew;refine AFq rfl rfl Fb (Wj (Wj ?_));obtain ⟨Hy,Cb,Fd⟩:=ABk Fc;refine AKp ABt rfl (Ad.o p0) rfl Cb fun Hz Fe=>?_;obtain ⟨H5,Ff,Fg⟩:=(Ad.o p0).cells Fe Cb;obtain rfl:=Ff;refine AFr ACm rfl Az (fun h' hb=>ABv (Fg 0 _ rfl) hb.ext) (AJn rfl rfl (ACw rfl rfl (Wj (Wj (AJn rfl rfl ?_)))));obtain ⟨Fh,Fi,Fj⟩:=ABk Fd;refine AC5 Az (fun _ E=>Az.thenE E) rfl (AF7 Fi) fun H9 Ia Fk Fl=>?_;subst Fl;refine ACd (ACh (q_b (q_t (ABw (ACw rfl rfl (Wj (ABn ?_)))))));obtain rfl:=ABi Fj;exact ⟨Ek,((Fh,(w64 (Ei + 1))):(Int) × (Int)),Nat.lt_succ_self _,⟨Bh,((Ad.e B9).e Fk)⟩,rfl,rfl,trivial⟩
   ·obtain rfl:=ABi (AC1 Ak Bi);change _=B7 at Bh;subst Bh;refine AB9 (AB7 (AB7 (ADh (q_b (q_t (ABw (ACw rfl rfl (Wj (ABn ?_)))))))));obtain rfl:=ABi Ed;exact ⟨Dh,((Dt,Eh,(w64 (Bx + 1))):(Int) × (Int) × (Int)),Nat.lt_succ_self _,⟨Ac,Ad⟩,rfl,rfl,rfl,trivial⟩
  ·obtain rfl:=ABi (AC1 Aj Bb);change _=Ah at Ac;subst Ac;refine AB9 (AB7 (AB7 (ADh (q_t (ABh (Wj (AVi rfl rfl (Wj ?_))))))));by_cases A3:Ba<=1
   ·have Cd:=ifT Ai A3;rw [decide_eq_true A3];refine ACl 133 true (Wj (ACl 133 true (ADo rfl rfl (AB0 rfl (Wj ?_)))));by_cases A4:Bw=0
    ·rw [decide_eq_true A4];refine ACl 137 true ?_;obtain ⟨Ib,Fm,Fo⟩:=ABk (ifT Cd A4);refine AC2 rfl (ALs (HO.ext Ab.x) Fm) fun Ic Id Fp Fq=>?_;subst Fq;refine AB0 rfl (ABp (ABr ?_));obtain rfl:=ABi Fo;exact ⟨_,ABs,(Ab.e Fp).x,rfl⟩
    ·rw [decide_eq_false A4];refine Apy 137 false (ABx rfl (ABp (ABr ?_)));obtain rfl:=ABi (ifF Cd A4);exact ⟨_,ABs,Ab.x,rfl⟩
   ·rw [decide_eq_false A3];refine AGg 133 false (ABx rfl (Wj (Apy 137 false (ABx rfl (ABp (ABr ?_))))));obtain rfl:=ABi (ifF Ai A3);exact ⟨_,ABs,Ab.x,rfl⟩
end Go.Proofs.YtiegjkmfpcgjjaaGreatDoor
namespace Go.Proofs.YtiegjkmfpcgjjaaGreatDoor
open Go Go.QF
set_option maxRecDepth 100000
theorem Asa {M:List (List Int)} {p:Int} (R:AT0 M) (ho:AOg p=true) (hd:det M.length (ent M) % p≠0):ASj M p false=0:=by
 unfold ASj;rw [if_pos ((AS4 M).2 R),if_pos ⟨ho,hd⟩,if_neg (fun h=>absurd h.1 (by decide))]
theorem AYk {g kd k w:Int} {Z Y:List Int} (hg:0<=g/\g < 256) (hk:0<=k/\k < 256) (hw:0<=w/\w < 65536):AGf (AEt + 1) g kd Z Y k w=some true:=by
 have hf:AEt < AEt + 1:=Nat.lt_succ_self _;have Au:100 < AEt + 1:=Nat.lt_of_le_of_lt (by decide) hf;have Ab:2147483648 < AEt + 1:=Nat.lt_of_le_of_lt (by decide) hf;apply ok_eq;unfold AGf;have aw:Ok (AEu (AEt + 1)) (· =true):=⟨true,Abl,rfl⟩;refine ABm (Arx hg (by decide) hf) fun h hh=>?_;obtain ⟨n,A,rfl,h1,h2,R,-⟩:=hh;have RM:=Api h1 (by omega) R;generalize hMM:tab n n A=M at RM;refine ABm (Ad9 RM hk.1 hk.2 Ab) fun q hq=>?_;obtain ⟨P,rfl,h3,Aw,ho,hd⟩:=hq;have hc:=Asa RM ho hd;refine ABm (Ar8 RM h3 (by omega) hw Ab) fun r hr=>?_;obtain ⟨V,b⟩:=r;refine ACk (fun _=>ABm aw fun x hx=>ABj hx) fun hb=>?_;have hV:Ad7 M P V:=hr.1 (by cases b with | true=>rfl | false=>exact absurd rfl hb);refine ABm (Aps hc hV Ab) fun r hr=>?_;obtain ⟨W,e⟩:=r;obtain ⟨he,hL⟩:=hr;dsimp only at he hL;subst he;obtain ⟨i,t,hi,-,-,ht,hts,rfl⟩:=hL;have h8:=RM.1.2;have hA:∀ a b,a < M.length->b < M.length->ent M a b=ent M b a:=fun a b ha hb=>RM.2.2.sym a b ha hb;have hvr:∀ j,j < M.length->0<=vF V j/\vF V j < P:=fun j hj=>Aht hV.2.1 (by rw [hV.1];exact hj);have hpp:(P:Int) * P<=17 * 17:=Int.mul_le_mul (by omega) (by omega) (by omega) (by omega);have Ax:3 * 3<=(P:Int) * P:=Int.mul_le_mul (by omega) (by omega) (by omega) (by omega);have Ae:w64 ((P:Int) * P)=(P:Int) * P:=wk (by omega);have Aj:0<=(P:Int) * t:=Int.mul_nonneg (by omega) ht.1
 have Ay:(P:Int) * t<=P * P - P:=by
   have:=Int.mul_le_mul_of_nonneg_left (show t<=(P:Int) - 1 by omega) (show (0:Int)<=P by omega)
   rw [Int.mul_sub] at this
   omega
 generalize hQ:(P:Int) * P=Q at *;generalize hX:(P:Int) * t=X at *
 have hWr:∀ j,j < M.length->0<=ATa (vF V) i X j/\ATa (vF V) i X j < Q:=fun j hj=>by
   have:=hvr j hj
   unfold ATa
   by_cases h:j=i
   · rw [if_pos h];omega
   · rw [if_neg h];omega
 have hz:nq M.length (ent M) (ATa (vF V) i X) Q=0:=by
   rw [<- hX,<- hQ,Aja (by omega) hA hi hV.2.2.2,hQ,hts];simp
 generalize hF:ATa (vF V) i X=F at *;dsimp only;rw [AC8];refine ABm (Q:=fun ex=>ex= .inr ()) (by rw [if_neg (by decide),if_neg (by simp)];exact ABj rfl) fun ex hex=>?_;subst hex;refine ABm (Q:=fun ex=> ∃ c:Int,ex= .inr (c,0)/\c<=1) (ACy (fun a s=>s=((if i < a/\X≠0 then 1 else 0:Int),psum (fun a=>nqI M.length (ent M) F a * F a) a % Q,(a:Int))/\a<=M.length) M.length ⟨by simp [psum],Nat.zero_le _⟩ (by omega) fun a s ha hI=>?_) fun ex hex=>?_
 ·obtain ⟨rfl,h4⟩:=hI;unfold AHk;rw [AC8];dsimp only;refine ACk (fun h=>?_) fun h=>ABj ?_
  ·have Aa:a < M.length:=by omega
   have hva:V[a]? =some (vF V a):=by have:=hV.1;simp [vF,show a < V.length by omega]
   have hFa:F a=if a=i then vF V a + X else vF V a:=by rw [<- hF];rfl
   have hwa:=hWr a Aa;have hvb:=hvr a Aa;refine ABm (Q:=fun e=>e=(if i < a + 1/\X≠0 then 1 else 0:Int)) ?_ fun e he=>?_
   ·refine AB4 (ACj Aa) rfl (AB4 hva rfl ?_);by_cases hai:a=i
    ·subst hai;rw [if_pos rfl] at hFa;have e0:(if a < a/\X≠0 then 1 else 0:Int)=0:=if_neg (by omega);refine ACk (fun h5=>ABj ?_) fun h5=>ABj ?_
     ·rw [e0,if_pos ⟨by omega,by omega⟩];rfl
     ·rw [e0,if_neg (by omega)]
    ·rw [if_neg hai] at hFa;rw [if_neg (by rw [hFa];simp)];refine ABj ?_;by_cases h6:i < a
     ·simp [h6,show i < a + 1 by omega]
     ·simp [h6,show ¬ i < a + 1 by omega]
   ·subst he;refine ABm (Q:=fun ex=>ex= .inr ()) ?_ fun ex hex=>?_
    ·refine AB4 (ACj Aa) rfl ?_;rw [if_neg (by omega),hQ,Ae,if_neg (by omega)];refine AB4 hva rfl ?_;rw [if_pos (by omega),if_neg ?_]
     ·exact ABj rfl
     ·by_cases hai:a=i
      ·rw [if_pos hai] at hFa;rw [hFa,show vF V a + X - vF V a=X by omega,wk (by omega),Int.tmod_eq_emod_of_nonneg Aj,<- hX];simp
      ·rw [if_neg hai] at hFa;rw [hFa,Int.sub_self,show w64 (0:Int)=0 by decide];simp
    ·subst hex;dsimp only;refine ABm (ACy (fun j s=>s=((psum (fun a=>nqI M.length (ent M) F a * F a) a + psum (fun j=>ent M a j * F j) j * F a) % Q,(j:Int))/\j<=M.length) M.length (Q:=fun e=>e=(psum (fun a=>nqI M.length (ent M) F a * F a) a + psum (fun j=>ent M a j * F j) M.length * F a) % Q) ⟨by simp [psum],Nat.zero_le _⟩ (by omega) fun j s hj hJ=>?_) fun e he=>?_
     ·obtain ⟨rfl,h7⟩:=hJ;unfold AHj;rw [AC8];dsimp only;refine ACk (fun h8=>?_) fun h8=>ABj ?_
      ·have Ac:j < M.length:=by omega
       have hwj:=hWr j Ac
       have hMa:M[a]? =some (ADu M.length (ent M a)):=by
         conv=>lhs;rw [ASg RM]
         exact ADb Aa
       refine AB4 hMa rfl (AB4 (ACj Ac) rfl ?_);rw [hQ,Ae,AX6 (by omega) (by omega)];simp only [Option.bind_some];refine AB4 (ACj Aa) rfl ?_;rw [if_pos (by omega)];refine AB4 (ACj Ac) rfl ?_;have b1:=Int.emod_nonneg (ent M a j) (show Q≠0 by omega);have b2:=Int.emod_lt_of_pos (ent M a j) (show 0 < Q by omega);have b3:0<=ent M a j % Q * F a:=Int.mul_nonneg b1 hwa.1;have b4:=Int.mul_le_mul (show ent M a j % Q<=289 by omega) (show F a<=289 by omega) hwa.1 (by omega);rw [AD6 (x:=ent M a j % Q * F a) (by omega) (by omega),Int.tmod_eq_emod_of_nonneg b3];have b5:=Int.emod_nonneg (ent M a j % Q * F a) (show Q≠0 by omega);have b6:=Int.emod_lt_of_pos (ent M a j % Q * F a) (show 0 < Q by omega);have b7:0<=ent M a j % Q * F a % Q * F j:=Int.mul_nonneg b5 hwj.1;have b8:=Int.mul_le_mul (show ent M a j % Q * F a % Q<=289 by omega) (show F j<=289 by omega) hwj.1 (by omega);rw [AD6 (x:=ent M a j % Q * F a % Q * F j) (by omega) (by omega)];have b9:=Int.emod_nonneg (psum (fun a=>nqI M.length (ent M) F a * F a) a + psum (fun j=>ent M a j * F j) j * F a) (show Q≠0 by omega);have Ba:=Int.emod_lt_of_pos (psum (fun a=>nqI M.length (ent M) F a * F a) a + psum (fun j=>ent M a j * F j) j * F a) (show 0 < Q by omega);rw [AD6 (x:=(psum (fun a=>nqI M.length (ent M) F a * F a) a + psum (fun j=>ent M a j * F j) j * F a) % Q + ent M a j % Q * F a % Q * F j) (by omega) (by omega),AX6 (by omega) (by omega)];simp only [Option.bind_some];refine ABj ⟨by omega,?_,by omega⟩;rw [AG3 (by omega)];refine Prod.ext ?_ rfl;dsimp only;have d1:=(Eqm.mod Q (psum (fun a=>nqI M.length (ent M) F a * F a) a + psum (fun j=>ent M a j * F j) j * F a)).add (((Eqm.mod Q (ent M a j % Q * F a)).trans ((Eqm.mod Q (ent M a j)).mul (Eqm.refl Q (F a)))).mul (Eqm.refl Q (F j)));refine d1.trans (Eqm.of_eq ?_);show _=_ + (psum (fun j=>ent M a j * F j) j + ent M a j * F j) * F a;grind
      ·obtain rfl:j=M.length:=by omega
       rfl
     ·subst he;refine ABj ⟨by omega,?_,by omega⟩;rw [AG3 (by omega)];rfl
  ·obtain rfl:a=M.length:=by omega
   refine ⟨_,by rw [show psum (fun a=>nqI M.length (ent M) F a * F a) M.length % Q=0 from hz],?_⟩;split <;> omega
 ·obtain ⟨c,rfl,Ar⟩:=hex;dsimp only;rw [if_pos Ar,if_pos rfl];exact ABm aw fun x hx=>ABj hx
end Go.Proofs.YtiegjkmfpcgjjaaGreatDoor
