/-
  Texts of a proof, joined. Conditions stand in each statement.
-/
import Derived.ArgAppend
import Derived.Test.YtiegjkmfpcgjjaaGreatDoorMLineLines1
set_option linter.unusedVariables false
set_option linter.unusedSimpArgs false
namespace Go.QF
open Go
theorem Ac7 {h:ABj} {el g:Nat} {v:Value} {l:List Value} (H:AD7 h el g v l):AJw h el 1 g v (l.map fun x=>[x]):=by
 obtain ⟨cap,cur,h1,h2,h3,h4,h5,h6⟩:=H;have hf:∀ l:List Value,(l.map fun x=>[x]).flatten=l:=fun l=>by induction l <;> simp_all
 exact ⟨cap,cur,by rw [List.length_map];exact h1,h2,by rw [List.length_map];exact h3,h4,by omega,fun r hr=>by obtain ⟨x,_,rfl⟩:=List.mem_map.1 hr;rfl,by rw [List.length_map,Nat.mul_one,hf];exact h6⟩
section
variable {P:Program} {B:ABj->Prop} {st:Bool} {ops:Array Oper} {rest:List Oper} {e:Env} {h:ABj} {K:Env->ABj->Prop}
variable {d d':Nat} {ty ty':TypeId} {pos pos':String} {af af':Array Edge}
theorem Axk {t el bytes s:Nat} {z w0:Value} {y:Operand} (l:List Value) (hT:SlT P t el s) (hz:ZeT P el z bytes) (hb:B h) (hy:e.ev y=w0) (Ad:w0.cells=l.toArray) (hl:l.length=s) (Ah:0 < s) (Ai:s<=1000) (H:B (h.push (.cells l.toArray el (0,0)))/\RL P B st ops rest (e.set d (.slice (some ⟨h.size,0,none⟩) 1 1)) (h.push (.cells l.toArray el (0,0))) K):
    RL P B st ops (⟨some d,.buildSlice t 1 #[(0,y)],ty,pos,af,none⟩ :: rest) e h K:=by
 refine APa rfl rfl hb fun w hw=>?_;subst hw;obtain ⟨hu,i0,Aa,Ac⟩:=hT;obtain ⟨i,hi,hzz,hsz,hby⟩:=hz;rw [hi] at Aa;injection Aa with Aa;subst Aa;have h3: ¬ (1 * i.size > 2 ^ 24):=by rw [Ac];omega
 have h4: ¬ (1 * i.size=0):=by rw [Ac];omega
 have hfill:Instr.fill (fun j=>some (j * i.size,i.size)) ((Array.range (1 * i.size)).map (z.cells[· % z.cells.size]!)) [(0,w0)]=some l.toArray:=by
   generalize z.cells=zc
   simp only [Instr.fill,Ad,List.size_toArray,hl,Ac]
   rw [if_neg (by simp)]
   congr 1
   obtain ⟨old,ho⟩:∃ old:List Value,((Array.range (1 * s)).map (zc[· % zc.size]!))=old.toArray:=⟨_,(Array.toArray_toList).symm⟩
   have hol:old.length=l.length:=by have:=congrArg Array.size ho;simp at this;omega
   rw [ho]
   have:=Alp l [] old hol
   simp only [List.nil_append,List.length_nil] at this
   simp only [Nat.zero_mul]
   rw [<- Array.foldl_toList]
   simp only [Array.toList_zipIdx]
   exact this
 have:(execOp e.ev ⟨some d,.buildSlice t 1 #[(0,y)],ty,pos,af,none⟩).run P w= .ok (.value (.slice (some ⟨w.heap.size,0,none⟩) 1 1)) (w.alloc (.cells l.toArray el)):=by
   simp only [execOp,List.map_toArray,List.map,hy]
   simp only [Instr.buildSlice,Sem.run_bind,AM4 hu,Result.andThen,APv hi,if_neg h3,if_neg h4,Anb hi hzz]
   have Ag:Sem.run P (pure z.cells:Sem (Array Value)) w= .ok z.cells w:=rfl
   simp only [Ag]
   rw [hfill]
   simp [newRow]
 rw [this];exact ⟨⟨rfl,rfl,rfl⟩,H⟩
def PU (el:Nat) (v:Value) (h h':ABj):Prop:=Upd (fun k=>v.ownBlock=some k) h h'/\ ∀ g,v.ownBlock=some g-> ∃ cur,h'[g]? =some (.cells cur el (0,0))
theorem Aoi {h h':ABj} {el k lo:Nat} {v:Value} {L:List (List Value)} (H:An5 h el k lo v L) (E:Ext h h'):PU el v h h':=by
 refine ⟨E.upd,fun g hg=>?_⟩;rcases H with ⟨_,rfl⟩ | ⟨g',_,HO⟩
 ·cases hg
 ·rw [HO.blk] at hg;injection hg with hg;subst hg;obtain ⟨cap,cur,_,hgg,_⟩:=HO.ext E;exact ⟨cur,hgg⟩
theorem Ajn {s y:Operand} {t el bytes lo k:Nat} {z v w0:Value} {L:List (List Value)} (u:List Value) (hT:SlT P t el k) (hz:ZeT P el z bytes) (hzk:z.cells.size=k) (Af:B h) (hbB:∀ h',PU el v h h'->B h') (hs:∀ p,(e.set d p).ev s=v) (hy:e.ev y=w0) (Ag:w0.cells=u.toArray) (hu:u.length=k) (hone:∀ x∈u,isOne x=true) (Ah:0 < k) (Ai:k<=1000) (HG:An5 h el k lo v L) (hlo:lo<=h.size) (hby:bytes<=1000) (hl:L.length<=100000000) (H:∀ p v' h',An5 h' el k lo v' (L ++ [u])->PU el v h h'->(v'.ownBlock=v.ownBlock∨ ∃ g,v'.ownBlock=some g/\h.size<=g)->RL P B st ops rest ((e.set d p).set d' v') h' K):
    RL P B st ops (⟨some d,.buildSlice t 1 #[(0,y)],ty,pos,af,none⟩ :: ⟨some d',.call ⟨.builtin .append,#[s,.tmp d],#[t,t]⟩,ty',pos',af',none⟩ :: rest) e h K:=by
 have hsz:L.length * bytes<=100000000 * 1000:=Nat.mul_le_mul hl hby;have Aj:(L.length + 1) * bytes<=140737488355328:=by rw [Nat.add_mul];omega
 refine Axk u hT hz Af hy Ag hu Ah Ai ⟨hbB _ (Aoi HG (AEf _ _)),?_⟩;have hnew:=An6 h el k u hu;have hE:=AEf h (.cells u.toArray el (0,0));have Ak:(h.push (.cells u.toArray el (0,0))).size=h.size + 1:=by simp
 have hone':∀ x∈u,x.oneCell'=true:=fun x hx'=>by have:=hone x hx';cases x <;> first | rfl | cases this
 refine APa rfl rfl (hbB _ (Aoi HG (AEf _ _))) fun w hw=>?_;have hws:w.heap.size=h.size + 1:=by rw [hw];exact Ak
 have hEw:Ext h w.heap:=by rw [hw];exact hE
 obtain ⟨hut,i0,Ab,Aa⟩:=hT;obtain ⟨i,hi,hzz,hszz,hbyy⟩:=hz;rw [hi] at Ab;injection Ab with Ab;subst Ab
 have hnews:∀ j x,u[j]? =some x->w.cell? ((⟨h.size,0,none⟩:Addr).add j)=some x:=fun j x hx=>by
   rw [AGk,Nat.zero_add]
   have:=hnew.cell (i:=0) rfl hx
   rw [Nat.zero_mul,Nat.zero_add] at this
   rw [AYw,hw];exact this
 rcases HG with ⟨rfl,rfl⟩ | ⟨g,hg,HO⟩
 ·have hr:=run_append_nil (P:=P) w t ty' el i z hut hi hzz ⟨h.size,0,none⟩ 1 1 u (by rw [hu,Aa];omega) hnews (by omega) (by omega) (by rw [hbyy];omega)
  have hrun:(execOp (e.set d (.slice (some ⟨h.size,0,none⟩) 1 1)).ev ⟨some d',.call ⟨.builtin .append,#[s,.tmp d],#[t,t]⟩,ty',pos',af',none⟩).run P w= .ok (.value (.slice (some ⟨w.heap.size,0,none⟩) 1 (grownCap w 1 0 el)))
      (w.drew.alloc (.cells (u.toArray ++ Builtin.zeroCells z.cells (grownCap w 1 0 el - 1)) el)):=by
    have hd:(e.set d (.slice (some ⟨h.size,0,none⟩) 1 1)).ev (.tmp d)= .slice (some ⟨h.size,0,none⟩) 1 1:=Env.set_same _ _ _
    simp [execOp,resolve,invoke,builtin,hs,hd,hr]
  rw [hrun];have hge:=grownCap_ge w 1 0 el;have hcm':grownCap w 1 0 el<=maxLen:=grownCap_le_maxLen w _ _ el (by unfold maxLen;omega);refine ⟨⟨rfl,rfl,rfl⟩,hbB _ ?Am,H _ _ _ (.inr ⟨w.heap.size,by omega,?_⟩) ?Am (.inr ⟨w.heap.size,rfl,by omega⟩)⟩;rotate_left
  ·refine ⟨_,_,rfl,heap_alloc_new w.drew _,hge,hcm',?_,by simpa using hu,?_⟩
   ·rw [Array.size_append,size_zeroCells,hzk,List.size_toArray,hu,Nat.sub_mul];have:1 * k<=grownCap w 1 0 el * k:=Nat.mul_le_mul_right k hge;omega
   ·simp only [Array.toList_append];simp only [List.nil_append,List.length_cons,List.length_nil,Nat.zero_add,Nat.one_mul,List.flatten_cons,List.flatten_nil,List.append_nil];rw [<- hu];exact List.take_left
  ·exact ⟨(hEw.trans ⟨by simp,fun k hk=>heap_alloc_old w.drew _ k hk⟩).upd,fun g hg=>by cases hg⟩
 ·have Ac:=HO.ext hE;rw [<- hw] at Ac
  have hcell:∀ j x,L.flatten[j]? =some x->w.cell? ((⟨g,0,none⟩:Addr).add j)=some x:=fun j x hx=>by
    obtain ⟨cap,cur,_,hgg,_,_,_,hkk,ht⟩:=Ac
    rw [AGk,Nat.zero_add,AYw]
    have hj:=(List.getElem?_eq_some_iff.1 hx).1
    rw [AJ3 hkk] at hj
    rw [<- ht,List.getElem?_take,if_pos hj] at hx
    simp only [AEx,hgg]
    simpa using hx
  have Ar:=Ac;obtain ⟨cap,cur,rfl,hgg,hlc,hcm,hcs,hkk,ht⟩:=Ac;have hd:(e.set d (.slice (some ⟨h.size,0,none⟩) 1 1)).ev (.tmp d)= .slice (some ⟨h.size,0,none⟩) 1 1:=Env.set_same _ _ _;have hlu:(L ++ [u]).length=L.length + 1:=by simp
  have hkk':∀ r∈L ++ [u],r.length=k:=by
    intro r hr
    rcases List.mem_append.1 hr with h1 | h1
    · exact hkk r h1
    · rw [List.mem_singleton.1 h1];exact hu
  by_cases hroom:L.length + 1<=cap
  ·have hmul:(L.length + 1) * k<=cap * k:=Nat.mul_le_mul_right k hroom;rw [Nat.add_mul,Nat.one_mul] at hmul;have hr:=run_append_room (P:=P) w t ty' el i hut hi g L.length cap cur hgg ⟨h.size,0,none⟩ 1 1 u (by rw [hu,Aa];omega) hnews hone' hroom (by rw [Aa,hu,hcs];exact hmul)
   have hrun:(execOp (e.set d (.slice (some ⟨h.size,0,none⟩) 1 1)).ev ⟨some d',.call ⟨.builtin .append,#[s,.tmp d],#[t,t]⟩,ty',pos',af',none⟩).run P w= .ok (.value (.slice (some ⟨g,0,none⟩) (L.length + 1) cap)) (w.setRow g (cur.toList.take (L.length * i.size) ++ u ++ cur.toList.drop (L.length * i.size + u.length)).toArray):=by
     simp [execOp,resolve,invoke,builtin,hs,hd,hr]
   rw [hrun];refine ⟨⟨rfl,rfl,rfl⟩,hbB _ ?Ao,H _ _ _ (.inr ⟨g,hg,?_⟩) ?Ao (.inl rfl)⟩;rotate_left
   ·refine ⟨cap,_,by rw [hlu],setRow_heap w g cur _ el (0,0) hgg,by rw [hlu];exact hroom,hcm,?_,hkk',?_⟩
    ·simp only [Aa,List.size_toArray,List.length_append,List.length_take,List.length_drop,Array.length_toList,hcs,hu];omega
    ·simp only [Aa,ht,hlu];rw [List.flatten_append,List.flatten_cons,List.flatten_nil,List.append_nil];have:(L.length + 1) * k=(L.flatten ++ u).length:=by rw [List.length_append,AJ3 hkk,hu,Nat.add_mul,Nat.one_mul]
     rw [this];exact List.take_left
   ·exact ⟨hEw.upd.trans ⟨by simp [World.setRow],fun q hq hne=>setRow_other w g q _ (fun he=>hne (by rw [he];rfl))⟩,fun g' hg'=>by injection hg' with hg';subst hg';exact ⟨_,setRow_heap w g cur _ el (0,0) hgg⟩⟩
  ·have hr:=run_append_grow (P:=P) w t ty' el i z hut hi hzz ⟨g,0,none⟩ L.length cap L.flatten (by rw [AJ3 hkk,Aa]) hcell ⟨h.size,0,none⟩ 1 1 u (by rw [hu,Aa];omega) hnews (by omega)
     (by omega) (by rw [hbyy];exact growslice_fits (by omega) Aj)
   have hrun:(execOp (e.set d (.slice (some ⟨h.size,0,none⟩) 1 1)).ev ⟨some d',.call ⟨.builtin .append,#[s,.tmp d],#[t,t]⟩,ty',pos',af',none⟩).run P w= .ok (.value (.slice (some ⟨w.heap.size,0,none⟩) (L.length + 1) (grownCap w (L.length + 1) cap el)))
       (w.drew.alloc (.cells (L.flatten.toArray ++ u.toArray ++ Builtin.zeroCells z.cells (grownCap w (L.length + 1) cap el - (L.length + 1))) el)):=by
     simp [execOp,resolve,invoke,builtin,hs,hd,hr]
   rw [hrun];have hge:=grownCap_ge w (L.length + 1) cap el;have hcm':grownCap w (L.length + 1) cap el<=maxLen:=grownCap_le_maxLen w _ _ el (by unfold maxLen;omega);refine ⟨⟨rfl,rfl,rfl⟩,hbB _ ?Ap,H _ _ _ (.inr ⟨w.heap.size,by omega,?_⟩) ?Ap (.inr ⟨w.heap.size,rfl,by omega⟩)⟩;rotate_left
   ·refine ⟨_,_,by rw [hlu],heap_alloc_new w.drew _,by rw [hlu];exact hge,hcm',?_,hkk',?_⟩
    ·have hmm:(L.length + 1) * k<=grownCap w (L.length + 1) cap el * k:=Nat.mul_le_mul_right k hge;rw [Nat.add_mul] at hmm;rw [Array.size_append,Array.size_append,size_zeroCells,hzk,List.size_toArray,List.size_toArray,hu,AJ3 hkk,Nat.sub_mul,Nat.add_mul];omega
    ·simp only [Array.toList_append,hlu];rw [List.flatten_append,List.flatten_cons,List.flatten_nil,List.append_nil];have:(L.length + 1) * k=(L.flatten ++ u).length:=by rw [List.length_append,AJ3 hkk,hu,Nat.add_mul,Nat.one_mul]
     rw [this];exact List.take_left
   ·exact ⟨(hEw.trans ⟨by simp,fun k hk=>heap_alloc_old w.drew _ k hk⟩).upd,fun g' hg'=>by injection hg' with hg';subst hg';exact ⟨_,(heap_alloc_old w.drew _ g (Array.getElem?_eq_some_iff.1 hgg).1).trans hgg⟩⟩
theorem Ae4 {k:Nat}:∀ {L:List (List Value)} {i:Nat} {row:List Value},(∀ r∈L,r.length=k)->row.length=k->i < L.length->(L.set i row).flatten=L.flatten.take (i * k) ++ row ++ L.flatten.drop (i * k + k):=by
 intro L
 induction L with
 | nil=>intro i row _ _ h;simp at h
 | cons s L ih=>
   intro i row hk hr hi
   have hs:=hk s (List.mem_cons_self ..)
   cases i with
   | zero=>simp [hs,List.drop_append]
   | succ i=>
     have:=ih (fun r hr=>hk r (List.mem_cons_of_mem _ hr)) hr (by simpa using hi)
     simp only [List.set_cons_succ,List.flatten_cons,this]
     rw [List.take_append,List.drop_append,hs,show (i + 1) * k - k=i * k by rw [Nat.add_mul];omega,show (i + 1) * k + k - k=i * k + k by rw [Nat.add_mul];omega,List.take_of_length_le (l:=s) (by rw [hs,Nat.add_mul];omega),List.drop_of_length_le (l:=s) (by rw [hs,Nat.add_mul];omega)]
     simp
theorem AJw.setAll {el k g n:Nat} {v:Value} {L:List (List Value)} {h h':ABj} {row:List Value} (HO:AJw h el k g v L) (hn:n < L.length) (hrow:row.length=k) (hcur:∀ cur,h[g]? =some (.cells cur el (0,0))->h'[g]? =some (.cells (cur.toList.take (n * k) ++ row ++ cur.toList.drop (n * k + row.length)).toArray el (0,0))):AJw h' el k g v (L.set n row):=by
 obtain ⟨cap,cur,hv,hg,hl,hm,hs,hk,ht⟩:=HO;have hle':n * k + k<=L.length * k:=by rw [<- Nat.succ_mul];exact Nat.mul_le_mul_right k hn
 have hle2':L.length * k<=cap * k:=Nat.mul_le_mul_right k hl;have hcl:L.length * k<=cur.toList.length:=by have:cur.toList.length=cur.size:=Array.length_toList;omega
 refine ⟨cap,_,by rw [List.length_set];exact hv,hcur cur hg,by rw [List.length_set];exact hl,hm,?_,?_,?_⟩
 ·simp only [List.size_toArray,List.length_append,List.length_take,List.length_drop,Array.length_toList,hrow];omega
 ·intro q hq;rcases List.mem_or_eq_of_mem_set hq with hq | rfl
  ·exact hk q hq
  ·exact hrow
 ·rw [List.length_set,Ae4 hk hrow hn,<- ht];have e1:((cur.toList.take (n * k) ++ row ++ cur.toList.drop (n * k + row.length)).toArray).toList=cur.toList.take (n * k) ++ row ++ cur.toList.drop (n * k + row.length):=rfl;rw [e1,List.take_append,List.take_append,List.take_take,List.take_take,Nat.min_eq_right (by omega),Nat.min_eq_left (by omega),List.length_append,List.length_take,Nat.min_eq_left (by omega),hrow];rw [List.take_of_length_le (l:=row) (by rw [hrow];omega),List.drop_take]
theorem Avp {x y:Operand} {t el g s n:Nat} {v:Value} {L:List (List Value)} (row:List Value) (ht:AgT P t s) (hrow:row.length=s) (hx:e.ev x= .pointer (some ⟨g,n * s,none⟩)) (hy:e.ev y= .agg row.toArray) (h1:∀ u∈row,isOne u=true) (HO:AJw h el s g v L) (hn:n < L.length) (H:∀ h',(∀ v L,AJw h el s g v L->n < L.length->AJw h' el s g v (L.set n row))->Upd (· =g) h h'->RL P B st ops rest e h' K):RL P B st ops (⟨none,.store t x y,ty,pos,af,none⟩ :: rest) e h K:=by
 refine Ava rfl rfl fun w hw=>?_;subst hw;obtain ⟨_,i,hi,hsz⟩:=ht;obtain ⟨cap,cur,hv,hg,hl,hm,hs,hk,htk⟩:=HO;have hone':∀ u∈row,u.oneCell'=true:=fun u hu'=>by have:=h1 u hu';cases u <;> first | rfl | cases this
 have hle:n * s + s<=L.length * s:=by rw [<- Nat.succ_mul];exact Nat.mul_le_mul_right s hn
 have Ab:L.length * s<=cap * s:=Nat.mul_le_mul_right s hl;have hr:=run_storeCells_at P g (n * s) el row 0 cur w hg (by rw [hrow,hs];omega) hone'
 have hrun:(execOp e.ev ⟨none,.store t x y,ty,pos,af,none⟩).run P w= .ok .skip (w.setRow g (cur.toList.take (n * s + 0) ++ row ++ cur.toList.drop (n * s + 0 + row.length)).toArray):=by
   simp only [execOp,Instr.storeAt,hx,Instr.sureAddr,hy]
   simp only [Nat.add_zero] at hr
   simp [storeVar,APv hi,Value.cells,hsz,hrow,hr]
 rw [hrun]
 exact ⟨⟨rfl,rfl,rfl⟩,H _ (fun v' L' HO' hn'=>HO'.setAll hn' hrow fun cur' hc'=>by
   rw [hg] at hc'
   injection hc' with hc'
   injection hc' with hc' _ _
   subst hc'
   exact setRow_heap w g cur _ el (0,0) hg) ⟨by simp [World.setRow],fun k hk hne=>setRow_other w g k _ (fun he=>hne he)⟩⟩
theorem Aa5 (a b:Value) (n:Nat):madeCells #[a,b] (n * 2)=((List.replicate n [a,b]).flatten).toArray:=by
 apply Array.ext
 ·simp [madeCells]
 ·intro i h1 h2;have hi:i < n * 2:=by simpa [madeCells] using h1
  simp only [madeCells,Array.getElem_map,Array.getElem_range];have hk:∀ r∈List.replicate n [a,b],r.length=2:=fun r hr=>by rw [(List.mem_replicate.1 hr).2];rfl
  have h3:(List.replicate n [a,b])[i / 2]? =some [a,b]:=by rw [List.getElem?_replicate,if_pos (by omega)]
  have hg:((List.replicate n [a,b]).flatten)[i]? =some (#[a,b][i % 2]!):=by
    have hm:i % 2=0∨i % 2=1:=by omega
    rcases hm with hm | hm
    · have:=AVs hk h3 (j:=0) (x:=a) rfl
      rw [show i / 2 * 2 + 0=i by omega] at this
      rw [this,hm];rfl
    · have:=AVs hk h3 (j:=1) (x:=b) rfl
      rw [show i / 2 * 2 + 1=i by omega] at this
      rw [this,hm];rfl
  have hl:i < ((List.replicate n [a,b]).flatten).length:=by rw [AJ3 hk];simp;omega
  rw [List.getElem?_eq_getElem hl] at hg;injection hg with hg;simpa using hg.symm
theorem Avq {x y:Operand} {t el n bytes:Nat} {a b:Value} (hT:SlT P t el 2) (hz:ZeT P el (.agg #[a,b]) bytes) (hb:B h) (hx:e.ev x= .int .i64 (n:Int)) (hy:e.ev y= .int .i64 (n:Int)) (hby:bytes<=1000) (hn:n<=100000000)
    (H:∀ h',AJw h' el 2 h.size (.slice (some ⟨h.size,0,none⟩) n n) (List.replicate n [a,b])->Ext h h'->h.size < h'.size->B h'->RL P B st ops rest (e.set d (.slice (some ⟨h.size,0,none⟩) n n)) h' K) (hbB:B (h.push (.cells ((List.replicate n [a,b]).flatten).toArray el (0,0)))):
    RL P B st ops (⟨some d,.makeSlice t x y,ty,pos,af,none⟩ :: rest) e h K:=by
  have h1:bytes * n<=1000 * 100000000:=Nat.mul_le_mul hby hn;refine APa rfl rfl hb fun w hw=>?_;subst hw;obtain ⟨hu,i0,hi0,hs0⟩:=hT;obtain ⟨i,hi,hzz,hsz,hby'⟩:=hz;rw [hi] at hi0;injection hi0 with hi0;subst hi0;have hr:=run_make (P:=P) w t el i (.agg #[a,b]) hu hi hzz .i64 .i64 (n:Int) (n:Int) (by omega) (by omega) (by rw [hby'];omega) (by omega)
  have:(execOp e.ev ⟨some d,.makeSlice t x y,ty,pos,af,none⟩).run P w= .ok (.value (.slice (some ⟨w.heap.size,0,none⟩) n n)) (w.alloc (.cells ((List.replicate n [a,b]).flatten).toArray el)):=by
    simp only [execOp,hx,hy];have hc:(Value.agg #[a,b]).cells= #[a,b]:=rfl;simp only [Int.toNat_natCast,hs0,hc,Aa5] at hr;simp [hr]
  rw [this];have hk:∀ r∈List.replicate n [a,b],r.length=2:=fun r hr=>by rw [(List.mem_replicate.1 hr).2];rfl
  refine ⟨⟨rfl,rfl,rfl⟩,hbB,H _ ⟨n,((List.replicate n [a,b]).flatten).toArray,by simp,heap_alloc_new w _,by simp,by unfold maxLen;omega,?_,hk,?_⟩ (AEf _ _) (by simp) hbB⟩
  · rw [List.size_toArray,AJ3 hk];simp
  · rw [show ((List.replicate n [a,b]).flatten).toArray.toList=(List.replicate n [a,b]).flatten from rfl];exact List.take_of_length_le (by rw [AJ3 hk];exact Nat.le_refl _)
theorem AVv {x i:Operand} {t el er s g:Nat} {v:Value} {L:List (List Value)} {k:IntKind} {n:Nat} {h0:ABj} (hT:SlT P t el s) (hx:e.ev x=v) (HO:AJw h0 er s g v L) (hi:e.ev i= .int k (n:Int)) (hn:n < L.length) (H:RL P B st ops rest (e.set d (.pointer (some ⟨g,n * s,none⟩))) h K):RL P B st ops (⟨some d,.indexAddr t x i,ty,pos,af,none⟩ :: rest) e h K:=by
 obtain ⟨cap,cur,rfl,_⟩:=HO;refine Ane hT hx hi (by omega) (by omega) ?_;have he:(⟨g,0,none⟩:Addr).add ((n:Int).toNat * s)=⟨g,n * s,none⟩:=by rw [AGk];simp
 rw [he];exact H
theorem AIw {α:Type} {c:Cod α} {x i:Operand} {t el:Nat} {v:Value} {L:List α} {κ:IntKind} {n:Int} {a:α} {h0:ABj} (hT:SlT P t el c.k) (hx:e.ev x=v) (HS:SlC c h0 v L) (hi:e.ev i= .int κ n) (ha:gI L n=some a) (H:∀ b o cs,c.rep h0 a cs->(∀ j u,cs[j]? =some u->AEx h0 ⟨b,o + j,none⟩=some u)->RL P B st ops rest (e.set d (.pointer (some ⟨b,o,none⟩))) h K):RL P B st ops (⟨some d,.indexAddr t x i,ty,pos,af,none⟩ :: rest) e h K:=by
 obtain ⟨m,rfl,Ab⟩:=AJ1 ha;clear ha;have ha:=Ab;obtain ⟨Ls,⟨ad,cap,rfl,hc⟩,HA⟩:=HS;obtain ⟨cs,hcs,hrep⟩:=HA.get ha;obtain ⟨b,o,rfl,hcu⟩:=hc m cs hcs;have hn:=(List.getElem?_eq_some_iff.1 hcs).1;refine Ane hT hx hi (by omega) (by omega) ?_;have he:(⟨b,o,none⟩:Addr).add ((m:Int).toNat * c.k)=⟨b,o + m * c.k,none⟩:=by rw [AGk];simp
 rw [he];exact H b _ cs hrep hcu
theorem AIx {α:Type} {c:Cod α} {x i:Operand} {t el:Nat} {v:Value} {M:List (List α)} {κ:IntKind} {n:Int} {L:List α} {h0:ABj} (hT:SlT P t el 1) (hx:e.ev x=v) (HS:AFo c h0 v M) (hi:e.ev i= .int κ n) (ha:gI M n=some L) (H:∀ b o r,AEx h0 ⟨b,o,none⟩=some r->SlC c h0 r L->RL P B st ops rest (e.set d (.pointer (some ⟨b,o,none⟩))) h K):RL P B st ops (⟨some d,.indexAddr t x i,ty,pos,af,none⟩ :: rest) e h K:=by
 obtain ⟨m,rfl,Ab⟩:=AJ1 ha;clear ha;have ha:=Ab;obtain ⟨_,rs,⟨ad,cap,rfl,hc⟩,hl,HA⟩:=HS;have hm:=(List.getElem?_eq_some_iff.1 ha).1;obtain ⟨r,hr⟩:∃ r,rs[m]? =some r:=⟨rs[m]'(by omega),List.getElem?_eq_getElem _⟩;obtain ⟨b,o,rfl,hcu⟩:=hc m [r] (by simp [hr]);refine Ane hT hx hi (by omega) (by simp;omega) ?_;have he:(⟨b,o,none⟩:Addr).add ((m:Int).toNat * 1)=⟨b,o + m * 1,none⟩:=by rw [AGk];simp
 rw [he];exact H b _ r (hcu 0 r rfl) (HA m r L hr ha)
theorem AVw {α:Type} {c:Cod α} {er el:Nat} {h0:ABj} {F:List Nat} {Gs:List (List Nat)} {rs:List Value} {v:Value} {M:List (List α)} {n:Nat} {L:List α} (HO:AFh c er el h0 F Gs rs v M) (ha:M[n]? =some L):∃ b r,F=b :: Gs.flatten/\AJw h0 er 1 b v (rs.map fun r=>[r])/\rs[n]? =some r/\n < rs.length:=by
 rcases HO with ⟨rfl,_⟩ | ⟨b,hF,hn,h2,h3,h4,h5,h6⟩
 ·simp at ha
 ·have hm:=(List.getElem?_eq_some_iff.1 ha).1;exact ⟨b,rs[n]'(by omega),hF,h2,List.getElem?_eq_getElem _,by omega⟩
theorem ADx {α:Type} {c:Cod α} {x i:Operand} {t el0 er el:Nat} {F:List Nat} {Gs:List (List Nat)} {rs:List Value} {v:Value} {M:List (List α)} {κ:IntKind} {n:Int} {L:List α} {h0:ABj} (hT:SlT P t el0 1) (hx:e.ev x=v) (HO:AFh c er el h0 F Gs rs v M) (hi:e.ev i= .int κ n) (ha:gI M n=some L)
    (H:∀ b r,F=b :: Gs.flatten->rs[n.toNat]? =some r->AEx h0 ⟨b,n.toNat,none⟩=some r->RL P B st ops rest (e.set d (.pointer (some ⟨b,n.toNat,none⟩))) h K):RL P B st ops (⟨some d,.indexAddr t x i,ty,pos,af,none⟩ :: rest) e h K:=by
  obtain ⟨m,rfl,hm0⟩:=AJ1 ha;clear ha;have ha:=hm0;obtain ⟨b,r,hF,h2,hr,hm⟩:=AVw HO ha;have hcell:=h2.cell (i:=m) (j:=0) (r:=[r]) (x:=r) (by simp [hr]) rfl;refine AVv (er:=er) (n:=m) hT hx h2 hi (by simpa using hm) ?_;rw [Nat.mul_one];rw [Nat.mul_one,Nat.add_zero] at hcell;exact H b r hF hr hcell
theorem AOk {α:Type} {c:Cod α} {x i:Operand} {t el0 el:Nat} {F:List Nat} {v:Value} {L:List α} {κ:IntKind} {n:Int} {a:α} {h0:ABj} (hT:SlT P t el0 c.k) (hx:e.ev x=v) (HO:OwC c el h0 F v L) (hi:e.ev i= .int κ n) (ha:gI L n=some a)
    (H:∀ g,F=[g]->RL P B st ops rest (e.set d (.pointer (some ⟨g,n.toNat * c.k,none⟩))) h K):RL P B st ops (⟨some d,.indexAddr t x i,ty,pos,af,none⟩ :: rest) e h K:=by
  obtain ⟨m,rfl,hm0⟩:=AJ1 ha;clear ha;have ha:=hm0
  rcases HO with ⟨rfl,_⟩ | ⟨g,Ls,hF,h2,h3,_⟩
  · simp at ha
  · have hm:=(List.getElem?_eq_some_iff.1 ha).1;exact AVv (er:=el) (n:=m) hT hx h2 hi (by rw [h3.1];exact hm) (H g hF)
theorem OwC.cells {α:Type} {c:Cod α} {el g:Nat} {v:Value} {L:List α} {n:Int} {a:α} {h0:ABj} {F:List Nat} (HO:OwC c el h0 F v L) (hF:F=[g]) (ha:gI L n=some a):∃ cs,c.rep h0 a cs/\ ∀ j u,cs[j]? =some u->AEx h0 ⟨g,n.toNat * c.k + j,none⟩=some u:=by
 obtain ⟨m,rfl,Ab⟩:=AJ1 ha;clear ha;have ha:=Ab;rcases HO with ⟨rfl,_⟩ | ⟨g',Ls,hF',h2,h3,_⟩
 ·simp at ha
 ·rw [hF] at hF';injection hF' with hg;subst hg;obtain ⟨cs,hcs,hrep⟩:=h3.get ha;exact ⟨cs,hrep,fun j u hu=>h2.cell hcs hu⟩
theorem AFd {α:Type} {c:Cod α} {x i:Operand} {t el0 er el:Nat} {F:List Nat} {Gs:List (List Nat)} {rs:List Value} {v r:Value} {M:List (List α)} {κ:IntKind} {m n:Int} {L:List α} {a:α} {h0:ABj} (hT:SlT P t el0 c.k) (hx:e.ev x=r) (HO:AFh c er el h0 F Gs rs v M) (hr:rs[m.toNat]? =some r) (hL:gI M m=some L) (hi:e.ev i= .int κ n) (ha:gI L n=some a)
    (H:∀ g,Gs[m.toNat]? =some [g]->RL P B st ops rest (e.set d (.pointer (some ⟨g,n.toNat * c.k,none⟩))) h K):RL P B st ops (⟨some d,.indexAddr t x i,ty,pos,af,none⟩ :: rest) e h K:=by
  obtain ⟨q,rfl,hm0⟩:=AJ1 hL;clear hL;have hL:=hm0;obtain ⟨G,hG,HR,_⟩:=HO.row hr hL;exact AOk hT hx HR hi ha fun g hg=>H g (hg ▸ hG)
theorem AFh.cells {α:Type} {c:Cod α} {er el g:Nat} {F:List Nat} {Gs:List (List Nat)} {rs:List Value} {v:Value} {M:List (List α)} {m n:Int} {L:List α} {a:α} {h0:ABj} (HO:AFh c er el h0 F Gs rs v M) (hG:Gs[m.toNat]? =some [g]) (hL:gI M m=some L) (ha:gI L n=some a):∃ cs,c.rep h0 a cs/\ ∀ j u,cs[j]? =some u->AEx h0 ⟨g,n.toNat * c.k + j,none⟩=some u:=by
 obtain ⟨q,rfl,Ab⟩:=AJ1 hL;clear hL;have hL:=Ab;obtain ⟨b,r,hF,h2,hr,hm⟩:=AVw HO hL;obtain ⟨G,hG',HR,_⟩:=HO.row hr hL;rw [Int.toNat_natCast,hG'] at hG;injection hG with hG;subst hG;exact HR.cells rfl ha
theorem AVx {α:Type} {c:Cod α} {x:Operand} {t b o:Nat} {a:α} {cs:List Value} (ht:AgT P t c.k) (hx:e.ev x= .pointer (some ⟨b,o,none⟩)) (hrep:c.rep h a cs) (hc:∀ j u,cs[j]? =some u->AEx h ⟨b,o + j,none⟩=some u) (H:RL P B false ops rest (e.set d (.agg cs.toArray)) h K):
    RL P B false ops (⟨some d,.load t x,ty,pos,af,none⟩ :: rest) e h K:=
  AHm cs ht (c.klen hrep) hx (fun i u hu=>by rw [AGk];exact hc i u hu) H
theorem AU9 {α:Type} {c:Cod α} {x:Operand} {t b o:Nat} {a:α} {cs:List Value} {h0:ABj} (ht:AgT P t c.k) (hx:e.ev x= .pointer (some ⟨b,o,none⟩)) (hrep:c.rep h0 a cs) (hb:B h) (hB:∀ h',B h'-> ∀ j u,cs[j]? =some u->AEx h' ⟨b,o + j,none⟩=some u) (H:RL P B true ops rest (e.set d (.agg cs.toArray)) h K):
    RL P B true ops (⟨some d,.load t x,ty,pos,af,none⟩ :: rest) e h K:=
  AEy cs ht (c.klen hrep) hx hb (fun h' hb i u hu=>by rw [AGk];exact hB h' hb i u hu) H
theorem AD1 {α:Type} {c:Cod α} {x:Operand} {t el s:Nat} {v:Value} {L:List α} {h0:ABj} (hT:SlT P t el s) (hx:e.ev x=v) (HI:SlC c h0 v L) (H:RL P B st ops rest (e.set d (.int .i64 (L.length:Int))) h K):
    RL P B st ops (⟨some d,.call ⟨.builtin .len,#[x],#[t]⟩,ty,pos,af,none⟩ :: rest) e h K:=by
 obtain ⟨Ls,⟨a,cap,rfl,_⟩,HA⟩:=HI;rw [HA.1] at hx;exact Aej hT hx H
theorem ADh {α:Type} {c:Cod α} {x:Operand} {t el s:Nat} {v:Value} {M:List (List α)} {h0:ABj} (hT:SlT P t el s) (hx:e.ev x=v) (HI:AFo c h0 v M) (H:RL P B st ops rest (e.set d (.int .i64 (M.length:Int))) h K):
    RL P B st ops (⟨some d,.call ⟨.builtin .len,#[x],#[t]⟩,ty,pos,af,none⟩ :: rest) e h K:=by
 obtain ⟨_,rs,⟨a,cap,rfl,_⟩,hl,_⟩:=HI;rw [List.length_map,hl] at hx;exact Aej hT hx H
def Ar3 (P:Program) (B:ABj->Prop) (st:Bool) (ops:Array Oper) (rest:List Oper) (e:Env) (h:ABj) (K:Env->ABj->Prop) (o:Oper) (el k g n:Nat) (row:List Value):Prop:=
  ∀ (v:Value) (L:List (List Value)),AJw h el k g v L->n < L.length->(∀ h',(∀ v' L',AJw h el k g v' L'->n < L'.length->AJw h' el k g v' (L'.set n row))->Upd (· =g) h h'->RL P B st ops rest e h' K)->RL P B st ops (o :: rest) e h K
theorem AT8 {x y:Operand} {t el g s n:Nat} {row:List Value} (ht:AgT P t s) (hrow:row.length=s) (hx:e.ev x= .pointer (some ⟨g,n * s,none⟩)) (hy:e.ev y= .agg row.toArray) (h1:∀ u∈row,isOne u=true):Ar3 P B st ops rest e h K ⟨none,.store t x y,ty,pos,af,none⟩ el s g n row:=
  fun v L HO hn H=>Avp row ht hrow hx hy h1 HO hn H
theorem AGf {x y:Operand} {t el g n:Nat} {u:Value} (ht:NaT P t) (hx:e.ev x= .pointer (some ⟨g,n * 1,none⟩)) (hy:e.ev y=u) (h1:isOne u=true):Ar3 P B st ops rest e h K ⟨none,.store t x y,ty,pos,af,none⟩ el 1 g n [u]:=by
 intro v L HO hn H;rw [Nat.mul_one] at hx
 have hl:∀ v' L',AJw h el 1 g v' L'->n < L'.length-> ∃ x0,L'[n]? =some [x0]:=fun v' L' HO' hn'=>by
   obtain ⟨_,_,_,_,_,_,_,hk,_⟩:=HO'
   have:=hk (L'[n]'hn') (List.getElem_mem _)
   obtain ⟨x0,Ab⟩:=List.length_eq_one_iff.1 this
   exact ⟨x0,by rw [List.getElem?_eq_getElem hn',Ab]⟩
 obtain ⟨x0,Ab⟩:=hl v L HO hn;have hc:=HO.cell Ab (j:=0) (x:=x0) rfl;rw [Nat.mul_one,Nat.add_zero] at hc;refine Avb ht hx hy h1 hc (HO.free _) (H _ (fun v' L' HO' hn'=>?_) (AHe _ _ _));obtain ⟨x1,Ad⟩:=hl v' L' HO' hn';have:=HO'.set (j:=0) u Ad (by decide);rw [Nat.mul_one,Nat.add_zero] at this;exact this
theorem Abm {α:Type} {c:Cod α} {o:Oper} {el g:Nat} {F:List Nat} {v:Value} {L:List α} {n:Int} {a a':α} {cs:List Value} (HS:Ar3 P B st ops rest e h K o el c.k g n.toNat cs) (HO:OwC c el h F v L) (hF:F=[g]) (ha:gI L n=some a) (hrep:c.rep h a' cs) (H:∀ h',OwC c el h' F v (sI L n a')->UpT F h h'->RL P B st ops rest e h' K):RL P B st ops (o :: rest) e h K:=by
 obtain ⟨m,rfl,Ad⟩:=AJ1 ha;clear ha;have ha:=Ad;rw [Int.toNat_natCast] at HS;have hnd:=HO.notD;rcases HO with ⟨rfl,_⟩ | ⟨g',Ls,hF',h2,h3,h4⟩
 ·simp at ha
 ·rw [hF] at hF';injection hF' with hg;subst hg;have hm:=(List.getElem?_eq_some_iff.1 ha).1;refine HS v Ls h2 (by rw [h3.1];exact hm) fun h' hS hU=>?_;have h2':=hS v Ls h2 (by rw [h3.1];exact hm);have U:UpT F h h':=ASb hU (by simp [hF]) (fun b hb _=>hnd b hb) (h2'.notD h4);exact H h' (.inr ⟨g,_,hF,h2',(h3.set m hrep).upT U,h4⟩) U
theorem AZm {Gs:List (List Nat)} (hn:Gs.flatten.Nodup) {i j g:Nat} {G:List Nat} (hi:Gs[i]? =some [g]) (hj:Gs[j]? =some G) (hg:g∈G):i=j:=by
 by_cases hij:i=j
 ·exact hij
 ·exact absurd hg (Ae3 hn hi hj hij g (by simp))
theorem AJ5 {α:Type} {c:Cod α} {o:Oper} {er el g:Nat} {F:List Nat} {Gs:List (List Nat)} {rs:List Value} {v:Value} {M:List (List α)} {m n:Int} {L:List α} {a a':α} {cs:List Value} (HS:Ar3 P B st ops rest e h K o el c.k g n.toNat cs) (HO:AFh c er el h F Gs rs v M) (hG:Gs[m.toNat]? =some [g]) (hL:gI M m=some L) (ha:gI L n=some a) (hrep:c.rep h a' cs) (H:∀ h',AFh c er el h' F Gs rs v (sI M m (sI L n a'))->UpT F h h'->RL P B st ops rest e h' K):RL P B st ops (o :: rest) e h K:=by
 obtain ⟨i,rfl,Ae⟩:=AJ1 hL;clear hL;have hL:=Ae;rw [Int.toNat_natCast] at hG;have hnd:=HO.notD;obtain ⟨b,r,hFb,Am,hr,hi⟩:=AVw HO hL;obtain ⟨G,hG',HR,hGF⟩:=HO.row hr hL;rw [hG] at hG';injection hG' with hG';subst hG';obtain ⟨j,rfl,ha'⟩:=AJ1 ha;rcases HO with ⟨rfl,_⟩ | ⟨b',hF',hn,h2,h3,h4,h5,h6⟩
 ·simp at hL
 rcases HR with ⟨_,_,Aa⟩ | ⟨g',Ls,Aa,Ad,Ab,Ac⟩
 ·cases Aa
 injection Aa with Aa;subst Aa;have hj:=(List.getElem?_eq_some_iff.1 ha').1;rw [Int.toNat_natCast] at HS;refine HS r Ls Ad (by rw [Ab.1];exact hj) fun h' hS hU=>?_;have hk2':=hS r Ls Ad (by rw [Ab.1];exact hj);have U:UpT F h h':=ASb hU (hGF g (by simp)) (fun b hb _=>hnd b hb) (hk2'.notD Ac)
 have hbg:b'≠g:=fun he=>by
   rw [hF'] at hn
   exact (List.nodup_cons.1 hn).1 (he ▸ AFp hG (by simp))
 refine H h' (.inr ⟨b',hF',hn,h2.upd hU hbg,h3,by simp [sI,h4],by simp [sI,h5],fun i' G' r' L' hGi hri hLi=>?_⟩) U;by_cases hii:i'=i
 ·subst hii;rw [hG] at hGi;injection hGi with hGi;subst hGi;rw [hr] at hri;injection hri with hri;subst hri
  have:L'=sI L (j:Int) a':=by
    simp only [sI,Int.toNat_natCast] at hLi ⊢
    rw [List.getElem?_set_self (List.getElem?_eq_some_iff.1 hL).1] at hLi
    exact (Option.some.inj hLi).symm
  subst this;refine .inr ⟨g,_,rfl,hk2',?_,Ac⟩;simp only [sI,Int.toNat_natCast];exact (Ab.set j hrep).upT U
 ·have hLi':M[i']? =some L':=by
    simp only [sI,Int.toNat_natCast] at hLi
    rwa [List.getElem?_set_ne (fun he=>hii he.symm)] at hLi
  have U1:UpT [g] h h':=ASb hU (by simp) (fun b hb _=>hnd b (hGF b hb)) (hk2'.notD Ac)
  exact (h6 i' G' r' L' hGi hri hLi').upT U1 fun x hx hxg=>by
    rw [List.mem_singleton.1 hxg] at hx
    rw [hF'] at hn
    exact hii (AZm (List.nodup_cons.1 hn).2 hG hGi hx).symm
theorem AXn {α:Type} {c:Cod α} {x y:Operand} {t er el:Nat} {F F':List Nat} {Gs:List (List Nat)} {rs:List Value} {v r':Value} {M:List (List α)} {n:Int} {L L':List α} (ht:NaT P t) (HO:AFh c er el h F Gs rs v M) (hL:gI M n=some L) {b:Nat} (hF:F=b :: Gs.flatten) (hx:e.ev x= .pointer (some ⟨b,n.toNat,none⟩)) (hy:e.ev y=r') (HR:OwC c el h F' r' L') (hd:∀ z∈F',z ∉ F)
    (H:∀ h',AFh c er el h' (b :: (Gs.set n.toNat F').flatten) (Gs.set n.toNat F') (rs.set n.toNat r') v (sI M n L')->UpT F h h'->(∀ z∈b :: (Gs.set n.toNat F').flatten,z∈F ++ F')->RL P B st ops rest e h' K):RL P B st ops (⟨none,.store t x y,ty,pos,af,none⟩ :: rest) e h K:=by
  obtain ⟨i,rfl,hm0⟩:=AJ1 hL;clear hL;have hL:=hm0;simp only [Int.toNat_natCast,sI] at hx H ⊢;have hnd:=HO.notD;have hlt:=HR.lt;have hi:=(List.getElem?_eq_some_iff.1 hL).1
  rcases HO with ⟨rfl,_⟩ | ⟨b',hF',hn,h2,h3,h4,h5,h6⟩
  · simp at hL
  rw [hF] at hF';injection hF' with hF';subst hF'
  have hsub:∀ z∈b :: (Gs.set i F').flatten,z∈F ++ F':=by
    intro z hz
    rcases List.mem_cons.1 hz with rfl | hz
    · simp [hF]
    · rcases AKn hz with h7 | ⟨j,G,_,hG,hz⟩
      · simp [h7]
      · rw [hF];simp only [List.cons_append,List.mem_cons,List.mem_append];exact .inr (.inl (AFp hG hz))
  rw [hF] at hn;have hnf:=List.nodup_cons.1 hn;refine (AGf (n:=i) (el:=er) (g:=b) ht (by rw [Nat.mul_one];exact hx) hy HR.isOne) v _ h2 (by simpa using (by omega:i < rs.length)) fun h' hS hU=>?_;have h2':=hS v _ h2 (by simpa using (by omega:i < rs.length));have U:UpT F h h':=ASb hU (by simp [hF]) (fun b hb _=>hnd b hb) (h2'.notD h3);have U1:UpT [b] h h':=ASb hU (by simp) (fun x hx _=>hnd x (by rw [List.mem_singleton.1 hx,hF];simp)) (h2'.notD h3)
  refine H h' (.inr ⟨b,rfl,?_,by rw [List.map_set];exact h2',h3,by simp [h4],by simp [h5],fun i' G' r2 L2 hGi hri hLi=>?_⟩) U hsub
  · refine List.nodup_cons.2 ⟨fun hz=>?_,ANd hnf.2 HR.nodup fun z hz j G _ hG hzG=>?_⟩
    · rcases AKn hz with h7 | ⟨j,G,_,hG,hz⟩
      · exact hd b h7 (by rw [hF];simp)
      · exact hnf.1 (AFp hG hz)
    · exact hd z hz (by rw [hF];exact List.mem_cons_of_mem _ (AFp hG hzG))
  · by_cases hii:i'=i
    · subst hii;rw [List.getElem?_set_self (by omega)] at hGi hri hLi;injection hGi with hGi;injection hri with hri;injection hLi with hLi;subst hGi;subst hri;subst hLi;exact HR.upT U hd
    · rw [List.getElem?_set_ne (fun he=>hii he.symm)] at hGi hri hLi
      exact (h6 i' G' r2 L2 hGi hri hLi).upT U1 fun z hz hzb=>by
        rw [List.mem_singleton.1 hzb] at hz;exact hnf.1 (AFp hGi hz)
theorem ASc {α:Type} {c:Cod α} {x y:Operand} {t el bytes:Nat} {n:Int} {z:Value} {a:α} (hT:SlT P t el 1) (hz:ZeT P el z bytes) (h1:isOne z=true) (hk:c.k=1) (hrep:∀ h,c.rep h a [z]) (hel:Nat.beq el 147=false) (hb:B h) (hBE:∀ h',Ext h h'->B h') (hx:e.ev x= .int .i64 n) (hy:e.ev y= .int .i64 n) (hby:bytes<=1000) (hn:0<=n/\n<=100000000) (H:∀ b v h',OwC c el h' [b] v (List.replicate n.toNat a)->Ext h h'->h.size<=b->b < h'.size->RL P B st ops rest (e.set d v) h' K):
    RL P B st ops (⟨some d,.makeSlice t x y,ty,pos,af,none⟩ :: rest) e h K:=by
 obtain ⟨m,rfl⟩:∃ m:Nat,n=m:=⟨n.toNat,by omega⟩;have h2:bytes * m<=1000 * 100000000:=Nat.mul_le_mul hby (by omega);refine Ahf hT hz h1 hb hx hy (by omega) (by omega) ⟨hBE _ (AEf _ _),?_⟩;rw [Int.toNat_natCast] at H;refine H h.size _ _ (.inr ⟨h.size,_,rfl,by rw [hk];exact Ac7 (ATi h el m z (by unfold maxLen;omega)),?_,hel⟩) (AEf _ _) (Nat.le_refl _) (by simp);rw [List.map_replicate];exact Aoe (hrep _) m
theorem Avr {x y:Operand} {t el bytes:Nat} {n:Int} (hT:SlT P t el 2) (hz:ZeT P el (.agg #[.bool false,.slice none 0 0]) bytes) (hel:Nat.beq el 147=false) (hb:B h) (hBE:∀ h',Ext h h'->B h') (hx:e.ev x= .int .i64 n) (hy:e.ev y= .int .i64 n) (hby:bytes<=1000) (hn:0<=n/\n<=100000000) (H:∀ b v h',OwC cZ el h' [b] v (List.replicate n.toNat 0)->Ext h h'->h.size<=b->b < h'.size->RL P B st ops rest (e.set d v) h' K):
    RL P B st ops (⟨some d,.makeSlice t x y,ty,pos,af,none⟩ :: rest) e h K:=by
 obtain ⟨m,rfl⟩:∃ m:Nat,n=m:=⟨n.toNat,by omega⟩;rw [Int.toNat_natCast] at H;refine Avq hT hz hb hx hy hby (by omega) (fun h' HO E hlt _=>H h.size _ _ (.inr ⟨h.size,_,rfl,HO,Aoe (c:=cZ) (show cZ.rep h' 0 _ from ⟨rfl,⟨false,_,[],rfl,AWv _ _,AWw,by simp,rfl⟩⟩) m,hel⟩) E (Nat.le_refl _) hlt) (hBE _ (AEf _ _))
theorem AVy {α:Type} (c:Cod α) (el:Nat) {x y:Operand} {t er bytes:Nat} {n:Int} (hT:SlT P t er 1) (hz:ZeT P er (.slice none 0 0) bytes) (her:Nat.beq er 147=false) (hb:B h) (hBE:∀ h',Ext h h'->B h') (hx:e.ev x= .int .i64 n) (hy:e.ev y= .int .i64 n) (hby:bytes<=1000) (hn:0<=n/\n<=100000000) (H:∀ F Gs rs v h',AFh c er el h' F Gs rs v (List.replicate n.toNat [])->Ext h h'->Sp h' h.size [F]->RL P B st ops rest (e.set d v) h' K):
    RL P B st ops (⟨some d,.makeSlice t x y,ty,pos,af,none⟩ :: rest) e h K:=by
 obtain ⟨m,rfl⟩:∃ m:Nat,n=m:=⟨n.toNat,by omega⟩;rw [Int.toNat_natCast] at H;have h2:bytes * m<=1000 * 100000000:=Nat.mul_le_mul hby (by omega);refine Ahf hT hz rfl hb hx hy (by omega) (by omega) ⟨hBE _ (AEf _ _),?_⟩;have hf:(List.replicate m ([]:List Nat)).flatten=[]:=by induction m <;> simp_all [List.replicate_succ]
 refine H [h.size] (List.replicate m []) (List.replicate m (.slice none 0 0)) _ _ (.inr ⟨h.size,by rw [hf],by simp,Ac7 (ATi h er m _ (by unfold maxLen;omega)),her,by simp,by simp,fun i G r L hG hr hL=> .inl ⟨?_,?_,?_⟩⟩) (AEf _ _) (AGy (Nat.le_refl _) (by simp))
 ·exact List.eq_of_mem_replicate (List.mem_of_getElem? hL)
 ·exact List.eq_of_mem_replicate (List.mem_of_getElem? hr)
 ·exact List.eq_of_mem_replicate (List.mem_of_getElem? hG)
theorem Alr {α:Type} {c:Cod α} {h:ABj} {a:α} {cs:List Value} (hrep:c.rep h a cs):(c.val cs).cells=cs.toArray:=by
 unfold Cod.val;have h1:=c.one hrep;have h2:=c.klen hrep
 cases hag:c.ag with
 | true=>rfl
 | false=>
   rw [c.sc hag] at h2
   obtain ⟨u,rfl⟩:=List.length_eq_one_iff.1 h2
   have:=h1 u (by simp)
   simp only [cond_false,List.headD]
   cases u <;> first | rfl | cases this
theorem AOc {α:Type} {c:Cod α} {s y:Operand} {t el bytes:Nat} {z v:Value} {F:List Nat} {L:List α} {a:α} {cs:List Value} (hT:SlT P t el c.k) (hz:ZeT P el z bytes) (hzk:z.cells.size=c.k) (hel:Nat.beq el 147=false) (hb0:B h) (hbB:∀ h',UpT F h h'->B h') (hs:∀ p,(e.set d p).ev s=v) (hy:e.ev y=c.val cs) (hrep:c.rep h a cs) (HO:OwC c el h F v L) (hby:bytes<=1000) (hl:L.length<=100000000)
    (H:∀ p F' v' h',OwC c el h' F' v' (L ++ [a])->UpT F h h'->(∀ x∈F',x∈F∨h.size<=x)->RL P B st ops rest ((e.set d p).set d' v') h' K):
    RL P B st ops (⟨some d,.buildSlice t 1 #[(0,y)],ty,pos,af,none⟩ :: ⟨some d',.call ⟨.builtin .append,#[s,.tmp d],#[t,t]⟩,ty',pos',af',none⟩ :: rest) e h K:=by
  have hG:∃ Ls,An5 h el c.k 0 v Ls/\Al c h L Ls/\(∀ x,v.ownBlock=some x->x∈F)/\(∀ x∈F,v.ownBlock=some x):=by
    rcases HO with ⟨rfl,rfl,rfl⟩ | ⟨g,Ls,rfl,h2,h3,h4⟩
    · exact ⟨[],.inl ⟨rfl,rfl⟩,Aod c h,(fun x hx=>by cases hx),(fun x hx=>by simp at hx)⟩
    · exact ⟨Ls,.inr ⟨g,Nat.zero_le _,h2⟩,h3,fun x hx=>by rw [h2.blk] at hx;injection hx with hx;simp [hx],fun x hx=>by rw [List.mem_singleton.1 hx];exact h2.blk⟩
  obtain ⟨Ls,HG,HA,hFb,hbF⟩:=hG;have hnd:=HO.notD
  have key:∀ h',PU el v h h'->UpT F h h':=fun h' U=>⟨⟨U.1.1,fun k hk hkF=>U.1.2 k hk fun hv=>hkF (hFb k hv)⟩,fun x hx hl=>⟨hnd x hx,by
    obtain ⟨cur,hc⟩:=U.2 x (hbF x hx);exact ⟨_,hc,hel⟩⟩⟩
  refine Ajn (B:=B) (lo:=0) cs hT hz hzk hb0 (fun h' U=>hbB h' (key h' U)) hs hy (Alr hrep) (c.klen hrep) (c.one hrep) c.pos c.le HG (Nat.zero_le _) hby (by rw [HA.1];exact hl) fun p v' h' HG' U hv'=>?_;have UT:=key h' U
  rcases HG' with ⟨h1,_⟩ | ⟨g',_,HO'⟩
  · simp at h1
  · refine H p [g'] v' h' (.inr ⟨g',_,rfl,HO',(HA.upT UT).push (c.upT hrep UT),hel⟩) UT fun x hx=>?_;rw [List.mem_singleton.1 hx]
    rcases hv' with h1 | ⟨g2,h1,h2⟩
    · exact .inl (hFb _ (h1 ▸ HO'.blk))
    · rw [HO'.blk] at h1;injection h1 with h1;exact .inr (by omega)
theorem Ac8 {α:Type} {c:Cod α} {s y:Operand} {t er el bytes:Nat} {z v r:Value} {F F0:List Nat} {Gs:List (List Nat)} {rs:List Value} {M:List (List α)} {L:List α} (hT:SlT P t er 1) (hz:ZeT P er z bytes) (hzk:z.cells.size=1) (her:Nat.beq er 147=false) (hb0:B h) (hbB:∀ h',UpT F h h'->B h') (hs:∀ p,(e.set d p).ev s=v) (hy:e.ev y=r) (HR:OwC c el h F0 r L) (HO:AFh c er el h F Gs rs v M) (hdj:∀ x∈F0,x ∉ F) (hby:bytes<=1000) (hl:M.length<=100000000)
    (H:∀ p F' v' h',AFh c er el h' F' (Gs ++ [F0]) (rs ++ [r]) v' (M ++ [L])->UpT F h h'->(∀ x∈F',x∈F ++ F0∨h.size<=x)->RL P B st ops rest ((e.set d p).set d' v') h' K):
    RL P B st ops (⟨some d,.buildSlice t 1 #[(0,y)],ty,pos,af,none⟩ :: ⟨some d',.call ⟨.builtin .append,#[s,.tmp d],#[t,t]⟩,ty',pos',af',none⟩ :: rest) e h K:=by
  have hnd:=HO.notD;have hnd0:=HR.notD;have hlt0:=HR.lt;have hlt:=HO.lt
  have hG:∃ bs:List Nat,An5 h er 1 0 v (rs.map fun r=>[r])/\F=bs ++ Gs.flatten/\(∀ x,v.ownBlock=some x->bs=[x])/\(∀ x∈bs,v.ownBlock=some x)/\rs.length=M.length/\Gs.length=M.length/\F.Nodup/\ ∀ (i:Nat) (G:List Nat) (r:Value) (L:List α),Gs[i]? =some G->rs[i]? =some r->M[i]? =some L->OwC c el h G r L:=by
    rcases HO with ⟨rfl,rfl,rfl,rfl,rfl⟩ | ⟨b,rfl,hn,h2,h3,h4,h5,h6⟩
    · exact ⟨[],.inl ⟨rfl,rfl⟩,rfl,(fun x hx=>by cases hx),(fun x hx=>by simp at hx),rfl,rfl,by simp,(fun i G r L hG=>by simp at hG)⟩
    · exact ⟨[b],.inr ⟨b,Nat.zero_le _,h2⟩,rfl,fun x hx=>by rw [h2.blk] at hx;injection hx with hx;rw [hx],fun x hx=>by rw [List.mem_singleton.1 hx];exact h2.blk,h4,h5,hn,h6⟩
  obtain ⟨bs,HG,hF,hFb,hbF,h4,h5,hn,h6⟩:=hG
  have key:∀ h',PU er v h h'->UpT bs h h':=fun h' U=>⟨⟨U.1.1,fun k hk hkF=>U.1.2 k hk fun hv=>hkF (by rw [hFb k hv];simp)⟩,fun x hx hl=>⟨hnd x (by rw [hF];simp [hx]),by
    obtain ⟨cur,hc⟩:=U.2 x (hbF x hx);exact ⟨_,hc,her⟩⟩⟩
  have keyF:∀ h',UpT bs h h'->UpT F h h':=fun h' U=>U.mono (fun x hx=>by rw [hF];simp [hx]) fun x hx _=>hnd x hx;have hone:=HR.isOne;have hvc:r.cells=[r].toArray:=by cases r <;> first | rfl | cases hone
  refine Ajn (B:=B) (lo:=0) [r] hT hz hzk hb0 (fun h' U=>hbB h' (keyF h' (key h' U))) hs hy hvc rfl (fun x hx=>by rw [List.mem_singleton.1 hx];exact hone) (by decide) (by decide) HG (Nat.zero_le _) hby (by rw [List.length_map,h4];exact hl) fun p v' h' HG' U hv'=>?_;have UT:=key h' U
  rcases HG' with ⟨h1,_⟩ | ⟨b',_,HO'⟩
  · simp at h1
  have hsub:b'∈F∨h.size<=b':=by
    rcases hv' with h1 | ⟨g2,h1,h2⟩
    · have:=hFb b' (h1 ▸ HO'.blk);rw [this] at hF;exact .inl (by rw [hF];simp)
    · rw [HO'.blk] at h1;injection h1 with h1;exact .inr (by omega)
  have hbG:b' ∉ Gs.flatten:=fun hm=>by
    rcases hv' with h1 | ⟨g2,h1,h2⟩
    · have:=hFb b' (h1 ▸ HO'.blk);rw [hF,this] at hn;exact (List.nodup_cons.1 hn).1 hm
    · rw [HO'.blk] at h1;injection h1 with h1;have:=hlt b' (by rw [hF];simp [hm]);omega
  have hbF0:b' ∉ F0:=fun hm=>by
    rcases hsub with h1 | h1
    · exact hdj b' hm h1
    · have:=hlt0 b' hm;omega
  have hnG:Gs.flatten.Nodup:=by rw [hF] at hn;exact (List.nodup_append.1 hn).2.1
  refine H p (b' :: (Gs ++ [F0]).flatten) v' h' (.inr ⟨b',rfl,?_,by rw [List.map_append];exact HO',her,by simp [h4],by simp [h5],fun i G r2 L2 hGi hri hLi=>?_⟩) (keyF h' UT) fun x hx=>?_
  · refine List.nodup_cons.2 ⟨by simp [hbG,hbF0],?_⟩;simp only [List.flatten_append,List.flatten_cons,List.flatten_nil,List.append_nil];exact List.nodup_append.2 ⟨hnG,HR.nodup,fun x hx y hy he=>hdj y hy (by rw [hF];simp [he ▸ hx])⟩
  · rcases Nat.lt_or_ge i M.length with hi | hi
    · rw [List.getElem?_append_left (by omega)] at hGi hri hLi
      exact (h6 i G r2 L2 hGi hri hLi).upT UT fun x hx hxb=>by
        have hxo:=hbF x hxb;have hb1:=hFb x hxo;rw [hF,hb1] at hn;exact (List.nodup_cons.1 hn).1 (AFp hGi hx)
    · rw [List.getElem?_append_right (by omega)] at hGi hri hLi;have:i - M.length=0:=by have:=(List.getElem?_eq_some_iff.1 hLi).1;simp at this;omega
      rw [show i - Gs.length=0 by omega] at hGi;rw [show i - rs.length=0 by omega] at hri;rw [this] at hLi;injection hGi with hGi;injection hri with hri;injection hLi with hLi;subst hGi;subst hri;subst hLi;exact HR.upT UT fun x hx hxb=>hdj x hx (by rw [hF];simp [hxb])
  · simp only [List.flatten_append,List.flatten_cons,List.flatten_nil,List.append_nil,List.mem_cons,List.mem_append] at hx
    rcases hx with rfl | hx | hx
    · rcases hsub with h1 | h1
      · exact .inl (by simp [h1])
      · exact .inr h1
    · exact .inl (by rw [hF];simp [hx])
    · exact .inl (by simp [hx])
theorem AIj {x:Operand} {t:Nat} {v:Value} (l:List Value) (hb:B h) (hBE:∀ h',Ext h h'->B h') (hx:e.ev x=v) (hl:v.cells=l.toArray) (H:∀ b h',AEj t h' b l->Ext h h'->Sp h' h.size [[b]]->RL P B st ops rest (e.set d (.pointer (some ⟨b,0,none⟩))) h' K):
    RL P B st ops (⟨some d,.box t x,ty,pos,af,none⟩ :: rest) e h K:=by
 refine Ang hb hx ⟨hBE _ (AEf _ _),?_⟩;exact H h.size _ (by unfold AEj;rw [hl];simp) (AEf _ _) (AGy (Nat.le_refl _) (by simp))
theorem AD2 {t bytes:Nat} {z:Value} (l:List Value) (hz:ZeT P t z bytes) (hl:z.cells=l.toArray) (hb:B h) (hBE:∀ h',Ext h h'->B h') (H:∀ b h',AEj t h' b l->Ext h h'->Sp h' h.size [[b]]->RL P B st ops rest (e.set d (.pointer (some ⟨b,0,none⟩))) h' K):
    RL P B st ops (⟨some d,.alloc t,ty,pos,af,none⟩ :: rest) e h K:=by
 refine Ai6 hz hb ⟨hBE _ (AEf _ _),?_⟩;exact H h.size _ (by unfold AEj;rw [hl];simp) (AEf _ _) (AGy (Nat.le_refl _) (by simp))
theorem ADd {f:FuncId} {xs:List Operand} {ts:Array TypeId} {l:List Value} {K':Value->ABj->Prop} (hb:B h) (hBE:∀ h',Ext h h'->B h') (hxs:xs.map e.ev=l) (HC:ACa P f l.toArray h fun x h'=>Ext h h'/\K' x h')
    (H:∀ v h',Ext h h'->K' v h'->RL P B st ops rest (e.set d v) h' K):RL P B st ops (⟨some d,.call ⟨.value (.func f),xs.toArray,ts⟩,ty,pos,af,none⟩ :: rest) e h K:=
  ACp hb hxs HC fun v h' hk=>⟨hBE _ hk.1,H v h' hk.1 hk.2⟩
theorem ACl (h:ABj):cZ.rep h 0 [.bool false,.slice none 0 0]:=⟨rfl,⟨false,_,[],rfl,AWv _ _,AWw,by simp,rfl⟩⟩
end
end Go.QF
namespace Go.Proofs.YtiegjkmfpcgjjaaGreatDoor
open Go Go.QF
theorem Ae5:NaT Tryz.prog 22:=APx Tryz.underlying22 rfl (by kernel_rfl)
theorem Ac9:Tryz.prog.underlying 4=some .bool:=Tryz.underlying4
theorem AC7:SlT Tryz.prog 107 147 1:=AU2 Tryz.underlying107 (by kernel_rfl)
theorem AMf:NaT Tryz.prog 107:=APx Tryz.underlying107 rfl (by kernel_rfl)
theorem AHx:NaT Tryz.prog 147:=APx Tryz.underlying147 rfl (by kernel_rfl)
theorem AKo:AUm Tryz.prog 147 .u32:=Tryz.underlying147
theorem AOv:ZeT Tryz.prog 147 (.int .u32 0) 4:=ATk (by kernel_rfl)
theorem AIy:AUm Tryz.prog 135 .u64:=Tryz.underlying135
theorem ACq:AgT Tryz.prog 109 2:=Acq Tryz.underlying109 rfl (by kernel_rfl)
theorem AKp:ZeT Tryz.prog 109 (.agg #[.bool false,.slice none 0 0]) 32:=ATk (by kernel_rfl)
theorem AP2:FdT Tryz.prog 109 0 0 4:=⟨_,_,Tryz.underlying109,rfl,rfl,rfl⟩
theorem APd:FdT Tryz.prog 109 1 1 107:=⟨_,_,Tryz.underlying109,rfl,rfl,rfl⟩
theorem AHo:SlT Tryz.prog 112 109 2:=AU2 Tryz.underlying112 (by kernel_rfl)
theorem AH6:NaT Tryz.prog 112:=APx Tryz.underlying112 rfl (by kernel_rfl)
theorem AEb:SlT Tryz.prog 54 112 1:=AU2 Tryz.underlying54 (by kernel_rfl)
end Go.Proofs.YtiegjkmfpcgjjaaGreatDoor
namespace Go.Proofs.YtiegjkmfpcgjjaaGreatDoor
open Go Go.QF
set_option maxRecDepth 100000
theorem AIz {h:ABj} {lo:Nat} {v:Value} {L:List Nat} (H:DS h lo v L) (hn:L.length<=1000000):ACa Tryz.prog 109 #[v] h fun x h'=>Ext h h'/\ ∃ L',DS h' (Array.size h) x L'/\TL L'/\nv L'=nv L/\L'.length<=L.length:=by
 refine AC0 (l:=[_]) mx Tryz.func109 rfl rfl rfl rfl rfl (by kernel_rfl) (ABl (ACr (Wl (AF7 AC7 rfl H (ABq (ABn (ABr (ACk 262088 (fun n:Nat=>[(3,.int .i64 (n:Int))]) (fun k n h'=>h'=h/\n=k/\n<=L.length/\nv (L.take n)=nv L) (by kernel_rfl) L.length L.length ?_ ⟨rfl,trivial⟩ ?_))))))))
 ·exact ⟨rfl,rfl,Nat.le_refl _,by rw [List.take_length]⟩
 rintro k n s1 h ⟨rfl,rfl,hi,hv⟩;refine ABn (ABl (Wl (ARh rfl rfl (fun Ah=>?_) (fun Ah=>?_))))
 ·refine Wl (ACz 8 true (by kernel_rfl) rfl rfl (Wl (ACz 8 true (by kernel_rfl) rfl rfl (Wl (ACz 8 true (by kernel_rfl) rfl rfl (ALu rfl rfl (by omega) (by omega) ?_))))));rw [show ((n:Nat):Int) - 1=((n - 1:Nat):Int) by omega];obtain ⟨x,hx⟩:∃ x,L[n - 1]? =some x:=⟨_,List.getElem?_eq_getElem (by omega)⟩;refine ACz 8 true (by kernel_rfl) rfl rfl (ANu AC7 rfl H rfl hx fun Ao Ai=>ACz 8 true (by kernel_rfl) rfl rfl (AB9 AHx rfl Ai (ACz 8 true (by kernel_rfl) rfl rfl (AVo rfl rfl (fun Aj=>?_) (fun Aj=>?_)))))
  ·refine ABz rfl (ABp (ACe rfl (ABt (q_t (ABr (ABy (Wl (ALu rfl rfl (by omega) (by omega) ?_))))))));rw [show ((n:Nat):Int) - 1=((n - 1:Nat):Int) by omega];have Ak:x=0:=by omega
   refine ACg (ACm (q_b (q_t ?_)));exact ⟨n - 1,n - 1,by omega,⟨rfl,rfl,by omega,by rw [<- hv];have:=AHf hx;rw [show n - 1 + 1=n by omega] at this;rw [this,Ak];simp⟩,rfl,trivial⟩
  ·refine ABz rfl (ABp (ACf rfl (ACd (ACc (ACc (ADo (q_t (ABl (Wl (Wl (Ajh AC7 rfl H.sl H.cap rfl (by rw [List.length_map];omega) fun v9 Ac Ad Aa=>?_)))))))))));have Ae:DS h lo v9 (L.take n):=⟨by rw [List.map_take];exact Ac,Ad,AZj H.dig n,fun g hg=>H.lo g (Aa ▸ hg),fun g hg=>H.tg g (Aa ▸ hg)⟩;refine Aun AC7 AOv (fun _=>trivial) rfl rfl Ae (by decide) (by rw [List.length_take];omega) fun v2 h2 Af E2=>?_;have Ap:=E2.1;have Z3:=(Ext.refl h).trans E2;refine ABq (ABs (⟨_,ABu,?_⟩));refine ⟨E2,L.take n,Af,?_,hv,by rw [List.length_take];omega⟩
   first
   | (have h0:n=0:=by omega
      subst h0;exact AWw)
   | exact Ajj hx (by omega) (by omega)
 ·refine Wl (ACi 8 false (by kernel_rfl) rfl rfl (ACi 8 false (by kernel_rfl) rfl rfl (ACi 8 false (by kernel_rfl) rfl rfl (ACi 8 false (by kernel_rfl) rfl rfl (ACi 8 false (by kernel_rfl) rfl rfl (ACi 8 false (by kernel_rfl) rfl rfl (ABw rfl (ABp (ACf rfl (ACd (ACc (ACc (ADo (q_t (ABl (Wl (Wl (Ajh AC7 rfl H.sl H.cap rfl (by rw [List.length_map];omega) fun v9 Ac Ad Aa=>?_))))))))))))))))));have Ae:DS h lo v9 (L.take n):=⟨by rw [List.map_take];exact Ac,Ad,AZj H.dig n,fun g hg=>H.lo g (Aa ▸ hg),fun g hg=>H.tg g (Aa ▸ hg)⟩;refine Aun AC7 AOv (fun _=>trivial) rfl rfl Ae (by decide) (by rw [List.length_take];omega) fun v2 h2 Af E2=>?_;have Ar:=E2.1;have Z5:=(Ext.refl h).trans E2;refine ABq (ABs (⟨_,ABu,?_⟩));refine ⟨E2,L.take n,Af,?_,hv,by rw [List.length_take];omega⟩
  first
  | (have h0:n=0:=by omega
     subst h0;exact AWw)
  | exact Ajj hx (by omega) (by omega)
theorem Ae6 (w:World):(Instr.build 109 #[]).run Tryz.prog w= .ok (.agg #[.bool false,.slice none 0 0]) w:=by kernel_rfl
theorem Ada (b:Bool) (a:Option Addr) (n c:Nat) (w:World):(Instr.build 109 #[(0,.bool b),(1,.slice a n c)]).run Tryz.prog w= .ok (.agg #[.bool b,.slice a n c]) w:=by kernel_rfl
theorem ARl (b:Bool):sgn b 0=0:=by cases b <;> rfl
theorem ALy {h:ABj} {lo:Nat} {s:Value} {L:List Nat} (neg:Bool) (H:DS h lo s L) (hn:L.length<=1000000) (hb:nv L < 4294967296 ^ 100):ACa Tryz.prog 114 #[.bool neg,s] h fun x h'=>Ext h h'/\ZV h' (Array.size h) x (sgn neg (nv L)):=by
 refine AC0 (l:=[_,_]) mx Tryz.func114 rfl rfl rfl rfl rfl (by kernel_rfl) (ABl (AJ4 [.bool false,.slice none 0 0] AKp rfl (fun _=>trivial) fun Aa h2 V3 E4 Ay Bf=>?_));have Bg:Array.size h<=Aa:=Ay;have Bh:=E4.1;have Z8:=(Ext.refl h).trans E4;refine ANc (Wl (ACp trivial rfl (AIz (H.ext E4) (by omega)) fun x9 Bj hk=>?_));obtain ⟨Aj,L1,Af,Ah,Ac,Bl⟩:=hk;refine ⟨trivial,?_⟩;have Bm:=Aj.1;have Ar:=Z8.trans Aj;have Au:=E4.trans Aj;have Av:=V3.ext Aj;have Aw:=E4.trans Aj;obtain ⟨a1,n1,c1,rfl,Bn⟩:=Af.cap;refine ACr (Wl ?_);cases Bo:neg
 ·refine Wl (ACi 9 false (by kernel_rfl) rfl rfl (ACi 9 false (by kernel_rfl) rfl rfl (ACi 9 false (by kernel_rfl) rfl rfl (ABw rfl (Wl (AMr (v:= .agg #[.bool false,.slice a1 n1 c1]) (Ada false a1 n1 c1) (ADn [.bool false,.slice a1 n1 c1] ACq rfl rfl rfl rfl (AJb Af.cap) Av fun Bp A3 Ak=>?_)))))));have A4:=Au.thenUpd Ak (fun k hk=>by have Ag:k=Aa:=hk;omega);have Bq:=Ak.1;have Br:=Ar.thenUpd Ak (fun k hk=>by have Ag:k=Aa:=hk;omega);have Bt:=Aw.thenUpd Ak (fun k hk=>by have Ag:k=Aa:=hk;omega);have A5:=Af.updLo Ak (by omega);refine ABp (ABs (⟨_,AFr ACq rfl rfl A3,?_⟩));have Am:L1.length<=100:=ASa Ah (by rw [Ac];exact hb);refine ⟨A4,⟨false,_,L1,rfl,A5.mono (by omega),Ah,Am,?_⟩⟩
  first
  | (rw [Ac];done)
  | (have h0:L1=[]:=List.length_eq_zero_iff.1 (by omega)
     rw [<- Ac,h0];exact (ARl _).trans (ARl _).symm)
 ·refine Wl (ACz 9 true (by kernel_rfl) rfl rfl (Wl (ACz 9 true (by kernel_rfl) rfl rfl (AF7 AC7 rfl Af (ACz 9 true (by kernel_rfl) rfl rfl (ARh rfl rfl (fun A6=>?_) (fun A6=>?_)))))))
  ·refine ABz rfl (Wl (AMr (v:= .agg #[.bool true,.slice a1 n1 c1]) (Ada true a1 n1 c1) (ADn [.bool true,.slice a1 n1 c1] ACq rfl rfl rfl rfl (AJb Af.cap) Av fun Bu A7 Ap=>?_)));have A8:=Au.thenUpd Ap (fun k hk=>by have Ag:k=Aa:=hk;omega);have Bv:=Ap.1;have Bw:=Ar.thenUpd Ap (fun k hk=>by have Ag:k=Aa:=hk;omega);have Bx:=Aw.thenUpd Ap (fun k hk=>by have Ag:k=Aa:=hk;omega);have A9:=Af.updLo Ap (by omega);refine ABp (ABs (⟨_,AFr ACq rfl rfl A7,?_⟩));have Am:L1.length<=100:=ASa Ah (by rw [Ac];exact hb);refine ⟨A8,⟨true,_,L1,rfl,A9.mono (by omega),Ah,Am,?_⟩⟩
   first
   | (rw [Ac];done)
   | (have h0:L1=[]:=List.length_eq_zero_iff.1 (by omega)
      rw [<- Ac,h0];exact (ARl _).trans (ARl _).symm)
  ·refine ABz rfl (Wl (AMr (v:= .agg #[.bool false,.slice a1 n1 c1]) (Ada false a1 n1 c1) (ADn [.bool false,.slice a1 n1 c1] ACq rfl rfl rfl rfl (AJb Af.cap) Av fun By Ba Aq=>?_)));have Bb:=Au.thenUpd Aq (fun k hk=>by have Ag:k=Aa:=hk;omega);have Bz:=Aq.1;have B1:=Ar.thenUpd Aq (fun k hk=>by have Ag:k=Aa:=hk;omega);have B2:=Aw.thenUpd Aq (fun k hk=>by have Ag:k=Aa:=hk;omega);have Bc:=Af.updLo Aq (by omega);refine ABp (ABs (⟨_,AFr ACq rfl rfl Ba,?_⟩));have Am:L1.length<=100:=ASa Ah (by rw [Ac];exact hb);refine ⟨Bb,⟨false,_,L1,rfl,Bc.mono (by omega),Ah,Am,?_⟩⟩
   first
   | (rw [Ac];done)
   | (have h0:L1=[]:=List.length_eq_zero_iff.1 (by omega)
      rw [<- Ac,h0];exact (ARl _).trans (ARl _).symm)
theorem Aa6 {h:ABj} {lo:Nat} {va:Value} {z:Int} (HA:ZV h lo va z):ACa Tryz.prog 87 #[va] h fun x h'=>Ext h h'/\ZV h' (Array.size h) x (z):=by
 obtain ⟨na,sa,LA,rfl,HDa,htla,hla,hza⟩:=HA.out;have hna:LA.length<=1000000:=by omega
 have hba:nv LA < 4294967296 ^ 100:=Nat.lt_of_lt_of_le (APz HDa.dig) (Nat.pow_le_pow_right (by decide) hla);refine AC0 (l:=[_]) mx Tryz.func87 rfl rfl rfl rfl rfl (by kernel_rfl) (ABl (AMx [.bool na,sa] (fun _=>trivial) rfl rfl fun Af h2 V3 E4 Ap Be=>?_));have Bf:Array.size h<=Af:=Ap;have Bg:=E4.1;have Z8:=(Ext.refl h).trans E4;refine AJ4 [.bool false,.slice none 0 0] AKp rfl (fun _=>trivial) fun Aa Bh Ar E12 Au Bi=>?_;have Bj:Array.size h<=Aa:=Nat.le_trans E4.1 Au;have nebq1bq9:Af≠Aa:=by have:=V3.lt;omega
 have Bl:=E12.1;have Av:=Z8.trans E12;have Ah:=E4.trans E12;have Ai:=V3.ext E12;have Aw:=E4.trans E12;refine ANc (AJz (fs:=1) AP2 (by kernel_rfl) (by decide) rfl (AB9 AKm rfl (Ai.cell (i:=0) rfl) (AJz (fs:=1) APd (by kernel_rfl) (by decide) rfl (AB9 AMf rfl (Ai.cell (i:=1) rfl) (ACp trivial rfl (ALy na (HDa.ext Ah) hna hba) fun Bm Bn hk=>?_)))));obtain ⟨Ab,Ax⟩:=hk;refine ⟨trivial,?_⟩;have Bo:=Ab.1;have Ay:=Av.trans Ab;have Az:=Ah.trans Ab;have A3:=Aw.trans Ab;have A4:=Ar.ext Ab;have A5:=E12.trans Ab;obtain ⟨Aj,s3,L3,rfl,Am,A7,A8,Ao⟩:=Ax.out;refine ADn [.bool Aj,s3] ACq rfl rfl rfl rfl (AJb Am.cap) A4 fun Bp A9 Ac=>?_;have Ba:=Az.thenUpd Ac (fun k hk=>by have Ae:k=Aa:=hk;omega);have Bq:=Ac.1;have Br:=Ay.thenUpd Ac (fun k hk=>by have Ae:k=Aa:=hk;omega);have Bt:=A5.thenUpd Ac (fun k hk=>by have Ae:k=Aa:=hk;omega);have Bu:=A3.thenUpd Ac (fun k hk=>by have Ae:k=Aa:=hk;omega);have Bb:=Am.updLo Ac (by omega);refine ABp (ABs (⟨_,AFr ACq rfl rfl A9,?_⟩));exact ⟨Ba,⟨Aj,s3,L3,rfl,Bb.mono (by omega),A7,A8,by first | (rw [<- Ao,hza];done) | (rw [<- Ao,hza];cases na <;> simp [sgn])⟩⟩
theorem Ajo {h:ABj} {lo:Nat} {va:Value} {z:Int} (HA:ZV h lo va z):ACa Tryz.prog 91 #[va] h fun x h'=>Ext h h'/\ZV h' (Array.size h) x (-z):=by
 obtain ⟨na,sa,LA,rfl,HDa,htla,hla,hza⟩:=HA.out;have hna:LA.length<=1000000:=by omega
 have hba:nv LA < 4294967296 ^ 100:=Nat.lt_of_lt_of_le (APz HDa.dig) (Nat.pow_le_pow_right (by decide) hla);refine AC0 (l:=[_]) mx Tryz.func91 rfl rfl rfl rfl rfl (by kernel_rfl) (ABl (AMx [.bool na,sa] (fun _=>trivial) rfl rfl fun Af h2 V3 E4 Ap Be=>?_));have Bf:Array.size h<=Af:=Ap;have Bg:=E4.1;have Z8:=(Ext.refl h).trans E4;refine AJ4 [.bool false,.slice none 0 0] AKp rfl (fun _=>trivial) fun Aa Bh Ar E12 Au Bi=>?_;have Bj:Array.size h<=Aa:=Nat.le_trans E4.1 Au;have nebq1bq9:Af≠Aa:=by have:=V3.lt;omega
 have Bl:=E12.1;have Av:=Z8.trans E12;have Ah:=E4.trans E12;have Ai:=V3.ext E12;have Aw:=E4.trans E12;refine ANc (AJz (fs:=1) AP2 (by kernel_rfl) (by decide) rfl (AB9 AKm rfl (Ai.cell (i:=0) rfl) (AF9 rfl (AJz (fs:=1) APd (by kernel_rfl) (by decide) rfl (AB9 AMf rfl (Ai.cell (i:=1) rfl) (ACp trivial rfl (ALy (!na) (HDa.ext Ah) hna hba) fun Bm Bn hk=>?_))))));obtain ⟨Ab,Ax⟩:=hk;refine ⟨trivial,?_⟩;have Bo:=Ab.1;have Ay:=Av.trans Ab;have Az:=Ah.trans Ab;have A3:=Aw.trans Ab;have A4:=Ar.ext Ab;have A5:=E12.trans Ab;obtain ⟨Aj,s3,L3,rfl,Am,A7,A8,Ao⟩:=Ax.out;refine ADn [.bool Aj,s3] ACq rfl rfl rfl rfl (AJb Am.cap) A4 fun Bp A9 Ac=>?_;have Ba:=Az.thenUpd Ac (fun k hk=>by have Ae:k=Aa:=hk;omega);have Bq:=Ac.1;have Br:=Ay.thenUpd Ac (fun k hk=>by have Ae:k=Aa:=hk;omega);have Bt:=A5.thenUpd Ac (fun k hk=>by have Ae:k=Aa:=hk;omega);have Bu:=A3.thenUpd Ac (fun k hk=>by have Ae:k=Aa:=hk;omega);have Bb:=Am.updLo Ac (by omega);refine ABp (ABs (⟨_,AFr ACq rfl rfl A9,?_⟩));exact ⟨Ba,⟨Aj,s3,L3,rfl,Bb.mono (by omega),A7,A8,by first | (rw [<- Ao,hza];done) | (rw [<- Ao,hza];cases na <;> simp [sgn])⟩⟩
theorem AVz (neg:Bool) (w:Nat) (hw:w < 18446744073709551616) (h:ABj):ACa Tryz.prog 113 #[.bool neg,.int .u64 (w:Int)] h fun x h'=>Ext h h'/\ZV h' (Array.size h) x (sgn neg w):=by
 refine AC0 (l:=[_,_]) mx Tryz.func113 rfl rfl rfl rfl rfl (by kernel_rfl) (ABl (AJ4 [.bool false,.slice none 0 0] AKp rfl (fun _=>trivial) fun Ac h2 V3 E4 Aj Bb=>?_));have Bc:Array.size h<=Ac:=Aj;have Be:=E4.1;have Z8:=(Ext.refl h).trans E4;refine ANc (Wl (Wl (AMv AIy AKo rfl ?_)));rw [show IntKind.u32.wrap (w:Int)=((w % 4294967296:Nat):Int) by rw [wrap_u32];omega];refine Wl (Aez (n:=32) rfl rfl (by decide) (AMv AIy AKo rfl ?_));rw [show IntKind.u32.wrap ((w:Int) / 2 ^ 32)=((w / 4294967296:Nat):Int) by rw [wrap_u32];omega];have hdg:Dig [w % 4294967296,w / 4294967296]:=by intro x hx;simp only [List.mem_cons,List.not_mem_nil,or_false] at hx;rcases hx with rfl | rfl <;> omega
 refine Axh ([w % 4294967296,w / 4294967296].map ARk) AC7 AOv rfl (fun _=>trivial) rfl (by omega) (by omega) rfl (by simp [ARk,isOne]) fun g1 v1 h1 Am E1 Bh Bi=>?_;have Bj:=E1.1;have Ao:=Z8.trans E1;have Ap:=E4.trans E1;have Aq:=V3.ext E1;have Ar:=E4.trans E1;have Au:=Am.ds (lo:=0) hdg (Nat.zero_le _);have hwv:nv [w % 4294967296,w / 4294967296]=w:=by simp only [nv];omega
 refine ACp trivial rfl (ALy neg Au (by simp) (by rw [hwv];exact Nat.lt_trans hw (by decide))) fun Bl Bm hk=>?_;obtain ⟨Aa,Av⟩:=hk;refine ⟨trivial,?_⟩;have Bn:=Aa.1;have Aw:=Ao.trans Aa;have Ax:=Ap.trans Aa;have Ay:=Aq.ext Aa;have Az:=Ar.trans Aa;obtain ⟨Ae,s3,L3,rfl,Ag,A4,A5,A6⟩:=Av.out;refine ADn [.bool Ae,s3] ACq rfl rfl rfl rfl (AJb Ag.cap) Ay fun Bo A7 Ab=>?_;have A8:=Ax.thenUpd Ab (fun k hk=>by have Ah:k=Ac:=hk;omega);have Bp:=Ab.1;have Bq:=Aw.thenUpd Ab (fun k hk=>by have Ah:k=Ac:=hk;omega);have Br:=Az.thenUpd Ab (fun k hk=>by have Ah:k=Ac:=hk;omega);have A9:=Ag.updLo Ab (by omega);refine ABp (ABs (⟨_,AFr ACq rfl rfl A7,?_⟩));exact ⟨A8,⟨Ae,s3,L3,rfl,A9.mono (by omega),A4,A5,by rw [<- A6,hwv]⟩⟩
theorem AWx {n:Int} (hn: -9223372036854775808<=n/\n<=9223372036854775807) (h:ABj):ACa Tryz.prog 86 #[.int .i64 n] h fun x h'=>Ext h h'/\ZV h' (Array.size h) x n:=by
 refine AC0 (l:=[_]) mx Tryz.func86 rfl rfl rfl rfl rfl (by kernel_rfl) (ABl (AJ4 [.bool false,.slice none 0 0] AKp rfl (fun _=>trivial) fun Aa h2 V3 E4 Au Bf=>?_));have Bg:Array.size h<=Aa:=Au;have Bh:=E4.1;have Z8:=(Ext.refl h).trans E4;refine ABp (ABn (ABl (Wl (AFn rfl rfl (fun Av=>?_) (fun Av=>?_)))))
 ·refine ABp (ACe rfl (ABl (Wl (AMv ALw AIy rfl ?_))));rw [show IntKind.u64.wrap n=n + 18446744073709551616 by rw [wrap_u64];omega];refine ATh rfl ?_;rw [show IntKind.u64.wrap (0 - (n + 18446744073709551616))=((n.natAbs:Nat):Int) by rw [wrap_u64];omega];refine ACp trivial rfl (AVz true n.natAbs (by omega) _) fun x9 Bj hk=>?_;obtain ⟨Ac,Aj⟩:=hk;refine ⟨trivial,?_⟩;have Bl:=Ac.1;have Aw:=Z8.trans Ac;have Ax:=E4.trans Ac;have Ay:=V3.ext Ac;have Az:=E4.trans Ac;obtain ⟨Ad,s2,L2,rfl,Ae,Am,Ao,Ap⟩:=Aj.out;refine ADn [.bool Ad,s2] ACq rfl rfl rfl rfl (AJb Ae.cap) Ay fun Bm A3 Af=>?_;have A4:=Ax.thenUpd Af (fun k hk=>by have Ag:k=Aa:=hk;omega);have Bn:=Af.1;have Bo:=Aw.thenUpd Af (fun k hk=>by have Ag:k=Aa:=hk;omega);have Bp:=Az.thenUpd Af (fun k hk=>by have Ag:k=Aa:=hk;omega);have A5:=Ae.updLo Af (by omega);refine ABp (ABs (AB2 (⟨_,AFr ACq rfl rfl A3,?_⟩)));exact ⟨A4,⟨Ad,s2,L2,rfl,A5.mono (by omega),Am,Ao,by rw [<- Ap];unfold sgn;first | (rw [if_pos rfl];omega) | (rw [if_neg (by decide)];omega)⟩⟩
 ·refine ABp (ACf rfl (ABt (q_t (ABl (Wl (AMv ALw AIy rfl ?_))))));rw [show IntKind.u64.wrap n=((n.natAbs:Nat):Int) by rw [wrap_u64];omega];refine ACp trivial rfl (AVz false n.natAbs (by omega) _) fun Bq Br hk=>?_;obtain ⟨Ah,Aj⟩:=hk;refine ⟨trivial,?_⟩;have Bt:=Ah.1;have A6:=Z8.trans Ah;have A7:=E4.trans Ah;have A8:=V3.ext Ah;have A9:=E4.trans Ah;obtain ⟨Ad,s2,L2,rfl,Ae,Am,Ao,Ap⟩:=Aj.out;refine ADn [.bool Ad,s2] ACq rfl rfl rfl rfl (AJb Ae.cap) A8 fun Bu Ba Ai=>?_;have Bb:=A7.thenUpd Ai (fun k hk=>by have Ag:k=Aa:=hk;omega);have Bv:=Ai.1;have Bw:=A6.thenUpd Ai (fun k hk=>by have Ag:k=Aa:=hk;omega);have Bx:=A9.thenUpd Ai (fun k hk=>by have Ag:k=Aa:=hk;omega);have Bc:=Ae.updLo Ai (by omega);refine ABp (ABs (⟨_,AFr ACq rfl rfl Ba,?_⟩));exact ⟨Bb,⟨Ad,s2,L2,rfl,Bc.mono (by omega),Am,Ao,by rw [<- Ap];unfold sgn;first | (rw [if_pos rfl];omega) | (rw [if_neg (by decide)];omega)⟩⟩
theorem Adb {h:ABj} {lo:Nat} {v:Value} {L:List Nat} (H:DS h lo v L) (hn:L.length<=2):ACa Tryz.prog 123 #[v] h fun x h'=>h'=h/\x= .int .u64 (nv L:Int):=by
 refine AC0 (l:=[_]) mx Tryz.func123 rfl rfl rfl rfl rfl (by kernel_rfl) (ABl (ACr (ABq (ABn (ABl (ABq (ABr (ACk 33554424 (fun y:Nat × Nat=>[(4,.int .i64 (y.1:Int)),(3,.int .u64 (y.2:Int))]) (fun k y h'=>h'=h/\k=L.length - y.1/\y.1<=L.length/\y.2=nv (L.take y.1)) (by kernel_rfl) L.length (0,0) ?_ ⟨rfl,rfl,trivial⟩ ?_))))))))
 ·exact ⟨rfl,rfl,Nat.zero_le _,rfl⟩
 rintro k ⟨i,w⟩ s1 h ⟨rfl,rfl,hi,hw⟩;dsimp only at hi hw ⊢;subst hw;refine ABn (ABl (Wl (Wl (AF7 AC7 rfl H (AFn rfl rfl (fun Ab=>?_) (fun Ab=>?_))))))
 ·refine Wl (ACz 9 true (by kernel_rfl) rfl rfl (Wl (ACz 9 true (by kernel_rfl) rfl rfl (AFn rfl rfl (fun Ac=>?_) (fun Ac=>?_)))))
  ·refine ABz rfl (ABp (ACe rfl (ABt (q_t (ABn (ABr ?_))))));obtain ⟨x,hx⟩:∃ x,L[i]? =some x:=⟨_,List.getElem?_eq_getElem (by omega)⟩;have hxb:=H.dig x (List.mem_of_getElem? hx);refine ABy (Wl (Wl (Wl (ANu AC7 rfl H rfl hx fun Ag Ad=>AB9 AHx rfl Ad (Axd AKo AIy rfl (by rw [wrap_u64];omega) ?_)))));refine Wl (ALd rfl rfl (by omega) (by omega) ?_);rw [show (32:Int) * (i:Int)=((32 * i:Nat):Int) by omega];refine Ajf (n:=32 * i) rfl rfl (by show 32 * i<=64;omega) ?_;have Aa:i=0∨i=1:=by omega
   have hlt:=AU8 H.dig hi
   have hsh:IntKind.u64.wrap ((x:Int) * 2 ^ (32 * i))=((2 ^ (32 * i) * x:Nat):Int):=by
     rw [wrap_u64]
     rcases Aa with rfl | rfl
     · simp;omega
     · simp;omega
   rw [hsh]
   have Ae:2 ^ (32 * i) * x < 18446744073709551616:=by
     rcases Aa with rfl | rfl
     · simp;omega
     · simp;omega
   have Af:nv (L.take i) < 18446744073709551616:=by
     rcases Aa with rfl | rfl
     · simp at hlt ⊢;omega
     · simp at hlt ⊢;omega
   refine AWt rfl rfl (.inr (.inl rfl)) (Avm Af Ae) ?_;rw [Avn (by rw [<- AZl];exact hlt),<- AZl,<- AHf hx];refine ACg (ACm (q_b (q_t (ABy (Wl (AI9 rfl (by omega) (ABq ?_)))))));exact ⟨L.length - (i + 1),(i + 1,nv (L.take (i + 1))),by first | omega | (dsimp only;omega),⟨rfl,rfl,by first | omega | (dsimp only;omega),rfl⟩,rfl,rfl,trivial⟩
  ·refine ABz rfl (ABp (ACf rfl (ACd (ACc (ACc (ADo (q_t (ABl (Wl (ABq (ABs (⟨_,ABu,?_⟩))))))))))));obtain rfl:i=L.length:=by omega
   exact ⟨rfl,by rw [List.take_length] at *;rfl⟩
 ·refine Wl (ACi 9 false (by kernel_rfl) rfl rfl (ACi 9 false (by kernel_rfl) rfl rfl (ABw rfl (ABp (ACf rfl (ACd (ACc (ACc (ADo (q_t (ABl (Wl (ABq (ABs (⟨_,ABu,?_⟩)))))))))))))));obtain rfl:i=L.length:=by omega
  exact ⟨rfl,by rw [List.take_length] at *;rfl⟩
def AHs (z:Int):Int:=if z < 0 then -1 else if z=0 then 0 else 1
theorem sign_zero {z:Int} (h:z=0):AHs z=0:=by subst h;rfl
theorem sign_neg {z:Int} (h:z < 0):AHs z= -1:=if_pos h
theorem AZn {z:Int} (h:0 < z):AHs z=1:=by unfold AHs;rw [if_neg (by omega),if_neg (by omega)]
theorem ATp {h:ABj} {lo:Nat} {va:Value} {z:Int} (HA:ZV h lo va z):ACa Tryz.prog 107 #[va] h fun x h'=>Ext h h'/\x= .int .i64 (AHs z):=by
 obtain ⟨na,sa,LA,rfl,HDa,htla,hla,hza⟩:=HA.out;have hna:LA.length<=1000000:=by omega
 have hba:nv LA < 4294967296 ^ 100:=Nat.lt_of_lt_of_le (APz HDa.dig) (Nat.pow_le_pow_right (by decide) hla);refine AC0 (l:=[_]) mx Tryz.func107 rfl rfl rfl rfl rfl (by kernel_rfl) (ABl (AMx [.bool na,sa] (fun _=>trivial) rfl rfl fun Ak h2 V3 E4 Am Av=>?_));have Aw:Array.size h<=Ak:=Am;have Ax:=E4.1;have Z8:=(Ext.refl h).trans E4;refine ABq (ABn (ABr (ABl (AJz (fs:=1) APd (by kernel_rfl) (by decide) rfl (AB9 AMf rfl (V3.cell (i:=1) rfl) (ACp trivial rfl (AIz (HDa.ext E4) hna) fun x9 Az hk=>?_))))));obtain ⟨Ah,L1,Ap,Af,Ad,A3⟩:=hk;refine ⟨trivial,?_⟩;have A4:=Ah.1;have A5:=Z8.trans Ah;have Ae:=E4.trans Ah;have Aq:=V3.ext Ah;have A6:=E4.trans Ah;refine AF7 AC7 rfl Ap (AVo rfl rfl (fun Ar=>?_) (fun Ar=>?_))
 ·refine ABq (ACe rfl (ABl (ABq (ABs (ADp (AB2 (⟨_,ABu,?_⟩)))))))
  first
  | (have h0:L1=[]:=List.length_eq_zero_iff.1 (by omega)
     have h1:nv LA=0:=by rw [<- Ad,h0];rfl
     exact ⟨Ae,congrArg (Value.int .i64) (sign_zero (hza.trans (by rw [h1];cases na <;> rfl))).symm⟩)
  | (have h1:nv LA≠0:=fun h0=>by rw [<- Ad] at h0;have:=congrArg List.length (ANy Af h0);rw [List.length_nil] at this;omega
     have h3:na=true:=by assumption
     exact ⟨Ae,congrArg (Value.int .i64) (sign_neg (by rw [hza,h3];unfold sgn;rw [if_pos rfl];omega)).symm⟩)
  | (have h1:nv LA≠0:=fun h0=>by rw [<- Ad] at h0;have:=congrArg List.length (ANy Af h0);rw [List.length_nil] at this;omega
     have h3:na=false:=by assumption
     exact ⟨Ae,congrArg (Value.int .i64) (AZn (by rw [hza,h3];unfold sgn;rw [if_neg (by decide)];omega)).symm⟩)
 ·refine ABq (ACf rfl (ABl (AJz (fs:=1) AP2 (by kernel_rfl) (by decide) rfl (AB9 AKm rfl (Aq.cell (i:=0) rfl) ?_))));cases A7:na
  ·refine ABq (ACf rfl (ABt (q_b (q_t (ABl (ABq (ABs (⟨_,ABu,?_⟩))))))))
   first
   | (have h0:L1=[]:=List.length_eq_zero_iff.1 (by omega)
      have h1:nv LA=0:=by rw [<- Ad,h0];rfl
      exact ⟨Ae,congrArg (Value.int .i64) (sign_zero (hza.trans (by rw [h1];cases na <;> rfl))).symm⟩)
   | (have h1:nv LA≠0:=fun h0=>by rw [<- Ad] at h0;have:=congrArg List.length (ANy Af h0);rw [List.length_nil] at this;omega
      have h3:na=true:=by assumption
      exact ⟨Ae,congrArg (Value.int .i64) (sign_neg (by rw [hza,h3];unfold sgn;rw [if_pos rfl];omega)).symm⟩)
   | (have h1:nv LA≠0:=fun h0=>by rw [<- Ad] at h0;have:=congrArg List.length (ANy Af h0);rw [List.length_nil] at this;omega
      have h3:na=false:=by assumption
      exact ⟨Ae,congrArg (Value.int .i64) (AZn (by rw [hza,h3];unfold sgn;rw [if_neg (by decide)];omega)).symm⟩)
  ·refine ABq (ACe rfl (ABl (ABq (ABs (ADp (AB2 (⟨_,ABu,?_⟩)))))))
   first
   | (have h0:L1=[]:=List.length_eq_zero_iff.1 (by omega)
      have h1:nv LA=0:=by rw [<- Ad,h0];rfl
      exact ⟨Ae,congrArg (Value.int .i64) (sign_zero (hza.trans (by rw [h1];cases na <;> rfl))).symm⟩)
   | (have h1:nv LA≠0:=fun h0=>by rw [<- Ad] at h0;have:=congrArg List.length (ANy Af h0);rw [List.length_nil] at this;omega
      have h3:na=true:=by assumption
      exact ⟨Ae,congrArg (Value.int .i64) (sign_neg (by rw [hza,h3];unfold sgn;rw [if_pos rfl];omega)).symm⟩)
   | (have h1:nv LA≠0:=fun h0=>by rw [<- Ad] at h0;have:=congrArg List.length (ANy Af h0);rw [List.length_nil] at this;omega
      have h3:na=false:=by assumption
      exact ⟨Ae,congrArg (Value.int .i64) (AZn (by rw [hza,h3];unfold sgn;rw [if_neg (by decide)];omega)).symm⟩)
def ATa (a b:Nat):Int:=if a < b then -1 else if a=b then 0 else 1
theorem AQ0 {a b:Nat} (h:a < b):ATa a b= -1:=if_pos h
theorem AQ1 {a b:Nat} (h:b < a):ATa a b=1:=by unfold ATa;rw [if_neg (by omega),if_neg (by omega)]
theorem AZo {a b:Nat} (h:a=b):ATa a b=0:=by unfold ATa;rw [if_neg (by omega),if_pos h]
theorem AQ2 {A B:List Nat} (ha:Dig A) (hb:TL B) (h:A.length < B.length):nv A < nv B:=by
 have h1:=APz ha;have h2:=Aum hb (fun he=>by rw [he] at h;simp at h);have h3:4294967296 ^ A.length<=4294967296 ^ (B.length - 1):=Nat.pow_le_pow_right (by decide) (by omega);omega
theorem AQ3 {A B:List Nat} (ha:Dig A) (hb:Dig B) {i x y:Nat} (hl:A.length=B.length) (hx:A[i]? =some x) (hy:B[i]? =some y) (hxy:x < y) (hs:∀ q,i < q->A[q]? =B[q]?):nv A < nv B:=by
 have hi:=(List.getElem?_eq_some_iff.1 hx).1;have hd:A.drop (i + 1)=B.drop (i + 1):=List.ext_getElem? fun q=>by rw [List.getElem?_drop,List.getElem?_drop];exact hs _ (by omega)
 have e:∀ L:List Nat,nv L=nv (L.take (i + 1)) + 4294967296 ^ (L.take (i + 1)).length * nv (L.drop (i + 1)):=fun L=>by rw [<- AWu,List.take_append_drop]
 rw [e A,e B,hd,AHf hx,AHf hy,List.length_take,List.length_take,hl];have h1:=AU8 ha (i:=i) (by omega);have h2:4294967296 ^ i * (x + 1)<=4294967296 ^ i * y:=Nat.mul_le_mul_left _ hxy;rw [Nat.mul_add,Nat.mul_one] at h2;omega
theorem AYb {h:ABj} {la lb:Nat} {va vb:Value} {LA LB:List Nat} (HA:DS h la va LA) (HB:DS h lb vb LB) (hta:TL LA) (htb:TL LB) (hna:LA.length<=1000000) (hnb:LB.length<=1000000):ACa Tryz.prog 108 #[va,vb] h fun x h'=>h'=h/\x= .int .i64 (ATa (nv LA) (nv LB)):=by
 refine AC0 (l:=[_,_]) mx Tryz.func108 rfl rfl rfl rfl rfl (by kernel_rfl) (ABl (ABq (ABn (ABl (Wl (AF7 AC7 rfl HA (Wl (AF7 AC7 rfl HB (AUt rfl rfl (fun Ac=>?_) (fun Ac=>?_))))))))))
 ·refine ABp (ACe rfl (ABn (ABl (Wl (AF7 AC7 rfl HA (Wl (AF7 AC7 rfl HB (AFn rfl rfl (fun Ad=>?_) (fun Ad=>?_)))))))))
  ·refine ABp (ACe rfl (ABl (ABq (ABs (AB2 (AB2 (⟨_,ABu,?_⟩)))))))
   first
   | exact ⟨rfl,congrArg (Value.int .i64) (AQ0 (AQ2 HA.dig htb (by omega))).symm⟩
   | exact ⟨rfl,congrArg (Value.int .i64) (AQ1 (AQ2 HB.dig hta (by omega))).symm⟩
   | exact ⟨rfl,congrArg (Value.int .i64) (AQ0 (AQ3 HA.dig HB.dig (by omega) hx hy (by omega) (fun q hq=>hsame q (by omega)))).symm⟩
   | exact ⟨rfl,congrArg (Value.int .i64) (AQ1 (AQ3 HB.dig HA.dig (by omega) hy hx (by omega) (fun q hq=>(hsame q (by omega)).symm))).symm⟩
   | exact ⟨rfl,congrArg (Value.int .i64) (AZo (congrArg nv (List.ext_getElem? fun q=>hsame q (by omega)))).symm⟩
  ·refine ABp (ACf rfl (ABt (q_t (ABl (ABq (ABs (AB2 (⟨_,ABu,?_⟩))))))))
   first
   | exact ⟨rfl,congrArg (Value.int .i64) (AQ0 (AQ2 HA.dig htb (by omega))).symm⟩
   | exact ⟨rfl,congrArg (Value.int .i64) (AQ1 (AQ2 HB.dig hta (by omega))).symm⟩
   | exact ⟨rfl,congrArg (Value.int .i64) (AQ0 (AQ3 HA.dig HB.dig (by omega) hx hy (by omega) (fun q hq=>hsame q (by omega)))).symm⟩
   | exact ⟨rfl,congrArg (Value.int .i64) (AQ1 (AQ3 HB.dig HA.dig (by omega) hy hx (by omega) (fun q hq=>(hsame q (by omega)).symm))).symm⟩
   | exact ⟨rfl,congrArg (Value.int .i64) (AZo (congrArg nv (List.ext_getElem? fun q=>hsame q (by omega)))).symm⟩
 ·refine ABp (ACf rfl (ABt (q_t (ABn (ABl (Wl (AF7 AC7 rfl HA (ALu rfl rfl (by omega) (by omega) (ABq (ABr (ACk 2199022731312 (fun i:Nat=>[(5,.int .i64 ((i:Int) - 1))]) (fun k i h'=>h'=h/\i=k/\i<=LA.length/\ ∀ q,i<=q->LA[q]? =LB[q]?) (by kernel_rfl) LA.length LA.length ?_ ⟨rfl,trivial⟩ ?_)))))))))))
  ·exact ⟨rfl,rfl,Nat.le_refl _,fun q hq=>by rw [List.getElem?_eq_none hq,List.getElem?_eq_none (by omega)]⟩
  rintro k i s1 h ⟨rfl,rfl,hi,hsame⟩;refine ABn (ABl (Wl (AUs rfl rfl (fun Ae=>?_) (fun Ae=>?_))))
  ·refine ABp (ACe rfl (ABt (q_t (ABn (ABr (ABn ?_))))));obtain ⟨x,hx⟩:∃ x,LA[i - 1]? =some x:=⟨_,List.getElem?_eq_getElem (by omega)⟩;obtain ⟨y,hy⟩:∃ y,LB[i - 1]? =some y:=⟨_,List.getElem?_eq_getElem (by omega)⟩;have e1:((i:Int) - 1)=((i - 1:Nat):Int):=by omega
   refine AOs (by kernel_rfl) (Wl (Wl (ANu (n:=i - 1) AC7 rfl HA (show Value.int .i64 ((i:Int) - 1)=_ by rw [e1]) hx fun a1 Af=>?_)));refine AB9 AHx rfl Af (Wl (Wl (ANu (n:=i - 1) AC7 rfl HB (show Value.int .i64 ((i:Int) - 1)=_ by rw [e1]) hy fun a2 Ag=>?_)));refine AB9 AHx rfl Ag (AUt rfl rfl (fun Ah=>?_) (fun Ah=>?_))
   ·refine ABp (ACe rfl (ABn (ABn (AOs (by kernel_rfl) (Wl (Wl (ANu (n:=i - 1) AC7 rfl HA (show Value.int .i64 ((i:Int) - 1)=_ by rw [e1]) hx fun a3 Ai=>?_)))))));refine AB9 AHx rfl Ai (Wl (Wl (ANu (n:=i - 1) AC7 rfl HB (show Value.int .i64 ((i:Int) - 1)=_ by rw [e1]) hy fun a4 Aj=>?_)));refine AB9 AHx rfl Aj (AFn rfl rfl (fun Ak=>?_) (fun Ak=>?_))
    ·refine ABp (ACe rfl (ABl (ABq (ABs (AB2 (ADp (AB2 (AB2 (ADp (AB2 (⟨_,ABu,?_⟩)))))))))))
     first
     | exact ⟨rfl,congrArg (Value.int .i64) (AQ0 (AQ2 HA.dig htb (by omega))).symm⟩
     | exact ⟨rfl,congrArg (Value.int .i64) (AQ1 (AQ2 HB.dig hta (by omega))).symm⟩
     | exact ⟨rfl,congrArg (Value.int .i64) (AQ0 (AQ3 HA.dig HB.dig (by omega) hx hy (by omega) (fun q hq=>hsame q (by omega)))).symm⟩
     | exact ⟨rfl,congrArg (Value.int .i64) (AQ1 (AQ3 HB.dig HA.dig (by omega) hy hx (by omega) (fun q hq=>(hsame q (by omega)).symm))).symm⟩
     | exact ⟨rfl,congrArg (Value.int .i64) (AZo (congrArg nv (List.ext_getElem? fun q=>hsame q (by omega)))).symm⟩
    ·refine ABp (ACf rfl (ABt (q_t (ABl (ABq (ABs (ADp (AB2 (AB2 (ADp (AB2 (⟨_,ABu,?_⟩))))))))))))
     first
     | exact ⟨rfl,congrArg (Value.int .i64) (AQ0 (AQ2 HA.dig htb (by omega))).symm⟩
     | exact ⟨rfl,congrArg (Value.int .i64) (AQ1 (AQ2 HB.dig hta (by omega))).symm⟩
     | exact ⟨rfl,congrArg (Value.int .i64) (AQ0 (AQ3 HA.dig HB.dig (by omega) hx hy (by omega) (fun q hq=>hsame q (by omega)))).symm⟩
     | exact ⟨rfl,congrArg (Value.int .i64) (AQ1 (AQ3 HB.dig HA.dig (by omega) hy hx (by omega) (fun q hq=>(hsame q (by omega)).symm))).symm⟩
     | exact ⟨rfl,congrArg (Value.int .i64) (AZo (congrArg nv (List.ext_getElem? fun q=>hsame q (by omega)))).symm⟩
   ·refine ABp (ACf rfl (ABt (q_b (q_t (ABy (Wl (ALu rfl rfl (by omega) (by omega) (ABq ?_))))))));exact ⟨i - 1,i - 1,by omega,⟨rfl,rfl,by omega,fun q hq=>by rcases Nat.lt_or_ge q i with h2 | h2;obtain rfl:q=i - 1:=(by omega);rw [hx,hy];congr 1;omega;exact hsame q h2⟩,by rw [show ((i - 1:Nat):Int) - 1=(i:Int) - 1 - 1 by omega];rfl,trivial⟩
  ·refine ABp (ACf rfl (ACd (ACc (ACc (ADo (q_t (ABl (ABq (ABs (⟨_,ABu,?_⟩))))))))))
   first
   | exact ⟨rfl,congrArg (Value.int .i64) (AQ0 (AQ2 HA.dig htb (by omega))).symm⟩
   | exact ⟨rfl,congrArg (Value.int .i64) (AQ1 (AQ2 HB.dig hta (by omega))).symm⟩
   | exact ⟨rfl,congrArg (Value.int .i64) (AQ0 (AQ3 HA.dig HB.dig (by omega) hx hy (by omega) (fun q hq=>hsame q (by omega)))).symm⟩
   | exact ⟨rfl,congrArg (Value.int .i64) (AQ1 (AQ3 HB.dig HA.dig (by omega) hy hx (by omega) (fun q hq=>(hsame q (by omega)).symm))).symm⟩
   | exact ⟨rfl,congrArg (Value.int .i64) (AZo (congrArg nv (List.ext_getElem? fun q=>hsame q (by omega)))).symm⟩
theorem Ahp {P:Program} {a b:Nat} (ha:a < 4294967296) (hb:b < 4294967296) (w:World):(Op.intBits .or .u32 (a:Int) (b:Int)).run P w= .ok (.int .u32 ((a ||| b:Nat):Int)) w:=by
 have h1:(BitVec.ofInt 32 (a:Int)).toNat=a:=by rw [BitVec.toNat_ofInt];omega
 have h2:(BitVec.ofInt 32 (b:Int)).toNat=b:=by rw [BitVec.toNat_ofInt];omega
 have h3:a ||| b < 2 ^ 32:=Nat.or_lt_two_pow (by omega) (by omega);simp only [Op.intBits];show Result.ok (Value.int .u32 (IntKind.u32.wrap ((BitVec.ofInt 32 (a:Int) ||| BitVec.ofInt 32 (b:Int)).toNat:Int))) w=_;rw [BitVec.toNat_or,h1,h2,wrap_u32,Int.emod_eq_of_lt (by omega) (by omega)]
theorem Ae7 {P:Program} {a:Nat} (ha:a < 4294967296) (w:World):(Op.intBits .and .u32 (a:Int) 1).run P w= .ok (.int .u32 ((a % 2:Nat):Int)) w:=by
 have h1:(BitVec.ofInt 32 (a:Int)).toNat=a:=by rw [BitVec.toNat_ofInt];omega
 have h2:(BitVec.ofInt 32 (1:Int)).toNat=1:=by decide
 simp only [Op.intBits];show Result.ok (Value.int .u32 (IntKind.u32.wrap ((BitVec.ofInt 32 (a:Int) &&& BitVec.ofInt 32 (1:Int)).toNat:Int))) w=_;rw [BitVec.toNat_and,h1,h2,Nat.and_one_is_mod,wrap_u32,Int.emod_eq_of_lt (by omega) (by omega)]
theorem ASd {L:List Nat} {i:Nat} (h:L.length<=i):nv (L.take i)=nv L:=by rw [List.take_of_length_le h]
theorem Ar4 {h:ABj} {la lb:Nat} {va vb:Value} {LA LB:List Nat} (HA:DS h la va LA) (HB:DS h lb vb LB) (hna:LA.length<=1000) (hnb:LB.length<=1000):ACa Tryz.prog 129 #[va,vb] h fun x h'=>Ext h h'/\ ∃ L,DS h' (Array.size h) x L/\nv L=nv LA + nv LB/\L.length<=1001:=by
 refine AC0 (l:=[_,_]) mx Tryz.func129 rfl rfl rfl rfl rfl (by kernel_rfl) (ABl (ACr (ACr (ABq (ABn (ABl ?_))))));refine ABq (ABr (ACk 562949953421280 (fun y:Nat × Value × Nat=>[(7,.int .i64 (y.1:Int)),(5,y.2.1),(6,.int .u64 (y.2.2:Int))]) (fun k y h'=>k=LA.length + LB.length - y.1/\(y.1<=LA.length∨y.1<=LB.length)/\Ext h h'/\y.2.2<=1/\ ∃ D,Gro h' 147 (Array.size h) y.2.1 (D.map ARk)/\D.length=y.1/\Dig D/\nv D + 4294967296 ^ y.1 * y.2.2=nv (LA.take y.1) + nv (LB.take y.1)) (by kernel_rfl) (LA.length + LB.length) (0,.slice none 0 0,0) ?_ ⟨rfl,rfl,rfl,trivial⟩ ?_))
 ·exact ⟨rfl,.inl (Nat.zero_le _),(Ext.refl _),by first | omega | (dsimp only;omega),[],AT4 _ _ _,rfl,fun x hx=>(by simp at hx),rfl⟩
 rintro k ⟨i,vo,c⟩ s1 h2 ⟨rfl,hi,E2,hc,D,HG,hDl,hDd,hDv⟩;dsimp only at hi hc HG hDl hDv ⊢;have hga:=Ac4 HA.dig i;have hgb:=Ac4 HB.dig i;have Au:=E2.1;refine ABn (ABl (Wl (Wl (AF7 AC7 rfl (HA.ext E2) (AFn rfl rfl (fun Ad=>?_) (fun Ad=>?_))))))
 ·refine Wl (ACi 12 true (by kernel_rfl) rfl rfl (ACi 12 true (by kernel_rfl) rfl rfl (ACi 12 true (by kernel_rfl) rfl rfl (ACi 12 true (by kernel_rfl) rfl rfl (ABz rfl (ABp (ACe rfl (ABt (q_t (ABn (ABr (AWj 2146435136 (fun q:Nat=>[(6,.int .u64 (q:Int))]) (fun q h'=>h'=h2/\q=c + LA[i]?.getD 0) (by kernel_rfl) ?_ ?_))))))))))))
  ·refine ABl (Wl (Wl (AF7 AC7 rfl (HA.ext E2) (AFn rfl rfl (fun Ae=>?_) (fun Ae=>?_)))))
   ·refine ABp (ACe rfl ?_);obtain ⟨x,hx⟩:∃ x,LA[i]? =some x:=⟨_,List.getElem?_eq_getElem (by omega)⟩;have hbx:=HA.dig x (List.mem_of_getElem? hx);refine ABy (Wl (Wl (Wl (ANu AC7 rfl (HA.ext E2) rfl hx fun Av Af=>AB9 AHx rfl Af (Aa4 AKo AIy rfl hbx (AU7 rfl rfl (by omega) (ABq ?_)))))));exact ⟨c + x,⟨rfl,by rw [hx];rfl⟩,rfl,trivial⟩
   ·refine ABp (ACf rfl (ABt (q_t ?_)));exact ⟨c,⟨rfl,by rw [show LA[i]? =none from List.getElem?_eq_none (by omega)];rfl⟩,rfl,trivial⟩
  rintro q s2 h2 ⟨rfl,rfl⟩;refine AWj 4395899027520 (fun q:Nat=>[(6,.int .u64 (q:Int))]) (fun q h'=>h'=h2/\q=c + LA[i]?.getD 0 + LB[i]?.getD 0) (by kernel_rfl) ?_ ?_
  ·refine ABl (Wl (Wl (AF7 AC7 rfl (HB.ext E2) (AFn rfl rfl (fun Ag=>?_) (fun Ag=>?_)))))
   ·refine ABp (ACe rfl ?_);obtain ⟨y,hy⟩:∃ x,LB[i]? =some x:=⟨_,List.getElem?_eq_getElem (by omega)⟩;have hby:=HB.dig y (List.mem_of_getElem? hy);refine ABy (Wl (Wl (Wl (ANu AC7 rfl (HB.ext E2) rfl hy fun Aw Ah=>AB9 AHx rfl Ah (Aa4 AKo AIy rfl hby (AU7 rfl rfl (by omega) (ABq ?_)))))));exact ⟨c + LA[i]?.getD 0 + y,⟨rfl,by rw [hy];rfl⟩,rfl,trivial⟩
   ·refine ABp (ACf rfl (ABt (q_t ?_)));exact ⟨c + LA[i]?.getD 0,⟨rfl,by rw [show LB[i]? =none from List.getElem?_eq_none (by omega)];rfl⟩,rfl,trivial⟩
  rintro q s2 h2 ⟨rfl,rfl⟩;refine ABl (Wl (Wl (Ae1 AIy AKo rfl (AT6 (h0:=h) AC7 AOv (fun _=>trivial) (fun _=>rfl) rfl E2 HG (by decide) (by omega) fun p4 v4 h4 Ab E4=>ABq (ABy (Wl (Ac2 rfl rfl (ACg (ACm (q_b (q_t (ABy (Wl (AI9 rfl (by omega) (ABq ?_)))))))))))))));exact ⟨LA.length + LB.length - (i + 1),(i + 1,v4,(c + LA[i]?.getD 0 + LB[i]?.getD 0) / 4294967296),by first | omega | (dsimp only;omega),⟨rfl,by first | omega | (dsimp only;omega),E4,by first | omega | (dsimp only;omega),_,Ab,by simp [hDl],AP0 hDd (Nat.mod_lt _ (by decide)),by rw [AOb,hDl,Nat.add_assoc c,AZk hDv,AL1 LA,AL1 LB,Nat.mul_add];omega⟩,rfl,rfl,rfl,trivial⟩
 ·refine Wl (ACz 12 false (by kernel_rfl) rfl rfl (Wl (ACz 12 false (by kernel_rfl) rfl rfl (Wl (ACz 12 false (by kernel_rfl) rfl rfl (AF7 AC7 rfl (HB.ext E2) (ACz 12 false (by kernel_rfl) rfl rfl (AFn rfl rfl (fun Aj=>?_) (fun Aj=>?_)))))))))
  ·refine ABw rfl (ABp (ACe rfl (ABt (q_t (ABn (ABr (AWj 2146435136 (fun q:Nat=>[(6,.int .u64 (q:Int))]) (fun q h'=>h'=h2/\q=c + LA[i]?.getD 0) (by kernel_rfl) ?_ ?_)))))))
   ·refine ABl (Wl (Wl (AF7 AC7 rfl (HA.ext E2) (AFn rfl rfl (fun Ak=>?_) (fun Ak=>?_)))))
    ·refine ABp (ACe rfl ?_);obtain ⟨x,hx⟩:∃ x,LA[i]? =some x:=⟨_,List.getElem?_eq_getElem (by omega)⟩;have hbx:=HA.dig x (List.mem_of_getElem? hx);refine ABy (Wl (Wl (Wl (ANu AC7 rfl (HA.ext E2) rfl hx fun Ax Am=>AB9 AHx rfl Am (Aa4 AKo AIy rfl hbx (AU7 rfl rfl (by omega) (ABq ?_)))))));exact ⟨c + x,⟨rfl,by rw [hx];rfl⟩,rfl,trivial⟩
    ·refine ABp (ACf rfl (ABt (q_t ?_)));exact ⟨c,⟨rfl,by rw [show LA[i]? =none from List.getElem?_eq_none (by omega)];rfl⟩,rfl,trivial⟩
   rintro q s2 h2 ⟨rfl,rfl⟩;refine AWj 4395899027520 (fun q:Nat=>[(6,.int .u64 (q:Int))]) (fun q h'=>h'=h2/\q=c + LA[i]?.getD 0 + LB[i]?.getD 0) (by kernel_rfl) ?_ ?_
   ·refine ABl (Wl (Wl (AF7 AC7 rfl (HB.ext E2) (AFn rfl rfl (fun Ao=>?_) (fun Ao=>?_)))))
    ·refine ABp (ACe rfl ?_);obtain ⟨y,hy⟩:∃ x,LB[i]? =some x:=⟨_,List.getElem?_eq_getElem (by omega)⟩;have hby:=HB.dig y (List.mem_of_getElem? hy);refine ABy (Wl (Wl (Wl (ANu AC7 rfl (HB.ext E2) rfl hy fun Ay Ap=>AB9 AHx rfl Ap (Aa4 AKo AIy rfl hby (AU7 rfl rfl (by omega) (ABq ?_)))))));exact ⟨c + LA[i]?.getD 0 + y,⟨rfl,by rw [hy];rfl⟩,rfl,trivial⟩
    ·refine ABp (ACf rfl (ABt (q_t ?_)));exact ⟨c + LA[i]?.getD 0,⟨rfl,by rw [show LB[i]? =none from List.getElem?_eq_none (by omega)];rfl⟩,rfl,trivial⟩
   rintro q s2 h2 ⟨rfl,rfl⟩;refine ABl (Wl (Wl (Ae1 AIy AKo rfl (AT6 (h0:=h) AC7 AOv (fun _=>trivial) (fun _=>rfl) rfl E2 HG (by decide) (by omega) fun p4 v4 h4 Ab E4=>ABq (ABy (Wl (Ac2 rfl rfl (ACg (ACm (q_b (q_t (ABy (Wl (AI9 rfl (by omega) (ABq ?_)))))))))))))));exact ⟨LA.length + LB.length - (i + 1),(i + 1,v4,(c + LA[i]?.getD 0 + LB[i]?.getD 0) / 4294967296),by first | omega | (dsimp only;omega),⟨rfl,by first | omega | (dsimp only;omega),E4,by first | omega | (dsimp only;omega),_,Ab,by simp [hDl],AP0 hDd (Nat.mod_lt _ (by decide)),by rw [AOb,hDl,Nat.add_assoc c,AZk hDv,AL1 LA,AL1 LB,Nat.mul_add];omega⟩,rfl,rfl,rfl,trivial⟩
  ·refine ABw rfl (ABp (ACf rfl (ACd (ACc (ACc (ADo (q_t (ABl (Wl (Wl (Ae1 AIy AKo rfl ?_)))))))))));rw [Nat.mod_eq_of_lt (show c < 4294967296 by omega)];refine AT6 (h0:=h) AC7 AOv (fun _=>trivial) (fun _=>rfl) rfl E2 HG (by decide) (by omega) fun p5 v5 h5 Aq E5=>ABq (ABs (⟨_,ABu,?_⟩));exact ⟨E5,D ++ [c],Aq.ds (AP0 hDd (by omega)),by rw [AOb,hDl,hDv,ASd (by omega),ASd (by omega)],by simp [hDl];omega⟩
theorem AV0 {h:ABj} {la lb:Nat} {va vb:Value} {LA LB:List Nat} (HA:DS h la va LA) (HB:DS h lb vb LB) (htb:TL LB) (hle:nv LB<=nv LA) (hna:LA.length<=1000):ACa Tryz.prog 130 #[va,vb] h fun x h'=>Ext h h'/\ ∃ L,DS h' (Array.size h) x L/\nv L=nv LA - nv LB/\L.length<=LA.length:=by
 refine AC0 (l:=[_,_]) mx Tryz.func130 rfl rfl rfl rfl rfl (by kernel_rfl) (ABl (ACr (ACr (ABq (ABn (ABl ?_))))));refine ABq (ABr (ACk 35184372088800 (fun y:Nat × Value × Nat=>[(7,.int .i64 (y.1:Int)),(5,y.2.1),(6,.int .u64 (y.2.2:Int))]) (fun k y h'=>k=LA.length - y.1/\y.1<=LA.length/\Ext h h'/\y.2.2<=1/\ ∃ D,Gro h' 147 (Array.size h) y.2.1 (D.map ARk)/\D.length=y.1/\Dig D/\nv D + nv (LB.take y.1)=nv (LA.take y.1) + 4294967296 ^ y.1 * y.2.2) (by kernel_rfl) LA.length (0,.slice none 0 0,0) ?_ ⟨rfl,rfl,rfl,trivial⟩ ?_))
 ·exact ⟨rfl,Nat.zero_le _,(Ext.refl _),by first | omega | (dsimp only;omega),[],AT4 _ _ _,rfl,fun x hx=>(by simp at hx),rfl⟩
 rintro k ⟨i,vo,c⟩ s1 h2 ⟨rfl,hi,E2,hc,D,HG,hDl,hDd,hDv⟩;dsimp only at hi hc HG hDl hDv ⊢;have Ak:=E2.1;refine ABn (ABl (Wl (Wl (AF7 AC7 rfl (HA.ext E2) (AFn rfl rfl (fun Ad=>?_) (fun Ad=>?_))))))
 ·refine ABp (ACe rfl (ABt (q_t (ABn (ABr (ABn ?_))))));obtain ⟨x,hx⟩:∃ x,LA[i]? =some x:=⟨_,List.getElem?_eq_getElem (by omega)⟩;have hbx:=HA.dig x (List.mem_of_getElem? hx);have hgb:=Ac4 HB.dig i;refine ABy (Wl (ABq (AWj 134152448 (fun q:Nat=>[(8,.int .u64 (q:Int))]) (fun q h'=>h'=h2/\q=c + LB[i]?.getD 0) (by kernel_rfl) ?_ ?_)))
  ·refine ABl (Wl (Wl (AF7 AC7 rfl (HB.ext E2) (AFn rfl rfl (fun Ae=>?_) (fun Ae=>?_)))))
   ·refine ABp (ACe rfl ?_);obtain ⟨y,hy⟩:∃ x,LB[i]? =some x:=⟨_,List.getElem?_eq_getElem (by omega)⟩;have hby:=HB.dig y (List.mem_of_getElem? hy);refine ABy (Wl (Wl (Wl (ANu AC7 rfl (HB.ext E2) rfl hy fun Am Af=>AB9 AHx rfl Af (Aa4 AKo AIy rfl hby (AU7 rfl rfl (by omega) (ABq ?_)))))));exact ⟨c + y,⟨rfl,by rw [hy];rfl⟩,rfl,trivial⟩
   ·refine ABp (ACf rfl (ABt (q_t ?_)));exact ⟨c,⟨rfl,by rw [show LB[i]? =none from List.getElem?_eq_none (by omega)];rfl⟩,rfl,trivial⟩
  rintro q s2 h2 ⟨rfl,rfl⟩;refine ABl (Wl (Wl (Wl (ANu AC7 rfl (HA.ext E2) rfl hx fun Ao Ag=>AB9 AHx rfl Ag (Aa4 AKo AIy rfl hbx (Wl (AHd rfl rfl ?_)))))));rw [wrap_u64];refine AMv AIy AKo rfl ?_;obtain ⟨dg,hdg⟩:∃ dg:Nat,(dg:Int)=((x:Int) - ((c + LB[i]?.getD 0:Nat):Int)) % 4294967296:=⟨(((x:Int) - ((c + LB[i]?.getD 0:Nat):Int)) % 4294967296).toNat,by omega⟩;rw [show IntKind.u32.wrap (((x:Int) - ((c + LB[i]?.getD 0:Nat):Int)) % 18446744073709551616)=(dg:Int) by rw [wrap_u32,hdg];omega];refine AT6 (h0:=h) AC7 AOv (fun _=>trivial) (fun _=>rfl) rfl E2 HG (by decide) (by omega) fun p4 v4 h4 Ac E4=>ACr (ACr (Wl (Wl (ANu AC7 rfl (HA.ext E4) rfl hx fun Aq Ah=>AB9 AHx rfl Ah (Aa4 AKo AIy rfl hbx (Wl (AFn rfl rfl (fun Ai=>?_) (fun Ai=>?_))))))))
  ·refine ABp (ACe rfl (ABy (ACg (ACm (q_b (q_t (ABy (Wl (AI9 rfl (by omega) (ABq ?_))))))))));exact ⟨LA.length - (i + 1),(i + 1,v4,1),by first | omega | (dsimp only;omega),⟨rfl,by first | omega | (dsimp only;omega),E4,by first | omega | (dsimp only;omega),_,Ac,by simp [hDl],AP0 hDd (by omega),by rw [AOb,hDl,AL1 LB,AHf hx];exact AXm hDv (by first | omega | (dsimp only;omega))⟩,rfl,rfl,rfl,trivial⟩
  ·refine ABp (ACf rfl (ABt (q_b (q_t (ABy (Wl (AI9 rfl (by omega) (ABq ?_))))))));exact ⟨LA.length - (i + 1),(i + 1,v4,0),by first | omega | (dsimp only;omega),⟨rfl,by first | omega | (dsimp only;omega),E4,by first | omega | (dsimp only;omega),_,Ac,by simp [hDl],AP0 hDd (by omega),by rw [AOb,hDl,AL1 LB,AHf hx];exact AXm hDv (by first | omega | (dsimp only;omega))⟩,rfl,rfl,rfl,trivial⟩
 ·refine ABp (ACf rfl (ACd (ACc (ACc (ADo (q_t (ABl (Wl (ABq (ABs (⟨_,ABu,?_⟩)))))))))));obtain rfl:i=LA.length:=by omega
  rw [List.take_length,ASd (by have:=ASa htb (Nat.lt_of_le_of_lt hle (APz HA.dig));omega)] at hDv;have hDlt:=APz hDd;rw [hDl] at hDlt
  have Aj:c=0:=by
    rcases Nat.eq_zero_or_pos c with h0 | h0
    · exact h0
    · obtain rfl:c=1:=by omega
      rw [Nat.mul_one] at hDv;omega
  subst Aj;rw [Nat.mul_zero,Nat.add_zero] at hDv;exact ⟨E2,D,HG.ds hDd,by omega,by omega⟩
theorem AZp {h:ABj} {lo:Nat} {v:Value} {L:List Nat} (b:Nat) (hb:b<=1) (H:DS h lo v L) (hn:L.length<=1000):ACa Tryz.prog 134 #[v,.int .u32 (b:Int)] h fun x h'=>Ext h h'/\ ∃ L',DS h' (Array.size h) x L'/\nv L'=2 * nv L + b/\L'.length<=L.length + 1:=by
 refine AC0 (l:=[_,_]) mx Tryz.func134 rfl rfl rfl rfl rfl (by kernel_rfl) (ABl (ACr (ABq (ABn (ABl (Wl (AF7 AC7 rfl H (Wl (ABp (ABr (ACk 16776354 (fun y:Nat × Value × Nat=>[(10,.int .i64 (y.1:Int)),(5,y.2.1),(1,.int .u32 (y.2.2:Int))]) (fun k y h'=>k=L.length - y.1/\y.1<=L.length/\Ext h h'/\y.2.2<=1/\ ∃ D,Gro h' 147 (Array.size h) y.2.1 (D.map ARk)/\D.length=y.1/\Dig D/\nv D + 4294967296 ^ y.1 * y.2.2=2 * nv (L.take y.1) + b) (by kernel_rfl) L.length (0,.slice none 0 0,b) ?_ ⟨rfl,rfl,rfl,trivial⟩ ?_)))))))))))
 ·exact ⟨rfl,Nat.zero_le _,(Ext.refl _),hb,[],AT4 _ _ _,rfl,fun x hx=>(by simp at hx),by simp [nv]⟩
 rintro k ⟨i,vo,c⟩ s1 h2 ⟨rfl,hi,E2,hc,D,HG,hDl,hDd,hDv⟩;dsimp only at hi hc HG hDl hDv ⊢;have Ai:=E2.1;refine ABl (AFn rfl rfl (fun Aa=>?_) (fun Aa=>?_))
 ·refine ABp (ABn (ACe rfl (ABt (q_t (ABn (ABr (ABn ?_)))))));obtain ⟨x,hx⟩:∃ x,L[i]? =some x:=⟨_,List.getElem?_eq_getElem (by omega)⟩;have hbx:=H.dig x (List.mem_of_getElem? hx);refine ABy (ANu AC7 rfl (H.ext E2) rfl hx fun Aj Ab=>AB9 AHx rfl Ab (ACr (Wl (Wl (Ajf (n:=1) rfl rfl (by decide) ?_)))));rw [show IntKind.u32.wrap ((x:Int) * 2 ^ 1)=((2 * x % 4294967296:Nat):Int) by rw [wrap_u32];omega];refine Wl (AWt rfl rfl (.inr (.inl rfl)) (Ahp (Nat.mod_lt _ (by decide)) (by omega)) ?_)
  have hor:2 * x % 4294967296 ||| c=2 * x % 4294967296 + c:=by
    have h1:2 * x % 4294967296=2 ^ 1 * (x % 2147483648):=by omega
    rw [h1,<- Nat.two_pow_add_eq_or_of_lt (by omega)]
  rw [hor];refine AT6 (h0:=h) AC7 AOv (fun _=>trivial) (fun _=>rfl) rfl E2 HG (by decide) (by omega) fun p4 v4 h4 Ad E4=>ABq (ABy (Wl (Aez (n:=31) rfl rfl (by decide) ?_)));rw [show (x:Int) / 2 ^ 31=((x / 2147483648:Nat):Int) by omega];refine ACg (ACm (q_b (q_t (ABy (AI9 rfl (by omega) (Wl (ABp ?_)))))));exact ⟨L.length - (i + 1),(i + 1,v4,x / 2147483648),by first | omega | (dsimp only;omega),⟨rfl,by first | omega | (dsimp only;omega),E4,by first | omega | (dsimp only;omega),_,Ad,by simp [hDl],AP0 hDd (by omega),by rw [AOb,hDl,Aoa hDv (show 2 * x % 4294967296 + c + 4294967296 * (x / 2147483648)=2 * x + c by omega),AHf hx,Nat.mul_add,Nat.mul_left_comm];omega⟩,rfl,rfl,rfl,trivial⟩
 ·refine ABp (ABn (ACf rfl (ACd (ACc (ACc (ADo (q_t (ABl (Wl (Wl (AT6 (h0:=h) AC7 AOv (fun _=>trivial) (fun _=>rfl) rfl E2 HG (by decide) (by omega) fun p5 v5 h5 Af E5=>ABq (ABs (⟨_,ABu,?_⟩)))))))))))));obtain rfl:i=L.length:=by omega
  rw [List.take_length] at hDv;exact ⟨E5,D ++ [c],Af.ds (AP0 hDd (by omega)),by rw [AOb,hDl,hDv],by simp [hDl]⟩
theorem ATq {a b:Nat} (h:0<=ATa a b):b<=a:=by
 unfold ATa at h;split at h
 ·omega
 ·omega
theorem Adc {a b:Nat} (h:ATa a b < 0):a<=b:=by
 unfold ATa at h;split at h
 ·omega
 ·split at h <;> omega
theorem Ahq {A B:List Nat} (ha:Dig A) (hb:Dig B) (la:A.length<=99) (lb:B.length<=99):nv A + nv B < 4294967296 ^ 100:=by
 have h1:=APz ha;have h2:=APz hb;have h3:4294967296 ^ A.length<=4294967296 ^ 99:=Nat.pow_le_pow_right (by decide) la;have h4:4294967296 ^ B.length<=4294967296 ^ 99:=Nat.pow_le_pow_right (by decide) lb;have h5:4294967296 ^ 100=4294967296 ^ 99 * 4294967296:=Nat.pow_succ 4294967296 99;rw [h5];have h6:0 < 4294967296 ^ 99:=Nat.pow_pos (by decide);generalize 4294967296 ^ 99=t at *;omega
theorem Ade {a b:Bool} {x y:Nat} (h:a=b):sgn a x + sgn b y=sgn a (x + y):=by
 subst h;cases a <;> simp [sgn] <;> omega
theorem Adf {a b:Bool} {x y:Nat} (h:a≠b) (hl:y<=x):sgn a x + sgn b y=sgn a (x - y):=by
 cases a <;> cases b <;> simp [sgn] at h ⊢ <;> omega
theorem AZq {a b:Bool} {x y:Nat} (h:a≠b) (hl:x<=y):sgn a x + sgn b y=sgn b (y - x):=by
 cases a <;> cases b <;> simp [sgn] at h ⊢ <;> omega
theorem AJp {ng:Bool} {n:Nat} {z:Int} (h:z=sgn ng n):z.natAbs=n:=by
 subst h;cases ng <;> simp [sgn]
theorem Ar5 (a b:Bool) (x y:Nat):sgn a x * sgn b y=sgn (!(a == b)) (x * y):=by
 cases a <;> cases b <;> simp [sgn,Int.neg_mul,Int.mul_neg]
theorem Avs {L:List Nat} (h:Dig L) (hl:L.length<=2):nv L < 18446744073709551616:=by
 have h1:=APz h;have h2:4294967296 ^ L.length<=4294967296 ^ 2:=Nat.pow_le_pow_right (by decide) hl;omega
theorem Als {h:ABj} {lo:Nat} {va:Value} {z:Int} (HA:ZV h lo va z) (hb:z.natAbs < 9223372036854775808):ACa Tryz.prog 98 #[va] h fun x h'=>Ext h h'/\x= .tuple #[.int .i64 z,.bool true]:=by
 obtain ⟨na,sa,LA,rfl,HDa,htla,hla,hza⟩:=HA.out;refine AC0 (l:=[_]) mx Tryz.func98 rfl rfl rfl rfl rfl (by kernel_rfl) (ABl (AMx [.bool na,sa] (fun _=>trivial) rfl rfl fun Aj h2 V3 E4 Ak Au=>?_));have Av:Array.size h<=Aj:=Ak;have Aw:=E4.1;have Z8:=(Ext.refl h).trans E4;refine ACg (ACr (AJz (fs:=1) APd (by kernel_rfl) (by decide) rfl (AB9 AMf rfl (V3.cell (i:=1) rfl) (ACp trivial rfl (AIz (HDa.ext E4) (by omega)) fun x9 Am hk=>?_))));obtain ⟨Ad,L1,Ag,Ap,Ah,Az⟩:=hk;refine ⟨trivial,?_⟩;have A3:=Ad.1;have Ac:=E4.trans Ad;have Ai:=V3.ext Ad;refine ACr (Wl ?_);have Aq:L1.length<=2:=ASa Ap (by rw [Ah,<- AJp hza];exact Nat.lt_of_lt_of_le hb (by decide));refine ACp trivial rfl (Adb Ag Aq) fun A4 Am hk=>?_;obtain ⟨rfl,rfl⟩:=hk;refine ⟨trivial,?_⟩;refine ABq (ABn (ABr (ABl (Wl (AF7 AC7 rfl Ag (ARh rfl rfl (fun hc=>absurd hc (by omega)) (fun _=>ABq (ACf rfl (ABn ?_)))))))));have hab:=AJp hza;rw [Ah];refine ABy (AJz (fs:=1) AP2 (by kernel_rfl) (by decide) rfl (AB9 AKm rfl (Ai.cell (i:=0) rfl) ?_));cases Ae:na
 ·refine Wl (ACi 18 false (by kernel_rfl) rfl rfl (ACi 18 false (by kernel_rfl) rfl rfl (ABw rfl (ABq (ACf rfl (ABl (AJz (fs:=1) AP2 (by kernel_rfl) (by decide) rfl (AB9 AKm rfl (Ai.cell (i:=0) rfl) ?_))))))));rw [Ae];refine AF9 rfl (Wl (ACz 29 true (by kernel_rfl) rfl rfl (Wl (ACz 29 true (by kernel_rfl) rfl rfl (AFn rfl rfl (fun _=>?_) (fun hc=>absurd hc (by omega)))))));refine ABz rfl (ABq (ACe rfl (ABl (Wl (AMv AIy ALw rfl (ACg (ABq (ABs (ADp (AB2 (⟨_,ADc,?_⟩)))))))))));have Aa:z=sgn na (nv LA):=hza;rw [Ae] at Aa;unfold sgn at Aa
  first
  | (rw [if_pos rfl] at Aa
     exact ⟨Ac,congrArg (fun t=>Value.tuple #[.int .i64 t,.bool true]) (show IntKind.i64.wrap (IntKind.u64.wrap (0 - ((nv LA:Nat):Int)))=z by rw [wrap_u64,IntKind.wrap_i64];omega)⟩)
  | (rw [if_neg (by decide)] at Aa
     exact ⟨Ac,congrArg (fun t=>Value.tuple #[.int .i64 t,.bool true]) (show IntKind.i64.wrap ((nv LA:Nat):Int)=z by rw [IntKind.wrap_i64];omega)⟩)
 ·refine Wl (ACz 18 true (by kernel_rfl) rfl rfl (Wl (ACz 18 true (by kernel_rfl) rfl rfl (AUr rfl rfl (fun _=>?_) (fun hc=>absurd hc (by omega))))));refine ABz rfl (ABq (ACe rfl (ABl (Wl (ATh rfl (AMv AIy ALw rfl (ACg (ABq (ABs (ADp (AB2 (⟨_,ADc,?_⟩))))))))))));have Aa:z=sgn na (nv LA):=hza;rw [Ae] at Aa;unfold sgn at Aa
  first
  | (rw [if_pos rfl] at Aa
     exact ⟨Ac,congrArg (fun t=>Value.tuple #[.int .i64 t,.bool true]) (show IntKind.i64.wrap (IntKind.u64.wrap (0 - ((nv LA:Nat):Int)))=z by rw [wrap_u64,IntKind.wrap_i64];omega)⟩)
  | (rw [if_neg (by decide)] at Aa
     exact ⟨Ac,congrArg (fun t=>Value.tuple #[.int .i64 t,.bool true]) (show IntKind.i64.wrap ((nv LA:Nat):Int)=z by rw [IntKind.wrap_i64];omega)⟩)
theorem AYc {h:ABj} {la lb:Nat} {va vb:Value} {a b:Int} (HA:ZV h la va a) (HB:ZV h lb vb b) (hba:a.natAbs < 4294967296 ^ 99) (hbb:b.natAbs < 4294967296 ^ 99):ACa Tryz.prog 122 #[va,vb] h fun x h'=>Ext h h'/\ZV h' (Array.size h) x (a + b):=by
 obtain ⟨na,sa,LA,rfl,HDa,htla,hla,hza⟩:=HA.out;obtain ⟨nb,sb,LB,rfl,HDb,htlb,hlb,hzb⟩:=HB.out;refine AC0 (l:=[_,_]) mx Tryz.func122 rfl rfl rfl rfl rfl (by kernel_rfl) (ABl (AMx [.bool na,sa] (fun _=>trivial) rfl rfl fun Bj h2 V3 E4 Cb Fa=>?_));have Fb:Array.size h<=Bj:=Cb;have Fc:=E4.1;have Z8:=(Ext.refl h).trans E4;refine AMx [.bool nb,sb] (fun _=>trivial) rfl rfl fun Bl Fd A6 E12 Ce Fe=>?_;have Ff:Array.size h<=Bl:=Nat.le_trans E4.1 Ce;have nebq1bq9:Bj≠Bl:=by have:=V3.lt;omega
 have Fg:=E12.1;have Cf:=Z8.trans E12;have Bz:=E4.trans E12;have A7:=V3.ext E12;have Cg:=E4.trans E12;refine AJ4 [.bool false,.slice none 0 0] AKp rfl (fun _=>trivial) fun Aa B1 Ch Ar Ci Fh=>?_;have Fi:Array.size h<=Aa:=Nat.le_trans Bz.1 Ci;have nebq1bq20:Bj≠Aa:=by have:=A7.lt;omega
 have nebq9bq20:Bl≠Aa:=by have:=A6.lt;omega
 have Fj:=Ar.1;have Cj:=Cf.trans Ar;have B2:=Bz.trans Ar;have B3:=A7.ext Ar;have Ck:=Cg.trans Ar;have B4:=A6.ext Ar;have Cm:=E12.trans Ar;refine ABp (ABn (AEs (fun h'=>Ext B1 h') (by kernel_rfl) ?_));have Ab:=Ext.refl B1;refine AJz (fs:=1) APd (by kernel_rfl) (by decide) rfl (AGw AMf rfl Ab (fun h' hb=>(B3.ext hb).cell (i:=1) rfl) (ACp Ab rfl (AIz (DS.ext HDa B2) (by omega)) fun Fk Fl hk=>?_));obtain ⟨Ak,L1,Bf,Bm,Bg,Fm⟩:=hk;have Bh:=Ab.trans Ak;refine ⟨Bh,?_⟩;have Fo:=Ak.1;have Co:=Cj.trans Ak;have B5:=B2.trans Ak;have Cp:=B3.ext Ak;have Cq:=Ck.trans Ak;have Cr:=B4.ext Ak;have Ct:=Cm.trans Ak;have Cu:=Ch.ext Ak;have Cv:=Ar.trans Ak;refine AJz (fs:=1) APd (by kernel_rfl) (by decide) rfl (AGw AMf rfl Bh (fun h' hb=>(B4.ext hb).cell (i:=1) rfl) (ACp Bh rfl (AIz (DS.ext HDb B5) (by omega)) fun Fp Az hk=>?_));obtain ⟨Aj,L2,Am,Bn,Bi,Fq⟩:=hk;have Cx:=Bh.trans Aj;refine ⟨Cx,?_⟩;have Fr:=Aj.1;have Bo:=Co.trans Aj;have Bp:=B5.trans Aj;have A4:=Cp.ext Aj;have Bq:=Cq.trans Aj;have A8:=Cr.ext Aj;have Br:=Ct.trans Aj;have Bt:=Cu.ext Aj;have Bu:=Cv.trans Aj;have A3:=Bf.ext Aj;refine ACg (ABq (ABn (ABn ?_)));have hl1b:L1.length<=99:=ASa Bm (by rw [Bg,<- AJp hza];exact hba);have hl2b:L2.length<=99:=ASa Bn (by rw [Bi,<- AJp hzb];exact hbb);refine ABy (AJz (fs:=1) AP2 (by kernel_rfl) (by decide) rfl (AB9 AKm rfl (A4.cell (i:=0) rfl) (AJz (fs:=1) AP2 (by kernel_rfl) (by decide) rfl (AB9 AKm rfl (A8.cell (i:=0) rfl) (An7 Ac9 rfl rfl ?_)))));cases Ft:na == nb
 ·refine ABp (ACf rfl (ABt (q_t (ABn (ABl (Wl (Wl (ACp trivial rfl (AYb A3 Am Bm Bn (by omega) (by omega)) fun Fu Az hk=>?_))))))));obtain ⟨rfl,rfl⟩:=hk;refine ⟨trivial,?_⟩;refine AUs rfl rfl (fun Cy=>?_) (fun Cy=>?_)
  ·refine ABp (ACe rfl (ABn (AEs (fun h'=>Ext Az h') (by kernel_rfl) ?_)));have Ab:=Ext.refl Az;refine AJz (fs:=1) AP2 (by kernel_rfl) (by decide) rfl (AGw AKm rfl Ab (fun h' hb=>(A4.ext hb).cell (i:=0) rfl) (Wl (Wl (ACp Ab rfl (AV0 A3 Am Bn (ATq (by assumption)) (by omega)) fun Fv Fw hk=>?_))));obtain ⟨Ag,L3,Au,Av,B7⟩:=hk;have Bv:=Ab.trans Ag;refine ⟨Bv,?_⟩;have Fx:=Ag.1;have Cz:=Bo.trans Ag;have C0:=Bp.trans Ag;have C1:=A4.ext Ag;have C2:=Bq.trans Ag;have C3:=A8.ext Ag;have C4:=Br.trans Ag;have C5:=Bt.ext Ag;have C6:=Bu.trans Ag;have C7:=A3.ext Ag;have C8:=Am.ext Ag;refine ACp Bv rfl (ALy na Au (by omega) (by rw [Av];have:=Ahq Bf.dig Am.dig hl1b hl2b;omega)) fun Fy Fz hk=>?_;obtain ⟨Ad,A9⟩:=hk;have C9:=Bv.trans Ad;refine ⟨C9,?_⟩;have F4:=Ad.1;have Da:=Cz.trans Ad;have Db:=C0.trans Ad;have F5:=C1.ext Ad;have Dc:=C2.trans Ad;have F6:=C3.ext Ad;have Dd:=C4.trans Ad;have De:=C5.ext Ad;have Df:=C6.trans Ad;have Dg:=C7.ext Ad;have Dh:=C8.ext Ad;have Di:=Au.ext Ad;obtain ⟨Aw,s4,L4,rfl,Ay,Bb,Bc,Be⟩:=A9.out;refine ADn [.bool Aw,s4] ACq rfl rfl rfl rfl (AJb Ay.cap) De fun F7 Dj Ao=>?_;have Dk:=Db.thenUpd Ao (fun k hk=>by have Ac:k=Aa:=hk;omega);have F8:=Ao.1;have F9:=Da.thenUpd Ao (fun k hk=>by have Ac:k=Aa:=hk;omega);have B8:=Df.thenUpd Ao (fun k hk=>by have Ac:k=Aa:=hk;omega);have Ga:=A7.ext B8;have Gb:=Dc.thenUpd Ao (fun k hk=>by have Ac:k=Aa:=hk;omega);have Gc:=A6.ext B8;have Gd:=Dd.thenUpd Ao (fun k hk=>by have Ac:k=Aa:=hk;omega);have Ge:=Dg.updLo Ao (by omega);have Gf:=Dh.updLo Ao (by omega);have Gg:=Di.updLo Ao (by omega);have Dl:=Ay.updLo Ao (by omega);refine ABp (ABs (AB2 (⟨_,AFr ACq rfl rfl Dj,?_⟩)));exact ⟨Dk,⟨Aw,s4,L4,rfl,Dl.mono (by omega),Bb,Bc,by rw [<- Be,Av,hza,hzb,<- Bg,<- Bi];first | exact Ade (eq_of_beq (by assumption)) | exact Adf (ne_of_beq_false (by assumption)) (ATq (by assumption)) | exact AZq (ne_of_beq_false (by assumption)) (Adc (by assumption))⟩⟩
  ·refine ABp (ACf rfl (ABt (q_t (ABn (AEs (fun h'=>Ext Az h') (by kernel_rfl) ?_)))));have Ab:=Ext.refl Az;refine AJz (fs:=1) AP2 (by kernel_rfl) (by decide) rfl (AGw AKm rfl Ab (fun h' hb=>(A8.ext hb).cell (i:=0) rfl) (Wl (Wl (ACp Ab rfl (AV0 Am A3 Bm (Adc (by assumption)) (by omega)) fun Gh Gi hk=>?_))));obtain ⟨Ah,L3,Au,Av,B7⟩:=hk;have Bw:=Ab.trans Ah;refine ⟨Bw,?_⟩;have Gj:=Ah.1;have Dn:=Bo.trans Ah;have Do:=Bp.trans Ah;have Dp:=A4.ext Ah;have Dq:=Bq.trans Ah;have Dr:=A8.ext Ah;have Ds:=Br.trans Ah;have Dt:=Bt.ext Ah;have Du:=Bu.trans Ah;have Dv:=A3.ext Ah;have Dw:=Am.ext Ah;refine ACp Bw rfl (ALy nb Au (by omega) (by rw [Av];have:=Ahq Bf.dig Am.dig hl1b hl2b;omega)) fun Gk Gl hk=>?_;obtain ⟨Ae,A9⟩:=hk;have Dx:=Bw.trans Ae;refine ⟨Dx,?_⟩;have Gm:=Ae.1;have Dy:=Dn.trans Ae;have Dz:=Do.trans Ae;have Gn:=Dp.ext Ae;have D0:=Dq.trans Ae;have Gp:=Dr.ext Ae;have D1:=Ds.trans Ae;have D2:=Dt.ext Ae;have D3:=Du.trans Ae;have D4:=Dv.ext Ae;have D5:=Dw.ext Ae;have D6:=Au.ext Ae;obtain ⟨Aw,s4,L4,rfl,Ay,Bb,Bc,Be⟩:=A9.out;refine ADn [.bool Aw,s4] ACq rfl rfl rfl rfl (AJb Ay.cap) D2 fun Gq D7 Ap=>?_;have D8:=Dz.thenUpd Ap (fun k hk=>by have Ac:k=Aa:=hk;omega);have Gr:=Ap.1;have Gt:=Dy.thenUpd Ap (fun k hk=>by have Ac:k=Aa:=hk;omega);have B9:=D3.thenUpd Ap (fun k hk=>by have Ac:k=Aa:=hk;omega);have Gu:=A7.ext B9;have Gv:=D0.thenUpd Ap (fun k hk=>by have Ac:k=Aa:=hk;omega);have Gw:=A6.ext B9;have Gx:=D1.thenUpd Ap (fun k hk=>by have Ac:k=Aa:=hk;omega);have Gy:=D4.updLo Ap (by omega);have Gz:=D5.updLo Ap (by omega);have G3:=D6.updLo Ap (by omega);have D9:=Ay.updLo Ap (by omega);refine ABp (ABs (⟨_,AFr ACq rfl rfl D7,?_⟩));exact ⟨D8,⟨Aw,s4,L4,rfl,D9.mono (by omega),Bb,Bc,by rw [<- Be,Av,hza,hzb,<- Bg,<- Bi];first | exact Ade (eq_of_beq (by assumption)) | exact Adf (ne_of_beq_false (by assumption)) (ATq (by assumption)) | exact AZq (ne_of_beq_false (by assumption)) (Adc (by assumption))⟩⟩
 ·refine ABp (ACe rfl (ABn (AEs (fun h'=>Ext Az h') (by kernel_rfl) ?_)));have Ab:=Ext.refl Az;refine AJz (fs:=1) AP2 (by kernel_rfl) (by decide) rfl (AGw AKm rfl Ab (fun h' hb=>(A4.ext hb).cell (i:=0) rfl) (Wl (Wl (ACp Ab rfl (Ar4 A3 Am (by omega) (by omega)) fun G4 G5 hk=>?_))));obtain ⟨Ai,L3,Au,Av,B7⟩:=hk;have Bx:=Ab.trans Ai;refine ⟨Bx,?_⟩;have G6:=Ai.1;have Ea:=Bo.trans Ai;have Eb:=Bp.trans Ai;have Ec:=A4.ext Ai;have Ed:=Bq.trans Ai;have Ee:=A8.ext Ai;have Ef:=Br.trans Ai;have Eg:=Bt.ext Ai;have Eh:=Bu.trans Ai;have Ei:=A3.ext Ai;have Ej:=Am.ext Ai;refine ACp Bx rfl (ALy na Au (by omega) (by rw [Av];exact Ahq Bf.dig Am.dig hl1b hl2b)) fun G7 G8 hk=>?_;obtain ⟨Af,A9⟩:=hk;have Ek:=Bx.trans Af;refine ⟨Ek,?_⟩;have G9:=Af.1;have El:=Ea.trans Af;have Em:=Eb.trans Af;have Hb:=Ec.ext Af;have En:=Ed.trans Af;have Hc:=Ee.ext Af;have Eo:=Ef.trans Af;have Ep:=Eg.ext Af;have Er:=Eh.trans Af;have Es:=Ei.ext Af;have Et:=Ej.ext Af;have Eu:=Au.ext Af;obtain ⟨Aw,s4,L4,rfl,Ay,Bb,Bc,Be⟩:=A9.out;refine ADn [.bool Aw,s4] ACq rfl rfl rfl rfl (AJb Ay.cap) Ep fun Hd Ev Aq=>?_;have Ew:=Em.thenUpd Aq (fun k hk=>by have Ac:k=Aa:=hk;omega);have He:=Aq.1;have Hf:=El.thenUpd Aq (fun k hk=>by have Ac:k=Aa:=hk;omega);have Ca:=Er.thenUpd Aq (fun k hk=>by have Ac:k=Aa:=hk;omega);have Hg:=A7.ext Ca;have Hh:=En.thenUpd Aq (fun k hk=>by have Ac:k=Aa:=hk;omega);have Hj:=A6.ext Ca;have Hk:=Eo.thenUpd Aq (fun k hk=>by have Ac:k=Aa:=hk;omega);have Hl:=Es.updLo Aq (by omega);have Hm:=Et.updLo Aq (by omega);have Hn:=Eu.updLo Aq (by omega);have Ey:=Ay.updLo Aq (by omega);refine ABp (ABs (AB2 (⟨_,AFr ACq rfl rfl Ev,?_⟩)));exact ⟨Ew,⟨Aw,s4,L4,rfl,Ey.mono (by omega),Bb,Bc,by rw [<- Be,Av,hza,hzb,<- Bg,<- Bi];first | exact Ade (eq_of_beq (by assumption)) | exact Adf (ne_of_beq_false (by assumption)) (ATq (by assumption)) | exact AZq (ne_of_beq_false (by assumption)) (Adc (by assumption))⟩⟩
theorem Ajp {h:ABj} {la lb:Nat} {va vb:Value} {a b:Int} (HA:ZV h la va a) (HB:ZV h lb vb b) (hba:a.natAbs < 4294967296 ^ 99) (hbb:b.natAbs < 4294967296 ^ 99):ACa Tryz.prog 111 #[va,vb] h fun x h'=>Ext h h'/\ZV h' (Array.size h) x (a - b):=by
 obtain ⟨na,sa,LA,rfl,HDa,htla,hla,hza⟩:=HA.out;obtain ⟨nb,sb,LB,rfl,HDb,htlb,hlb,hzb⟩:=HB.out;refine AC0 (l:=[_,_]) mx Tryz.func111 rfl rfl rfl rfl rfl (by kernel_rfl) (ABl (AMx [.bool na,sa] (fun _=>trivial) rfl rfl fun Ai h2 V3 E4 Az By=>?_));have Bz:Array.size h<=Ai:=Az;have B1:=E4.1;have Z8:=(Ext.refl h).trans E4;refine AMx [.bool nb,sb] (fun _=>trivial) rfl rfl fun Aj B2 Ao E12 A4 B3=>?_;have B4:Array.size h<=Aj:=Nat.le_trans E4.1 A4;have nebq1bq9:Ai≠Aj:=by have:=V3.lt;omega
 have B5:=E12.1;have Ap:=E4.trans E12;have Aq:=V3.ext E12;refine AJ4 [.bool false,.slice none 0 0] AKp rfl (fun _=>trivial) fun Ab Ar A5 Ac A6 B6=>?_;have B7:Array.size h<=Ab:=Nat.le_trans Ap.1 A6;have nebq1bq20:Ai≠Ab:=by have:=Aq.lt;omega
 have nebq9bq20:Aj≠Ab:=by have:=Ao.lt;omega
 have B8:=Ac.1;have A7:=(Z8.trans E12).trans Ac;have Au:=Ap.trans Ac;have A8:=(E4.trans E12).trans Ac;have A9:=E12.trans Ac;refine ABp (ABn (AEs (fun h'=>Ext Ar h') (by kernel_rfl) ?_));have Ag:=Ext.refl Ar;refine AEy [.bool na,sa] ACq rfl rfl Ag (fun h' hb=>((Aq.ext Ac).ext hb).agg) (AEy [.bool nb,sb] ACq rfl rfl Ag (fun h' hb=>((Ao.ext Ac).ext hb).agg) (ACp Ag rfl (Ajo (HB.ext Au)) fun B9 Ca hk=>?_));obtain ⟨Ad,HN⟩:=hk;have Ak:=Ag.trans Ad;refine ⟨Ak,?_⟩;have Cb:=Ad.1;have Ba:=A7.trans Ad;have Av:=Au.trans Ad;have Bb:=A8.trans Ad;have Bc:=A9.trans Ad;have Be:=A5.ext Ad;have Bf:=Ac.trans Ad;refine ACp Ak rfl (AYc (HA.ext Av) HN hba (by rw [Int.natAbs_neg];exact hbb)) fun Cd Ce hk=>?_;obtain ⟨Aa,Bg⟩:=hk;have Bh:=Ak.trans Aa;refine ⟨Bh,?_⟩;have Cf:=Aa.1;have Bi:=Ba.trans Aa;have Bj:=Av.trans Aa;have Bl:=Bb.trans Aa;have Bm:=Bc.trans Aa;have Bn:=Be.ext Aa;have Bo:=Bf.trans Aa;have HN_59:=HN.ext Aa;obtain ⟨Aw,s4,L4,rfl,Ay,Bq,Br,Bt⟩:=Bg.out;refine ADn [.bool Aw,s4] ACq rfl rfl rfl rfl (AJb Ay.cap) Bn fun Cg Bu Ae=>?_;have Bv:=Bj.thenUpd Ae (fun k hk=>by have Ah:k=Ab:=hk;omega);have Ch:=Ae.1;have Ci:=Bi.thenUpd Ae (fun k hk=>by have Ah:k=Ab:=hk;omega);have Cj:=Bo.thenUpd Ae (fun k hk=>by have Ah:k=Ab:=hk;omega);have Ck:=Bl.thenUpd Ae (fun k hk=>by have Ah:k=Ab:=hk;omega);have Cm:=Bm.thenUpd Ae (fun k hk=>by have Ah:k=Ab:=hk;omega);have HN_71:=HN_59.updLo Ae (by omega);have Bw:=Ay.updLo Ae (by omega);refine ABp (ABs (⟨_,AFr ACq rfl rfl Bu,?_⟩));exact ⟨Bv,⟨Aw,s4,L4,rfl,Bw.mono (by omega),Bq,Br,by rw [<- Bt];omega⟩⟩
theorem Ahr (n:Nat):nv (List.replicate n 0)=0:=by
 induction n with
 | zero=>rfl
 | succ n ih=>rw [List.replicate_succ];simp [nv,ih]
theorem Ar6 {h:ABj} {la lb:Nat} {va vb:Value} {a b:Int} (HA:ZV h la va a) (HB:ZV h lb vb b) (hab:a.natAbs * b.natAbs < 4294967296 ^ 100):ACa Tryz.prog 112 #[va,vb] h fun x h'=>Ext h h'/\ZV h' (Array.size h) x (a * b):=by
 obtain ⟨na,sa,LA,rfl,HDa,htla,hla,hza⟩:=HA.out;obtain ⟨nb,sb,LB,rfl,HDb,htlb,hlb,hzb⟩:=HB.out;refine AC0 (l:=[_,_]) mx Tryz.func112 rfl rfl rfl rfl rfl (by kernel_rfl) (ABl (AMx [.bool na,sa] (fun _=>trivial) rfl rfl fun Ad h2 V3 E4 Bb Cb=>?_));have Cd:Array.size h<=Ad:=Bb;have Ce:=E4.1;have Z8:=(Ext.refl h).trans E4;refine AMx [.bool nb,sb] (fun _=>trivial) rfl rfl fun Ae Cf Ax E12 Be Cg=>?_;have Ch:Array.size h<=Ae:=Nat.le_trans E4.1 Be;have nebq1bq9:Ad≠Ae:=by have:=V3.lt;omega
 have Ci:=E12.1;have Ay:=E4.trans E12;have Az:=V3.ext E12;refine AJ4 [.bool false,.slice none 0 0] AKp rfl (fun _=>trivial) fun Ac Cj Bf Ag Bg Ck=>?_;have Cm:Array.size h<=Ac:=Nat.le_trans Ay.1 Bg;have nebq1bq20:Ad≠Ac:=by have:=Az.lt;omega
 have nebq9bq20:Ae≠Ac:=by have:=Ax.lt;omega
 have Cn:=Ag.1;have Co:=(Z8.trans E12).trans Ag;have Av:=Ay.trans Ag;have A3:=Az.ext Ag;have Cp:=(E4.trans E12).trans Ag;have A4:=Ax.ext Ag;refine ANc (AJz (fs:=1) APd (by kernel_rfl) (by decide) rfl (AB9 AMf rfl (A3.cell (i:=1) rfl) (AF7 AC7 rfl (HDa.ext Av) (AJz (fs:=1) APd (by kernel_rfl) (by decide) rfl (AB9 AMf rfl (A4.cell (i:=1) rfl) (AF7 AC7 rfl (HDb.ext Av) (AZh rfl rfl (by omega) (An8 (n:=LA.length + LB.length) AC7 AOv (fun _=>trivial) rfl rfl (by decide) (by omega) fun g1 v1 h1 Bh E1 Cq Cr=>?_))))))));have Ct:=E1.1;have A5:=Av.trans E1;have A6:=A3.ext E1;have Cu:=(E12.trans Ag).trans E1;refine ABq (ABn (ABl (AJz (fs:=1) APd (by kernel_rfl) (by decide) rfl (AB9 AMf rfl (A6.cell (i:=1) rfl) (AF7 AC7 rfl (HDa.ext A5) (Wl (ABp (ABr (ACk 1180591620717407111104 (fun y:Nat × List Nat=>[(22,.int .i64 (y.1:Int))]) (fun k y h'=>k=LA.length - y.1/\y.1<=LA.length/\Ext h h'/\g1 < Array.size h'/\AEj 109 h' Ad [.bool na,sa]/\AEj 109 h' Ae [.bool nb,sb]/\AEj 109 h' Ac [.bool false,.slice none 0 0]/\AD7 h' 147 g1 v1 (y.2.map ARk)/\y.2.length=LA.length + LB.length/\Dig y.2/\nv y.2=nv (LA.take y.1) * nv LB/\ ∀ q,y.1 + LB.length<=q->q < LA.length + LB.length->y.2[q]? =some 0) (by kernel_rfl) LA.length (0,List.replicate (LA.length + LB.length) 0) ?_ ⟨rfl,trivial⟩ ?_)))))))))
 ·exact ⟨rfl,Nat.zero_le _,A5,by omega,A6,(A4.ext E1),(Bf.ext E1),Bh,by simp,fun x hx=>by rw [(List.mem_replicate.1 hx).2];decide,by simp [nv,Ahr],fun q hq Cv=>by dsimp only;rw [List.getElem?_replicate];simp;omega⟩
 rintro k ⟨i,O⟩ s1 hq ⟨rfl,hi,XQ,hgq,Ai,Af,Am,Ab,hOl,hOd,hOv,hOz⟩;dsimp only at hi Ab hOl hOd hOv hOz ⊢;refine ABl (AFn rfl rfl (fun Bi=>?_) (fun Bi=>?_))
 ·refine ABp (ABn (ACe rfl (ABt (q_t (ABn (ABr (ABn ?_)))))));obtain ⟨x,hx⟩:∃ x,LA[i]? =some x:=⟨_,List.getElem?_eq_getElem (by omega)⟩;have hbx:=HDa.dig x (List.mem_of_getElem? hx);refine ABy (Wl (ANu AC7 rfl (HDa.ext XQ) rfl hx fun Cw Bj=>AB9 AHx rfl Bj (ACg (ACr (ABq (ABn (ABl (AJz (fs:=1) APd (by kernel_rfl) (by decide) rfl (AB9 AMf rfl (Af.cell (i:=1) rfl) (AF7 AC7 rfl (HDb.ext XQ) (Wl (ABp (ABr (ACk 1152921503533106944 (fun y:Nat × Nat × List Nat=>[(30,.int .i64 (y.1:Int)),(8,.int .u64 (y.2.1:Int))]) (fun k y h'=>k=LB.length - y.1/\y.1<=LB.length/\Ext h h'/\g1 < Array.size h'/\AEj 109 h' Ad [.bool na,sa]/\AEj 109 h' Ae [.bool nb,sb]/\AEj 109 h' Ac [.bool false,.slice none 0 0]/\AD7 h' 147 g1 v1 (y.2.2.map ARk)/\y.2.2.length=LA.length + LB.length/\Dig y.2.2/\y.2.1 < 4294967296/\nv y.2.2 + 4294967296 ^ (i + y.1) * y.2.1=nv (LA.take i) * nv LB + 4294967296 ^ i * (x * nv (LB.take y.1))/\ ∀ q,i + LB.length<=q->q < LA.length + LB.length->y.2.2[q]? =some 0) (by kernel_rfl) LB.length (0,0,O) ?_ ⟨rfl,rfl,trivial⟩ ?_))))))))))))))
  ·exact ⟨rfl,Nat.zero_le _,XQ,by omega,Ai,Af,Am,Ab,hOl,hOd,by dsimp only;omega,by simp [nv,hOv],hOz⟩
  rintro k ⟨j,c,O⟩ s2 hp ⟨rfl,hj,XQ,hgq,Ai,Af,Am,Ab,hOl,hOd,hc,hOv,hOz⟩;dsimp only at hj Ab hOl hOd hc hOv hOz ⊢;refine ABl (AFn rfl rfl (fun Bl=>?_) (fun Bl=>?_))
  ·refine ABp (ABn (ACe rfl (ABt (q_t (ABn (ABr (ABn ?_)))))));obtain ⟨y,hy⟩:∃ x,LB[j]? =some x:=⟨_,List.getElem?_eq_getElem (by omega)⟩;have hby:=HDb.dig y (List.mem_of_getElem? hy);obtain ⟨ov,hov⟩:∃ x,O[i + j]? =some x:=⟨_,List.getElem?_eq_getElem (by omega)⟩;have hbo:=hOd ov (List.mem_of_getElem? hov);have htb:=Ar1 hc hbx hby hbo;have hxy:x * y<=4294967295 * 4294967295:=Nat.mul_le_mul (by omega) (by omega);refine ABy (Wl (ANu AC7 rfl (HDb.ext XQ) rfl hy fun Cx Bm=>AB9 AHx rfl Bm (ACg (ACr (Wl (Wl (Aa4 AKo AIy rfl hbx (Wl (Aa4 AKo AIy rfl hby (Avl rfl rfl (by omega) (Wl (Wl (Wl (AZh rfl rfl (by omega) (ANs AC7 rfl Ab rfl (by rw [List.length_map];omega) ?_)))))))))))))));refine AB9 AHx rfl (AD7.cell Ab (AX8 hov)) (Aa4 AKo AIy rfl hbo (AU7 rfl rfl (by omega) (AU7 rfl rfl (by omega) (ACr (Wl (Wl (Wl (AZh rfl rfl (by omega) (Wl (Ae1 AIy AKo rfl (ANs AC7 rfl Ab rfl (by rw [List.length_map];omega) ?_)))))))))));refine Aji (O.set (i + j) ((c + (x * y + ov)) % 4294967296)) AHx rfl rfl Ab (by omega) rfl fun h4 Bn U4=>?_;have Cz:=U4.1;have Bo:=XQ.thenUpd U4 (fun k hk=>by have A7:k=g1:=hk;omega);have Bp:=Ai.upd U4 (fun he=>by have Ap:Ad=g1:=he;omega);have Bq:=Af.upd U4 (fun he=>by have Ap:Ae=g1:=he;omega);have Br:=Am.upd U4 (fun he=>by have Ap:Ac=g1:=he;omega);refine ABp (ABy (Wl (Ac2 rfl rfl (ACg (ACm (q_b (q_t (ABy (AI9 rfl (by omega) (Wl (ABp ?_)))))))))));exact ⟨LB.length - (j + 1),(j + 1,(c + (x * y + ov)) / 4294967296,O.set (i + j) ((c + (x * y + ov)) % 4294967296)),by first | omega | (dsimp only;omega),⟨rfl,by first | omega | (dsimp only;omega),Bo,by omega,Bp,Bq,Br,Bn,by simp [hOl],AX9 hOd (Nat.mod_lt _ (by decide)),by dsimp only;exact Nat.div_lt_of_lt_mul htb,by dsimp only;rw [AHf hy];exact An9 (Pi:=0) (Ac3 _ hov) hOv (Nat.mod_add_div _ _),fun q h1 h2=>by dsimp only;rw [List.getElem?_set_ne (by omega)];exact hOz q h1 h2⟩,rfl,rfl,trivial⟩
  ·refine ABp (ABn (ACf rfl (ACd (ACc (ACc (ADo (q_t ?_)))))));obtain rfl:j=LB.length:=by omega
   refine ABy (Wl (Wl (AJz (fs:=1) APd (by kernel_rfl) (by decide) rfl (AB9 AMf rfl (Af.cell (i:=1) rfl) (AF7 AC7 rfl (HDb.ext XQ) (AZh rfl rfl (by omega) (Wl (Ae1 AIy AKo rfl ?_))))))));rw [Nat.mod_eq_of_lt hc];refine ANs AC7 rfl Ab rfl (by rw [List.length_map];omega) ?_;refine Aji (O.set (i + LB.length) (c)) AHx rfl rfl Ab (by omega) rfl fun h5 Bt U5=>?_;have C1:=U5.1;have Bu:=XQ.thenUpd U5 (fun k hk=>by have A7:k=g1:=hk;omega);have Bv:=Ai.upd U5 (fun he=>by have Ap:Ad=g1:=he;omega);have Bw:=Af.upd U5 (fun he=>by have Ap:Ae=g1:=he;omega);have Bx:=Am.upd U5 (fun he=>by have Ap:Ac=g1:=he;omega);refine ACm (q_b (q_t (ABy (AI9 rfl (by omega) (Wl (ABp ?_))))));exact ⟨LA.length - (i + 1),(i + 1,O.set (i + LB.length) c),by first | omega | (dsimp only;omega),⟨rfl,by first | omega | (dsimp only;omega),Bu,by omega,Bv,Bw,Bx,Bt,by simp [hOl],AX9 hOd hc,by dsimp only;have h1:=Ac3 c (hOz (i + LB.length) (Nat.le_refl _) (by omega));rw [Nat.mul_zero,Nat.add_zero] at h1;rw [h1,hOv,List.take_length,AHf hx,Nat.add_mul,Nat.mul_assoc],fun q h1 h2=>by dsimp only;rw [List.getElem?_set_ne (by omega)];exact hOz q (by omega) h2⟩,rfl,trivial⟩
 ·refine ABp (ABn (ACf rfl (ACd (ACc (ACc (ADo (q_t (ABn ?_))))))));obtain rfl:i=LA.length:=by omega
  rw [List.take_length] at hOv;have HDo:=Ab.ds (lo:=0) hOd (Nat.zero_le _);refine ABy (AJz (fs:=1) AP2 (by kernel_rfl) (by decide) rfl (AB9 AKm rfl (Ai.cell (i:=0) rfl) (AJz (fs:=1) AP2 (by kernel_rfl) (by decide) rfl (AB9 AKm rfl (Af.cell (i:=0) rfl) (Ae0 Ac9 rfl rfl (Wl (ACp trivial rfl (ALy (!(na == nb)) (DS.ext HDo (Ext.refl _)) (by omega) (by rw [hOv,<- AJp hza,<- AJp hzb];exact hab)) fun C2 C3 hk=>?_)))))));obtain ⟨Aj,By⟩:=hk;refine ⟨trivial,?_⟩;have C4:=Aj.1;have Bz:=XQ.trans Aj;have B1:=Ai.ext Aj;have B2:=Af.ext Aj;have B3:=Am.ext Aj;have C5:=Ab.ext Aj;obtain ⟨A8,s3,L3,rfl,Ba,B5,B6,B7⟩:=By.out;refine ADn [.bool A8,s3] ACq rfl rfl rfl rfl (AJb Ba.cap) B3 fun C6 B8 Ar=>?_;have B9:=Bz.thenUpd Ar (fun k hk=>by have A7:k=Ac:=hk;omega);have C7:=Ar.1;have C8:=B1.upd Ar (fun he=>nebq1bq20 (he:Ad=Ac));have C9:=B2.upd Ar (fun he=>nebq9bq20 (he:Ae=Ac));have Ca:=Ba.updLo Ar (by omega);refine ABp (ABs (⟨_,AFr ACq rfl rfl B8,?_⟩));exact ⟨B9,⟨A8,s3,L3,rfl,Ca.mono (by omega),B5,B6,by rw [<- B7,hOv,hza,hzb,Ar5]⟩⟩
theorem Ajq (b:Bool) (a:Option Addr) (n c:Nat) (w:World):(Instr.field 109 (.agg #[.bool b,.slice a n c]) 1).run Tryz.prog w= .ok (.slice a n c) w:=by kernel_rfl
theorem Aoj {j t:Nat}:2 ^ (j + 1) * t + 2 ^ j=2 ^ j * (2 * t + 1):=by rw [Nat.pow_succ,Nat.mul_add,Nat.mul_one,Nat.mul_assoc]
theorem Aok {j t:Nat}:2 ^ (j + 1) * t=2 ^ j * (2 * t):=by rw [Nat.pow_succ,Nat.mul_assoc]
theorem Ajr {s:Nat} (h:s < 32):IntKind.u32.wrap (1 * 2 ^ s)=((2 ^ s:Nat):Int):=by
 have h1:(2:Nat) ^ s < 4294967296:=by rw [show (4294967296:Nat)=2 ^ 32 by decide];exact Nat.pow_lt_pow_right (by decide) h
 rw [wrap_u32,Int.one_mul,show ((2:Int) ^ s)=((2 ^ s:Nat):Int) by simp];generalize (2:Nat) ^ s=q at *;omega
theorem Ajs {a b:Nat} (h:ATa a b < 0):a < b:=by
 unfold ATa at h;split at h
 ·assumption
 ·split at h <;> omega
theorem Ahs {h:ABj} {la lb:Nat} {va vb:Value} {LA LB:List Nat} (HA:DS h la va LA) (HB:DS h lb vb LB) (htb:TL LB) (Au:nv LB≠0) (hna:LA.length<=900) (hnb:LB.length<=900):ACa Tryz.prog 131 #[va,vb] h fun x h'=>Ext h h'/\ ∃ q r,x= .tuple #[q,r]/\ ∃ LQ LR,DS h' (Array.size h) q LQ/\DS h' (Array.size h) r LR/\nv LQ=nv LA / nv LB/\nv LR=nv LA % nv LB/\LQ.length<=1000/\LR.length<=1000:=by
 refine AC0 (l:=[_,_]) mx Tryz.func131 rfl rfl rfl rfl rfl (by kernel_rfl) (ABl (ACg (ABq (ABn (ABl (Wl (AF7 AC7 rfl HA (AUr rfl rfl (fun Bz=>?_) (fun Bz=>?_)))))))))
 ·refine Wl (ACz 12 true (by kernel_rfl) rfl rfl (Wl (ACz 12 true (by kernel_rfl) rfl rfl (AF7 AC7 rfl HB (ACz 12 true (by kernel_rfl) rfl rfl (AUr rfl rfl (fun B1=>?_) (fun B1=>?_)))))))
  ·refine ABz rfl (ABp (ACe rfl (ABl (Wl (ACp trivial rfl (Adb HA (by omega)) fun x1 h hk=>?_)))));obtain ⟨rfl,rfl⟩:=hk;refine ⟨trivial,?_⟩;refine Wl (ACp trivial rfl (Adb HB (by omega)) fun x2 h hk=>?_);obtain ⟨rfl,rfl⟩:=hk;refine ⟨trivial,?_⟩;refine ACg (ABq (ABn ?_));have Do:=Avs HA.dig (by omega);refine AOs (by kernel_rfl) (Wl (Wl (AUq rfl rfl (by omega) ?_)));rw [show IntKind.u64.wrap (((nv LA:Nat):Int).tdiv ((nv LB:Nat):Int))=((nv LA / nv LB:Nat):Int) by rw [Int.tdiv_eq_ediv_of_nonneg (by omega),<- Int.natCast_ediv,wrap_u64];have hq:=Nat.div_le_self (nv LA) (nv LB);generalize nv LA / nv LB=q at hq ⊢;omega];refine ACp trivial rfl (AVz false (nv LA / nv LB) (by have:=Nat.div_le_self (nv LA) (nv LB);omega) _) fun x3 h4 hk=>?_;obtain ⟨E5,B2⟩:=hk;refine ⟨trivial,?_⟩;have Dr:=E5.1;have Z7:=(Ext.refl h).trans E5;obtain ⟨Ds,s1,L1,rfl,Bq,Dt,Du,B4⟩:=B2.out;obtain ⟨a1,n1,c1,rfl,_⟩:=Bq.cap;have Bc:nv L1=nv LA / nv LB:=(AJp B4).symm.trans (AJp rfl);refine Aw8 (Ajq _ _ _ _) (Wl (Wl (Avk rfl rfl (by omega) (ACp trivial rfl (AVz false (nv LA % nv LB) (by have:=Nat.mod_le (nv LA) (nv LB);omega) _) fun x8 h9 hk=>?_))));obtain ⟨Aw,B5⟩:=hk;refine ⟨trivial,?_⟩;have Dy:=Aw.1;have Dz:=Z7.trans Aw;have Bt:=E5.trans Aw;have B6:=Bq.ext Aw;obtain ⟨D0,s2,L2,rfl,Bu,D1,D2,B7⟩:=B5.out;obtain ⟨a2,n2,c2,rfl,_⟩:=Bu.cap;have Be:nv L2=nv LA % nv LB:=(AJp B7).symm.trans (AJp rfl);refine Aw8 (Ajq _ _ _ _) (ACg (ABq (ABs (AB2 (⟨_,ADc,?_⟩)))))
   first
   | exact ⟨Bt,_,_,rfl,L1,L2,B6.mono (by omega),Bu.mono (by omega),Bc,Be,by omega,by omega⟩
   | exact ⟨Bt,_,_,rfl,L7,R,lacks_HD7.mono (by omega),lacks_HR.mono (by omega),by rw [Az];exact hQv,hRv,by omega,by omega⟩
  ·refine ABz rfl (ABp (ACf rfl (ABt (q_t (ABl (Wl (AF7 AC7 rfl HA (An8 (n:=LA.length) AC7 AOv (fun _=>trivial) rfl rfl (by decide) (by omega) fun g1 v1 h1 Bf E1 B9 Ca=>?_))))))));have D5:=E1.1;have D6:=(Ext.refl h).trans E1;refine ABq (ABn (ABl (Wl (AF7 AC7 rfl (HA.ext E1) (ALd rfl rfl (by omega) (by omega) ?_)))));rw [show (32:Int) * ((LA.length:Nat):Int)=((32 * LA.length:Nat):Int) by omega];refine ALu rfl rfl (by omega) (by omega) (ABq (ABr ?_));have h0d:nv LA / 2 ^ (32 * LA.length)=0:=Nat.div_eq_of_lt (by rw [<- AZl];exact APz HA.dig);refine ACk 4722366482594767307040 (fun y:Nat × Value × List Nat × List Nat=>[(8,.int .i64 ((y.1:Int) - 1)),(5,y.2.1)]) (fun k y h'=>y.1=k/\y.1<=32 * LA.length/\Ext h h'/\g1 < Array.size h'/\AD7 h' 147 g1 v1 (y.2.2.1.map ARk)/\y.2.2.1.length=LA.length/\Dig y.2.2.1/\nv y.2.2.1=2 ^ y.1 * (nv LA / 2 ^ y.1 / nv LB)/\DS h' (g1 + 1) y.2.1 y.2.2.2/\TL y.2.2.2/\nv y.2.2.2=nv LA / 2 ^ y.1 % nv LB) (by kernel_rfl) (32 * LA.length) (32 * LA.length,.slice none 0 0,List.replicate LA.length 0,[]) ?_ ⟨rfl,rfl,trivial⟩ ?_
   ·exact ⟨rfl,Nat.le_refl _,E1,by omega,Bf,by simp,fun x hx=>by rw [(List.mem_replicate.1 hx).2];decide,by dsimp only;rw [h0d,Nat.zero_div,Ahr];rfl,AWv _ _,AWw,by dsimp only;rw [h0d,Nat.zero_mod];rfl⟩
   rintro k ⟨i,vr,Q,R⟩ s1 hq ⟨rfl,hi,XQ,hgq,Ac,hQl,hQd,hQv,HR,hRt,hRv⟩;dsimp only at hi Ac hQl hQd hQv HR hRt hRv ⊢;have hRl:R.length<=LB.length:=ASa hRt (by rw [hRv];exact Nat.lt_trans (Nat.mod_lt _ (Nat.pos_of_ne_zero Au)) (APz HB.dig));refine ABn (ABl (Wl (AUs rfl rfl (fun Cb=>?_) (fun Cb=>?_))))
   ·refine ABp (ACe rfl (ABt (q_t (ABn (ABr (ABn ?_))))));obtain ⟨j,rfl⟩:∃ j,i=j + 1:=⟨i - 1,by omega⟩;obtain ⟨x,hx⟩:∃ x,LA[j / 32]? =some x:=⟨_,List.getElem?_eq_getElem (by omega)⟩;have hbx:=HA.dig x (List.mem_of_getElem? hx);have hbit:=Ajk HA.dig hx;have hst:=Ae2 (N:=nv LA) (i:=j) Au hRv;rw [hbit] at hst;refine ABy (Wl (Wl (Wl (AWl rfl rfl (by omega) (by omega) (by omega) ?_))));rw [show (((j + 1:Nat):Int) - 1) / 32=((j / 32:Nat):Int) by omega];refine ANu AC7 rfl (HA.ext XQ) rfl hx fun D7 Cd=>AB9 AHx rfl Cd (Wl (AOu rfl rfl (by omega) (by omega) ?_));rw [show (((j + 1:Nat):Int) - 1) % 32=((j % 32:Nat):Int) by omega];refine Aez (n:=j % 32) rfl rfl (by show j % 32<=32;omega) ?_;rw [show (x:Int) / 2 ^ (j % 32)=((x / 2 ^ (j % 32):Nat):Int) by simp];have hxs:x / 2 ^ (j % 32) < 4294967296:=Nat.lt_of_le_of_lt (Nat.div_le_self _ _) hbx;refine AWt rfl rfl (.inl rfl) (Ae7 hxs) (ACp trivial rfl (AZp (x / 2 ^ (j % 32) % 2) (by omega) HR (by omega)) fun D8 D9 hk=>?_);obtain ⟨A3,L3,Ak,Ad,Cf⟩:=hk;refine ⟨trivial,?_⟩;have Ea:=A3.1;have Cg:=XQ.trans A3;have Ch:=Ac.ext A3;have HR_24:=HR.ext A3;refine ACp trivial rfl (AIz Ak (by omega)) fun Eb Ci hk=>?_;obtain ⟨Am,L4,Ae,Ao,Af,Cj⟩:=hk;refine ⟨trivial,?_⟩;have Ec:=Am.1;have A4:=Cg.trans Am;have Bv:=Ch.ext Am;have HR_31:=HR_24.ext Am;have Ck:=Ak.ext Am;refine ACr (Wl (Wl (ACp trivial rfl (AYb Ae (HB.ext A4) Ao htb (by omega) (by omega)) fun Ed Ci hk=>?_)));obtain ⟨rfl,rfl⟩:=hk;refine ⟨trivial,?_⟩;refine AUs rfl rfl (fun Cm=>?_) (fun Cm=>?_)
    ·refine ABp (ACe rfl (ABl (Wl (Wl (ACp trivial rfl (AV0 Ae (HB.ext A4) htb (ATq (by assumption)) (by omega)) fun Ee Ef hk=>?_)))));obtain ⟨Ai,L5,Ap,Bh,Co⟩:=hk;refine ⟨trivial,?_⟩;have Eg:=Ai.1;have Cp:=A4.trans Ai;have Cq:=Bv.ext Ai;have HR_40:=HR_31.ext Ai;have Cr:=Ck.ext Ai;have Ct:=Ae.ext Ai;refine ACp trivial rfl (AIz Ap (by omega)) fun Eh Ei hk=>?_;obtain ⟨Ag,L6,Bj,Bl,Bm,Cu⟩:=hk;refine ⟨trivial,?_⟩;have Ej:=Ag.1;have Cv:=Cp.trans Ag;have A5:=Cq.ext Ag;have HR_49:=HR_40.ext Ag;have Cw:=Cr.ext Ag;have Cx:=Ct.ext Ag;have Cy:=Ap.ext Ag;refine ABq ?_;obtain ⟨dd,hd⟩:∃ x,Q[j / 32]? =some x:=⟨_,List.getElem?_eq_getElem (by omega)⟩;have hdb:=hQd dd (List.mem_of_getElem? hd);obtain ⟨t,rfl⟩:=Ajl hQd hd hQv;have hge:nv LB<=2 * nv R + x / 2 ^ (j % 32) % 2:=by rw [<- Ad,<- Af];exact ATq (by assumption)
     have Aq:j % 32 < 32:=Nat.mod_lt _ (by decide);have Bn:2 ^ (j % 32) < 4294967296:=by have:=AYa Aq hdb;omega
     refine AOs (by kernel_rfl) (Wl (Wl (AWl rfl rfl (by omega) (by omega) (by omega) ?_)));rw [show (((j + 1:Nat):Int) - 1) / 32=((j / 32:Nat):Int) by omega];refine ANs AC7 rfl A5 rfl (by rw [List.length_map];omega) ?_;refine AB9 AHx rfl (AD7.cell A5 (AX8 hd)) (Wl (AOu rfl rfl (by omega) (by omega) ?_));rw [show (((j + 1:Nat):Int) - 1) % 32=((j % 32:Nat):Int) by omega];refine Ajf (n:=j % 32) rfl rfl (by show j % 32<=32;omega) ?_;rw [Ajr Aq];refine AWt rfl rfl (.inr (.inl rfl)) (Ahp hdb Bn) ?_;rw [Aoc];refine ANs AC7 rfl A5 rfl (by rw [List.length_map];omega) ?_;refine Aji (Q.set (j / 32) (2 ^ (j % 32 + 1) * t + 2 ^ (j % 32))) AHx rfl rfl A5 (by omega) rfl fun h9 Bo U9=>?_;have Ek:=U9.1;have Cz:=Cv.thenUpd U9 (fun k hk=>by have C0:k=g1:=hk;omega);have HR_55:=HR_49.updLo U9 (by omega);have El:=Cw.updLo U9 (by omega);have Em:=Cx.updLo U9 (by omega);have En:=Cy.updLo U9 (by omega);have C1:=Bj.updLo U9 (by omega);refine ACm (q_b (q_t (ABy (Wl (ALu rfl rfl (by omega) (by omega) ?_)))));rw [show (((j + 1:Nat):Int) - 1) - 1=((j:Nat):Int) - 1 by omega];refine ABq ?_;exact ⟨j,(j,_,Q.set (j / 32) (2 ^ (j % 32 + 1) * t + 2 ^ (j % 32)),L6),by first | omega | (dsimp only;omega),⟨rfl,by first | omega | (dsimp only;omega),Cz,by omega,Bo,by simp [hQl],AX9 hQd (AYa (Nat.mod_lt _ (by decide)) hdb),by dsimp only;rw [(hst.2.1 hge).2,<- Aoj,<- hQv,AT7 j];have:=Ac3 (2 ^ (j % 32 + 1) * t + 2 ^ (j % 32)) hd;rw [Nat.mul_add] at this;omega,C1.mono (by omega),Bl,by dsimp only;rw [Bm,Bh,Af,Ad];exact (hst.2.1 hge).1.symm⟩,rfl,rfl,trivial⟩
    ·refine ABp (ACf rfl (ABt (q_b (q_t (ABy (Wl (ALu rfl rfl (by omega) (by omega) ?_)))))));rw [show (((j + 1:Nat):Int) - 1) - 1=((j:Nat):Int) - 1 by omega];refine ABq ?_;have hlt:2 * nv R + x / 2 ^ (j % 32) % 2 < nv LB:=by rw [<- Ad,<- Af];exact Ajs (by assumption)
     exact ⟨j,(j,_,Q,L4),by first | omega | (dsimp only;omega),⟨rfl,by first | omega | (dsimp only;omega),A4,by omega,Bv,hQl,hQd,by dsimp only;rw [(hst.2.2 hlt).2,hQv,Aok],Ae.mono (by omega),Ao,by dsimp only;rw [Af,Ad];exact (hst.2.2 hlt).1.symm⟩,rfl,rfl,trivial⟩
   ·refine ABp (ACf rfl (ACd (ACc (ACc (ADo (q_t (ABn ?_)))))));obtain rfl:i=0:=by omega
    rw [Nat.pow_zero,Nat.one_mul,Nat.div_one] at hQv;rw [Nat.pow_zero,Nat.div_one] at hRv;have HDq:=Ac.ds (lo:=0) hQd (Nat.zero_le _);refine ABy (Wl (ACp trivial rfl (AIz (DS.ext HDq (Ext.refl _)) (by omega)) fun Eo Ep hk=>?_));obtain ⟨A6,L7,Bp,C2,Az,C3⟩:=hk;refine ⟨trivial,?_⟩;have Er:=A6.1;have Bw:=XQ.trans A6;have Es:=Ac.ext A6;have HR_66:=HR.ext A6;refine Wl (ACg (ABq (ABs (⟨_,ADc,?_⟩))))
    first
    | exact ⟨Bw,_,_,rfl,L1,L2,lacks_HD1.mono (by omega),lacks_HD2.mono (by omega),Bc,Be,by omega,by omega⟩
    | exact ⟨Bw,_,_,rfl,L7,R,Bp.mono (by omega),HR_66.mono (by omega),by rw [Az];exact hQv,hRv,by omega,by omega⟩
 ·refine Wl (ACi 12 false (by kernel_rfl) rfl rfl (ACi 12 false (by kernel_rfl) rfl rfl (ACi 12 false (by kernel_rfl) rfl rfl (ABw rfl (ABp (ACf rfl (ABt (q_t (ABl (Wl (AF7 AC7 rfl HA (An8 (n:=LA.length) AC7 AOv (fun _=>trivial) rfl rfl (by decide) (by omega) fun g1 v1 h1 Bf E1 B9 Ca=>?_))))))))))));have Et:=E1.1;have Eu:=(Ext.refl h).trans E1;refine ABq (ABn (ABl (Wl (AF7 AC7 rfl (HA.ext E1) (ALd rfl rfl (by omega) (by omega) ?_)))));rw [show (32:Int) * ((LA.length:Nat):Int)=((32 * LA.length:Nat):Int) by omega];refine ALu rfl rfl (by omega) (by omega) (ABq (ABr ?_));have h0d:nv LA / 2 ^ (32 * LA.length)=0:=Nat.div_eq_of_lt (by rw [<- AZl];exact APz HA.dig);refine ACk 4722366482594767307040 (fun y:Nat × Value × List Nat × List Nat=>[(8,.int .i64 ((y.1:Int) - 1)),(5,y.2.1)]) (fun k y h'=>y.1=k/\y.1<=32 * LA.length/\Ext h h'/\g1 < Array.size h'/\AD7 h' 147 g1 v1 (y.2.2.1.map ARk)/\y.2.2.1.length=LA.length/\Dig y.2.2.1/\nv y.2.2.1=2 ^ y.1 * (nv LA / 2 ^ y.1 / nv LB)/\DS h' (g1 + 1) y.2.1 y.2.2.2/\TL y.2.2.2/\nv y.2.2.2=nv LA / 2 ^ y.1 % nv LB) (by kernel_rfl) (32 * LA.length) (32 * LA.length,.slice none 0 0,List.replicate LA.length 0,[]) ?_ ⟨rfl,rfl,trivial⟩ ?_
  ·exact ⟨rfl,Nat.le_refl _,E1,by omega,Bf,by simp,fun x hx=>by rw [(List.mem_replicate.1 hx).2];decide,by dsimp only;rw [h0d,Nat.zero_div,Ahr];rfl,AWv _ _,AWw,by dsimp only;rw [h0d,Nat.zero_mod];rfl⟩
  rintro k ⟨i,vr,Q,R⟩ s1 hq ⟨rfl,hi,XQ,hgq,Ac,hQl,hQd,hQv,HR,hRt,hRv⟩;dsimp only at hi Ac hQl hQd hQv HR hRt hRv ⊢;have hRl:R.length<=LB.length:=ASa hRt (by rw [hRv];exact Nat.lt_trans (Nat.mod_lt _ (Nat.pos_of_ne_zero Au)) (APz HB.dig));refine ABn (ABl (Wl (AUs rfl rfl (fun C4=>?_) (fun C4=>?_))))
  ·refine ABp (ACe rfl (ABt (q_t (ABn (ABr (ABn ?_))))));obtain ⟨j,rfl⟩:∃ j,i=j + 1:=⟨i - 1,by omega⟩;obtain ⟨x,hx⟩:∃ x,LA[j / 32]? =some x:=⟨_,List.getElem?_eq_getElem (by omega)⟩;have hbx:=HA.dig x (List.mem_of_getElem? hx);have hbit:=Ajk HA.dig hx;have hst:=Ae2 (N:=nv LA) (i:=j) Au hRv;rw [hbit] at hst;refine ABy (Wl (Wl (Wl (AWl rfl rfl (by omega) (by omega) (by omega) ?_))));rw [show (((j + 1:Nat):Int) - 1) / 32=((j / 32:Nat):Int) by omega];refine ANu AC7 rfl (HA.ext XQ) rfl hx fun Ev C5=>AB9 AHx rfl C5 (Wl (AOu rfl rfl (by omega) (by omega) ?_));rw [show (((j + 1:Nat):Int) - 1) % 32=((j % 32:Nat):Int) by omega];refine Aez (n:=j % 32) rfl rfl (by show j % 32<=32;omega) ?_;rw [show (x:Int) / 2 ^ (j % 32)=((x / 2 ^ (j % 32):Nat):Int) by simp];have hxs:x / 2 ^ (j % 32) < 4294967296:=Nat.lt_of_le_of_lt (Nat.div_le_self _ _) hbx;refine AWt rfl rfl (.inl rfl) (Ae7 hxs) (ACp trivial rfl (AZp (x / 2 ^ (j % 32) % 2) (by omega) HR (by omega)) fun Ew Ey hk=>?_);obtain ⟨A7,L3,Ak,Ad,Cf⟩:=hk;refine ⟨trivial,?_⟩;have Ez:=A7.1;have C6:=XQ.trans A7;have C7:=Ac.ext A7;have HR_76:=HR.ext A7;refine ACp trivial rfl (AIz Ak (by omega)) fun Fa C8 hk=>?_;obtain ⟨Ar,L4,Ae,Ao,Af,Cj⟩:=hk;refine ⟨trivial,?_⟩;have Fb:=Ar.1;have A8:=C6.trans Ar;have Bx:=C7.ext Ar;have HR_83:=HR_76.ext Ar;have C9:=Ak.ext Ar;refine ACr (Wl (Wl (ACp trivial rfl (AYb Ae (HB.ext A8) Ao htb (by omega) (by omega)) fun Fc C8 hk=>?_)));obtain ⟨rfl,rfl⟩:=hk;refine ⟨trivial,?_⟩;refine AUs rfl rfl (fun Da=>?_) (fun Da=>?_)
   ·refine ABp (ACe rfl (ABl (Wl (Wl (ACp trivial rfl (AV0 Ae (HB.ext A8) htb (ATq (by assumption)) (by omega)) fun Fd Fe hk=>?_)))));obtain ⟨Aj,L5,Ap,Bh,Co⟩:=hk;refine ⟨trivial,?_⟩;have Ff:=Aj.1;have Db:=A8.trans Aj;have Dc:=Bx.ext Aj;have HR_92:=HR_83.ext Aj;have Dd:=C9.ext Aj;have De:=Ae.ext Aj;refine ACp trivial rfl (AIz Ap (by omega)) fun Fg Fh hk=>?_;obtain ⟨Ah,L6,Bj,Bl,Bm,Cu⟩:=hk;refine ⟨trivial,?_⟩;have Fi:=Ah.1;have Df:=Db.trans Ah;have A9:=Dc.ext Ah;have HR_101:=HR_92.ext Ah;have Dg:=Dd.ext Ah;have Dh:=De.ext Ah;have Di:=Ap.ext Ah;refine ABq ?_;obtain ⟨dd,hd⟩:∃ x,Q[j / 32]? =some x:=⟨_,List.getElem?_eq_getElem (by omega)⟩;have hdb:=hQd dd (List.mem_of_getElem? hd);obtain ⟨t,rfl⟩:=Ajl hQd hd hQv;have hge:nv LB<=2 * nv R + x / 2 ^ (j % 32) % 2:=by rw [<- Ad,<- Af];exact ATq (by assumption)
    have Aq:j % 32 < 32:=Nat.mod_lt _ (by decide);have Bn:2 ^ (j % 32) < 4294967296:=by have:=AYa Aq hdb;omega
    refine AOs (by kernel_rfl) (Wl (Wl (AWl rfl rfl (by omega) (by omega) (by omega) ?_)));rw [show (((j + 1:Nat):Int) - 1) / 32=((j / 32:Nat):Int) by omega];refine ANs AC7 rfl A9 rfl (by rw [List.length_map];omega) ?_;refine AB9 AHx rfl (AD7.cell A9 (AX8 hd)) (Wl (AOu rfl rfl (by omega) (by omega) ?_));rw [show (((j + 1:Nat):Int) - 1) % 32=((j % 32:Nat):Int) by omega];refine Ajf (n:=j % 32) rfl rfl (by show j % 32<=32;omega) ?_;rw [Ajr Aq];refine AWt rfl rfl (.inr (.inl rfl)) (Ahp hdb Bn) ?_;rw [Aoc];refine ANs AC7 rfl A9 rfl (by rw [List.length_map];omega) ?_;refine Aji (Q.set (j / 32) (2 ^ (j % 32 + 1) * t + 2 ^ (j % 32))) AHx rfl rfl A9 (by omega) rfl fun h9 Bo U9=>?_;have Fj:=U9.1;have Dj:=Df.thenUpd U9 (fun k hk=>by have C0:k=g1:=hk;omega);have HR_107:=HR_101.updLo U9 (by omega);have Fk:=Dg.updLo U9 (by omega);have Fl:=Dh.updLo U9 (by omega);have Fm:=Di.updLo U9 (by omega);have Dk:=Bj.updLo U9 (by omega);refine ACm (q_b (q_t (ABy (Wl (ALu rfl rfl (by omega) (by omega) ?_)))));rw [show (((j + 1:Nat):Int) - 1) - 1=((j:Nat):Int) - 1 by omega];refine ABq ?_;exact ⟨j,(j,_,Q.set (j / 32) (2 ^ (j % 32 + 1) * t + 2 ^ (j % 32)),L6),by first | omega | (dsimp only;omega),⟨rfl,by first | omega | (dsimp only;omega),Dj,by omega,Bo,by simp [hQl],AX9 hQd (AYa (Nat.mod_lt _ (by decide)) hdb),by dsimp only;rw [(hst.2.1 hge).2,<- Aoj,<- hQv,AT7 j];have:=Ac3 (2 ^ (j % 32 + 1) * t + 2 ^ (j % 32)) hd;rw [Nat.mul_add] at this;omega,Dk.mono (by omega),Bl,by dsimp only;rw [Bm,Bh,Af,Ad];exact (hst.2.1 hge).1.symm⟩,rfl,rfl,trivial⟩
   ·refine ABp (ACf rfl (ABt (q_b (q_t (ABy (Wl (ALu rfl rfl (by omega) (by omega) ?_)))))));rw [show (((j + 1:Nat):Int) - 1) - 1=((j:Nat):Int) - 1 by omega];refine ABq ?_;have hlt:2 * nv R + x / 2 ^ (j % 32) % 2 < nv LB:=by rw [<- Ad,<- Af];exact Ajs (by assumption)
    exact ⟨j,(j,_,Q,L4),by first | omega | (dsimp only;omega),⟨rfl,by first | omega | (dsimp only;omega),A8,by omega,Bx,hQl,hQd,by dsimp only;rw [(hst.2.2 hlt).2,hQv,Aok],Ae.mono (by omega),Ao,by dsimp only;rw [Af,Ad];exact (hst.2.2 hlt).1.symm⟩,rfl,rfl,trivial⟩
  ·refine ABp (ACf rfl (ACd (ACc (ACc (ADo (q_t (ABn ?_)))))));obtain rfl:i=0:=by omega
   rw [Nat.pow_zero,Nat.one_mul,Nat.div_one] at hQv;rw [Nat.pow_zero,Nat.div_one] at hRv;have HDq:=Ac.ds (lo:=0) hQd (Nat.zero_le _);refine ABy (Wl (ACp trivial rfl (AIz (DS.ext HDq (Ext.refl _)) (by omega)) fun Fo Fp hk=>?_));obtain ⟨Ba,L7,Bp,C2,Az,C3⟩:=hk;refine ⟨trivial,?_⟩;have Fq:=Ba.1;have By:=XQ.trans Ba;have Fr:=Ac.ext Ba;have HR_118:=HR.ext Ba;refine Wl (ACg (ABq (ABs (⟨_,ADc,?_⟩))))
   first
   | exact ⟨By,_,_,rfl,L1,L2,lacks_HD1.mono (by omega),lacks_HD2.mono (by omega),Bc,Be,by omega,by omega⟩
   | exact ⟨By,_,_,rfl,L7,R,Bp.mono (by omega),HR_118.mono (by omega),by rw [Az];exact hQv,hRv,by omega,by omega⟩
end Go.Proofs.YtiegjkmfpcgjjaaGreatDoor
namespace Go.QF
open Go
section
variable {P:Program} {ops:Array Oper}
structure LsF (ops:Array Oper) (R:List Nat) (listed:Array Bool):Prop where
  pw:List.Pairwise (· < ·) R
  size:listed.size=ops.size
  mem:∀ j,j∈R↔(j < ops.size/\listed.getD j true=false)
  cl:∀ j oj,listed.getD j false=true->ops[j]? =some oj-> ∀ ed∈oj.after,Region.binds .any ed=true->listed.getD ed.on false=true
theorem LsF.step {R1 R2:List Nat} {i:Nat} {listed:Array Bool} {oi:Oper} (L:LsF ops (R1 ++ i :: R2) listed) (hoi:ops[i]? =some oi) (hall:∀ ed∈oi.after,Region.binds .any ed=true->listed.getD ed.on false=true):LsF ops (R1 ++ R2) (listed.setIfInBounds i true):=by
 have hpw':=List.pairwise_append.1 L.pw;have his:i < ops.size:=(Array.getElem?_eq_some_iff.1 hoi).1;have his':i < listed.size:=by rw [L.size];exact his
 have Ab:∀ j,i≠j-> ∀ d,(listed.setIfInBounds i true).getD j d=listed.getD j d:=fun j hij d=>by
   simp only [Array.getD_eq_getD_getElem?];rw [Array.getElem?_setIfInBounds_ne hij]
 have htr:∀ j,listed.getD j false=true->(listed.setIfInBounds i true).getD j false=true:=fun j hj=>by
   by_cases h:i=j
   · subst h;simp [his']
   · rw [Ab j h];exact hj
 refine ⟨List.pairwise_append.2 ⟨hpw'.1,(List.pairwise_cons.1 hpw'.2.1).2,fun x hx y hy=>hpw'.2.2 x hx y (List.mem_cons_of_mem _ hy)⟩,by simp [L.size],fun j=>?_,?_⟩
 ·have hm:=L.mem j;constructor
  ·intro hj
   have hj':j∈R1 ++ i :: R2:=by
     rcases List.mem_append.1 hj with h | h
     · exact List.mem_append_left _ h
     · exact List.mem_append_right _ (List.mem_cons_of_mem _ h)
   obtain ⟨h1,h2⟩:=hm.1 hj'
   have hne:i≠j:=by
     intro he
     subst he
     rcases List.mem_append.1 hj with h | h
     · have:=hpw'.2.2 i h i (List.mem_cons_self ..);omega
     · have:=(List.pairwise_cons.1 hpw'.2.1).1 i h;omega
   exact ⟨h1,by rw [Ab j hne];exact h2⟩
  ·rintro ⟨h1,h2⟩
   have hne:i≠j:=by
     intro he
     subst he
     simp [his'] at h2
   rw [Ab j hne] at h2;have:=hm.2 ⟨h1,h2⟩;rcases List.mem_append.1 this with h | h
   ·exact List.mem_append_left _ h
   ·rcases List.mem_cons.1 h with h | h
    ·exact absurd h.symm hne
    ·exact List.mem_append_right _ h
 ·intro j oj hj hoj ed hed hbd;by_cases hij:i=j
  ·subst hij;rw [hoi] at hoj;injection hoj with hoj;subst hoj;exact htr _ (hall ed hed hbd)
  ·rw [Ab j hij] at hj;exact htr _ (L.cl j oj hj hoj ed hed hbd)
theorem LsF.notListed {R:List Nat} {listed:Array Bool} (L:LsF ops R listed) {k:Nat} (hk:k∈R):listed.getD k false=false:=by
 obtain ⟨h1,h2⟩:=(L.mem k).1 hk;have h3:k < listed.size:=by rw [L.size];exact h1
 simp [h3] at h2 ⊢;exact h2
def Aht (n:Nat) (ops:Array Oper) (m:Nat):Bool:=Nat.ble m ops.size && (List.range ops.size).all fun j=>match ops[j]? with
  | none=>false
  | some oj=>(match oj.dst with | some d=>Nat.blt d n | none=>true) && oj.after.all (fun ed=> !Region.binds .any ed || Nat.blt ed.on j) &&
    (bif Nat.blt j m then (List.range j).all fun i=>match ops[i]? with
        | none=>false
        | some oi=>match oi.dst,oj.dst with | some a,some b=> !Nat.beq a b | _,_=>false
      else (List.range j).all fun i=>ahead ops i j)
structure Ahu (n:Nat) (ops:Array Oper) (m:Nat):Prop where
  le:m<=ops.size
  dst:∀ (j:Nat) (oj:Oper),ops[j]? =some oj-> ∀ d,oj.dst=some d->d < n
  dep:∀ (j:Nat) (oj:Oper),ops[j]? =some oj-> ∀ ed∈oj.after,Region.binds .any ed=true->ed.on < j
  ne:∀ (i j:Nat) (oi oj:Oper) (a b:Nat),i≠j->i < m->j < m->ops[i]? =some oi->ops[j]? =some oj->oi.dst=some a->oj.dst=some b->a≠b
  up:∀ (i j:Nat) (oj:Oper),ops[j]? =some oj->m<=j->i < j-> ∃ n,reach ops n i j=true
theorem AZr {a b:Nat} (h:Nat.blt a b=true):a < b:=Nat.le_of_ble_eq_true h
theorem Ae8 {n m:Nat} (H:Aht n ops m=true):Ahu n ops m:=by
 unfold Aht at H;rw [Bool.and_eq_true] at H;obtain ⟨h0,H⟩:=H
 have key:∀ {j:Nat} {oj:Oper},ops[j]? =some oj->(((match oj.dst with | some d=>Nat.blt d n | none=>true)=true/\oj.after.all (fun ed=> !Region.binds .any ed || Nat.blt ed.on j)=true)/\
   (bif Nat.blt j m then (List.range j).all fun i=>match ops[i]? with
       | none=>false
       | some oi=>match oi.dst,oj.dst with | some a,some b=> !Nat.beq a b | _,_=>false
     else (List.range j).all fun i=>ahead ops i j)=true):=by
   intro j oj hj
   have hlt:j < ops.size:=(Array.getElem?_eq_some_iff.1 hj).1
   have H:=List.all_eq_true.1 H j (List.mem_range.2 hlt)
   simp only [hj,Bool.and_eq_true] at H
   exact H
 have ne:∀ (i j:Nat) (oi oj:Oper) (a b:Nat),i < j->j < m->ops[i]? =some oi->ops[j]? =some oj->oi.dst=some a->oj.dst=some b->a≠b:=by
   intro i j oi oj a b hij hjm hi hj ha hb he
   have h1:=(key hj).2
   have Ab:Nat.blt j m=true:=Nat.ble_eq_true_of_le hjm
   rw [Ab,cond_true] at h1
   have h2:=List.all_eq_true.1 h1 i (List.mem_range.2 hij)
   simp only [hi,ha,hb,he] at h2
   simp at h2
 refine ⟨Nat.le_of_ble_eq_true h0,fun j oj hj d hd=>?_,fun j oj hj ed hed hbd=>?_,?_,fun i j oj hj hmj hij=>?_⟩
 ·have:=(key hj).1.1;rw [hd] at this;exact AZr this
 ·have:=Array.all_eq_true_iff_forall_mem.1 (key hj).1.2 ed hed;rw [hbd] at this;exact AZr (by simpa using this)
 ·intro i j oi oj a b hne him hjm hi hj ha hb;rcases Nat.lt_or_gt_of_ne hne with h | h
  ·exact ne i j oi oj a b h hjm hi hj ha hb
  ·exact fun he=>ne j i oj oi b a h him hj hi hb ha he.symm
 ·have h1:=(key hj).2
  have Ab:Nat.blt j m=false:=by
    cases hb:Nat.blt j m with
    | false=>rfl
    | true=>have:=AZr hb;omega
  rw [Ab,cond_false] at h1;exact AM2 (List.all_eq_true.1 h1 i (List.mem_range.2 hij))
theorem AZs {B:ABj->Prop} {st:Bool} {n m:Nat} {Q:Exit->Act->World->Prop} (S:Ahu n ops m):∀ (fuel:Nat) (T:List Nat) (listed:Array Bool) (e:Env) (a:Act) (w:World) (K:Env->ABj->Prop),
    (∀ j∈T,m<=j)->T.length=fuel->LsF ops T listed->Rep n e a->LI P B st ops T e w.heap K->(∀ e' a' w',Rep n e' a'->Same w w'->K e' w'.heap->Q .normal a' w')->
    wpAny P .any ops Q fuel listed a w:=by
 intro fuel
 induction fuel with
 | zero=>
   intro T listed e a w K hT hlen L r H hK
   obtain rfl:T=[]:=List.length_eq_zero_iff.1 hlen
   refine ⟨?_,hK _ _ _ r (.refl w) H⟩
   refine List.eq_nil_iff_forall_not_mem.2 fun j hj=>?_
   obtain ⟨hjl,oj,hoj,_⟩:=mem_ready.1 hj
   have:=(L.mem j).2 ⟨(Array.getElem?_eq_some_iff.1 hoj).1,hjl⟩
   cases this
 | succ fuel ih=>
   intro T listed e a w K hT hlen L r H hK
   cases T with
   | nil=>simp at hlen
   | cons i0 T=>
   have Ab:=(L.mem i0).1 (List.mem_cons_self ..)
   obtain ⟨o0,Ad⟩:∃ o,ops[i0]? =some o:=⟨ops[i0],Array.getElem?_eq_getElem Ab.1⟩
   refine ⟨fun hr=>?_,fun i hi=>?_⟩
   · exfalso
     have:i0∈Region.ready .any ops listed:=mem_ready.2 ⟨Ab.2,o0,Ad,fun ed hed hbd=>by
       have hlt:=S.dep i0 o0 Ad ed hed hbd
       cases hl:listed.getD ed.on false with
       | true=>rfl
       | false=>
         exfalso
         have hs:ed.on < ops.size:=Nat.lt_trans hlt Ab.1
         have hm:ed.on∈i0 :: T:=(L.mem ed.on).2 ⟨hs,by
           have h':ed.on < listed.size:=by rw [L.size];exact hs
           simp [h'] at hl ⊢;exact hl⟩
         rcases List.mem_cons.1 hm with he | he
         · omega
         · have:=(List.pairwise_cons.1 L.pw).1 _ he
           omega⟩
     rw [hr] at this
     cases this
   · obtain ⟨hil,oi,hoi,hall⟩:=mem_ready.1 hi
     have his:i < ops.size:=(Array.getElem?_eq_some_iff.1 hoi).1
     have hiT:=(L.mem i).2 ⟨his,hil⟩
     have hii:i=i0:=by
       rcases List.mem_cons.1 hiT with h | h
       · exact h
       · exfalso
         have hlt:=(List.pairwise_cons.1 L.pw).1 _ h
         obtain ⟨nre,hre⟩:=S.up i0 i oi hoi (hT i hiT) hlt
         have h1:listed.getD i0 false=true:=AJo (L:=fun j=>listed.getD j false=true) L.cl nre i0 i oi hoi hall hre
         rw [L.notListed (List.mem_cons_self ..)] at h1
         cases h1
     subst hii
     simp only [LI,hoi] at H
     refine AIt hoi (S.dst i oi hoi) r H fun e' a' w' r' hs hk=>?_
     exact ih T _ e' a' w' K (fun j hj=>hT j (List.mem_cons_of_mem _ hj)) (by simp at hlen;omega) (LsF.step (R1:=[]) L hoi hall) r' hk (fun e2 a2 w2 r2 s2 k2=>hK _ _ _ r2 (hs.trans s2) k2)
theorem Ahv {B:ABj->Prop} {st:Bool} {n m:Nat} {Q:Exit->Act->World->Prop} (S:Ahu n ops m) {h0:ABj} {e0:Env} {F:Nat->Value->ABj->Prop} {D:Nat->Nat->Value->Value->Prop} {T:List Nat} {K:Env->ABj->Prop} (hst:∀ j v h h',F j v h->Ext h h'->F j v h') (hT:∀ j∈T,m<=j) (hop:∀ i oi,i < m->ops[i]? =some oi-> ∀ e h,Ext h0 h->(∀ j oj d,(∃ ed∈oi.after,Region.binds .any ed=true/\ed.on=j)->ops[j]? =some oj->oj.dst=some d->F j (e d) h)->(∀ t,(∀ j oj,j < m->ops[j]? =some oj->oj.dst≠some t)->e t=e0 t)->GOp P B st ops oi e h fun e' h'=>Ext h h'/\ ∀ d,oi.dst=some d->F i (e' d) h'/\ ∀ j u,F j u h->D i j (e' d) u/\D j i u (e' d)) (hend:∀ e h,Ext h0 h->(∀ j oj d,j < m->ops[j]? =some oj->oj.dst=some d->F j (e d) h)->(∀ i j oi oj a b,i≠j->i < m->j < m->ops[i]? =some oi->ops[j]? =some oj->oi.dst=some a->oj.dst=some b->D i j (e a) (e b))->(∀ t,(∀ j oj,j < m->ops[j]? =some oj->oj.dst≠some t)->e t=e0 t)->LI P B st ops T e h K):
    ∀ (fuel:Nat) (R:List Nat) (listed:Array Bool) (e:Env) (a:Act) (w:World),
    (∀ j∈R,j < m)->(R ++ T).length=fuel->LsF ops (R ++ T) listed->Rep n e a->Ext h0 w.heap->
    (∀ j oj d,j < m->listed.getD j false=true->ops[j]? =some oj->oj.dst=some d->F j (e d) w.heap)->(∀ i j oi oj a b,i≠j->i < m->j < m->listed.getD i false=true->listed.getD j false=true->ops[i]? =some oi->ops[j]? =some oj->oi.dst=some a->oj.dst=some b->D i j (e a) (e b))->(∀ t,(∀ j oj,j < m->ops[j]? =some oj->oj.dst≠some t)->e t=e0 t)->
    (∀ e' a' w',Rep n e' a'->Same w w'->K e' w'.heap->Q .normal a' w')->wpAny P .any ops Q fuel listed a w:=by
 intro fuel
 induction fuel with
 | zero=>
   intro R listed e a w hR hlen L r hE hF hD Ab hK
   have hli:R=[]-> ∀ j oj,j < m->ops[j]? =some oj->listed.getD j false=true:=by
     intro Ac j oj hj hoj
     subst Ac
     have hs:=(Array.getElem?_eq_some_iff.1 hoj).1
     have hs':j < listed.size:=by rw [L.size];exact hs
     cases hl:listed.getD j false with
     | true=>rfl
     | false=>
       exfalso
       have:=hT j ((L.mem j).2 ⟨hs,by simp [hs'] at hl ⊢;exact hl⟩)
       omega
   have Ac:R=[]:=by
     cases R with
     | nil=>rfl
     | cons i R=>simp at hlen
   subst Ac
   exact AZs S 0 T listed e a w K hT hlen L r (hend e w.heap hE (fun j oj d hj hoj hd=>hF j oj d hj (hli rfl j oj hj hoj) hoj hd) (fun i j oi oj a b hij hi hj hoi hoj ha hb=>hD i j oi oj a b hij hi hj (hli rfl i oi hi hoi) (hli rfl j oj hj hoj) hoi hoj ha hb) Ab) hK
 | succ fuel ih=>
   intro R listed e a w hR hlen L r hE hF hD Ab hK
   have hli:R=[]-> ∀ j oj,j < m->ops[j]? =some oj->listed.getD j false=true:=by
     intro Ac j oj hj hoj
     subst Ac
     have hs:=(Array.getElem?_eq_some_iff.1 hoj).1
     have hs':j < listed.size:=by rw [L.size];exact hs
     cases hl:listed.getD j false with
     | true=>rfl
     | false=>
       exfalso
       have:=hT j ((L.mem j).2 ⟨hs,by simp [hs'] at hl ⊢;exact hl⟩)
       omega
   cases hRc:R with
   | nil=>
     subst hRc
     exact AZs S (fuel + 1) T listed e a w K hT hlen L r (hend e w.heap hE (fun j oj d hj hoj hd=>hF j oj d hj (hli rfl j oj hj hoj) hoj hd) (fun i j oi oj a b hij hi hj hoi hoj ha hb=>hD i j oi oj a b hij hi hj (hli rfl i oi hi hoi) (hli rfl j oj hj hoj) hoi hoj ha hb) Ab) hK
   | cons i0 R'=>
   have hi0R:i0∈R:=by rw [hRc];exact List.mem_cons_self ..
   have Af:=(L.mem i0).1 (List.mem_append_left _ hi0R)
   obtain ⟨o0,Ah⟩:∃ o,ops[i0]? =some o:=⟨ops[i0],Array.getElem?_eq_getElem Af.1⟩
   have hmin:∀ j∈R ++ T,i0<=j:=by
     intro j hj
     have hpw:=L.pw
     rw [hRc] at hpw hj
     rcases List.mem_cons.1 hj with h | h
     · omega
     · have:=(List.pairwise_cons.1 hpw).1 j h;omega
   refine ⟨fun hr=>?_,fun i hi=>?_⟩
   · exfalso
     have:i0∈Region.ready .any ops listed:=mem_ready.2 ⟨Af.2,o0,Ah,fun ed hed hbd=>by
       have hlt:=S.dep i0 o0 Ah ed hed hbd
       cases hl:listed.getD ed.on false with
       | true=>rfl
       | false=>
         exfalso
         have hs:ed.on < ops.size:=Nat.lt_trans hlt Af.1
         have hm:=hmin ed.on ((L.mem ed.on).2 ⟨hs,by
           have h':ed.on < listed.size:=by rw [L.size];exact hs
           simp [h'] at hl ⊢;exact hl⟩)
         omega⟩
     rw [hr] at this
     cases this
   · obtain ⟨hil,oi,hoi,hall⟩:=mem_ready.1 hi
     have his:i < ops.size:=(Array.getElem?_eq_some_iff.1 hoi).1
     have hiR:i∈R:=by
       rcases List.mem_append.1 ((L.mem i).2 ⟨his,hil⟩) with h | h
       · exact h
       · exfalso
         have hlt:i0 < i:=by have:=hT i h;have:=hR i0 hi0R;omega
         obtain ⟨nre,hre⟩:=S.up i0 i oi hoi (hT i h) hlt
         have h1:listed.getD i0 false=true:=AJo (L:=fun j=>listed.getD j false=true) L.cl nre i0 i oi hoi hall hre
         rw [L.notListed (List.mem_append_left _ hi0R)] at h1
         cases h1
     have him:=hR i hiR
     obtain ⟨A,C,hAC⟩:=List.append_of_mem hiR
     have L':LsF ops (A ++ i :: (C ++ T)) listed:=by rw [hAC] at L;simpa using L
     have hdep:∀ j oj d,(∃ ed∈oi.after,Region.binds .any ed=true/\ed.on=j)->ops[j]? =some oj->oj.dst=some d->F j (e d) w.heap:=by
       rintro j oj d ⟨ed,hed,hbd,rfl⟩ hoj hd
       exact hF _ oj d (by have:=S.dep i oi hoi ed hed hbd;omega) (hall ed hed hbd) hoj hd
     have hg:=hop i oi him hoi e w.heap hE hdep Ab
     have Ak:GOp P B st ops oi e w.heap fun e' h'=>(∃ v,e'=e.put oi.dst v)/\Ext w.heap h'/\ ∀ d,oi.dst=some d->F i (e' d) h'/\ ∀ j u,F j u w.heap->D i j (e' d) u/\D j i u (e' d):=hg.mono fun v h' hh=>⟨⟨v,rfl⟩,hh⟩
     refine AIt hoi (S.dst i oi hoi) r Ak fun e' a' w' r' hs hk=>?_
     obtain ⟨⟨v,rfl⟩,hE',hFi⟩:=hk
     refine ih (A ++ C) _ _ a' w' (fun j hj=>hR j (by rw [hAC];rcases List.mem_append.1 hj with h | h;exact List.mem_append_left _ h;exact List.mem_append_right _ (List.mem_cons_of_mem _ h))) (by rw [hAC] at hlen;simp at hlen ⊢;omega) (by have:=L'.step hoi hall;simpa using this) r' (hE.trans hE') ?_ ?_ ?_ (fun e2 a2 w2 r2 s2 k2=>hK _ _ _ r2 (hs.trans s2) k2)
     · intro j oj d hj hjl hoj hd
       by_cases hij:i=j
       · subst hij
         rw [hoi] at hoj;cases hoj
         exact (hFi d hd).1
       · have h2:listed.getD j false=true:=by
           simp only [Array.getD_eq_getD_getElem?] at hjl ⊢;rwa [Array.getElem?_setIfInBounds_ne hij] at hjl
         have h3:=hst _ _ _ _ (hF j oj d hj h2 hoj hd) hE'
         cases hdi:oi.dst with
         | none=>exact h3
         | some b=>
           have hne:=S.ne j i oj oi d b (fun he=>hij he.symm) hj him hoj hoi hd hdi
           show F j (e.set b v d) w'.heap
           rw [Env.set_other _ _ hne];exact h3
     · have hls:∀ j,i≠j->(listed.setIfInBounds i true).getD j false=true->listed.getD j false=true:=fun j hij hjl=>by
         simp only [Array.getD_eq_getD_getElem?] at hjl ⊢;rwa [Array.getElem?_setIfInBounds_ne hij] at hjl
       have hsame:∀ j oj d,j < m->i≠j->ops[j]? =some oj->oj.dst=some d->e.put oi.dst v d=e d:=fun j oj d hj hij hoj hd=>by
         cases hdi:oi.dst with
         | none=>rfl
         | some b=>exact Env.set_other _ _ (S.ne j i oj oi d b (fun he=>hij he.symm) hj him hoj hoi hd hdi)
       intro j k oj ok a b hjk hj hk hjl hkl hoj hok ha hb
       by_cases hij:i=j
       · subst hij
         rw [hoi] at hoj;cases hoj
         rw [hsame k ok b hk hjk hok hb]
         exact ((hFi a ha).2 k _ (hF k ok b hk (hls k hjk hkl) hok hb)).1
       · by_cases hik:i=k
         · subst hik
           rw [hoi] at hok;cases hok
           rw [hsame j oj a hj hij hoj ha]
           exact ((hFi b hb).2 j _ (hF j oj a hj (hls j hij hjl) hoj ha)).2
         · rw [hsame j oj a hj hij hoj ha,hsame k ok b hk hik hok hb]
           exact hD j k oj ok a b hjk hj hk (hls j hij hjl) (hls k hik hkl) hoj hok ha hb
     · intro t ht
       cases hdi:oi.dst with
       | none=>exact Ab t ht
       | some b=>
         show e.set b v t=e0 t
         rw [Env.set_other _ _ (fun he=>ht i oi him hoi (by rw [hdi,he]))]
         exact Ab t ht
theorem Abn (ops:Array Oper):LsF ops (List.range ops.size) (Array.replicate ops.size false):=by
 refine ⟨List.pairwise_lt_range,by simp,fun j=>?_,fun j oj hj _=>?_⟩
 ·simp only [List.mem_range];constructor
  ·intro h;exact ⟨h,by simp [h]⟩
  ·exact fun h=>h.1
 ·exfalso;rcases Nat.lt_or_ge j ops.size with h' | h'
  ·simp [h'] at hj
  ·simp [h'] at hj
def W2 (P:Program) (n:Nat) (c:Code) (Q:Exit->Env->ABj->Prop) (e:Env) (h:ABj):Prop:=
  ∀ (a:Act) (w:World) (Q':Exit->Act->World->Prop),Rep n e a->w.heap=h->(∀ x e' a' w',Rep n e' a'->Same w w'->Q x e' w'.heap->Q' x a' w')->c.wp P Q' a w
theorem AP3 {n:Nat} {c:Code} {Q:Exit->Env->ABj->Prop} {e:Env} {h:ABj} (hmx:P.follows .mixedOrders=true) (hok:okC n c=true) (H:W P c Q e h):W2 P n c Q e h:=by
 intro a w Q' r hw hQ;subst hw;exact W.sound hmx hok r H hQ
theorem ANz {n:Nat} {x y:Code} {Q:Exit->Env->ABj->Prop} {e:Env} {h:ABj} (H:W2 P n x (AK2 (fun e h=>W2 P n y Q e h) Q) e h):W2 P n (.seq x y) Q e h:=by
 intro a w Q' r hw hQ;refine wp_seq (H a w _ r hw fun ex e' a' w' r' s k=>?_);cases ex <;> first | exact hQ _ _ _ _ r' s k | exact k a' w' Q' r' rfl (fun x e2 a2 w2 r2 s2 k2=>hQ _ _ _ _ r2 (s.trans s2) k2)
theorem AT9 {B:ABj->Prop} {st:Bool} {K:Env->ABj->Prop}:∀ (I:List Nat) (L:List Oper),I.map (fun i=>ops[i]?)=L.map some-> ∀ e h,RL P B st ops L e h K->LI P B st ops I e h K:=by
 intro I
 induction I with
 | nil=>intro L hI e h H;cases L with | nil=>exact H | cons o L=>cases hI
 | cons i I ih=>
   intro L hI e h H
   cases L with
   | nil=>cases hI
   | cons o L=>
     simp only [List.map_cons,List.cons.injEq] at hI
     simp only [LI,hI.1]
     exact GOp.mono (fun v h' hh=>ih L hI.2 _ _ hh) H
def Auo (o:Oper) (j:Nat):Bool:=o.after.any fun ed=>Region.binds .any ed && Nat.beq ed.on j
def AUw (ops:Array Oper) (j:Nat):Option Nat:=match ops[j]? with | some o=>o.dst | none=>none
def Ahw (ops:Array Oper) (m t:Nat):Bool:=(List.range m).all fun j=>match AUw ops j with | some d=> !Nat.beq d t | none=>true
theorem AXo {m t:Nat} (h:Ahw ops m t=true):∀ j oj,j < m->ops[j]? =some oj->oj.dst≠some t:=by
 intro j oj hj hoj hd;have:=List.all_eq_true.1 h j (List.mem_range.2 hj);simp only [AUw,hoj,hd] at this;simp at this
theorem Aol {e e':Env}:∀ (l:List Nat),(∀ t,(l.all fun q=> !Nat.beq q t)=true->e' t=e t)->e'=setL (l.map fun t=>(t,e' t)) e:=by
 intro l
 induction l generalizing e with
 | nil=>intro h;funext t;exact h t rfl
 | cons q l ih=>
   intro h
   have h2:e'=setL (l.map fun t=>(t,e' t)) (e.set q (e' q)):=ih fun t ht=>by
     by_cases hq:t=q
     · subst hq;rw [Env.set_same]
     · rw [Env.set_other _ _ hq]
       refine h t ?_
       rw [List.all_cons,ht,Bool.and_true]
       cases hb:Nat.beq q t
       · rfl
       · exact absurd (Nat.eq_of_beq_eq_true hb).symm hq
   have h3:∀ (l:List Nat) (f:Env),setL (l.map fun t=>(t,e' t)) f q=if q∈l then e' q else f q:=by
     intro l
     induction l with
     | nil=>intro f;simp [setL]
     | cons a l Aa=>
       intro f
       show (setL (l.map fun t=>(t,e' t)) f).set a (e' a) q=_
       by_cases ha:q=a
       · subst ha;rw [Env.set_same];simp
       · rw [Env.set_other _ _ ha,Aa];simp [ha]
   funext t
   show e' t=(setL (l.map fun t=>(t,e' t)) e).set q (e' q) t
   by_cases hq:t=q
   · subst hq;rw [Env.set_same]
   · rw [Env.set_other _ _ hq]
     have h4:∀ (l:List Nat) (f g:Env),f t=g t->setL (l.map fun t=>(t,e' t)) f t=setL (l.map fun t=>(t,e' t)) g t:=by
       intro l
       induction l with
       | nil=>intro f g hfg;exact hfg
       | cons a l Aa=>
         intro f g hfg
         show (setL (l.map fun t=>(t,e' t)) f).set a (e' a) t=(setL (l.map fun t=>(t,e' t)) g).set a (e' a) t
         by_cases ha:t=a
         · subst ha;rw [Env.set_same,Env.set_same]
         · rw [Env.set_other _ _ ha,Env.set_other _ _ ha];exact Aa f g hfg
     conv=>lhs;rw [h2]
     exact h4 l _ _ (Env.set_other _ _ hq)
theorem Ar7 {B:ABj->Prop} {st:Bool} {n:Nat} (m:Nat) (F:Nat->Value->ABj->Prop) (D:Nat->Nat->Value->Value->Prop) {id:Nat} {Q:Exit->Env->ABj->Prop} {e:Env} {h:ABj} (hmx:P.follows .mixedOrders=true) (hok:Aht n ops m=true)
    (hst:∀ j v h h',F j v h->Ext h h'->F j v h')
    (hop:∀ i oi,i < m->ops[i]? =some oi-> ∀ e' h',Ext h h'->(∀ j d,Auo oi j=true->AUw ops j=some d->F j (e' d) h')->(∀ t,Ahw ops m t=true->e' t=e t)->RL P B st ops [oi] e' h' fun e2 h2=>Ext h' h2/\ ∀ d,oi.dst=some d->F i (e2 d) h2/\ ∀ j u,F j u h'->D i j (e2 d) u/\D j i u (e2 d))
    (hend:∀ e' h',Ext h h'->(∀ j d,j < m->AUw ops j=some d->F j (e' d) h')->(∀ i j a b,i≠j->i < m->j < m->AUw ops i=some a->AUw ops j=some b->D i j (e' a) (e' b))->(∀ t,Ahw ops m t=true->e' t=e t)->RL P B st ops (ops.toList.drop m) e' h' (Q .normal)):
    W2 P n (.region id ops true) Q e h:=by
  intro a w Q' r hw hQ;subst hw;have S:=Ae8 hok
  have hs:List.range ops.size=List.range m ++ List.range' m (ops.size - m):=by
    rw [List.range_eq_range',List.range_eq_range',show List.range' m (ops.size - m)=List.range' (0 + m) (ops.size - m) by rw [Nat.zero_add],List.range'_append_1];congr 1;have:=S.le;omega
  have hdst:∀ j oj d,ops[j]? =some oj->oj.dst=some d->AUw ops j=some d:=fun j oj d h1 h2=>by unfold AUw;rw [h1];exact h2
  have hdst2:∀ {j d},AUw ops j=some d-> ∃ oj,ops[j]? =some oj/\oj.dst=some d:=by
    intro j d hd;unfold AUw at hd
    split at hd
    · rename_i oj hoj;exact ⟨oj,hoj,hd⟩
    · cases hd
  refine wp_region_draw fun t=>?_;simp only [Region.schedule,hmx,Bool.true_or,if_true]
  refine wpAny_sound ops.size t _ a _ (Ahv (T:=List.range' m (ops.size - m)) (D:=D) (F:=F) (h0:=w.heap) (e0:=e) (K:=Q .normal) S hst (fun j hj=>by have:=List.mem_range'_1.1 hj;omega) (B:=B) (st:=st) ?_ ?_ ops.size (List.range m) (Array.replicate ops.size false) e a { w with drawn:=w.drawn + 1 } (fun j hj=>List.mem_range.1 hj) (by rw [<- hs];simp) (by rw [<- hs];exact Abn ops) r (Ext.refl _)
    (fun j oj d hj hl hoj hd=>by
      exfalso;have hs:=(Array.getElem?_eq_some_iff.1 hoj).1;simp [hs] at hl) (fun i j oi oj a b _ hi hj hl _ hoi hoj _ _=>by
      exfalso;have hs:=(Array.getElem?_eq_some_iff.1 hoi).1;simp [hs] at hl) (fun t _=>rfl) (fun e' a' w' r' hs hk=>hQ .normal e' a' w' r' ⟨hs.os,hs.tape,hs.output⟩ hk))
  · intro i oi hi hoi e1 h1 hE hd he
    exact hop i oi hi hoi e1 h1 hE (fun j d hdj hdd=>by
      obtain ⟨oj,hoj,hd2⟩:=hdst2 hdd;unfold Auo at hdj;obtain ⟨ed,hed,hh⟩:=Array.any_eq_true'.1 hdj;rw [Bool.and_eq_true] at hh;exact hd j oj d ⟨ed,hed,hh.1,Nat.eq_of_beq_eq_true hh.2⟩ hoj hd2) (fun t ht=>he t (AXo ht))
  · intro e1 h1 hE hF hD he
    refine AT9 _ (ops.toList.drop m) ?_ _ _ (hend e1 h1 hE (fun j d hj hd=>by obtain ⟨oj,hoj,hd2⟩:=hdst2 hd;exact hF j oj d hj hoj hd2) (fun i j a b hij hi hj ha hb=>by
      obtain ⟨oi,hoi,ha2⟩:=hdst2 ha;obtain ⟨oj,hoj,hb2⟩:=hdst2 hb;exact hD i j oi oj a b hij hi hj hoi hoj ha2 hb2) (fun t ht=>he t (AXo ht)))
    refine List.ext_getElem? fun k=>?_;simp only [List.getElem?_map,List.getElem?_drop]
    by_cases hk:k < ops.size - m
    · rw [List.getElem?_range' hk];have h2:m + k < ops.size:=by omega
      simp [h2]
    · rw [List.getElem?_eq_none (by simp;omega),List.getElem?_eq_none (by simp;omega)];rfl
theorem Ae9 {f:FuncId} {fn:Func} {c:Code} {rs:List ResultVar} {n:Nat} {l:List Value} {h:ABj} {K:Value->ABj->Prop} (hf:P.funcs[f]? =some fn) (hn:(fn.name == "runtime.NumGoroutine")=false) (hb:fn.body=some c) (hr:fn.results=rs.toArray) (hnt:fn.ntmps=n) (hl:Nat.ble l.length n=true) (H:W2 P n c (Arn P rs K) (Aax l) h):ACa P f l.toArray h K:=by
 refine ⟨⟨fn,hf,hn,by simp [hb]⟩,fun w hw=>?_⟩;subst hw;have hl:=Nat.le_of_ble_eq_true hl;refine calls_of_wp hf hb (H _ _ _ ⟨?_,rfl,fun t=>?_⟩ rfl fun x e' a' w' r s k=>?_)
 ·simp [hnt];omega
 ·rw [AYv];simp only [Array.getD_eq_getD_getElem?];rw [Array.getElem?_append];split
  ·simp
  ·rename_i hge;simp at hge;simp only [List.size_toArray];rw [List.getElem?_eq_none hge];rw [Array.getElem?_replicate];split <;> rfl
 ·cases x with
  | normal=>obtain ⟨v,hv,hk⟩:=k;exact ⟨r.defers,v,hv fn _ w' hr r.get rfl,v,rfl,s,hk⟩
  | ret=>obtain ⟨v,hv,hk⟩:=k;exact ⟨r.defers,v,hv fn _ w' hr r.get rfl,v,rfl,s,hk⟩
  | exit id=>exact k.elim
  | goto t=>exact k.elim
  | panic ch=>exact k.elim
  | outgrown=>exact k.elim
end
end Go.QF
namespace Go.QF
open Go
theorem Adg {a b:Nat} (h:a≠b):Nat.beq a b=false:=by
 cases hb:Nat.beq a b with
 | false=>rfl
 | true=>exact absurd (Nat.eq_of_beq_eq_true hb) h
section
variable {P:Program} {B:ABj->Prop} {st:Bool} {ops:Array Oper} {rest:List Oper} {K:Env->ABj->Prop} {h:ABj} {G:List (Nat × Nat)} {e:Env} {H:ABj} {d:Nat} {ty:TypeId} {pos:String} {af:Array Edge}
end
end Go.QF
namespace Go.QF
open Go
section
variable {P:Program} {ops:Array Oper}
structure Afa (n:Nat) (ops:Array Oper) (f:Nat):Prop where
  spec:∀ {j:Nat} {oj:Oper},ops[j]? =some oj->(∀ d,oj.dst=some d->d < n)/\AHt oj=true/\((∀ ed∈oj.after,Region.binds .any ed=true->ed.on < j)/\
    ∀ i oi,i < j->i≠f->j≠f->ops[i]? =some oi->(∃ n,reach ops n i j=true)∨indep (AMu ops true) ops oi oj=true)
structure Lst (ops:Array Oper) (R:List Nat) (listed:Array Bool):Prop where
  pw:List.Pairwise (· < ·) R
  size:listed.size=ops.size
  mem:∀ j,j∈R↔(j < ops.size/\listed.getD j true=false)
  cl:∀ j oj,listed.getD j false=true->ops[j]? =some oj-> ∀ ed∈oj.after,Region.binds .any ed=true->listed.getD ed.on false=true
theorem Lst.step {R1 R2:List Nat} {i:Nat} {listed:Array Bool} {oi:Oper} (L:Lst ops (R1 ++ i :: R2) listed) (hoi:ops[i]? =some oi) (hall:∀ ed∈oi.after,Region.binds .any ed=true->listed.getD ed.on false=true):Lst ops (R1 ++ R2) (listed.setIfInBounds i true):=by
 have hpw':=List.pairwise_append.1 L.pw;have his:i < ops.size:=(Array.getElem?_eq_some_iff.1 hoi).1;have his':i < listed.size:=by rw [L.size];exact his
 refine ⟨List.pairwise_append.2 ⟨hpw'.1,(List.pairwise_cons.1 hpw'.2.1).2,fun x hx y hy=>hpw'.2.2 x hx y (List.mem_cons_of_mem _ hy)⟩,by simp [L.size],fun j=>?_,?_⟩
 ·have hm:=L.mem j;constructor
  ·intro hj
   have hj':j∈R1 ++ i :: R2:=by
     rcases List.mem_append.1 hj with h | h
     · exact List.mem_append_left _ h
     · exact List.mem_append_right _ (List.mem_cons_of_mem _ h)
   obtain ⟨h1,h2⟩:=hm.1 hj'
   have hne:i≠j:=by
     intro he
     subst he
     rcases List.mem_append.1 hj with h | h
     · have:=hpw'.2.2 i h i (List.mem_cons_self ..);omega
     · have:=(List.pairwise_cons.1 hpw'.2.1).1 i h;omega
   exact ⟨h1,by rw [getD_set_ne true hne];exact h2⟩
  ·rintro ⟨h1,h2⟩
   have hne:i≠j:=by
     intro he
     subst he
     simp [his'] at h2
   rw [getD_set_ne true hne] at h2;have:=hm.2 ⟨h1,h2⟩;rcases List.mem_append.1 this with h | h
   ·exact List.mem_append_left _ h
   ·rcases List.mem_cons.1 h with h | h
    ·exact absurd h.symm hne
    ·exact List.mem_append_right _ h
 ·intro j oj hj hoj ed hed hbd;by_cases hij:i=j
  ·subst hij;rw [hoi] at hoj;injection hoj with hoj;subst hoj;exact getD_set_true (hall ed hed hbd)
  ·rw [getD_set_ne false hij] at hj;exact getD_set_true (L.cl j oj hj hoj ed hed hbd)
theorem Lst.notListed {R:List Nat} {listed:Array Bool} (L:Lst ops R listed) {k:Nat} (hk:k∈R):listed.getD k false=false:=by
 obtain ⟨h1,h2⟩:=(L.mem k).1 hk;have h3:k < listed.size:=by rw [L.size];exact h1
 simp [h3] at h2 ⊢;exact h2
theorem Lst.ready {n f:Nat} {R:List Nat} {listed:Array Bool} (hok:Afa n ops f) (L:Lst ops R listed) (hR:R≠[]):Region.ready .any ops listed≠[]:=by
 intro hr
 cases R with
 | nil=>exact hR rfl
 | cons j R=>
   obtain ⟨hjs,hjl⟩:=(L.mem j).1 (List.mem_cons_self ..)
   obtain ⟨oj,hoj⟩:∃ oj,ops[j]? =some oj:=⟨ops[j],Array.getElem?_eq_getElem hjs⟩
   have:j∈Region.ready .any ops listed:=mem_ready.2 ⟨hjl,oj,hoj,fun ed hed hbd=>by
     obtain ⟨_,_,hd⟩:=hok.spec hoj
     have hlt:=hd.1 ed hed hbd
     cases hl:listed.getD ed.on false with
     | true=>rfl
     | false=>
       exfalso
       have hs:ed.on < ops.size:=Nat.lt_trans hlt hjs
       have hm:ed.on∈j :: R:=(L.mem ed.on).2 ⟨hs,by
         have h':ed.on < listed.size:=by rw [L.size];exact hs
         simp [h'] at hl ⊢;exact hl⟩
       rcases List.mem_cons.1 hm with he | he
       · omega
       · have:=(List.pairwise_cons.1 L.pw).1 _ he
         omega⟩
   rw [hr] at this
   cases this
theorem Lst.indep {n f:Nat} {R1 R2:List Nat} {i:Nat} {listed:Array Bool} {oi:Oper} (hok:Afa n ops f) (L:Lst ops (R1 ++ i :: R2) listed) (hoi:ops[i]? =some oi) (hall:∀ ed∈oi.after,Region.binds .any ed=true->listed.getD ed.on false=true) (hfi:i≠f) {k:Nat} (hk:k∈R1) (hfk:k≠f):
    ∃ ok,ops[k]? =some ok/\AHt ok=true/\indep (AMu ops true) ops ok oi=true:=by
 have hpw':=List.pairwise_append.1 L.pw;have his:i < ops.size:=(Array.getElem?_eq_some_iff.1 hoi).1;have hki:k < i:=hpw'.2.2 k hk i (List.mem_cons_self ..);have hks:k < ops.size:=Nat.lt_trans hki his;obtain ⟨ok,hok'⟩:∃ ok,ops[k]? =some ok:=⟨ops[k],Array.getElem?_eq_getElem hks⟩;refine ⟨ok,hok',(hok.spec hok').2.1,?_⟩;rcases (hok.spec hoi).2.2.2 k ok hki hfk hfi hok' with ⟨nre,hre⟩ | h
 ·exfalso;have h1:listed.getD k false=true:=AJo (L:=fun j=>listed.getD j false=true) L.cl nre k i oi hoi hall hre;rw [L.notListed (List.mem_append_left _ hk)] at h1;cases h1
 ·exact h
theorem Adh {B:ABj->Prop} {n f:Nat} {Q:Exit->Act->World->Prop} (hok:Afa n ops f):∀ (fuel:Nat) (R:List Nat) (listed:Array Bool) (e:Env) (a:Act) (w:World) (K:Env->ABj->Prop),
    f ∉ R->R.length=fuel->Lst ops R listed->Rep n e a->LI P B (AMu ops true) ops R e w.heap K->(∀ e' a' w',Rep n e' a'->Same w w'->K e' w'.heap->Q .normal a' w')->
    wpAny P .any ops Q fuel listed a w:=by
 intro fuel
 induction fuel with
 | zero=>
   intro R listed e a w K hfR hlen L r H hK
   obtain rfl:R=[]:=List.length_eq_zero_iff.1 hlen
   refine ⟨?_,hK _ _ _ r (.refl w) H⟩
   refine List.eq_nil_iff_forall_not_mem.2 fun j hj=>?_
   obtain ⟨hjl,oj,hoj,_⟩:=mem_ready.1 hj
   have:=(L.mem j).2 ⟨(Array.getElem?_eq_some_iff.1 hoj).1,hjl⟩
   cases this
 | succ fuel ih=>
   intro R listed e a w K hfR hlen L r H hK
   refine ⟨fun hr=>absurd hr (L.ready hok (fun h0=>by subst h0;simp at hlen)),fun i hi=>?_⟩
   obtain ⟨hil,oi,hoi,hall⟩:=mem_ready.1 hi
   have his:i < ops.size:=(Array.getElem?_eq_some_iff.1 hoi).1
   obtain ⟨R1,R2,rfl⟩:=List.append_of_mem ((L.mem i).2 ⟨his,hil⟩)
   obtain ⟨hdi,hsi,_⟩:=hok.spec hoi
   have hb:LI P B (AMu ops true) ops (i :: (R1 ++ R2)) e w.heap K:=
     LI.bubble hoi hsi R1 (fun k hk=>L.indep hok hoi hall (fun he=>hfR (he ▸ List.mem_append_right _ (List.mem_cons_self ..))) hk (fun he=>hfR (he ▸ List.mem_append_left _ hk))) H
   simp only [LI,hoi] at hb
   refine AIt hoi hdi r hb fun e' a' w' r' hs hk=>?_
   exact ih (R1 ++ R2) _ e' a' w' K (fun hf=>hfR (by rcases List.mem_append.1 hf with h | h;exact List.mem_append_left _ h;exact List.mem_append_right _ (List.mem_cons_of_mem _ h))) (by simp at hlen ⊢;omega) (L.step hoi hall) r' hk
     (fun e2 a2 w2 r2 s2 k2=>hK _ _ _ r2 (hs.trans s2) k2)
def LF (P:Program) (B:ABj->Prop) (st:Bool) (ops:Array Oper) (f:Nat) (T:List Nat):List Nat->Env->ABj->(Env->ABj->Prop)->Prop
  | [],e,h,K=>LI P B st ops (f :: T) e h K
  | i :: R,e,h,K=>LI P B st ops (f :: i :: (R ++ T)) e h K/\match ops[i]? with
    | none=>LF P B st ops f T R e h K
    | some o=>GOp P B st ops o e h fun e' h'=>LF P B st ops f T R e' h' K
theorem LF.now {B:ABj->Prop} {st:Bool} {f:Nat} {T R:List Nat} {e:Env} {h:ABj} {K:Env->ABj->Prop} (H:LF P B st ops f T R e h K):LI P B st ops (f :: (R ++ T)) e h K:=by
 cases R with
 | nil=>exact H
 | cons i R=>exact H.1
theorem SOp.and {B:ABj->Prop} {st:Bool} {o:Oper} {e:Env} {h:ABj} {K1 K2:Env->ABj->Prop} (hk:kindOf o.op= .pure∨kindOf o.op= .read) (H1:SOp P B st o e h K1) (H2:SOp P B st o e h K2):SOp P B st o e h fun e' h'=>K1 e' h'/\K2 e' h':=by
 have un:∀ {u u2:Value} {w:World},(execOp e.ev o).run P w= .ok (.value u) w->(execOp e.ev o).run P w= .ok (.value u2) w->u2=u:=by
   intro u u2 w a1 a2
   rw [a1] at a2
   injection a2 with a2 _
   injection a2 with a2
   exact a2.symm
 unfold SOp at H1 H2 ⊢;rcases hk with hk | hk
 ·simp only [hk] at H1 H2 ⊢;obtain ⟨v,hv,h1⟩:=H1;obtain ⟨v2,Ad,h2⟩:=H2;cases un (hv (ANa h)) (Ad (ANa h));exact ⟨v,hv,h1,h2⟩
 ·cases st with
  | false=>
    simp only [hk] at H1 H2 ⊢
    obtain ⟨v,hv,h1⟩:=H1
    obtain ⟨v2,Ad,h2⟩:=H2
    cases un (hv (ANa h) rfl) (Ad (ANa h) rfl)
    exact ⟨v,hv,h1,h2⟩
  | true=>
    simp only [hk] at H1 H2 ⊢
    obtain ⟨v,hb,hv,h1⟩:=H1
    obtain ⟨v2,_,Ad,h2⟩:=H2
    cases un (hv (ANa h) hb) (Ad (ANa h) hb)
    exact ⟨v,hb,hv,h1,h2⟩
theorem GOp.and {B:ABj->Prop} {st:Bool} {o:Oper} {e:Env} {h:ABj} {K1 K2:Env->ABj->Prop} (hk:kindOf o.op= .pure∨kindOf o.op= .read) (H1:GOp P B st ops o e h K1) (H2:GOp P B st ops o e h K2):GOp P B st ops o e h fun e' h'=>K1 e' h'/\K2 e' h':=by
 unfold GOp at *;split
 ·rename_i hw;rw [if_pos hw] at H1 H2;exact H1.and hk H2
 ·rename_i hw;rw [if_neg hw] at H1 H2;exact ⟨H1,H2⟩
theorem LF.bubbleA {B:ABj->Prop} {st:Bool} {f i:Nat} {T:List Nat} {of oi:Oper} (hf:ops[f]? =some of) (hsf:AHt of=true) (hi:ops[i]? =some oi) (hsi:AHt oi=true) (hk:kindOf oi.op= .pure∨kindOf oi.op= .read) (hfi:indep st ops of oi=true) (R1:List Nat):∀ {R2:List Nat} {e:Env} {h:ABj} {K:Env->ABj->Prop},
    (∀ k∈R1,∃ ok,ops[k]? =some ok/\AHt ok=true/\indep st ops ok oi=true)->LF P B st ops f T (R1 ++ i :: R2) e h K->GOp P B st ops oi e h fun e' h'=>LF P B st ops f T (R1 ++ R2) e' h' K:=by
  induction R1 with
  | nil=>
    intro R2 e h K _ H;have:=H.2;simp only [hi] at this;exact this
  | cons k R1 ih=>
    intro R2 e h K hind H;obtain ⟨ok,hok,hsk,hik⟩:=hind k (List.mem_cons_self ..);have h1:=H.1;have h2:=H.2;simp only [hok] at h2;have h3:GOp P B st ops ok e h fun e' h'=>GOp P B st ops oi e' h' fun e2 h2=>LF P B st ops f T (R1 ++ R2) e2 h2 K:=h2.mono fun v h' hh=>ih (fun k' hk'=>hind k' (List.mem_cons_of_mem _ hk')) hh;have h4:=GOp.swap hsk hsi hik h3;have h5:LI P B st ops ((f :: k :: R1) ++ i :: (R2 ++ T)) e h K:=by simpa using h1
    have h6:=LI.bubble hi hsi (f :: k :: R1) (fun j hj=>by
      rcases List.mem_cons.1 hj with rfl | hj
      · exact ⟨of,hf,hsf,hfi⟩
      · exact hind j hj) h5
    simp only [LI,hi] at h6
    refine (GOp.and hk h6 h4).mono fun v h' hh=>⟨?_,?_⟩
    · have:=hh.1;simpa [LI] using this
    · simp only [hok];exact hh.2
theorem LF.bubbleB {B:ABj->Prop} {st:Bool} {f i:Nat} {T:List Nat} {of oi:Oper} (hf:ops[f]? =some of) (hsf:AHt of=true) (hi:ops[i]? =some oi) (hsi:AHt oi=true) (R1:List Nat):∀ {R2:List Nat} {e:Env} {h:ABj} {K:Env->ABj->Prop},
    (∀ k∈R1,∃ ok,ops[k]? =some ok/\AHt ok=true/\indep st ops ok oi=true/\indep st ops ok of=true)->LF P B st ops f T (R1 ++ i :: R2) e h K->GOp P B st ops oi e h fun e' h'=>LF P B st ops f T (R1 ++ R2) e' h' K:=by
  induction R1 with
  | nil=>
    intro R2 e h K _ H;have:=H.2;simp only [hi] at this;exact this
  | cons k R1 ih=>
    intro R2 e h K hind H;obtain ⟨ok,hok,hsk,hik,hfk⟩:=hind k (List.mem_cons_self ..);have h2:=H.2;simp only [hok] at h2;have h3:GOp P B st ops ok e h fun e' h'=>GOp P B st ops oi e' h' fun e2 h2=>LF P B st ops f T (R1 ++ R2) e2 h2 K:=h2.mono fun v h' hh=>ih (fun k' hk'=>hind k' (List.mem_cons_of_mem _ hk')) hh
    refine (GOp.swap hsk hsi hik h3).mono fun v h' hh=>⟨?_,?_⟩
    · have h5:LI P B st ops ([k] ++ f :: (R1 ++ R2 ++ T)) (e.put oi.dst v) h' K:=by
        simp only [List.cons_append,List.nil_append,LI,hok];exact hh.mono fun v2 h2 hl=>by have:=hl.now;simpa [LI] using this
      have:=LI.bubble hf hsf [k] (fun j hj=>by rw [List.mem_singleton.1 hj];exact ⟨ok,hok,hsk,hfk⟩) h5;simpa using this
    · simp only [hok];exact hh
theorem LF.lift {B:ABj->Prop} {st:Bool} {f k:Nat} {T R:List Nat} {of ok:Oper} (hf:ops[f]? =some of) (hsf:AHt of=true) (hok:ops[k]? =some ok) (hsk:AHt ok=true) (hfk:indep st ops ok of=true) {e:Env} {h:ABj} {K:Env->ABj->Prop} (H:GOp P B st ops ok e h fun e' h'=>LF P B st ops f T R e' h' K):LF P B st ops f T (k :: R) e h K:=by
 refine ⟨?_,by simp only [hok];exact H⟩
 have h5:LI P B st ops ([k] ++ f :: (R ++ T)) e h K:=by
   simp only [List.cons_append,List.nil_append,LI,hok]
   exact H.mono fun v2 h2 hl=>by have:=hl.now;simpa [LI] using this
 have:=LI.bubble hf hsf [k] (fun j hj=>by rw [List.mem_singleton.1 hj];exact ⟨ok,hok,hsk,hfk⟩) h5;simpa using this
theorem AZt {st:Bool} {x y:Oper} (h:indep st ops x y=true):indep st ops y x=true:=by
 unfold indep at h ⊢;rw [Bool.and_eq_true] at h ⊢;refine ⟨?_,?_⟩
 ·have:=Oper.apart_spec h.1;have h1:=h.1;unfold Oper.apart at h1 ⊢;simp only [Bool.and_eq_true] at h1 ⊢;revert h1;cases hx:x.dst <;> cases hy:y.dst <;> simp <;> intros <;> simp_all <;> (try exact fun hh=>by simp_all)
 ·cases hx:kindOf x.op <;> cases hy:kindOf y.op <;> simp_all
end
end Go.QF
namespace Go.QF
open Go
section
variable {P:Program} {ops:Array Oper}
theorem Alw (ops:Array Oper):Lst ops (List.range ops.size) (Array.replicate ops.size false):=by
 refine ⟨List.pairwise_lt_range,by simp,fun j=>?_,fun j oj hj _=>?_⟩
 ·simp only [List.mem_range];constructor
  ·intro h;exact ⟨h,by simp [h]⟩
  ·exact fun h=>h.1
 ·exfalso;rcases Nat.lt_or_ge j ops.size with h' | h'
  ·simp [h'] at hj
  ·simp [h'] at hj
theorem range_split {f n:Nat} (h:f < n):List.range n=List.range f ++ f :: List.range' (f + 1) (n - f - 1):=by
 rw [List.range_eq_range',List.range_eq_range'];have h1:n=f + (1 + (n - f - 1)):=by omega
 conv=>lhs;rw [h1]
 rw [<- List.range'_append_1];congr 1;rw [Nat.zero_add,Nat.add_comm 1,List.range'_succ]
end
end Go.QF
namespace Go.QF
open Go
section
variable {P:Program} {ops:Array Oper}
theorem Abo {X1 X2:List Nat} {i:Nat} (h:i ∉ X1):(X1 ++ i :: X2).erase i=X1 ++ X2:=by
 rw [List.erase_append_right _ h,List.erase_cons_head]
theorem Adi {B:ABj->Prop} {n f:Nat} {of:Oper} {Q:Exit->Act->World->Prop} (hof:ops[f]? =some of) (S:Afa n ops f) (R0 T:List Nat) (hT:∀ j∈T,∃ n,reach ops n f j=true) (hdn:∀ j∈R0,∀ oj,ops[j]? =some oj->kindOf oj.op= .pure∨kindOf oj.op= .read->indep (AMu ops true) ops of oj=true):
    ∀ (fuel:Nat) (R Ra Rb:List Nat) (listed:Array Bool) (e:Env) (a:Act) (w:World) (K:Env->ABj->Prop),(∀ j∈R,j∈R0)->Ra ++ Rb=R ++ T->f ∉ R ++ T->
    (Ra ++ f :: Rb).length=fuel->Lst ops (Ra ++ f :: Rb) listed->Rep n e a->LF P B (AMu ops true) ops f T R e w.heap K->(∀ e' a' w',Rep n e' a'->Same w w'->K e' w'.heap->Q .normal a' w')->
    wpAny P .any ops Q fuel listed a w:=by
 intro fuel;have hsf:=(S.spec hof).2.1
 induction fuel with
 | zero=>intro R Ra Rb listed e a w K _ _ _ hlen;simp at hlen
 | succ fuel ih=>
   intro R Ra Rb listed e a w K Ah hRT hfR hlen L r H hK
   refine ⟨fun hr=>absurd hr (L.ready S (by simp)),fun i hi=>?_⟩
   obtain ⟨hil,oi,hoi,hall⟩:=mem_ready.1 hi
   have his:i < ops.size:=(Array.getElem?_eq_some_iff.1 hoi).1
   have hfL:f∈Ra ++ f :: Rb:=List.mem_append_right _ (List.mem_cons_self ..)
   have hpw:=List.pairwise_append.1 L.pw
   have hpc:=List.pairwise_cons.1 hpw.2.1
   by_cases hif:i=f
   · subst hif
     rw [hof] at hoi;cases hoi
     have h1:=H.now
     simp only [LI,hof] at h1
     refine AIt hof (S.spec hof).1 r h1 fun e' a' w' r' hs hk=>?_
     refine Adh S fuel (R ++ T) _ e' a' w' K hfR (by rw [<- hRT];simp at hlen ⊢;omega) (by rw [<- hRT];exact L.step hof hall) r' hk (fun e2 a2 w2 r2 s2 k2=>hK _ _ _ r2 (hs.trans s2) k2)
   · have hmem:∀ j,j≠f->(j∈Ra ++ f :: Rb↔j∈R ++ T):=by
       intro j hj
       rw [<- hRT]
       simp only [List.mem_append,List.mem_cons]
       constructor
       · rintro (h | h | h)
         · exact .inl h
         · exact absurd h hj
         · exact .inr h
       · rintro (h | h)
         · exact .inl h
         · exact .inr (.inr h)
     have hiL:=(L.mem i).2 ⟨his,hil⟩
     have hiR:i∈R:=by
       rcases List.mem_append.1 ((hmem i hif).1 hiL) with h | h
       · exact h
       · exfalso
         obtain ⟨nre,hre⟩:=hT i h
         have h1:listed.getD f false=true:=AJo (L:=fun j=>listed.getD j false=true) L.cl nre f i oi hoi hall hre
         rw [L.notListed hfL] at h1
         cases h1
     obtain ⟨R1,R2,rfl⟩:=List.append_of_mem hiR
     have hpwRT:List.Pairwise (· < ·) ((R1 ++ i :: R2) ++ T):=by
       rw [<- hRT]
       exact List.pairwise_append.2 ⟨hpw.1,hpc.2,fun x hx y hy=>hpw.2.2 x hx y (List.mem_cons_of_mem _ hy)⟩
     have hpR:=List.pairwise_append.1 (List.pairwise_append.1 hpwRT).1
     have Am:∀ k∈R1,k < i:=fun k hk=>hpR.2.2 k hk i (List.mem_cons_self ..)
     obtain ⟨hdi,hsi,_⟩:=S.spec hoi
     obtain ⟨X1,X2,hX⟩:=List.append_of_mem hiL
     have LX:Lst ops (X1 ++ i :: X2) listed:=by rw [<- hX];exact L
     have hpX:=List.pairwise_append.1 LX.pw
     have Au:i ∉ X1:=fun h=>by have:=hpX.2.2 i h i (List.mem_cons_self ..);omega
     have Av:∀ k∈R1,k∈X1:=fun k hk=>by
       have hkf:k≠f:=fun he=>hfR (he ▸ (List.mem_append_left _ (List.mem_append_left _ hk)))
       have:k∈X1 ++ i :: X2:=by rw [<- hX];exact (hmem k hkf).2 (List.mem_append_left _ (List.mem_append_left _ hk))
       have hlt:=Am k hk
       rcases List.mem_append.1 this with h | h
       · exact h
       · rcases List.mem_cons.1 h with h | h
         · omega
         · have:=(List.pairwise_cons.1 hpX.2.1).1 k h;omega
     have hind:∀ k∈R1,∃ ok,ops[k]? =some ok/\AHt ok=true/\indep (AMu ops true) ops ok oi=true:=fun k hk=>
       LX.indep S hoi hall hif (Av k hk) (fun he=>hfR (he ▸ (List.mem_append_left _ (List.mem_append_left _ hk))))
     have hg:GOp P B (AMu ops true) ops oi e w.heap fun e' h'=>LF P B (AMu ops true) ops f T (R1 ++ R2) e' h' K:=by
       by_cases hk:kindOf oi.op= .pure∨kindOf oi.op= .read
       · exact LF.bubbleA hof hsf hoi hsi hk (hdn i (Ah i hiR) oi hoi hk) R1 hind H
       · refine LF.bubbleB hof hsf hoi hsi R1 (fun k hk'=>?_) H
         obtain ⟨ok,h1,h2,h3⟩:=hind k hk'
         refine ⟨ok,h1,h2,h3,AZt (hdn k (Ah k (List.mem_append_left _ hk')) ok h1 ?_)⟩
         unfold indep at h3
         rw [Bool.and_eq_true] at h3
         have h4:=h3.2
         cases hx:kindOf ok.op with
         | pure=>exact .inl rfl
         | read=>exact .inr rfl
         | eff=>
           rw [hx] at h4
           cases hy:kindOf oi.op with
           | pure=>exact absurd (Or.inl hy) hk
           | read=>exact absurd (Or.inr hy) hk
           | eff=>rw [hy] at h4;cases h4
           | wr=>rw [hy] at h4;cases h4
         | wr=>
           rw [hx] at h4
           cases hy:kindOf oi.op with
           | pure=>exact absurd (Or.inl hy) hk
           | read=>exact absurd (Or.inr hy) hk
           | eff=>rw [hy] at h4;cases h4
           | wr=>rw [hy] at h4;cases h4
     refine AIt hoi hdi r hg fun e' a' w' r' hs hk=>?_
     have LS:=LX.step hoi hall
     have hiRT:i ∉ R1:=fun h=>by have:=Am i h;omega
     have herase:(Ra ++ Rb).erase i=(R1 ++ R2) ++ T:=by
       rw [hRT,List.append_assoc,List.cons_append,Abo hiRT,<- List.append_assoc]
     have hlen':X1.length + X2.length=fuel:=by
       have:=congrArg List.length hX
       simp at this hlen
       omega
     have fin:∀ Ra' Rb',X1 ++ X2=Ra' ++ f :: Rb'->Ra' ++ Rb'=(R1 ++ R2) ++ T->wpAny P .any ops Q fuel (listed.setIfInBounds i true) a' w':=by
       intro Ra' Rb' Ao Ax
       refine ih (R1 ++ R2) Ra' Rb' _ e' a' w' K (fun j hj=>Ah j ?_) Ax (fun hf=>hfR ?_) (by rw [<- Ao,List.length_append];exact hlen') (by rw [<- Ao];exact LS) r' hk (fun e2 a2 w2 r2 s2 k2=>hK _ _ _ r2 (hs.trans s2) k2)
       · rcases List.mem_append.1 hj with h | h
         · exact List.mem_append_left _ h
         · exact List.mem_append_right _ (List.mem_cons_of_mem _ h)
       · rcases List.mem_append.1 hf with h | h
         · refine List.mem_append_left _ ?_
           rcases List.mem_append.1 h with h | h
           · exact List.mem_append_left _ h
           · exact List.mem_append_right _ (List.mem_cons_of_mem _ h)
         · exact List.mem_append_right _ h
     have hXe:X1 ++ X2=(Ra ++ f :: Rb).erase i:=by rw [hX,Abo Au]
     by_cases hia:i∈Ra
     · refine fin (Ra.erase i) Rb (by rw [hXe,List.erase_append_left _ hia]) ?_
       rw [<- herase,List.erase_append_left _ hia]
     · refine fin Ra (Rb.erase i) (by rw [hXe,List.erase_append_right _ hia,List.erase_cons_tail (by simpa using fun he:f=i=>hif he.symm)]) ?_
       rw [<- herase,List.erase_append_right _ hia]
def Aom (n:Nat) (ops:Array Oper) (pre:List Nat) (f k:Nat) (T:List Nat):Bool:=match ops[f]?,ops[k]? with
  | some of,some ok=>of.after.all (fun ed=> !Region.binds .any ed) && (match kindOf ok.op with | .eff=>true | .wr=>true | _=>false) &&
    ((List.range ops.size).filter (fun j=> !Nat.beq j f) == pre ++ k :: T) && T.all (fun j=>ahead ops f j) &&
    pre.all (fun j=>match ops[j]? with | some oj=>indep (AMu ops true) ops oj of | none=>false) &&
    (List.range ops.size).all fun j=>match ops[j]? with
    | none=>false
    | some oj=>(match oj.dst with | some d=>decide (d < n) | none=>true) && AHt oj && oj.after.all (fun ed=> !Region.binds .any ed || decide (ed.on < j)) &&
      (Nat.beq j f || ((List.range j).all fun i=>match ops[i]? with
        | none=>false
        | some oi=>Nat.beq i f || ahead ops i j || indep (AMu ops true) ops oi oj))
  | _,_=>false
theorem Avt {B:ABj->Prop} {st:Bool} {f:Nat} {T R:List Nat} {of:Oper} {K:Env->ABj->Prop} (hof:ops[f]? =some of) (hsf:AHt of=true):∀ (pre:List Nat) (L:List Oper),pre.map (fun i=>ops[i]?)=L.map some->(∀ j∈pre,∀ oj,ops[j]? =some oj->AHt oj=true/\indep st ops oj of=true)-> ∀ e h,RL P B st ops L e h (fun e' h'=>LF P B st ops f T R e' h' K)->LF P B st ops f T (pre ++ R) e h K:=by
 intro pre
 induction pre with
 | nil=>intro L hL _ e h H;cases L with | nil=>exact H | cons o L=>cases hL
 | cons k pre ih=>
   intro L hL hp e h H
   cases L with
   | nil=>cases hL
   | cons o L=>
     simp only [List.map_cons,List.cons.injEq] at hL
     obtain ⟨h1,h2⟩:=hp k (List.mem_cons_self ..) o hL.1
     refine LF.lift hof hsf hL.1 h1 h2 (GOp.mono (fun v h' hh=>?_) H)
     exact ih L hL.2 (fun j hj=>hp j (List.mem_cons_of_mem _ hj)) _ _ hh
inductive AZu (ops:Array Oper):List Nat->List Oper->Prop
  | nil:AZu ops [] []
  | cons {i:Nat} {o:Oper} {I:List Nat} {L:List Oper} (h:ops[i]? =some o) (t:AZu ops I L):AZu ops (i :: I) (o :: L)
theorem AZu.map {I:List Nat} {L:List Oper} (h:AZu ops I L):I.map (fun i=>ops[i]?)=L.map some:=by
 induction h with
 | nil=>rfl
 | cons h t ih=>simp only [List.map_cons,h,ih]
theorem Adj {B:ABj->Prop} {n:Nat} (st:Bool) (pre:List Nat) (f k:Nat) (T:List Nat) {Lp Lt:List Oper} {of ok:Oper} {id:Nat} {Q:Exit->Env->ABj->Prop} {e:Env} {h:ABj} (hmx:P.follows .mixedOrders=true) (hok:Aom n ops pre f k T=true) (hst:AMu ops true=st) (hf:ops[f]? =some of) (hk:ops[k]? =some ok)
    (hLp':AZu ops pre Lp) (hLt':AZu ops T Lt)
    (H:RL P B st ops Lp e h fun e' h'=>RL P B st ops (of :: ok :: Lt) e' h' (Q .normal)/\RL P B st ops (ok :: of :: Lt) e' h' (Q .normal)):
    W2 P n (.region id ops true) Q e h:=by
  intro a w Q' r hw hQ;subst hw;subst hst;have hLp:=hLp'.map;have hLt:=hLt'.map;unfold Aom at hok;simp only [hf,hk,Bool.and_eq_true] at hok;obtain ⟨⟨⟨⟨⟨h0,hkk⟩,hrg⟩,hT⟩,hpre⟩,H2⟩:=hok
  have key:∀ {j:Nat} {oj:Oper},ops[j]? =some oj->(((match oj.dst with | some d=>decide (d < n) | none=>true)=true/\AHt oj=true)/\oj.after.all (fun ed=> !Region.binds .any ed || decide (ed.on < j))=true)/\
      (Nat.beq j f || ((List.range j).all fun i=>match ops[i]? with | none=>false | some oi=>Nat.beq i f || ahead ops i j || indep (AMu ops true) ops oi oj))=true:=by
    intro j oj hj;have hlt:j < ops.size:=(Array.getElem?_eq_some_iff.1 hj).1;have H:=List.all_eq_true.1 H2 j (List.mem_range.2 hlt);simp only [hj,Bool.and_eq_true] at H;exact H
  have S:Afa n ops f:=⟨fun {j oj} hj=>by
    obtain ⟨⟨⟨h1,h2⟩,h3⟩,h4⟩:=key hj
    refine ⟨fun d hd=>by simpa [hd] using h1,h2,fun ed hed hbd=>?_,fun i oi hij hif hjf hoi=>?_⟩
    · have:=Array.all_eq_true_iff_forall_mem.1 h3 ed hed;simpa [hbd] using this
    · rw [Adg hjf,Bool.false_or] at h4;have:=List.all_eq_true.1 h4 i (List.mem_range.2 hij);simp only [hoi,Adg hif,Bool.false_or,Bool.or_eq_true] at this
      rcases this with h | h
      · exact .inl (AM2 h)
      · exact .inr h⟩
  have hrg2:(List.range ops.size).filter (fun j=> !Nat.beq j f)=pre ++ k :: T:=by simpa using hrg
  have hfl:f < ops.size:=(Array.getElem?_eq_some_iff.1 hf).1;have hsp:=range_split hfl
  have hfil:(List.range ops.size).filter (fun j=> !Nat.beq j f)=List.range f ++ List.range' (f + 1) (ops.size - f - 1):=by
    rw [hsp,List.filter_append,List.filter_cons];have hff:Nat.beq f f=true:=Nat.beq_eq.mpr rfl;simp only [hff,Bool.not_true,Bool.false_eq_true,if_false]
    rw [List.filter_eq_self.2,List.filter_eq_self.2]
    · intro j hj;have:=List.mem_range'_1.1 hj;rw [Adg (by omega)];rfl
    · intro j hj;have:=List.mem_range.1 hj;rw [Adg (by omega)];rfl
  have hsf:=(S.spec hf).2.1;refine wp_region_draw fun t=>?_;simp only [Region.schedule,hmx,Bool.true_or,if_true]
  refine wpAny_sound ops.size t _ a _ (Adi (B:=B) (K:=Q .normal) hf S (pre ++ [k]) T (fun j hj=>AM2 (List.all_eq_true.1 hT j hj)) ?_ ops.size (pre ++ [k]) (List.range f) (List.range' (f + 1) (ops.size - f - 1)) (Array.replicate ops.size false) e a { w with drawn:=w.drawn + 1 } (fun j hj=>hj) (by rw [<- hfil,hrg2];simp) ?_ (by rw [<- hsp];simp) (by rw [<- hsp];exact Alw ops) r ?_
    (fun e' a' w' r' hs hk=>hQ .normal e' a' w' r' ⟨hs.os,hs.tape,hs.output⟩ hk))
  · intro j hj oj hoj hkj
    rcases List.mem_append.1 hj with h | h
    · have:=List.all_eq_true.1 hpre j h;simp only [hoj] at this;exact AZt this
    · rw [List.mem_singleton.1 h,hk] at hoj;cases hoj;rcases hkj with hkj | hkj <;> (rw [hkj] at hkk;cases hkk)
  · have:f ∉ (List.range ops.size).filter (fun j=> !Nat.beq j f):=by
      intro hm;have:=(List.mem_filter.1 hm).2;have hff:Nat.beq f f=true:=Nat.beq_eq.mpr rfl;rw [hff] at this;cases this
    rw [hrg2] at this;simpa using this
  · refine Avt hf hsf pre Lp hLp (fun j hj oj hoj=>⟨(S.spec hoj).2.1,?_⟩) _ _ (RL.mono (fun e' h' hh=>?_) H)
    · have:=List.all_eq_true.1 hpre j hj;simp only [hoj] at this;exact this
    · refine ⟨?_,?_⟩
      · exact AT9 (f :: k :: ([] ++ T)) (of :: ok :: Lt) (by simp [hf,hk,hLt]) _ _ hh.1
      · simp only [hk];refine GOp.mono (fun v h2 hl=>?_) hh.2;exact AT9 (f :: T) (of :: Lt) (by simp [hf,hLt]) _ _ hl
theorem Aju {n:Nat} {c:Operand} {x y:Code} {Q:Exit->Env->ABj->Prop} {e:Env} {h:ABj} (hc:e.ev c= .bool true) (H:W2 P n x Q e h):W2 P n (.cond c x y) Q e h:=by
 intro a w Q' r hw hQ;exact wp_cond_split (t:=true) (by rw [r.eval];exact hc) (fun _=>H a w Q' r hw hQ) (fun hh=>by cases hh)
theorem Afb {n:Nat} {c:Operand} {x y:Code} {Q:Exit->Env->ABj->Prop} {e:Env} {h:ABj} (hc:e.ev c= .bool false) (H:W2 P n y Q e h):W2 P n (.cond c x y) Q e h:=by
 intro a w Q' r hw hQ;exact wp_cond_split (t:=false) (by rw [r.eval];exact hc) (fun hh=>by cases hh) (fun _=>H a w Q' r hw hQ)
end
end Go.QF
namespace Go.Proofs.YtiegjkmfpcgjjaaGreatDoor
open Go Go.QF
set_option maxRecDepth 100000
theorem AUx {a b q r:Int} (hb:b≠0) (h:a=b * q + r) (h0:0<=r) (h1:r < b.natAbs):a / b=q/\a % b=r:=by
 have hr:r % b=r:=by
   rcases AS1 0 b with hp | hn
   · exact Int.emod_eq_of_lt h0 (by omega)
   · rw [<- Int.emod_neg];exact Int.emod_eq_of_lt h0 (by omega)
 have hm:a % b=r:=by rw [h,Int.add_comm,Int.add_mul_emod_self_left];exact hr
 refine ⟨?_,hm⟩;have h2:=Int.mul_ediv_add_emod a b;rw [hm] at h2;have h3:b * (a / b)=b * q:=by omega
 exact Int.eq_of_mul_eq_mul_left hb h3
theorem AOd {z:Int}:AHs z < 0↔z < 0:=by
 unfold AHs;split
 ·omega
 ·split <;> omega
theorem Aon {na nb:Bool} {A B:Nat} (hB:B≠0) (h: ¬ sgn na (A % B) < 0):sgn na A / sgn nb B=sgn (!(na == nb)) (A / B)/\sgn na A % sgn nb B=sgn na (A % B):=by
 have h1:=Nat.div_add_mod A B;have hl:=Nat.mod_lt A (Nat.pos_of_ne_zero hB);obtain ⟨q,hq⟩:∃ q,A / B=q:=⟨_,rfl⟩;obtain ⟨r,hr⟩:∃ r,A % B=r:=⟨_,rfl⟩;rw [hq,hr] at h1;rw [hr] at hl h;rw [hq,hr];have h2:(A:Int)=(B:Int) * q + r:=by rw [<- h1];simp
 refine AUx (by cases nb <;> simp [sgn] <;> omega) ?_ (by omega) (by cases na <;> cases nb <;> simp only [sgn] at h ⊢ <;> simp at h ⊢ <;> omega);cases na <;> cases nb <;> simp [sgn] at h ⊢ <;> grind
theorem Adk {na nb:Bool} {A B:Nat} (hB:B≠0) (h:sgn na (A % B) < 0):sgn na A % sgn nb B=sgn na (A % B) + B/\(sgn nb B < 0->sgn na A / sgn nb B=sgn (!(na == nb)) (A / B) + 1)/\(¬ sgn nb B < 0->sgn na A / sgn nb B=sgn (!(na == nb)) (A / B) - 1):=by
 have h1:=Nat.div_add_mod A B;have hl:=Nat.mod_lt A (Nat.pos_of_ne_zero hB);obtain ⟨q,hq⟩:∃ q,A / B=q:=⟨_,rfl⟩;obtain ⟨r,hr⟩:∃ r,A % B=r:=⟨_,rfl⟩;rw [hq,hr] at h1;rw [hr] at hl h;rw [hq,hr];have h2:(A:Int)=(B:Int) * q + r:=by rw [<- h1];simp
 cases na
 ·simp [sgn] at h;omega
 have key:∀ q':Int,sgn true A=sgn nb B * q' + (sgn true r + B)->sgn true A / sgn nb B=q'/\sgn true A % sgn nb B=sgn true r + B:=fun q' hq'=>
   AUx (by cases nb <;> simp [sgn] <;> omega) hq' (by simp [sgn] at h ⊢;omega) (by cases nb <;> simp only [sgn] at h ⊢ <;> simp at h ⊢ <;> omega)
 cases nb
 ·have:=key (sgn true q - 1) (by simp [sgn];grind);exact ⟨this.2,fun hh=>by simp [sgn] at hh;omega,fun _=>this.1⟩
 ·have:=key (sgn false q + 1) (by simp [sgn];grind);exact ⟨this.2,fun _=>this.1,fun hh=>by simp [sgn] at hh;omega⟩
def FZ (b2 b3 s0:Nat) (na nb:Bool) (qv rv:Value) (nq nr:Nat):Nat->Value->ABj->Prop
  | 0,v,_=>v= .pointer (some ⟨b2,0,none⟩)
  | 1,v,_=>v= .bool na
  | 2,v,_=>v= .pointer (some ⟨b3,0,none⟩)
  | 3,v,_=>v= .bool nb
  | 4,v,_=>v= .bool (!(na == nb))
  | 5,v,_=>v=qv
  | 6,v,h=>ZV h s0 v (sgn (!(na == nb)) nq)
  | 7,v,_=>v= .pointer (some ⟨b2,0,none⟩)
  | 8,v,_=>v= .bool na
  | 9,v,_=>v=rv
  | 10,v,h=>ZV h s0 v (sgn na nr)
  | 11,v,h=> ∃ b,v= .pointer (some ⟨b,0,none⟩)/\AEj 109 h b [.bool false,.slice none 0 0]/\s0<=b
  | 12,v,h=> ∃ b,v= .pointer (some ⟨b,0,none⟩)/\AEj 109 h b [.bool false,.slice none 0 0]/\s0<=b
  | _,_,_=>True
def DZ (i j:Nat) (v u:Value):Prop:=(i=11/\j=12)∨(i=12/\j=11)->v≠u
theorem Avu {b2 b3 s0:Nat} {na nb:Bool} {qv rv:Value} {nq nr:Nat}:∀ j v h h',FZ b2 b3 s0 na nb qv rv nq nr j v h->Ext h h'->FZ b2 b3 s0 na nb qv rv nq nr j v h':=by
 intro j v h h' H E
 match j with
 | 0=>exact H
 | 1=>exact H
 | 2=>exact H
 | 3=>exact H
 | 4=>exact H
 | 5=>exact H
 | 6=>exact ZV.ext H E
 | 7=>exact H
 | 8=>exact H
 | 9=>exact H
 | 10=>exact ZV.ext H E
 | 11=>obtain ⟨b,h1,h2,h3⟩:=H;exact ⟨b,h1,h2.ext E,h3⟩
 | 12=>obtain ⟨b,h1,h2,h3⟩:=H;exact ⟨b,h1,h2.ext E,h3⟩
 | n + 13=>trivial
theorem ATr {i:Nat} (h1:i≠11) (h2:i≠12) (v:Value):∀ (j:Nat) (u:Value),DZ i j v u/\DZ j i u v:=fun j u=>⟨fun h=>by omega,fun h=>by omega⟩
theorem Aoo {b2 b3 s0:Nat} {na nb:Bool} {qv rv:Value} {nq nr:Nat} {h:ABj} {i b:Nat} (hi:i=11∨i=12) (hb:Array.size h<=b):∀ (j:Nat) (u:Value),FZ b2 b3 s0 na nb qv rv nq nr j u h->DZ i j (.pointer (some ⟨b,0,none⟩)) u/\DZ j i u (.pointer (some ⟨b,0,none⟩)):=by
 intro j u H
 have key:(j=11∨j=12)->Value.pointer (some ⟨b,0,none⟩)≠u:=by
   intro hj he
   have:∃ b',u= .pointer (some ⟨b',0,none⟩)/\AEj 109 h b' [.bool false,.slice none 0 0]/\s0<=b':=by
     rcases hj with rfl | rfl <;> exact H
   obtain ⟨b',h1,h2,_⟩:=this
   rw [h1] at he
   injection he with he
   injection he with he
   injection he with he
   have:=h2.lt
   omega
 exact ⟨fun h=>key (by omega),fun h he=>key (by omega) he.symm⟩
set_option maxHeartbeats 4000000 in
theorem Ahx {h:ABj} {la lb:Nat} {va vb:Value} {a b:Int} (HA:ZV h la va a) (HB:ZV h lb vb b) (hba:a.natAbs < 4294967296 ^ 99) (hbb:b.natAbs < 4294967296 ^ 99) (hb0:b≠0):ACa Tryz.prog 126 #[va,vb] h fun x h'=>Ext h h'/\ ∃ q r,x= .tuple #[q,r,.bool true]/\ZV h' (Array.size h) q (a / b)/\ZV h' (Array.size h) r (a % b):=by
  obtain ⟨na,sa,LA,rfl,HDa,htla,hla,hza⟩:=HA.out;obtain ⟨nb,sb,LB,rfl,HDb,htlb,hlb,hzb⟩:=HB.out;have haa:=AJp hza;have hab:=AJp hzb;have hBz:nv LB≠0:=fun h0=>hb0 (by rw [hzb,h0];cases nb <;> rfl);have hp99:(4294967296:Nat) ^ 99 < 4294967296 ^ 100:=Nat.pow_lt_pow_right (by decide) (by decide);refine Ae9 (l:=[_,_]) Tryz.func126 rfl rfl rfl rfl rfl ?_;refine ANz ?_;refine AP3 mx (by kernel_rfl) ?_;refine ABy ?_;refine AMx [.bool na,sa] (fun _=>trivial) rfl rfl fun bq1 h2 V3 E4 hb5 hl6=>?_;have hzbq1:Array.size h<=bq1:=hb5;have sz7:=E4.1;have Z8:=(Ext.refl h).trans E4;refine AMx [.bool nb,sb] (fun _=>trivial) rfl rfl fun bq9 h10 V11 E12 hb13 hl14=>?_;have hzbq9:Array.size h<=bq9:=Nat.le_trans E4.1 hb13;have nebq1bq9:bq1≠bq9:=by have:=V3.lt;omega
  have sz15:=E12.1;have Z16:=Z8.trans E12;have X17:=E4.trans E12;have V3_18:=V3.ext E12;have Y19:=E4.trans E12;refine AJ4 [.bool false,.slice none 0 0] AKp rfl (fun _=>trivial) fun bq20 h21 V22 E23 hb24 hl25=>?_;have hzbq20:Array.size h<=bq20:=Nat.le_trans X17.1 hb24;have nebq1bq20:bq1≠bq20:=by have:=V3_18.lt;omega
  have nebq9bq20:bq9≠bq20:=by have:=V11.lt;omega
  have sz26:=E23.1;have Z27:=Z16.trans E23;have X28:=X17.trans E23;have V3_29:=V3_18.ext E23;have Y30:=Y19.trans E23;have V11_31:=V11.ext E23;have Y32:=E12.trans E23;refine AJ4 [.bool false,.slice none 0 0] AKp rfl (fun _=>trivial) fun bq33 h34 V35 E36 hb37 hl38=>?_;have hzbq33:Array.size h<=bq33:=Nat.le_trans X28.1 hb37;have nebq1bq33:bq1≠bq33:=by have:=V3_29.lt;omega
  have nebq9bq33:bq9≠bq33:=by have:=V11_31.lt;omega
  have nebq20bq33:bq20≠bq33:=by have:=V22.lt;omega
  have sz39:=E36.1;have Z40:=Z27.trans E36;have X41:=X28.trans E36;have V3_42:=V3_29.ext E36;have Y43:=Y30.trans E36;have V11_44:=V11_31.ext E36;have Y45:=Y32.trans E36;have V22_46:=V22.ext E36;have Y47:=E23.trans E36;refine ABq ?_;refine ANz ?_;refine AP3 mx (by kernel_rfl) ?_;refine AEs (fun h'=>Ext h34 h') (by kernel_rfl) ?_;have hB0:=Ext.refl h34;refine AJz (fs:=1) APd (by kernel_rfl) (by decide) rfl (AGw AMf rfl hB0 (fun h' hb=>(V3_42.ext hb).cell (i:=1) rfl) (ACp hB0 rfl (AIz (DS.ext HDa X41) (by omega)) fun x48 h49 hk=>?_));obtain ⟨E50,L1,HD1,htl1,hv1,hl1⟩:=hk;have hB51:=hB0.trans E50;refine ⟨hB51,?_⟩;have sz52:=E50.1;have Z53:=Z40.trans E50;have X54:=X41.trans E50;have V3_55:=V3_42.ext E50;have Y56:=Y43.trans E50;have V11_57:=V11_44.ext E50;have Y58:=Y45.trans E50;have V22_59:=V22_46.ext E50;have Y60:=Y47.trans E50;have V35_61:=V35.ext E50;have Y62:=E36.trans E50;refine AJz (fs:=1) APd (by kernel_rfl) (by decide) rfl (AGw AMf rfl hB51 (fun h' hb=>(V11_44.ext hb).cell (i:=1) rfl) (ACp hB51 rfl (AIz (DS.ext HDb X54) (by omega)) fun x63 h64 hk=>?_));obtain ⟨E65,L2,HD2,htl2,hv2,hl2⟩:=hk;have hB66:=hB51.trans E65;refine ⟨hB66,?_⟩;have sz67:=E65.1;have Z68:=Z53.trans E65;have X69:=X54.trans E65;have V3_70:=V3_55.ext E65;have Y71:=Y56.trans E65;have V11_72:=V11_57.ext E65;have Y73:=Y58.trans E65;have V22_74:=V22_59.ext E65;have Y75:=Y60.trans E65;have V35_76:=V35_61.ext E65;have Y77:=Y62.trans E65;have HD1_78:=HD1.ext E65;refine ACg (ABq ?_);refine ANz ?_;refine AP3 mx (by kernel_rfl) ?_;refine ABn ?_;refine ABy ?_;refine Wl (AF7 AC7 rfl HD2 ?_);have hLB:L2≠[]:=fun h0=>hBz (by rw [<- hv2,h0];rfl);have hLp:=List.length_pos_iff.2 hLB;refine AVo rfl rfl (fun hc=>absurd hc (by omega)) (fun _=>?_);refine ABp ?_;refine ACf rfl ?_;refine ABt (q_t ?_);refine ANz ?_;refine AP3 mx (by kernel_rfl) ?_;refine ABy ?_;refine Wl (Wl (ACp trivial rfl (Ahs HD1_78 HD2 htl2 (by rw [hv2];exact hBz) (by omega) (by omega)) fun x79 h80 hk=>?_));obtain ⟨E81,qv,rv,rfl,LQ,LR,HQ,HR,hvq,hvr,hlq,hlr⟩:=hk;refine ⟨trivial,?_⟩;have sz82:=E81.1;have Z83:=Z68.trans E81;have X84:=X69.trans E81;have V3_85:=V3_70.ext E81;have Y86:=Y71.trans E81;have V11_87:=V11_72.ext E81;have Y88:=Y73.trans E81;have V22_89:=V22_74.ext E81;have Y90:=Y75.trans E81;have V35_91:=V35_76.ext E81;have Y92:=Y77.trans E81;have HD1_93:=HD1_78.ext E81;have HD2_94:=HD2.ext E81;rw [hv1,hv2] at hvq hvr;have hqA:nv LQ<=nv LA:=by rw [hvq];exact Nat.div_le_self _ _
  have hrA:nv LR < nv LB:=by rw [hvr];exact Nat.mod_lt _ (Nat.pos_of_ne_zero hBz)
  have hq100:nv LQ < 4294967296 ^ 100:=by omega
  have hr100:nv LR < 4294967296 ^ 100:=by omega
  refine Wl (AC4 rfl rfl (AC4 rfl rfl (ACg (ABq ?_))));refine ANz ?_;obtain ⟨s0,hs0⟩:∃ s,s=Array.size h80:=⟨_,rfl⟩
  refine Ar7 (B:=fun _=>True) (st:=false) 13 (FZ bq1 bq9 s0 na nb qv rv (nv LQ) (nv LR)) DZ mx (by kernel_rfl) Avu ?_ ?_
  · intro i oi hi hoi e1 h1 E1 hd he;have h2:e1 2= .pointer (some ⟨bq1,0,none⟩):=(he 2 (by kernel_rfl)).trans rfl;have h3:e1 3= .pointer (some ⟨bq9,0,none⟩):=(he 3 (by kernel_rfl)).trans rfl;have h9:e1 9=qv:=(he 9 (by kernel_rfl)).trans rfl;have h10:e1 10=rv:=(he 10 (by kernel_rfl)).trans rfl;have hsz:=E1.1
    rcases (by omega:i=0∨i=1∨i=2∨i=3∨i=4∨i=5∨i=6∨i=7∨i=8∨i=9∨i=10∨i=11∨i=12) with rfl | rfl | rfl | rfl | rfl | rfl | rfl | rfl | rfl | rfl | rfl | rfl | rfl <;> obtain rfl:=Option.some.inj (show some _=some oi from hoi)
    · refine AJz (fs:=1) AP2 (by kernel_rfl) (by decide) h2 (ACm ⟨Ext.refl _,fun d hdd=>?_⟩);cases hdd;exact ⟨rfl,fun j u _=>ATr (by decide) (by decide) _ j u⟩
    · have h30:e1 30= .pointer (some ⟨bq1,0,none⟩):=hd 0 30 (by kernel_rfl) (by kernel_rfl);refine AB9 AKm h30 ((V3_85.ext E1).cell (i:=0) rfl) (ACm ⟨Ext.refl _,fun d hdd=>?_⟩);cases hdd;exact ⟨rfl,fun j u _=>ATr (by decide) (by decide) _ j u⟩
    · refine AJz (fs:=1) AP2 (by kernel_rfl) (by decide) h3 (ACm ⟨Ext.refl _,fun d hdd=>?_⟩);cases hdd;exact ⟨rfl,fun j u _=>ATr (by decide) (by decide) _ j u⟩
    · have h32:e1 32= .pointer (some ⟨bq9,0,none⟩):=hd 2 32 (by kernel_rfl) (by kernel_rfl);refine AB9 AKm h32 ((V11_87.ext E1).cell (i:=0) rfl) (ACm ⟨Ext.refl _,fun d hdd=>?_⟩);cases hdd;exact ⟨rfl,fun j u _=>ATr (by decide) (by decide) _ j u⟩
    · have h31:e1 31= .bool na:=hd 1 31 (by kernel_rfl) (by kernel_rfl);have h33:e1 33= .bool nb:=hd 3 33 (by kernel_rfl) (by kernel_rfl);refine Ae0 Ac9 h31 h33 (ACm ⟨Ext.refl _,fun d hdd=>?_⟩);cases hdd;exact ⟨rfl,fun j u _=>ATr (by decide) (by decide) _ j u⟩
    · refine Wl (ACm ⟨Ext.refl _,fun d hdd=>?_⟩);cases hdd;exact ⟨h9,fun j u _=>ATr (by decide) (by decide) _ j u⟩
    · have h34:e1 34= .bool (!(na == nb)):=hd 4 34 (by kernel_rfl) (by kernel_rfl);have h35:e1 35=qv:=hd 5 35 (by kernel_rfl) (by kernel_rfl);refine ACp (K':=fun x h2=>Ext h1 h2/\ZV h2 (Array.size h1) x (sgn (!(na == nb)) (nv LQ))) trivial (show [e1 34,e1 35]=[.bool (!(na == nb)),qv] by rw [h34,h35]) (ALy (!(na == nb)) (HQ.ext E1) (by omega) hq100) fun x h2 hk=>?_;obtain ⟨E2,HZ⟩:=hk;refine ⟨trivial,ACm ⟨E2,fun d hdd=>?_⟩⟩;cases hdd;exact ⟨HZ.mono (by omega),fun j u _=>ATr (by decide) (by decide) _ j u⟩
    · refine AJz (fs:=1) AP2 (by kernel_rfl) (by decide) h2 (ACm ⟨Ext.refl _,fun d hdd=>?_⟩);cases hdd;exact ⟨rfl,fun j u _=>ATr (by decide) (by decide) _ j u⟩
    · have h37:e1 37= .pointer (some ⟨bq1,0,none⟩):=hd 7 37 (by kernel_rfl) (by kernel_rfl);refine AB9 AKm h37 ((V3_85.ext E1).cell (i:=0) rfl) (ACm ⟨Ext.refl _,fun d hdd=>?_⟩);cases hdd;exact ⟨rfl,fun j u _=>ATr (by decide) (by decide) _ j u⟩
    · refine Wl (ACm ⟨Ext.refl _,fun d hdd=>?_⟩);cases hdd;exact ⟨h10,fun j u _=>ATr (by decide) (by decide) _ j u⟩
    · have h38:e1 38= .bool na:=hd 8 38 (by kernel_rfl) (by kernel_rfl);have h39:e1 39=rv:=hd 9 39 (by kernel_rfl) (by kernel_rfl);refine ACp (K':=fun x h2=>Ext h1 h2/\ZV h2 (Array.size h1) x (sgn na (nv LR))) trivial (show [e1 38,e1 39]=[.bool na,rv] by rw [h38,h39]) (ALy na (HR.ext E1) (by omega) hr100) fun x h2 hk=>?_;obtain ⟨E2,HZ⟩:=hk;refine ⟨trivial,ACm ⟨E2,fun d hdd=>?_⟩⟩;cases hdd;exact ⟨HZ.mono (by omega),fun j u _=>ATr (by decide) (by decide) _ j u⟩
    · refine AJ4 [.bool false,.slice none 0 0] AKp rfl (fun _=>trivial) fun b h2 V E2 hb hl=>(ACm ⟨E2,fun d hdd=>?_⟩);cases hdd;exact ⟨⟨b,rfl,V,by omega⟩,Aoo (.inl rfl) hb⟩
    · refine AJ4 [.bool false,.slice none 0 0] AKp rfl (fun _=>trivial) fun b h2 V E2 hb hl=>(ACm ⟨E2,fun d hdd=>?_⟩);cases hdd;exact ⟨⟨b,rfl,V,by omega⟩,Aoo (.inr rfl) hb⟩
  intro e1 h5 E5 hF hD he;have hv30:e1 30=_:=hF 0 30 (by decide) (by kernel_rfl);have hv31:e1 31=_:=hF 1 31 (by decide) (by kernel_rfl);have hv32:e1 32=_:=hF 2 32 (by decide) (by kernel_rfl);have hv33:e1 33=_:=hF 3 33 (by decide) (by kernel_rfl);have hv34:e1 34=_:=hF 4 34 (by decide) (by kernel_rfl);have hv35:e1 35=_:=hF 5 35 (by decide) (by kernel_rfl);have hv37:e1 37=_:=hF 7 37 (by decide) (by kernel_rfl);have hv38:e1 38=_:=hF 8 38 (by decide) (by kernel_rfl);have hv39:e1 39=_:=hF 9 39 (by decide) (by kernel_rfl);have HZ6:ZV h5 s0 (e1 36) (sgn (!(na == nb)) (nv LQ)):=hF 6 36 (by decide) (by kernel_rfl);have HZ7:ZV h5 s0 (e1 40) (sgn na (nv LR)):=hF 10 40 (by decide) (by kernel_rfl);obtain ⟨b11,hv11,VX11,hb11⟩:=hF 11 11 (by decide) (by kernel_rfl);obtain ⟨b12,hv12,VX12,hb12⟩:=hF 12 12 (by decide) (by kernel_rfl);have hne:b11≠b12:=fun hh=>hD 11 12 11 12 (by decide) (by decide) (by decide) (by kernel_rfl) (by kernel_rfl) (.inl ⟨rfl,rfl⟩) (by rw [hv11,hv12,hh]);obtain ⟨ng6,s6,L6,hv36,HD6,htl6,hlen6,hz6⟩:=HZ6.out;obtain ⟨ng7,s7,L7,hv40,HD7,htl7,hlen7,hz7⟩:=HZ7.out;rw [Aol [30,31,32,33,34,35,36,37,38,39,40,11,12] (fun t ht=>he t (Eq.trans (by kernel_rfl) ht))];simp only [List.map_cons,List.map_nil,hv30,hv31,hv32,hv33,hv34,hv35,hv36,hv37,hv38,hv39,hv40,hv11,hv12];clear he hF hD hv30 hv31 hv32 hv33 hv34 hv35 hv36 hv37 hv38 hv39 hv40 hv11 hv12;have hl11:=VX11.lt;have hl12:=VX12.lt;have sz95:=E5.1;have Z96:=Z83.trans E5;have X97:=X84.trans E5;have V3_98:=V3_85.ext E5;have Y99:=Y86.trans E5;have V11_100:=V11_87.ext E5;have Y101:=Y88.trans E5;have V22_102:=V22_89.ext E5;have Y103:=Y90.trans E5;have V35_104:=V35_91.ext E5;have Y105:=Y92.trans E5;have HD1_106:=HD1_93.ext E5;have HD2_107:=HD2_94.ext E5;have HQ_108:=HQ.ext E5;have HR_109:=HR.ext E5;have nebq1b11:bq1≠b11:=by have:=V3_85.lt;omega
  have nebq9b11:bq9≠b11:=by have:=V11_87.lt;omega
  have nebq20b11:bq20≠b11:=by have:=V22_89.lt;omega
  have nebq33b11:bq33≠b11:=by have:=V35_91.lt;omega
  have nebq1b12:bq1≠b12:=by have:=V3_85.lt;omega
  have nebq9b12:bq9≠b12:=by have:=V11_87.lt;omega
  have nebq20b12:bq20≠b12:=by have:=V22_89.lt;omega
  have nebq33b12:bq33≠b12:=by have:=V35_91.lt;omega
  have neb11b12:b11≠b12:=hne;refine ADn [.bool ng6,s6] ACq rfl rfl rfl rfl (AJb HD6.cap) VX11 fun h6 VX11_n U6=>?_;have szu0:=U6.1;have X110:=X97.thenUpd U6 (fun k hk=>by have hk2:k=b11:=hk;omega);have V3_111:=V3_98.upd U6 (fun he=>by have he2:bq1=b11:=he;omega);have V11_112:=V11_100.upd U6 (fun he=>by have he2:bq9=b11:=he;omega);have V22_113:=V22_102.upd U6 (fun he=>by have he2:bq20=b11:=he;omega);have V35_114:=V35_104.upd U6 (fun he=>by have he2:bq33=b11:=he;omega);have HD1_115:=HD1_106.updT U6 VX11 rfl;have HD2_116:=HD2_107.updT U6 VX11 rfl;have HQ_117:=HQ_108.updT U6 VX11 rfl;have HR_118:=HR_109.updT U6 VX11 rfl;have VX12_119:=VX12.upd U6 (fun he=>by have he2:b12=b11:=he;omega);have HD6_120:=HD6.updT U6 VX11 rfl;have HD7_121:=HD7.updT U6 VX11 rfl;refine ADn [.bool ng7,s7] ACq rfl rfl rfl rfl (AJb HD7.cap) VX12_119 fun h7 VX12_n U7=>?_;have szu1:=U7.1;have X122:=X110.thenUpd U7 (fun k hk=>by have hk2:k=b12:=hk;omega);have V3_123:=V3_111.upd U7 (fun he=>by have he2:bq1=b12:=he;omega);have V11_124:=V11_112.upd U7 (fun he=>by have he2:bq9=b12:=he;omega);have V22_125:=V22_113.upd U7 (fun he=>by have he2:bq20=b12:=he;omega);have V35_126:=V35_114.upd U7 (fun he=>by have he2:bq33=b12:=he;omega);have HD1_127:=HD1_115.updT U7 VX12_119 rfl;have HD2_128:=HD2_116.updT U7 VX12_119 rfl;have HQ_129:=HQ_117.updT U7 VX12_119 rfl;have HR_130:=HR_118.updT U7 VX12_119 rfl;have VX11_131:=VX11_n.upd U7 (fun he=>by have he2:b11=b12:=he;omega);have HD6_132:=HD6_120.updT U7 VX12_119 rfl;have HD7_133:=HD7_121.updT U7 VX12_119 rfl;refine ABp ?_;refine ANz ?_;refine ANz ?_;refine AP3 mx (by kernel_rfl) ?_;refine ABy ?_;refine AHm [.bool ng7,s7] ACq rfl rfl VX12_n.agg (ACp trivial rfl (ATp (⟨ng7,s7,L7,rfl,HD7_133,htl7,hlen7,hz7⟩:ZV _ _ _ _)) fun x134 h135 hk=>?_);obtain ⟨E136,rfl⟩:=hk;refine ⟨trivial,?_⟩;have sz137:=E136.1;have X138:=X122.trans E136;have V3_139:=V3_123.ext E136;have V11_140:=V11_124.ext E136;have V22_141:=V22_125.ext E136;have V35_142:=V35_126.ext E136;have HD1_143:=HD1_127.ext E136;have HD2_144:=HD2_128.ext E136;have HQ_145:=HQ_129.ext E136;have HR_146:=HR_130.ext E136;have VX11_147:=VX11_131.ext E136;have VX12_148:=VX12_n.ext E136;have HD6_149:=HD6_132.ext E136;have HD7_150:=HD7_133.ext E136
  refine AFn rfl rfl (fun hc1=>?_) (fun hc1=>?_)
  · skip
    refine ABp ?_;refine Aju rfl ?_;refine ANz ?_;refine AP3 mx (by kernel_rfl) ?_;refine AEs (fun h'=>Ext h135 h') (by kernel_rfl) ?_;have hB0:=Ext.refl h135;refine AEy [.bool ng7,s7] ACq rfl rfl hB0 (fun h' hb=>(VX12_148.ext hb).agg) (Wl (ACp hB0 rfl (ALy false HD2_144 (by omega) (by rw [hv2];omega)) fun x151 h152 hk=>?_));obtain ⟨E153,HZ8⟩:=hk;have hB154:=hB0.trans E153;refine ⟨hB154,?_⟩;have sz155:=E153.1;have X156:=X138.trans E153;have V3_157:=V3_139.ext E153;have V11_158:=V11_140.ext E153;have V22_159:=V22_141.ext E153;have V35_160:=V35_142.ext E153;have HD1_161:=HD1_143.ext E153;have HD2_162:=HD2_144.ext E153;have HQ_163:=HQ_145.ext E153;have HR_164:=HR_146.ext E153;have VX11_165:=VX11_147.ext E153;have VX12_166:=VX12_148.ext E153;have HD6_167:=HD6_149.ext E153;have HD7_168:=HD7_150.ext E153;obtain ⟨ng8,s8,L8,rfl,HD8,htl8,hlen8,hz8⟩:=HZ8.out;refine ACp hB154 rfl (AYc (⟨ng7,s7,L7,rfl,HD7_168,htl7,hlen7,hz7⟩:ZV _ _ _ _) (⟨ng8,s8,L8,rfl,HD8,htl8,hlen8,hz8⟩:ZV _ _ _ _) (by rw [show (sgn na (nv LR)).natAbs=nv LR from AJp rfl];omega) (by rw [show (sgn false (nv L2)).natAbs=nv L2 from AJp rfl,hv2];omega)) fun x169 h170 hk=>?_;obtain ⟨E171,HZ9⟩:=hk;have hB172:=hB154.trans E171;refine ⟨hB172,?_⟩;have sz173:=E171.1;have X174:=X156.trans E171;have V3_175:=V3_157.ext E171;have V11_176:=V11_158.ext E171;have V22_177:=V22_159.ext E171;have V35_178:=V35_160.ext E171;have HD1_179:=HD1_161.ext E171;have HD2_180:=HD2_162.ext E171;have HQ_181:=HQ_163.ext E171;have HR_182:=HR_164.ext E171;have VX11_183:=VX11_165.ext E171;have VX12_184:=VX12_166.ext E171;have HD6_185:=HD6_167.ext E171;have HD7_186:=HD7_168.ext E171;have HD8_187:=HD8.ext E171;obtain ⟨ng9,s9,L9,rfl,HD9,htl9,hlen9,hz9⟩:=HZ9.out;refine ADn [.bool ng9,s9] ACq rfl rfl rfl rfl (AJb HD9.cap) VX12_184 fun h188 VX12_189 U190=>?_;have X191:=X174.thenUpd U190 (fun k hk=>by have hk2:k=b12:=hk;omega);have sz192:=U190.1;have V3_193:=V3_175.upd U190 (fun he=>nebq1b12 (he:bq1=b12));have V11_194:=V11_176.upd U190 (fun he=>nebq9b12 (he:bq9=b12));have V22_195:=V22_177.upd U190 (fun he=>nebq20b12 (he:bq20=b12));have V35_196:=V35_178.upd U190 (fun he=>nebq33b12 (he:bq33=b12));have HD1_197:=HD1_179.updT U190 VX12_184 rfl;have HD2_198:=HD2_180.updT U190 VX12_184 rfl;have HQ_199:=HQ_181.updT U190 VX12_184 rfl;have HR_200:=HR_182.updT U190 VX12_184 rfl;have VX11_201:=VX11_183.upd U190 (fun he=>neb11b12 (he:b11=b12));have HD6_202:=HD6_185.updT U190 VX12_184 rfl;have HD7_203:=HD7_186.updT U190 VX12_184 rfl;have HD8_204:=HD8_187.updT U190 VX12_184 rfl;have HD9_205:=HD9.updT U190 VX12_184 rfl;refine ABp ?_;refine ANz ?_;refine ANz ?_;refine AP3 mx (by kernel_rfl) ?_;refine ABy ?_;refine AHm [.bool nb,sb] ACq rfl rfl V11_194.agg (ACp trivial rfl (ATp (HB.ext X191)) fun x206 h207 hk=>?_);obtain ⟨E208,rfl⟩:=hk;refine ⟨trivial,?_⟩;have sz209:=E208.1;have X210:=X191.trans E208;have V3_211:=V3_193.ext E208;have V11_212:=V11_194.ext E208;have V22_213:=V22_195.ext E208;have V35_214:=V35_196.ext E208;have HD1_215:=HD1_197.ext E208;have HD2_216:=HD2_198.ext E208;have HQ_217:=HQ_199.ext E208;have HR_218:=HR_200.ext E208;have VX11_219:=VX11_201.ext E208;have VX12_220:=VX12_189.ext E208;have HD6_221:=HD6_202.ext E208;have HD7_222:=HD7_203.ext E208;have HD8_223:=HD8_204.ext E208;have HD9_224:=HD9_205.ext E208
    refine AFn rfl rfl (fun hc2=>?_) (fun hc2=>?_)
    · skip
      refine ABp ?_;refine Aju rfl ?_;refine ANz ?_;refine Adj (B:=(fun h'=>AEj 109 h' b11 [.bool ng6,s6]/\AEj 109 h' b12 [.bool ng9,s9])) true [0,1,2] 3 4 [5,6] mx (by kernel_rfl) (by kernel_rfl) rfl rfl (.cons rfl (.cons rfl (.cons rfl .nil))) (.cons rfl (.cons rfl .nil)) ?_;refine AEy [.bool ng6,s6] ACq rfl rfl ⟨VX11_219,VX12_220⟩ (fun h' hb=>hb.1.agg) ?_;refine ACp ⟨VX11_219,VX12_220⟩ rfl (AWx (n:=1) (by omega) _) fun x13 h13 hk=>?_;obtain ⟨EX13,HZ13⟩:=hk;have sz225:=EX13.1;have X226:=X210.trans EX13;have V3_227:=V3_211.ext EX13;have V11_228:=V11_212.ext EX13;have V22_229:=V22_213.ext EX13;have V35_230:=V35_214.ext EX13;have HD1_231:=HD1_215.ext EX13;have HD2_232:=HD2_216.ext EX13;have HQ_233:=HQ_217.ext EX13;have HR_234:=HR_218.ext EX13;have VX11_235:=VX11_219.ext EX13;have VX12_236:=VX12_220.ext EX13;have HD6_237:=HD6_221.ext EX13;have HD7_238:=HD7_222.ext EX13;have HD8_239:=HD8_223.ext EX13;have HD9_240:=HD9_224.ext EX13;obtain ⟨ng13,s13,L13,rfl,HD13,htl13,hlen13,hz13⟩:=HZ13.out;refine ⟨⟨VX11_235,VX12_236⟩,?_⟩;refine ACp ⟨VX11_235,VX12_236⟩ rfl (AYc (⟨ng6,s6,L6,rfl,HD6_237,htl6,hlen6,hz6⟩:ZV _ _ _ _) (⟨ng13,s13,L13,rfl,HD13,htl13,hlen13,hz13⟩:ZV _ _ _ _) (by rw [show (sgn (!(na == nb)) (nv LQ)).natAbs=nv LQ from AJp rfl];omega) (by decide)) fun x14 h14 hk=>?_;obtain ⟨EX14,HZ14⟩:=hk;have sz241:=EX14.1;have X242:=X226.trans EX14;have V3_243:=V3_227.ext EX14;have V11_244:=V11_228.ext EX14;have V22_245:=V22_229.ext EX14;have V35_246:=V35_230.ext EX14;have HD1_247:=HD1_231.ext EX14;have HD2_248:=HD2_232.ext EX14;have HQ_249:=HQ_233.ext EX14;have HR_250:=HR_234.ext EX14;have VX11_251:=VX11_235.ext EX14;have VX12_252:=VX12_236.ext EX14;have HD6_253:=HD6_237.ext EX14;have HD7_254:=HD7_238.ext EX14;have HD8_255:=HD8_239.ext EX14;have HD9_256:=HD9_240.ext EX14;have HD13_257:=HD13.ext EX14;obtain ⟨ng14,s14,L14,rfl,HD14,htl14,hlen14,hz14⟩:=HZ14.out;refine ⟨⟨VX11_251,VX12_252⟩,?_⟩
      refine ACm ⟨?_,?_⟩
      · skip
        refine AEy [.bool ng9,s9] ACq rfl rfl ⟨VX11_251,VX12_252⟩ (fun h' hb=>hb.2.agg) ?_;refine ADn [.bool ng14,s14] ACq rfl rfl rfl rfl (AJb HD14.cap) V22_245 fun h258 V22_259 U260=>?_;have X261:=X242.thenUpd U260 (fun k hk=>by have hk2:k=bq20:=hk;omega);have sz262:=U260.1;have V3_263:=V3_243.upd U260 (fun he=>nebq1bq20 (he:bq1=bq20));have V11_264:=V11_244.upd U260 (fun he=>nebq9bq20 (he:bq9=bq20));have V35_265:=V35_246.upd U260 (fun he=>(Ne.symm nebq20bq33) (he:bq33=bq20));have HD1_266:=HD1_247.updT U260 V22_245 rfl;have HD2_267:=HD2_248.updT U260 V22_245 rfl;have HQ_268:=HQ_249.updT U260 V22_245 rfl;have HR_269:=HR_250.updT U260 V22_245 rfl;have VX11_270:=VX11_251.upd U260 (fun he=>(Ne.symm nebq20b11) (he:b11=bq20));have VX12_271:=VX12_252.upd U260 (fun he=>(Ne.symm nebq20b12) (he:b12=bq20));have HD6_272:=HD6_253.updT U260 V22_245 rfl;have HD7_273:=HD7_254.updT U260 V22_245 rfl;have HD8_274:=HD8_255.updT U260 V22_245 rfl;have HD9_275:=HD9_256.updT U260 V22_245 rfl;have HD13_276:=HD13_257.updT U260 V22_245 rfl;have HD14_277:=HD14.updT U260 V22_245 rfl;refine ADn [.bool ng9,s9] ACq rfl rfl rfl rfl (AJb HD9_275.cap) V35_265 fun h278 V35_279 U280=>?_;have X281:=X261.thenUpd U280 (fun k hk=>by have hk2:k=bq33:=hk;omega);have sz282:=U280.1;have V3_283:=V3_263.upd U280 (fun he=>nebq1bq33 (he:bq1=bq33));have V11_284:=V11_264.upd U280 (fun he=>nebq9bq33 (he:bq9=bq33));have V22_285:=V22_259.upd U280 (fun he=>nebq20bq33 (he:bq20=bq33));have HD1_286:=HD1_266.updT U280 V35_265 rfl;have HD2_287:=HD2_267.updT U280 V35_265 rfl;have HQ_288:=HQ_268.updT U280 V35_265 rfl;have HR_289:=HR_269.updT U280 V35_265 rfl;have VX11_290:=VX11_270.upd U280 (fun he=>(Ne.symm nebq33b11) (he:b11=bq33));have VX12_291:=VX12_271.upd U280 (fun he=>(Ne.symm nebq33b12) (he:b12=bq33));have HD6_292:=HD6_272.updT U280 V35_265 rfl;have HD7_293:=HD7_273.updT U280 V35_265 rfl;have HD8_294:=HD8_274.updT U280 V35_265 rfl;have HD9_295:=HD9_275.updT U280 V35_265 rfl;have HD13_296:=HD13_276.updT U280 V35_265 rfl;have HD14_297:=HD14_277.updT U280 V35_265 rfl;refine ABq ?_;refine AP3 mx (by kernel_rfl) ?_;refine ABs (AB2 (AB2 ?_));refine ⟨_,ARj ACq rfl rfl V22_285 ACq rfl rfl V35_279,?_⟩;have hk:=Adk (nb:=nb) hBz (by rw [<- hvr];exact AOd.1 (by assumption));have hbn:sgn nb (nv LB) < 0:=by rw [<- hzb];exact AOd.1 (by assumption)
        exact ⟨X281,_,_,rfl,⟨ng14,s14,L14,rfl,HD14_297.mono (by omega),htl14,hlen14,by rw [<- hz14,hza,hzb,hk.2.1 hbn,hvq]⟩,⟨ng9,s9,L9,rfl,HD9_295.mono (by omega),htl9,hlen9,by rw [<- hz9,hza,hzb,hk.1,hvr,hv2];rfl⟩⟩
      · skip
        refine ADn [.bool ng14,s14] ACq rfl rfl rfl rfl (AJb HD14.cap) V22_245 fun h298 V22_299 U300=>?_;have X301:=X242.thenUpd U300 (fun k hk=>by have hk2:k=bq20:=hk;omega);have sz302:=U300.1;have V3_303:=V3_243.upd U300 (fun he=>nebq1bq20 (he:bq1=bq20));have V11_304:=V11_244.upd U300 (fun he=>nebq9bq20 (he:bq9=bq20));have V35_305:=V35_246.upd U300 (fun he=>(Ne.symm nebq20bq33) (he:bq33=bq20));have HD1_306:=HD1_247.updT U300 V22_245 rfl;have HD2_307:=HD2_248.updT U300 V22_245 rfl;have HQ_308:=HQ_249.updT U300 V22_245 rfl;have HR_309:=HR_250.updT U300 V22_245 rfl;have VX11_310:=VX11_251.upd U300 (fun he=>(Ne.symm nebq20b11) (he:b11=bq20));have VX12_311:=VX12_252.upd U300 (fun he=>(Ne.symm nebq20b12) (he:b12=bq20));have HD6_312:=HD6_253.updT U300 V22_245 rfl;have HD7_313:=HD7_254.updT U300 V22_245 rfl;have HD8_314:=HD8_255.updT U300 V22_245 rfl;have HD9_315:=HD9_256.updT U300 V22_245 rfl;have HD13_316:=HD13_257.updT U300 V22_245 rfl;have HD14_317:=HD14.updT U300 V22_245 rfl;refine AEy [.bool ng9,s9] ACq rfl rfl ⟨VX11_310,VX12_311⟩ (fun h' hb=>hb.2.agg) ?_;refine ADn [.bool ng9,s9] ACq rfl rfl rfl rfl (AJb HD9_315.cap) V35_305 fun h318 V35_319 U320=>?_;have X321:=X301.thenUpd U320 (fun k hk=>by have hk2:k=bq33:=hk;omega);have sz322:=U320.1;have V3_323:=V3_303.upd U320 (fun he=>nebq1bq33 (he:bq1=bq33));have V11_324:=V11_304.upd U320 (fun he=>nebq9bq33 (he:bq9=bq33));have V22_325:=V22_299.upd U320 (fun he=>nebq20bq33 (he:bq20=bq33));have HD1_326:=HD1_306.updT U320 V35_305 rfl;have HD2_327:=HD2_307.updT U320 V35_305 rfl;have HQ_328:=HQ_308.updT U320 V35_305 rfl;have HR_329:=HR_309.updT U320 V35_305 rfl;have VX11_330:=VX11_310.upd U320 (fun he=>(Ne.symm nebq33b11) (he:b11=bq33));have VX12_331:=VX12_311.upd U320 (fun he=>(Ne.symm nebq33b12) (he:b12=bq33));have HD6_332:=HD6_312.updT U320 V35_305 rfl;have HD7_333:=HD7_313.updT U320 V35_305 rfl;have HD8_334:=HD8_314.updT U320 V35_305 rfl;have HD9_335:=HD9_315.updT U320 V35_305 rfl;have HD13_336:=HD13_316.updT U320 V35_305 rfl;have HD14_337:=HD14_317.updT U320 V35_305 rfl;refine ABq ?_;refine AP3 mx (by kernel_rfl) ?_;refine ABs (AB2 (AB2 ?_));refine ⟨_,ARj ACq rfl rfl V22_325 ACq rfl rfl V35_319,?_⟩;have hk:=Adk (nb:=nb) hBz (by rw [<- hvr];exact AOd.1 (by assumption));have hbn:sgn nb (nv LB) < 0:=by rw [<- hzb];exact AOd.1 (by assumption)
        exact ⟨X321,_,_,rfl,⟨ng14,s14,L14,rfl,HD14_337.mono (by omega),htl14,hlen14,by rw [<- hz14,hza,hzb,hk.2.1 hbn,hvq]⟩,⟨ng9,s9,L9,rfl,HD9_335.mono (by omega),htl9,hlen9,by rw [<- hz9,hza,hzb,hk.1,hvr,hv2];rfl⟩⟩
    · skip
      refine ABp ?_;refine Afb rfl ?_;refine AP3 mx (by kernel_rfl) ?_;refine ABt (q_t ?_);refine ANz ?_;refine Adj (B:=(fun h'=>AEj 109 h' b11 [.bool ng6,s6]/\AEj 109 h' b12 [.bool ng9,s9])) true [0,1,2] 3 4 [5,6] mx (by kernel_rfl) (by kernel_rfl) rfl rfl (.cons rfl (.cons rfl (.cons rfl .nil))) (.cons rfl (.cons rfl .nil)) ?_;refine AEy [.bool ng6,s6] ACq rfl rfl ⟨VX11_219,VX12_220⟩ (fun h' hb=>hb.1.agg) ?_;refine ACp ⟨VX11_219,VX12_220⟩ rfl (AWx (n:=1) (by omega) _) fun x13 h13 hk=>?_;obtain ⟨EX13,HZ13⟩:=hk;have sz338:=EX13.1;have X339:=X210.trans EX13;have V3_340:=V3_211.ext EX13;have V11_341:=V11_212.ext EX13;have V22_342:=V22_213.ext EX13;have V35_343:=V35_214.ext EX13;have HD1_344:=HD1_215.ext EX13;have HD2_345:=HD2_216.ext EX13;have HQ_346:=HQ_217.ext EX13;have HR_347:=HR_218.ext EX13;have VX11_348:=VX11_219.ext EX13;have VX12_349:=VX12_220.ext EX13;have HD6_350:=HD6_221.ext EX13;have HD7_351:=HD7_222.ext EX13;have HD8_352:=HD8_223.ext EX13;have HD9_353:=HD9_224.ext EX13;obtain ⟨ng13,s13,L13,rfl,HD13,htl13,hlen13,hz13⟩:=HZ13.out;refine ⟨⟨VX11_348,VX12_349⟩,?_⟩;refine ACp ⟨VX11_348,VX12_349⟩ rfl (Ajp (⟨ng6,s6,L6,rfl,HD6_350,htl6,hlen6,hz6⟩:ZV _ _ _ _) (⟨ng13,s13,L13,rfl,HD13,htl13,hlen13,hz13⟩:ZV _ _ _ _) (by rw [show (sgn (!(na == nb)) (nv LQ)).natAbs=nv LQ from AJp rfl];omega) (by decide)) fun x14 h14 hk=>?_;obtain ⟨EX14,HZ14⟩:=hk;have sz354:=EX14.1;have X355:=X339.trans EX14;have V3_356:=V3_340.ext EX14;have V11_357:=V11_341.ext EX14;have V22_358:=V22_342.ext EX14;have V35_359:=V35_343.ext EX14;have HD1_360:=HD1_344.ext EX14;have HD2_361:=HD2_345.ext EX14;have HQ_362:=HQ_346.ext EX14;have HR_363:=HR_347.ext EX14;have VX11_364:=VX11_348.ext EX14;have VX12_365:=VX12_349.ext EX14;have HD6_366:=HD6_350.ext EX14;have HD7_367:=HD7_351.ext EX14;have HD8_368:=HD8_352.ext EX14;have HD9_369:=HD9_353.ext EX14;have HD13_370:=HD13.ext EX14;obtain ⟨ng14,s14,L14,rfl,HD14,htl14,hlen14,hz14⟩:=HZ14.out;refine ⟨⟨VX11_364,VX12_365⟩,?_⟩
      refine ACm ⟨?_,?_⟩
      · skip
        refine AEy [.bool ng9,s9] ACq rfl rfl ⟨VX11_364,VX12_365⟩ (fun h' hb=>hb.2.agg) ?_;refine ADn [.bool ng14,s14] ACq rfl rfl rfl rfl (AJb HD14.cap) V22_358 fun h371 V22_372 U373=>?_;have X374:=X355.thenUpd U373 (fun k hk=>by have hk2:k=bq20:=hk;omega);have sz375:=U373.1;have V3_376:=V3_356.upd U373 (fun he=>nebq1bq20 (he:bq1=bq20));have V11_377:=V11_357.upd U373 (fun he=>nebq9bq20 (he:bq9=bq20));have V35_378:=V35_359.upd U373 (fun he=>(Ne.symm nebq20bq33) (he:bq33=bq20));have HD1_379:=HD1_360.updT U373 V22_358 rfl;have HD2_380:=HD2_361.updT U373 V22_358 rfl;have HQ_381:=HQ_362.updT U373 V22_358 rfl;have HR_382:=HR_363.updT U373 V22_358 rfl;have VX11_383:=VX11_364.upd U373 (fun he=>(Ne.symm nebq20b11) (he:b11=bq20));have VX12_384:=VX12_365.upd U373 (fun he=>(Ne.symm nebq20b12) (he:b12=bq20));have HD6_385:=HD6_366.updT U373 V22_358 rfl;have HD7_386:=HD7_367.updT U373 V22_358 rfl;have HD8_387:=HD8_368.updT U373 V22_358 rfl;have HD9_388:=HD9_369.updT U373 V22_358 rfl;have HD13_389:=HD13_370.updT U373 V22_358 rfl;have HD14_390:=HD14.updT U373 V22_358 rfl;refine ADn [.bool ng9,s9] ACq rfl rfl rfl rfl (AJb HD9_388.cap) V35_378 fun h391 V35_392 U393=>?_;have X394:=X374.thenUpd U393 (fun k hk=>by have hk2:k=bq33:=hk;omega);have sz395:=U393.1;have V3_396:=V3_376.upd U393 (fun he=>nebq1bq33 (he:bq1=bq33));have V11_397:=V11_377.upd U393 (fun he=>nebq9bq33 (he:bq9=bq33));have V22_398:=V22_372.upd U393 (fun he=>nebq20bq33 (he:bq20=bq33));have HD1_399:=HD1_379.updT U393 V35_378 rfl;have HD2_400:=HD2_380.updT U393 V35_378 rfl;have HQ_401:=HQ_381.updT U393 V35_378 rfl;have HR_402:=HR_382.updT U393 V35_378 rfl;have VX11_403:=VX11_383.upd U393 (fun he=>(Ne.symm nebq33b11) (he:b11=bq33));have VX12_404:=VX12_384.upd U393 (fun he=>(Ne.symm nebq33b12) (he:b12=bq33));have HD6_405:=HD6_385.updT U393 V35_378 rfl;have HD7_406:=HD7_386.updT U393 V35_378 rfl;have HD8_407:=HD8_387.updT U393 V35_378 rfl;have HD9_408:=HD9_388.updT U393 V35_378 rfl;have HD13_409:=HD13_389.updT U393 V35_378 rfl;have HD14_410:=HD14_390.updT U393 V35_378 rfl;refine ABq ?_;refine AP3 mx (by kernel_rfl) ?_;refine ABs (AB2 ?_);refine ⟨_,ARj ACq rfl rfl V22_398 ACq rfl rfl V35_392,?_⟩;have hk:=Adk (nb:=nb) hBz (by rw [<- hvr];exact AOd.1 (by assumption));have hbn: ¬ sgn nb (nv LB) < 0:=fun hh=>absurd (AOd.2 (by rw [hzb];exact hh):AHs b < 0) (by omega);exact ⟨X394,_,_,rfl,⟨ng14,s14,L14,rfl,HD14_410.mono (by omega),htl14,hlen14,by rw [<- hz14,hza,hzb,hk.2.2 hbn,hvq]⟩,⟨ng9,s9,L9,rfl,HD9_408.mono (by omega),htl9,hlen9,by rw [<- hz9,hza,hzb,hk.1,hvr,hv2];rfl⟩⟩
      · skip
        refine ADn [.bool ng14,s14] ACq rfl rfl rfl rfl (AJb HD14.cap) V22_358 fun h411 V22_412 U413=>?_;have X414:=X355.thenUpd U413 (fun k hk=>by have hk2:k=bq20:=hk;omega);have sz415:=U413.1;have V3_416:=V3_356.upd U413 (fun he=>nebq1bq20 (he:bq1=bq20));have V11_417:=V11_357.upd U413 (fun he=>nebq9bq20 (he:bq9=bq20));have V35_418:=V35_359.upd U413 (fun he=>(Ne.symm nebq20bq33) (he:bq33=bq20));have HD1_419:=HD1_360.updT U413 V22_358 rfl;have HD2_420:=HD2_361.updT U413 V22_358 rfl;have HQ_421:=HQ_362.updT U413 V22_358 rfl;have HR_422:=HR_363.updT U413 V22_358 rfl;have VX11_423:=VX11_364.upd U413 (fun he=>(Ne.symm nebq20b11) (he:b11=bq20));have VX12_424:=VX12_365.upd U413 (fun he=>(Ne.symm nebq20b12) (he:b12=bq20));have HD6_425:=HD6_366.updT U413 V22_358 rfl;have HD7_426:=HD7_367.updT U413 V22_358 rfl;have HD8_427:=HD8_368.updT U413 V22_358 rfl;have HD9_428:=HD9_369.updT U413 V22_358 rfl;have HD13_429:=HD13_370.updT U413 V22_358 rfl;have HD14_430:=HD14.updT U413 V22_358 rfl;refine AEy [.bool ng9,s9] ACq rfl rfl ⟨VX11_423,VX12_424⟩ (fun h' hb=>hb.2.agg) ?_;refine ADn [.bool ng9,s9] ACq rfl rfl rfl rfl (AJb HD9_428.cap) V35_418 fun h431 V35_432 U433=>?_;have X434:=X414.thenUpd U433 (fun k hk=>by have hk2:k=bq33:=hk;omega);have sz435:=U433.1;have V3_436:=V3_416.upd U433 (fun he=>nebq1bq33 (he:bq1=bq33));have V11_437:=V11_417.upd U433 (fun he=>nebq9bq33 (he:bq9=bq33));have V22_438:=V22_412.upd U433 (fun he=>nebq20bq33 (he:bq20=bq33));have HD1_439:=HD1_419.updT U433 V35_418 rfl;have HD2_440:=HD2_420.updT U433 V35_418 rfl;have HQ_441:=HQ_421.updT U433 V35_418 rfl;have HR_442:=HR_422.updT U433 V35_418 rfl;have VX11_443:=VX11_423.upd U433 (fun he=>(Ne.symm nebq33b11) (he:b11=bq33));have VX12_444:=VX12_424.upd U433 (fun he=>(Ne.symm nebq33b12) (he:b12=bq33));have HD6_445:=HD6_425.updT U433 V35_418 rfl;have HD7_446:=HD7_426.updT U433 V35_418 rfl;have HD8_447:=HD8_427.updT U433 V35_418 rfl;have HD9_448:=HD9_428.updT U433 V35_418 rfl;have HD13_449:=HD13_429.updT U433 V35_418 rfl;have HD14_450:=HD14_430.updT U433 V35_418 rfl;refine ABq ?_;refine AP3 mx (by kernel_rfl) ?_;refine ABs (AB2 ?_);refine ⟨_,ARj ACq rfl rfl V22_438 ACq rfl rfl V35_432,?_⟩;have hk:=Adk (nb:=nb) hBz (by rw [<- hvr];exact AOd.1 (by assumption));have hbn: ¬ sgn nb (nv LB) < 0:=fun hh=>absurd (AOd.2 (by rw [hzb];exact hh):AHs b < 0) (by omega);exact ⟨X434,_,_,rfl,⟨ng14,s14,L14,rfl,HD14_450.mono (by omega),htl14,hlen14,by rw [<- hz14,hza,hzb,hk.2.2 hbn,hvq]⟩,⟨ng9,s9,L9,rfl,HD9_448.mono (by omega),htl9,hlen9,by rw [<- hz9,hza,hzb,hk.1,hvr,hv2];rfl⟩⟩
  · skip
    refine ABp ?_;refine Afb rfl ?_;refine AP3 mx (by kernel_rfl) ?_;refine ABt (q_t ?_);refine ANz ?_;refine Adj (B:=fun _=>True) false [0] 1 2 [3,4] mx (by kernel_rfl) (by kernel_rfl) rfl rfl (.cons rfl .nil) (.cons rfl (.cons rfl .nil)) ?_
    refine AHm [.bool ng6,s6] ACq rfl rfl VX11_147.agg (ACm ⟨?_,?_⟩)
    · skip
      refine AHm [.bool ng7,s7] ACq rfl rfl VX12_148.agg (ADn [.bool ng6,s6] ACq rfl rfl rfl rfl (AJb HD6_149.cap) V22_141 fun h451 V22_452 U453=>?_);have X454:=X138.thenUpd U453 (fun k hk=>by have hk2:k=bq20:=hk;omega);have sz455:=U453.1;have V3_456:=V3_139.upd U453 (fun he=>nebq1bq20 (he:bq1=bq20));have V11_457:=V11_140.upd U453 (fun he=>nebq9bq20 (he:bq9=bq20));have V35_458:=V35_142.upd U453 (fun he=>(Ne.symm nebq20bq33) (he:bq33=bq20));have HD1_459:=HD1_143.updT U453 V22_141 rfl;have HD2_460:=HD2_144.updT U453 V22_141 rfl;have HQ_461:=HQ_145.updT U453 V22_141 rfl;have HR_462:=HR_146.updT U453 V22_141 rfl;have VX11_463:=VX11_147.upd U453 (fun he=>(Ne.symm nebq20b11) (he:b11=bq20));have VX12_464:=VX12_148.upd U453 (fun he=>(Ne.symm nebq20b12) (he:b12=bq20));have HD6_465:=HD6_149.updT U453 V22_141 rfl;have HD7_466:=HD7_150.updT U453 V22_141 rfl;refine ADn [.bool ng7,s7] ACq rfl rfl rfl rfl (AJb HD7_466.cap) V35_458 fun h467 V35_468 U469=>?_;have X470:=X454.thenUpd U469 (fun k hk=>by have hk2:k=bq33:=hk;omega);have sz471:=U469.1;have V3_472:=V3_456.upd U469 (fun he=>nebq1bq33 (he:bq1=bq33));have V11_473:=V11_457.upd U469 (fun he=>nebq9bq33 (he:bq9=bq33));have V22_474:=V22_452.upd U469 (fun he=>nebq20bq33 (he:bq20=bq33));have HD1_475:=HD1_459.updT U469 V35_458 rfl;have HD2_476:=HD2_460.updT U469 V35_458 rfl;have HQ_477:=HQ_461.updT U469 V35_458 rfl;have HR_478:=HR_462.updT U469 V35_458 rfl;have VX11_479:=VX11_463.upd U469 (fun he=>(Ne.symm nebq33b11) (he:b11=bq33));have VX12_480:=VX12_464.upd U469 (fun he=>(Ne.symm nebq33b12) (he:b12=bq33));have HD6_481:=HD6_465.updT U469 V35_458 rfl;have HD7_482:=HD7_466.updT U469 V35_458 rfl;refine ABq ?_;refine AP3 mx (by kernel_rfl) ?_;refine ABs ?_;refine ⟨_,ARj ACq rfl rfl V22_474 ACq rfl rfl V35_468,?_⟩;have hk:=Aon (na:=na) (nb:=nb) (A:=nv LA) hBz (fun hh=>absurd (AOd.2 (by rw [hvr];exact hh):AHs (sgn na (nv LR)) < 0) (by omega));exact ⟨X470,_,_,rfl,⟨ng6,s6,L6,rfl,HD6_481.mono (by omega),htl6,hlen6,by rw [<- hz6,hza,hzb,hk.1,hvq]⟩,⟨ng7,s7,L7,rfl,HD7_482.mono (by omega),htl7,hlen7,by rw [<- hz7,hza,hzb,hk.2,hvr]⟩⟩
    · skip
      refine ADn [.bool ng6,s6] ACq rfl rfl rfl rfl (AJb HD6_149.cap) V22_141 fun h483 V22_484 U485=>?_;have X486:=X138.thenUpd U485 (fun k hk=>by have hk2:k=bq20:=hk;omega);have sz487:=U485.1;have V3_488:=V3_139.upd U485 (fun he=>nebq1bq20 (he:bq1=bq20));have V11_489:=V11_140.upd U485 (fun he=>nebq9bq20 (he:bq9=bq20));have V35_490:=V35_142.upd U485 (fun he=>(Ne.symm nebq20bq33) (he:bq33=bq20));have HD1_491:=HD1_143.updT U485 V22_141 rfl;have HD2_492:=HD2_144.updT U485 V22_141 rfl;have HQ_493:=HQ_145.updT U485 V22_141 rfl;have HR_494:=HR_146.updT U485 V22_141 rfl;have VX11_495:=VX11_147.upd U485 (fun he=>(Ne.symm nebq20b11) (he:b11=bq20));have VX12_496:=VX12_148.upd U485 (fun he=>(Ne.symm nebq20b12) (he:b12=bq20));have HD6_497:=HD6_149.updT U485 V22_141 rfl;have HD7_498:=HD7_150.updT U485 V22_141 rfl;refine AHm [.bool ng7,s7] ACq rfl rfl VX12_496.agg (ADn [.bool ng7,s7] ACq rfl rfl rfl rfl (AJb HD7_498.cap) V35_490 fun h499 V35_500 U501=>?_);have X502:=X486.thenUpd U501 (fun k hk=>by have hk2:k=bq33:=hk;omega);have sz503:=U501.1;have V3_504:=V3_488.upd U501 (fun he=>nebq1bq33 (he:bq1=bq33));have V11_505:=V11_489.upd U501 (fun he=>nebq9bq33 (he:bq9=bq33));have V22_506:=V22_484.upd U501 (fun he=>nebq20bq33 (he:bq20=bq33));have HD1_507:=HD1_491.updT U501 V35_490 rfl;have HD2_508:=HD2_492.updT U501 V35_490 rfl;have HQ_509:=HQ_493.updT U501 V35_490 rfl;have HR_510:=HR_494.updT U501 V35_490 rfl;have VX11_511:=VX11_495.upd U501 (fun he=>(Ne.symm nebq33b11) (he:b11=bq33));have VX12_512:=VX12_496.upd U501 (fun he=>(Ne.symm nebq33b12) (he:b12=bq33));have HD6_513:=HD6_497.updT U501 V35_490 rfl;have HD7_514:=HD7_498.updT U501 V35_490 rfl;refine ABq ?_;refine AP3 mx (by kernel_rfl) ?_;refine ABs ?_;refine ⟨_,ARj ACq rfl rfl V22_506 ACq rfl rfl V35_500,?_⟩;have hk:=Aon (na:=na) (nb:=nb) (A:=nv LA) hBz (fun hh=>absurd (AOd.2 (by rw [hvr];exact hh):AHs (sgn na (nv LR)) < 0) (by omega));exact ⟨X502,_,_,rfl,⟨ng6,s6,L6,rfl,HD6_513.mono (by omega),htl6,hlen6,by rw [<- hz6,hza,hzb,hk.1,hvq]⟩,⟨ng7,s7,L7,rfl,HD7_514.mono (by omega),htl7,hlen7,by rw [<- hz7,hza,hzb,hk.2,hvr]⟩⟩
end Go.Proofs.YtiegjkmfpcgjjaaGreatDoor
namespace Go.Proofs.YtiegjkmfpcgjjaaGreatDoor
open Go Go.QF
theorem Aop:ZeT Tryz.prog 112 (.slice none 0 0) 24:=ATk (by kernel_rfl)
theorem AJq:FdT Tryz.prog 76 0 0 24:=⟨_,_,Tryz.underlying76,rfl,rfl,rfl⟩
theorem AEa:FdT Tryz.prog 76 1 1 3:=⟨_,_,Tryz.underlying76,rfl,rfl,rfl⟩
end Go.Proofs.YtiegjkmfpcgjjaaGreatDoor
namespace Go.QF
open Go
theorem Ar8 (a b:Int):Acn .lss a b=some (decide (a < b)):=rfl
theorem Ar9 (a b:Int):Acn .leq a b=some (decide (a<=b)):=rfl
theorem Asa (a b:Int):Acn .gtr a b=some (decide (b < a)):=rfl
theorem Asb (a b:Int):Acn .geq a b=some (decide (b<=a)):=rfl
theorem Asd (a b:Int):Acn .eql a b=some (decide (a=b)):=by
 show some _=some _;rw [show (a == b)=decide (a=b) from by rw [Bool.eq_iff_iff];simp]
theorem Ase (a b:Int):Acn .neq a b=some (decide (¬ a=b)):=by
 show some (a != b)=some _;rw [show (a != b)=decide (¬ a=b) from by rw [Bool.eq_iff_iff];simp]
theorem Aoq {α:Type} (c:Cod α) (h:ABj):AFo c h (.slice none 0 0) []:=⟨APp,[],Ac1 h 1,rfl,fun i r L hr=>by simp at hr⟩
theorem AFh.rowG {α:Type} {c:Cod α} {er el:Nat} {h:ABj} {F:List Nat} {Gs:List (List Nat)} {rs:List Value} {v:Value} {M:List (List α)} (H:AFh c er el h F Gs rs v M) {i:Int} {L:List α} (hL:gI M i=some L):∃ G,Gs[i.toNat]? =some G/\(∀ x∈G,x∈F)/\(∀ x∈G,AQz h x)/\ ∀ b,F=b :: Gs.flatten->b ∉ G:=by
 have hnd:=H.notD;have hn:=H.nodup;obtain ⟨n,rfl,hL⟩:=AJ1 hL;obtain ⟨b,r,hF,h2,hr,hm⟩:=AVw H hL;obtain ⟨G,hG,HR,hGF⟩:=H.row hr hL;refine ⟨G,hG,hGF,fun x hx=>hnd x (hGF x hx),fun b' hb' hm'=>?_⟩;rw [hb'] at hn;exact (List.nodup_cons.1 hn).1 (AFp hG hm')
def swp (i j k:Nat):Nat:=if k=i then j else if k=j then i else k
theorem Asf {i j k l:Nat} (h:swp i j k=swp i j l):k=l:=by
 unfold swp at h;split at h <;> split at h <;> (try split at h) <;> (try split at h) <;> omega
theorem AZv {β:Type} {L:List β} {i j:Nat} {a b:β} (ha:L[i]? =some a) (hb:L[j]? =some b) (k:Nat):((L.set i b).set j a)[k]? =L[swp i j k]? :=by
 have hi:=(List.getElem?_eq_some_iff.1 ha).1;have hj:=(List.getElem?_eq_some_iff.1 hb).1;unfold swp;by_cases h1:k=j
 ·subst h1;rw [List.getElem?_set_self (by rw [List.length_set];exact hj)];by_cases h2:k=i
  ·subst h2;rw [if_pos rfl];rw [<- ha]
  ·rw [if_neg h2,if_pos rfl,ha]
 ·rw [List.getElem?_set_ne (fun h=>h1 h.symm)];by_cases h2:k=i
  ·subst h2;rw [List.getElem?_set_self hi,if_pos rfl,hb]
  ·rw [List.getElem?_set_ne (fun h=>h2 h.symm),if_neg h2,if_neg h1]
theorem Afc:∀ {Gs:List (List Nat)},(∀ (i:Nat) (G:List Nat),Gs[i]? =some G->G.Nodup)->(∀ (i j:Nat) (G H:List Nat),i≠j->Gs[i]? =some G->Gs[j]? =some H-> ∀ x∈G,x ∉ H)->Gs.flatten.Nodup:=by
 intro Gs
 induction Gs with
 | nil=>intro _ _;simp
 | cons G Gs ih=>
   intro h1 h2
   rw [List.flatten_cons]
   refine List.nodup_append.2 ⟨h1 0 G rfl,ih (fun i H hi=>h1 (i + 1) H (by simpa using hi)) (fun i j A B hij hA hB=>h2 (i + 1) (j + 1) A B (by omega) (by simpa using hA) (by simpa using hB)),fun x hx y hy he=>?_⟩
   obtain ⟨H,hH,hyH⟩:=List.mem_flatten.1 hy
   obtain ⟨j,hj⟩:=List.getElem?_of_mem hH
   exact h2 0 (j + 1) G H (by omega) rfl (by simpa using hj) x hx (he ▸ hyH)
section
variable {P:Program} {B:ABj->Prop} {st:Bool} {ops:Array Oper} {rest:List Oper} {e:Env} {h:ABj} {K:Env->ABj->Prop}
variable {d d' d2:Nat} {ty ty' ty2 ty3:TypeId} {pos pos' pos2 pos3:String} {af af' af2 af3:Array Edge}
theorem Alx {α:Type} {c:Cod α} {s y x i:Operand} {t er0 er el bytes tr tl:Nat} {z v r:Value} {κ:IntKind} {n:Int} {F G:List Nat} {Gs:List (List Nat)} {rs:List Value} {M:List (List α)} {L:List α} {a:α} {cs:List Value} (hT:SlT P t el c.k) (hz:ZeT P el z bytes) (hzk:z.cells.size=c.k) (hel:Nat.beq el 147=false) (hTr:SlT P tr er0 1) (htl:NaT P tl)
    (HO:AFh c er el h F Gs rs v M) (hr:rs[n.toNat]? =some r) (hL:gI M n=some L) (hG:Gs[n.toNat]? =some G) (hb0:B h) (hbB:∀ h',UpT G h h'->B h') (hs:∀ p,(e.set d p).ev s=r) (hy:e.ev y=c.val cs) (hrep:c.rep h a cs) (hx:∀ p w,((e.set d p).set d' w).ev x=v) (hi:∀ p w,((e.set d p).set d' w).ev i= .int κ n) (hdd:Nat.beq d' d2=false) (hby:bytes<=1000) (hl:L.length<=100000000)
    (H:∀ p q F' Gs' rs' v' h',AFh c er el h' F' Gs' rs' v (sI M n (L ++ [a]))->UpT F h h'->(∀ x∈F',x∈F∨h.size<=x)->RL P B st ops rest (((e.set d p).set d' v').set d2 q) h' K):
    RL P B st ops (⟨some d,.buildSlice t 1 #[(0,y)],ty,pos,af,none⟩ :: ⟨some d',.call ⟨.builtin .append,#[s,.tmp d],#[t,t]⟩,ty',pos',af',none⟩ :: ⟨some d2,.indexAddr tr x i,ty2,pos2,af2,none⟩ :: ⟨none,.store tl (.tmp d2) (.tmp d'),ty3,pos3,af3,none⟩ :: rest) e h K:=by
  obtain ⟨m,rfl,hL0⟩:=AJ1 hL;rw [Int.toNat_natCast] at hr hG;have hnd:=HO.notD;have hlt:=HO.lt;have hn:=HO.nodup;obtain ⟨b,r0,hFb,hb2,hr0,hm⟩:=AVw HO hL0;obtain ⟨G',hG',HR,hGF⟩:=HO.row hr hL0;rw [hG] at hG';injection hG' with hG';subst hG';have hbG:b ∉ G:=fun hm'=>by rw [hFb] at hn;exact (List.nodup_cons.1 hn).1 (AFp hG hm')
  refine AOc hT hz hzk hel hb0 hbB hs hy hrep HR hby hl fun p F1 v1 h1 HR1 U1 hF1=>?_;have HO':=HO
  rcases HO' with ⟨rfl,_⟩ | ⟨b',hF',_,h2,h3,h4,h5,h6⟩
  · simp at hL0
  rw [hFb] at hF';injection hF' with hF';subst hF';have h21:=h2.upd (S:=(· ∈G)) U1.1 hbG;have hml:m < M.length:=(List.getElem?_eq_some_iff.1 hL0).1;refine AVv (er:=er) (n:=m) hTr (hx p v1) h21 (hi p v1) (by simpa using hm) ?_;rw [Nat.mul_one]
  have hd1:((((e.set d p).set d' v1).set d2 (.pointer (some ⟨b,m,none⟩))).ev (.tmp d'))=v1:=by
    show (bif Nat.beq d' d2 then _ else (bif Nat.beq d' d' then _ else _))=_;rw [hdd,Nat.beq_eq.mpr rfl];rfl
  have hd2:((((e.set d p).set d' v1).set d2 (.pointer (some ⟨b,m,none⟩))).ev (.tmp d2))= .pointer (some ⟨b,m,none⟩):=Env.set_same _ _ _;refine (AGf (n:=m) (el:=er) (g:=b) htl (by rw [Nat.mul_one];exact hd2) hd1 HR1.isOne) v _ h21 (by simpa using hm) fun h' hS hU=>?_;have h22:=hS v _ h21 (by simpa using hm);have hnd1:∀ x∈F,AQz h1 x:=fun x hx=>(hnd x hx).of U1;have U2:UpT [b] h1 h':=ASb hU (by simp) (fun x hx _=>hnd1 x (by rw [List.mem_singleton.1 hx,hFb];simp)) (h22.notD h3);have UF:UpT F h h':=(U1.mono hGF fun x hx _=>hnd x hx).then U2 fun x hx=> .inl (by rw [List.mem_singleton.1 hx,hFb];simp)
  have hbF1:b ∉ F1:=fun hm'=>by
    rcases hF1 b hm' with h7 | h7
    · exact hbG h7
    · have:=hlt b (by rw [hFb];simp);omega
  have hsub:∀ x∈b :: (Gs.set m F1).flatten,x∈F∨h.size<=x:=by
    intro z hz
    rcases List.mem_cons.1 hz with rfl | hz
    · exact .inl (by simp [hFb])
    · rcases AKn hz with h7 | ⟨j,G2,_,hG2,hz⟩
      · rcases hF1 z h7 with h8 | h8
        · exact .inl (hGF z h8)
        · exact .inr h8
      · exact .inl (by rw [hFb];exact List.mem_cons_of_mem _ (AFp hG2 hz))
  have hn2:=hn;rw [hFb] at hn2;have hnf:=List.nodup_cons.1 hn2
  refine H p _ (b :: (Gs.set m F1).flatten) (Gs.set m F1) (rs.set m v1) v1 h' (.inr ⟨b,rfl,?_,by rw [List.map_set];exact h22,h3,by simp [sI,h4],by simp [sI,h5],fun i' G2 r2 L2 hGi hri hLi=>?_⟩) UF hsub
  · refine List.nodup_cons.2 ⟨fun hz=>?_,ANd hnf.2 HR1.nodup fun z hz j G2 hj hG2 hzG=>?_⟩
    · rcases AKn hz with h7 | ⟨j,G2,_,hG2,hz⟩
      · exact hbF1 h7
      · exact hnf.1 (AFp hG2 hz)
    · rcases hF1 z hz with h7 | h7
      · exact Ae3 hnf.2 hG hG2 (fun he=>hj he.symm) z h7 hzG
      · have:=hlt z (by rw [hFb];exact List.mem_cons_of_mem _ (AFp hG2 hzG));omega
  · by_cases hii:i'=m
    · subst hii;rw [List.getElem?_set_self (by omega)] at hGi hri;simp only [sI,Int.toNat_natCast] at hLi;rw [List.getElem?_set_self (by omega)] at hLi;injection hGi with hGi;injection hri with hri;injection hLi with hLi;subst hGi;subst hri;subst hLi;exact HR1.upT U2 fun z hz hzb=>hbF1 (List.mem_singleton.1 hzb ▸ hz)
    · rw [List.getElem?_set_ne (fun he=>hii he.symm)] at hGi hri;simp only [sI,Int.toNat_natCast] at hLi;rw [List.getElem?_set_ne (fun he=>hii he.symm)] at hLi
      exact ((h6 i' G2 r2 L2 hGi hri hLi).upT U1 fun z hz hzG=>Ae3 hnf.2 hGi hG hii z hz hzG).upT U2 fun z hz hzb=>by
        rw [List.mem_singleton.1 hzb] at hz;exact hnf.1 (AFp hGi hz)
theorem AVa {α:Type} {c:Cod α} {x1 x2 y1 y2 i1 i2:Operand} {er er0 el tr tl:Nat} {v r1 r2:Value} {κ1 κ2:IntKind} {n1 n2:Int} {F:List Nat} {Gs:List (List Nat)} {rs:List Value} {M:List (List α)} {L1 L2:List α} (hTr:SlT P tr er0 1) (htl:NaT P tl) (HO:AFh c er el h F Gs rs v M) (hr1:rs[n1.toNat]? =some r1) (hr2:rs[n2.toNat]? =some r2) (hL1:gI M n1=some L1) (hL2:gI M n2=some L2)
    (hx1:e.ev x1=v) (hi1:e.ev i1= .int κ1 n1) (hy1:∀ p,(e.set d p).ev y1=r2) (hx2:∀ p,(e.set d p).ev x2=v) (hi2:∀ p,(e.set d p).ev i2= .int κ2 n2) (hy2:∀ p q,((e.set d p).set d' q).ev y2=r1)
    (H:∀ p q F' Gs' rs' h',AFh c er el h' F' Gs' rs' v (sI (sI M n1 L2) n2 L1)->UpT F h h'->(∀ x∈F',x∈F∨h.size<=x)->RL P B st ops rest ((e.set d p).set d' q) h' K):
    RL P B st ops (⟨some d,.indexAddr tr x1 i1,ty,pos,af,none⟩ :: ⟨none,.store tl (.tmp d) y1,ty',pos',af',none⟩ :: ⟨some d',.indexAddr tr x2 i2,ty2,pos2,af2,none⟩ :: ⟨none,.store tl (.tmp d') y2,ty3,pos3,af3,none⟩ :: rest) e h K:=by
  obtain ⟨m1,rfl,hM1⟩:=AJ1 hL1;obtain ⟨m2,rfl,hM2⟩:=AJ1 hL2;rw [Int.toNat_natCast] at hr1 hr2;have hnd:=HO.notD;have hlt:=HO.lt;have hn:=HO.nodup;have hm1:=(List.getElem?_eq_some_iff.1 hM1).1;have hm2:=(List.getElem?_eq_some_iff.1 hM2).1;obtain ⟨G1,hG1,HR1,hGF1⟩:=HO.row hr1 hM1;obtain ⟨G2,hG2,HR2,hGF2⟩:=HO.row hr2 hM2
  rcases HO with ⟨rfl,_⟩ | ⟨b,hF,_,h2,h3,h4,h5,h6⟩
  · simp at hM1
  rw [hF] at hn;have hnf:=List.nodup_cons.1 hn;refine AVv (er:=er) (n:=m1) hTr hx1 h2 hi1 (by rw [List.length_map];omega) ?_;rw [Nat.mul_one];refine (AGf (n:=m1) (el:=er) (g:=b) htl (by rw [Nat.mul_one];exact Env.set_same _ _ _) (hy1 _) HR2.isOne) v _ h2 (by rw [List.length_map];omega) fun h1 hS1 hU1=>?_;have h21:=hS1 v _ h2 (by rw [List.length_map];omega);refine AVv (er:=er) (n:=m2) hTr (hx2 _) h21 (hi2 _) (by rw [List.length_set,List.length_map];omega) ?_;rw [Nat.mul_one];refine (AGf (n:=m2) (el:=er) (g:=b) htl (by rw [Nat.mul_one];exact Env.set_same _ _ _) (hy2 _ _) HR1.isOne) v _ h21 (by rw [List.length_set,List.length_map];omega) fun h' hS2 hU2=>?_;have h22:=hS2 v _ h21 (by rw [List.length_set,List.length_map];omega);have N1:UpT [b] h h1:=ASb hU1 (by simp) (fun x hx _=>hnd x (by rw [List.mem_singleton.1 hx,hF];simp)) (h21.notD h3);have N2:UpT [b] h1 h':=ASb hU2 (by simp) (fun x hx hl=>((hnd x (by rw [List.mem_singleton.1 hx,hF];simp))).of N1) (h22.notD h3);have N:UpT [b] h h':=N1.then N2 fun x hx=> .inl hx;have UF:UpT F h h':=N.mono (fun x hx=>by rw [List.mem_singleton.1 hx,hF];simp) fun x hx _=>hnd x hx;have gG:=fun k=>AZv (L:=Gs) hG1 hG2 k;have gR:=fun k=>AZv (L:=rs) hr1 hr2 k;have gM:=fun k=>AZv (L:=M) hM1 hM2 k
  have hsub:∀ x∈b :: ((Gs.set m1 G2).set m2 G1).flatten,x∈F:=by
    intro z hz;rw [hF]
    rcases List.mem_cons.1 hz with rfl | hz
    · simp
    · obtain ⟨G,hG,hzG⟩:=List.mem_flatten.1 hz;obtain ⟨k,hk⟩:=List.getElem?_of_mem hG;rw [gG] at hk;exact List.mem_cons_of_mem _ (AFp hk hzG)
  refine H _ _ (b :: ((Gs.set m1 G2).set m2 G1).flatten) ((Gs.set m1 G2).set m2 G1) ((rs.set m1 r2).set m2 r1) h' (.inr ⟨b,rfl,?_,?_,h3,by simp [sI,h4],by simp [sI,h5],fun k G r L hG hr hL=>?_⟩) UF fun x hx=> .inl (hsub x hx)
  · refine List.nodup_cons.2 ⟨fun hz=>?_,Afc (fun k G hk=>?_) fun k l G G' hkl hk hl x hx hx'=>?_⟩
    · obtain ⟨G,hG,hzG⟩:=List.mem_flatten.1 hz;obtain ⟨k,hk⟩:=List.getElem?_of_mem hG;rw [gG] at hk;exact hnf.1 (AFp hk hzG)
    · rw [gG] at hk;have hkl:=(List.getElem?_eq_some_iff.1 hk).1;exact (h6 _ G (rs[swp m1 m2 k]'(by omega)) (M[swp m1 m2 k]'(by omega)) hk (List.getElem?_eq_getElem _) (List.getElem?_eq_getElem _)).nodup
    · rw [gG] at hk hl;exact Ae3 hnf.2 hk hl (fun he=>hkl (Asf he)) x hx hx'
  · have:(((rs.set m1 r2).set m2 r1).map fun r=>[r])=((rs.map fun r=>[r]).set m1 [r2]).set m2 [r1]:=by rw [List.map_set,List.map_set]
    rw [this];exact h22
  · simp only [sI,Int.toNat_natCast] at hL;rw [gG] at hG;rw [gR] at hr;rw [gM] at hL
    exact (h6 _ G r L hG hr hL).upT N fun x hx hxb=>by
      rw [List.mem_singleton.1 hxb] at hx;exact hnf.1 (AFp hG hx)
end
theorem AQ4 {a:Nat} {A B:List Nat} (h1:a ∉ A) (h2:a ∉ B):a ∉ A ++ B:=fun h=>by
  rcases List.mem_append.1 h with h | h
  · exact h1 h
  · exact h2 h
theorem AQ5 {a:Nat}:a ∉ ([]:List Nat):=by simp
theorem AFh.gmem {α:Type} {c:Cod α} {er el:Nat} {h:ABj} {F:List Nat} {Gs:List (List Nat)} {rs:List Value} {v:Value} {M:List (List α)} (H:AFh c er el h F Gs rs v M) {i g:Nat} (hG:Gs[i]? =some [g]):g∈F:=by
 rcases H with ⟨rfl,_,_,rfl,_⟩ | ⟨b,rfl,_⟩
 ·simp at hG
 ·exact List.mem_cons_of_mem _ (AFp hG (by simp))
theorem SlC.shape {α:Type} {c:Cod α} {h:ABj} {v:Value} {L:List α} (H:SlC c h v L):∃ a n cap,v= .slice a n cap:=by
 obtain ⟨Ls,⟨a,cap,rfl,_⟩,_⟩:=H;exact ⟨_,_,_,rfl⟩
def AEk:Nat:=4294967296 ^ 99
end Go.QF
namespace Go.Proofs.YtiegjkmfpcgjjaaGreatDoor
open Go Go.QF
section
variable {P:Program} {Q:Exit->Env->ABj->Prop} {K:Env->ABj->Prop} {e:Env} {h:ABj} {B:ABj->Prop} {st:Bool} {ops:Array Oper} {rest:List Oper} {d:Nat} {ty:TypeId} {pos:String} {af:Array Edge}
theorem cwf {f:FuncId} {fn:Func} {c:Code} {rs:List ResultVar} {l:List Value} {K:Value->ABj->Prop} (hf:Tryz.prog.funcs[f]? =some fn) (hb:fn.body=some c) (hr:fn.results=rs.toArray) (H:W Tryz.prog c (Arn Tryz.prog rs K) (Aax l) h) (hn:(fn.name == "runtime.NumGoroutine")=false:=by rfl) (hl:Nat.ble l.length fn.ntmps=true:=by rfl) (hok:okC fn.ntmps c=true:=by kernel_rfl):ACa Tryz.prog f l.toArray h K:=AC0 mx hf hn hb hr rfl hl hok H
theorem AJd {x:Operand} {t f off ft b o:Nat} (hf:FdT P t f off ft) (hx:e.ev x= .pointer (some ⟨b,o,none⟩)) (H:RL P B st ops rest (e.set d (.pointer (some ⟨b,o + off,none⟩))) h K) (hs:(P.info? ft).map (·.size)=some 1:=by kernel_rfl):RL P B st ops (⟨some d,.fieldAddr t x f,ty,pos,af,none⟩ :: rest) e h K:=AJz hf hs (by decide) hx H
theorem AC1 {x y:Operand} {t t2:TypeId} {k:IntKind} {a b:Int} (hx:e.ev x= .int k a) (hy:e.ev y= .int k b) (H:RL P B st ops rest (e.set d (.bool (decide (a < b)))) h K):RL P B st ops (⟨some d,.binOp .lss t x y t2,ty,pos,af,none⟩ :: rest) e h K:=AYx hx hy (Ar8 _ _) H
theorem AZw {x y:Operand} {t t2:TypeId} {k:IntKind} {a b:Int} (hx:e.ev x= .int k a) (hy:e.ev y= .int k b) (H:RL P B st ops rest (e.set d (.bool (decide (a<=b)))) h K):RL P B st ops (⟨some d,.binOp .leq t x y t2,ty,pos,af,none⟩ :: rest) e h K:=AYx hx hy (Ar9 _ _) H
theorem AJe {x y:Operand} {t t2:TypeId} {k:IntKind} {a b:Int} (hx:e.ev x= .int k a) (hy:e.ev y= .int k b) (H:RL P B st ops rest (e.set d (.bool (decide (b < a)))) h K):RL P B st ops (⟨some d,.binOp .gtr t x y t2,ty,pos,af,none⟩ :: rest) e h K:=AYx hx hy (Asa _ _) H
theorem ANe {x y:Operand} {t t2:TypeId} {k:IntKind} {a b:Int} (hx:e.ev x= .int k a) (hy:e.ev y= .int k b) (H:RL P B st ops rest (e.set d (.bool (decide (b<=a)))) h K):RL P B st ops (⟨some d,.binOp .geq t x y t2,ty,pos,af,none⟩ :: rest) e h K:=AYx hx hy (Asb _ _) H
theorem ADk {x y:Operand} {t t2:TypeId} {k:IntKind} {a b:Int} (hx:e.ev x= .int k a) (hy:e.ev y= .int k b) (H:RL P B st ops rest (e.set d (.bool (decide (a=b)))) h K):RL P B st ops (⟨some d,.binOp .eql t x y t2,ty,pos,af,none⟩ :: rest) e h K:=AYx hx hy (Asd _ _) H
theorem AHz {x y:Operand} {t t2:TypeId} {k:IntKind} {a b:Int} (hx:e.ev x= .int k a) (hy:e.ev y= .int k b) (H:RL P B st ops rest (e.set d (.bool (decide (¬ a=b)))) h K):RL P B st ops (⟨some d,.binOp .neq t x y t2,ty,pos,af,none⟩ :: rest) e h K:=AYx hx hy (Ase _ _) H
theorem ACw {f:FuncId} {xs:List Operand} {ts:Array TypeId} {l:List Value} {K':Value->ABj->Prop} (hxs:xs.map e.ev=l) (HC:ACa P f l.toArray h fun x h'=>Ext h h'/\K' x h')
    (H:∀ v h',Ext h h'->K' v h'->RL P (fun _=>True) st ops rest (e.set d v) h' K):RL P (fun _=>True) st ops (⟨some d,.call ⟨.value (.func f),xs.toArray,ts⟩,ty,pos,af,none⟩ :: rest) e h K:=ADd trivial (fun _ _=>trivial) hxs HC H
end
end Go.Proofs.YtiegjkmfpcgjjaaGreatDoor
namespace Go.Proofs.YtiegjkmfpcgjjaaGreatDoor
open Go Go.QF
set_option maxRecDepth 100000
def Ajv (fuel:Nat) (a b:Int):Option Int:=if a.natAbs < AEk/\b.natAbs < AEk then some (a + b) else none
def Aup (fuel:Nat) (a b:Int):Option Int:=if a.natAbs < AEk/\b.natAbs < AEk then some (a - b) else none
def AQr (fuel:Nat) (a b:Int):Option Int:=if a.natAbs * b.natAbs < AEk then some (a * b) else none
def Afd (fuel:Nat) (a:Int):Option Int:=some (-a)
def AQs (fuel:Nat) (a:Int):Option Int:=some a
def ALk (fuel:Nat) (a:Int):Option Int:=if -9223372036854775808<=a/\a<=9223372036854775807 then some a else none
def AWy (fuel:Nat) (a:Int):Option Int:=some (AHs a)
def Adl (fuel:Nat) (a:Int):Option (Int × Bool):=if a.natAbs < 9223372036854775808 then some (a,true) else none
theorem Avv {n:Nat} (h:n < AEk):n < 4294967296 ^ 100:=Nat.lt_trans h (Nat.pow_lt_pow_right (by decide) (by decide))
theorem Ahy {fuel:Nat} {h:ABj} {u v:Value} {a b r:Int} (H1:ZZ h u a) (H2:ZZ h v b) (hp:Ajv fuel a b=some r):ACa Tryz.prog 122 #[u,v] h (fun x h'=>Ext h h'/\ ∃ (x0:Value),x=x0/\ZZ h' x0 r):=by
 obtain ⟨⟨h1,h2⟩,hp⟩:=ifN hp;cases hp;exact (AYc H1 H2 h1 h2).mono fun x h' hk=>⟨hk.1,x,rfl,hk.2.zz⟩
theorem Avw {fuel:Nat} {h:ABj} {u v:Value} {a b r:Int} (H1:ZZ h u a) (H2:ZZ h v b) (hp:Aup fuel a b=some r):ACa Tryz.prog 111 #[u,v] h (fun x h'=>Ext h h'/\ ∃ (x0:Value),x=x0/\ZZ h' x0 r):=by
 obtain ⟨⟨h1,h2⟩,hp⟩:=ifN hp;cases hp;exact (Ajp H1 H2 h1 h2).mono fun x h' hk=>⟨hk.1,x,rfl,hk.2.zz⟩
theorem AOw {fuel:Nat} {h:ABj} {u v:Value} {a b r:Int} (H1:ZZ h u a) (H2:ZZ h v b) (hp:AQr fuel a b=some r):ACa Tryz.prog 112 #[u,v] h (fun x h'=>Ext h h'/\ ∃ (x0:Value),x=x0/\ZZ h' x0 r):=by
 obtain ⟨h1,hp⟩:=ifN hp;cases hp;exact (Ar6 H1 H2 (Avv h1)).mono fun x h' hk=>⟨hk.1,x,rfl,hk.2.zz⟩
theorem Adm {fuel:Nat} {h:ABj} {u:Value} {a r:Int} (H1:ZZ h u a) (hp:Afd fuel a=some r):ACa Tryz.prog 91 #[u] h (fun x h'=>Ext h h'/\ ∃ (x0:Value),x=x0/\ZZ h' x0 r):=by
 cases hp;exact (Ajo H1).mono fun x h' hk=>⟨hk.1,x,rfl,hk.2.zz⟩
theorem ASe {fuel:Nat} {h:ABj} {u:Value} {a r:Int} (H1:ZZ h u a) (hp:AQs fuel a=some r):ACa Tryz.prog 87 #[u] h (fun x h'=>Ext h h'/\ ∃ (x0:Value),x=x0/\ZZ h' x0 r):=by
 cases hp;exact (Aa6 H1).mono fun x h' hk=>⟨hk.1,x,rfl,hk.2.zz⟩
theorem AJ6 {fuel:Nat} {h:ABj} {a r:Int} (hp:ALk fuel a=some r):ACa Tryz.prog 86 #[.int .i64 a] h (fun x h'=>Ext h h'/\ ∃ (x0:Value),x=x0/\ZZ h' x0 r):=by
 obtain ⟨h1,hp⟩:=ifN hp;cases hp;exact (AWx h1 h).mono fun x h' hk=>⟨hk.1,x,rfl,hk.2.zz⟩
theorem AV1 {fuel:Nat} {h:ABj} {u:Value} {a r:Int} (H1:ZZ h u a) (hp:AWy fuel a=some r):ACa Tryz.prog 107 #[u] h (fun x h'=>Ext h h'/\x= .int .i64 r):=by
 cases hp;exact ATp H1
theorem Afe {fuel:Nat} {h:ABj} {u:Value} {a:Int} {r:Int × Bool} (H1:ZZ h u a) (hp:Adl fuel a=some r):ACa Tryz.prog 98 #[u] h (fun x h'=>Ext h h'/\x= .tuple #[.int .i64 r.1,.bool r.2]):=by
 obtain ⟨h1,hp⟩:=ifN hp;cases hp;exact Als H1 h1
def AV2 (fuel:Nat) (a b:Int):Option (Int × Int × Bool):=if a.natAbs < AEk/\b.natAbs < AEk/\b≠0 then some (a / b,a % b,true) else none
theorem Abp {fuel:Nat} {h:ABj} {u v:Value} {a b:Int} {r:Int × Int × Bool} (H1:ZZ h u a) (H2:ZZ h v b) (hp:AV2 fuel a b=some r):ACa Tryz.prog 126 #[u,v] h (fun x h'=>Ext h h'/\ ∃ (x0:Value) (x1:Value),x= .tuple #[x0,x1,.bool r.2.2]/\ZZ h' x0 r.1/\ZZ h' x1 r.2.1):=by
 obtain ⟨⟨h1,h2,h3⟩,hp⟩:=ifN hp;cases hp;exact (Ahx H1 H2 h1 h2 h3).mono fun x h' ⟨E,q,r,hx,hq,hr⟩=>⟨E,q,r,hx,hq.zz,hr.zz⟩
end Go.Proofs.YtiegjkmfpcgjjaaGreatDoor
namespace Go.QF
open Go
section
variable {P:Program} {B:ABj->Prop} {st:Bool} {ops:Array Oper} {rest:List Oper} {e:Env} {h:ABj} {K:Env->ABj->Prop}
variable {d d':Nat} {ty ty':TypeId} {pos pos':String} {af af':Array Edge}
theorem Aor {α:Type} {c:Cod α} {s x:Operand} {t el bytes:Nat} {z xv:Value} {L:List α} (hT:SlT P t el c.k) (hz:ZeT P el z bytes) (hzk:z.cells.size=c.k) (hel:Nat.beq el 147=false) (hb:B h) (hBE:∀ h',Ext h h'->B h') (hs:e.ev s= .slice none 0 0) (hx:e.ev x=xv) (HX:SlC c h xv L) (hby:bytes<=1000) (hl:L.length<=100000000)
    (H:∀ F v' h',OwC c el h' F v' L->Ext h h'->Sp h' h.size [F]->RL P B st ops rest (e.set d v') h' K):
    RL P B st ops (⟨some d,.call ⟨.builtin .append,#[s,x],#[t,t]⟩,ty,pos,af,none⟩ :: rest) e h K:=by
  obtain ⟨Ls,⟨xa,xc,rfl,hxc⟩,HA⟩:=HX;refine APa rfl rfl hb fun w hw=>?_;subst hw;obtain ⟨hu,i0,hi0,hs0⟩:=hT;obtain ⟨i,hi,hzz,hsz,hbyy⟩:=hz;rw [hi] at hi0;injection hi0 with hi0;subst hi0
  by_cases hL:Ls=[]
  · subst hL;have hLn:L=[]:=by have:=HA.1;exact List.eq_nil_of_length_eq_zero this.symm
    subst hLn
    have hrun:(execOp e.ev ⟨some d,.call ⟨.builtin .append,#[s,x],#[t,t]⟩,ty,pos,af,none⟩).run P w= .ok (.value (.slice none 0 0)) w:=by
      have hc:(Builtin.firstCells i.size 0 (.slice xa 0 xc)).run P w= .ok #[] w:=by
        cases xa with
        | none=>exact run_firstCells_none (P:=P) w _ 0 0 xc
        | some a=>exact run_firstCells_some (P:=P) w i.size 0 a 0 xc [] (by simp) (fun j v hj=>by simp at hj)
      simp only [List.length_nil] at hx;simp [execOp,resolve,invoke,builtin,hs,hx,Builtin.append_,AM4 hu,APv hi,Builtin.lenOf,hc]
    rw [hrun];exact ⟨⟨rfl,rfl,rfl⟩,hb,H [] _ _ (Ac6 c el _) (Ext.refl _) ⟨by simp,fun b hb=>by simp at hb⟩⟩
  · have hlen:0 < Ls.length:=List.length_pos_iff.2 hL
    have hk:∀ r∈Ls,r.length=c.k:=fun r hr=>by
      obtain ⟨q,hq⟩:=List.getElem?_of_mem hr;have hql:=(List.getElem?_eq_some_iff.1 hq).1;exact c.klen (HA.2 q r (L[q]'(by rw [<- HA.1];exact hql)) hq (List.getElem?_eq_getElem _))
    obtain ⟨r0,hr0⟩:∃ r0,Ls[0]? =some r0:=⟨Ls[0],List.getElem?_eq_getElem _⟩;obtain ⟨b,o,rfl,_⟩:=hxc 0 r0 hr0
    have hnews:∀ q u,Ls.flatten[q]? =some u->w.cell? ((⟨b,o,none⟩:Addr).add q)=some u:=fun q u hq=>by
      have hqk:q / c.k < Ls.length:=by
        have hq':=(List.getElem?_eq_some_iff.1 hq).1;rw [AJ3 hk] at hq';exact Nat.div_lt_of_lt_mul (by rw [Nat.mul_comm];exact hq')
      obtain ⟨row,hrow⟩:∃ row,Ls[q / c.k]? =some row:=⟨Ls[q / c.k],List.getElem?_eq_getElem hqk⟩;have hrl:=hk row (List.mem_of_getElem? hrow);have hmod:=Nat.mod_lt q c.pos;have hg:=AVs hk hrow (j:=q % c.k) (x:=row[q % c.k]'(by omega)) (List.getElem?_eq_getElem _);have e1:q / c.k * c.k + q % c.k=q:=by rw [Nat.mul_comm];exact Nat.div_add_mod q c.k
      rw [e1,hq] at hg;injection hg with hg;obtain ⟨b',o',hbo,hcell⟩:=hxc (q / c.k) row hrow;injection hbo with hbo;injection hbo with hb1 hb2;subst hb1;subst hb2;have:=hcell (q % c.k) u (by rw [hg];exact List.getElem?_eq_getElem _);rw [AGk,AYw];rw [Nat.add_assoc,e1] at this;exact this
    have hmul:Ls.length * bytes<=100000000 * 1000:=Nat.mul_le_mul (by rw [HA.1];exact hl) hby;have hr:=run_append_nil (P:=P) w t ty el i z hu hi hzz ⟨b,o,none⟩ Ls.length xc Ls.flatten (by rw [AJ3 hk,hs0]) hnews hlen (by rw [HA.1];omega) (by rw [hbyy];omega)
    have hrun:(execOp e.ev ⟨some d,.call ⟨.builtin .append,#[s,x],#[t,t]⟩,ty,pos,af,none⟩).run P w= .ok (.value (.slice (some ⟨w.heap.size,0,none⟩) Ls.length (grownCap w Ls.length 0 el))) (w.drew.alloc (.cells (Ls.flatten.toArray ++ Builtin.zeroCells z.cells (grownCap w Ls.length 0 el - Ls.length)) el)):=by
      simp [execOp,resolve,invoke,builtin,hs,hx,hr]
    rw [hrun];have hge:=grownCap_ge w Ls.length 0 el;have hcm':grownCap w Ls.length 0 el<=maxLen:=grownCap_le_maxLen w _ _ el (by unfold maxLen;rw [HA.1];omega);have E:Ext w.heap (w.drew.alloc (.cells (Ls.flatten.toArray ++ Builtin.zeroCells z.cells (grownCap w Ls.length 0 el - Ls.length)) el)).heap:=⟨by simp,fun k hk=>heap_alloc_old w.drew _ k hk⟩
    refine ⟨⟨rfl,rfl,rfl⟩,hBE _ E,H [w.heap.size] _ _ (.inr ⟨w.heap.size,Ls,rfl,⟨_,_,rfl,heap_alloc_new w.drew _,hge,hcm',?_,hk,?_⟩,HA.upT E.upT,hel⟩) E (AGy (Nat.le_refl _) (by simp))⟩
    · rw [Array.size_append,size_zeroCells,hzk,List.size_toArray,AJ3 hk,Nat.sub_mul];have:=Nat.mul_le_mul_right c.k hge;omega
    · simp only [Array.toList_append];rw [<- AJ3 hk];exact List.take_left
end
end Go.QF
namespace Go.QF
open Go
section
variable {P:Program} {B:ABj->Prop} {st:Bool} {ops:Array Oper} {rest:List Oper} {e:Env} {h:ABj} {K:Env->ABj->Prop} {d:Nat} {ty:TypeId} {pos:String} {af:Array Edge}
theorem AQ6 {κ:IntKind} {t el bytes n:Nat} {z:Value} {parts:List (Nat × Operand)} (L:List Int) (hT:SlT P t el 1) (hz:ZeT P el z bytes) (h1:isOne z=true) (hel:Nat.beq el 147=false) (hb:B h) (hBE:∀ h',Ext h h'->B h') (hn:L.length=n) (Ab:Nat.ble n 16777216=true) (hpos:Nat.ble 1 n=true) (hp:(parts.map fun (i,x)=>(i,e.ev x))=partsOf 0 (L.map (.int κ))) (H:∀ b v h',OwC (cI κ) el h' [b] v L->Ext h h'->h.size<=b->b < h'.size->RL P B st ops rest (e.set d v) h' K):RL P B st ops (⟨some d,.buildSlice t n parts.toArray,ty,pos,af,none⟩ :: rest) e h K:=by
 have Ab:=Nat.le_of_ble_eq_true Ab;have E:Ext h (h.push (.cells (L.map (Value.int κ)).toArray el (0,0))):=AEf _ _;refine Aro (L.map (.int κ)) hT hz h1 hb (by rw [List.length_map];exact hn) Ab (Nat.le_of_ble_eq_true hpos) hp (fun u hu=>?_) ⟨hBE _ E,H h.size _ _ (.inr ⟨h.size,L.map fun a=>[.int κ a],rfl,⟨n,(L.map (Value.int κ)).toArray,by rw [List.length_map,hn],by simp,by simp [hn],by unfold maxLen;omega,by show _=n * 1;simp [hn],fun r hr=>?_,?_⟩,⟨by simp,fun i cs a h1 h2=>?_⟩,hel⟩) E (Nat.le_refl _) (by simp)⟩
 ·obtain ⟨a,_,rfl⟩:=List.mem_map.1 hu;rfl
 ·obtain ⟨a,_,rfl⟩:=List.mem_map.1 hr;rfl
 ·have:(L.map fun a=>[Value.int κ a]).flatten=L.map (Value.int κ):=by
    clear H E hp hn Ab
    induction L with
    | nil=>rfl
    | cons a L ih=>simp [ih]
  rw [this,List.take_of_length_le (by show _<=_ * 1;simp)]
 ·rw [List.getElem?_map,h2] at h1;injection h1 with h1;exact h1.symm
end
end Go.QF
namespace Go.QF
open Go
section
variable {P:Program} {ops:Array Oper} {B:ABj->Prop}
def AM5 (o:Oper):Bool:=match kindOf o.op with | .pure=>false | .read=>false | _=>true
theorem AQt {o:Oper} (hl:AM5 o=false):kindOf o.op= .pure∨kindOf o.op= .read:=by
 unfold AM5 at hl;cases h:kindOf o.op <;> simp only [h] at hl <;> first | exact .inl rfl | exact .inr rfl | cases hl
theorem AP4 {o:Oper} {e:Env} {h:ABj} {K:Env->ABj->Prop} (hl:AM5 o=false) (H:GOp P B true ops o e h K):GOp P B true ops o e h fun e' h'=>h'=h/\K e' h':=by
 unfold GOp at H ⊢;split
 ·rename_i hw;rw [if_pos hw] at H;unfold SOp at H ⊢;rcases AQt hl with hk | hk
  ·simp only [hk] at H ⊢;obtain ⟨v,h1,h2⟩:=H;exact ⟨v,h1,trivial,h2⟩
  ·simp only [hk] at H ⊢;obtain ⟨v,h0,h1,h2⟩:=H;exact ⟨v,h0,h1,trivial,h2⟩
 ·rename_i hw;rw [if_neg hw] at H;exact ⟨rfl,H⟩
theorem AZx {o:Oper} {e:Env} {h1 h2:ABj} {K K':Env->ABj->Prop} (hl:AM5 o=false) (H:GOp P B true ops o e h1 K) (hB:B h1->B h2) (hK:∀ v,K (e.put o.dst v) h1->K' (e.put o.dst v) h2):GOp P B true ops o e h2 K':=by
 unfold GOp at H ⊢;split
 ·rename_i hw;rw [if_pos hw] at H;unfold SOp at H ⊢;rcases AQt hl with hk | hk
  ·simp only [hk] at H ⊢;obtain ⟨v,a1,a2⟩:=H;exact ⟨v,a1,hK v a2⟩
  ·simp only [hk] at H ⊢;obtain ⟨v,a0,a1,a2⟩:=H;exact ⟨v,hB a0,a1,hK v a2⟩
 ·rename_i hw;rw [if_neg hw] at H;exact hK undef H
theorem AZy {o:Oper} {e:Env} {h:ABj} {K:Env->ABj->Prop} (hl:AM5 o=false) (H:GOp P B true ops o e h K):∃ v,K (e.put o.dst v) h:=by
 unfold GOp at H;split at H
 ·unfold SOp at H;rcases AQt hl with hk | hk
  ·simp only [hk] at H;obtain ⟨v,a1,a2⟩:=H;exact ⟨v,a2⟩
  ·simp only [hk] at H;obtain ⟨v,a0,a1,a2⟩:=H;exact ⟨v,a2⟩
 ·exact ⟨undef,H⟩
abbrev Off (a c b:Nat):Prop:=b < a∨c<=b
def HI (P:Program) (B:ABj->Prop) (ops:Array Oper):List Nat->Env->ABj->(Nat->Prop)->(Env->ABj->(Nat->Prop)->Prop)->Prop
  | [],e,h,N,K=> ∀ h',Ext h h'->K e h' N
  | i :: l,e,h,N,K=>match ops[i]? with
    | none=>False
    | some o=>bif AM5 o then ∀ h1,Ext h h1->GOp P B true ops o e h1 fun e' h'=>Ext h1 h'/\HI P B ops l e' h' (fun b=>N b/\Off h1.size h'.size b) K
      else GOp P B true ops o e h fun e' h'=>HI P B ops l e' h' N K
def HRf (P:Program) (B:ABj->Prop) (ops:Array Oper):List Oper->Env->ABj->(Nat->Prop)->(Env->ABj->(Nat->Prop)->Prop)->Prop
  | [],e,h,N,K=> ∀ h',Ext h h'->K e h' N
  | o :: l,e,h,N,K=>bif AM5 o then ∀ h1,Ext h h1->GOp P B true ops o e h1 fun e' h'=>Ext h1 h'/\HRf P B ops l e' h' (fun b=>N b/\Off h1.size h'.size b) K
      else GOp P B true ops o e h fun e' h'=>HRf P B ops l e' h' N K
variable {K:Env->ABj->(Nat->Prop)->Prop}
theorem Aos:∀ (I:List Nat) (L:List Oper),I.map (fun i=>ops[i]?)=L.map some-> ∀ e h N,HRf P B ops L e h N K->HI P B ops I e h N K:=by
 intro I
 induction I with
 | nil=>intro L hI e h N H;cases L with | nil=>exact H | cons o L=>cases hI
 | cons i I ih=>
   intro L hI e h N H
   cases L with
   | nil=>cases hI
   | cons o L=>
     simp only [List.map_cons,List.cons.injEq] at hI
     simp only [HI,hI.1]
     simp only [HRf] at H
     cases he:AM5 o with
     | true=>simp only [he,cond_true] at H ⊢;exact fun h1 E=>(H h1 E).mono fun v h' hh=>⟨hh.1,ih L hI.2 _ _ _ hh.2⟩
     | false=>simp only [he,cond_false] at H ⊢;exact H.mono fun v h' hh=>ih L hI.2 _ _ _ hh
theorem HI.anti (hKN:∀ e h (N N':Nat->Prop),(∀ b,N' b->N b)->K e h N->K e h N'):∀ (l:List Nat) {e:Env} {h:ABj} {N N':Nat->Prop},(∀ b,N' b->N b)->HI P B ops l e h N K->HI P B ops l e h N' K:=by
 intro l
 induction l with
 | nil=>intro e h N N' hN H h' E;exact hKN _ _ _ _ hN (H h' E)
 | cons i l ih=>
   intro e h N N' hN H
   simp only [HI] at H ⊢
   cases hoi:ops[i]? with
   | none=>simp only [hoi] at H
   | some o=>
     simp only [hoi] at H ⊢
     cases he:AM5 o with
     | true=>simp only [he,cond_true] at H ⊢;exact fun h1 E=>(H h1 E).mono fun v h' hh=>⟨hh.1,ih (fun b hb=>⟨hN b hb.1,hb.2⟩) hh.2⟩
     | false=>simp only [he,cond_false] at H ⊢;exact H.mono fun v h' hh=>ih hN hh
theorem HI.ext (hBx:∀ h h',B h->Ext h h'->B h'):∀ (l:List Nat) {e:Env} {h h2:ABj} {N:Nat->Prop},Ext h h2->HI P B ops l e h N K->HI P B ops l e h2 N K:=by
 intro l
 induction l with
 | nil=>intro e h h2 N E H h' E';exact H h' (E.trans E')
 | cons i l ih=>
   intro e h h2 N E H
   simp only [HI] at H ⊢
   cases hoi:ops[i]? with
   | none=>simp only [hoi] at H
   | some o=>
     simp only [hoi] at H ⊢
     cases he:AM5 o with
     | true=>simp only [he,cond_true] at H ⊢;exact fun h1 E1=>H h1 (E.trans E1)
     | false=>simp only [he,cond_false] at H ⊢;exact AZx he H (fun hb=>hBx _ _ hb E) fun v hh=>ih E hh
theorem HI.swap (hBx:∀ h h',B h->Ext h h'->B h') {i j:Nat} {x y:Oper} (hi:ops[i]? =some x) (hj:ops[j]? =some y) (hx:AHt x=true) (hy:AHt y=true) (hin:indep true ops x y=true) {R:List Nat} {e:Env} {h:ABj} {N:Nat->Prop} (H:HI P B ops (i :: j :: R) e h N K):HI P B ops (j :: i :: R) e h N K:=by
 simp only [HI,hi,hj] at H ⊢
 cases hex:AM5 x with
 | false=>
   simp only [hex,cond_false] at H ⊢
   cases hey:AM5 y with
   | false=>
     simp only [hey,cond_false] at H ⊢
     exact GOp.swap hx hy hin H
   | true=>
     simp only [hey,cond_true] at H ⊢
     intro h2 E2
     have H1:GOp P B true ops x e h2 fun e' h'=>GOp P B true ops y e' h' fun e2 h3=>Ext h2 h3/\HI P B ops R e2 h3 (fun b=>N b/\Off h2.size h3.size b) K:=
       AZx hex H (fun hb=>hBx _ _ hb E2) fun v hh=>hh h2 E2
     refine (GOp.swap hx hy hin H1).mono fun v h3 hh=>?_
     obtain ⟨u,hu⟩:=AZy hex hh
     exact ⟨hu.1,(AP4 hex hh).mono fun v h' hk=>by obtain ⟨rfl,hk⟩:=hk;exact hk.2⟩
 | true=>
   simp only [hex,cond_true] at H ⊢
   have hey:AM5 y=false:=by
     simp only [indep,Bool.and_eq_true] at hin
     unfold AM5 at hex ⊢
     cases h1:kindOf x.op <;> cases h2:kindOf y.op <;> simp_all
   simp only [hey,cond_false] at H ⊢
   have key:∀ h2,Ext h h2->GOp P B true ops y e h2 fun e1 h'=>GOp P B true ops x e1 h2 fun e2 h3=>Ext h2 h3/\HI P B ops R e2 h3 (fun b=>N b/\Off h2.size h3.size b) K:=by
     intro h2 E2
     have H1:GOp P B true ops x e h2 fun e' h'=>GOp P B true ops y e' h' fun e2 h3=>Ext h2 h3/\HI P B ops R e2 h3 (fun b=>N b/\Off h2.size h3.size b) K:=
       (H h2 E2).mono fun v h' hh=>(AP4 hey hh.2).mono fun v2 h3 hk=>by obtain ⟨rfl,hk⟩:=hk;exact ⟨hh.1,hk⟩
     refine (AP4 hey (GOp.swap hx hy hin H1)).mono fun v h' hh=>?_
     obtain ⟨rfl,hh⟩:=hh
     exact hh
   have k0:=key h (Ext.refl h)
   obtain ⟨v0,-⟩:=AZy hey k0
   have kk:GOp P B true ops y e h fun e1 h'=>h'=h/\ ∀ h2,Ext h h2->GOp P B true ops x e1 h2 fun e2 h3=>Ext h2 h3/\HI P B ops R e2 h3 (fun b=>N b/\Off h2.size h3.size b) K:=by
     by_cases hw:Region.wanted y (AJv ops e)=true
     · have k1:=k0
       unfold GOp at k1 ⊢
       rw [if_pos hw] at k1 ⊢
       unfold SOp at k1 ⊢
       rcases AQt hey with hk | hk
       · simp only [hk] at k1 ⊢
         obtain ⟨v,a1,a2⟩:=k1
         refine ⟨v,a1,trivial,fun h2 E2=>?_⟩
         have k2:=key h2 E2
         unfold GOp at k2
         rw [if_pos hw] at k2
         unfold SOp at k2
         simp only [hk] at k2
         obtain ⟨u,b1,b2⟩:=k2
         have e1:=a1 (ANa h)
         rw [b1 (ANa h)] at e1
         cases e1
         exact b2
       · simp only [hk] at k1 ⊢
         obtain ⟨v,a0,a1,a2⟩:=k1
         refine ⟨v,a0,a1,trivial,fun h2 E2=>?_⟩
         have k2:=key h2 E2
         unfold GOp at k2
         rw [if_pos hw] at k2
         unfold SOp at k2
         simp only [hk] at k2
         obtain ⟨u,b0,b1,b2⟩:=k2
         have e1:=a1 (ANa h) a0
         rw [b1 (ANa h) a0] at e1
         cases e1
         exact b2
     · unfold GOp
       rw [if_neg hw]
       refine ⟨rfl,fun h2 E2=>?_⟩
       have k2:=key h2 E2
       unfold GOp at k2
       rw [if_neg hw] at k2
       exact k2
   refine kk.mono fun v h' hh=>?_
   obtain ⟨rfl,hh⟩:=hh
   exact hh
theorem HI.bubble (hBx:∀ h h',B h->Ext h h'->B h') {i:Nat} {oi:Oper} (hi:ops[i]? =some oi) (hsi:AHt oi=true) (R1:List Nat):∀ {R2:List Nat} {e:Env} {h:ABj} {N:Nat->Prop},
    (∀ k∈R1,∃ ok,ops[k]? =some ok/\AHt ok=true/\indep true ops ok oi=true)->HI P B ops (R1 ++ i :: R2) e h N K->HI P B ops (i :: (R1 ++ R2)) e h N K:=by
 induction R1 with
 | nil=>intro R2 e h N _ H;exact H
 | cons k R1 ih=>
   intro R2 e h N hind H
   obtain ⟨ok,hok,hsk,hik⟩:=hind k (List.mem_cons_self ..)
   have H2:HI P B ops (k :: i :: (R1 ++ R2)) e h N K:=by
     simp only [List.cons_append] at H
     rw [HI] at H ⊢
     simp only [hok] at H ⊢
     cases he:AM5 ok with
     | true=>simp only [he,cond_true] at H ⊢;exact fun h1 E=>(H h1 E).mono fun v h' hh=>⟨hh.1,ih (fun k' hk'=>hind k' (List.mem_cons_of_mem _ hk')) hh.2⟩
     | false=>simp only [he,cond_false] at H ⊢;exact H.mono fun v h' hh=>ih (fun k' hk'=>hind k' (List.mem_cons_of_mem _ hk')) hh
   exact HI.swap hBx hok hi hsk hsi hik H2
theorem Aot:∀ (l:List Nat) {e:Env} {h:ABj} {N:Nat->Prop},HI P B ops l e h N K->LI P B true ops l e h fun e' h'=>Ext h h'/\ ∃ N':Nat->Prop,(∀ b,N b->b < h.size->N' b)/\K e' h' N':=by
  intro l;induction l with
  | nil=>intro e h N H;exact ⟨Ext.refl h,N,fun b hb _=>hb,H h (Ext.refl h)⟩
  | cons i l ih=>
    intro e h N H;simp only [HI] at H;simp only [LI];cases hoi:ops[i]? with
    | none=>simp only [hoi] at H
    | some o=>
      simp only [hoi] at H ⊢;cases he:AM5 o with
      | true=>
        simp only [he,cond_true] at H;refine (H h (Ext.refl h)).mono fun v h' hh=>?_;refine LI.mono (fun e2 h2 hk=>?_) (ih hh.2);obtain ⟨E2,N',hN,hk⟩:=hk;exact ⟨hh.1.trans E2,N',fun b hb hlt=>hN b ⟨hb,.inl hlt⟩ (Nat.lt_of_lt_of_le hlt hh.1.1),hk⟩
      | false=>
        simp only [he,cond_false] at H;refine (AP4 he H).mono fun v h' hh=>?_;obtain ⟨rfl,hh⟩:=hh;exact ih hh
end
end Go.QF
namespace Go.QF
open Go
section
variable {P:Program} {ops:Array Oper} {B:ABj->Prop}
theorem Abq {st:Bool} {n:Nat} {Q:Exit->Act->World->Prop} (G:Nat->Prop) (hb:AWh n ops=true) (hdep:∀ (j:Nat) (oj:Oper),ops[j]? =some oj-> ∀ ed∈oj.after,Region.binds .any ed=true->ed.on < j) (hpair:∀ (i j:Nat) (oi oj:Oper),G i->G j->i < j->ops[i]? =some oi->ops[j]? =some oj->(∃ n,reach ops n i j=true)∨indep st ops oi oj=true):∀ (fuel:Nat) (R:List Nat) (listed:Array Bool) (e:Env) (a:Act) (w:World) (K:Env->ABj->Prop),
    (∀ j∈R,G j)->R.length=fuel->LsF ops R listed->Rep n e a->LI P B st ops R e w.heap K->(∀ e' a' w',Rep n e' a'->Same w w'->K e' w'.heap->Q .normal a' w')->
    wpAny P .any ops Q fuel listed a w:=by
 intro fuel
 induction fuel with
 | zero=>
   intro R listed e a w K hG hlen L r H hK
   obtain rfl:R=[]:=List.length_eq_zero_iff.1 hlen
   refine ⟨?_,hK _ _ _ r (.refl w) H⟩
   refine List.eq_nil_iff_forall_not_mem.2 fun j hj=>?_
   obtain ⟨hjl,oj,hoj,_⟩:=mem_ready.1 hj
   have:=(L.mem j).2 ⟨(Array.getElem?_eq_some_iff.1 hoj).1,hjl⟩
   cases this
 | succ fuel ih=>
   intro R listed e a w K hG hlen L r H hK
   constructor
   · intro hr
     exfalso
     cases R with
     | nil=>simp at hlen
     | cons j R=>
       obtain ⟨hjs,hjl⟩:=(L.mem j).1 (List.mem_cons_self ..)
       obtain ⟨oj,hoj⟩:∃ oj,ops[j]? =some oj:=⟨ops[j],Array.getElem?_eq_getElem hjs⟩
       have:j∈Region.ready .any ops listed:=mem_ready.2 ⟨hjl,oj,hoj,fun ed hed hbd=>by
         have hlt:=hdep j oj hoj ed hed hbd
         cases hl:listed.getD ed.on false with
         | true=>rfl
         | false=>
           exfalso
           have hs:ed.on < ops.size:=Nat.lt_trans hlt hjs
           have hm:ed.on∈j :: R:=(L.mem ed.on).2 ⟨hs,by
             have h':ed.on < listed.size:=by rw [L.size];exact hs
             simp [h'] at hl ⊢;exact hl⟩
           rcases List.mem_cons.1 hm with he | he
           · omega
           · have:=(List.pairwise_cons.1 L.pw).1 _ he
             omega⟩
       rw [hr] at this
       cases this
   · intro i hi
     obtain ⟨hil,oi,hoi,hall⟩:=mem_ready.1 hi
     have his:i < ops.size:=(Array.getElem?_eq_some_iff.1 hoi).1
     have hiR:i∈R:=(L.mem i).2 ⟨his,hil⟩
     obtain ⟨R1,R2,rfl⟩:=List.append_of_mem hiR
     obtain ⟨hdi,hsi⟩:=AM3 hb hoi
     have hpw':=List.pairwise_append.1 L.pw
     have hbu:LI P B st ops (i :: (R1 ++ R2)) e w.heap K:=by
       refine LI.bubble hoi hsi R1 (fun k hk=>?_) H
       have hki:k < i:=hpw'.2.2 k hk i (List.mem_cons_self ..)
       have hks:k < ops.size:=Nat.lt_trans hki his
       obtain ⟨ok,hok'⟩:∃ ok,ops[k]? =some ok:=⟨ops[k],Array.getElem?_eq_getElem hks⟩
       refine ⟨ok,hok',(AM3 hb hok').2,?_⟩
       rcases hpair k i ok oi (hG k (List.mem_append_left _ hk)) (hG i hiR) hki hok' hoi with ⟨nre,hre⟩ | h
       · exfalso
         have h1:listed.getD k false=true:=AJo (L:=fun j=>listed.getD j false=true) L.cl nre k i oi hoi hall hre
         rw [L.notListed (List.mem_append_left _ hk)] at h1
         cases h1
       · exact h
     simp only [LI,hoi] at hbu
     refine AIt hoi hdi r hbu fun e' a' w' r' hs hk=>?_
     exact ih (R1 ++ R2) _ e' a' w' K (fun j hj=>hG j (by rcases List.mem_append.1 hj with h | h;exact List.mem_append_left _ h;exact List.mem_append_right _ (List.mem_cons_of_mem _ h))) (by simp at hlen ⊢;omega) (L.step hoi hall) r' hk (fun e2 a2 w2 r2 s2 k2=>hK _ _ _ r2 (hs.trans s2) k2)
structure Alv where
  d:Nat
  t:Nat
  z:List Value
def AUo (b:Nat):Value:= .pointer (some ⟨b,0,none⟩)
def setO:List Alv->List (Option Nat)->Env->Env
  | a :: A,some b :: bs,e=>(setO A bs e).set a.d (AUo b)
  | _ :: A,none :: bs,e=>setO A bs e
  | _,_,e=>e
theorem Aly:∀ (A:List Alv) (e:Env),setO A (List.replicate A.length none) e=e:=by
 intro A e
 induction A with
 | nil=>rfl
 | cons a A ih=>exact ih
theorem Asg {A:List Alv}:∀ {bs:List (Option Nat)} {e:Env} {t:Nat},(∀ a∈A,a.d≠t)->setO A bs e t=e t:=by
 induction A with
 | nil=>intro bs e t _;cases bs <;> rfl
 | cons a A ih=>
   intro bs e t h
   cases bs with
   | nil=>rfl
   | cons b bs=>
     cases b with
     | none=>exact ih fun a ha=>h a (List.mem_cons_of_mem _ ha)
     | some b=>
       show (setO A bs e).set a.d (AUo b) t=e t
       rw [Env.set_other _ _ (fun he=>h a (List.mem_cons_self ..) he.symm)]
       exact ih fun a ha=>h a (List.mem_cons_of_mem _ ha)
theorem Aff {A:List Alv}:∀ {bs:List (Option Nat)} {e:Env} {d:Option Nat} {v:Value},(∀ a∈A,d≠some a.d)->(setO A bs e).put d v=setO A bs (e.put d v):=by
 induction A with
 | nil=>intro bs e d v _;cases bs <;> rfl
 | cons a A ih=>
   intro bs e d v h
   cases bs with
   | nil=>rfl
   | cons b bs=>
     have ih':=ih (bs:=bs) (e:=e) (v:=v) fun a ha=>h a (List.mem_cons_of_mem _ ha)
     cases b with
     | none=>exact ih'
     | some b=>
       show ((setO A bs e).set a.d (AUo b)).put d v=(setO A bs (e.put d v)).set a.d (AUo b)
       rw [<- ih']
       exact Env.put_comm (x:=some a.d) (y:=d) (setO A bs e) (AUo b) v (fun k hk=>by cases hk;exact h a (List.mem_cons_self ..))
theorem Aou {A:List Alv}:∀ {bs:List (Option Nat)} {e:Env} {q:Nat} {a:Alv} {b:Nat},(A.map Alv.d).Nodup->bs.length=A.length->A[q]? =some a->bs[q]? =some none->setO A (bs.set q (some b)) e=(setO A bs e).set a.d (AUo b):=by
 induction A with
 | nil=>intro bs e q a b _ _ h;cases h
 | cons c A ih=>
   intro bs e q a b hn hl ha hb
   cases bs with
   | nil=>cases hb
   | cons x bs=>
     cases q with
     | zero=>
       simp only [List.getElem?_cons_zero,Option.some.injEq] at ha hb
       subst ha;subst hb
       rfl
     | succ q=>
       simp only [List.getElem?_cons_succ] at ha hb
       simp only [List.map_cons,List.nodup_cons] at hn
       have ih':=ih (e:=e) (b:=b) hn.2 (by simpa using hl) ha hb
       cases x with
       | none=>exact ih'
       | some x=>
         show (setO A (bs.set q (some b)) e).set c.d (AUo x)=((setO A bs e).set c.d (AUo x)).set a.d (AUo b)
         rw [ih']
         have hne:a.d≠c.d:=fun he=>hn.1 (List.mem_map.2 ⟨a,List.mem_of_getElem? ha,he⟩)
         exact Env.put_comm (x:=some a.d) (y:=some c.d) (setO A bs e) (AUo b) (AUo x) (fun k hk he=>by cases hk;exact hne (Option.some.inj he).symm)
theorem Alz {o:Oper} (hs:AHt o=true) {A:List Alv} (hA:∀ a∈A,a.d ∉ o.looksAt ops):∀ {bs:List (Option Nat)} {e:Env},execOp (setO A bs e).ev o=execOp e.ev o/\Region.wanted o (AJv ops (setO A bs e))=Region.wanted o (AJv ops e):=by
 induction A with
 | nil=>intro bs e;cases bs <;> exact ⟨rfl,rfl⟩
 | cons a A ih=>
   intro bs e
   cases bs with
   | nil=>exact ⟨rfl,rfl⟩
   | cons b bs=>
     have ih':=ih (fun a ha=>hA a (List.mem_cons_of_mem _ ha)) (bs:=bs) (e:=e)
     cases b with
     | none=>exact ih'
     | some b=>exact ⟨(ATf (ops:=ops) o hs (setO A bs e) (some a.d) (AUo b) (fun k hk=>by cases hk;exact hA a (List.mem_cons_self ..))).trans ih'.1,(ATg (ops:=ops) o (setO A bs e) (some a.d) (AUo b) (fun k hk=>by cases hk;exact hA a (List.mem_cons_self ..))).trans ih'.2⟩
def Avx (ops:Array Oper) (A:List Alv) (o:Oper):Prop:=(∀ a∈A,a.d ∉ o.looksAt ops)/\ ∀ a∈A,o.dst≠some a.d
theorem GOp.setO {st:Bool} {o:Oper} {A:List Alv} {bs:List (Option Nat)} {e:Env} {h:ABj} {K:Env->ABj->Prop} (hs:AHt o=true) (hf:Avx ops A o) (H:GOp P B st ops o e h K):GOp P B st ops o (setO A bs e) h fun e2 h'=> ∃ e',e2=Go.QF.setO A bs e'/\K e' h':=by
 obtain ⟨h1,h2⟩:=Alz hs hf.1 (bs:=bs) (e:=e);unfold GOp at H ⊢;rw [h2];split
 ·rename_i hw;rw [if_pos hw] at H;exact SOp.congr h1 (fun v h' hk=>⟨_,Aff hf.2,hk⟩) H
 ·rename_i hw;rw [if_neg hw] at H;exact ⟨_,Aff hf.2,H⟩
theorem LI.setO {st:Bool} {A:List Alv} {bs:List (Option Nat)}:∀ {l:List Nat} {e:Env} {h:ABj} {K:Env->ABj->Prop},(∀ i∈l,∀ o,ops[i]? =some o->AHt o=true/\Avx ops A o)->LI P B st ops l e h K->LI P B st ops l (setO A bs e) h fun e2 h'=> ∃ e',e2=Go.QF.setO A bs e'/\K e' h':=by
 intro l
 induction l with
 | nil=>intro e h K _ H;exact ⟨e,rfl,H⟩
 | cons i l ih=>
   intro e h K hl H
   simp only [LI] at H ⊢
   cases hoi:ops[i]? with
   | none=>simp only [hoi] at H;exact ih (fun i hi=>hl i (List.mem_cons_of_mem _ hi)) H
   | some o=>
     simp only [hoi] at H
     obtain ⟨h1,h2⟩:=hl i (List.mem_cons_self ..) o hoi
     refine (GOp.setO h1 h2 H).mono fun v h' hk=>?_
     obtain ⟨e',he,hk⟩:=hk
     rw [he]
     exact ih (fun i hi=>hl i (List.mem_cons_of_mem _ hi)) hk
theorem Al0 {st:Bool} {l1 l2:List Nat} {e:Env} {h:ABj} {K:Env->ABj->Prop} (H:LI P B st ops l1 e h fun e' h'=>LI P B st ops l2 e' h' K):LI P B st ops (l1 ++ l2) e h K:=by
 induction l1 generalizing e h with
 | nil=>exact H
 | cons i l ih=>
   simp only [LI,List.cons_append] at H ⊢
   cases hoi:ops[i]? with
   | none=>simp only [hoi] at H;exact ih H
   | some o=>simp only [hoi] at H;exact H.mono fun v h' hk=>ih hk
def KA (A:List Alv) (h0:ABj) (G:List Nat->Env->ABj->Prop) (e:Env) (h:ABj) (N:Nat->Prop):Prop:=
  ∀ bl:List Nat,bl.length=A.length->bl.Nodup->(∀ (q:Nat) (b:Nat) (a:Alv),bl[q]? =some b->A[q]? =some a->AEj a.t h b a.z/\h0.size<=b/\N b)->G bl e h
theorem KA.anti {A:List Alv} {h0:ABj} {G:List Nat->Env->ABj->Prop} (e:Env) (h:ABj) (N N':Nat->Prop) (hN:∀ b,N' b->N b) (H:KA A h0 G e h N):KA A h0 G e h N':=
  fun bl h1 h2 h3=>H bl h1 h2 fun q b a hb ha=>let ⟨x,y,z⟩:=h3 q b a hb ha;⟨x,y,hN b z⟩
structure Ajw (ops:Array Oper) (m:Nat) (A:List Alv):Prop where
  le:m + A.length<=ops.size
  dep:∀ (j:Nat) (oj:Oper),ops[j]? =some oj-> ∀ ed∈oj.after,Region.binds .any ed=true->ed.on < j
  pair:∀ (i j:Nat) (oi oj:Oper),(i < m∨m + A.length<=i)->(j < m∨m + A.length<=j)->i < j->ops[i]? =some oi->ops[j]? =some oj->(∃ n,reach ops n i j=true)∨indep true ops oi oj=true
  tail:∀ (i j:Nat) (oj:Oper),m<=i->i < m + A.length->m + A.length<=j->ops[j]? =some oj-> ∃ n,reach ops n i j=true
  far:∀ (j:Nat) (oj:Oper),j < m->ops[j]? =some oj->Avx ops A oj
  nd:(A.map Alv.d).Nodup
  al:∀ (q:Nat) (a:Alv),A[q]? =some a-> ∃ o,ops[m + q]? =some o/\o.dst=some a.d
def Ash (P:Program) (B:ABj->Prop) (ops:Array Oper) (m:Nat) (A:List Alv):Prop:=
  ∀ (q:Nat) (a:Alv) (o:Oper),A[q]? =some a->ops[m + q]? =some o-> ∀ (e:Env) (h:ABj),B h->GOp P B true ops o e h fun e' h'=> ∃ b,e'=e.set a.d (AUo b)/\Ext h h'/\AEj a.t h' b a.z/\h.size<=b
theorem Aov {n m:Nat} {A:List Alv} {h0:ABj} {T:List Nat} {Q:Exit->Act->World->Prop} {Kq:Env->ABj->Prop} (S:Ajw ops m A) (hb:AWh n ops=true) (hBx:∀ h h',B h->Ext h h'->B h') (hal:Ash P B ops m A) (hT:∀ j∈T,m + A.length<=j):
    ∀ (fuel:Nat) (Rp Ra:List Nat) (bs:List (Option Nat)) (listed:Array Bool) (e:Env) (a:Act) (w:World) (N:Nat->Prop),
    (∀ j∈Rp,j < m)->(∀ j∈Ra,m<=j/\j < m + A.length/\bs[j - m]? =some none)->(∀ q:Nat,bs[q]? =some none->m + q∈Ra)->bs.length=A.length->(Rp ++ (Ra ++ T)).length=fuel->LsF ops (Rp ++ (Ra ++ T)) listed->Rep n (setO A bs e) a->Ext h0 w.heap->B w.heap->
    (∀ (q b:Nat) (x:Alv),bs[q]? =some (some b)->A[q]? =some x->AEj x.t w.heap b x.z/\h0.size<=b/\N b)->(∀ q q' b:Nat,bs[q]? =some (some b)->bs[q']? =some (some b)->q=q')->(∀ b:Nat,w.heap.size<=b->N b)->
    HI P B ops Rp e w.heap N (KA A h0 fun bl e' h'=>LI P B true ops T (setO A (bl.map some) e') h' Kq)->
    (∀ e' a' w',Rep n e' a'->Same w w'->Kq e' w'.heap->Q .normal a' w')->wpAny P .any ops Q fuel listed a w:=by
 intro fuel
 induction fuel with
 | zero=>
   intro Rp Ra bs listed e a w N hRp hRa hbsR hbl hlen L r hE hB hbox hdis hNn H hK
   have Ap:Rp ++ (Ra ++ T)=[]:=List.length_eq_zero_iff.1 hlen
   simp only [List.append_eq_nil_iff] at Ap
   obtain ⟨rfl,rfl,rfl⟩:=Ap
   refine Abq (B:=B) (st:=true) (fun j=>j < m∨m + A.length<=j) hb S.dep S.pair 0 [] listed _ a w Kq (fun j hj=>by cases hj) rfl L r ?_ hK
   obtain ⟨bl,rfl⟩:∃ bl:List Nat,bs=bl.map some:=by
     have:∀ bs:List (Option Nat),(∀ q:Nat,bs[q]? ≠some none)-> ∃ bl:List Nat,bs=bl.map some:=by
       intro bs
       induction bs with
       | nil=>intro _;exact ⟨[],rfl⟩
       | cons b bs ih=>
         intro h
         obtain ⟨bl,rfl⟩:=ih fun q=>by have:=h (q + 1);simpa using this
         cases b with
         | none=>exact absurd rfl (h 0)
         | some b=>exact ⟨b :: bl,rfl⟩
     exact this bs fun q hq=>by have:=hbsR q hq;cases this
   refine H w.heap (Ext.refl _) bl (by simpa using hbl) ?_ fun q b x hq hx=>hbox q b x (by simp [hq]) hx
   refine List.pairwise_iff_getElem.2 fun i j hi hj hij he=>?_
   have h1:bl[i]? =some bl[i]:=List.getElem?_eq_getElem hi
   have h2:bl[j]? =some bl[i]:=by rw [he];exact List.getElem?_eq_getElem hj
   have:=hdis i j bl[i] (by simp [h1]) (by simp [h2])
   omega
 | succ fuel ih=>
   intro Rp Ra bs listed e a w N hRp hRa hbsR hbl hlen L r hE hB hbox hdis hNn H hK
   by_cases Aq:Ra=[]
   · subst Aq
     obtain ⟨bl,rfl⟩:∃ bl:List Nat,bs=bl.map some:=by
       have:∀ bs:List (Option Nat),(∀ q:Nat,bs[q]? ≠some none)-> ∃ bl:List Nat,bs=bl.map some:=by
         intro bs
         induction bs with
         | nil=>intro _;exact ⟨[],rfl⟩
         | cons b bs ih=>
           intro h
           obtain ⟨bl,rfl⟩:=ih fun q=>by have:=h (q + 1);simpa using this
           cases b with
           | none=>exact absurd rfl (h 0)
           | some b=>exact ⟨b :: bl,rfl⟩
       exact this bs fun q hq=>by have:=hbsR q hq;cases this
     have hnod:bl.Nodup:=by
       refine List.pairwise_iff_getElem.2 fun i j hi hj hij he=>?_
       have h1:bl[i]? =some bl[i]:=List.getElem?_eq_getElem hi
       have h2:bl[j]? =some bl[i]:=by rw [he];exact List.getElem?_eq_getElem hj
       have:=hdis i j bl[i] (by simp [h1]) (by simp [h2])
       omega
     simp only [List.nil_append] at hlen L
     refine Abq (B:=B) (st:=true) (fun j=>j < m∨m + A.length<=j) hb S.dep S.pair (fuel + 1) (Rp ++ T) listed _ a w Kq (fun j hj=>?_) hlen L r ?_ hK
     · rcases List.mem_append.1 hj with h | h
       · exact .inl (hRp j h)
       · exact .inr (hT j h)
     · refine Al0 ?_
       have h1:=LI.setO (A:=A) (bs:=bl.map some) (fun i hi o ho=>⟨(AM3 hb ho).2,S.far i o (hRp i hi) ho⟩) (Aot Rp H)
       refine LI.mono (fun e2 h2 hk=>?_) h1
       obtain ⟨e',rfl,E2,N',hN',hk⟩:=hk
       refine hk bl (by simpa using hbl) hnod fun q b x hq hx=>?_
       obtain ⟨x1,x2,x3⟩:=hbox q b x (by simp [hq]) hx
       exact ⟨by unfold AEj;rw [E2.2 b x1.lt];exact x1,x2,hN' b x3 x1.lt⟩
   · refine ⟨fun hr=>?_,fun i hi=>?_⟩
     · exfalso
       cases hR:Rp ++ (Ra ++ T) with
       | nil=>rw [hR] at hlen;simp at hlen
       | cons j R=>
         rw [hR] at L
         obtain ⟨hjs,hjl⟩:=(L.mem j).1 (List.mem_cons_self ..)
         obtain ⟨oj,hoj⟩:∃ oj,ops[j]? =some oj:=⟨ops[j],Array.getElem?_eq_getElem hjs⟩
         have:j∈Region.ready .any ops listed:=mem_ready.2 ⟨hjl,oj,hoj,fun ed hed hbd=>by
           have hlt:=S.dep j oj hoj ed hed hbd
           cases hl:listed.getD ed.on false with
           | true=>rfl
           | false=>
             exfalso
             have hs:ed.on < ops.size:=Nat.lt_trans hlt hjs
             have hm:ed.on∈j :: R:=(L.mem ed.on).2 ⟨hs,by
               have h':ed.on < listed.size:=by rw [L.size];exact hs
               simp [h'] at hl ⊢;exact hl⟩
             rcases List.mem_cons.1 hm with he | he
             · omega
             · have:=(List.pairwise_cons.1 L.pw).1 _ he
               omega⟩
         rw [hr] at this
         cases this
     · obtain ⟨hil,oi,hoi,hall⟩:=mem_ready.1 hi
       have his:i < ops.size:=(Array.getElem?_eq_some_iff.1 hoi).1
       obtain ⟨hdi,hsi⟩:=AM3 hb hoi
       have hnl:∀ (k nre:Nat),k∈Rp ++ (Ra ++ T)->reach ops nre k i=true->False:=fun k nre hk hre=>by
         have h1:listed.getD k false=true:=AJo (L:=fun j=>listed.getD j false=true) L.cl nre k i oi hoi hall hre
         rw [L.notListed hk] at h1
         cases h1
       rcases List.mem_append.1 ((L.mem i).2 ⟨his,hil⟩) with hip | hit
       ·
         obtain ⟨R1,R2,rfl⟩:=List.append_of_mem hip
         have hpw':=List.pairwise_append.1 (List.pairwise_append.1 L.pw).1
         have hbu:HI P B ops (i :: (R1 ++ R2)) e w.heap N (KA A h0 fun bl e' h'=>LI P B true ops T (setO A (bl.map some) e') h' Kq):=by
           refine HI.bubble hBx hoi hsi R1 (fun k hk=>?_) H
           have hki:k < i:=hpw'.2.2 k hk i (List.mem_cons_self ..)
           have hks:k < ops.size:=Nat.lt_trans hki his
           obtain ⟨ok,hok'⟩:∃ ok,ops[k]? =some ok:=⟨ops[k],Array.getElem?_eq_getElem hks⟩
           refine ⟨ok,hok',(AM3 hb hok').2,?_⟩
           rcases S.pair k i ok oi (.inl (hRp k (List.mem_append_left _ hk))) (.inl (hRp i hip)) hki hok' hoi with ⟨nre,hre⟩ | h
           · exact (hnl k nre (List.mem_append_left _ (List.mem_append_left _ hk)) hre).elim
           · exact h
         have hg:GOp P B true ops oi e w.heap fun e' h'=>Ext w.heap h'/\HI P B ops (R1 ++ R2) e' h' (fun b=>N b/\Off w.heap.size h'.size b) (KA A h0 fun bl e' h'=>LI P B true ops T (setO A (bl.map some) e') h' Kq):=by
           simp only [HI,hoi] at hbu
           cases he:AM5 oi with
           | true=>simp only [he,cond_true] at hbu;exact hbu w.heap (Ext.refl _)
           | false=>
             simp only [he,cond_false] at hbu
             refine (AP4 he hbu).mono fun v h' hk=>?_
             obtain ⟨rfl,hk⟩:=hk
             exact ⟨Ext.refl _,HI.anti KA.anti _ (fun b hb=>hb.1) hk⟩
         refine AIt hoi hdi r (GOp.setO (bs:=bs) hsi (S.far i oi (hRp i hip) hoi) hg) fun e' a' w' r' hs hk=>?_
         obtain ⟨e1,rfl,hE',hk⟩:=hk
         refine ih (R1 ++ R2) Ra bs _ e1 a' w' _ (fun j hj=>hRp j (by rcases List.mem_append.1 hj with h | h;exact List.mem_append_left _ h;exact List.mem_append_right _ (List.mem_cons_of_mem _ h))) hRa hbsR hbl (by simp at hlen ⊢;omega) ?_ r' (hE.trans hE') (hBx _ _ hB hE') (fun q b x hq hx=>?_) hdis (fun b hb=>⟨hNn b (Nat.le_trans hE'.1 hb),.inr hb⟩) hk (fun e2 a2 w2 r2 s2 k2=>hK _ _ _ r2 (hs.trans s2) k2)
         · have L2:LsF ops (R1 ++ i :: (R2 ++ (Ra ++ T))) listed:=by simpa using L
           have:=L2.step hoi hall
           simpa using this
         · obtain ⟨x1,x2,x3⟩:=hbox q b x hq hx
           exact ⟨by unfold AEj;rw [hE'.2 b x1.lt];exact x1,x2,x3,.inl x1.lt⟩
       · rcases List.mem_append.1 hit with hia | hiT
         ·
           obtain ⟨A1,A2,rfl⟩:=List.append_of_mem hia
           obtain ⟨Au,Av,hbq⟩:=hRa i hia
           obtain ⟨x,hx⟩:∃ x,A[i - m]? =some x:=⟨A[i - m]'(by omega),List.getElem?_eq_getElem (by omega)⟩
           have hoi':ops[m + (i - m)]? =some oi:=by rw [show m + (i - m)=i by omega];exact hoi
           have hg:=hal (i - m) x oi hx hoi' (setO A bs e) w.heap hB
           refine AIt hoi hdi r hg fun e' a' w' r' hs hk=>?_
           obtain ⟨b,rfl,hE',hbx,hbh⟩:=hk
           rw [<- Aou S.nd hbl hx hbq] at r'
           have hpwA:=List.pairwise_append.1 (List.pairwise_append.1 (List.pairwise_append.1 L.pw).2.1).1
           have hlq:i - m < bs.length:=by omega
           refine ih Rp (A1 ++ A2) (bs.set (i - m) (some b)) _ e a' w' N hRp (fun j hj=>?_) (fun q hq=>?_) (by simpa using hbl) (by simp at hlen ⊢;omega) ?_ r' (hE.trans hE') (hBx _ _ hB hE') (fun q c y hq hy=>?_) (fun q q' c hq hq'=>?_) (fun c hc=>hNn c (Nat.le_trans hE'.1 hc)) (HI.ext hBx _ hE' H) (fun e2 a2 w2 r2 s2 k2=>hK _ _ _ r2 (hs.trans s2) k2)
           · have hj':j∈A1 ++ i :: A2:=by
               rcases List.mem_append.1 hj with h | h
               · exact List.mem_append_left _ h
               · exact List.mem_append_right _ (List.mem_cons_of_mem _ h)
             obtain ⟨j1,j2,j3⟩:=hRa j hj'
             have hne:i≠j:=by
               rintro rfl
               rcases List.mem_append.1 hj with h | h
               · have:=hpwA.2.2 i h i (List.mem_cons_self ..);omega
               · have:=(List.pairwise_cons.1 hpwA.2.1).1 i h;omega
             exact ⟨j1,j2,by rw [List.getElem?_set_ne (by omega)];exact j3⟩
           · by_cases hqi:i - m=q
             · subst hqi;rw [List.getElem?_set_self hlq] at hq;cases hq
             · rw [List.getElem?_set_ne hqi] at hq
               have:=hbsR q hq
               rcases List.mem_append.1 this with h | h
               · exact List.mem_append_left _ h
               · rcases List.mem_cons.1 h with h | h
                 · omega
                 · exact List.mem_append_right _ h
           · have L2:LsF ops ((Rp ++ A1) ++ i :: (A2 ++ T)) listed:=by simpa using L
             have:=L2.step hoi hall
             simpa using this
           · by_cases hqi:i - m=q
             · subst hqi
               rw [List.getElem?_set_self hlq] at hq
               cases hq
               rw [hx] at hy;cases hy
               exact ⟨hbx,Nat.le_trans hE.1 hbh,hNn b hbh⟩
             · rw [List.getElem?_set_ne hqi] at hq
               obtain ⟨x1,x2,x3⟩:=hbox q c y hq hy
               exact ⟨by unfold AEj;rw [hE'.2 c x1.lt];exact x1,x2,x3⟩
           · have old:∀ {q:Nat},bs[q]? =some (some c)->c < w.heap.size:=fun {q} hq=>by
               have hql:q < A.length:=by rw [<- hbl];exact (List.getElem?_eq_some_iff.1 hq).1
               exact (hbox q c A[q] hq (List.getElem?_eq_getElem hql)).1.lt
             by_cases hqi:i - m=q
             · by_cases hqi':i - m=q'
               · omega
               · subst hqi
                 rw [List.getElem?_set_self hlq] at hq
                 rw [List.getElem?_set_ne hqi'] at hq'
                 cases hq
                 have:=old hq'
                 omega
             · rw [List.getElem?_set_ne hqi] at hq
               by_cases hqi':i - m=q'
               · subst hqi'
                 rw [List.getElem?_set_self hlq] at hq'
                 cases hq'
                 have:=old hq
                 omega
               · rw [List.getElem?_set_ne hqi'] at hq'
                 exact hdis q q' c hq hq'
         ·
           exfalso
           cases hA:Ra with
           | nil=>exact Aq hA
           | cons j Ra'=>
             have hj:j∈Ra:=by rw [hA];exact List.mem_cons_self ..
             obtain ⟨Au,Av,_⟩:=hRa j hj
             obtain ⟨nre,hre⟩:=S.tail j i oi Au Av (hT i hiT) hoi
             exact hnl j nre (List.mem_append_right _ (List.mem_append_left _ hj)) hre
end
end Go.QF
