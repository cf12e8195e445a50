/-
  Texts of a proof, joined. Conditions stand in each statement.
-/
import Derived.Test.YtgmdhndbcohgiaaGreatDoorMTopGenera9
set_option linter.unusedVariables false
set_option linter.unusedSimpArgs false
open Option renaming bind_some->aa
open List renaming replicate->ab,mem_map->ae,getElem?_eq_getElem->ai,mem_singleton->av,getElem?_eq_some_iff->aw,getElem?_map->ax,take_length->aF,getElem_mem->aG,mem_append->aK,getElem?_eq_none->aL,pairwise_cons->aU,all_eq_true->bc,mem_of_getElem?->bG,getElem?_of_mem->bH,take_add_one->bN,pairwise_map->bO,ext_getElem?->bP,not_mem_nil->bS,mem_cons->bZ,map_cons->b8,map_id->ci
open Int renaming mul_le_mul_of_nonneg_left->ah,dvd_of_emod_eq_zero->aj,mul_le_mul_of_nonneg_right->ak,one_mul->am,le_of_dvd->an,tmod_eq_emod_of_nonneg->ao,lt_or_le->ap,dvd_trans->aq,pow_succ->au,pow_pos->aA,emod_eq_zero_of_dvd->aI,mul_comm->aJ,pow_add->aP,mul_nonpos_of_nonneg_of_nonpos->aV,le_of_lt->ba,mul_one->be,le_refl->bh,pow_ne_zero->bt,dvd_of_mul_dvd_mul_left->bw,eq_of_mul_eq_mul_left->bx,pow_succ'->bz,toNat->bA,zero_add->bD,pow_zero->bE,tmod->bI,mul_pow->bK,max_def->bL,mul_nonneg->b9,mul_assoc->cb,pow_one->cj,one_pow->ck,mul_pos->cm
open Nat renaming eq_zero_or_pos->ar,le_refl->ay,le_of_ble_eq_true->aM,le_trans->aY,zero_le->bJ,not_lt_zero->bW,mul_le_mul->bX,lt_or_ge->cg,mod_lt->cn
open Bool renaming and_eq_true->aH,false_eq_true->bM,not_eq_true->bT,eq_iff_iff->bU,not_true->ca
open Go renaming Value->bo
set_option maxRecDepth 100000
set_option maxHeartbeats 40000000
open Go Go.QF
variable{A:Go.QF.Wz}{x r p k d r' a1:Int}{fuel v i j f:Nat}
namespace Go.Proofs.YtgmdhndbcohgiaaGreatDoor
theorem Azg(m:Nat):Xp gq (gz^m) (gz^(m%8)):=by
 have h:∀k,Xp gq (gz^(8*k)) 1:=λk=>by induction k with|zero=>exact Xp.refl _ _|succ k ih=>rw[Nat.mul_succ,aP];exact ih.mul (show Xp gq (gz^8) 1 by unfold Xp;decide)
 have e:gz^m=gz^(8*(m/8))*gz^(m%8):=by rw[<-aP,Nat.div_add_mod]
 rw[e];exact((h _).mul (Xp.refl _ _)).trans (Xp.of_eq<|am _)
theorem A9f{a b:Nat}(h:Xp gq (gz^a) (gz^b)):a%8=b%8:=by
 have h1:=((Azg a).symm.trans h).trans (Azg b);have h2:∀x,x<8->∀y,y<8->gz^x%gq=gz^y%gq->x=y:=by decide
 exact h2 _ (cn _ Wr) _ (cn _ Wr) h1
theorem Atk{X m:Nat}{s y:Int}(hs:s*s=1)(h:Xp gq (gr^X*s^m*x) (gr^X*s^m*y)):Xp gq x y:=by
 have h1:∀k,Xp gq ((2040*gr)^k) 1:=λk=>by induction k with
  |zero=>exact Xp.refl _ _|succ k ih=>rw[au];exact ih.mul (show Xp gq (2040*gr) 1 by unfold Xp;decide)
 have h2:s^m*s^m=1:=by rw[<-bK,hs,ck]
 have h3:=(Xp.refl gq<|2040^X*s^m).mul h;have e:∀z,2040^X*s^m*(gr^X*s^m*z)=(2040*gr)^X*z:=λz=>by rw[bK,show 2040^X*s^m*(gr^X*s^m*z)=2040^X*gr^X*(s^m*s^m)*z by grind,h2,be]
 rw[e,e]at h3;have e1:∀z,Xp gq ((2040*gr)^X*z) z:=λz=>((h1 X).mul (Xp.refl _ z)).trans (Xp.of_eq<|am z);exact((e1 x).symm.trans h3).trans (e1 y)
structure A9g(M:List (List Int))(K:Nat)(T G:Wz)(L:List Xe)(C:List Xm):Prop where
 e:Eli M.length K 2 (ent M) T G
 w:∀i j,i<M.length->j<M.length->G i j=bm L i j
 sz:AE0 L
 bp:∀b∈L,BP K b
 asc:∀i,i<L.length->Asc L i
 sum:AAa L=M.length
 len:L.length<=8
 c:A30 L L.length C
theorem A9h{M:List (List Int)}(R:AS0 M)(hf:2147483648<fuel)(hd:det M.length (ent M)=r*2^v)(hr:¬(2:Int)∣r):∃T G L C,ADp fuel M=some ((2,Xw M.length M.length T,L),0)/\ABu fuel 2 (Xw M.length M.length T) L=some (C,true)/\A9g M (v+3) T G L C:=by
 have Ab:100<fuel:=by omega
 obtain⟨K,E,T,G,L,e1,e2,e3,e4,hv,S,B⟩:=A8x R hf;have hKv:=Abz Wq hv ⟨v,r,rfl,hd,hr⟩;obtain rfl:K=v+3:=by omega
 obtain⟨⟨C,ok⟩,ec,hok,H⟩:=A9a (T:=Xw M.length M.length T) B e4 R.1.1 R.1.2 Ab;dsimp only at hok;subst hok;have hl:=Aif B.sz;have hsum:=B.sum;have:=R.1.2;refine⟨T,G,L,C,e1,ec,S.e,S.w,B.sz,λb hb=>?_,λi hi=>(B.rg i hi).2,B.sum,Wq,H⟩;obtain⟨i,hi⟩:=bH hb;obtain⟨⟨p1,p2⟩,p3⟩:=(B.rg i (aw.1 hi).1).1 b hi;rw[if_pos rfl]at p2;refine⟨⟨p1,Wq⟩,?_⟩;by_cases h1:b.2.1=1;.rw[if_pos h1]at p3;exact .inl ⟨h1,AW2.1 p3.2.1⟩
 .rw[if_neg h1]at p3;exact .inr ⟨(B.sz b hb).resolve_left h1,p3.2⟩
theorem AW3:PrI 2:=AL9 ⟨Wq,λd h1 h2=>by omega⟩
def OB(p:Int)(K:Nat)(b:Xe):Prop:=∃(e:Nat)(u:Int),b=((e:Int),1,u,0,0)/\¬p∣u/\e<K/\e<=60/\u.natAbs<=2147483647
abbrev sO(p:Int)(b:Xe):Int:=lg p b.2.2.1
abbrev oO(b:Xe):Prop:=False
abbrev okO(i:Nat)(c:Xm):Prop:=(0<=c.2.1/\c.2.1<=(i:Int))/\(0<=c.1/\c.1<=60)/\(c.2.2.1=1∨c.2.2.1=-1)/\c.2.2.2=(false,0)
structure CO(p:Int)(L:List Xe)(i:Nat)(C:List Xm):Prop where
 last:i=0/\C=[]∨∃l c b,C=l++[c]/\0<i/\L[i-1]?=some b/\c.1=b.1
 len:C.length<=i
 ok:∀c∈C,okO i c
 sp:CSp (sO p) oO (L.take i) C
structure CQ(p:Int)(L:List Xe)(i:Nat)(e:Int)(l:List Xm)(c:Xm):Prop where
 len:l.length<=i
 ok:∀d∈l++[c],okO i d
 sp:CRp (sO p) oO (L.take i) e l c
theorem CO.nil{p:Int}{L:List Xe}:CO p L 0 []:=⟨.inl ⟨rfl,rfl⟩,ay _,λc hc=>(nomatch hc),CSp.nil⟩
theorem CO.new{p:Int}{L:List Xe}{i e:Nat}{C:List Xm}(H:CO p L i C)(he:e<=60)(h:∀b∈L.take i,b.1<(e:Int)):CQ p L i e C ((e:Int),0,1,false,0):=by
 refine⟨H.len,λd hd=>?_,H.sp.new h⟩;rcases aK.1 hd with h1|h1;.exact H.ok d h1
 .rw[av.1 h1];exact⟨⟨bh 0,by dsimp only;omega⟩,⟨by dsimp only;omega,by dsimp only;omega⟩,.inl rfl,rfl⟩
theorem CO.old{p:Int}{L:List Xe}{i:Nat}{l:List Xm}{c:Xm}(H:CO p L i (l++[c])):CQ p L i c.1 l c:=⟨by have:=H.len;simp at this;omega,H.ok,H.sp.old⟩
theorem BC1{sg:Xe->Int}{od:Xe->Prop}{L:List Xe}{l:List Xm}{c:Xm}(H:CSp sg od L (l++[c])):∀b∈L,b.1<=c.1:=λb hb=>by
 obtain⟨d,hd,he⟩:=(H.mem b.1).2 ⟨b,hb,rfl⟩;rcases aK.1 hd with h|h;.have:=(List.pairwise_append.1 H.asc).2.2 d h c W4;omega
 .rw[av.1 h]at he;omega
theorem CQ.put{p u:Int}{L:List Xe}{i e:Nat}{l:List Xm}{c:Xm}(H:CQ p L i e l c)(hb:L[i]?=some ((e:Int),1,u,0,0))(hlg:lg p u=1∨lg p u=-1):CO p L (i+1) (l++[(c.1,c.2.1+1,c.2.2.1*lg p u,c.2.2.2.1,c.2.2.2.2)]):=by
 have htk:L.take (i+1)=L.take i++[((e:Int),1,u,0,0)]:=by rw[bN,hb];rfl
 have hc:=H.ok c W4;refine⟨.inr ⟨l,_,_,rfl,Wq,by rw[Nat.add_sub_cancel];exact hb,H.sp.exp⟩,by have:=H.len;simp;omega,λd hd=>?_,?_⟩
 .rcases aK.1 hd with h|h;.have:=H.ok d (by simp[h]);exact⟨Wq,this.2⟩
  .rw[av.1 h];exact⟨by dsimp only;omega,hc.2.1,(Aoi hc.2.2.1 hlg).1,hc.2.2.2⟩
 .rw[htk];exact H.sp.put (b:=((e:Int),1,u,0,0)) rfl rfl rfl ⟨.inl,λh=>h.resolve_right λh=>h⟩
section
variable{fuel K:Nat}{p:Int}{T:List (List Int)}{L:List Xe}
theorem A9i{l:List Xm}{c:Xm}(h:l.length<=8):W3 (((l++[c]).length:Int)-1)=(l.length:Int):=by rw[List.length_append,List.length_singleton,wk Wq];omega
theorem Al2(l:List Xm)(c:Xm):(l++[c])[l.length]?=some c:=by simp
theorem Al3(l:List Xm)(c d:Xm):sI (l++[c]) (l.length:Int) d=l++[d]:=by rw[Yl];simp
theorem A9j(hB:∀b∈L,OB p K b)(ha:∀i,Asc L i)(hp:OPr p)(hp2:p<=9973)(hl1:1<=L.length)(hl:L.length<=8)(hf:2147483648<fuel):∃C,AAz fuel p T L=some (C,true)/\CO p L L.length C:=by
 have h3:=hp.three;have ho:Aku p=true:=(AZ0 ⟨Wq,hp2,hp.1⟩).symm;have main:Ok (AAz fuel p T L) λr=>r.2=true/\CO p L L.length r.1:=by
  unfold AAz;simp only[AMu,aa,ho];rw[if_neg Wr,if_neg Wq,if_neg Wq];simp only[aa];refine Wv (Q:=λex=>∃C,ex=.inr C/\CO p L L.length C) (Xv (λi s=>∃C,s=(C,(i:Int))/\i<=L.length/\CO p L i C) L.length ⟨[],rfl,bJ _,CO.nil⟩ Wq λi s hi hI=>?_) λex hex=>?_
  .obtain⟨C,rfl,hin,H⟩:=hI;unfold AKl;dsimp only;refine Xa (λh=>?_) λh=>Wt ⟨C,rfl,by rwa[show L.length=i by omega]⟩;have hi:i<L.length:=by omega
   have hbi:=ai hi;obtain⟨e,u,hbe,hu,-,he,hub⟩:=hB _<|aG hi;rw[hbe]at hbi;rw[Z4 hbi];have htm:¬bI u p=0:=λh=>hu<|Int.dvd_of_tmod_eq_zero h;rw[if_neg W4,if_neg Wq,if_neg Wq,if_neg W4,if_neg W4,if_pos Wq,if_neg htm];simp only[aa];have hkr:AD7 fuel (bI u p) p=some (lg p u,0):=by have h4:=Int.tmod_lt_of_pos u (show 0<p by omega);have h5:=Int.lt_tmod_of_pos u (show 0<p by omega);rw[A8y hp Wq Wq Wq hf];congr 2;refine AUm hp ?_;rw[Int.tmod_def,Int.sub_mul_emod_self_left]
   have hlg:=Aw2 hp (a:=u) λh=>hu<|aj h;have hCl:=H.len;obtain⟨b',hb'⟩:∃b',0<i->L[i-1]?=some b':=⟨L[i-1],λ_=>ai _⟩;have hprev:0<i->b'.1<=(e:Int):=λh0=>ha i h0 _ _ hbi<|hb' h0;have key:Ok (if(i:Int)=0 then if C.length<=100000000 then some<|C++[((e:Int),0,1,false,0)]else none else(gI L<|W3<|(i:Int)-1).bind λx=>if x.1<(e:Int)then if C.length<=100000000 then some<|C++[((e:Int),0,1,false,0)]else none else some<|C:Option (List Xm)) λD=>∃l c,D=l++[c]/\CQ p L i e l c:=by
    refine Xa (λh0=>Yi Wq<|Wt ⟨C,_,rfl,H.new he λb hb=>?_⟩) λh0=>?_;.rw[show i=0 by omega]at hb;exact nomatch hb
    have h00:0<i:=by omega
    have h2:=hprev h00;rw[show W3 ((i:Int)-1)=((i-1:Nat):Int)by rw[wk Wq];omega,Z4<|hb' h00];obtain⟨l,d,b2,q3,_,q4,q5⟩:=H.last.resolve_left λh=>by omega
    rw[hb' h00]at q4;cases q4;subst q3;refine Xa (λh1=>Yi Wq<|Wt ⟨_,_,rfl,H.new he λb hb=>?_⟩) λh1=>Wt ⟨l,d,rfl,?_⟩;.have:=BC1 H.sp b hb;omega
    .have:=H.old;rwa[show d.1=(e:Int)by omega]at this
   have hpr:Ok (if(0:Int)<(i:Int)then(gI L<|W3<|(i:Int)-1).bind λx=>if(e:Int)<x.1 then some<|Sum.inl<|(([],false):List Xm×Bool)else some<|Sum.inr<|()else some<|Sum.inr<|():Option (List Xm×Bool⊕Unit)) λx=>x=.inr ():=by refine Xa (λh0=>?_) λh0=>Wt rfl;have h2:=hprev Wq;rw[show W3 ((i:Int)-1)=((i-1:Nat):Int)by rw[wk Wq];omega,Z4<|hb' Wq];exact Xa λh1=>by omega λh1=>Wt rfl
   rw[ok_eq hpr];simp only[aa];refine Wv key λD hD=>Yi Wq ?_;obtain⟨l,c,rfl,Q⟩:=hD;have hll:=Q.len;have hc:=Q.ok c W4;rw[hkr];simp only[aa];rw[A9i Wq,Z4<|Al2 l c,Al3,Z4<|Al2 l _,Al3,Yr Wq,Zh (x:=c.2.1+1) Wq Wq,(Aoi hc.2.2.1 hlg).2];exact Wt ⟨hi,_,rfl,hi,Q.put hbi hlg⟩
  .obtain⟨C,rfl,hC⟩:=hex;exact Wt ⟨rfl,hC⟩
 obtain⟨⟨C,ok⟩,h1,h2,h4⟩:=main;dsimp only at h2;subst h2;exact⟨C,h1,h4⟩
end
theorem BC2{L M:List Xe}{C D:List Xm}(H:CO p L L.length C)(G:CO p M M.length D)(hL:AE0 L)(hM:AE0 M)(hd:∀e,AA9 L e=AA9 M e)(hs:∀e,sgE (sO p) L e=sgE (sO p) M e):C=D:=by
 have p1:=H.sp;have p2:=G.sp;rw[aF]at p1 p2;obtain⟨h1,h2⟩:=Alx p1 p2 hL hM hd;refine bP λi=>?_;rcases cg i C.length with h|h;.have g1:=ai h;have g2:=ai (show i<D.length by omega);obtain⟨a1,a2,-,-,a3,a4,-,-⟩:=h2 i _ _ g1 g2;have b1:=(H.ok _<|aG h).2.2.2;have b2:=(G.ok _<|aG<|show i<D.length by omega).2.2.2;rw[g1,g2];exact congrArg some<|Prod.ext a1<|Prod.ext a2<|Prod.ext (by rw[a3,a4,hs]) (by rw[b1,b2])
 .rw[aL h,aL Wq]
theorem Aaf{α:Type}{z:α}{f:Xe->α}:∀{L:List Xe}{i:Nat}{b:Xe},(∀b∈L,b.2.1=1)->L[i]?=some b->atL z f L i=f b
 |[],_,_,_,h=>by simp at h|c::L,0,b,hs,h=>by
   have h1:=hs c W4;rw[AIx Wq];simp at h;rw[h]|c::L,i+1,b,hs,h=>by
   have h1:=hs c W4;rw[Nat.add_comm i 1,AH5 Wq];exact Aaf λb hb=>hs b<|by simp[hb] (by simpa using h)
theorem Aiq:∀{L:List Xe},(∀b∈L,b.2.1=1)->AAa L=L.length
 |[],_=>rfl|c::L,h=>by
   have:=h c W4;rw[AAb,Aiq λb hb=>h b (by simp[hb]),List.length_cons];omega
theorem Air{p:Int}:∀{L:List Xe},(∀b∈L,b.2.1=1)->∀i j,i<AAa L->j<AAa L->bmp p L i j=if i=j then atL 0 (λb=>p^b.1.toNat*b.2.2.1) L i else 0
 |[],_,i,_,h,_=>absurd h (bW i)|c::L,h,i,j,hi,hj=>by
   have hc:=h c W4;have ih:=Air (p:=p) (L:=L) λb hb=>h b (by simp[hb]);have f:=Aei (p:=p) (c:=c) (L:=L) Wq;have hs:c.2.1.toNat=1:=by omega
   rw[AAb,hs]at hi hj;rcases AIf hi with hi|⟨i,rfl,ki⟩<;>rcases AIf hj with hj|⟨j,rfl,kj⟩;.rw[f.hd i j hi hj,AIx Wq,if_pos Wq]
   .rw[f.ur i j hi,if_neg Wq]
   .rw[f.lo j i hj,if_neg Wq]
   .rw[f.tl,ih i j ki kj,AH5 hs];by_cases e:i=j;.rw[if_pos e,if_pos Wq]
    .rw[if_neg e,if_neg Wq]
theorem Agh{sg:Xe->Int}(x:Int):∀{L:List Xe},(∀b∈L,b.2.1=1)->(∀b∈L,0<=b.1)->sgE sg L x=ABo (λi=>if(eL L i:Int)=x then atL 1 sg L i else 1) (AAa L)
 |[],_,_=>rfl|c::L,h,h0=>by
   have hc:=h0 c W4;have hs:=h c W4;rw[AAb,APw];unfold eL;rw[ANe (n:=AAa L) (g:=λi=>if(eL L i:Int)=x then atL 1 sg L i else 1) λi _=>by rw[AH5 rfl,AH5 rfl];rfl,<-Agh x λb hb=>h b<|by simp[hb] λb hb=>h0 b<|by simp[hb]];show(if c.1=x then sg c else 1)*_=_;congr 1;rw[hs];show _=1*if((atL 0 (λb:Xe=>b.1.toNat) (c::L) 0:Nat):Int)=x then atL 1 sg (c::L) 0 else 1;rw[AIx Wq,AIx Wq,show((c.1.toNat:Nat):Int)=c.1 by omega,am]
theorem Ais{f:Nat->Int}{n k m:Nat}(h:k+m<=n)(hz:∀i,i<n->i<k∨k+m<=i->f i=1):ABo f n=ABo (λr=>f<|k+r) m:=by rw[show n=k+(m+(n-k-m))by omega,APw,APw,AVa (f:=f) λi hi=>hz i Wq<|.inl hi,AVa (n:=n-k-m) λi hi=>hz _ Wq<|.inr Wq,am,be]
structure A9k(M:List (List Int))(p:Int)(K:Nat)(T G:Wz)(L:List Xe)(C:List Xm):Prop where
 e:Eli M.length K p (ent M) T G
 w:∀i j,i<M.length->j<M.length->G i j=bmp p L i j
 ob:∀b∈L,OB p K b
 asc:∀i,Asc L i
 sum:AAa L=M.length
 c:CO p L L.length C
theorem Aow{K:Nat}{L:List Xe}(h:∀b∈L,OB p K b):(∀b∈L,b.2.1=1)/\(∀b∈L,0<=b.1)/\∀b∈L,b.1.toNat<K/\¬p∣b.2.2.1:=by
 refine⟨λb hb=>?_,λb hb=>?_,λb hb=>?_⟩<;>(obtain⟨e,u,rfl,h1,h2,-,-⟩:=h b hb);.rfl
 .exact Int.natCast_nonneg e
 .exact⟨by dsimp only;omega,h1⟩
theorem BC3{n K E:Nat}{H T G:Wz}{L:List Xe}(S:JS n K p H T G n E)(B:JL n p G L n E)(hI:PrI p)(hq:p^K<=2147483647):(∀b∈L,OB p K b)/\AAa L=n/\∀i j,i<n->j<n->G i j=bmp p L i j:=by
 have hp:=hI.1;have hLn:=B.len;have hb:∀i b,L[i]?=some b->OB p K b/\G i i=p^b.1.toNat*b.2.2.1:=λi b hi=>by
  have Ae:=(aw.1 hi).1;obtain⟨h1,⟨e,u,rfl,h3,h4⟩,h5⟩:=B.bl i b hi;have hgi:=S.rg i i Wq Wq;have hek:=Ayf hI h3 h4 hgi;have Ah:=AYs Wq hq;have hpe:0<p^e:=aA Wq;have Ac:0<=u:=by
   rcases ap u 0 with h|h;.have:=Int.mul_neg_of_neg_of_pos h hpe;omega
   .exact h
  have Ai:u*1<=u*p^e:=ah Wq Ac;exact⟨⟨e,u,rfl,h4,hek,Wq,Wq⟩,by rw[h3];exact aJ _ _⟩
 have ob:∀b∈L,OB p K b:=λb Ad=>by
  obtain⟨i,hi⟩:=bH Ad;exact(hb i b hi).1
 have one:=(Aow ob).1;have hs:=Aiq one;refine⟨ob,Wq,λi j hi hj=>?_⟩;rw[Air one i j Wq Wq];by_cases e:i=j;.subst e;have hg:=ai (show i<L.length by omega);rw[if_pos rfl,Aaf one hg,(hb i _ hg).2]
 .rw[if_neg e,S.z i j hi hj λh=>e h.symm]
theorem BC4{M:List (List Int)}(R:AS0 M)(hp:Pr p)(Aa:2<p)(Ab:p<=9973)(hd:det M.length (ent M)=r*p^v)(hr:¬p∣r)(hf:2147483648<fuel):∃T G L C,ADq fuel M p=some ((p,Xw M.length M.length T,L),0)/\AAz fuel p (Xw M.length M.length T) L=some (C,true)/\A9k M p (v+1) T G L C/\C.length<=8:=by
 have hI:=AL9 hp;obtain⟨K,E,T,G,L,e1,e2,hK,hq,hv,S,B⟩:=A8u R hp Aa Ab hf;have hKv:=Abz Wq hv ⟨v,r,rfl,hd,hr⟩;obtain rfl:K=v+1:=by omega
 obtain⟨ob,h1,h2⟩:=BC3 S B hI hq;have hLn:=B.len;have Ah:=R.1;obtain⟨C,e3,H⟩:=A9j (fuel:=fuel) (T:=Xw M.length M.length T) ob B.asc (Anz ⟨Aa,hp⟩) Ab Wq Wq hf;exact⟨T,G,L,C,e1,e3,⟨S.e,h2,ob,B.asc,h1,H⟩,by have:=H.len;omega⟩
theorem A9l{L:List Xe}(h:∀b∈L,b.2.1=1):AE0 L:=λb hb=>.inl<|h b hb
def uA(L:List Xe)(i:Nat):Int:=atL 0 (λb=>b.2.2.1) L i
theorem Azh{L:List Xe}(h:∀b∈L,b.2.1=1)(hi:i<AAa L)(hj:j<AAa L):bmp p (L.map z0) i j=if i=j then uA L i else 0:=by
 have h1:∀b∈L.map z0,b.2.1=1:=λb hb=>by
  obtain⟨c,hc,rfl⟩:=ae.1 hb;exact h c hc
 rw[Air h1 i j (by rw[Ayy];exact hi) (by rw[Ayy];exact hj)];by_cases e:i=j
 .rw[if_pos e,if_pos e];have hiL:i<L.length:=by rw[<-Aiq h];exact hi
  have hg:=ai hiL;rw[Aaf h1 (b:=z0 L[i]) (by rw[ax,hg];rfl)];unfold uA;rw[Aaf h hg];show p^0*L[i].2.2.1=_;rw[bE,am]
 .rw[if_neg e,if_neg e]
theorem Aox{L:List Xe}{y k m:Nat}(hp:OPr p)(h:∀b∈L,b.2.1=1)(h0:∀b∈L,0<=b.1)(hk:k+m<=AAa L)(w1:∀i,k<=i->i<k+m->eL L i=y)(w2:∀i,i<AAa L->eL L i=y->k<=i/\i<k+m):sgE (sO p) L y=lg p (det m<|shF k<|bmp p<|L.map z0):=by rw[Agh _ h h0,Ais hk λi hi hw=>by rw[if_neg λe=>by have:=w2 i hi Wq;omega]];rw[AZt (F:=shF k<|bmp p<|L.map z0) λi j hij hj=>by show bmp p (L.map z0) (k+i) (k+j)=0;rw[Azh h Wq Wq,if_neg Wq],Alq hp];refine ANe λr hr=>?_;show _=lg p (bmp p (L.map z0) (k+r)<|k+r);rw[Azh h Wq Wq,if_pos rfl,w1 (k+r) Wq Wq,if_pos rfl];have hg:=ai (show k+r<L.length by rw[<-Aiq h];omega);unfold uA;rw[Aaf h hg,Aaf h hg]
structure BkF(n K:Nat)(p:Int)(A:Wz)(L:List Xe):Prop where
 car:∃T,Eli n K p A T (bmp p L)sz:AE0 L
 nn:∀b∈L,0<=b.1/\b.1.toNat<K/\¬p∣dB b
 asc:L.Pairwise λa b=>a.1<=b.1
 sum:AAa L=n
variable{n K:Nat}{p:Int}{A A' U:Wz}{L L':List Xe}
theorem A9k.bk{M:List (List Int)}{T G:Wz}{C:List Xm}(D:A9k M p K T G L C):BkF M.length K p (ent M) L:=by obtain⟨h1,h2,h3⟩:=Aow D.ob;exact⟨⟨T,λi j hi hj=>(D.e.c i j hi hj).trans (Xp.of_eq<|D.w i j hi hj),D.e.d⟩,A9l h1,λb hb=>⟨h2 b hb,(h3 b hb).1,by unfold dB;grind⟩,Aej λi _=>D.asc i,D.sum⟩
theorem A9g.bk{M:List (List Int)}{T G:Wz}{C:List Xm}(D:A9g M K T G L C):BkF M.length K 2 (ent M) L:=⟨⟨T,λi j hi hj=>(D.e.c i j hi hj).trans (Xp.of_eq<|D.w i j hi hj),D.e.d⟩,D.sz,λb hb=>⟨(D.bp b hb).1.1,by have:=(D.bp b hb).1;omega,AW2.2 (D.bp b hb).odd⟩,Aej D.asc,D.sum⟩
theorem BkF.jd(B:BkF n K p A L):Jd n K p (eL L) (bmp p<|L.map z0) (bmp p L):=BCx B.sz B.sum B.asc (λb hb=>(B.nn b hb).2.1) (λb hb=>(B.nn b hb).2.2) λ_ _ _ _=>Xp.refl _ _
theorem BkF.link(B:BkF n K p A L)(B':BkF n K p A' L')(hp:PrI p)(hK:1<=K)(hU:ALm n A U A')(hu:det n U*det n U=1):∃R,¬p∣det n R/\Car n K p (bmp p L) R (bmp p L'):=by obtain⟨T,e⟩:=B.car;obtain⟨T',e'⟩:=B'.car;exact A3y hp hK e e' hU hu
theorem BkF.exps(B:BkF n K p A L)(B':BkF n K p A' L')(hp:PrI p)(hK:1<=K)(hU:ALm n A U A')(hu:det n U*det n U=1):(∀i,i<n->eL L i=eL L' i)/\∀x,AA9 L x=AA9 L' x:=by obtain⟨R,hR,hc⟩:=B.link B' hp hK hU hu;have he:∀i,i<n->eL L i=eL L' i:=λi hi=>Abx hp hR B.jd B'.jd hc hi;refine⟨he,λx=>?_⟩;rw[AR2 x B.sz λb hb=>(B.nn b hb).1,AR2 x B'.sz λb hb=>(B'.nn b hb).1,B.sum,B'.sum];exact Wy λi hi=>by grind
def scB(k:Int)(b:Xe):Xe:=(b.1,b.2.1,k*b.2.2.1,k*b.2.2.2.1,k*b.2.2.2.2)
def dnB(b:Xe):Xe:=(b.1-1,b.2)
theorem AY0{k:Int}{f g:Xe->Xe}(hf:∀b,(f b).2.1=b.2.1)(hg:∀b,(g b).2.1=b.2.1):∀(L:List Xe)(r:Nat)(F F':Wz),(∀b∈L,p^(f b).1.toNat*(f b).2.2.1=k*(p^(g b).1.toNat*(g b).2.2.1)/\p^(f b).1.toNat*(f b).2.2.2.1=k*(p^(g b).1.toNat*(g b).2.2.2.1)/\p^(f b).1.toNat*(f b).2.2.2.2=k*(p^(g b).1.toNat*(g b).2.2.2.2))->(∀i j,F i j=k*F' i j)->∀i j,AQ1 p (L.map f) r F i j=k*AQ1 p (L.map g) r F' i j
 |[],_,_,_,_,h=>h|b::L,r,F,F',hb,h=>by
   obtain⟨h1,h2,h3⟩:=hb b W4;intro i j;rw[b8,b8,ADa,ADa,hf,hg];split;.exact AY0 hf hg L _ _ _ λc hc=>hb c<|by grind λi j=>by rw[AAe,AAe,h1,h2,h3,h];split<;>(try split)<;>(try split)<;>(try split)<;>rfl i j
   .exact AY0 hf hg L _ _ _ λc hc=>hb c<|by grind λi j=>by rw[ABq,ABq,h1,h];split<;>rfl i j
theorem Aag{f:Xe->Xe}(hs:∀b,(f b).2.1=b.2.1)(h:AE0 L):AE0 (L.map f):=λb hb=>by
 obtain⟨c,hc,rfl⟩:=ae.1 hb;rw[hs];exact h c hc
theorem Ait{f:Xe->Xe}(hs:∀b,(f b).2.1=b.2.1):∀L:List Xe,AAa (L.map f)=AAa L|[]=>rfl|b::L=>by show(f b).2.1.toNat+AAa (L.map f)=_+AAa L;rw[hs,Ait hs L]
theorem BkF.scale(B:BkF n K p A L)(hp:PrI p)(hk:¬p∣k):BkF n K p (λi j=>k*A i j) (L.map<|scB k):=by
 obtain⟨T,e⟩:=B.car;refine⟨⟨T,λi j hi hj=>(Aad (d:=k) e.c i j hi hj).trans (Xp.of_eq ?_),e.d⟩,Aag (f:=scB k) (λ_=>rfl) B.sz,λb hb=>?_,bO.2 B.asc,(Ait (f:=scB k) (λ_=>rfl) L).trans B.sum⟩;.have h:=AY0 (p:=p) (k:=k) (f:=scB k) (g:=id) (λ_=>rfl) (λ_=>rfl) L 0 (λ_ _=>0) (λ_ _=>0) λb _=>by simp only[scB,id];grind λ_ _=>by omega i j;simp_all
 .obtain⟨c,hc,rfl⟩:=ae.1 hb;obtain⟨h1,h2,h3⟩:=B.nn c hc;refine⟨h1,h2,?_⟩;unfold dB scB at*;dsimp only;split;.rename_i h;rw[if_pos h]at h3;rw[show k*c.2.2.1*(k*c.2.2.2.2)-k*c.2.2.2.1*(k*c.2.2.2.1)=k*k*(c.2.2.1*c.2.2.2.2-c.2.2.2.1*c.2.2.2.1)by grind];exact hp.ndvd_mul (hp.ndvd_mul hk hk) h3
  .rename_i h;rw[if_neg h]at h3;exact hp.ndvd_mul hk h3
theorem A9m{e:Nat->Nat}{a D:Wz}(hK:1<=K)(J:Jd n K p e a D)(h:∀i j,i<n->j<n->p∣D i j)(hi:i<n):1<=e i:=by
 false_or_by_contra;obtain⟨c,u,c1,c2,c3⟩:=J.inv;refine c2 i hi ?_;have h1:=c3 i i hi hi;rw[show dl i i=1 from if_pos rfl,be]at h1;rw[<-h1];refine AX8 λk hk=>?_;by_cases Ad:e i=e k;.have h2:=J.ent k i hk hi;rw[show e k=0 by omega,bE,am]at h2;exact aq (AKr h2.symm ⟨p^(K-1),by rw[<-bz,show K-1+1=K by omega]⟩<|h k i hk hi) ⟨c i k,aJ _ _⟩
 simp_all
theorem BkF.down(B:BkF n K p (λi j=>p*A i j) L)(hp:PrI p)(hK:2<=K):(∀b∈L,1<=b.1)/\BkF n (K-1) p A (L.map dnB):=by
 obtain⟨T,e⟩:=B.car;have hd:∀i j,Xz n (trF T) (Xz n (λi j=>p*A i j) T) i j=p*Xz n (trF T) (Xz n A T) i j:=λi j=>by
  unfold Xz;rw[AE5];exact Wy λk _=>by rw[show psum (λl=>p*A k l*T l j) n=p*psum (λl=>A k l*T l j) n by rw[AE5];grind];grind
 have hpos:∀i,i<n->1<=eL L i:=λi hi=>A9m Wq B.jd λi j hi hj=>AKr (e.c i j hi hj).symm ⟨p^(K-1),by rw[<-bz,show K-1+1=K by omega]⟩<|by simp_all hi;have h1:∀b∈L,1<=b.1:=λb hb=>by
  have h0:=(B.nn b hb).1;false_or_by_contra;have h2:=(AJt (e:=0) B.sz).1.1 ⟨b,hb,Wq⟩;rw[AR2 0 B.sz λb hb=>(B.nn b hb).1,B.sum,Wy (g:=λ_=>0) λi hi=>if_neg (by grind),Y8]at h2;omega
 have hpw:p^K=p*p^(K-1):=by rw[<-bz,show K-1+1=K by omega]
 refine⟨h1,⟨T,λi j hi hj=>?_,e.d.down ⟨p,by grind⟩⟩,Aag (f:=dnB) (λ_=>rfl) B.sz,λb hb=>?_,?_,(Ait (f:=dnB) (λ_=>rfl) L).trans B.sum⟩
 .have h2:=AY0 (p:=p) (k:=p) (f:=id) (g:=dnB) (λ_=>rfl) (λ_=>rfl) L 0 (λ_ _=>0) (λ_ _=>0) λb hb=>by
   have h3:=h1 b hb;have h4:b.1.toNat=(b.1-1).toNat+1:=by omega
   simp only[dnB,id];grind λ_ _=>by omega i j;rw[ci]at h2;have h5:=AEy<|e.c i j hi hj;rw[hd,show bmp p L i j=_ from h2,<-Int.mul_sub,hpw]at h5;exact ACw<|bw hp.ne h5
 .obtain⟨c,hc,rfl⟩:=ae.1 hb;have h2:=h1 c hc;obtain⟨h3,h4,h5⟩:=B.nn c hc;refine⟨?_,?_,h5⟩;.show 0<=c.1-1;omega
  .show(c.1-1).toNat<K-1;omega
 .rw[bO];exact B.asc.imp λh=>by show _-1<=_-1;omega
theorem BkF.prec{K':Nat}(B:BkF n K p A L)(hK:K'<=K)(h:∀b∈L,b.1.toNat<K'):BkF n K' p A L:=by obtain⟨T,e⟩:=B.car;have hd:p^K'∣p^K:=Yb hK;exact⟨⟨T,λi j hi hj=>(e.c i j hi hj).down hd,e.d.down hd⟩,B.sz,λb hb=>⟨(B.nn b hb).1,h b hb,(B.nn b hb).2.2⟩,B.asc,B.sum⟩
theorem Al4{F:Wz}(hi:i<n)(h:∀j,j<n->d∣F i j):d∣det n F:=by
 have h1:∀j,∃x,j<n->F i j=d*x:=λj=>by
  by_cases hj:j<n;.obtain⟨x,hx⟩:=h j hj;grind
  .exact⟨0,λh=>absurd h hj⟩
 obtain⟨u,hu⟩:=Classical.axiomOfChoice h1;have h2:det n F=det n (Ym F i λq=>d*u q):=Xo λr c hr hc=>by
  rw[Xk];grind
 rw[h2];rw[AZs u d hi];simp_all
theorem BkF.le_v(B:BkF n K p A L)(hp:PrI p)(hd:det n A=r*p^v)(hr:¬p∣r)(hv:v<K):∀b∈L,b.1<=v:=λb hb=>by
 false_or_by_contra;rename_i hlt;obtain⟨T,e⟩:=B.car;have h0:=(B.nn b hb).1;obtain⟨i,hi,hei⟩:∃i,i<n/\(eL L i:Int)=b.1:=by
  false_or_by_contra;rename_i hno;have h2:=(AJt (e:=b.1) B.sz).1.1 ⟨b,hb,rfl⟩;rw[AR2 _ B.sz λb hb=>(B.nn b hb).1,B.sum,Wy (g:=λ_=>0) λi hi=>if_neg λh=>hno ⟨i,hi,h⟩,Y8]at h2;omega
 have hp1:p^(v+1)∣p^K:=Yb Wq;have h3:p^(v+1)∣det n (bmp p L):=Al4 hi λj hj=>by rw[Ayx L B.sz i j (by rw[B.sum];exact hi) (by rw[B.sum];exact hj)];exact aq (Yb Wq) ⟨_,rfl⟩
 have h4:p^(v+1)∣det n T*(det n A*det n T):=by have h5:Xp (p^K) (det n<|Xz n (trF T)<|Xz n A T) (det n<|bmp p L):=ASu λi j hi hj=>e.c i j hi hj;rw[ADf,ADf,AEb]at h5;exact AKr h5 hp1 h3
 have hT:=Aor e hp Wq;have h6:=hp.cancel hT _ h4;rw[aJ]at h6;have h7:=hp.cancel hT _ h6;rw[hd,au,aJ r]at h7;exact hr<|bw (bt hp.ne) h7
end Go.Proofs.YtgmdhndbcohgiaaGreatDoor
namespace Go.Proofs.YtgmdhndbcohgiaaGreatDoor
variable{n K:Nat}{p:Int}{A A' U:Wz}{L L':List Xe}
def SmP(p:Int)(L L':List Xe):Prop:=(∀e,AA9 L e=AA9 L' e)/\∀e,sgE (sO p) L e=sgE (sO p) L' e
theorem BkF.sm(B:BkF n K p A L)(B':BkF n K p A' L')(hp:OPr p)(hI:PrI p)(hK:1<=K)(a1:∀b∈L,b.2.1=1)(b1:∀b∈L',b.2.1=1)(hU:ALm n A U A')(hu:det n U*det n U=1):SmP p L L':=by
 obtain⟨R,hR,hc⟩:=B.link B' hI hK hU hu;obtain⟨he,hd⟩:=B.exps B' hI hK hU hu;have a2:=λb hb=>(B.nn b hb).1;have b2:=λb hb=>(B'.nn b hb).1;have s1:=B.sum;have s2:=B'.sum;refine⟨hd,λx=>?_⟩;rcases ap x 0 with h|h;.rw[ANp λb hb=>by grind,ANp λb hb=>by grind]
 obtain⟨y,rfl⟩:∃y:Nat,x=y:=⟨x.toNat,Wq⟩;obtain⟨k,m,c1,c2,w1,w2⟩:=Ay1 y B.jd.asc;have hkm:k+m<=n:=c2.1;rw[Aox hp a1 a2 Wq w1 λi hi=>w2 i Wq,Aox hp b1 b2 (k:=k) (m:=m) Wq λi h1 h2=>by grind λi hi h=>w2 i Wq<|by grind];obtain⟨s,hs,hdet⟩:=As7 hI hR B.jd B'.jd hc c1 c2 λi h1 h2=>by grind
 have hls:=Aw2 hp (a:=s) λh=>hs<|aj h;rw[AUm hp hdet,AZz hp,AZz hp];grind
theorem A9n{p:Int}{L M:List Xe}{C:List Xm}(H:CO p L L.length C)(G:CO p M M.length C):SmP p L M:=by
 have h1:=H.sp;have h2:=G.sp;rw[aF]at h1 h2;have key:∀e,AA9 L e=AA9 M e/\sgE (sO p) L e=sgE (sO p) M e:=λe=>by
  by_cases h:∃c∈C,c.1=e
  .obtain⟨c,hc,rfl⟩:=h;exact⟨(h1.dim c hc).symm.trans (h2.dim c hc),(h1.sgn c hc).symm.trans (h2.sgn c hc)⟩
  .have a:∀b∈L,b.1≠e:=λb hb he=>h<|(h1.mem e).2 ⟨b,hb,he⟩;have b:∀b∈M,b.1≠e:=λb hb he=>h<|(h2.mem e).2 ⟨b,hb,he⟩;exact⟨by rw[ALj a,ALj b],by rw[ANp a,ANp b]⟩
 exact⟨λe=>(key e).1,λe=>(key e).2⟩
theorem AVl(k e:Int):∀L:List Xe,AA9 (L.map<|scB k) e=AA9 L e|[]=>rfl|b::L=>by show(if b.1=e then b.2.1 else 0)+AA9 (L.map<|scB k) e=_;rw[AVl k e L];rfl
theorem Aoy{k e:Int}(hp:OPr p):∀{L:List Xe},(∀b∈L,b.2.1=1)->sgE (sO p) (L.map<|scB k) e=lg p k^(AA9 L e).toNat*sgE (sO p) L e
 |[],_=>show(1:Int)=lg p k^0*1 by grind|b::L,h=>by
   have hd:0<=AA9 L e:=(AJt λc hc=>.inl<|h c<|by grind).2;have ih:=Aoy (k:=k) (e:=e) hp (L:=L) λc hc=>h c (by grind);have hb:=h b W4;show(if b.1=e then sO p (scB k b)else 1)*sgE (sO p) (L.map<|scB k) e=lg p k^((if b.1=e then b.2.1 else 0)+AA9 L e).toNat*((if b.1=e then sO p b else 1)*sgE (sO p) L e);rw[ih];split
   .rw[hb,show(1+AA9 L e).toNat=(AA9 L e).toNat+1 by omega,au];show lg p (k*b.2.2.1)*_=_*(lg p b.2.2.1*_);rw[AZz hp];grind
   grind
theorem BC5(hp:OPr p)(hk:k%p≠0)(h1:∀b∈L,b.2.1=1)(h2:∀b∈L',b.2.1=1):SmP p (L.map<|scB k) (L'.map<|scB k)↔SmP p L L':=by
 unfold SmP;have hs:∀m:Nat,lg p k^m*lg p k^m=1:=λm=>by
  rw[<-bK];rw[show lg p k*lg p k=1 by rcases Aw2 hp hk with h|h<;>rw[h]<;>rfl,ck]
 have hd:(∀e,AA9 (L.map<|scB k) e=AA9 (L'.map<|scB k) e)↔∀e,AA9 L e=AA9 L' e:=by simp only[AVl]
 rw[hd];refine and_congr_right λhd=>forall_congr' λe=>?_;rw[Aoy hp h1,Aoy hp h2,hd e];grind
theorem AVm(e:Int):∀L:List Xe,AA9 (L.map dnB) e=AA9 L (e+1)
 |[]=>rfl|b::L=>by
   show(if b.1-1=e then b.2.1 else 0)+AA9 (L.map dnB) e=(if b.1=e+1 then b.2.1 else 0)+AA9 L (e+1);rw[AVm e L];omega
theorem Azi{sg:Xe->Int}(hs:∀b,sg (dnB b)=sg b)(e:Int):∀L:List Xe,sgE sg (L.map dnB) e=sgE sg L (e+1)
 |[]=>rfl|b::L=>by
   show(if b.1-1=e then sg (dnB b)else 1)*sgE sg (L.map dnB) e=(if b.1=e+1 then sg b else 1)*sgE sg L (e+1);rw[Azi hs e L,hs];grind
theorem BC6:SmP p (L.map dnB) (L'.map dnB)↔SmP p L L':=by unfold SmP;have h:∀{α:Type}{f g:Int->α},(∀e:Int,f (e+1)=g (e+1))↔∀e,f e=g e:=λ{α f g}=>⟨λh e=>by have:=h<|e-1;grind,λh e=>h _⟩;simp only[AVm,Azi (sg:=sO p) λ_=>rfl];simp_all
theorem SmP.symm(h:SmP p L L'):SmP p L' L:=⟨λe=>(h.1 e).symm,λe=>(h.2 e).symm⟩
theorem SmP.trans{N:List Xe}(h:SmP p L L')(k:SmP p L' N):SmP p L N:=⟨λe=>(h.1 e).trans (k.1 e),λe=>(h.2 e).trans (k.2 e)⟩
end Go.Proofs.YtgmdhndbcohgiaaGreatDoor
namespace Go.Proofs.YtgmdhndbcohgiaaGreatDoor
variable{n K:Nat}{A A' U:Wz}{L L':List Xe}
def Ty(L:List Xe)(x:Int):Prop:=∃b∈L,b.1=x/\b.2.1=1
theorem BQ.dg{b:Xe}(h:BQ b):b.2.1=1/\b.2.2.1%2=1∨b.2.1=2/\b.2.2.1%2=0/\b.2.2.2.2%2=0:=h.2.imp id λh=>⟨h.1,h.2.1,h.2.2.2⟩
theorem BkF.ty1(B:BkF n K 2 A L)(B':BkF n K 2 A' L')(q:∀b∈L,BQ b)(q':∀b∈L',BQ b)(hK:1<=K)(hU:ALm n A U A')(hu:det n U*det n U=1)(hx:Ty L' x):Ty L x:=by
 obtain⟨R,hR,hc⟩:=B.link B' AW3 hK hU hu;have he:=(B.exps B' AW3 hK hU hu).1;have s1:=B.sum;have s2:=B'.sum;obtain⟨b0,m1,m2,m3⟩:=hx;have h0:=(q' b0 m1).1;obtain⟨x,rfl⟩:∃y:Nat,x=y:=⟨x.toNat,Wq⟩;false_or_by_contra;rename_i hno;have h1:=(Aio B.sz (λb hb=>(q b hb).dg) x).2 λ⟨b,hb,h2,h3⟩=>hno ⟨b,hb,by have:=(q b hb).1;omega,h3⟩;refine(Aio B'.sz (λb hb=>(q' b hb).dg) x).1 (λi hi hx=>?_) ⟨b0,m1,Wq,m3⟩;rw[s1]at h1;rw[s2]at hi;obtain⟨k,m,c1,c2,w1,w2⟩:=Ay1 x B.jd.asc;obtain⟨h3,h4⟩:=w2 i hi (by grind);exact An6 AW3 hR B.jd B'.jd hc c1 c2 λi a b=>by grind (λi a b=>h1 i (by have:=c2.1;omega)<|w1 i a b) i h3 h4
def wM(M e:Nat):Nat:=if e<M then M+1+e else 2*M
theorem Aiu(M:Nat):∀{L:List Xe},AE0 L->((rM M L:Nat):Int)=psum (λi=>((wM M (eL L i):Nat):Int)) (AAa L)
 |[],_=>rfl|c::L,h=>by
   rw[AAb,ABn];unfold eL;rw[Wy (n:=AAa L) (g:=λi=>((wM M (eL L i):Nat):Int)) λi _=>by rw[AH5 rfl];rfl,<-Aiu M λb hb=>h b<|by grind];rw[Wy (n:=c.2.1.toNat) (g:=λi=>((wM M c.1.toNat:Nat):Int)) λi hi=>by rw[AIx hi]];show((c.2.1.toNat*wM M c.1.toNat+rM M L:Nat):Int)=_;rcases h c W4 with h|h;.rw[h];show _=psum _ 1+_;simp[psum]
   .rw[h];show _=psum _ 2+_;simp only[psum];grind
theorem BkF.lev(B:BkF n K 2 A L)(B':BkF n K 2 A' L')(q:∀b∈L,BQ b)(q':∀b∈L',BQ b)(hU:ALm n A U A')(hu:det n U*det n U=1){M:Nat}(hM:M<=16)(hMK:M<=K)(hK:1<=K)(g:¬Ty L ((M:Int)-1))(g':¬Ty L' ((M:Int)-1)):tM M L%8=tM M L'%8:=by
 obtain⟨R,hR,hc⟩:=B.link B' AW3 hK hU hu;have he:=(B.exps B' AW3 hK hU hu).1;have h1:=A3s hM (AW2.1 hR) λi j hi hj=>(hc i j hi hj).down (Yb hMK);have h2:=Ay2 hM q λb hb h=>g ⟨b,hb,by have:=(q b hb).1;omega,h.1⟩;have h3:=Ay2 hM q' λb hb h=>g' ⟨b,hb,by have:=(q' b hb).1;omega,h.1⟩;rw[B.sum]at h2;rw[B'.sum,show GSv M n (bm L')=GSv M n (bm L)from h1]at h3;have hr:rM M L=rM M L':=by
  have:=Aiu M B.sz;have:=Aiu M B'.sz;rw[B.sum]at*;rw[B'.sum,Wy λi hi=>by rw[<-he i hi]]at this;omega
 rw[hr]at h2;have h4:=h2.symm.trans h3;refine A9f<|Atk (X:=rM M L') (m:=0) (s:=1) Wr ?_;grind
def nM(M:Nat):List Xe->Nat|[]=>0|b::l=>(if b.1.toNat<M/\(M+1+b.1.toNat)%2=1 then b.2.1.toNat else 0)+nM M l
theorem A9o(a:Int):sg8 a=1∨sg8 a=-1:=by unfold sg8;omega
theorem Al5{M:Nat}:∀{L:List Xe},(∀b∈L,BQ b)->tM M (L.map<|scB 3)%8=(3*tM M L+4*nM M L)%8
 |[],_=>rfl|b::L,h=>by
   have ih:=Al5 (M:=M) (L:=L) λc hc=>h c (by grind);have hb:tBM M (scB 3 b)%8=(3*tBM M b+4*if b.1.toNat<M/\(M+1+b.1.toNat)%2=1 then b.2.1.toNat else 0)%8:=by
    unfold tBM;show(if b.1.toNat<M then _ else _)%8=_;by_cases hM:b.1.toNat<M
    .rw[if_pos hM,if_pos hM];have hs:sg8 (dB<|scB 3 b)=if b.2.1=1 then-sg8 (dB b)else sg8 (dB b):=by
      unfold dB scB;dsimp only;rcases(h b W4).2 with⟨h1,h2⟩|⟨h1,-⟩;.rw[if_neg Wq,if_pos h1,if_neg Wq];unfold sg8;omega
      .rw[if_pos h1,if_pos h1,if_neg Wq];unfold sg8;grind
     show((if b.2.1=1 then(3*b.2.2.1%8).toNat else 0)+if(M+1+b.1.toNat)%2=1/\sg8 (dB<|scB 3 b)=-1 then 4 else 0)%8=_;rw[hs];have hp:=A9o<|dB b;rcases(h b W4).2 with⟨h1,h2⟩|⟨h1,-⟩;.grind
     grind
    grind
   show(tBM M (scB 3 b)+tM M (L.map<|scB 3))%8=(3*(tBM M b+tM M L)+4*((if b.1.toNat<M/\(M+1+b.1.toNat)%2=1 then b.2.1.toNat else 0)+nM M L))%8;omega
theorem Al6{M:Nat}:∀{L:List Xe},(∀b∈L,1<=b.1)->tM M (L.map dnB)=tM (M+1) L
 |[],_=>rfl|b::L,h=>by
   have hb:=h b W4;show tBM M (dnB b)+tM M (L.map dnB)=tBM (M+1) b+tM (M+1) L;rw[Al6 (M:=M) (L:=L) λc hc=>h c<|by grind];congr 1;unfold tBM;have h1:(dnB b).1.toNat=b.1.toNat-1:=by show(b.1-1).toNat=_;omega
   have h2:dB (dnB b)=dB b:=rfl;rw[h1,h2,show(M+1+(b.1.toNat-1))%2=(M+1+1+b.1.toNat)%2 by omega];show(if b.1.toNat-1<M then _ else _)=_;by_cases h:b.1.toNat<M+1;.rw[if_pos h,if_pos Wq];rfl
   grind
end Go.Proofs.YtgmdhndbcohgiaaGreatDoor
namespace Go.Proofs.YtgmdhndbcohgiaaGreatDoor
def RR:List (Int×Bool×Int×Int):=[(0,false,1,0),(1,true,1,1),(1,true,1,7),(1,true,-1,3),(1,true,-1,5),(2,true,1,0),(2,true,1,2),(2,true,1,6),(2,true,-1,2),(2,true,-1,4),(2,true,-1,6),(2,false,1,0),(2,false,-1,0),(3,true,1,1),(3,true,1,3),(3,true,1,5),(3,true,1,7),(3,true,-1,1),(3,true,-1,3),(3,true,-1,5),(3,true,-1,7)]
theorem rr1:∀x∈RR,∀a∈([1,3,5,7]:List Int),1+x.1<=3->(1+x.1,true,s8 a*x.2.2.1,(a+x.2.2.2)%8)∈RR:=by decide
theorem rr2:∀x∈RR,∀a∈([1,-1]:List Int),2+x.1<=3->(2+x.1,x.2.1,a*x.2.2.1,x.2.2.2)∈RR:=by decide
theorem A5k{e:Int}:∀{L:List Xe},(∀b∈L,BQ b)->AA9 L e<=3->∃o:Bool,(o=true↔odE oD L e)/\(AA9 L e,o,sgE sD L e,oE L e%8)∈RR
 |[],_,_=>⟨false,by simp[odE],show((0:Int),false,(1:Int),(0:Int)%8)∈RR by decide⟩|b::L,h,hd=>by
   have hd0:0<=AA9 L e:=(AJt λc hc=>(h c<|by grind).2.imp (·.1) (·.1)).2;have hdd:AA9 (b::L) e=(if b.1=e then b.2.1 else 0)+AA9 L e:=rfl;have hsd:sgE sD (b::L) e=(if b.1=e then sD b else 1)*sgE sD L e:=rfl;have hod:oE (b::L) e=(if b.1=e/\b.2.1=1 then b.2.2.1%8 else 0)+oE L e:=rfl;have hb:=h b W4;rw[hdd]at hd⊢;rw[hsd,hod];obtain⟨o,h1,h2⟩:=A5k (e:=e) (L:=L) λc hc=>h c<|by grind (by
    split at hd;.rcases hb.2 with⟨h,_⟩|⟨h,_⟩<;>omega
    .omega);by_cases he:b.1=e
   .rw[if_pos he]at hd⊢;rw[if_pos he];rcases hb.2 with⟨h3,h4⟩|⟨h3,-⟩
    .refine⟨true,⟨λ_=>⟨b,W4,he,h3⟩,λ_=>rfl⟩,?_⟩;rw[if_pos ⟨he,h3⟩,h3];have h5:=rr1 _ h2 (b.2.2.1%8) (by grind) Wq;have h6:sD b=s8 (b.2.2.1%8):=by have:dB b=b.2.2.1:=if_neg Wq;show s8 (dB b)=_;rw[this];unfold s8;omega
     grind
    .refine⟨o,h1.trans ⟨λ⟨c,hc,h⟩=>⟨c,by grind,h⟩,λ⟨c,hc,hh⟩=>?_⟩,?_⟩
     .rcases bZ.1 hc with rfl|hc;.omega
      .exact⟨c,hc,hh⟩
     .rw[if_neg λh=>by omega,h3,bD];exact rr2 _ h2 (sD b) (by rcases Aq8 (dB b)with h|h<;>(have h:sD b=_:=h)<;>rw[h]<;>decide) Wq
   .rw[if_neg he,if_neg he,if_neg λh=>he h.1,bD,am,bD];refine⟨o,h1.trans ⟨λ⟨c,hc,h⟩=>⟨c,by grind,h⟩,λ⟨c,hc,hh⟩=>?_⟩,h2⟩;rcases bZ.1 hc with rfl|hc;.omega
    .exact⟨c,hc,hh⟩
def st4(c:Xm):Int×Bool×Int×Int:=(c.2.1,c.2.2.2.1,c.2.2.1,c.2.2.2.2)
def shp(c:Xm):Int×Int×Bool:=(c.1,c.2.1,c.2.2.2.1)
def Atl:List (Int×Int×Bool)->List (List Xm)|[]=>[[]]|(e,d,o)::S=>(RR.filter λx=>x.1==d&&x.2.1==o).flatMap λx=>(Atl S).map λl=>(e,d,x.2.2.1,o,x.2.2.2)::l
theorem AY1:∀{C:List Xm},(∀c∈C,st4 c∈RR)->C∈Atl (C.map shp)
 |[],_=>by simp[Atl]|c::C,h=>by
   have ih:=AY1 (C:=C) λd hd=>h d (by grind);show _∈(RR.filter _).flatMap _;refine List.mem_flatMap.2 ⟨st4 c,List.mem_filter.2 ⟨h c W4,by simp[st4,shp]⟩,ae.2 ⟨C,ih,rfl⟩⟩
def Aoz(C:List Xm):Option ((Int×List Xm)×Bool):=AI9 (Zm+1) 2 C
def enc:List Xm->Nat|[]=>0|c::l=>c.1.toNat+16*(c.2.1.toNat+4*((if c.2.2.1=1 then 1 else 0)+2*((if c.2.2.2.1 then 1 else 0)+2*(c.2.2.2.2.toNat+8*enc l))))
def dec:Nat->Nat->List Xm|0,_=>[]|k+1,n=>(((n%16:Nat):Int),((n/16%4:Nat):Int),if n/64%2=1 then 1 else-1,n/128%2==1,((n/256%8:Nat):Int))::dec k (n/2048)
def cd(C:List Xm):Nat:=match Aoz C with|some ((_,X),_)=>enc X|none=>0
def bad(S:List (Int×Int×Bool))(M:Nat):Bool:=S.any λx=>x.2.2&&x.1==(M:Int)
def lcd(S:List (Int×Int×Bool))(C:List Xm):Nat->Nat|0=>0|M+1=>8*lcd S C M+if bad S M then 0 else(tCM (M+1) C%8).toNat
def top(S:List (Int×Int×Bool)):Nat:=S.foldl (λa x=>x.1.toNat) 0
def Chk(S:List (Int×Int×Bool)):Bool:=((Atl S).all λC=>(match Aoz C with|some ((a,X),b)=>b&&(decide (a=2)&&decide (X=dec S.length (cd C)))|none=>false)&&decide ((dec S.length<|cd C).map shp=S)&&(List.range<|top S+3).all λM=>bad S M||decide (tCM (M+1) (dec S.length<|cd C)%8=tCM (M+1) C%8))&&(Atl S).all λC=>(Atl S).all λC'=>!Nat.beq (lcd S C<|top S+3) (lcd S C'<|top S+3)||Nat.beq (cd C) (cd C')
abbrev s3(d a b c:Nat):List (Int×Int×Bool):=[(((d+a:Nat):Int),1,true),(((d+b:Nat):Int),1,true),(((d+c:Nat):Int),1,true)]
theorem c30:∀c<9,1<c->0+1+c<=9->Chk (s3 0 0 1 c)=true:=by decide+kernel
theorem c31:∀b<5,1<b->∀c<8,b<c->0+b+c<=9->Chk (s3 0 0 b c)=true:=by decide+kernel
theorem c32:∀c<9,1<c->0+1+c<=9->Chk (s3 1 0 1 c)=true:=by decide+kernel
theorem c33:∀b<5,1<b->∀c<8,b<c->0+b+c<=9->Chk (s3 1 0 b c)=true:=by decide+kernel
theorem c34:∀b<4,1<b->∀c<7,b<c->1+b+c<=9->Chk (s3 1 1 b c)=true:=by decide+kernel
theorem c35:Chk (s3 1 2 3 4)=true:=by decide+kernel
abbrev s2(d a:Nat)(da:Int)(oa:Bool)(b:Nat)(db:Int)(ob:Bool):List (Int×Int×Bool):=[(((d+a:Nat):Int),da,oa),(((d+b:Nat):Int),db,ob)]
abbrev s1(d a:Nat)(da:Int)(oa:Bool):List (Int×Int×Bool):=[(((d+a:Nat):Int),da,oa)]
theorem c20:∀d<2,∀b<10,0<b->Chk (s2 d 0 1 true b 1 true)=true:=by decide+kernel
theorem c21:∀a<5,0<a->∀b<9,a<b->a+b<=9->Chk (s2 1 a 1 true b 1 true)=true:=by decide+kernel
theorem c22:∀o:Bool,∀d<2,∀b<5,0<b->Chk (s2 d 0 1 true b 2 o)=true:=by decide+kernel
theorem c23:∀o:Bool,∀a<3,0<a->∀b<5,a<b->a+2*b<=9->Chk (s2 1 a 1 true b 2 o)=true:=by decide+kernel
theorem c24:∀o:Bool,∀b<10,0<b->Chk (s2 0 0 2 o b 1 true)=true:=by decide+kernel
theorem c25:∀o:Bool,∀b<10,0<b->Chk (s2 1 0 2 o b 1 true)=true:=by decide+kernel
theorem c26:∀o:Bool,∀a<4,0<a->∀b<8,a<b->2*a+b<=9->Chk (s2 1 a 2 o b 1 true)=true:=by decide+kernel
theorem c10:∀d<2,∀a<10,Chk (s1 d a 1 true)=true:=by decide+kernel
theorem c11:∀o:Bool,∀d<2,∀a<5,Chk (s1 d a 2 o)=true:=by decide+kernel
theorem c12:∀d<2,∀a<4,Chk (s1 d a 3 true)=true:=by decide+kernel
theorem Atm:∀x∈RR,x.1<=3/\(x.1=1->x.2.1=true)/\(x.1=3->x.2.1=true):=by decide
theorem ex1{e:Int}(h:1<=e):∃a:Nat,e=((1+a:Nat):Int):=⟨(e-1).toNat,Wq⟩
theorem ex0{e:Int}(h:0<=e):∃a:Nat,e=((0+a:Nat):Int):=⟨e.toNat,Wq⟩
theorem A37:∀{C:List Xm},(C.Pairwise λa b=>a.1<b.1)->(∀c∈C,(0<=c.1/\0<c.2.1)/\st4 c∈RR)->1<=cN C/\cN C<=3->cV C<=9∨(∀c∈C,1<=c.1)/\cV C-cN C<=9->Chk (C.map shp)=true
 |[],_,_,hn,_=>by have:cN []=0:=rfl;omega|[(e,d,s,o,t)],_,h,hn,hv=>by
   obtain⟨⟨h1,h2⟩,h3⟩:=h (e,d,s,o,t) W4;obtain⟨h4,h5,h6⟩:=Atm _ h3;have hN:cN [(e,d,s,o,t)]=d+0:=rfl;have hV:cV [(e,d,s,o,t)]=d*e+0:=rfl;rw[hN,hV]at hv;dsimp only[st4]at h1 h2 h4 h5 h6;show Chk [(e,d,o)]=true;have hd:d=1∨d=2∨d=3:=by omega
   rcases ap e 1 with he|he
   .obtain rfl:e=((0+0:Nat):Int):=by omega
    rcases hd with rfl|rfl|rfl;.rw[h5 rfl];exact c10 0 Wr 0 Wr
    .exact c11 o 0 Wr 0 Wr
    .rw[h6 rfl];exact c12 0 Wr 0 Wr
   .obtain⟨a,rfl⟩:=ex1 he;rcases hd with rfl|rfl|rfl;.rw[h5 rfl];exact c10 1 Wr a Wq
    .exact c11 o 1 Wr a Wq
    .rw[h6 rfl];exact c12 1 Wr a Wq|[(e,d,s,o,t),(e2,d2,s2,o2,t2)],ha,h,hn,hv=>by
   obtain⟨⟨h1,h2⟩,h3⟩:=h (e,d,s,o,t) W4;obtain⟨⟨g1,g2⟩,g3⟩:=h (e2,d2,s2,o2,t2) W4;obtain⟨h4,h5,h6⟩:=Atm _ h3;obtain⟨g4,g5,g6⟩:=Atm _ g3;have hlt:e<e2:=(aU.1 ha).1 (e2,d2,s2,o2,t2) W4;have hN:cN [(e,d,s,o,t),(e2,d2,s2,o2,t2)]=d+(d2+0):=rfl;have hV:cV [(e,d,s,o,t),(e2,d2,s2,o2,t2)]=d*e+(d2*e2+0):=rfl;rw[hN]at hn;rw[hN,hV]at hv;dsimp only[st4]at h1 h2 h4 h5 h6 g1 g2 g4 g5 g6;show Chk [(e,d,o),(e2,d2,o2)]=true;have hd:d=1/\d2=1∨d=1/\d2=2∨d=2/\d2=1:=by omega
   rcases ap e 1 with he|he
   .obtain rfl:e=((0+0:Nat):Int):=by omega
    obtain⟨b,rfl⟩:=ex0 g1;have hv:d2*((0+b:Nat):Int)<=9:=by grind
    rcases hd with⟨rfl,rfl⟩|⟨rfl,rfl⟩|⟨rfl,rfl⟩;.rw[h5 rfl,g5 rfl];exact c20 0 Wr b Wq Wq
    .rw[h5 rfl];exact c22 o2 0 Wr b Wq Wq
    .rw[g5 rfl];exact c24 o b Wq Wq
   .obtain⟨a,rfl⟩:=ex1 he;obtain⟨b,rfl⟩:=ex1 (show 1<=e2 by omega);rcases hd with⟨rfl,rfl⟩|⟨rfl,rfl⟩|⟨rfl,rfl⟩
    .rw[h5 rfl,g5 rfl];rcases ar a with rfl|ha;.exact c20 1 Wr b Wq Wq
     .exact c21 a Wq ha b Wq Wq Wq
    .rw[h5 rfl];rcases ar a with rfl|ha;.exact c22 o2 1 Wr b Wq Wq
     .exact c23 o2 a Wq ha b Wq Wq Wq
    .rw[g5 rfl];rcases ar a with rfl|ha;.exact c25 o b Wq Wq
     .exact c26 o a Wq ha b Wq Wq Wq|(e,d,s,o,t)::(e2,d2,s2,o2,t2)::(e3,d3,s3,o3,t3)::l,ha,h,hn,hv=>by
  obtain⟨⟨h1,h2⟩,h3⟩:=h (e,d,s,o,t) W4;obtain⟨⟨g1,g2⟩,g3⟩:=h (e2,d2,s2,o2,t2) W4;obtain⟨⟨k1,k2⟩,k3⟩:=h (e3,d3,s3,o3,t3) W4;have hl:l=[]:=by cases l with
   |nil=>rfl|cons c l=>
     exfalso;have hx:∀l:List Xm,(∀c∈l,0<c.2.1)->0<=cN l:=λl=>by induction l with|nil=>intro _;exact bh 0|cons c l ih=>intro h;have:=ih λc hc=>h c (by grind);have:=h c W4;show 0<=_+cN l;omega
     have:=hx l λc hc=>(h c<|by grind).1.2;have:=(h c W4).1.2;have hN:cN ((e,d,s,o,t)::(e2,d2,s2,o2,t2)::(e3,d3,s3,o3,t3)::c::l)=d+(d2+(d3+(c.2.1+cN l))):=rfl;grind
  subst hl;obtain⟨h4,h5,h6⟩:=Atm _ h3;obtain⟨g4,g5,g6⟩:=Atm _ g3;obtain⟨k4,k5,k6⟩:=Atm _ k3;obtain⟨p1,p2⟩:=aU.1 ha;have hlt:e<e2:=p1 (e2,d2,s2,o2,t2) W4;have hlt2:e2<e3:=(aU.1 p2).1 (e3,d3,s3,o3,t3) W4;have hN:cN [(e,d,s,o,t),(e2,d2,s2,o2,t2),(e3,d3,s3,o3,t3)]=d+(d2+(d3+0)):=rfl;have hV:cV [(e,d,s,o,t),(e2,d2,s2,o2,t2),(e3,d3,s3,o3,t3)]=d*e+(d2*e2+(d3*e3+0)):=rfl;rw[hN]at hn;rw[hN,hV]at hv;dsimp only[st4]at h1 h2 h5 g1 g2 g5 k1 k2 k5;obtain rfl:d=1:=by omega
  obtain rfl:d2=1:=by omega
  obtain rfl:d3=1:=by omega
  show Chk [(e,1,o),(e2,1,o2),(e3,1,o3)]=true;rw[h5 rfl,g5 rfl,k5 rfl];rcases ap e 1 with he|he
  .obtain rfl:e=((0+0:Nat):Int):=by omega
   obtain⟨b,rfl⟩:=ex0 g1;obtain⟨c,rfl⟩:=ex0 k1;have hv:b+c<=9:=by grind
   rcases show b=1∨1<b by omega with rfl|hb;.exact c30 c Wq Wq Wq
   .exact c31 b Wq hb c Wq Wq Wq
  .obtain⟨a,rfl⟩:=ex1 he;obtain⟨b,rfl⟩:=ex1 (show 1<=e2 by omega);obtain⟨c,rfl⟩:=ex1 (show 1<=e3 by omega);have hv:a+b+c<=9:=by omega
   rcases show a=0∨a=1∨2<=a by omega with rfl|rfl|ha
   .rcases show b=1∨1<b by omega with rfl|hb;.exact c32 c Wq Wq Wq
    .exact c33 b Wq hb c Wq Wq Wq
   .exact c34 b Wq Wq c Wq Wq Wq
   .obtain rfl:a=2:=by omega
    obtain rfl:b=3:=by omega
    obtain rfl:c=4:=by omega
    exact c35
structure Sm2(L L':List Xe):Prop where
 dm:∀e,AA9 L e=AA9 L' e
 ty:∀x,Ty L x↔Ty L' x
 lv:∀M:Nat,(∃b∈L,M<=b.1.toNat+3)->¬Ty L ((M:Int)-1)->tM M L%8=tM M L'%8
structure Two(n:Nat)(A:Wz)(v:Nat)(L:List Xe)(C:List Xm):Prop where
 b:BkF n (v+3) 2 A L
 q:∀b∈L,BQ b
 sp:CSp sD oD L C
 rr:∀c∈C,(0<=c.1/\0<c.2.1)/\st4 c∈RR
 lv:∀M:Nat,tCM M C%8=(tM M L:Int)%8
 nn:cN C=n/\cV C=v
theorem Ark(e:Int):∀{L:List Xe},AE0 L->AA9 L e<=AAa L
 |[],_=>bh 0|b::L,h=>by
   have ih:=Ark e (L:=L) λc hc=>h c (by grind);show(if b.1=e then b.2.1 else 0)+AA9 L e<=((b.2.1.toNat+AAa L:Nat):Int);omega
theorem A9p{M:List (List Int)}(R:AS0 M)(hn:M.length<=3)(hd:det M.length (ent M)=r*2^v)(hr:¬(2:Int)∣r):∃L C,AMw (Zm+1) M=((Aoz C).bind λx=>some ((x.1.1,x.1.2),0))/\Two M.length (ent M) v L C:=by
 have Ab:2147483648<Zm+1:=by decide+kernel
 obtain⟨T,G,L,C,e1,e2,D⟩:=A9h R Ab hd hr;have hsp:=D.c.sp;have ho:=D.c.o8;have hl:=D.c.lv;have hx:=D.c.nx;rw[aF]at hsp ho hl hx;have hq:∀b∈L,BQ b:=λb hb=>⟨(D.bp b hb).1.1,(D.bp b hb).2⟩;have hs:=D.sum;refine⟨L,C,?_,D.bk,hq,hsp,λc hc=>?_,hl,Wq,?_⟩;.unfold AMw;rw[e1];simp only[aa];rw[if_neg Wr,e2];rfl
 .have h0:=(D.c.ok c hc).2.1.1;have h1:=(AJt (e:=c.1) D.sz).1.1 ((hsp.mem c.1).1 ⟨c,hc,rfl⟩);obtain⟨o,h2,h3⟩:=A5k hq (e:=c.1) (by have:=Ark c.1 D.sz;omega);have h4:o=c.2.2.2.1:=by
   have:=h2.trans (hsp.odd c hc).symm;grind
  refine⟨⟨h0,by rw[hsp.dim c hc];exact h1⟩,?_⟩;unfold st4;rw[hsp.dim c hc,hsp.sgn c hc,ho c hc,<-h4];exact h3
 .have h1:det M.length G=2^vL L*uL L:=by
   rw[<-Ayk L.length rfl D.sz λb hb=>(D.bp b hb).1.1,D.sum];exact Xo λi j hi hj=>D.w i j hi hj
  rw[hx.2,(A3i (K:=v+3) (v:=v) (V:=vL L) (U:=uL L) rfl hd (AW2.1 hr) (Ayw D.bp) (h1▸D.e.det)).1]
variable{n v v':Nat}{A A' U:Wz}{L L':List Xe}{C C':List Xm}
theorem Two.chk(T:Two n A v L C)(hn:1<=n/\n<=3)(hv:v<=9∨(∀b∈L,1<=b.1)/\v<=9+n):Chk (C.map shp)=true:=by refine A37 T.sp.asc T.rr (by rw[T.nn.1];omega) ?_;rw[T.nn.1,T.nn.2];refine hv.imp λh=>by omega λh=>⟨λc hc=>?_,Wq⟩;obtain⟨b,hb,he⟩:=(T.sp.mem c.1).1 ⟨c,hc,rfl⟩;grind
theorem Two.shp(T:Two n A v L C)(T':Two n A' v' L' C')(hd:∀e,AA9 L e=AA9 L' e)(ht:∀x,Ty L x↔Ty L' x):C.map shp=C'.map shp:=by
 obtain⟨h1,h2⟩:=Alx T.sp T'.sp T.b.sz T'.b.sz hd;refine bP λi=>?_;rw[ax,ax];cases hc:C[i]? with
 |none=>rw[aL (by rw[<-h1];exact List.getElem?_eq_none_iff.1 hc)]|some c=>
   have hi:=(aw.1 hc).1;obtain⟨d,hd⟩:∃d,C'[i]?=some d:=⟨C'[i]'Wq,ai _⟩;rw[hd];obtain⟨a1,a2,-⟩:=h2 i c d hc hd;have a3:=T.sp.odd c<|bG hc;have a4:=T'.sp.odd d<|bG hd;have a5:c.2.2.2.1=true↔d.2.2.2.1=true:=a3.trans<|(ht c.1).trans (by rw[a1];exact a4.symm);show some (Proofs.YtgmdhndbcohgiaaGreatDoor.shp c)=some (Proofs.YtgmdhndbcohgiaaGreatDoor.shp d);unfold Proofs.YtgmdhndbcohgiaaGreatDoor.shp;rw[a1,a2,bU.2 a5]
theorem Two.inv(T:Two n A v L C)(T':Two n A' v' L' C')(h:C.map Proofs.YtgmdhndbcohgiaaGreatDoor.shp=C'.map Proofs.YtgmdhndbcohgiaaGreatDoor.shp):(∀e,AA9 L e=AA9 L' e)/\∀x,Ty L x↔Ty L' x:=by
 have key:∀{n v n' v':Nat}{A A':Wz}{L L':List Xe}{C C':List Xm},Two n A v L C->Two n' A' v' L' C'->C.map Proofs.YtgmdhndbcohgiaaGreatDoor.shp=C'.map Proofs.YtgmdhndbcohgiaaGreatDoor.shp->∀c∈C,AA9 L c.1=AA9 L' c.1/\(Ty L c.1↔Ty L' c.1)/\∃b∈L',b.1=c.1:=λ{n v n' v' A A' L L' C C'}T T' h c hc=>by
  have h1:Proofs.YtgmdhndbcohgiaaGreatDoor.shp c∈C'.map Proofs.YtgmdhndbcohgiaaGreatDoor.shp:=h▸ae.2 ⟨c,hc,rfl⟩;obtain⟨d,hd,he⟩:=ae.1 h1;unfold Proofs.YtgmdhndbcohgiaaGreatDoor.shp at he;simp only[Prod.mk.injEq]at he;obtain⟨e1,e2,e3⟩:=he;refine⟨by rw[<-T.sp.dim c hc,<-e2,T'.sp.dim d hd,e1],(T.sp.odd c hc).symm.trans (by rw[<-e3,<-e1];exact T'.sp.odd d hd),?_⟩;rw[<-e1];exact(T'.sp.mem d.1).1 ⟨d,hd,rfl⟩
 have all:∀e,AA9 L e=AA9 L' e/\(Ty L e↔Ty L' e):=λe=>by
  by_cases h1:∃c∈C,c.1=e;.obtain⟨c,hc,rfl⟩:=h1;exact⟨(key T T' h c hc).1,(key T T' h c hc).2.1⟩
  .have a:∀b∈L,b.1≠e:=λb hb he=>h1<|(T.sp.mem e).2 ⟨b,hb,he⟩;have b:∀b∈L',b.1≠e:=λb hb he=>by
    obtain⟨d,hd,hde⟩:=(T'.sp.mem e).2 ⟨b,hb,he⟩;obtain⟨b2,Af,h2⟩:=(key T' T h.symm d hd).2.2;exact a b2 Af<|h2.trans hde
   exact⟨by rw[ALj a,ALj b],⟨λ⟨x,hx,h,_⟩=>absurd h<|a x hx,λ⟨x,hx,h,_⟩=>absurd h<|b x hx⟩⟩
 exact⟨λe=>(all e).1,λe=>(all e).2⟩
theorem Agi{S:List (Int×Int×Bool)}:∀{m:Nat},(∀M,M<m->bad S M=false->tCM (M+1) C%8=tCM (M+1) C'%8)->lcd S C m=lcd S C' m
 |0,_=>rfl|m+1,h=>by
   show 8*lcd S C m+_=8*lcd S C' m+_;rw[Agi λM hM=>h M Wq];grind
theorem Two.bad(T:Two n A v L C)(M:Nat):bad (C.map Proofs.YtgmdhndbcohgiaaGreatDoor.shp) M=true↔Ty L (M:Int):=by
 unfold Proofs.YtgmdhndbcohgiaaGreatDoor.bad;rw[List.any_eq_true];constructor
 .rintro⟨x,hx,h⟩;obtain⟨c,hc,rfl⟩:=ae.1 hx;rw[aH]at h;have h1:=(T.sp.odd c hc).1 h.1;have h2:c.1=(M:Int):=by simpa[Proofs.YtgmdhndbcohgiaaGreatDoor.shp]using h.2
  rw[<-h2];exact h1
 .rintro⟨b,hb,h1,h2⟩;obtain⟨c,hc,h3⟩:=(T.sp.mem b.1).2 ⟨b,hb,rfl⟩;refine⟨Proofs.YtgmdhndbcohgiaaGreatDoor.shp c,ae.2 ⟨c,hc,rfl⟩,?_⟩;rw[aH];exact⟨(T.sp.odd c hc).2 ⟨b,hb,h3.symm,h2⟩,by simp[Proofs.YtgmdhndbcohgiaaGreatDoor.shp];omega⟩
theorem A38(S:List (Int×Int×Bool))(x:Int×Int×Bool):top (S++[x])=x.1.toNat:=by unfold top;grind
theorem Two.top(T:Two n A v L C)(h1:1<=n):(∃b∈L,top (C.map Proofs.YtgmdhndbcohgiaaGreatDoor.shp)=b.1.toNat)/\∀b∈L,b.1.toNat<=top (C.map Proofs.YtgmdhndbcohgiaaGreatDoor.shp):=by
 have hC:C≠[]:=λh=>by have:=T.nn.1;rw[h]at this;have:cN []=0:=rfl;omega
 obtain⟨l,c,rfl⟩:∃l c,C=l++[c]:=⟨C.dropLast,C.getLast hC,(List.dropLast_concat_getLast hC).symm⟩;have h2:Proofs.YtgmdhndbcohgiaaGreatDoor.top ((l++[c]).map Proofs.YtgmdhndbcohgiaaGreatDoor.shp)=c.1.toNat:=by rw[List.map_append];exact A38 _ _
 rw[h2];obtain⟨b,hb,he⟩:=(T.sp.mem c.1).1 ⟨c,W4,rfl⟩;exact⟨⟨b,hb,by rw[he]⟩,λb hb=>by have:=T.sp.le b hb;omega⟩
theorem Arl(T:Two n A v L C)(T':Two n A' v' L' C')(hn:1<=n)(k:Chk (C.map shp)=true)(k':Chk (C'.map shp)=true):∃X X',Aoz C=some ((2,X),true)/\Aoz C'=some ((2,X'),true)/\X.length=C.length/\(X=X'↔Sm2 L L'):=by
 have one:∀{n v:Nat}{A:Wz}{L:List Xe}{C:List Xm},Two n A v L C->Chk (C.map shp)=true->Aoz C=some ((2,dec (C.map shp).length<|cd C),true)/\(dec (C.map shp).length<|cd C).map shp=C.map shp/\∀M,M<top (C.map shp)+3->bad (C.map shp) M=false->tCM (M+1) (dec (C.map shp).length<|cd C)%8=tCM (M+1) C%8:=λ{n v A L C}T k=>by unfold Chk at k;rw[aH]at k;have h1:=bc.1 k.1 C<|AY1 λc hc=>(T.rr c hc).2;grind
 obtain⟨a1,a2,a3⟩:=one T k;obtain⟨b1,b2,b3⟩:=one T' k';refine⟨_,_,a1,b1,by grind,λh=>?_,λh=>?_⟩
 .have hs:C.map shp=C'.map shp:=by grind
  obtain⟨h1,h2⟩:=T.inv T' hs;refine⟨h1,h2,λM hM hg=>?_⟩;cases M with
  |zero=>
    have z:∀L:List Xe,tM 0 L=0:=λL=>by induction L with|nil=>rfl|cons b L ih=>show tBM 0 b+tM 0 L=0;rw[ih];unfold tBM;grind
    grind|succ M=>
    obtain⟨b,hb,hM⟩:=hM;have h3:=(T.top hn).2 b hb;have hbad:bad (C.map shp) M=false:=by rw[<-bT];exactλh=>hg (by rw[show((M+1:Nat):Int)-1=M by omega];exact(T.bad M).1 h)
    have h4:=a3 M Wq hbad;have h5:=b3 M (by grind) (by grind);rw[h]at h4;have h6:=T.lv<|M+1;have h7:=T'.lv<|M+1;omega
 .have hs:=T.shp T' h.dm h.ty;unfold Chk at k;rw[aH]at k;have hC:=AY1 λc hc=>(T.rr c hc).2;have hC':=AY1 λc hc=>(T'.rr c hc).2;rw[<-hs]at hC';have h2:=bc.1 (bc.1 k.2 C hC) C' hC';rw[Bool.or_eq_true]at h2;have h3:cd C=cd C':=by
   rcases h2 with h2|h2
   .exfalso;rw[Bool.not_eq_true',<-bT]at h2;have hl:lcd (C.map shp) C (top (C.map shp)+3)=lcd (C.map shp) C' (top (C.map shp)+3):=Agi λM hM hb=>by obtain⟨⟨b,hb2,he⟩,-⟩:=T.top hn;have h4:=h.lv (M+1) ⟨b,hb2,Wq⟩ (by rw[show((M+1:Nat):Int)-1=M by omega];exactλh=>by rw[(T.bad M).2 h]at hb;cases hb);have h6:=T.lv<|M+1;have h7:=T'.lv<|M+1;omega
    simp_all
   simp_all
  grind
end Go.Proofs.YtgmdhndbcohgiaaGreatDoor
namespace Go.Proofs.YtgmdhndbcohgiaaGreatDoor
variable{n K v v' v2 v3:Nat}{p:Int}{A A' A2 A3 U:Wz}{L L' L2 L3:List Xe}{C C' C2 C3:List Xm}
theorem BkF.cast(B:BkF n K p A L)(h:∀i j,i<n->j<n->A i j=A' i j):BkF n K p A' L:=by obtain⟨T,e⟩:=B.car;exact⟨⟨T,λi j hi hj=>(Xp.of_eq<|ACx (λ_ _=>rfl) λk hk=>ACx (λl hl=>(h k l hk hl).symm) λ_ _=>rfl).trans (e.c i j hi hj),e.d⟩,B.sz,B.nn,B.asc,B.sum⟩
theorem Aiv:det n dl*det n dl=1:=by rw[ASr];rfl
theorem A5l(hd:∀e,AA9 L e=AA9 L' e)(h:AE0 L)(h':AE0 L'){b:Xe}(hb:b∈L):∃c∈L',c.1=b.1:=(AJt h').1.2 (by rw[<-hd];exact(AJt h).1.1 ⟨b,hb,rfl⟩)
theorem Sm2.symm(h:Sm2 L L')(s:AE0 L)(s':AE0 L'):Sm2 L' L:=⟨λe=>(h.dm e).symm,λx=>(h.ty x).symm,λM⟨b,hb,hM⟩hg=>by
 obtain⟨c,hc,he⟩:=A5l (λe=>(h.dm e).symm) s' s hb;exact(h.lv M ⟨c,hc,Wq⟩ λhh=>hg<|(h.ty _).1 hh).symm⟩
theorem Sm2.trans(h:Sm2 L L')(k:Sm2 L' L2)(s:AE0 L)(s':AE0 L'):Sm2 L L2:=⟨λe=>(h.dm e).trans (k.dm e),λx=>(h.ty x).trans (k.ty x),λM⟨b,hb,hM⟩hg=>by
 obtain⟨c,hc,he⟩:=A5l h.dm s s' hb;exact(h.lv M ⟨b,hb,hM⟩ hg).trans (k.lv M ⟨c,hc,Wq⟩ λhh=>hg<|(h.ty _).2 hh)⟩
theorem Ao0(B:BkF n (v+3) 2 A L)(B':BkF n (v+3) 2 A' L')(q:∀b∈L,BQ b)(q':∀b∈L',BQ b)(hv:v<=13)(hL:∀b∈L,b.1<=v)(hU:ALm n A U A')(hu:det n U*det n U=1):Sm2 L L':=by obtain⟨R,h1,h2⟩:=Al1 hU hu;have ty:∀x,Ty L x↔Ty L' x:=λx=>⟨B'.ty1 B q' q Wq h1 h2,B.ty1 B' q q' Wq hU hu⟩;refine⟨(B.exps B' AW3 Wq hU hu).2,ty,λM⟨b,hb,hM⟩hg=>?_⟩;have:=hL b hb;exact B.lev B' q q' hU hu Wq Wq Wq hg λh=>hg<|(ty _).2 h
theorem Arm{c:Int}:∀{e M:Nat},psum (λi=>if i=e then c else 0) M=if e<M then c else 0
 |e,0=>by rw[if_neg<|bW e];rfl|e,M+1=>by
   show psum _ M+(if M=e then c else 0)=_;rw[Arm];omega
theorem Ao1(M:Nat):∀{L:List Xe},(∀b∈L,BQ b)->((nM M L:Nat):Int)=psum (λe=>if(M+1+e)%2=1 then AA9 L e else 0) M
 |[],_=>by
   have h:psum (λe=>if(M+1+e)%2=1 then AA9 [] e else 0) M=psum (λ_=>0) M:=Wy λe _=>ite_self (0:Int);rw[h,Y8];rfl|b::L,h=>by
   obtain⟨h0,h1⟩:=h b W4;rw[Wy (g:=λe=>(if e=b.1.toNat then if(M+1+b.1.toNat)%2=1 then b.2.1 else 0 else 0)+if(M+1+e)%2=1 then AA9 L e else 0) λe _=>by
    show(if _ then(if b.1=(e:Int)then b.2.1 else 0)+AA9 L e else 0)=_;grind];rw[AEm,Arm,<-Ao1 M λc hc=>h c<|by grind];show(((if b.1.toNat<M/\(M+1+b.1.toNat)%2=1 then b.2.1.toNat else 0)+nM M L:Nat):Int)=_;grind
theorem Agj:Ty (L.map<|scB k) x↔Ty L x:=⟨λ⟨b,hb,h⟩=>by obtain⟨c,hc,rfl⟩:=ae.1 hb;exact⟨c,hc,h⟩,λ⟨b,hb,h⟩=>⟨scB k b,ae.2 ⟨b,hb,rfl⟩,h⟩⟩
theorem Agk:Ty (L.map dnB) x↔Ty L (x+1):=⟨λ⟨b,hb,h⟩=>by
 obtain⟨c,hc,rfl⟩:=ae.1 hb;have h1:c.1-1=x:=h.1;exact⟨c,hc,Wq,h.2⟩,λ⟨b,hb,h1,h2⟩=>⟨dnB b,ae.2 ⟨b,hb,rfl⟩,by show b.1-1=x;omega,h2⟩⟩
theorem BC7(q:∀b∈L,BQ b):∀b∈L.map (scB 3),BQ b:=λb hb=>by
 obtain⟨c,hc,rfl⟩:=ae.1 hb;have:=q c hc;unfold BQ scB at*;grind
theorem BC8(q:∀b∈L,BQ b)(h:∀b∈L,1<=b.1):∀b∈L.map dnB,BQ b:=λb hb=>by
 obtain⟨c,hc,rfl⟩:=ae.1 hb;have:=h c hc;exact⟨by show 0<=c.1-1;omega,(q c hc).2⟩
theorem A9q(q:∀b∈L,BQ b)(q':∀b∈L',BQ b):Sm2 (L.map<|scB 3) (L'.map<|scB 3)↔Sm2 L L':=by
 have hn:∀M,(∀e,AA9 L e=AA9 L' e)->nM M L=nM M L':=λM hd=>by
  have h1:=Ao1 M q;rw[Wy λe _=>by rw[hd e],<-Ao1 M q']at h1;omega
 constructor<;>intro h
 .have hd:∀e,AA9 L e=AA9 L' e:=λe=>by have:=h.dm e;rwa[AVl,AVl]at this
  refine⟨hd,λx=>by have:=h.ty x;rwa[Agj,Agj]at this,λM⟨b,hb,hM⟩hg=>?_⟩;have h1:=h.lv M ⟨scB 3 b,ae.2 ⟨b,hb,rfl⟩,hM⟩ λhh=>hg<|Agj.1 hh;rw[Al5 q,Al5 q',hn M hd]at h1;omega
 .refine⟨λe=>by rw[AVl,AVl];exact h.dm e,λx=>by rw[Agj,Agj];exact h.ty x,λM⟨b,hb,hM⟩hg=>?_⟩;obtain⟨c,hc,rfl⟩:=ae.1 hb;have h1:=h.lv M ⟨c,hc,hM⟩ λhh=>hg<|Agj.2 hh;rw[Al5 q,Al5 q',hn M h.dm];omega
theorem Aiw:∀L:List Xe,tM 0 L=0|[]=>rfl|b::L=>by show tBM 0 b+tM 0 L=0;rw[Aiw L];unfold tBM;grind
theorem A9r(h1:∀b∈L,1<=b.1)(h2:∀b∈L',1<=b.1):Sm2 (L.map dnB) (L'.map dnB)↔Sm2 L L':=by
 have sh:∀x:Int,x-1+1=x:=λx=>by omega
 constructor<;>intro h
 .refine⟨λe=>by have:=h.dm<|e-1;rwa[AVm,AVm,sh]at this,λx=>by have:=h.ty<|x-1;rwa[Agk,Agk,sh]at this,λM⟨b,hb,hM⟩hg=>?_⟩;have Ac:=h1 b hb;cases M with
  |zero=>rw[Aiw,Aiw]|succ M=>
    rw[<-Al6 h1,<-Al6 h2];refine h.lv M ⟨dnB b,ae.2 ⟨b,hb,rfl⟩,by show M<=(b.1-1).toNat+3;omega⟩ λhh=>hg ?_;rw[show((M+1:Nat):Int)-1=(M:Int)-1+1 by omega];exact Agk.1 hh
 .refine⟨λe=>by rw[AVm,AVm];exact h.dm _,λx=>by rw[Agk,Agk];exact h.ty _,λM⟨b,hb,hM⟩hg=>?_⟩;obtain⟨c,hc,rfl⟩:=ae.1 hb;have Ad:=h1 c hc;have hM:M<=(c.1-1).toNat+3:=hM;rw[Al6 h1,Al6 h2];refine h.lv (M+1) ⟨c,hc,Wq⟩ λhh=>hg<|Agk.2 ?_;grind
theorem Two.le(T:Two n A v L C)(hd:det n A=r*2^v)(hr:¬(2:Int)∣r):∀b∈L,b.1<=v:=T.b.le_v AW3 hd hr Wq
theorem Two.sc(T:Two n A v L C)(S:Two n A2 v L2 C2)(hd:det n A=r*2^v)(hr:¬(2:Int)∣r)(hv:v<=13)(h:∀i j,i<n->j<n->A2 i j=3*A i j):Sm2 (L.map<|scB 3) L2:=by refine Ao0 (U:=dl) ((T.b.scale (k:=3) AW3 Wr).cast λi j hi hj=>(h i j hi hj).symm) S.b (BC7 T.q) S.q hv (λb hb=>?_) ASy Aiv;obtain⟨c,hc,rfl⟩:=ae.1 hb;exact T.le hd hr c hc
theorem Two.dn(T:Two n A v L C)(S:Two n A2 (v+v') L2 C2)(hd:det n A=r*2^v)(hr:¬(2:Int)∣r)(hv:v<=13)(h1:1<=v')(h:∀i j,i<n->j<n->A2 i j=2*A i j):(∀b∈L2,1<=b.1)/\Sm2 L (L2.map dnB):=by obtain⟨g1,g2⟩:=BkF.down (S.b.cast h) AW3 Wq;have g3:=g2.le_v AW3 hd hr Wq;refine⟨g1,Ao0 (U:=dl) T.b (g2.prec (K':=v+3) Wq λb hb=>by grind) T.q (BC8 S.q g1) hv (T.le hd hr) ASy Aiv⟩
theorem A9s(T:Two n A v L C)(T':Two n A' v L' C')(hd:det n A=r*2^v)(hr:¬(2:Int)∣r)(hd':det n A'=r'*2^v)(hr':¬(2:Int)∣r')(hv:v<=13)(hn:1<=n)(hk:k=3/\v2=v∨k=2/\v2=v+n)(S:Two n A2 v2 L2 C2)(S':Two n A3 v2 L3 C3)(h:∀i j,i<n->j<n->A2 i j=k*A i j)(h':∀i j,i<n->j<n->A3 i j=k*A' i j):Sm2 L L'↔Sm2 L2 L3:=by
 rcases hk with⟨rfl,rfl⟩|⟨rfl,rfl⟩;.have a:=T.sc S hd hr hv h;have b:=T'.sc S' hd' hr' hv h';have s1:AE0 (L.map<|scB 3):=Aag (f:=scB 3) (λ_=>rfl) T.b.sz;have s2:AE0 (L'.map<|scB 3):=Aag (f:=scB 3) (λ_=>rfl) T'.b.sz;rw[<-A9q T.q T'.q];exact⟨λx=>((a.symm s1 S.b.sz).trans x S.b.sz s1).trans b S.b.sz s2,λx=>(a.trans x s1 S.b.sz).trans (b.symm s2 S'.b.sz) s1 S'.b.sz⟩
 .obtain⟨g1,a⟩:=T.dn S hd hr hv hn h;obtain⟨g2,b⟩:=T'.dn S' hd' hr' hv hn h';have s1:AE0 (L2.map dnB):=Aag (f:=dnB) (λ_=>rfl) S.b.sz;have s2:AE0 (L3.map dnB):=Aag (f:=dnB) (λ_=>rfl) S'.b.sz;rw[<-A9r g1 g2];exact⟨λx=>((a.symm T.b.sz s1).trans x s1 T.b.sz).trans b s1 T'.b.sz,λx=>(a.trans x T.b.sz s1).trans (b.symm T'.b.sz s2) T.b.sz s2⟩
end Go.Proofs.YtgmdhndbcohgiaaGreatDoor
namespace Go.Proofs.YtgmdhndbcohgiaaGreatDoor
structure Odp(p:Int)(n:Nat)(A:Wz)(v:Nat)(L:List Xe)(C:List Xm):Prop where
 b:BkF n (v+1) p A L
 one:∀b∈L,b.2.1=1
 c:CO p L L.length C
theorem A9t{M:List (List Int)}(R:AS0 M)(hp:Pr p)(Aa:2<p)(Ab:p<=9973)(hd:det M.length (ent M)=r*p^v)(hr:¬p∣r):∃L C,ALi (Zm+1) M p=some ((p,C),0)/\Odp p M.length (ent M) v L C/\C.length<=8:=by
 have Ac:2147483648<Zm+1:=by decide+kernel
 obtain⟨T,G,L,C,e1,e2,D,h⟩:=BC4 R hp Aa Ab hd hr Ac;refine⟨L,C,?_,⟨D.bk,(Aow D.ob).1,D.c⟩,h⟩;unfold ALi;grind
variable{n v v2:Nat}{p:Int}{A A' A2 A3 U:Wz}{L L' L2 L3:List Xe}{C C' C2 C3:List Xm}
theorem A39(T:Odp p n A v L C)(T':Odp p n A' v L' C'):C=C'↔SmP p L L':=⟨λh=>by subst h;exact A9n T.c T'.c,λh=>BC2 T.c T'.c T.b.sz T'.b.sz h.1 h.2⟩
theorem A9u(h:∀b∈L,b.2.1=1):∀b∈L.map (scB k),b.2.1=1:=λb hb=>by
 obtain⟨c,hc,rfl⟩:=ae.1 hb;exact h c hc
theorem A9v(h:∀b∈L,b.2.1=1):∀b∈L.map dnB,b.2.1=1:=λb hb=>by
 obtain⟨c,hc,rfl⟩:=ae.1 hb;exact h c hc
theorem Odp.sc(T:Odp p n A v L C)(S:Odp p n A2 v L2 C2)(hp:OPr p)(hI:PrI p)(hk:¬p∣k)(h:∀i j,i<n->j<n->A2 i j=k*A i j):SmP p (L.map<|scB k) L2:=BkF.sm (U:=dl) ((T.b.scale (k:=k) hI hk).cast λi j hi hj=>(h i j hi hj).symm) S.b hp hI Wq (A9u T.one) S.one ASy Aiv
theorem Odp.dn(T:Odp p n A v L C)(S:Odp p n A2 (v+n) L2 C2)(hp:OPr p)(hI:PrI p)(hn:1<=n)(hd:det n A=r*p^v)(hr:¬p∣r)(h:∀i j,i<n->j<n->A2 i j=p*A i j):SmP p L (L2.map dnB):=by obtain⟨g1,g2⟩:=BkF.down (S.b.cast h) hI Wq;have g3:=g2.le_v hI hd hr Wq;exact BkF.sm (U:=dl) T.b (g2.prec (K':=v+1) Wq λb hb=>by grind) hp hI Wq T.one (A9v S.one) ASy Aiv
theorem A9w(T:Odp p n A v L C)(T':Odp p n A' v L' C')(hp:OPr p)(hI:PrI p)(hn:1<=n)(hd:det n A=r*p^v)(hr:¬p∣r)(hd':det n A'=r'*p^v)(hr':¬p∣r')(hk:¬p∣k/\v2=v∨k=p/\v2=v+n)(S:Odp p n A2 v2 L2 C2)(S':Odp p n A3 v2 L3 C3)(h:∀i j,i<n->j<n->A2 i j=k*A i j)(h':∀i j,i<n->j<n->A3 i j=k*A' i j):SmP p L L'↔SmP p L2 L3:=by
 rcases hk with⟨hk,rfl⟩|⟨rfl,rfl⟩;.have a:=T.sc S hp hI hk h;have b:=T'.sc S' hp hI hk h';rw[<-BC5 hp (λh=>hk<|aj h) T.one T'.one];exact⟨λx=>(a.symm.trans x).trans b,λx=>(a.trans x).trans b.symm⟩
 .have a:=T.dn S hp hI hn hd hr h;have b:=T'.dn S' hp hI hn hd' hr' h';rw[<-BC6 (L:=L2)];exact⟨λx=>(a.symm.trans x).trans b,λx=>(a.trans x).trans b.symm⟩
theorem Azj:∀{L:List Xe},(∀b∈L,b.1=0/\b.2.1=1)->AA9 L 0=AAa L
 |[],_=>rfl|b::L,h=>by
   have:=h b W4;show(if b.1=0 then b.2.1 else 0)+AA9 L 0=((b.2.1.toNat+AAa L:Nat):Int);rw[Azj λc hc=>h c (by grind),if_pos this.1,this.2];omega
theorem Odp.unit(T:Odp p n A v L C)(hv:v=0)(hp:OPr p)(hI:PrI p)(hd:¬p∣det n A):AA9 L 0=n/\sgE (sO p) L 0=lg p (det n A)/\∀b∈L,b.1=0:=by
 subst hv;have h0:∀b∈L,b.1=0:=λb hb=>by have:=T.b.nn b hb;omega
 refine⟨by rw[Azj λb hb=>⟨h0 b hb,T.one b hb⟩,T.b.sum],?_,h0⟩;have he:∀i,i<AAa L->eL L i=0:=λi hi=>AYy (P:=(·=0)) T.b.sz λb hb=>by grind hi;have hz:L.map z0=L:=(List.map_congr_left λb hb=>by show(0,b.2)=b;grind).trans (ci L);have h1:=Aox (y:=0) (k:=0) (m:=n) hp T.one (λb hb=>(T.b.nn b hb).1) (by rw[T.b.sum];omega) (λi _ hi=>he i (by rw[T.b.sum];omega)) λi hi _=>⟨bJ i,by rw[T.b.sum]at hi;omega⟩;rw[hz]at h1;have h2:sgE (sO p) L 0=lg p (det n<|bmp p L):=h1.trans<|congrArg (lg p) (Xo λi j _ _=>by show bmp p L (0+i) (0+j)=_;grind);rw[h2];obtain⟨V,e⟩:=T.b.car;have h3:Xp (p^1) (det n<|Xz n (trF V)<|Xz n A V) (det n<|bmp p L):=ASu λi j hi hj=>e.c i j hi hj;rw[ADf,ADf,AEb,cj]at h3;have h4:=e.d;rw[cj]at h4;refine AUm hp<|h3.symm.trans ?_;have h5:=h4.mul<|Xp.refl p<|det n A;grind
theorem Azk(T:Odp p n A v L C)(T':Odp p n A' v L' C')(hv:v=0)(hp:OPr p)(hI:PrI p)(hd:¬p∣det n A)(he:det n A'=det n A):SmP p L L':=by
 obtain⟨a1,a2,a3⟩:=T.unit hv hp hI hd;obtain⟨b1,b2,b3⟩:=T'.unit hv hp hI<|he▸hd;rw[he]at b2;constructor<;>intro x
 .by_cases h:x=0;.grind
  .rw[ALj λb hb hx=>h (by grind),ALj λb hb hx=>h<|by grind]
 .by_cases h:x=0;.grind
  .rw[ANp λb hb hx=>h (by grind),ANp λb hb hx=>h<|by grind]
end Go.Proofs.YtgmdhndbcohgiaaGreatDoor
namespace Go.Proofs.YtgmdhndbcohgiaaGreatDoor
theorem Azl{n:Int}(hn:2<=n):∃f,ANu n f:=by
 have key:∀k:Nat,(∃f,ANu n f)∨∀d:Int,2<=d->d<(k:Int)+2->n%d≠0:=λk=>by induction k with|zero=>grind|succ k ih=>
    rcases ih with h|h;.grind
    .by_cases h0:n%((k:Int)+2)=0;.exact .inl ⟨(k:Int)+2,Wq,h0,an Wq<|aj h0,h⟩
     grind
 rcases key n.toNat with h|h;.exact h
 .exact absurd (Int.emod_self (a:=n))<|h n hn Wq
theorem Azm{n f:Int}(h:ANu n f):Pr f:=⟨h.1,λd h1 h2 h3=>h.2.2.2 d h1 h2<|aI<|aq (aj h3)<|aj h.2.1⟩
theorem BC9{q:Int}(hp:Pr p)(hq:Pr q)(h:p∣q):p=q:=by
 have h1:=an (by have:=hq.1;omega) h;rcases ap p q with h2|h2;.exact absurd (aI h)<|hq.2 p hp.1 h2
 .omega
theorem Azn{p q:Int}(hp:Pr p)(hq:Pr q):∀{j:Nat},p∣q^j->p=q
 |0,h=>by
   have:=an Wr (show p∣1 by grind);have:=hp.1;omega|j+1,h=>by
   rw[au]at h;rcases(AL9 hp).2 _ _ h with h|h;.exact Azn hp hq h
   .exact BC9 hp hq h
structure BDa(N m:Int)(l:List Aay)(i:Nat):Prop where
 m1:1<=m
 bd:m*2^i<=N
 len:l.length<=i
 dv:∀p,Pr p->(p∣N↔p∣m∨∃x∈l,x.1=p)pr:∀x∈l,Pr x.1
theorem BDb{m f:Int}(hm:2<=m/\m<=20000)(hf:ANu m f)(hfu:100<fuel):Ok (iter (λs=>AL8 fuel f s.1 s.2) fuel (m,0)) λe=>1<=e.1/\∃j,1<=j/\m=e.1*f^j/\¬f∣e.1:=by
 have f2:=hf.1;refine Xv (λ(i:Nat)(s:Int×Int)=>1<=s.1/\m=s.1*f^i/\s.2=(i:Int)/\s.1*2^i<=20000) 20 ⟨Wq,by grind,rfl,Wq⟩ Wq λi s hi hI=>?_;obtain⟨x,e⟩:=s;obtain⟨h1,h2,h3,h4⟩:=hI;dsimp only at h1 h2 h3 h4;subst h3;unfold AL8;refine Yi Wq<|Xa (λh=>Yi Wq<|Wt ?_) λh=>Wt ⟨h1,i,?_,h2,λhd=>h ?_⟩
 .rw[ao Wq]at h;obtain⟨y,rfl⟩:=aj h;have hy:1<=y:=by
   rcases ap y 1 with h|h
   .have:f*y<=0:=aV Wq Wq;omega
   omega
  rw[Int.mul_tdiv_cancel_left _ Wq];have hfy:2*y<=f*y:=ak Wq Wq;have hfb:f*y*1<=f*y*2^i:=ah (by have:(0:Int)<2^i:=aA Wr;omega) Wq;have hw:W3 y=y:=wk Wq;have hn:2*y*2^i<=f*y*2^i:=ak hfy<|ba<|aA Wr;have Af:i<20:=by grind
  refine⟨Af,?_⟩;dsimp only;rw[hw];exact⟨hy,by grind,Yr Wq,by rw[au];grind⟩
 .rcases ar i with h0|h0;.exfalso;subst h0;rw[bE,be]at h2;exact h (by rw[<-h2,ao Wq];exact hf.2.1)
  omega
 .rw[ao Wq];exact aI hd
theorem BDc{N:Int}(hN:1<=N/\N<=20000)(hfu:100<fuel):Ok (AG0 fuel N) λr=>r.2=0/\r.1.length<=20/\(∀x∈r.1,Pr x.1/\x.1∣N)/\∀p,Pr p->p∣N->∃x∈r.1,x.1=p:=by
 unfold AG0;rw[if_neg Wq,if_neg Wq];simp only[aa];refine Wv (Q:=λl=>∃i,i<=20/\BDa N 1 l i) (Xv (λ(i:Nat)(s:Int×List Aay)=>BDa N s.1 s.2 i) 20 ⟨hN.1,Wq,ay 0,λp _=>⟨.inl,λh=>h.elim id λ⟨x,hx,_⟩=>absurd hx<|bS⟩,λx hx=>absurd hx bS⟩ Wq λi s hi hI=>?_) λl hl=>by
  obtain⟨i,hi,hl⟩:=hl;exact Wt ⟨rfl,aY hl.len hi,λx hx=>⟨hl.pr x hx,(hl.dv _<|hl.pr x hx).2 (.inr ⟨x,hx,rfl⟩)⟩,λp hp hd=>((hl.dv p hp).1 hd).resolve_left λh=>by
   have:=an Wr h;have:=hp.1;omega⟩
 .obtain⟨m,l⟩:=s;obtain⟨h1,h2,h3,h4,h5⟩:=hI;dsimp only at h1 h2 h3 h4 h5;have p0:(0:Int)<2^i:=aA Wr;unfold AP2;dsimp only;refine Xa (λh=>?_) λh=>Wt ?_
  .have hmN:m*1<=m*2^i:=ah Wq Wq;obtain⟨f,hf⟩:=Azl (n:=m) Wq;have hfp:=Azm hf;have hle:Ad3 fuel m=some f:=by unfold Ad3;rw[if_pos Wq,Axt hf]
   rw[hle];simp only[aa];refine Wv (BDb Wq hf hfu) λe he=>?_;obtain⟨x,y⟩:=e;obtain⟨g1,j,g2,g3,g4⟩:=he;dsimp only at g1 g3 g4;refine Yi Wq<|Wt ?_;have hj:x*2<=m:=by
    rw[g3];refine ah ?_ Wq;obtain⟨j,rfl⟩:∃j',j=j'+1:=⟨j-1,Wq⟩;have h6:(0:Int)<f^j:=aA (by have:=hfp.1;omega);have h7:1*f<=f^j*f:=ak Wq (by have:=hfp.1;omega);have:=hfp.1;grind
   have hb:x*2*2^i<=m*2^i:=ak hj Wq;have Ai:i<20:=by grind
   refine⟨Ai,g1,by rw[au];grind,by grind,λp hp=>?_,λz hz=>?_⟩
   .rw[h4 p hp];constructor
    .rintro(h|⟨z,hz,he⟩)
     .rw[g3]at h;rcases(AL9 hp).2 _ _ h with h|h;.grind
      .exact .inr ⟨(f,y),W4,(Azn hp hfp h).symm⟩
     grind
    .rintro(h|⟨z,hz,he⟩);.exact .inl (by rw[g3];exact aq h ⟨_,rfl⟩)
     .rcases aK.1 hz with hz|hz;.grind
      .simp only[av]at hz;subst hz;exact .inl (by rw[<-he];exact aj hf.2.1)
   grind
  .have hm:m=1:=by omega
   subst hm;exact⟨i,hi,h1,h2,h3,h4,h5⟩
noncomputable def syO(M:List (List Int))(p:Int):Option ((Int×List Xm)×Int):=if p=2 then AMw (Zm+1) M else ALi (Zm+1) M p
noncomputable def sy(M:List (List Int))(p:Int):Int×List Xm:=match syO M p with|some r=>r.1|none=>(0,[])
theorem Agm{M:List (List Int)}{y:Int×List Xm}(h:syO M p=some (y,0)):syO M p=some (sy M p,0)/\sy M p=y:=by
 have h2:sy M p=y:=by unfold sy;rw[h]
 grind
def A4b(M:List (List Int)):Prop:=∀p,Pr p->p∣2*det M.length (ent M)->syO M p=some (sy M p,0)/\(sy M p).2.length<=50
theorem A5m{M:List (List Int)}(R:AS0 M)(hs:A4b M):∃ps:List Aay,AG0 (Zm+1) (2*det M.length (ent M))=some (ps,0)/\ps.length<=20/\(∀x∈ps,Pr x.1/\x.1∣2*det M.length (ent M))/\(∀p,Pr p->p∣2*det M.length (ent M)->∃x∈ps,x.1=p)/\AMx (Zm+1) M=some (((M.length:Int),det M.length<|ent M,ps.map λx=>sy M x.1),0):=by
 have hf:100<Zm+1:=by decide+kernel
 have hI:=(AZ7 M).2 R;have hT:=AYp R;have h1:=R.1;have RF:=R.2.2;have hdt:=RF.dt;have Ag:=RF.pos M.length<|ay _;obtain⟨⟨ps,z⟩,eF,g1,g2,g3,g4⟩:=BDc (fuel:=Zm+1) (N:=2*det M.length (ent M)) Wq hf;dsimp only at g1 g2 g3 g4;subst g1;refine⟨ps,eF,g2,g3,g4,?_⟩;apply ok_eq;unfold AMx;rw[show ALg (Zm+1) M=some true by unfold ALg;rw[hI]];simp only[aa,ca,bM,if_false];have hFI:ACv (Zm+1) M=some (M,true):=by
  conv=>lhs;rw[hT]
  rw[Aq4 h1.1 Wq (λi j hi hj=>aY (Ah4 R hi hj) Wr) hf,<-hT]
 have hDe:AB1 (Zm+1) M=some (det M.length<|ent M,true):=by
  unfold AB1;conv=>lhs;rw[hT]
  rw[(Ad4 h1.1 Wq hf).2];simp only[aa,ca,bM,if_false,ne_eq,not_true_eq_false];rw[Axy h1.1 h1.2 RF hf];rfl
 have hi:AYo (Zm+1) (det M.length<|ent M)=some (det M.length<|ent M,true):=if_pos Wq;rw[hFI];simp only[aa];rw[hDe];simp only[aa];rw[hi];simp only[aa];rw[Zh (x:=2*det M.length (ent M)) Wq Wq,eF];simp only[aa];refine Wv (Q:=(·=ps.map λx=>sy M x.1)) (Wv (Q:=(·=ps.map λx=>sy M x.1)) (Xv (λ(i:Nat)(s:Int×List (Int×List Xm))=>s=((i:Int),(ps.map λx=>sy M x.1).take i)/\i<=ps.length) ps.length ⟨rfl,bJ _⟩ Wq λi s hi hI=>?_) λe he=>Wt he) λe he=>Wt (by rw[he]);obtain⟨rfl,hin⟩:=hI;unfold AQz;dsimp only;refine Xa (λh=>?_) λh=>Wt (by rw[show i=(ps.map λx=>sy M x.1).length by grind,aF]);have hg:=ai (show i<ps.length by omega);rw[Z4 hg];have hm:=g3 _<|aG (show i<ps.length by omega);obtain⟨s1,s2⟩:=hs _ hm.1 hm.2;unfold syO at s1;have tk:(ps.map λx=>sy M x.1).take i++[sy M (ps[i]'Wq).1]=(ps.map λx=>sy M x.1).take (i+1):=by rw[bN,ax,hg];rfl
 refine Wv (Q:=λ_=>True) (Xa (λ_=>Wt trivial) λ_=>Wt trivial) λe _=>Wv (Q:=(·=(ps.map λx=>sy M x.1).take (i+1))) (Xa (λh2=>?_) λh2=>?_) λe he=>Wt ⟨Wq,by rw[he,Yr Wq],Wq⟩;.rw[if_pos h2]at s1;rw[s1];exact Yi (by grind)<|Wt tk
 .rw[if_neg h2]at s1;rw[s1];exact Yi (by grind)<|Wt tk
theorem Arn{M M':List (List Int)}(R:AS0 M)(R':AS0 M')(hs:A4b M)(hs':A4b M'):∃b,AJ3 (Zm+1) M M'=some (b,0)/\(b=true↔M.length=M'.length/\det M.length (ent M)=det M'.length (ent M')/\∀p,Pr p->p∣2*det M.length (ent M)->sy M p=sy M' p):=by
 have hf:100<Zm+1:=by decide+kernel
 obtain⟨ps,a1,a2,a3,a4,a5⟩:=A5m R hs;obtain⟨ps',b1,b2,b3,b4,b5⟩:=A5m R' hs';have hE:=BCu (fuel:=Zm+1) (n:=(M.length:Int)) (d:=det M.length<|ent M) (n':=(M'.length:Int)) (d':=det M'.length<|ent M') (L:=ps.map λx=>sy M x.1) (L':=ps'.map λx=>sy M' x.1) (by grind) (λx hx=>by
  obtain⟨y,hy,rfl⟩:=ae.1 hx;exact(hs _ (a3 y hy).1 (a3 y hy).2).2) hf;refine⟨@decide ((M.length:Int)=M'.length/\det M.length (ent M)=det M'.length (ent M')/\(ps.map λx=>sy M x.1)=ps'.map λx=>sy M' x.1) (Classical.propDecidable _),?_,?_⟩;rotate_left
 .rw[@decide_eq_true_iff _<|Classical.propDecidable _];refine and_congr Wq<|and_congr_right λhd=>?_;rw[<-hd,a1]at b1;have hps:ps=ps':=by grind
  subst hps;rw[List.map_inj_left];grind
 .unfold AJ3;grind
section
variable{f:Nat}
theorem re2{a b:Int}(za:Sz a)(zb:Sz b)(zd:Sz d)(zp:Sz p)(P:0<a)(P2:0<p)(e1:a*d-b*b=p)(r1:-a<=2*b/\2*b<=a)(l1:3*a<=4*d)(zad:Sz (a*d)):AB3 (f+9) [[a,b],[b,d]]=if 10000<p then some ([],[],7)else some ([[a,b],[b,d]],[[1,0],[0,1]],0):=by
 have Ac:Zz (f+9) (a*d-b*b) 1=some (p,0,true):=dvS (by rw[e1];exact zp) zn1 Wr (by rw[e1,am]);have hQ:ACi (f+9) [[a,b],[b,d]]=some (2,true):=by kernel_rfl
 have hA:AAq (f+9) [[a,b],[b,d]]=some (2,2,true):=by kernel_rfl
 have hA':Xy (f+9) [[a,b],[b,d]]=some (2,2,true):=by kernel_rfl
 have hH:AAq (f+9) [[1,0],[0,1]]=some (2,2,true):=by kernel_rfl
 have hH':Xy (f+9) [[1,0],[0,1]]=some (2,2,true):=by kernel_rfl
 have hS:AAw (f+9) [[a,b],[b,d]]=some ([((),[[a,b],[b,d]]),((),[[p]])],true):=by
  have s2:iter (λs=>AGg (f+9) [[a,b],[b,d]] 2 s.1 s.2.1 s.2.2) (f+9) (0,ab (bA<|W3<|2*2) (0:Int),ab (bA 2) (-1:Int))=some ([a,b,b,d],[0,2]):=by kernel_rfl
  unfold AAw;rw[hQ];simp only[aa];rw[if_neg Wr,if_pos Wr,if_pos Wr,s2];simp only[aa,ACu];rw[if_pos Wr];simp only[aa];repeat(rw[AQ0];simp[AGj,AGi,AGh,AFm,Ah3,A24,za,zb,zd,zp,gI,sI,wk',sgS,P,P2,Ac,ab,bL])
 have hD:AAk (f+9) [[a,b],[b,d]]=some true:=by
  unfold AAk;rw[hQ,hS];simp;repeat(rw[AQ0];simp[AFe,AFc,AFd,gI,wk',cmE,sgS,P,P2])
 have hV:ABf (f+9) [[a,b],[b,d]]=some 0:=by
  unfold ABf;rw[hA,hD];simp;repeat(rw[AQ0];simp[AH2,AH1,gI,wk',cmE])
 have hG:AH3 (f+9) [[a,b],[b,d]]=some (p,0):=by
  have s2:iter (λs=>ACg (f+9) [[a,b],[b,d]] s.1 s.2) (f+9) (0,ab (bA 2) ([]:List Int))=some [[a,b],[b,d]]:=by kernel_rfl
  unfold AH3 AB1 Zq;rw[hV,hA'];simp[ab]at s2⊢;rw[s2];simp[ACu];repeat(rw[AQ0];simp[ACf,ACc,ACe,ACd,AFt,Ah3,A24,za,zb,zd,zp,gI,sI,wk',sgS,P,P2,Ac])
 have hI:AD8 (f+9) 2=some ([[1,0],[0,1]],true):=by kernel_rfl
 have hT:AB6 (f+9) [[1,0],[0,1]]=some ([[1,0],[0,1]],true):=by kernel_rfl
 have hR:AG1 (f+9) [[1,0],[0,1]]=some (2,true):=by kernel_rfl
 have hF:ABm (f+9) [[a,b],[b,d]] [[1,0],[0,1]]=some ([[a,b],[b,d]],0):=by
  unfold ABm AEu;rw[hV,hH,hR,hT,hA',hH'];simp[ab];repeat(rw[AQ0];simp[AKu,AKt,AKs,Ah3,A25,zn0,zn1,za,zb,zd,gI,sI,wk',ab,bL,hA',hH'])
 have hM:AB2 (f+9) [[a,b],[b,d]]=some ([[a,b],[b,d]],true):=by
  unfold AB2;rw[hA'];simp[ab];repeat(rw[AQ0];simp[AE7,AE6,A8j,za,zb,zd,gI,sI,wk',ab])
 obtain⟨v,hv,Af⟩:=cmQ (f:=f+9) (x:=p) (y:=10000);have hL:iter (λs_1=>AId (f+9) [[a,b],[b,d]] [((),[[a,b],[b,d]]),((),[[p]])] s_1.fst s_1.snd.fst s_1.snd.snd) (f+9) (0,[1,0,0],[[],[]])=some ([1,a,p],[[],[b]]):=by kernel_rfl
 obtain⟨t1,t1',v1,v1',x1,x2,x3,x4,x5,x6⟩:=sh (f:=f+9) za zb r1;have p1:AV5 (f+9) p (b*b)=some (a*d):=pj zb zp Wq;have d1:Zz (f+9) (a*d) a=some (d,0,true):=dvS zad za Wq rfl;obtain⟨w1,k1,k2⟩:=cmG (f:=f+9) l1;have hB:iter (λs=>AEf (f+9) [1,a,p] [[],[b]] [[1,0],[0,1]] s) (f+9) 1=some ():=by repeat(rw[AQ0];simp[AEf,AKv,x1,x2,x3,x4,x5,x6,p1,d1,k1,k2,Ah3,ACu,za,zb,zd,zp,zn1,zn3,zn4,gI,sI,wk'])
 unfold AB3;rw[hG,hS];simp[ACu,hv,Af,ab,wk',gI,sI,hI,hL,hB,hT,hF,hM]
theorem re1{a:Int}(za:Sz a)(P:0<a):AB3 (f+9) [[a]]=if 10000<a then some ([],[],7)else some ([[a]],[[1]],0):=by
 have hQ:ACi (f+9) [[a]]=some (1,true):=by kernel_rfl
 have hA:AAq (f+9) [[a]]=some (1,1,true):=by kernel_rfl
 have hA':Xy (f+9) [[a]]=some (1,1,true):=by kernel_rfl
 have hH:AAq (f+9) [[1]]=some (1,1,true):=by kernel_rfl
 have hH':Xy (f+9) [[1]]=some (1,1,true):=by kernel_rfl
 have hS:AAw (f+9) [[a]]=some ([((),[[a]])],true):=by kernel_rfl
 have hV:ABf (f+9) [[a]]=some 0:=by
  unfold ABf AAk;rw[hA,hQ,hS];simp;repeat(rw[AQ0];simp[AH2,AH1,AFe,AFc,AFd,gI,wk',sgS,P])
 have hG:AH3 (f+9) [[a]]=some (a,0):=by
  have s2:iter (λs=>ACg (f+9) [[a]] s.1 s.2) (f+9) (0,ab (bA 1) ([]:List Int))=some [[a]]:=by kernel_rfl
  unfold AH3 AB1 Zq;rw[hV,hA'];simp[ab]at s2⊢;rw[s2];simp[ACu];repeat(rw[AQ0];simp[ACf,ACc,ACe,ACd,AFt,gI,sI,wk',sgS,P])
 have hI:AD8 (f+9) 1=some ([[1]],true):=by kernel_rfl
 have hT:AB6 (f+9) [[1]]=some ([[1]],true):=by kernel_rfl
 have hR:AG1 (f+9) [[1]]=some (1,true):=by kernel_rfl
 have hF:ABm (f+9) [[a]] [[1]]=some ([[a]],0):=by
  unfold ABm AEu;rw[hV,hH,hR,hT,hA',hH'];simp[ab];repeat(rw[AQ0];simp[AKu,AKt,AKs,Ah3,A25,zn0,zn1,za,gI,sI,wk',ab,bL,hA',hH'])
 have hM:AB2 (f+9) [[a]]=some ([[a]],true):=by
  unfold AB2;rw[hA'];simp[ab];repeat(rw[AQ0];simp[AE7,AE6,A8j,za,gI,sI,wk',ab])
 obtain⟨v,hv,Aa⟩:=cmQ (f:=f+9) (x:=a) (y:=10000);have hL:iter (λs_1=>AId (f+9) [[a]] [((),[[a]])] s_1.fst s_1.snd.fst s_1.snd.snd) (f+9) (0,[1,0],[[]])=some ([1,a],[[]]):=by kernel_rfl
 have hB:iter (λs=>AEf (f+9) [1,a] [[]] [[1]] s) (f+9) 1=some ():=by kernel_rfl
 unfold AB3;rw[hG,hS];simp[ACu,hv,Aa,ab,wk',gI,sI,hI,hL,hB,hT,hF,hM]
end
abbrev ADv(fuel:Nat)(a1:Int)(Ac:Int)(Af:Ys)(Aa:Int)(Ab:W1):Option (Int×W1⊕W1):=if Aa<(Af.length:Int)then(gI Ab Ac).bind λAd=>(gI Ad Aa).bind λAg=>(AN6 fuel a1 Ag).bind λAh=>some<|Sum.inl (W3<|Aa+1,sI Ab Ac<|sI Ad Aa Ah)else some<|Sum.inr<|Ab 
abbrev ADw(fuel:Nat)(a1:Int)(Ad:W1)(Aa:Int)(Ab:W1):Option (Int×W1⊕W1):=if Aa<(Ad.length:Int)then(gI Ab Aa).bind λAe=>(iter (λs=>ADv fuel a1 Aa Ae s.1 s.2) fuel (0,Ab)).bind λ(Af:W1)=>some<|Sum.inl (W3<|Aa+1,Af)else some<|Sum.inr<|Ab 
def Yn(fuel:Nat)(a1:Int)(a7:W1):Option W1:=(Zg fuel a7).bind λAa=>(iter (λs=>ADw fuel a1 Aa s.1 s.2) fuel (0,Aa)).bind λ(Ad:W1)=>some Ad 
theorem AQq{h:Ws}{Aa:bo}{Ac:bo}{a7 r:W1}(H3:ZZ h Aa a1)(H6:Zv cZ h Ac a7)(hp:Yn fuel a1 a7=some r):W6 Tryz.prog 9 #[Aa,Ac] h λx h'=>Ext h h'/\∃(x0:bo)(F0:List Nat)(Ah:List LnA)(Ai:List bo),x=x0/\Yv cZ 56 32 h' F0 Ah Ai x0 r/\Sp h' h.size [F0]:=by unfold Yn at hp;obtain⟨Ak,rfl,Am⟩:=H3.cs;refine cwf (l:=[_,_]) Tryz.func9 rfl rfl ?_;have ss:=ia (lz 0 1099511623872 [.i 12,.m 0])<|ia (lz 0 549754765440 [.i 20,.m 0])<|trivial;exact zz (Xg.k0 h) hp
theorem ALk{k:Int}:∀{n:Nat}{A:Wz},det n (λi j=>k*A i j)=k^n*det n A
 |0,_=>by show(1:Int)=k^0*1;grind|n+1,A=>by
   show psum (λi=>sg i*(k*A i 0)*det n (Zp i λi j=>k*A i j)) (n+1)=k^(n+1)*psum (λi=>sg i*A i 0*det n (Zp i A)) (n+1);rw[<-Yx];refine Wy λi _=>?_;have h:det n (Zp i λi j=>k*A i j)=k^n*det n (Zp i A):=ALk (k:=k) (n:=n) (A:=Zp i A);grind
theorem BDd{m:Nat}:Mn m (λi j=>k*A i j) i j=k^(m+1)*Mn m A i j:=ALk (k:=k) (A:=λr c=>A (bro m i r)<|bro m j c)
theorem A5n{n:Nat}(hk:1<=k)(R:AYa n A):(AFv n λi j=>k*A i j)/\(AIn n λi j=>k*A i j)/\AUt (λi j=>k*A i j) n/\AV4 (λi j=>k*A i j) n:=by
 have kp:∀m:Nat,0<k^m:=λm=>aA Wq;refine⟨λi j hi hj=>by show k*A i j=k*A j i;rw[R.sym i j hi hj],λm hm=>by rw[ALk];exact cm (kp m)<|R.pos m hm,λr l h1 h2=>?_,λr h=>?_⟩;.obtain⟨a,b⟩:=R.sz r l h1 h2;unfold SzF;rw[ALk,BDd];have c:=ah a<|ba<|kp<|l+1;have d:=ah b<|ba<|kp<|l+1;grind
 .have a:=R.lv r h;unfold LvF at*;rw[ALk,ALk,ALk,BDd];have c:=ah a<|ba<|cm (kp<|r+1)<|kp<|r+1;have e:k^r*k^(r+2)=k^(r+1)*k^(r+1):=by grind
  generalize k^(r+1)=x at*;generalize k^r=y at*;generalize k^(r+2)=z at*;generalize det r A=u at*;grind
theorem d1:det 1 A=A 0 0:=by simp[det,psum,sg]
theorem d2:det 2 A=A 0 0*A 1 1-A 1 0*A 0 1:=by simp[det,psum,sg,Zp,skp];grind
theorem m10(hi:1<=i)(hj:1<=j):Mn 1 A i j=A 0 0*A i j-A i 0*A 0 j:=by have h:∀{i:Nat},1<=i->bro 1 i 0=0/\bro 1 i 1=i:=λ{i}h=>⟨by simp[bro],by simp[bro]⟩;unfold Mn;rw[d2,(h hi).1,(h hi).2,(h hj).1,(h hj).2]
theorem d3:det 3 A=A 0 0*(A 1 1*A 2 2-A 2 1*A 1 2)-A 1 0*(A 0 1*A 2 2-A 2 1*A 0 2)+A 2 0*(A 0 1*A 1 2-A 1 1*A 0 2):=by simp[det,psum,sg,Zp,skp];grind
theorem Ao2{y:Int}{a b:Nat}(h:x.natAbs<=a)(k:y.natAbs<=b):(x*y).natAbs<=a*b:=by rw[Int.natAbs_mul];exact bX h k
theorem reK{n:Nat}{B:Wz}(n1:1<=n)(n3:n<=3)(hs:AFv n B)(hp:AIn n B)(hz:AUt B n)(hl:AV4 B n)(hb:∀i j,i<n->j<n->(B i j).natAbs<=1000000)(hD:det n B<=1000000):AB3 (f+9) (Xw n n B)=if 10000<det n B then some ([],[],7)else some (Xw n n B,Xw n n dl,0):=by
 have p1:=hp 1 n1;rw[d1]at p1;have za:=hb 0 0 Wq Wq;have hn:n=1∨n=2∨n=3:=by omega
 have l0:2<=n->-B 0 0<=2*B 1 0/\2*B 1 0<=B 0 0:=λh=>by have:=hz 1 0 Wq Wq;unfold SzF at this;rwa[d1,AFr]at this
 have l1:2<=n->3*(B 0 0*B 0 0)<=4*(B 0 0*B 1 1):=λh=>by
  have h1:=hl 0 Wq;unfold LvF at h1;rw[d1,d2,AFr,show det 0 B=1 from rfl]at h1;rw[hs 0 1 Wq Wq]at h1;grind
 have cut:∀x y:Int,0<x->3*(x*x)<=4*(x*y)->3*x<=4*y:=λx y hx h=>Int.le_of_mul_le_mul_left (by grind) hx;rcases hn with rfl|rfl|rfl;.rw[d1];exact re1 (a:=B 0 0) (by unfold Sz;omega) p1
 .have Aa:=hs 1 0 Wr Wr;have e:Xw 2 2 B=[[B 0 0,B 0 1],[B 0 1,B 1 1]]:=by
   show[[B 0 0,B 0 1],[B 1 0,B 1 1]]=_;rw[Aa]
  have p2:=hp 2 Wr;have Ai:=hb 0 1 Wr Wr;have Ak:=hb 1 1 Wr Wr;have b2:=Ao2 Ai Ai;have ad:=Ao2 za Ak;have k1:=cut _ _ p1<|l1 Wr;have k0:=l0 Wr;rw[Aa]at k0;rw[d2,Aa]at p2 hD⊢;rw[e,re2 (by unfold Sz;omega) (by unfold Sz;omega) (by unfold Sz;omega) (by unfold Sz;omega) p1 p2 rfl k0 k1 (by unfold Sz;omega)];rfl
 .have Aa:=hs 1 0 Wr Wr;have Am:=hs 2 0 Wr Wr;have Ao:=hs 2 1 Wr Wr;have eT:Xw 3 3 B=[[B 0 0,B 0 1,B 0 2],[B 0 1,B 1 1,B 1 2],[B 0 2,B 1 2,B 2 2]]:=by
   show[[B 0 0,B 0 1,B 0 2],[B 1 0,B 1 1,B 1 2],[B 2 0,B 2 1,B 2 2]]=_;grind
  have p2:=hp 2 Wr;have p3:=hp 3 Wr;have k0:=l0 Wr;have k1:=cut _ _ p1<|l1 Wr;have k2:=hz 2 0 Wr Wr;have k3:=hz 2 1 Wr Wr;have k4:=hl 1 Wr;unfold SzF at k2 k3;unfold LvF at k4;rw[d1,AFr]at k2;rw[d2,m10 Wr Wr]at k3;rw[d2,d1,m10 Wr Wr]at k4;have D3:=d3 (A:=B);rw[d2]at p2;rw[Aa,Am,Ao]at*;have zb:=hb 0 1 Wr Wr;have zc:=hb 0 2 Wr Wr;have zd:=hb 1 1 Wr Wr;have ze:=hb 1 2 Wr Wr;have zg:=hb 2 2 Wr Wr;generalize det (1+2) B=D at*;generalize B 0 0=a at*;generalize B 0 1=b at*;generalize B 0 2=c at*;generalize B 1 1=d at*;generalize B 1 2=e at*;generalize B 2 2=g at*;obtain⟨p,hp⟩:∃p,p=a*d-b*b:=⟨_,rfl⟩;obtain⟨q,hq⟩:∃q,q=a*e-b*c:=⟨_,rfl⟩;obtain⟨s,hs⟩:∃s,s=a*g-c*c:=⟨_,rfl⟩;rw[<-hp]at p2 k3 k4;have Ap:a*e-c*b=q:=by grind
  rw[Ap]at k3 k4;have e4:p*s-q*q=a*D:=by grind
  have k5:=cut p s p2 Wq;have bb:=Ao2 zb zb;have ad:=Ao2 za zd;have aD:=Ao2 za (show D.natAbs<=1000000 by omega);have qq:4*(q*q)<=p*p:=by
   have h1:0<=(p-2*q)*(p+2*q):=b9 Wq Wq;grind
  have pp:p*p<=2*(a*D):=by omega
  have p3':p*1<=p*p:=ah Wq Wq;have q0:0<=q*q:=by rcases Int.le_total 0 q with h|h;exact b9 h h;exact Int.mul_nonneg_of_nonpos_of_nonpos h h
  have s1:1*s<=p*s:=ak Wq Wq;rw[eT,re3 (p:=p) (q:=q) (s:=s) (D:=D) (by unfold Sz;omega) (by unfold Sz;omega) (by unfold Sz;omega) (by unfold Sz;omega) (by unfold Sz;omega) (by unfold Sz;omega) (by unfold Sz;omega) (by unfold Sz;omega) (by unfold Sz;omega) (by unfold Sz;omega) p1 p2 p3 hp.symm hq.symm hs.symm e4 k0 k2 k3 k1 k5 (by unfold Sz;omega) (by unfold Sz;omega) (by unfold Sz;omega)];rfl
theorem zmK(hk:1<=k/\k<=3)(h:x.natAbs<=1000000):AN6 f k x=some (k*x):=if_pos (by
 have h1:k.natAbs*x.natAbs<=3*1000000:=bX Wq h;exact Nat.lt_of_le_of_lt h1<|by decide+kernel)
theorem A4c{n:Nat}(n1:1<=n)(n3:n<=3)(hk:1<=k/\k<=3)(hb:∀i j,i<n->j<n->(A i j).natAbs<=1000000):Yn (f+9) k (Xw n n A)=some (Xw n n λi j=>k*A i j):=by
 have hn:n=1∨n=2∨n=3:=by omega
 have z:=λi j hi hj=>zmK (f:=f+9) hk<|hb i j hi hj;rcases hn with rfl|rfl|rfl;.have z0:=z 0 0 Wr Wr;show Yn (f+9) k [[A 0 0]]=some [[k*A 0 0]];unfold Yn Zg;simp[ab];repeat(rw[AQ0];simp[AA6,AA5,ADw,ADv,AJi,z0,gI,sI,wk'])
 .have z0:=z 0 0 Wr Wr;have z1:=z 0 1 Wr Wr;have z2:=z 1 0 Wr Wr;have z3:=z 1 1 Wr Wr;show Yn (f+9) k [[A 0 0,A 0 1],[A 1 0,A 1 1]]=some [[k*A 0 0,k*A 0 1],[k*A 1 0,k*A 1 1]];unfold Yn Zg;simp[ab];repeat(rw[AQ0];simp[AA6,AA5,ADw,ADv,AJi,z0,z1,z2,z3,gI,sI,wk'])
 .have z0:=z 0 0 Wr Wr;have z1:=z 0 1 Wr Wr;have z2:=z 0 2 Wr Wr;have z3:=z 1 0 Wr Wr;have z4:=z 1 1 Wr Wr;have z5:=z 1 2 Wr Wr;have z6:=z 2 0 Wr Wr;have z7:=z 2 1 Wr Wr;have z8:=z 2 2 Wr Wr;show Yn (f+9) k [[A 0 0,A 0 1,A 0 2],[A 1 0,A 1 1,A 1 2],[A 2 0,A 2 1,A 2 2]]=some [[k*A 0 0,k*A 0 1,k*A 0 2],[k*A 1 0,k*A 1 1,k*A 1 2],[k*A 2 0,k*A 2 1,k*A 2 2]];unfold Yn Zg;simp[ab];repeat(rw[AQ0];simp[AA6,AA5,ADw,ADv,AJi,z0,z1,z2,z3,z4,z5,z6,z7,z8,gI,sI,wk'])
theorem Azo{p:Int}(hp:2<=p):∀(m:Nat){d:Int},1<=d->d<=m->∃(v:Nat)(r:Int),d=r*p^v/\¬p∣r
 |0,_,h,h2=>by omega|m+1,d,h,h2=>by
   by_cases hd:p∣d
   .obtain⟨c,rfl⟩:=hd;have hc:1<=c:=by
     rcases ap c 1 with h3|h3;.have:=aV (show 0<=p by omega) (show c<=0 by omega);omega
     omega
    have h4:2*c<=p*c:=ak hp Wq;obtain⟨v,r,e,hr⟩:=Azo hp m hc Wq;exact⟨v+1,r,by grind,hr⟩
   .exact⟨0,d,by grind,hd⟩
variable{n:Nat}{A A' U:Wz}
structure Frm(n:Nat)(A:Wz):Prop where
 R:AYa n A
 n1:1<=n
 n3:n<=3
 pr:∀p,Pr p->p∣det n A->p<=9973
 two:∀(v:Nat)(r:Int),det n A=r*2^v->v<=9∨(∃F:Wz,∀i j,i<n->j<n->A i j=2*F i j)/\v<=9+n
theorem Frm.M(F:Frm n A):AS0 (Xw n n A):=A28 F.n1 (by have:=F.n3;omega) F.R
theorem dT:det (Xw n n A).length (ent<|Xw n n A)=det n A:=by rw[Xh];exact Xo λi j hi hj=>AU2 hi hj
theorem A5o(h:1<=d)(h2:d<=729)(hv:(2:Int)^v∣d):v<=9:=by
 false_or_by_contra;have h1:(2:Int)^10∣d:=aq (Yb Wq) hv;omega
theorem Aix(n1:1<=n)(n3:n<=3)(R:AYa n A)(hd:det n A<=729)(hk:1<=k/\k<=3)(hD:det n (λi j=>k*A i j)<=10000):Frm n λi j=>k*A i j:=by
 obtain⟨h1,h2,h3,h4⟩:=A5n (k:=k) Wq R;have d0:=R.pos n<|ay n;refine⟨⟨h1,h2,h3,h4,hD⟩,n1,n3,λp hp hpd=>?_,λv r e=>?_⟩
 .rw[ALk]at hpd;rcases(AL9 hp).2 _ _ hpd with h|h
  .have:p∣k:=by
    false_or_by_contra;rename_i hc;exact(AL9 hp).ndvd_pow hc n h
   have:=an Wq this;omega
  .have:=an Wq h;omega
 .rw[ALk]at e;have odd:¬(2:Int)∣k->v<=9:=λhc=>A5o Wq hd<|AW3.cancel (AW3.ndvd_pow hc n) v (by simp_all);by_cases Ag:k=2
  .subst Ag;refine .inr ⟨⟨A,λi j _ _=>rfl⟩,?_⟩;rcases cg v n with h|h;.omega
   .obtain⟨w,rfl⟩:∃w,v=n+w:=⟨v-n,Wq⟩;rw[aP]at e;have e2:det n A=r*2^w:=bx (show(2:Int)^n≠0 from bt Wr) (by grind);have:=A5o Wq hd (v:=w) ⟨r,by grind⟩;omega
  omega
theorem sy2(F:Frm n A)(hd:det n A=r*2^v)(hr:¬(2:Int)∣r):∃L C X,Two n A v L C/\Chk (C.map shp)=true/\Aoz C=some ((2,X),true)/\syO (Xw n n A) 2=some ((2,X),0)/\X.length<=50:=by
 have n3:=F.n3;obtain⟨L,C,e,T⟩:=A9p F.M (by rw[Xh];omega) (dT.trans hd) hr;rw[Xh]at T;have T:Two n A v L C:=⟨T.b.cast λi j hi hj=>AU2 hi hj,T.q,T.sp,T.rr,T.lv,T.nn⟩;have hc:=T.chk ⟨F.n1,n3⟩<|(F.two v r hd).imp id λ⟨⟨G,hG⟩,h⟩=>⟨(BkF.down (T.b.cast hG) AW3 Wq).1,h⟩;obtain⟨X,X',h1,h2,h3,-⟩:=Arl T T F.n1 hc hc;refine⟨L,C,X,T,hc,h1,?_,?_⟩;.unfold syO;grind
 .have:C.length<=8:=by
   have h4:∀C:List Xm,(∀c∈C,0<c.2.1)->(C.length:Int)<=cN C:=λC=>by induction C with
    |nil=>intro _;exact bh 0|cons c C ih=>
      intro h;have:=ih λd hd=>h d (by grind);have:=h c W4;show((C.length+1:Nat):Int)<=c.2.1+cN C;omega
   have:=h4 C λc hc=>(T.rr c hc).1.2;rw[T.nn.1]at this;omega
  omega
theorem syp(F:Frm n A)(hp:Pr p)(Aa:2<p)(Ab:p<=9973)(hd:det n A=r*p^v)(hr:¬p∣r):∃L C,Odp p n A v L C/\syO (Xw n n A) p=some ((p,C),0)/\C.length<=50:=by obtain⟨L,C,e,T,h⟩:=A9t F.M hp Aa Ab (dT.trans hd) hr;have b:=T.b;rw[Xh]at b;refine⟨L,C,⟨b.cast λi j hi hj=>AU2 hi hj,T.one,T.c⟩,?_,Wq⟩;unfold syO;grind
theorem Frm.val(F:Frm n A)(hp:Pr p):∃(v:Nat)(r:Int),det n A=r*p^v/\¬p∣r:=Azo hp.1 10000 (by have:=F.R.pos n<|ay n;omega) F.R.dt
theorem Aiy(hp:Pr p)(h:p≠2)(hd:p∣2*d):2<p/\p∣d:=by have:=hp.1;refine⟨Wq,((AL9 hp).2 _ _ hd).resolve_left λh2=>?_⟩;have:=an Wr h2;omega
theorem BF9:Pr 2:=⟨Wq,λd h1 h2=>by omega⟩
theorem Frm.ok(F:Frm n A):A4b (Xw n n A):=λp hp hd=>by
 rw[dT]at hd;obtain⟨v,r,e,hr⟩:=F.val hp;by_cases h:p=2
 .subst h;obtain⟨L,C,X,-,-,-,h1,h2⟩:=sy2 F e hr;obtain⟨h3,h4⟩:=Agm h1;grind
 .obtain⟨h5,h6⟩:=Aiy hp h hd;obtain⟨L,C,-,h1,h2⟩:=syp F hp h5 (F.pr p hp h6) e hr;obtain⟨h3,h4⟩:=Agm h1;grind
theorem A9x(F:Frm n A)(F':Frm n A')(hd:det n A=r*2^v)(hr:¬(2:Int)∣r)(hd':det n A'=r'*2^v)(hr':¬(2:Int)∣r'):∃L C L' C',Two n A v L C/\Two n A' v L' C'/\(sy (Xw n n A) 2=sy (Xw n n A') 2↔Sm2 L L'):=by obtain⟨L,C,X,T,c,h1,h2,-⟩:=sy2 F hd hr;obtain⟨L',C',X',T',c',h1',h2',-⟩:=sy2 F' hd' hr';obtain⟨Y,Y',g1,g2,-,g⟩:=Arl T T' F.n1 c c';rw[h1]at g1;rw[h1']at g2;cases g1;cases g2;refine⟨L,C,L',C',T,T',?_⟩;rw[(Agm h2).2,(Agm h2').2,<-g];grind
theorem A9y(F:Frm n A)(F':Frm n A')(hp:Pr p)(Aa:2<p)(Ab:p<=9973)(hd:det n A=r*p^v)(hr:¬p∣r)(hd':det n A'=r'*p^v)(hr':¬p∣r'):∃L C L' C',Odp p n A v L C/\Odp p n A' v L' C'/\(sy (Xw n n A) p=sy (Xw n n A') p↔SmP p L L'):=by obtain⟨L,C,T,h2,-⟩:=syp F hp Aa Ab hd hr;obtain⟨L',C',T',h2',-⟩:=syp F' hp Aa Ab hd' hr';refine⟨L,C,L',C',T,T',?_⟩;rw[(Agm h2).2,(Agm h2').2,<-A39 T T'];grind
theorem Frm.v13(F:Frm n A)(hd:det n A=r*2^v):v<=13:=by have:=F.n3;rcases F.two v r hd with h|h<;>omega
theorem A4d(hk:k=2∨k=3)(F:Frm n A)(F':Frm n A')(G:Frm n λi j=>k*A i j)(G':Frm n λi j=>k*A' i j)(he:det n A'=det n A):(∀p,Pr p->p∣2*det n A->sy (Xw n n A) p=sy (Xw n n A') p)↔∀p,Pr p->p∣2*det n (λi j=>k*A i j)->sy (Xw n n λi j=>k*A i j) p=sy (Xw n n λi j=>k*A' i j) p:=by
 have Aj:det n (λi j=>k*A' i j)=det n λi j=>k*A i j:=by rw[ALk,ALk,he]
 have Aw:sy (Xw n n A) 2=sy (Xw n n A') 2↔sy (Xw n n λi j=>k*A i j) 2=sy (Xw n n λi j=>k*A' i j) 2:=by
  obtain⟨v,r,e,hr⟩:=F.val BF9;obtain⟨v2,r2,Af,e2,Ad⟩:∃(v2:Nat)(r2:Int),(k=3/\v2=v∨k=2/\v2=v+n)/\det n (λi j=>k*A i j)=r2*2^v2/\¬(2:Int)∣r2:=by
   rcases hk with rfl|rfl;.exact⟨v+n,r,.inr ⟨rfl,rfl⟩,by rw[ALk,e,aP];grind,hr⟩
   .exact⟨v,3^n*r,.inl ⟨rfl,rfl⟩,by rw[ALk,e,cb],AW3.ndvd_mul (AW3.ndvd_pow Wr n) hr⟩
  obtain⟨L,C,L',C',T,T',h1⟩:=A9x F F' e hr (he.trans e) hr;obtain⟨L2,C2,L3,C3,S,S',h2⟩:=A9x G G' e2 Ad (Aj.trans e2) Ad;rw[h1,h2];exact A9s T T' e hr (he.trans e) hr (F.v13 e) F.n1 Af S S' (λ_ _ _ _=>rfl) λ_ _ _ _=>rfl
 have atp:∀p,Pr p->2<p->p<=9973->(sy (Xw n n A) p=sy (Xw n n A') p↔sy (Xw n n λi j=>k*A i j) p=sy (Xw n n λi j=>k*A' i j) p)/\(¬p∣det n A->sy (Xw n n A) p=sy (Xw n n A') p):=λp hp Ah Ak=>by
  have hI:=AL9 hp;have hO:=Anz ⟨Ah,hp⟩;obtain⟨v,r,e,hr⟩:=F.val hp;have hkp:¬p∣k∨k=p:=by
   by_cases h:p∣k
   .have:=an Wq h;omega
   omega
  obtain⟨v2,r2,Af,e2,Ad⟩:∃(v2:Nat)(r2:Int),(¬p∣k/\v2=v∨k=p/\v2=v+n)/\det n (λi j=>k*A i j)=r2*p^v2/\¬p∣r2:=by
   rcases hkp with h|h;.exact⟨v,k^n*r,.inl ⟨h,rfl⟩,by rw[ALk,e,cb],hI.ndvd_mul (hI.ndvd_pow h n) hr⟩
   .exact⟨v+n,r,.inr ⟨h,rfl⟩,by rw[ALk,e,aP,h];grind,hr⟩
  obtain⟨L,C,L',C',T,T',h1⟩:=A9y F F' hp Ah Ak e hr (he.trans e) hr;obtain⟨L2,C2,L3,C3,S,S',h2⟩:=A9y G G' hp Ah Ak e2 Ad (Aj.trans e2) Ad;rw[h1,h2];refine⟨A9w T T' hO hI F.n1 e hr (he.trans e) hr Af S S' (λ_ _ _ _=>rfl) λ_ _ _ _=>rfl,λh=>Azk T T' ?_ hO hI h he⟩;rcases ar v with h0|h0;.exact h0
  .exact absurd (by rw[e,show v=v-1+1 by omega,au];exact⟨r*p^(v-1),by grind⟩) h
 constructor
 .intro h p hp hpd;by_cases h2:p=2;.grind
  .obtain⟨h3,h4⟩:=Aiy hp h2 hpd;obtain⟨h5,h6⟩:=atp p hp h3<|G.pr p hp h4;refine h5.1 ?_;by_cases h7:p∣det n A;.exact h p hp<|aq h7 ⟨2,aJ _ _⟩
   grind
 .intro h p hp hpd;by_cases h2:p=2;.grind
  .obtain⟨h3,h4⟩:=Aiy hp h2 hpd;exact(atp p hp h3<|F.pr p hp h4).1.2 (h p hp (by rw[ALk];exact aq h4 ⟨2*k^n,by grind⟩))
theorem A4e(F:Frm n A)(F':Frm n A')(hU:ALm n A U A')(hu:det n U*det n U=1):det n A'=det n A/\∀p,Pr p->p∣2*det n A->sy (Xw n n A) p=sy (Xw n n A') p:=by
 have he:det n A'=det n A:=by rw[AX9 hU,hu,am]
 refine⟨he,λp hp hpd=>?_⟩;obtain⟨v,r,e,hr⟩:=F.val hp;by_cases h2:p=2;.subst h2;obtain⟨L,C,L',C',T,T',h1⟩:=A9x F F' e hr (he.trans e) hr;exact h1.2<|Ao0 T.b T'.b T.q T'.q (F.v13 e) (T.le e hr) hU hu
 .obtain⟨h3,h4⟩:=Aiy hp h2 hpd;obtain⟨L,C,L',C',T,T',h1⟩:=A9y F F' hp h3 (F.pr p hp h4) e hr (he.trans e) hr;exact h1.2<|T.b.sm T'.b (Anz ⟨h3,hp⟩) (AL9 hp) Wq T.one T'.one hU hu
end Go.Proofs.YtgmdhndbcohgiaaGreatDoor
namespace Go.Proofs.YtgmdhndbcohgiaaGreatDoor
noncomputable def AD9(fuel:Nat)(a1 a2:Int)(a5 a9:Ys)(A9 Aq:Int)(Ar Au:Ys)(Av:Int)(Aa:Bool):Option Bool:=(if Aa=true then some (a2,a5)else some (Aq,Ar):Option (Int×Ys)).bind λ((Aw,Ax):Int×Ys)=>(Zs fuel a1 a2 a5 a9 3).bind λAc=>(AAp fuel a1 Aw Ax Au 3).bind λAd=>(AJ3 fuel Ac Ad).bind λ(Ab,Ae)=>(AGc fuel<|W3<|1+bI (W3 Av) 3).bind λAi=>(Yw fuel Ac).bind λAy=>(Yn fuel Ai Ay).bind λAz=>(AB3 fuel Az).bind λ(Aj,Ba,Ak)=>(Yw fuel Ad).bind λA4=>(Yn fuel Ai A4).bind λA5=>(AB3 fuel A5).bind λ(Am,Bb,Ao)=>(if Ak=7 then if Ae=0 then if Ab=true then some (.inl true)else some (.inl<|!Aa)else some (.inl false)else if Ao=7 then if Ae=0 then if Ab=true then some (.inl true)else some (.inl<|!Aa)else some (.inl false)else some<|.inr ():Option (Bool⊕Unit)).bind λex=>match ex with|.inl A6=>some A6|.inr _=>(AJ3 fuel Aj Am).bind λ(A7,A8)=>if Ae=0 then if Ak=0 then if Ao=0 then if A8=0 then if(Aj.length:Int)=(Ac.length:Int)then if(Am.length:Int)=(Ad.length:Int)then if(Ab==A7)=true then if Ab=true then some true else some !Aa else some false else some false else some false else some false else some false else some false else some false 
theorem AJk{h:Ws}{a2:Int}{Af:bo}{a5:Ys}{Aj:bo}{a9:Ys}{Aq Ah:Int}{Ag:bo}{Ar:Ys}{Ab:bo}{A8:Ys}{A9:Int}{Ba r:Bool}(H4:SlC (cI .i8) h Af a5)(H8:SlC (cI .i8) h Aj a9)(Bm:SlC (cI .i8) h Ag Ar)(Bn:SlC (cI .i8) h Ab A8)(HO:AOd h)(hp:AD9 fuel a1 a2 a5 a9 Aq Ah Ar A8 A9 Ba=some r):W6 Tryz.prog 3 #[.agg #[.int .u8 a1,.int .u8 a2,Af,Aj],.agg #[.int .u8 Aq,.int .u8 Ah,Ag,Ab],.int .u8 A9,.bool Ba] h λx h'=>Ext h h'/\x=.bool r:=by
 unfold AD9 at hp;refine cwf (l:=[_,_,_,_]) Tryz.func3 rfl rfl (Xd<|Aan (Xg.k0 h) [.int .u8 a1,.int .u8 a2,Af,Aj] λCa Cb Cd Bo=>Aan Bo [.int .u8 Aq,.int .u8 Ah,Ag,Ab] λAv Ce Cf Aw=>ADt<|Aj3 Ahe Aje (Aw.b p1) 0 rfl (ASc Ahe rfl (ARc [.int .u8 a1,.int .u8 Ah,Ag,Ab] Aje rfl rfl rfl (Aw.b p0) (aM rfl) rfl λAx Bp Bq=>Xl ?_)));have ss:=ia (lz 2 1208888926126481755603200 [.s [0,4,10,11]])<|trivial;have Ac:=Aw.sb p0 Bq Bp rfl;obtain⟨Br,Bb,Bt⟩:=Xq hp;refine A05 4261412864 (λx:Int×Ys×bo=>[]) (λx h'=>(x.1,x.2.1)=Br/\Xg h h' (aC (SlC (cI .i8) h x.2.2 x.2.1)::(Ac.L.set 0<|aB 24 Av [.int .u8 a1,.int .u8 x.1,x.2.2,Ab]))) ?_ ?_
 .refine Xd<|Wu<|Xl<|⟨_,rfl,λAy=>?_,λAy=>?_⟩;.have Bc:Yg ([Av]++[]) Ax Ax:=Yg.start<|Abh (AJg (Ac.b p0) rfl) all_nil;refine AXj (B:=λh'=>Yg ([Av]++[]) Ax h') 0 [] (λ_ _ U E=>U.thenE E) Ww Bc A6z<|Afi λCg Be=>BD0<|b_w<|ASc Ahf rfl ?_;have Ad:=Bc.thenE Be;have Az:=Ac.e Be;refine W0 ⟨Ad,?_⟩;refine b_w<|AAm Aje rfl Ad (λh' hb=>((Ac.b p1).upT hb (Amq (Ac.dj p1 p0 Wr) Amr)).cell (i:=1) rfl) (W0 ⟨Ad,?_⟩);refine b_w<|ASc Ahg rfl (W0 ⟨Ad,?_⟩);refine b_w<|AAm Ajd rfl Ad (λh' hb=>((Ac.b p1).upT hb (Amq (Ac.dj p1 p0 Wr) Amr)).cell (i:=2) rfl) (W0 ⟨Ad,?_⟩);refine b_w<|ASc Ahf rfl (W0 ⟨Ad,?_⟩);refine b_w<|ARc [.int .u8 a1,.int .u8 a2,Ag,Ab] Aje rfl rfl rfl (Az.b p0) (aM rfl) rfl λCh Bf Bg=>?_;have A4:=Ad.then (Bf.stA Bg (AJg (Az.b p0) rfl) rfl)<|Apd rfl;have Ak:=Az.sb p0 Bg Bf rfl;refine W0 ⟨A4,?_⟩;refine b_w<|ASc Ahg rfl (W0 ⟨A4,?_⟩);refine b_w<|ARc [.int .u8 a1,.int .u8 a2,Af,Ab] Ajd rfl rfl (H4.ext Ak.x).isOne (Ak.b p0) (aM rfl) rfl λCi Bh Bi=>W0 ⟨A4.then (Bh.stA Bi (AJg (Ak.b p0) rfl) rfl)<|Apd rfl,?_⟩;refine Aps<|Xr ?_;exact⟨((a2,a5,Af):Int×Ys×bo),⟨AA2<|ifT Bb Ay,(Ak.sb p0 Bi Bh rfl).ac H4⟩,trivial⟩
  .refine Xj<|Xr ?_;exact⟨((Ah,Ar,Ag):Int×Ys×bo),⟨AA2<|Ajp Bb Ay,Ac.ac Bm⟩,trivial⟩
 rintro⟨Bu,Cj,Bv⟩Ck A5⟨Bw,Ai⟩;subst Bw;refine Wx<|AAr (λh'=>Yg [] A5 h') Ww ?_;have Am:Yg [] A5 A5:=Yg.start all_nil;refine AEa [.int .u8 a1,.int .u8 a2,Af,Aj] Ani rfl rfl Am (λh' hb=>((Ai.b p2).ext hb.ext).agg) ?_;obtain⟨Cm,Bx,By⟩:=Xq Bt;refine ADs Am (λ_ E=>Am.thenE E) rfl (AGo (H4.ext Ai.x) (H8.ext Ai.x) Bx) λCn Co Bj Bz=>?_;obtain⟨Cp,Cq,Cr,Ct,rfl,B2,B3⟩:=Bz;have A6:=Am.thenE Bj;refine AEa [.int .u8 a1,.int .u8 Bu,Bv,Ab] Ani rfl rfl A6 (λh' hb=>((Ai.b p1).ext hb.ext).agg) ?_;have Ao:=Ai.no2 Bj B3 B2;obtain⟨Cu,B4,B5⟩:=Xq By;refine ADs A6 (λ_ E=>A6.thenE E) rfl (AF9 ((Ao.c p1).ext Ao.x) (Bn.ext Ao.x) B4) λCv Cw B6 B7=>?_;obtain⟨Cx,Cy,Cz,C0,rfl,B8,B9⟩:=B7;refine X4<|Xu ?_;exact zz (Ao.no2 B6 B9 B8) B5
theorem BDe{n:Nat}(h:n<=3)(hd:d<=9^n):d<=729:=by rcases show n=0∨n=1∨n=2∨n=3 by omega with rfl|rfl|rfl|rfl<;>simp at hd<;>omega
theorem Aem{a2 Aq Aj Aa:Int}{L1 L2 L3 L4:List Int}{Ac:Bool}(h1:0<=a1/\a1<256)(h2:0<=Aa/\Aa<256):AD9 (Zm+1) a1 a2 L1 L2 Aq Aj L3 L4 Aa Ac=some true:=by
 have hf:Zm<Zm+1:=Nat.lt_succ_self _;have Au:17<Zm+1:=by decide+kernel
 obtain⟨f,Ao⟩:∃f,Zm+1=f+9:=⟨Zm+1-9,(Nat.sub_add_cancel Wq).symm⟩;obtain⟨b2,M3,hsel,hnear⟩:∃b2 M3,(if Ac=true then some (a2,L1)else some (Aj,L3):Option (Int×List Int))=some (b2,M3)/\(Ac=true->b2=a2/\M3=L1):=by
  cases Ac;.grind
  grind
 obtain⟨n,A,X,T,eF,eX,n1,n3,P⟩:=Azf (L:=L1) (L2:=L4) (a2:=a2) (most:=3) h1 Wr hf;obtain⟨m,Y,B,S,-,eO,m1,m3,Q⟩:=Azf (L:=M3) (L2:=L4) (a2:=b2) (most:=3) h1 Wr hf;have eF:Zs (Zm+1) a1 a2 L1 L2 3=some (Xw n n A):=eF;have dA:=BDe Wq P.dt;have dB:det m B<=729:=by rw[AX9 Q.c,Q.d,am];exact BDe Wq Q.dt
 have FA:Frm n A:=by have:=Aix (k:=1) n1 Wq P.a dA Wr (by grind);grind
 have FB:Frm m B:=by have:=Aix (k:=1) m1 Wq Q.b dB Wr (by grind);grind
 obtain⟨sm,e1,hsm⟩:=Arn FA.M FB.M FA.ok FB.ok;rw[dT,dT,Xh,Xh]at hsm;have near:Ac=true->sm=true:=λh=>by
  obtain⟨rfl,rfl⟩:=hnear h;rw[eX]at eO;have hmn:n=m:=by have:=congrArg List.length<|Option.some.inj eO;rwa[Xh,Xh]at this
  subst hmn;have hXB:∀i j,i<n->j<n->X i j=B i j:=λi j hi hj=>(AU2 (f:=X) hi hj).symm.trans (by rw[Option.some.inj eO];exact AU2 hi hj);obtain⟨g1,g2⟩:=A4e FA FB (λi j hi hj=>by rw[<-hXB i j hi hj];exact P.c i j hi hj) P.d;grind
 obtain⟨k,hk,ek⟩:∃k,W3 (1+bI (W3 Aa) 3)=k/\1<=k/\k<=3:=by
  have t0:W3 Aa=Aa:=wk Wq;have t1:=Int.emod_nonneg Aa (show(3:Int)≠0 by decide);have t2:=Int.emod_lt_of_pos Aa (show(0:Int)<3 by decide);rw[t0,ao h2.1,wk Wq];exact⟨_,rfl,Wq,Wq⟩
 have eZ:AGc (Zm+1) k=some k:=if_pos Wq;have fin:(!Ac)=true∨sm=true:=by grind
 have mult:∀{n:Nat}{A:Wz},1<=n->(n:Int)<=3->AYa n A->det n A<=729->Yw (Zm+1) (Xw n n A)=some (Xw n n A)/\Yn (Zm+1) k (Xw n n A)=some (Xw n n λi j=>k*A i j)/\AB3 (Zm+1) (Xw n n λi j=>k*A i j)=if 10000<det n λi j=>k*A i j then some ([],[],7)else some (Xw n n λi j=>k*A i j,Xw n n dl,0):=λ{n A}n1 n3 R hd=>by
  have hb:∀i j,i<n->j<n->(A i j).natAbs<=192000:=λi j hi hj=>by have:=AYc Wq R hi hj;omega
  have d0:=R.pos n<|ay n;refine⟨Ad2 n1 Wq (λi j hi hj=>aY (hb i j hi hj) Wr) Au,?_,?_⟩;.rw[Ao];exact A4c n1 Wq ek λi j hi hj=>aY (hb i j hi hj) Wr
  .obtain⟨r1,r2,r3,r4⟩:=A5n (k:=k) ek.1 R;rw[Ao];refine reK n1 Wq r1 r2 r3 r4 (λi j hi hj=>?_) ?_
   .have:=Ao2 (show k.natAbs<=3 by omega)<|hb i j hi hj;omega
   .rw[ALk];have h3:(k^n).natAbs<=27:=by rcases show n=1∨n=2∨n=3 by omega with rfl|rfl|rfl<;>rcases show k=1∨k=2∨k=3 by omega with rfl|rfl|rfl<;>decide
    have:=Ao2 h3 (show(det n A).natAbs<=729 by omega);omega
 obtain⟨oA,tA,rA⟩:=mult n1 n3 P.a dA;obtain⟨oB,tB,rB⟩:=mult m1 m3 Q.b dB;unfold AD9;rw[hsel];simp only[aa];rw[eF];simp only[aa];rw[eO];simp only[aa];rw[e1];simp only[aa];rw[hk,eZ];simp only[aa];rw[oA];simp only[aa];rw[tA];simp only[aa];rw[rA];by_cases cA:10000<det n λi j=>k*A i j;.rw[if_pos cA];simp only[aa];grind
 rw[if_neg cA];simp only[aa];rw[oB];simp only[aa];rw[tB];simp only[aa];rw[rB];by_cases cB:10000<det m λi j=>k*B i j;.grind
 rw[if_neg cB];simp only[aa];have GA:=Aix n1 Wq P.a dA ek Wq;have GB:=Aix m1 Wq Q.b dB ek Wq;obtain⟨sk,e2,hsk⟩:=Arn GA.M GB.M GA.ok GB.ok;rw[dT,dT,Xh,Xh]at hsk;have hss:sm=sk:=by
  rw[bU,hsm,hsk];refine and_congr_right λhnm=>?_;subst hnm;rw[ALk,ALk];have kn:k^n≠0:=bt Wq;have hdd:det n A=det n B↔k^n*det n A=k^n*det n B:=⟨λh=>by rw[h],λh=>bx kn h⟩;rw[<-hdd];refine and_congr_right λhd=>?_;rcases show k=1∨k=2∨k=3 by omega with h|h
  .subst h;grind
  .have:=A4d h FA FB GA GB hd.symm;rwa[ALk]at this
 subst hss;rw[e2];simp only[aa,Xh];grind
end Go.Proofs.YtgmdhndbcohgiaaGreatDoor
