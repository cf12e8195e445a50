/-
  Plain: the kernel: solutions, their number, their rank. No condition.
-/
import Derived.Test.YtdlfineibanppaaDoorRref
namespace Go.QF
set_option linter.unusedVariables false
theorem nodup_sub_len {α : Type} [DecidableEq α] : ∀ (l t : List α), l.Nodup → (∀ x ∈ l, x ∈ t) → l.length ≤ t.length := by
  intro l
  induction l with
  | nil => intro t _ _; simp
  | cons x l ih =>
    intro t hn hs
    have hx := hs x (List.mem_cons_self ..)
    have hp := (List.perm_cons_erase hx).length_eq
    have := ih (t.erase x) (List.nodup_cons.1 hn).2 (fun y hy => (List.mem_erase_of_ne (fun he : y = x => (List.nodup_cons.1 hn).1 (he ▸ hy))).2 (hs y (List.mem_cons_of_mem _ hy)))
    simp at hp ⊢
    omega
theorem filter_count {α : Type} (p : α → Bool) (l : List α) : (l.filter p).length + (l.filter fun x => !p x).length = l.length := by
  induction l with
  | nil => rfl
  | cons x l ih =>
    cases h : p x <;> simp [h] <;> omega
theorem mem_tab {r c : Nat} {f : Nat → Nat → Int} {z : List Int} (hz : z ∈ tab r c f) {x : Int} (hx : x ∈ z) : ∃ i j, i < r ∧ j < c ∧ x = f i j := by
  simp only [tab, List.mem_map, List.mem_range] at hz
  obtain ⟨i, hi, rfl⟩ := hz
  simp only [List.mem_map, List.mem_range] at hx
  obtain ⟨j, hj, rfl⟩ := hx
  exact ⟨i, j, hi, hj, rfl⟩
theorem asc_nodup {l : List Nat} (h : l.Pairwise (· < ·)) : l.Nodup := List.nodup_iff_pairwise_ne.2 (h.imp fun h => by omega)
def freeL (piv : List Nat) (c : Nat) : List Nat := (List.range c).filter fun f => !decide (f ∈ piv)
theorem free_count {piv : List Nat} {c : Nat} (hn : piv.Nodup) (hl : ∀ x ∈ piv, x < c) : (freeL piv c).length + piv.length = c := by
  have h1 : ((List.range c).filter fun f => decide (f ∈ piv)).length + (freeL piv c).length = c := by
    unfold freeL
    have := filter_count (fun f => decide (f ∈ piv)) (List.range c)
    rw [List.length_range] at this
    exact this
  have h2 : ((List.range c).filter fun f => decide (f ∈ piv)).length ≤ piv.length := nodup_sub_len _ _ (List.Pairwise.filter _ List.nodup_range) (fun x hx => by simpa using (List.mem_filter.1 hx).2)
  have h3 : piv.length ≤ ((List.range c).filter fun f => decide (f ∈ piv)).length := nodup_sub_len _ _ hn (fun x hx => List.mem_filter.2 ⟨List.mem_range.2 (hl x hx), by simpa using hx⟩)
  omega
theorem kerF_other {F : Nat → Nat → Int} {piv : List Nat} {p : Int} {f q : Nat} : ∀ i, i ≤ piv.length → q ∉ piv.take i → kerF F piv p f i q = if q = f then 1 else 0 := by
  intro i
  induction i with
  | zero => intro _ _; rfl
  | succ i ih =>
    intro hi hq
    have hip : i < piv.length := by omega
    rw [List.take_succ_eq_append_getElem hip, List.mem_append, List.mem_singleton] at hq
    have hd : piv[i]?.getD 0 = piv[i] := by rw [List.getElem?_eq_getElem hip]; rfl
    simp only [kerF]
    rw [hd, if_neg (fun h => hq (.inr h))]
    exact ih (by omega) (fun h => hq (.inl h))
theorem not_take {piv : List Nat} (hn : piv.Nodup) {i : Nat} (hi : i < piv.length) : piv[i] ∉ piv.take i := by
  intro h
  obtain ⟨k, hk, he⟩ := List.getElem_of_mem h
  rw [List.getElem_take] at he
  have hk' : k < i := by rw [List.length_take] at hk; omega
  exact List.pairwise_iff_getElem.1 (List.nodup_iff_pairwise_ne.1 hn) k i (by omega) hi hk' he
/-- The vector of a free column is a solution of each row of the echelon form. -/
theorem kerF_dot {r c : Nat} {p : Int} {F : Nat → Nat → Int} {piv : List Nat} (R : Rref r c F piv) {f b : Nat} (hf : f < c) (hfp : f ∉ piv) (hb : b < r) : ∀ i, i ≤ piv.length → dot c (F b) (kerF F piv p f i) = F b f + if b < i then (p - F b f) % p else 0 := by
  intro i
  induction i with
  | zero =>
    intro _
    unfold dot
    rw [psum_one hf (fun q hq => by simp [kerF, hq])]
    simp [kerF]
  | succ i ih =>
    intro hi
    have hip : i < piv.length := by omega
    have hd : piv[i]?.getD 0 = piv[i] := by rw [List.getElem?_eq_getElem hip]; rfl
    have hq := R.lt piv[i] (List.getElem_mem _)
    have h0 : kerF F piv p f i piv[i] = 0 := by
      rw [kerF_other i (by omega) (not_take (asc_nodup R.asc) hip), if_neg (fun he : piv[i] = f => hfp (he ▸ List.getElem_mem _))]
    unfold dot
    rw [psum_upd (f := fun q => F b q * kerF F piv p f i q) hq (fun q hne => by simp only [kerF]; rw [hd, if_neg hne])]
    have hih := ih (by omega)
    unfold dot at hih
    rw [hih, h0, R.unit i hip b hb]
    simp only [kerF]
    rw [hd, if_pos rfl]
    by_cases h1 : b = i
    · subst h1; simp
    · rw [if_neg h1]
      by_cases h2 : b < i
      · rw [if_pos h2, if_pos (by omega)]; omega
      · rw [if_neg h2, if_neg (by omega)]; omega
theorem kerF_sol {r c : Nat} {p : Int} {F : Nat → Nat → Int} {piv : List Nat} (R : Rref r c F piv) {f b : Nat} (hf : f < c) (hfp : f ∉ piv) (hb : b < r) : Eqm p (dot c (F b) (kerF F piv p f piv.length)) 0 := by
  rw [kerF_dot R hf hfp hb _ (Nat.le_refl _)]
  by_cases h : b < piv.length
  · rw [if_pos h]
    refine ((Eqm.refl p (F b f)).add (Eqm.mod p _)).trans ?_
    rw [show F b f + (p - F b f) = p by omega]
    unfold Eqm; simp
  · rw [if_neg h, R.low b f (by omega) hb hf]; rfl
theorem kerB_free (F : Nat → Nat → Int) (piv : List Nat) (p : Int) (c : Nat) : kerB F piv p c c = (freeL piv c).map fun f => (List.range c).map (kerF F piv p f piv.length) := rfl
theorem ent_kerB {F : Nat → Nat → Int} {piv : List Nat} {p : Int} {c s q : Nat} (hs : s < (freeL piv c).length) (hq : q < c) : ent (kerB F piv p c c) s q = kerF F piv p (freeL piv c)[s] piv.length q := by
  rw [kerB_free]
  simp [ent, hs, hq]
theorem free_mem {piv : List Nat} {c s : Nat} (hs : s < (freeL piv c).length) : (freeL piv c)[s] < c ∧ (freeL piv c)[s] ∉ piv := by
  have := List.mem_filter.1 (List.getElem_mem hs)
  exact ⟨List.mem_range.1 this.1, by simpa using this.2⟩
theorem kerB_indep {F : Nat → Nat → Int} {piv : List Nat} {p : Int} {c : Nat} : Indep (freeL piv c).length c p (ent (kerB F piv p c c)) := by
  intro y hy s hs
  have hm := free_mem hs
  refine Eqm.trans (Eqm.of_eq ?_) (hy _ hm.1)
  have hnd : (freeL piv c).Nodup := List.Pairwise.filter _ List.nodup_range
  unfold comb
  rw [psum_congr (g := fun t => y t * (if t = s then 1 else 0)) (fun t ht => by
    rw [ent_kerB ht hm.1, kerF_other _ (Nat.le_refl _) (by rw [List.take_length]; exact hm.2)]
    congr 1
    by_cases hts : t = s
    · subst hts; simp
    · rw [if_neg hts, if_neg]
      intro he
      rcases Nat.lt_or_gt_of_ne hts with h | h
      · exact List.pairwise_iff_getElem.1 (List.nodup_iff_pairwise_ne.1 hnd) t s ht hs h he.symm
      · exact List.pairwise_iff_getElem.1 (List.nodup_iff_pairwise_ne.1 hnd) s t hs ht h he)]
  rw [psum_one hs (fun i hi => by rw [if_neg hi]; simp), if_pos rfl]; omega
/-- What ModularSolves says. -/
theorem solves {M : List (List Int)} {p : Int} (hv : Valid M) (hp : Pr p) (hp2 : p ≤ 2147483647) (hb : priB M p = true) :
    (kerS M p).length + (echS M p).length = cols M ∧ (∀ z ∈ kerS M p, z.length = cols M) ∧
    (kerS M p ≠ [] → Valid (kerS M p) ∧ cols (kerS M p) = cols M ∧ (echS (kerS M p) p).length = (kerS M p).length ∧ ∀ z ∈ mulM (redM M p) (redM (transM (kerS M p)) p) p, ∀ x ∈ z, x = 0) := by
  have h2 := hp.1
  have hbd : Bd M.length (cols M) p (ent (redM M p)) := by
    have := bd_ent (c := cols M) (by omega : 0 < p) (rem_red (by omega : 0 < p) M)
    rw [red_len] at this; exact this
  have R := rref_ech hp hbd (cols M) (Nat.le_refl _)
  have E := rowEq_ech hp hbd (cols M) (Nat.le_refl _)
  obtain ⟨F, hF⟩ : ∃ F, (eF M p).1 = F := ⟨_, rfl⟩
  obtain ⟨piv, hpiv⟩ : ∃ piv, (eF M p).2 = piv := ⟨_, rfl⟩
  change Rref M.length (cols M) (eF M p).1 (eF M p).2 at R
  change RowEq M.length (cols M) p (ent (redM M p)) (eF M p).1 at E
  rw [hF, hpiv] at R
  rw [hF] at E
  obtain ⟨c, hc⟩ : ∃ c, cols M = c := ⟨_, rfl⟩
  rw [hc] at R E hbd
  have hcount := free_count (asc_nodup R.asc) R.lt
  have hZl : (kerB F piv p c c).length = (freeL piv c).length := by rw [kerB_free, List.length_map]
  have hZb : Bd (freeL piv c).length c p (ent (kerB F piv p c c)) := by
    have := bd_ent (c := c) (by omega : 0 < p) (kerB_rem (F := F) (piv := piv) (c := c) (k := c) h2)
    rw [hZl] at this; exact this
  have hrank := rank_indep hp hZb kerB_indep
  have RZ := rref_ech hp hZb c (Nat.le_refl _)
  have EZ := rowEq_ech hp hZb c (Nat.le_refl _)
  have hGb := bd_ech (rc := invM p) (by omega : 0 < p) hZb c
  obtain ⟨G, hG⟩ : ∃ G, (echTo (invM p) (freeL piv c).length p (ent (kerB F piv p c c)) c).1 = G := ⟨_, rfl⟩
  obtain ⟨pz, hpz⟩ : ∃ pz, (echTo (invM p) (freeL piv c).length p (ent (kerB F piv p c c)) c).2 = pz := ⟨_, rfl⟩
  rw [hG, hpz] at RZ
  rw [hG] at EZ hGb
  rw [hpz] at hrank
  have hK : kerS M p = tab (freeL piv c).length c G := by
    unfold kerS echZ
    rw [hb, if_pos rfl, hF, hpiv, hc, hZl, hG, hpz, hrank]
  have hE : (echS M p).length = piv.length := by
    unfold echS
    rw [hb, if_pos rfl, tab_len, hpiv]
  rw [hK]
  refine ⟨by rw [tab_len, hE, hc]; exact hcount, fun z hz => by rw [hc]; exact tab_rows z hz, fun hne => ?_⟩
  have hN : 0 < (freeL piv c).length := by
    rcases Nat.eq_zero_or_pos (freeL piv c).length with h | h
    · rw [h] at hne; exact absurd rfl hne
    · exact h
  have hc16 := hv.2.2.2.1
  have hcl : cols (tab (freeL piv c).length c G) = c := cols_tab hN
  have hvl : Valid (tab (freeL piv c).length c G) := ⟨by rw [tab_len]; omega, by rw [tab_len]; omega, by rw [hcl]; omega, by rw [hcl]; omega, fun z hz => by rw [hcl]; exact tab_rows z hz⟩
  have hrem : Rem p (tab (freeL piv c).length c G) := rem_tab fun i j hi hj => hGb i j hi hj
  have hred := red_of_rem hrem
  refine ⟨hvl, by rw [hcl, hc], ?_, ?_⟩
  · have hb2 : priB (tab (freeL piv c).length c G) p = true := by
      unfold priB
      rw [← validB_t hvl, ← primeB_t hp2 hp]; rfl
    unfold echS eF
    rw [hb2, if_pos rfl, tab_len, tab_len, hred, hcl]
    have hbl : Bd (freeL piv c).length c p (ent (tab (freeL piv c).length c G)) := by
      intro i j hi hj; rw [ent_tab hi hj]; exact hGb i j hi hj
    refine rank_indep hp hbl ?_
    intro y hy
    have := rref_indep (p := p) RZ
    rw [hrank] at this
    refine this y fun q hq => ?_
    refine Eqm.trans (Eqm.of_eq ?_) (hy q hq)
    exact psum_congr fun i hi => by rw [ent_tab hi hq]
  · have hdot : ∀ i t, i < M.length → t < (freeL piv c).length → Eqm p (dot c (ent (redM M p) i) (G t)) 0 := by
      intro i t hi ht
      obtain ⟨y, e, _⟩ := EZ.1 (updY (fun _ => 0) t 1)
      refine dot_comb' (y := y) (F := ent (kerB F piv p c c)) (r := (freeL piv c).length) (fun q hq => ?_) (fun s hs => ?_)
      · have := e q hq; rw [comb_unit ht] at this; exact this
      · obtain ⟨y2, e2⟩ := E.2 (updY (fun _ => 0) i 1)
        have hm := free_mem hs
        have hsol : ∀ b, b < M.length → Eqm p (dot c (F b) (ent (kerB F piv p c c) s)) 0 := fun b hb' => by
          refine Eqm.trans (Eqm.of_eq ?_) (kerF_sol (p := p) R hm.1 hm.2 hb')
          exact psum_congr fun q hq => by rw [ent_kerB hs hq]
        refine dot_comb (y := y2) (F := F) (r := M.length) (fun q hq => ?_) hsol
        have := e2 q hq; rw [comb_unit hi] at this; exact this
    intro z hz x hx
    obtain ⟨i, t, hi, ht, rfl⟩ := mem_tab hz hx
    rw [red_len] at hi
    rw [red_trans, hred] at ht ⊢
    have htc : cols (transM (tab (freeL piv c).length c G)) = (freeL piv c).length := by rw [trans_cols (by rw [hcl]; omega), tab_len]
    rw [htc] at ht
    rw [trans_len, hcl]
    refine (Eqm.trans (Eqm.of_eq ?_) (hdot i t hi ht)).zero
    refine psum_congr fun q hq => ?_
    unfold transM
    rw [hcl, tab_len, ent_tab hq ht, ent_tab ht hq]
end Go.QF
