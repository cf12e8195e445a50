/-
  Parts of structs and slices that are written out; cells that are set.
-/
import Derived.Test.YtccgaemmdikhcaaDoorEw4
import Derived.ArgAppend
namespace Go.QF
open Go
set_option linter.unusedVariables false
set_option linter.unusedSimpArgs false
theorem cells_rel {m : Mp} : ∀ {v : V} {u : Value}, rel m v u → rels m v.cells u.cells.toList := by
  intro v u h
  cases v with
  | u => have h : u = undef := h; subst h; exact ⟨_, _, rfl, rfl, rfl⟩
  | b x => have h : u = .bool x := h; subst h; exact ⟨_, _, rfl, rfl, rfl⟩
  | i k n => have h : u = .int k n := h; subst h; exact ⟨_, _, rfl, rfl, rfl⟩
  | p b o => obtain ⟨r, h1, rfl⟩ := h; exact ⟨_, _, rfl, ⟨r, h1, rfl⟩, rfl⟩
  | s b o n c => obtain ⟨r, h1, rfl⟩ := h; exact ⟨_, _, rfl, ⟨r, h1, rfl⟩, rfl⟩
  | g b n => obtain ⟨r, h1, h2, rfl⟩ := h; exact ⟨_, _, rfl, ⟨r, h1, h2, rfl⟩, rfl⟩
  | sn => have h : u = .slice none 0 0 := h; subst h; exact ⟨_, _, rfl, rfl, rfl⟩
  | fn => have h : u = .nilFunc := h; subst h; exact ⟨_, _, rfl, rfl, rfl⟩
  | f i c => obtain ⟨vs, h1, rfl⟩ := h; exact ⟨_, _, rfl, ⟨vs, h1, rfl⟩, rfl⟩
  | a l => obtain ⟨vs, h1, rfl⟩ := h; exact h1
  | t l => obtain ⟨vs, h1, rfl⟩ := h; exact ⟨_, _, rfl, ⟨vs, h1, rfl⟩, rfl⟩
theorem one_rel {m : Mp} : ∀ {v : V} {u : Value}, rel m v u → v.one = true → u.oneCell' = true := by
  intro v u h h1
  cases v with
  | u => cases h1
  | b x => have h : u = .bool x := h; subst h; rfl
  | i k n => have h : u = .int k n := h; subst h; rfl
  | p b o => obtain ⟨r, _, rfl⟩ := h; rfl
  | s b o n c => obtain ⟨r, _, rfl⟩ := h; rfl
  | g b n => obtain ⟨r, _, _, rfl⟩ := h; rfl
  | sn => have h : u = .slice none 0 0 := h; subst h; rfl
  | fn => have h : u = .nilFunc := h; subst h; rfl
  | f i c => obtain ⟨vs, _, rfl⟩ := h; rfl
  | a l => cases h1
  | t l => cases h1
theorem allOne_rel {m : Mp} : ∀ {l : List V} {us : List Value}, rels m l us → allOne l = true → ∀ u ∈ us, u.oneCell' = true := by
  intro l
  induction l with
  | nil => intro us h _ u hu; cases h; cases hu
  | cons x l ih =>
    rintro us ⟨y, ys, rfl, h1, h2⟩ ha u hu
    simp only [allOne, Bool.and_eq_true] at ha
    rcases List.mem_cons.1 hu with rfl | hu
    · exact one_rel h1 ha.1
    · exact ih h2 ha.2 u hu
theorem rels_over {m : Mp} {l : List V} {ls : List Value} {vs : List V} {us : List Value} {k : Nat} (h : rels m l ls) (h' : rels m vs us) : rels m (over l k vs) (over ls k us) := by
  obtain ⟨h1, h2⟩ := rels_iff.1 h
  obtain ⟨h3, h4⟩ := rels_iff.1 h'
  refine rels_iff.2 ⟨by rw [over_len, over_len, h1], fun o x hx => ?_⟩
  rw [over_get] at hx ⊢
  rw [← h1, ← h3]
  split at hx
  · rename_i hc; rw [if_pos hc]; exact h4 _ x hx
  · rename_i hc; rw [if_neg hc]; exact h2 _ x hx
theorem lr_over {m : Mp} {l : List V} {ls : List Value} {vs : List V} {us : List Value} {k : Nat} (h : LR m l ls) (h' : rels m vs us) (hk : k + vs.length ≤ l.length) : LR m (over l k vs) (over ls k us) := by
  obtain ⟨h3, h4⟩ := rels_iff.1 h'
  have hl := h.len
  intro o x hx
  rw [over_get] at hx ⊢
  split at hx
  · rename_i hc; rw [if_pos ⟨hc.1, by rw [← h3]; exact hc.2.1, by omega⟩]; exact h4 _ x hx
  · rename_i hc; rw [if_neg (by rw [← h3]; omega)]; exact h _ x hx
theorem fold_over (off : Nat) : ∀ (l : List Value) (k : Nat) (arr : Array Value), ((l.zipIdx k).foldl (fun (cs : Array Value) (x : Value × Nat) => cs.setIfInBounds (off + x.2) x.1) arr).toList = over arr.toList (off + k) l := by
  intro l
  induction l with
  | nil =>
    intro k arr
    simp only [List.zipIdx_nil, List.foldl_nil]
    apply List.ext_getElem?
    intro o
    rw [over_get, if_neg (by simp; omega)]
  | cons v l ih =>
    intro k arr
    simp only [List.zipIdx_cons, List.foldl_cons]
    rw [ih]
    apply List.ext_getElem?
    intro o
    rw [over_get, over_get]
    simp only [Array.toList_setIfInBounds, List.length_set, List.length_cons]
    by_cases hc : off + (k + 1) ≤ o ∧ o < off + (k + 1) + l.length ∧ o < arr.toList.length
    · rw [if_pos hc, if_pos (by omega), show o - (off + k) = o - (off + (k + 1)) + 1 by omega, List.getElem?_cons_succ]
    · rw [if_neg hc, List.getElem?_set]
      by_cases he : off + k = o
      · subst he
        rw [if_pos rfl]
        by_cases hl : off + k < arr.toList.length
        · rw [if_pos hl, if_pos (by omega), Nat.sub_self]; rfl
        · rw [if_neg hl, if_neg (by omega), List.getElem?_eq_none (by omega)]
      · rw [if_neg he, if_neg (by omega)]
def PR (m : Mp) : List (Nat × V) → List (Nat × Value) → Prop
  | [], vs => vs = []
  | (i, x) :: l, vs => ∃ y ys, vs = (i, y) :: ys ∧ rel m x y ∧ PR m l ys
theorem fill_ok {m : Mp} {place : Nat → Option (Nat × Nat)} : ∀ {ps : List (Nat × V)} {us : List (Nat × Value)} {cells out : List V} {arr : Array Value}, PR m ps us → rels m cells arr.toList → fillE place cells ps = some out →
    ∃ arr', Instr.fill place arr us = some arr' ∧ rels m out arr'.toList := by
  intro ps
  induction ps with
  | nil => intro us cells out arr hp hc hf; cases hp; cases hf; exact ⟨arr, rfl, hc⟩
  | cons p ps ih =>
    obtain ⟨i, x⟩ := p
    rintro us cells out arr ⟨y, ys, rfl, h1, h2⟩ hc hf
    simp only [fillE] at hf
    simp only [Instr.fill]
    split at hf
    · cases hf
    · rename_i off size hp
      rw [hp]
      cases hb : (Nat.beq x.cells.length size && Nat.ble (off + size) cells.length) with
      | false => rw [hb] at hf; cases hf
      | true =>
        rw [hb] at hf
        simp only [cond_true] at hf
        simp only [Bool.and_eq_true] at hb
        have hb1 := Nat.eq_of_beq_eq_true hb.1
        have hb2 := Nat.le_of_ble_eq_true hb.2
        have hcx := cells_rel h1
        have hl1 := rels_len hcx
        have hl2 := rels_len hc
        simp only [Array.length_toList] at hl1 hl2
        simp only
        rw [if_neg (by simp; omega)]
        refine ih h2 ?_ hf
        have hfo := fold_over off y.cells.toList 0 arr
        rw [← Array.foldl_toList]
        simp only [Array.toList_zipIdx]
        rw [hfo]
        exact rels_over hc hcx
theorem partsE_ok {h : Heap} {G : List (Nat × Nat)} {m : Mp} {l : EnvL} {bs : Hp} {e : Env} {H : Heap} (R : Rl h G m l bs e H) : ∀ {ps : List (Nat × Operand)} {vs : List (Nat × V)}, partsE G l ps = some vs → PR m vs (ps.map fun (i, x) => (i, e.ev x)) := by
  intro ps
  induction ps with
  | nil => intro vs hv; cases hv; rfl
  | cons p ps ih =>
    obtain ⟨i, x⟩ := p
    intro vs hv
    unfold partsE at hv
    split at hv
    · rename_i v ws h1 h2; cases hv; exact ⟨_, _, rfl, evE_ok R h1, ih h2⟩
    · cases hv
theorem run_mapL {P : Program} {α β : Type} {f : α → Sem β} {g : α → β} : ∀ (l : List α), (∀ x ∈ l, ∀ w, (f x).run P w = .ok (g x) w) → ∀ w, (l.mapM f).run P w = .ok (l.map g) w := by
  intro l
  induction l with
  | nil => intro _ w; simp
  | cons x l ih =>
    intro hx w
    have h1 := hx x (List.mem_cons_self ..)
    have h2 := ih (fun y hy => hx y (List.mem_cons_of_mem _ hy))
    simp [List.mapM_cons, h1, h2]
theorem run_mapA {P : Program} {α β : Type} {f : α → Sem β} {g : α → β} (a : Array α) (hx : ∀ x ∈ a.toList, ∀ w, (f x).run P w = .ok (g x) w) (w : World) : (a.mapM f).run P w = .ok (a.map g) w := by
  rw [Array.mapM_eq_mapM_toList]
  have := run_mapL (P := P) a.toList hx w
  have h2 : (List.map g a.toList).toArray = Array.map g a := Array.ext' (by simp)
  simp [this, h2]
theorem rep_get {α : Type} (z : List α) : ∀ (n o : Nat), o < n * z.length → (repE z n)[o]? = z[o % z.length]? := by
  intro n
  induction n with
  | zero => intro o ho; omega
  | succ n ih =>
    intro o ho
    rw [Nat.add_mul, Nat.one_mul] at ho
    simp only [repE]
    rcases Nat.lt_or_ge o z.length with hl | hl
    · rw [List.getElem?_append_left hl, Nat.mod_eq_of_lt hl]
    · rw [List.getElem?_append_right hl, ih _ (by omega)]
      rw [← Nat.mod_eq_sub_mod hl]
theorem rep_len {α : Type} (z : List α) (n : Nat) : (repE z n).length = n * z.length := by
  induction n with
  | zero => simp [repE]
  | succ n ih => simp [repE, ih, Nat.add_mul, Nat.add_comm]
theorem rels_rep {m : Mp} {z : List V} {zs : List Value} (h : rels m z zs) : ∀ n, rels m (repE z n) (repE zs n)
  | 0 => rfl
  | n + 1 => rels_app h (rels_rep h n)
theorem made_rep (z : Array Value) (n : Nat) : (madeCells z (n * z.size)).toList = repE z.toList n := by
  apply List.ext_getElem?
  intro o
  unfold madeCells
  simp only [Array.toList_map, Array.toList_range, List.getElem?_map]
  rcases Nat.lt_or_ge o (n * z.size) with hl | hl
  · rw [List.getElem?_range hl, rep_get _ _ _ (by simpa using hl)]
    have hz : 0 < z.size := by
      rcases Nat.eq_zero_or_pos z.size with h0 | h0
      · rw [h0, Nat.mul_zero] at hl; omega
      · exact h0
    have hm := Nat.mod_lt o hz
    simp only [Option.map_some, Array.length_toList]
    rw [getElem!_pos z _ hm, List.getElem?_eq_getElem (by simpa using hm)]
    simp
  · rw [List.getElem?_eq_none (by simpa using hl), List.getElem?_eq_none (by rw [rep_len]; simpa using hl)]; rfl
/-! ### cells that are set -/
theorem setCells_heap (b : Nat) : ∀ (vs : List Value) (o : Nat) (w : World) (cs : Array Value) (t : TypeId) (q : Nat × Nat), w.heap[b]? = some (.cells cs t q) → o + vs.length ≤ cs.size →
    ∃ cs', (w.setCells b o vs).heap[b]? = some (.cells cs' t q) ∧ cs'.toList = over cs.toList o vs ∧ Upd (· = b) w.heap (w.setCells b o vs).heap ∧ Same w (w.setCells b o vs) := by
  intro vs
  induction vs with
  | nil =>
    intro o w cs t q hb ho
    refine ⟨cs, hb, ?_, Upd.refl _ _, .refl w⟩
    apply List.ext_getElem?
    intro k
    rw [over_get, if_neg (by simp; omega)]
  | cons v vs ih =>
    intro o w cs t q hb ho
    simp only [List.length_cons] at ho
    have h1 : (w.setCell ⟨b, o, none⟩ v).heap[b]? = some (.cells (cs.setIfInBounds o v) t q) := by
      have : (w.setCell ⟨b, o, none⟩ v).heap = setH w.heap ⟨b, o, none⟩ v := rfl
      rw [this]
      simp only [setH, Array.getElem?_modify, if_true, hb, Option.map_some]
      rfl
    obtain ⟨cs', h2, h3, h4, h5⟩ := ih (o + 1) (w.setCell ⟨b, o, none⟩ v) _ t q h1 (by simp; omega)
    refine ⟨cs', h2, ?_, (upd_set w.heap ⟨b, o, none⟩ v).trans h4, (Same.trans (b := w.setCell ⟨b, o, none⟩ v) ⟨rfl, rfl, rfl⟩ h5)⟩
    rw [h3]
    have := fold_over o (v :: vs) 0 cs
    apply List.ext_getElem?
    intro k
    rw [over_get, over_get]
    simp only [Array.toList_setIfInBounds, List.length_set, List.length_cons]
    by_cases hc : o + 1 ≤ k ∧ k < o + 1 + vs.length ∧ k < cs.toList.length
    · rw [if_pos hc, if_pos (by omega), show k - o = k - (o + 1) + 1 by omega, List.getElem?_cons_succ]
    · rw [if_neg hc, List.getElem?_set]
      by_cases he : o = k
      · subst he
        rw [if_pos rfl, if_pos (by simp; omega), if_pos (by simp; omega), Nat.sub_self]; rfl
      · rw [if_neg he]
        by_cases hl : k < cs.toList.length
        · rw [if_neg (by omega)]
        · rw [if_neg (by omega)]
theorem HR.set {h : Heap} {G : List (Nat × Nat)} {m : Mp} {bs bs' : Hp} {w : World} (R : HR h G m bs w.heap) {k o : Nat} {r : Nat × Nat} {vs : List V} {us : List Value} (hr : mg m k = some r) (hv : setE bs k o vs = some bs') (hu : rels m vs us) :
    (∀ {P : Program}, (storeCells ⟨r.1, o, none⟩ us).run P w = .ok () (w.setCells r.1 o us)) ∧ HR h G m bs' (w.setCells r.1 o us).heap ∧ Same w (w.setCells r.1 o us) := by
  unfold setE at hv
  split at hv
  · rename_i b hb
    cases hc : (!b.ro && allOne vs && Nat.ble (o + vs.length) b.c.length) with
    | false => rw [hc] at hv; cases hv
    | true =>
      rw [hc] at hv
      cases hv
      simp only [Bool.and_eq_true, Bool.not_eq_true'] at hc
      obtain ⟨⟨hro, hone⟩, hle⟩ := hc
      have hle := Nat.le_of_ble_eq_true hle
      have hb := blkE_eq hb
      obtain ⟨r', q1, q2, q3, q4⟩ := R.blk k b hb
      rw [hr] at q1; cases q1
      obtain ⟨q5, cs, t, q6, q7⟩ := q4 hro
      have hcl : LR m b.c cs.toList := by
        intro i x hx
        obtain ⟨u, hu, hrl⟩ := q3 i x hx
        refine ⟨u, ?_, hrl⟩
        simp only [cellH, q6] at hu
        simpa using hu
      have hll := hcl.len
      have hlv := rels_len hu
      simp only [Array.length_toList] at hll
      obtain ⟨cs', h2, h3, h4, h5⟩ := setCells_heap r.1 us o w cs t (0, 0) q6 (by omega)
      refine ⟨fun {P} => ?_, R.repl hb hro hr q6 h4 h2 ?_ ?_, h5⟩
      · have := run_storeCells_cells (P := P) r.1 o us 0 w (fun j hj => ?_) (fun j hj => ?_) (allOne_rel hu hone)
        · simpa using this
        · have : o + j < cs.size := by omega
          simp [World.cell?, q6, this]
        · simp [World.frozen?, q6]
      · have := congrArg List.length h3
        rw [over_len] at this
        simpa using this
      · rw [h3]
        exact lr_over hcl hu hle
  · cases hv
end Go.QF
