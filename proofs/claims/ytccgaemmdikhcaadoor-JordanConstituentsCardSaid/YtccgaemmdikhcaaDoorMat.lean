/-
  Matrices of integers that the call owns, whole or in the making: each row in a block of its own. No condition.
-/
import Derived.Test.YtccgaemmdikhcaaDoorOps2
namespace Go.QF
open Go
set_option linter.unusedVariables false

/-- A slice of n row slices, of which the first are made: they hold Z, each in a block of its own (gs). -/
def PartM (h : Heap) (er ei b : Nat) (gs : List Nat) (v : Value) (n : Nat) (Z : List (List Int)) : Prop :=
  ∃ rs : List Value, OwnA h er b v rs ∧ rs.length = n ∧ Z.length ≤ n ∧ gs.length = Z.length ∧
    (∀ (i g : Nat) (r : Value) (z : List Int), gs[i]? = some g → rs[i]? = some r → Z[i]? = some z → OwnA h ei g r (z.map (.int .i64))) ∧ (b :: gs).Nodup
def OwnM (h : Heap) (er ei b : Nat) (gs : List Nat) (v : Value) (M : List (List Int)) : Prop := PartM h er ei b gs v M.length M

theorem OwnM.mat {h : Heap} {er ei b : Nat} {gs : List Nat} {v : Value} {M : List (List Int)} (H : OwnM h er ei b gs v M) : Mat h v M := by
  obtain ⟨rs, h1, h2, _, h3, h4, _⟩ := H
  refine ⟨rs, h1.sl, h2, fun i r z hr hz => ?_⟩
  have hi : i < gs.length := by have := (List.getElem?_eq_some_iff.1 hz).1; omega
  exact (h4 i gs[i] r z (List.getElem?_eq_getElem hi) hr hz).sl
theorem PartM.upd {S : Nat → Prop} {h h' : Heap} {er ei b n : Nat} {gs : List Nat} {v : Value} {M : List (List Int)} (H : PartM h er ei b gs v n M) (he : Upd S h h') (hS : ∀ g ∈ b :: gs, ¬ S g) : PartM h' er ei b gs v n M := by
  obtain ⟨rs, h1, h2, h2', h3, h4, h5⟩ := H
  exact ⟨rs, h1.upd he (hS b (List.mem_cons_self ..)), h2, h2', h3, fun i g r z hg hr hz => (h4 i g r z hg hr hz).upd he (hS g (List.mem_cons_of_mem _ (List.mem_of_getElem? hg))), h5⟩
theorem PartM.ext {h h' : Heap} {er ei b n : Nat} {gs : List Nat} {v : Value} {M : List (List Int)} (H : PartM h er ei b gs v n M) (he : Ext h h') : PartM h' er ei b gs v n M := H.upd (S := fun _ => False) he.upd (fun _ _ h => h)
theorem PartM.lt {h : Heap} {er ei b n : Nat} {gs : List Nat} {v : Value} {M : List (List Int)} (H : PartM h er ei b gs v n M) : ∀ g ∈ b :: gs, g < h.size := by
  obtain ⟨rs, h1, h2, h2', h3, h4, h5⟩ := H
  intro g hg
  rcases List.mem_cons.1 hg with rfl | hg
  · exact h1.lt
  · obtain ⟨i, hi⟩ := List.getElem?_of_mem hg
    have hi' : i < M.length := by have := (List.getElem?_eq_some_iff.1 hi).1; omega
    exact (h4 i g (rs[i]'(by omega)) M[i] hi (List.getElem?_eq_getElem _) (List.getElem?_eq_getElem _)).lt
theorem PartM.ne {h : Heap} {er ei b n : Nat} {gs : List Nat} {v : Value} {M : List (List Int)} (H : PartM h er ei b gs v n M) {i g : Nat} (hg : gs[i]? = some g) : g ≠ b := by
  obtain ⟨rs, h1, h2, h2', h3, h4, h5⟩ := H
  intro he
  exact (List.nodup_cons.1 h5).1 (he ▸ List.mem_of_getElem? hg)
/-- A row. -/
theorem PartM.row {h : Heap} {er ei b n : Nat} {gs : List Nat} {v : Value} {M : List (List Int)} (H : PartM h er ei b gs v n M) {i : Nat} {z : List Int} (hz : M[i]? = some z) :
    ∃ g r rs, gs[i]? = some g ∧ OwnA h er b v rs ∧ rs[i]? = some r ∧ rs.length = n ∧ OwnA h ei g r (z.map (.int .i64)) ∧ g ≠ b := by
  have H' := H
  obtain ⟨rs, h1, h2, h2', h3, h4, h5⟩ := H
  have hi := (List.getElem?_eq_some_iff.1 hz).1
  exact ⟨gs[i]'(by omega), rs[i]'(by omega), rs, List.getElem?_eq_getElem _, h1, List.getElem?_eq_getElem _, h2, h4 i _ _ z (List.getElem?_eq_getElem _) (List.getElem?_eq_getElem _) hz, H'.ne (List.getElem?_eq_getElem _)⟩
/-- A row's content has turned; all else is as it was. -/
theorem PartM.setRow {h h' : Heap} {er ei b n : Nat} {gs : List Nat} {v : Value} {M : List (List Int)} (H : PartM h er ei b gs v n M) {i g : Nat} (hg : gs[i]? = some g) (hu : Upd (· = g) h h') {z' : List Int}
    (hr : ∀ r z, M[i]? = some z → OwnA h ei g r (z.map (.int .i64)) → OwnA h' ei g r (z'.map (.int .i64))) : PartM h' er ei b gs v n (M.set i z') := by
  obtain ⟨rs, h1, h2, h2', h3, h4, h5⟩ := H
  have hi : i < gs.length := (List.getElem?_eq_some_iff.1 hg).1
  have hgm := List.mem_of_getElem? hg
  refine ⟨rs, h1.upd hu (fun he => (List.nodup_cons.1 h5).1 (he ▸ hgm)), h2, by simpa using h2', by simp [h3], fun j g' r z hg' hr' hz => ?_, h5⟩
  by_cases hij : i = j
  · subst hij
    rw [hg] at hg'; injection hg' with hg'; subst hg'
    rw [List.getElem?_set_self (by omega)] at hz
    injection hz with hz; subst hz
    have hz2 : M[i]? = some (M[i]'(by omega)) := List.getElem?_eq_getElem _
    exact hr r _ hz2 (h4 i g r _ hg hr' hz2)
  · rw [List.getElem?_set_ne hij] at hz
    exact (h4 j g' r z hg' hr' hz).upd hu (fun he => hij (nodup_getElem?_inj (List.nodup_cons.1 h5).2 hg (he ▸ hg')))
theorem PartM.setElem {h : Heap} {er ei b n : Nat} {gs : List Nat} {v : Value} {M : List (List Int)} (H : PartM h er ei b gs v n M) {i g j : Nat} {z : List Int} (hg : gs[i]? = some g) (hz : M[i]? = some z) (hj : j < z.length) (y : Int) :
    PartM (setH h ⟨g, j, none⟩ (.int .i64 y)) er ei b gs v n (M.set i (z.set j y)) := by
  refine H.setRow hg (upd_set _ _ _) fun r z2 hz2 ho => ?_
  rw [hz] at hz2; injection hz2 with hz2; subst hz2
  rw [List.map_set]
  exact ho.set j _ (by simpa using hj)
/-- Nothing is made yet. -/
theorem partM_new (h : Heap) (er ei n : Nat) (hm : n ≤ maxLen) : PartM (h.push (.cells (List.replicate n (.slice none 0 0)).toArray er (0, 0))) er ei h.size [] (.slice (some ⟨h.size, 0, none⟩) n n) n [] :=
  ⟨_, ownA_new h er n _ hm, by simp, by simp, rfl, fun i g r z hg => by simp at hg, by simp⟩
/-- One row more: a new slice is stored behind those that are made. -/
theorem PartM.push {h : Heap} {er ei b n i : Nat} {gs : List Nat} {v r : Value} {M : List (List Int)} (H : PartM h er ei b gs v n M) (hi : M.length = i) (hn : i < n) {g : Nat} {z : List Int} (hr : OwnA h ei g r (z.map (.int .i64))) (hg : g ∉ b :: gs) :
    PartM (setH h ⟨b, i, none⟩ r) er ei b (gs ++ [g]) v n (M ++ [z]) := by
  subst hi
  obtain ⟨rs, h1, h2, h2', h3, h4, h5⟩ := H
  have hb := (List.nodup_cons.1 h5).1
  have hgb : g ≠ b := fun he => hg (he ▸ List.mem_cons_self ..)
  refine ⟨rs.set M.length r, h1.set _ _ (by omega), by simp [h2], by simp; omega, by simp [h3], fun i g' r' z' hg' hr' hz' => ?_, ?_⟩
  · rcases Nat.lt_trichotomy i M.length with hi | hi | hi
    · rw [List.getElem?_append_left (by omega)] at hg' hz'
      rw [List.getElem?_set_ne (by omega)] at hr'
      exact (h4 i g' r' z' hg' hr' hz').upd (upd_set _ _ _) (fun he => hb (by have he' : g' = b := he; exact he' ▸ List.mem_of_getElem? hg'))
    · subst hi
      rw [List.getElem?_append_right (by omega), h3] at hg'
      rw [List.getElem?_append_right (by omega)] at hz'
      rw [List.getElem?_set_self (by omega)] at hr'
      simp at hg' hz' hr'
      subst hg'; subst hz'; subst hr'
      exact hr.upd (upd_set _ _ _) hgb
    · rw [List.getElem?_append_right (by omega)] at hz'
      rw [List.getElem?_eq_none (by simp; omega)] at hz'
      cases hz'
  · rw [← List.cons_append]
    exact List.nodup_append.2 ⟨h5, by simp, fun a ha c hc => by simp at hc; subst hc; exact fun he => hg (he ▸ ha)⟩

section
variable {P : Program} {B : Heap → Prop} {st : Bool} {ops : Array Oper} {rest : List Oper} {e : Env} {h : Heap} {K : Env → Heap → Prop}
variable {d : Nat} {ty : TypeId} {pos : String} {af : Array Edge}
/-- The address of a row's slice in a matrix of the call's own. -/
theorem r_ixp {x i : Operand} {t el er ei b n : Nat} {gs : List Nat} {v : Value} {M : List (List Int)} {z : List Int} {k : IntKind} {j : Nat} (hT : SlT P t el 1) (hx : e.ev x = v) (HP : PartM h er ei b gs v n M) (hi : e.ev i = .int k (j : Int)) (hz : M[j]? = some z)
    (H : ∀ a r g, cellH h a = some r → gs[j]? = some g → OwnA h ei g r (z.map (.int .i64)) → RL P B st ops rest (e.set d (.pointer (some a))) h K) : RL P B st ops (⟨some d, .indexAddr t x i, ty, pos, af, none⟩ :: rest) e h K := by
  obtain ⟨g, r, rs, hg, h1, h2, _, h3, _⟩ := HP.row hz
  exact r_ixs hT hx h1.sl hi h2 fun a ha => H a r g ha hg h3
/-- The address of a row's slice in a matrix that was there at an earlier heap. -/
theorem r_ixmE {x i : Operand} {t el : Nat} {h0 : Heap} {v : Value} {M : List (List Int)} {z : List Int} {k : IntKind} {n : Nat} (hT : SlT P t el 1) (hx : e.ev x = v) (HM : Mat h0 v M) (hE : Ext h0 h) (hi : e.ev i = .int k (n : Int)) (hz : M[n]? = some z)
    (H : ∀ a r, cellH h a = some r → Ints h0 r z → RL P B st ops rest (e.set d (.pointer (some a))) h K) : RL P B st ops (⟨some d, .indexAddr t x i, ty, pos, af, none⟩ :: rest) e h K := by
  obtain ⟨r, ⟨rs, h1, h2⟩, h3⟩ := HM.row hz
  exact r_ixs hT hx (h1.ext hE) hi h2 fun a ha => H a r ha h3
theorem PartM.top {h : Heap} {er ei b n : Nat} {gs : List Nat} {v : Value} {M : List (List Int)} (H : PartM h er ei b gs v n M) : ∃ rs, OwnA h er b v rs ∧ rs.length = n := let ⟨rs, h1, h2, _⟩ := H; ⟨rs, h1, h2⟩
theorem r_lenp {x : Operand} {t el s er ei b n : Nat} {gs : List Nat} {v : Value} {M : List (List Int)} (hT : SlT P t el s) (hx : e.ev x = v) (HP : PartM h er ei b gs v n M) (H : RL P B st ops rest (e.set d (.int .i64 (n : Int))) h K) :
    RL P B st ops (⟨some d, .call ⟨.builtin .len, #[x], #[t]⟩, ty, pos, af, none⟩ :: rest) e h K := by
  obtain ⟨rs, h1, h2, _⟩ := HP
  have := r_lens (ops := ops) (rest := rest) (K := K) (B := B) (st := st) (d := d) (ty := ty) (pos := pos) (af := af) hT hx h1.sl
  rw [h2] at this
  exact this H
end

/-! lists -/
theorem rep_map (n : Nat) (x : Int) : List.replicate n (Value.int .i64 x) = (List.replicate n x).map (Value.int .i64) := by simp
theorem ownI_new (h : Heap) (el n : Nat) (x : Int) (hm : n ≤ maxLen) : OwnA (h.push (.cells (List.replicate n (.int .i64 x)).toArray el (0, 0))) el h.size (.slice (some ⟨h.size, 0, none⟩) n n) ((List.replicate n x).map (.int .i64)) := by
  rw [List.map_replicate]
  exact ownA_new h el n (.int .i64 x) hm
theorem map_take_ne {α β : Type} {l : List α} {f : α → β} {j : Nat} (hj : 0 < j) (hl : 0 < l.length) : (l.take j).map f ≠ [] := by
  intro he
  have := congrArg List.length he
  rw [List.length_map, List.length_take, List.length_nil] at this
  omega
theorem OwnA.setI {h : Heap} {el g : Nat} {v : Value} {z : List Int} (H : OwnA h el g v (z.map (.int .i64))) {j : Nat} (hj : j < z.length) (y : Int) : OwnA (setH h ⟨g, j, none⟩ (.int .i64 y)) el g v ((z.set j y).map (.int .i64)) := by
  rw [List.map_set]
  exact H.set j _ (by simpa using hj)
theorem get_snoc {α : Type} {l : List α} {x : α} {i : Nat} (h : l.length = i) : (l ++ [x])[i]? = some x := by
  subst h; simp
theorem set_snoc {α : Type} {l : List α} {x y : α} {i : Nat} (h : l.length = i) : (l ++ [x]).set i y = l ++ [y] := by
  subst h; simp
/-- A row that is filled from the left. -/
def fillTo (l : List Int) (j : Nat) : List Int := l.take j ++ List.replicate (l.length - j) 0
theorem fillTo_zero (l : List Int) : fillTo l 0 = List.replicate l.length 0 := by simp [fillTo]
theorem fillTo_all (l : List Int) {j : Nat} (h : l.length ≤ j) : fillTo l j = l := by simp [fillTo, List.take_of_length_le h, Nat.sub_eq_zero_of_le h]
theorem fillTo_len (l : List Int) {j : Nat} (h : j ≤ l.length) : (fillTo l j).length = l.length := by simp [fillTo]; omega
theorem fillTo_set (l : List Int) {j : Nat} {y : Int} (h : l[j]? = some y) : (fillTo l j).set j y = fillTo l (j + 1) := by
  have hj := (List.getElem?_eq_some_iff.1 h).1
  refine List.ext_getElem? fun i => ?_
  unfold fillTo
  rw [List.getElem?_set]
  have hl : j < (l.take j ++ List.replicate (l.length - j) 0).length := by simp; omega
  by_cases hij : j = i
  · subst hij
    rw [if_pos rfl, if_pos hl, List.getElem?_append_left (by simp; omega), List.getElem?_take, if_pos (by omega), h]
  · rw [if_neg hij]
    rcases Nat.lt_or_ge i j with hlt | hge
    · rw [List.getElem?_append_left (by simp; omega), List.getElem?_append_left (by simp; omega), List.getElem?_take, List.getElem?_take, if_pos hlt, if_pos (by omega)]
    · rw [List.getElem?_append_right (by simp; omega), List.getElem?_append_right (by simp; omega), List.getElem?_replicate, List.getElem?_replicate]
      simp only [List.length_take]
      rw [Nat.min_eq_left (by omega), Nat.min_eq_left (by omega)]
      by_cases hi : i < l.length
      · rw [if_pos (by omega), if_pos (by omega)]
      · rw [if_neg (by omega), if_neg (by omega)]
theorem take_snoc {α : Type} {l : List α} {i : Nat} {x : α} (h : l[i]? = some x) : l.take i ++ [x] = l.take (i + 1) := by
  obtain ⟨hi, rfl⟩ := List.getElem?_eq_some_iff.1 h
  rw [List.take_succ_eq_append_getElem hi]
end Go.QF
