/-
  Rows of an owned matrix that are replaced by others; pieces of owned slices; plain facts of the way back. No condition.
-/
import Derived.Test.YtccgaemmdikhcaaDoorTriS
import Derived.Test.YtccgaemmdikhcaaDoorAppZ
namespace Go.QF
open Go
set_option linter.unusedVariables false

/-- A row's slice gives way to another, in its own block or in a new one. -/
theorem PartM.replace {h h1 : Heap} {er ei b n : Nat} {gs : List Nat} {v r' : Value} {M : List (List Int)} {z' : List Int} (H : PartM h er ei b gs v n M) {i g g' : Nat} (hg : gs[i]? = some g) (hU : Upd (· = g) h h1) (hr : OwnA h1 ei g' r' (z'.map (.int .i64))) (hg' : g' = g ∨ h.size ≤ g') :
    PartM (setH h1 ⟨b, i, none⟩ r') er ei b (gs.set i g') v n (M.set i z') := by
  have hne := H.ne hg
  have hlt := H.lt
  obtain ⟨rs, h1', h2, h2', h3, h4, h5⟩ := H
  have hi := (List.getElem?_eq_some_iff.1 hg).1
  have hb := (List.nodup_cons.1 h5).1
  have hnd := (List.nodup_cons.1 h5).2
  have hgb : g' ≠ b := by
    rcases hg' with rfl | hge
    · exact hne
    · have := hlt b (List.mem_cons_self ..); omega
  have hkey : ∀ j gj, j ≠ i → gs[j]? = some gj → gj ≠ g ∧ gj ≠ g' := by
    intro j gj hji hgj
    have h6 : gj ≠ g := fun he => hji (nodup_getElem?_inj hnd hgj (he ▸ hg))
    refine ⟨h6, ?_⟩
    rcases hg' with rfl | hge
    · exact h6
    · have := hlt gj (List.mem_cons_of_mem _ (List.mem_of_getElem? hgj)); omega
  refine ⟨rs.set i r', (h1'.upd hU (fun he => hne (Eq.symm he))).set _ _ (by omega), by simp [h2], by simpa using h2', by simp [h3], fun j gj r z hgj hr' hz => ?_, ?_⟩
  · rcases get_set_cases hgj with ⟨rfl, rfl⟩ | ⟨hji, hgj⟩
    · rcases get_set_cases hr' with ⟨_, rfl⟩ | ⟨hne, _⟩
      · rcases get_set_cases hz with ⟨_, rfl⟩ | ⟨hne, _⟩
        · exact hr.upd (upd_set _ _ _) hgb
        · exact absurd rfl hne
      · exact absurd rfl hne
    · rcases get_set_cases hr' with ⟨hk, _⟩ | ⟨_, hr'⟩
      · exact absurd hk hji
      · rcases get_set_cases hz with ⟨hk, _⟩ | ⟨_, hz⟩
        · exact absurd hk hji
        · exact ((h4 j gj r z hgj hr' hz).upd hU (hkey j gj hji hgj).1).upd (upd_set _ _ _) (fun he => hb (by have he' : gj = b := he; exact he' ▸ List.mem_of_getElem? hgj))
  · refine List.nodup_cons.2 ⟨fun hm => ?_, ?_⟩
    · rcases List.mem_or_eq_of_mem_set hm with hm | rfl
      · exact hb hm
      · exact hgb rfl
    · rw [List.nodup_iff_pairwise_ne, List.pairwise_iff_getElem]
      intro a c ha hc hac he
      have hx : (gs.set i g')[a]? = some (gs.set i g')[a] := List.getElem?_eq_getElem ha
      have hy : (gs.set i g')[c]? = some (gs.set i g')[a] := by rw [he]; exact List.getElem?_eq_getElem hc
      generalize (gs.set i g')[a] = y at hx hy
      rcases get_set_cases hx with ⟨rfl, rfl⟩ | ⟨h1, h1'⟩ <;> rcases get_set_cases hy with ⟨rfl, hq⟩ | ⟨h2, h2'⟩
      · omega
      · exact (hkey c _ h2 h2').2 rfl
      · exact (hkey a _ h1 h1').2 hq
      · have := nodup_getElem?_inj hnd h1' h2'; omega
theorem PartM.glen {h : Heap} {er ei b n : Nat} {gs : List Nat} {v : Value} {M : List (List Int)} (H : PartM h er ei b gs v n M) : gs.length = M.length := let ⟨_, _, _, _, h3, _⟩ := H; h3
theorem mem_set_ge {gs : List Nat} {i g' lo : Nat} (h : ∀ g ∈ gs, lo ≤ g) (hg' : lo ≤ g') : ∀ g ∈ gs.set i g', lo ≤ g := by
  intro g hm
  rcases List.mem_or_eq_of_mem_set hm with hm | rfl
  · exact h g hm
  · exact hg'
theorem OwnA.slice {h : Heap} {el g : Nat} {v : Value} {l : List Value} (H : OwnA h el g v l) : ∃ cap, v = .slice (some ⟨g, 0, none⟩) l.length cap ∧ l.length ≤ cap := by
  obtain ⟨cap, cur, hv, _, hl, _⟩ := H
  exact ⟨cap, hv, hl⟩
/-- The piece of an owned slice from k on. -/
theorem OwnA.from {h : Heap} {el g cap k n : Nat} {v : Value} {l : List Value} (H : OwnA h el g v l) (hn : l.length = n) (hk : k ≤ n) (hc : k < cap) :
    Sl h (.slice (if cap = k then some ⟨g, 0, none⟩ else (some (⟨g, 0, none⟩ : Addr)).map (·.add (k * 1))) (n - k) (cap - k)) (l.drop k) := by
  subst hn
  rw [if_neg (by omega)]
  refine ⟨_, _, by rw [List.length_drop], fun i x hx => ⟨g, k, ?_, ?_⟩⟩
  · simp [Addr.add]; omega
  · rw [List.getElem?_drop] at hx
    exact H.cell hx
/-- The first i rows are of one kind, the others of another. -/
def mixM (n i : Nat) (A B : Nat → List Int) : List (List Int) := (List.range n).map fun k => if k < i then A k else B k
theorem mixM_zero (n : Nat) (A B : Nat → List Int) : mixM n 0 A B = (List.range n).map B := by simp [mixM]
theorem mixM_all {n : Nat} (A B : Nat → List Int) {i : Nat} (h : n ≤ i) : mixM n i A B = (List.range n).map A :=
  List.map_congr_left fun k hk => if_pos (by have := List.mem_range.1 hk; omega)
theorem mixM_at {n i : Nat} {A B : Nat → List Int} (h : i < n) : (mixM n i A B)[i]? = some (B i) := by simp [mixM, h]
theorem mixM_len (n i : Nat) (A B : Nat → List Int) : (mixM n i A B).length = n := by simp [mixM]
theorem mixM_set {n i : Nat} {A B : Nat → List Int} {z : List Int} (hz : z = A i) : (mixM n i A B).set i z = mixM n (i + 1) A B := by
  subst hz
  refine List.ext_getElem (by simp [mixM]) fun k h1 h2 => ?_
  rw [List.getElem_set]
  simp only [mixM, List.getElem_map, List.getElem_range]
  by_cases hik : i = k
  · subst hik; rw [if_pos rfl, if_pos (by omega)]
  · rw [if_neg hik]
    by_cases hlt : k < i
    · rw [if_pos hlt, if_pos (by omega)]
    · rw [if_neg hlt, if_neg (by omega)]
theorem aug_row {n i : Nat} (F : Nat → Nat → Int) (hi : i < n) : ((List.range n).map (F i) ++ List.replicate n 0).set (n + i) 1 = (List.range (n + n)).map (augF n F i) := by
  refine List.ext_getElem (by simp) fun k h1 h2 => ?_
  rw [List.getElem_set, List.getElem_append]
  simp only [List.getElem_map, List.getElem_range, List.length_map, List.length_range, augF, List.getElem_replicate]
  by_cases h3 : n + i = k
  · subst h3; rw [if_pos rfl, if_neg (by omega), if_pos rfl]
  · rw [if_neg h3]
    by_cases h4 : k < n
    · rw [dif_pos h4, if_pos h4]
    · rw [dif_neg h4, if_neg h4, if_neg (fun he => h3 he.symm)]
theorem bd_aug {n : Nat} {m : Int} {F : Nat → Nat → Int} (hm : 2 ≤ m) (H : Bd n n m F) : Bd n (n + n) m (augF n F) := by
  intro i j hi hj
  unfold augF
  split
  · rename_i h; exact H i j hi h
  · split <;> omega
theorem drop_row {n : Nat} (g : Nat → Int) : (((List.range (n + n)).map g).map (Value.int .i64)).drop n = ((List.range n).map fun j => g (n + j)).map (Value.int .i64) := by
  refine List.ext_getElem (by simp) fun k h1 h2 => ?_
  simp
/-- The way back leaves the columns that it has not come to. -/
theorem back_col {n C : Nat} {m : Int} {F : Nat → Nat → Int} (hm : 0 < m) (hbd : Bd n C m F) (hnC : n ≤ C) (hz : Zc n F n) : ∀ j, j ≤ n → ∀ i c, i < n → c < n - j → backTo m n F j i c = F i c := by
  intro j
  induction j with
  | zero => intro _ i c _ _; rfl
  | succ j ih =>
    intro hj i c hi hc
    have ih' := fun i' (h' : i' < n) => ih (by omega) i' c h' (by omega)
    have h0 : backTo m n F j (n - 1 - j) c = 0 := by rw [ih' _ (by omega)]; exact hz c (n - 1 - j) (by omega) (by omega) (by omega)
    simp only [backTo, backS, elimF, scaleF]
    split
    · rename_i h1
      rw [setF_ne _ _ (by omega), setF_same, ih' i hi]
      rw [h0]
      simp
      have := hbd i c hi (by omega)
      exact Int.emod_eq_of_lt this.1 this.2
    · by_cases h2 : i = n - 1 - j
      · subst h2
        rw [setF_same, h0]
        simp
        exact (hz c (n - 1 - j) (by omega) (by omega) (by omega)).symm
      · rw [setF_ne _ _ h2, ih' i hi]
/-- The product of the diagonal, as Det makes it. -/
def detP (F : Nat → Nat → Int) (m s : Int) : Nat → Int
  | 0 => s + m
  | i + 1 => detP F m s i % m * F i i % m
theorem detP_bd {F : Nat → Nat → Int} {m s : Int} (hm : 2 ≤ m) (hs : s = 1 ∨ s = -1) : ∀ i, 0 ≤ detP F m s i ∧ detP F m s i ≤ m + 1 := by
  intro i
  cases i with
  | zero => unfold detP; omega
  | succ i => unfold detP; have := mod_bd (by omega : 0 < m) (detP F m s i % m * F i i); omega
theorem square_of {M : List (List Int)} (h : squareB M = true) : Valid M ∧ M.length = cols M ∧ M.length ≤ 8 := of_decide_eq_true h
section
variable {P : Program} {B : Heap → Prop} {st : Bool} {ops : Array Oper} {rest : List Oper} {e : Env} {h : Heap} {K : Env → Heap → Prop}
variable {d : Nat} {ty : TypeId} {pos : String} {af : Array Edge}
theorem r_addn {x y : Operand} {t t2 : TypeId} {a b : Nat} (hx : e.ev x = .int .i64 (a : Int)) (hy : e.ev y = .int .i64 (b : Int)) (h1 : a + b ≤ 9223372036854775807) (H : RL P B st ops rest (e.set d (.int .i64 ((a + b : Nat) : Int))) h K) :
    RL P B st ops (⟨some d, .binOp .add t x y t2, ty, pos, af, none⟩ :: rest) e h K := by
  refine r_addb hx hy (by omega) (by omega) ?_
  rw [← Int.natCast_add]; exact H
end
end Go.QF
