/-
  Row operations on a matrix that the call owns, in functions of two indexes: rows turned, swapped; the reduced echelon form as the program makes it. No condition.
-/
import Derived.Test.YtccgaemmdikhcaaDoorGro
import Derived.Test.YtccgaemmdikhcaaDoorSpec
import Derived.Test.YtccgaemmdikhcaaDoorNum
namespace Go.QF
open Go
set_option linter.unusedVariables false

theorem OwnA.inj {h : Heap} {el g : Nat} {v v' : Value} {l l' : List Value} (H : OwnA h el g v l) (H' : OwnA h el g v' l') (hl : l.length = l'.length) : v = v' := by
  obtain ⟨cap, cur, rfl, hg, _, _, hs, _⟩ := H
  obtain ⟨cap', cur', rfl, hg', _, _, hs', _⟩ := H'
  rw [hg] at hg'; injection hg' with hg'; injection hg' with hc
  subst hc
  rw [hl, ← hs, ← hs']
/-- A row of known value has turned. -/
theorem PartM.setRow' {h h' : Heap} {er ei b n : Nat} {gs : List Nat} {v r0 : Value} {M : List (List Int)} {z0 : List Int} (H : PartM h er ei b gs v n M) {i g : Nat} (hg : gs[i]? = some g) (hu : Upd (· = g) h h') {z' : List Int}
    (hz0 : M[i]? = some z0) (h0 : OwnA h ei g r0 (z0.map (.int .i64))) (h1 : OwnA h' ei g r0 (z'.map (.int .i64))) : PartM h' er ei b gs v n (M.set i z') := by
  refine H.setRow hg hu fun r z hz ho => ?_
  rw [hz0] at hz; injection hz with hz; subst hz
  rw [ho.inj h0 rfl]; exact h1
theorem get_set_cases {α : Type} {l : List α} {i k : Nat} {x y : α} (h : (l.set i x)[k]? = some y) : (k = i ∧ y = x) ∨ (k ≠ i ∧ l[k]? = some y) := by
  rw [List.getElem?_set] at h
  split at h
  · rename_i hik
    subst hik
    split at h
    · injection h with h; exact .inl ⟨rfl, h.symm⟩
    · cases h
  · rename_i hik
    exact .inr ⟨fun he => hik he.symm, h⟩
/-- Two rows are swapped: their slices are stored at each other's place. -/
theorem PartM.swap {h : Heap} {er ei b n : Nat} {gs : List Nat} {v ri rj : Value} {M : List (List Int)} {zi zj : List Int} (H : PartM h er ei b gs v n M) {i j gi gj : Nat} (hgi : gs[i]? = some gi) (hgj : gs[j]? = some gj)
    (hzi : M[i]? = some zi) (hzj : M[j]? = some zj) (hri : OwnA h ei gi ri (zi.map (.int .i64))) (hrj : OwnA h ei gj rj (zj.map (.int .i64))) :
    PartM (setH (setH h ⟨b, i, none⟩ rj) ⟨b, j, none⟩ ri) er ei b ((gs.set i gj).set j gi) v n ((M.set i zj).set j zi) := by
  have hib : gi ≠ b := H.ne hgi
  have hjb : gj ≠ b := H.ne hgj
  obtain ⟨rs, h1, h2, h2', h3, h4, h5⟩ := H
  have hi := (List.getElem?_eq_some_iff.1 hgi).1
  have hj := (List.getElem?_eq_some_iff.1 hgj).1
  have hU : Upd (· = b) h (setH (setH h ⟨b, i, none⟩ rj) ⟨b, j, none⟩ ri) := (upd_set h ⟨b, i, none⟩ rj).trans (upd_set _ ⟨b, j, none⟩ ri)
  have hnd := (List.nodup_cons.1 h5).2
  refine ⟨(rs.set i rj).set j ri, (h1.set _ _ (by omega)).set _ _ (by simp; omega), by simp [h2], by simpa using h2', by simp [h3], fun k g r z hg hr hz => ?_, ?_⟩
  · rcases get_set_cases hg with ⟨rfl, rfl⟩ | ⟨hkj, hg⟩
    · rcases get_set_cases hr with ⟨_, rfl⟩ | ⟨hne, _⟩
      · rcases get_set_cases hz with ⟨_, rfl⟩ | ⟨hne, _⟩
        · exact hri.upd hU hib
        · exact absurd rfl hne
      · exact absurd rfl hne
    · rcases get_set_cases hr with ⟨hk, _⟩ | ⟨_, hr⟩
      · exact absurd hk hkj
      · rcases get_set_cases hz with ⟨hk, _⟩ | ⟨_, hz⟩
        · exact absurd hk hkj
        · rcases get_set_cases hg with ⟨rfl, rfl⟩ | ⟨hki, hg⟩
          · rcases get_set_cases hr with ⟨_, rfl⟩ | ⟨hne, _⟩
            · rcases get_set_cases hz with ⟨_, rfl⟩ | ⟨hne, _⟩
              · exact hrj.upd hU hjb
              · exact absurd rfl hne
            · exact absurd rfl hne
          · rcases get_set_cases hr with ⟨hk, _⟩ | ⟨_, hr⟩
            · exact absurd hk hki
            · rcases get_set_cases hz with ⟨hk, _⟩ | ⟨_, hz⟩
              · exact absurd hk hki
              · exact (h4 k g r z hg hr hz).upd hU (fun he => (List.nodup_cons.1 h5).1 (by have he' : g = b := he; exact he' ▸ List.mem_of_getElem? hg))
  · refine List.nodup_cons.2 ⟨fun hm => ?_, ?_⟩
    · rcases List.mem_or_eq_of_mem_set hm with hm | rfl
      · rcases List.mem_or_eq_of_mem_set hm with hm | rfl
        · exact (List.nodup_cons.1 h5).1 hm
        · exact hjb rfl
      · exact hib rfl
    · rw [List.nodup_iff_pairwise_ne, List.pairwise_iff_getElem]
      intro a c ha hc hac he
      have hx : ((gs.set i gj).set j gi)[a]? = some ((gs.set i gj).set j gi)[a] := List.getElem?_eq_getElem ha
      have hy : ((gs.set i gj).set j gi)[c]? = some ((gs.set i gj).set j gi)[a] := by rw [he]; exact List.getElem?_eq_getElem hc
      generalize ((gs.set i gj).set j gi)[a] = y at hx hy
      have key : ∀ k, ((gs.set i gj).set j gi)[k]? = some y → (k = j ∧ y = gi) ∨ (k ≠ j ∧ k = i ∧ y = gj) ∨ (k ≠ j ∧ k ≠ i ∧ gs[k]? = some y) := by
        intro k hk
        rcases get_set_cases hk with ⟨h, h'⟩ | ⟨h, h'⟩
        · exact .inl ⟨h, h'⟩
        · rcases get_set_cases h' with ⟨h2, h2'⟩ | ⟨h2, h2'⟩
          · exact .inr (.inl ⟨h, h2, h2'⟩)
          · exact .inr (.inr ⟨h, h2, h2'⟩)
      have inj := fun {p q : Nat} (hp : gs[p]? = some y) (hq : gs[q]? = some y) => nodup_getElem?_inj hnd hp hq
      rcases key a hx with ⟨rfl, rfl⟩ | ⟨h1, rfl, rfl⟩ | ⟨h1, h2, h3⟩ <;> rcases key c hy with ⟨rfl, hq⟩ | ⟨h4, rfl, hq⟩ | ⟨h4, h5, h6⟩
      · omega
      · have := inj hgi (hq ▸ hgj); omega
      · have := inj hgi h6; omega
      · have := inj hgj (hq ▸ hgi); omega
      · omega
      · have := inj hgj h6; omega
      · have := inj h3 (hq ▸ hgi); omega
      · have := inj h3 (hq ▸ hgj); omega
      · have := inj h3 h6; omega
theorem mem_swap {gs : List Nat} {i j gi gj : Nat} (hgi : gs[i]? = some gi) (hgj : gs[j]? = some gj) {g : Nat} (hm : g ∈ (gs.set i gj).set j gi) : g ∈ gs := by
  rcases List.mem_or_eq_of_mem_set hm with hm | rfl
  · rcases List.mem_or_eq_of_mem_set hm with hm | rfl
    · exact hm
    · exact List.mem_of_getElem? hgj
  · exact List.mem_of_getElem? hgi

/-! ### functions of two indexes -/
def setF (F : Nat → Nat → Int) (i : Nat) (g : Nat → Int) : Nat → Nat → Int := fun k => if k = i then g else F k
theorem setF_same (F : Nat → Nat → Int) (i : Nat) (g : Nat → Int) : setF F i g i = g := if_pos rfl
theorem setF_ne (F : Nat → Nat → Int) {i k : Nat} (g : Nat → Int) (h : k ≠ i) : setF F i g k = F k := if_neg h
theorem tab_setF {r c i : Nat} {F : Nat → Nat → Int} {g : Nat → Int} : (tab r c F).set i ((List.range c).map g) = tab r c (setF F i g) := by
  refine List.ext_getElem (by simp [tab]) fun k h1 h2 => ?_
  rw [List.getElem_set]
  simp only [tab, List.getElem_map, List.getElem_range]
  by_cases hik : i = k
  · subst hik; rw [if_pos rfl, setF_same]
  · rw [if_neg hik, setF_ne _ _ (fun he => hik he.symm)]
def swapF (F : Nat → Nat → Int) (a b : Nat) : Nat → Nat → Int := setF (setF F a (F b)) b (F a)
def scaleF (F : Nat → Nat → Int) (a : Nat) (f m : Int) : Nat → Nat → Int := setF F a fun c => F a c * f % m
/-- The first k rows but for the top one have lost what they had of the top one. -/
def elimF (F : Nat → Nat → Int) (top j : Nat) (m : Int) (k : Nat) : Nat → Nat → Int := fun i c => if i < k ∧ i ≠ top then (F i c + (m - F i j) * F top c) % m else F i c
theorem elimF_zero (F : Nat → Nat → Int) (top j : Nat) (m : Int) : elimF F top j m 0 = F := by
  funext i c; simp [elimF]
theorem elimF_top (F : Nat → Nat → Int) (top j : Nat) (m : Int) (k : Nat) : elimF F top j m k top = F top := by
  funext c; simp [elimF]
theorem elimF_at (F : Nat → Nat → Int) (top j : Nat) (m : Int) (k : Nat) : elimF F top j m k k = F k := by
  funext c; simp [elimF]
theorem elimF_skip (F : Nat → Nat → Int) (top j : Nat) (m : Int) : elimF F top j m (top + 1) = elimF F top j m top := by
  funext i c
  unfold elimF
  by_cases h : i < top + 1 ∧ i ≠ top
  · rw [if_pos h, if_pos (by omega)]
  · rw [if_neg h, if_neg (by omega)]
theorem elimF_step {F : Nat → Nat → Int} {top j : Nat} {m : Int} {k : Nat} (hk : k ≠ top) : setF (elimF F top j m k) k (fun c => (F k c + (m - F k j) * F top c) % m) = elimF F top j m (k + 1) := by
  funext i c
  by_cases hik : i = k
  · subst hik; rw [setF_same]; simp [elimF, hk]
  · rw [setF_ne _ _ hik]
    unfold elimF
    by_cases h : i < k ∧ i ≠ top
    · rw [if_pos h, if_pos (by omega)]
    · rw [if_neg h, if_neg (by omega)]
/-- The first row from 'top' on, of r rows, with something in column j; r if there is none. -/
def firstNZ (F : Nat → Nat → Int) (j : Nat) : Nat → Nat → Nat
  | 0, top => top
  | n + 1, top => if F top j = 0 then firstNZ F j n (top + 1) else top
theorem firstNZ_le (F : Nat → Nat → Int) (j : Nat) : ∀ n top, top ≤ firstNZ F j n top ∧ firstNZ F j n top ≤ top + n := by
  intro n
  induction n with
  | zero => intro top; simp [firstNZ]
  | succ n ih =>
    intro top
    unfold firstNZ
    split
    · have := ih (top + 1); omega
    · omega
theorem firstNZ_ne (F : Nat → Nat → Int) (j : Nat) : ∀ n top, firstNZ F j n top < top + n → F (firstNZ F j n top) j ≠ 0 := by
  intro n
  induction n with
  | zero => intro top h; simp [firstNZ] at h
  | succ n ih =>
    intro top h
    unfold firstNZ at h ⊢
    split at h
    · rename_i h0
      rw [if_pos h0]; exact ih (top + 1) (by omega)
    · rename_i h0
      rw [if_neg h0]; exact h0
theorem firstNZ_zero (F : Nat → Nat → Int) (j : Nat) : ∀ n top i, top ≤ i → i < firstNZ F j n top → F i j = 0 := by
  intro n
  induction n with
  | zero => intro top i h1 h2; simp [firstNZ] at h2; omega
  | succ n ih =>
    intro top i h1 h2
    unfold firstNZ at h2
    split at h2
    · rename_i h0
      rcases Nat.lt_or_ge top i with h | h
      · exact ih (top + 1) i (by omega) h2
      · obtain rfl : i = top := by omega
        exact h0
    · omega
theorem firstNZ_uniq {F : Nat → Nat → Int} {j r top i : Nat} (h1 : top ≤ i) (h2 : i ≤ r) (hz : ∀ k, top ≤ k → k < i → F k j = 0) (hn : i < r → F i j ≠ 0) : firstNZ F j (r - top) top = i := by
  have hle := firstNZ_le F j (r - top) top
  rcases Nat.lt_trichotomy (firstNZ F j (r - top) top) i with h | h | h
  · exact absurd (hz _ hle.1 h) (firstNZ_ne F j (r - top) top (by omega))
  · exact h
  · exact absurd (firstNZ_zero F j (r - top) top i h1 h) (hn (by omega))
/-- One column of the elimination; rc makes reciprocals. -/
def colS (rc : Int → Int) (r : Nat) (m : Int) (j : Nat) (s : (Nat → Nat → Int) × List Nat) : (Nat → Nat → Int) × List Nat :=
  let top := s.2.length
  let i := firstNZ s.1 j (r - top) top
  if i < r then
    let F1 := swapF s.1 top i
    (elimF (scaleF F1 top (rc (F1 top j)) m) top j m r, s.2 ++ [j])
  else s
def echTo (rc : Int → Int) (r : Nat) (m : Int) (F : Nat → Nat → Int) : Nat → (Nat → Nat → Int) × List Nat
  | 0 => (F, [])
  | j + 1 => colS rc r m j (echTo rc r m F j)
/-- Entries below m in the first r rows and c columns. -/
def Bd (r c : Nat) (m : Int) (F : Nat → Nat → Int) : Prop := ∀ i j, i < r → j < c → 0 ≤ F i j ∧ F i j < m
theorem bd_set {r c i : Nat} {m : Int} {F : Nat → Nat → Int} {g : Nat → Int} (H : Bd r c m F) (hg : ∀ j, j < c → 0 ≤ g j ∧ g j < m) : Bd r c m (setF F i g) := by
  intro k j hk hj
  by_cases hki : k = i
  · subst hki; rw [setF_same]; exact hg j hj
  · rw [setF_ne _ _ hki]; exact H k j hk hj
theorem bd_swap {r c a b : Nat} {m : Int} {F : Nat → Nat → Int} (H : Bd r c m F) (ha : a < r) (hb : b < r) : Bd r c m (swapF F a b) :=
  bd_set (bd_set H fun j hj => H b j hb hj) fun j hj => H a j ha hj
theorem mod_bd {m : Int} (hm : 0 < m) (x : Int) : 0 ≤ x % m ∧ x % m < m := ⟨Int.emod_nonneg _ (by omega), Int.emod_lt_of_pos _ hm⟩
theorem bd_scale {r c a : Nat} {f m : Int} {F : Nat → Nat → Int} (hm : 0 < m) (H : Bd r c m F) : Bd r c m (scaleF F a f m) :=
  bd_set H fun j hj => mod_bd hm _
theorem bd_elim {r c top j k : Nat} {m : Int} {F : Nat → Nat → Int} (hm : 0 < m) (H : Bd r c m F) : Bd r c m (elimF F top j m k) := by
  intro i c' hi hc
  unfold elimF
  split
  · exact mod_bd hm _
  · exact H i c' hi hc
theorem bd_col {rc : Int → Int} {r c j : Nat} {m : Int} {s : (Nat → Nat → Int) × List Nat} (hm : 0 < m) (H : Bd r c m s.1) : Bd r c m (colS rc r m j s).1 := by
  unfold colS
  dsimp only
  split
  · rename_i hi
    refine bd_elim hm (bd_scale hm (bd_swap H ?_ hi))
    have := (firstNZ_le s.1 j (r - s.2.length) s.2.length).1
    omega
  · exact H
theorem bd_ech {rc : Int → Int} {r c : Nat} {m : Int} {F : Nat → Nat → Int} (hm : 0 < m) (H : Bd r c m F) : ∀ j, Bd r c m (echTo rc r m F j).1 := by
  intro j
  induction j with
  | zero => exact H
  | succ j ih => exact bd_col hm ih
theorem piv_le {rc : Int → Int} {r : Nat} {m : Int} {F : Nat → Nat → Int} : ∀ j, (echTo rc r m F j).2.length ≤ r ∧ (echTo rc r m F j).2.length ≤ j ∧ ∀ x ∈ (echTo rc r m F j).2, x < j := by
  intro j
  induction j with
  | zero => simp [echTo]
  | succ j ih =>
    simp only [echTo, colS]
    split
    · rename_i hi
      have := (firstNZ_le (echTo rc r m F j).1 j (r - (echTo rc r m F j).2.length) (echTo rc r m F j).2.length).1
      refine ⟨by simp; omega, by simp; omega, fun x hx => ?_⟩
      rcases List.mem_append.1 hx with h | h
      · have := ih.2.2 x h; omega
      · simp at h; omega
    · refine ⟨ih.1, by omega, fun x hx => ?_⟩
      have := ih.2.2 x hx; omega
theorem bd_ent {M : List (List Int)} {c : Nat} {m : Int} (hm : 0 < m) (hR : Rem m M) : Bd M.length c m (ent M) := fun i j _ _ => hR.ent hm i j
theorem row_bd {r c : Nat} {m : Int} {F : Nat → Nat → Int} (H : Bd r c m F) {i : Nat} (hi : i < r) : ∀ x ∈ (List.range c).map fun j => F i j, 0 ≤ x ∧ x < m := by
  intro x hx
  simp only [List.mem_map, List.mem_range] at hx
  obtain ⟨j, hj, rfl⟩ := hx
  exact H i j hi hj
end Go.QF
