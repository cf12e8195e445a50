/-
  The examples of the sanity check, in numbers; literals of slices. No condition.
-/
import Derived.Test.YtdlfineibanppaaDoorInvH
namespace Go.QF
open Go
set_option linter.unusedVariables false

theorem colS_congr {rc rc' : Int → Int} {r c j : Nat} {m : Int} {s : (Nat → Nat → Int) × List Nat} (hm : 0 < m) (h : ∀ x, 0 < x → x < m → rc x = rc' x) (H : Bd r c m s.1) (hj : j < c) : colS rc r m j s = colS rc' r m j s := by
  unfold colS
  dsimp only
  split
  · rename_i hi
    have hle := (firstNZ_le s.1 j (r - s.2.length) s.2.length).1
    have hne := firstNZ_ne s.1 j (r - s.2.length) s.2.length (by omega)
    have hb := H _ j hi hj
    rw [swapF_at2, h _ (by omega) hb.2]
  · rfl
theorem echTo_congr {rc rc' : Int → Int} {r c : Nat} {m : Int} {F : Nat → Nat → Int} (hm : 0 < m) (h : ∀ x, 0 < x → x < m → rc x = rc' x) (H : Bd r c m F) : ∀ j, j ≤ c → echTo rc r m F j = echTo rc' r m F j := by
  intro j
  induction j with
  | zero => intro _; rfl
  | succ j ih =>
    intro hj
    simp only [echTo]
    rw [colS_congr hm h (bd_ech hm H j) (by omega), ih (by omega)]
theorem pr2 : Pr 2 := ⟨by omega, fun d h1 h2 => by omega⟩
theorem pr3 : Pr 3 := ⟨by omega, fun d h1 h2 => by
  obtain rfl : d = 2 := by omega
  decide⟩
theorem inv2 : ∀ x, 0 < x → x < 2 → invM 2 x = id x := fun x h1 h2 => by
  obtain rfl : x = 1 := by omega
  exact invM_eq ⟨by decide, by decide, by decide⟩
theorem inv3 : ∀ x, 0 < x → x < 3 → invM 3 x = id x := fun x h1 h2 => by
  rcases (by omega : x = 1 ∨ x = 2) with rfl | rfl
  · exact invM_eq ⟨by decide, by decide, by decide⟩
  · exact invM_eq ⟨by decide, by decide, by decide⟩
def awA : List (List Int) := [[2, 4], [1, 1]]
def awB : List (List Int) := [[1, 1]]
theorem eF_congr {M : List (List Int)} {p : Int} (hp : 0 < p) (h : ∀ x, 0 < x → x < p → invM p x = id x) : eF M p = echTo id M.length p (ent (redM M p)) (cols M) := by
  unfold eF
  refine echTo_congr (c := cols M) hp h ?_ _ (Nat.le_refl _)
  have := bd_ent (c := cols M) hp (rem_red hp M)
  rw [red_len] at this
  exact this
theorem awA_pri : priB awA 2 = true := by
  unfold priB
  rw [← validB_t (by decide), ← primeB_t (by decide) pr2]; rfl
theorem awA_ech : echS awA 2 = [[1, 1]] := by
  unfold echS
  rw [awA_pri, eF_congr (by decide) inv2]; decide
theorem awA_piv : pivS awA 2 = [0] := by
  unfold pivS
  rw [awA_pri, eF_congr (by decide) inv2]; decide
theorem awA_err : echE awA 2 = 0 := by
  unfold echE
  rw [← validB_t (by decide), ← primeB_t (by decide) pr2]; rfl
theorem awB_pri : priB awB 3 = true := by
  unfold priB
  rw [← validB_t (by decide), ← primeB_t (by decide) pr3]; rfl
theorem awB_err : echE awB 3 = 0 := by
  unfold echE
  rw [← validB_t (by decide), ← primeB_t (by decide) pr3]; rfl
theorem awB_ker : kerS awB 3 = [[1, 2]] := by
  unfold kerS
  rw [awB_pri, eF_congr (by decide) inv3]
  unfold echZ
  rw [echTo_congr (c := cols awB) (by decide) inv3 (bd_ent (by decide) (kerB_rem (by decide))) _ (Nat.le_refl _)]
  decide
def awQ (x : Int) (F : Nat → Nat → Int) (s : Int) : Prop := F = augF 1 (ent (redM [[x]] 9))
theorem mat1 {h : Heap} {v r0 : Value} {z0 : List Int} (hS : Sl h v [r0]) (h0 : Sl h r0 (z0.map (.int .i64))) : Mat h v [z0] :=
  ⟨[r0], hS, rfl, fun i r z hr hz => by
    cases i with
    | zero => simp at hr hz; subst hr; subst hz; exact h0
    | succ i => simp at hr⟩
theorem mat2 {h : Heap} {v r0 r1 : Value} {z0 z1 : List Int} (hS : Sl h v [r0, r1]) (h0 : Sl h r0 (z0.map (.int .i64))) (h1 : Sl h r1 (z1.map (.int .i64))) : Mat h v [z0, z1] :=
  ⟨[r0, r1], hS, rfl, fun i r z hr hz => by
    match i with
    | 0 => simp at hr hz; subst hr; subst hz; exact h0
    | 1 => simp at hr hz; subst hr; subst hz; exact h1
    | i + 2 => simp at hr⟩
section
variable {P : Program} {B : Heap → Prop} {st : Bool} {ops : Array Oper} {rest : List Oper} {e : Env} {h : Heap} {K : Env → Heap → Prop}
variable {d : Nat} {ty : TypeId} {pos : String} {af : Array Edge}
theorem r_lit {t el bytes n : Nat} {z : Value} {parts : List (Nat × Operand)} (l : List Value) (hT : SlT P t el 1) (hz : ZeT P el z bytes) (h1 : isOne z = true) (hbB : ∀ h', B h') (hn : l.length = n) (hn2 : n ≤ 16777216) (hpos : 0 < n) (hp : (parts.map fun (i, x) => (i, e.ev x)) = partsOf 0 l)
    (hone : ∀ u ∈ l, isOne u = true) (H : ∀ v' h', Ext h h' → OwnA h' el h.size v' l → RL P B st ops rest (e.set d v') h' K) :
    RL P B st ops (⟨some d, .buildSlice t n parts.toArray, ty, pos, af, none⟩ :: rest) e h K := by
  refine r_bs l hT hz h1 (hbB _) hn hn2 hpos hp hone ⟨hbB _, ?_⟩
  have := ownA_lit h el l (by unfold maxLen; omega)
  rw [hn] at this
  exact H _ _ (ext_push _ _) this
end
end Go.QF
