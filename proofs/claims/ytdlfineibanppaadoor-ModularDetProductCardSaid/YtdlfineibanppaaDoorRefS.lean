/-
  Plain: the reference's way to the echelon form is the program's. No condition.
-/
import Derived.Test.YtdlfineibanppaaDoorTriS
namespace Go.QF
set_option linter.unusedVariables false
theorem setF_setF (F : Nat → Nat → Int) (i : Nat) (f g : Nat → Int) : setF (setF F i f) i g = setF F i g := by
  funext k
  by_cases h : k = i
  · subst h; rw [setF_same, setF_same]
  · rw [setF_ne _ _ h, setF_ne _ _ h, setF_ne _ _ h]
theorem setF_self (F : Nat → Nat → Int) (i : Nat) : setF F i (F i) = F := by
  funext k
  by_cases h : k = i
  · subst h; rw [setF_same]
  · rw [setF_ne _ _ h]
def mixF (j : Nat) (f g : Nat → Int) : Nat → Int := fun q => if q < j then f q else g q
theorem mixF_zero (f g : Nat → Int) : mixF 0 f g = g := by funext q; simp [mixF]
theorem mixF_at (j : Nat) (f g : Nat → Int) : mixF j f g j = g j := by simp [mixF]
theorem mixF_set {c j : Nat} {f g : Nat → Int} {y : Int} (hy : y = f j) : ((List.range c).map (mixF j f g)).set j y = (List.range c).map (mixF (j + 1) f g) := by
  refine range_set (fun q _ hne => ?_) (by simp [mixF, hy])
  unfold mixF
  by_cases h : q < j
  · rw [if_pos h, if_pos (by omega)]
  · rw [if_neg h, if_neg (by omega)]
theorem mixF_skip {j : Nat} {f g : Nat → Int} (h : f j = g j) : mixF (j + 1) f g = mixF j f g := by
  funext q
  unfold mixF
  by_cases h1 : q < j
  · rw [if_pos h1, if_pos (by omega)]
  · rw [if_neg h1]
    by_cases h2 : q = j
    · subst h2; rw [if_pos (by omega), h]
    · rw [if_neg (by omega)]
theorem tab_mx {r c i : Nat} {F : Nat → Nat → Int} {f g : Nat → Int} : tab r c (setF F i (mixF c f g)) = tab r c (setF F i f) := by
  refine tab_congr fun k q _ hq => ?_
  by_cases h : k = i
  · subst h; rw [setF_same, setF_same]; simp [mixF, hq]
  · rw [setF_ne _ _ h, setF_ne _ _ h]
theorem sub_mod {a x y p : Int} : (a - x * y % p) % p = (a + (p - x) * y) % p := by
  have h := Int.mul_ediv_add_emod (x * y) p
  have e : a + (p - x) * y = (a - x * y % p) + p * (y - x * y / p) := by
    rw [Int.sub_mul, Int.mul_sub]; omega
  rw [e, Int.add_mul_emod_self_left]
/-- What the reference does to row i. -/
def elG (F : Nat → Nat → Int) (top j : Nat) (p : Int) (i : Nat) : Nat → Int := fun q => if i = top then F i q else (F i q + (p - F i j) * F top q) % p
theorem elG_end {r c : Nat} {F : Nat → Nat → Int} {top j : Nat} {p : Int} {i : Nat} : tab r c (setF (elimF F top j p i) i (mixF c (elG F top j p i) (F i))) = tab r c (elimF F top j p (i + 1)) := by
  rw [tab_mx]
  by_cases h : i = top
  · subst h
    have : elG F i j p i = elimF F i j p i i := by funext q; rw [elimF_at]; simp [elG]
    rw [this, setF_self, elimF_skip]
  · have : elG F top j p i = fun q => (F i q + (p - F i j) * F top q) % p := by funext q; simp [elG, h]
    rw [this, elimF_step h]
theorem echTo_stable {rc : Int → Int} {r : Nat} {m : Int} {F : Nat → Nat → Int} {j : Nat} (h : r ≤ (echTo rc r m F j).2.length) : ∀ d, echTo rc r m F (j + d) = echTo rc r m F j := by
  intro d
  induction d with
  | zero => rfl
  | succ d ih =>
    rw [← Nat.add_assoc]
    simp only [echTo, colS]
    rw [ih, Nat.sub_eq_zero_of_le h]
    exact if_neg (by simp only [firstNZ]; omega)
theorem neg_mod {x p : Int} : (-x) % p = (p - x) % p := by
  rw [show p - x = -x + p * 1 by omega, Int.add_mul_emod_self_left]
end Go.QF
