/-
  Plain: the triangular form by Euclid's steps on rows, and the way back. No condition.
-/
import Derived.Test.YtccgaemmdikhcaaDoorKerS
namespace Go.QF
set_option linter.unusedVariables false

/-- Row c loses q times row i, then both change places. -/
def stepF (F : Nat → Nat → Int) (c i : Nat) (q m : Int) : Nat → Nat → Int := swapF (setF F c fun x => (F c x + (m - q) * F i x) % m) c i
theorem swapF_at (F : Nat → Nat → Int) (a b : Nat) : swapF F a b b = F a := setF_same _ _ _
theorem swapF_at2 (F : Nat → Nat → Int) {a b : Nat} : swapF F a b a = F b := by
  unfold swapF
  by_cases h : a = b
  · subst h; rw [setF_same]
  · rw [setF_ne _ _ h, setF_same]
theorem swapF_ne (F : Nat → Nat → Int) {a b k : Nat} (ha : k ≠ a) (hb : k ≠ b) : swapF F a b k = F k := by
  unfold swapF; rw [setF_ne _ _ hb, setF_ne _ _ ha]
theorem stepF_i (F : Nat → Nat → Int) {c i : Nat} (q m : Int) : stepF F c i q m i = fun x => (F c x + (m - q) * F i x) % m := by
  unfold stepF; rw [swapF_at, setF_same]
theorem stepF_c (F : Nat → Nat → Int) {c i : Nat} (h : c ≠ i) (q m : Int) : stepF F c i q m c = F i := by
  unfold stepF; rw [swapF_at2, setF_ne _ _ (Ne.symm h)]
theorem stepF_ne (F : Nat → Nat → Int) {c i k : Nat} (hc : k ≠ c) (hi : k ≠ i) (q m : Int) : stepF F c i q m k = F k := by
  unfold stepF; rw [swapF_ne _ hc hi, setF_ne _ _ hc]
theorem bd_step {r C c i : Nat} {q m : Int} {F : Nat → Nat → Int} (hm : 0 < m) (H : Bd r C m F) (hc : c < r) (hi : i < r) : Bd r C m (stepF F c i q m) :=
  bd_swap (bd_set H fun j hj => mod_bd hm _) hc hi
/-- The columns below c are done. -/
def Zc (n : Nat) (F : Nat → Nat → Int) (c : Nat) : Prop := ∀ c' i, c' < c → c' < i → i < n → F i c' = 0
def Zi (F : Nat → Nat → Int) (c i : Nat) : Prop := ∀ k, c < k → k < i → F k c = 0
theorem zc_step {n : Nat} {F : Nat → Nat → Int} {c i : Nat} {q m : Int} (H : Zc n F c) (hci : c < i) (hi : i < n) : Zc n (stepF F c i q m) c := by
  intro c' k h1 h2 h3
  by_cases hk : k = i
  · subst hk
    rw [stepF_i]
    simp [H c' c h1 h1 (by omega), H c' k h1 h2 h3]
  · by_cases hk2 : k = c
    · subst hk2
      rw [stepF_c F hk]; exact H c' i h1 (by omega) hi
    · rw [stepF_ne F hk2 hk]; exact H c' k h1 h2 h3
theorem zi_step {F : Nat → Nat → Int} {c i : Nat} {q m : Int} (H : Zi F c i) : Zi (stepF F c i q m) c i := by
  intro k h1 h2
  rw [stepF_ne F (by omega) (by omega)]; exact H k h1 h2
theorem zi_succ {F : Nat → Nat → Int} {c i : Nat} (H : Zi F c i) (h : F i c = 0) : Zi F c (i + 1) := by
  intro k h1 h2
  rcases Nat.lt_or_ge k i with h3 | h3
  · exact H k h1 h3
  · obtain rfl : k = i := by omega
    exact h
theorem zc_succ {n : Nat} {F : Nat → Nat → Int} {c : Nat} (H : Zc n F c) (h : Zi F c n) : Zc n F (c + 1) := by
  intro c' k h1 h2 h3
  rcases Nat.lt_or_ge c' c with h4 | h4
  · exact H c' k h4 h2 h3
  · obtain rfl : c' = c := by omega
    exact h k h2 h3
theorem step_lt {a b m : Int} (ha : 0 ≤ a) (ham : a < m) (hb : 0 < b) (hbm : b < m) : (a + (m - a / b) * b) % m = a % b := by
  have h := Int.mul_ediv_add_emod a b
  have h1 : a + (m - a / b) * b = a % b + m * b := by
    rw [Int.sub_mul, Int.mul_comm (a / b) b]; omega
  have h2 := Int.emod_nonneg a (b := b) (by omega)
  have h3 := Int.emod_lt_of_pos a hb
  rw [h1, Int.add_mul_emod_self_left, Int.emod_eq_of_lt h2 (by omega)]
theorem quo_bd {a b m : Int} (ha : 0 ≤ a) (ham : a < m) (hb : 0 < b) : 0 ≤ a / b ∧ a / b < m := by
  refine ⟨Int.ediv_nonneg ha (by omega), ?_⟩
  have := Int.ediv_le_self b ha
  omega
/-- One column of the way back, from column c. -/
noncomputable def backS (m : Int) (F : Nat → Nat → Int) (c : Nat) : Nat → Nat → Int := elimF (scaleF F c (invM m (F c c)) m) c c m c
/-- The columns n - 1, .., k are done. -/
noncomputable def backTo (m : Int) (n : Nat) (F : Nat → Nat → Int) : Nat → Nat → Nat → Int
  | 0 => F
  | j + 1 => backS m (backTo m n F j) (n - 1 - j)
theorem bd_back {r C n : Nat} {m : Int} {F : Nat → Nat → Int} (hm : 0 < m) (H : Bd r C m F) : ∀ j, Bd r C m (backTo m n F j) := by
  intro j
  induction j with
  | zero => exact H
  | succ j ih => exact bd_elim hm (bd_scale hm ih)
/-- The matrix with the unit matrix beside it. -/
def augF (n : Nat) (F : Nat → Nat → Int) : Nat → Nat → Int := fun i j => if j < n then F i j else if j = n + i then 1 else 0
end Go.QF
