/-
  Plain arithmetic: prime numbers by trial division, inverses modulo a number, powers. No condition.
-/
namespace Go.QF
set_option linter.unusedVariables false

theorem lt_ge (a b : Int) : a < b ∨ b ≤ a := by omega
theorem mul_bd {a b A B : Int} (ha : 0 ≤ a) (hA : a ≤ A) (hb : 0 ≤ b) (hB : b ≤ B) : 0 ≤ a * b ∧ a * b ≤ A * B :=
  ⟨Int.mul_nonneg ha hb, Int.mul_le_mul hA hB hb (Int.le_trans ha hA)⟩
theorem sq_bd {x : Int} (hx : 0 ≤ x) (h : x * x ≤ 2147483647) : x ≤ 46340 := by
  rcases lt_ge 46340 x with hc | hc
  · have := (mul_bd (a := 46341) (b := 46341) (A := x) (B := x) (by omega) (by omega) (by omega) (by omega)).2
    omega
  · exact hc

def Pr (n : Int) : Prop := 2 ≤ n ∧ ∀ d, 2 ≤ d → d < n → n % d ≠ 0

theorem dvd_of_mod {n d : Int} (h : n % d = 0) : d ∣ n := Int.dvd_of_emod_eq_zero h
theorem mod_of_dvd {n d : Int} (h : d ∣ n) : n % d = 0 := Int.emod_eq_zero_of_dvd h

/-- No divisor up to the square root: a prime number. -/
theorem pr_of_sqrt {n d : Int} (hn : 2 ≤ n) (hd : 2 ≤ d) (hsq : n < d * d) (h : ∀ c, 2 ≤ c → c < d → n % c ≠ 0) : Pr n := by
  refine ⟨hn, fun c hc hcn hm => ?_⟩
  rcases lt_ge c d with hlt | hge
  · exact h c hc hlt hm
  · obtain ⟨q, hq⟩ := dvd_of_mod hm
    have hq0 : 0 < q := by
      rcases lt_ge 0 q with h | h
      · exact h
      · have : c * q ≤ 0 := Int.mul_nonpos_of_nonneg_of_nonpos (by omega) h
        omega
    have hqd : q < d := by
      rcases lt_ge q d with h | h
      · exact h
      · have := (mul_bd (a := d) (b := d) (A := c) (B := q) (by omega) hge (by omega) h).2
        omega
    have hq2 : 2 ≤ q := by
      rcases lt_ge q 2 with h | h
      · have : q = 1 := by omega
        subst this; omega
      · exact h
    exact h q hq2 hqd (mod_of_dvd ⟨c, by rw [hq, Int.mul_comm]⟩)

theorem not_pr_of {n d : Int} (hd : 2 ≤ d) (hlt : d < n) (hm : n % d = 0) : ¬ Pr n := fun h => h.2 d hd hlt hm
theorem lt_of_sq {n d : Int} (hd : 2 ≤ d) (h : d * d ≤ n) : d < n := by
  have : d * 2 ≤ d * d := Int.mul_le_mul_of_nonneg_left hd (by omega)
  omega

open Classical in
noncomputable def primeB (n : Int) : Bool := decide (n ≤ 2147483647 ∧ Pr n)
theorem primeB_t {n : Int} (h1 : n ≤ 2147483647) (h2 : Pr n) : true = primeB n := by simp [primeB, h1, h2]
theorem primeB_f {n : Int} (h : ¬ (n ≤ 2147483647 ∧ Pr n)) : false = primeB n := by simp [primeB, h]
theorem of_primeB {n : Int} (h : primeB n = true) : n ≤ 2147483647 ∧ Pr n := by simpa [primeB] using h
theorem not_of_primeB {n : Int} (h : primeB n = false) : ¬ (n ≤ 2147483647 ∧ Pr n) := by simpa [primeB] using h

theorem mod_ne_of_dvd {n c d : Int} (hc : n % c ≠ 0) (hcd : d % c = 0) : n % d ≠ 0 := by
  intro h
  have h1 := dvd_of_mod h
  have h2 := dvd_of_mod hcd
  exact hc (mod_of_dvd (Int.dvd_trans h2 h1))

/-- The wheel of 30: what lies between two candidates is divisible by 2, 3 or 5. -/
theorem wheel {n lo hi : Int} (h2 : n % 2 ≠ 0) (h3 : n % 3 ≠ 0) (h5 : n % 5 ≠ 0) (h : ∀ d, 2 ≤ d → d < lo → n % d ≠ 0) (hlo : n % lo ≠ 0) (hb : ∀ d, lo < d → d < hi → d % 2 = 0 ∨ d % 3 = 0 ∨ d % 5 = 0) :
    ∀ d, 2 ≤ d → d < hi → n % d ≠ 0 := by
  intro d hd hdh
  rcases lt_ge d lo with h1 | h1
  · exact h d hd h1
  · rcases Int.lt_or_eq_of_le h1 with h1 | h1
    · rcases hb d h1 hdh with e | e | e
      · exact mod_ne_of_dvd h2 e
      · exact mod_ne_of_dvd h3 e
      · exact mod_ne_of_dvd h5 e
    · rw [← h1]; exact hlo
theorem wheel0 {n : Int} (h2 : n % 2 ≠ 0) (h3 : n % 3 ≠ 0) (h5 : n % 5 ≠ 0) : ∀ d, 2 ≤ d → d < 7 → n % d ≠ 0 := by
  intro d hd hdh
  have hd5 : d = 2 ∨ d = 3 ∨ d = 4 ∨ d = 5 ∨ d = 6 := by omega
  have : d % 2 = 0 ∨ d % 3 = 0 ∨ d % 5 = 0 := by rcases hd5 with rfl | rfl | rfl | rfl | rfl <;> omega
  rcases this with e | e | e
  · exact mod_ne_of_dvd h2 e
  · exact mod_ne_of_dvd h3 e
  · exact mod_ne_of_dvd h5 e

def offs : List Int := [7, 11, 13, 17, 19, 23, 29, 31]
/-- What comes behind offset number j. -/
def offn (j : Nat) : Int := (offs ++ [37])[j]?.getD 0
theorem offs_step {base : Int} (hb : base % 30 = 0) {j : Nat} (hj : j < 8) : ∀ d, base + offn j < d → d < base + offn (j + 1) → d % 2 = 0 ∨ d % 3 = 0 ∨ d % 5 = 0 := by
  intro d h1 h2
  have : j = 0 ∨ j = 1 ∨ j = 2 ∨ j = 3 ∨ j = 4 ∨ j = 5 ∨ j = 6 ∨ j = 7 := by omega
  obtain ⟨q, rfl⟩ : ∃ q, base = 30 * q := ⟨base / 30, by omega⟩
  obtain ⟨r, rfl⟩ : ∃ r, d = 30 * q + r := ⟨d - 30 * q, by omega⟩
  rcases this with rfl | rfl | rfl | rfl | rfl | rfl | rfl | rfl <;> simp [offn, offs] at h1 h2
  · have : r = 8 ∨ r = 9 ∨ r = 10 := by omega
    rcases this with rfl | rfl | rfl <;> omega
  · omega
  · have : r = 14 ∨ r = 15 ∨ r = 16 := by omega
    rcases this with rfl | rfl | rfl <;> omega
  · omega
  · have : r = 20 ∨ r = 21 ∨ r = 22 := by omega
    rcases this with rfl | rfl | rfl <;> omega
  · have : r = 24 ∨ r = 25 ∨ r = 26 ∨ r = 27 ∨ r = 28 := by omega
    rcases this with rfl | rfl | rfl | rfl | rfl <;> omega
  · omega
  · have : r = 32 ∨ r = 33 ∨ r = 34 ∨ r = 35 ∨ r = 36 := by omega
    rcases this with rfl | rfl | rfl | rfl | rfl <;> omega
theorem offn_bd {j : Nat} (hj : j < 8) : 7 ≤ offn j ∧ offn j ≤ 31 := by
  have : j = 0 ∨ j = 1 ∨ j = 2 ∨ j = 3 ∨ j = 4 ∨ j = 5 ∨ j = 6 ∨ j = 7 := by omega
  rcases this with rfl | rfl | rfl | rfl | rfl | rfl | rfl | rfl <;> simp [offn, offs]
theorem offs_get {j : Nat} (hj : j < 8) : offs[j]? = some (offn j) := by
  have : j = 0 ∨ j = 1 ∨ j = 2 ∨ j = 3 ∨ j = 4 ∨ j = 5 ∨ j = 6 ∨ j = 7 := by omega
  rcases this with rfl | rfl | rfl | rfl | rfl | rfl | rfl | rfl <;> simp [offn, offs]

/-! ### remainders -/
theorem tmod_add_mod {x m : Int} (hm : 0 < m) : (x.tmod m + m) % m = x % m := by
  rw [Int.add_emod_right]
  rw [Int.tmod_eq_emod]
  split
  · simp
  · rw [Int.sub_emod]
    have : (m.natAbs : Int) = m := by omega
    rw [this]
    simp
theorem tmod_bd {x m : Int} (hm : 0 < m) : -m < x.tmod m ∧ x.tmod m < m := by
  have h1 := Int.lt_tmod_of_pos x hm
  have h2 := Int.tmod_lt_of_pos x hm
  exact ⟨h1, h2⟩

/-! ### inverses -/
theorem inv_unique {m x r s : Int} (hr : 0 ≤ r ∧ r < m) (hs : 0 ≤ s ∧ s < m) (h1 : r * x % m = 1 % m) (h2 : s * x % m = 1 % m) : r = s := by
  have e1 : r % m = s % m := by
    have a : (r * (s * x)) % m = r % m := by rw [Int.mul_emod, h2, ← Int.mul_emod, Int.mul_one]
    have b : (s * (r * x)) % m = s % m := by rw [Int.mul_emod, h1, ← Int.mul_emod, Int.mul_one]
    rw [← a, ← b]
    congr 1
    rw [← Int.mul_assoc, ← Int.mul_assoc, Int.mul_comm r s]
  rw [Int.emod_eq_of_lt hr.1 hr.2, Int.emod_eq_of_lt hs.1 hs.2] at e1
  exact e1

def IsInv (m x r : Int) : Prop := 0 ≤ r ∧ r < m ∧ r * x % m = 1 % m
open Classical in
noncomputable def invM (m x : Int) : Int := if h : ∃ r, IsInv m x r then h.choose else 0
theorem invM_spec {m x r : Int} (h : IsInv m x r) : IsInv m x (invM m x) := by
  unfold invM
  rw [dif_pos ⟨r, h⟩]
  exact (Exists.choose_spec (⟨r, h⟩ : ∃ r, IsInv m x r))
theorem invM_eq {m x r : Int} (h : IsInv m x r) : invM m x = r := by
  have h' := invM_spec h
  exact inv_unique ⟨h'.1, h'.2.1⟩ ⟨h.1, h.2.1⟩ h'.2.2 h.2.2

/-! ### powers modulo a number -/
theorem pow_mod (a m : Int) (n : Nat) : (a % m) ^ n % m = a ^ n % m := by
  induction n with
  | zero => simp
  | succ n ih => rw [Int.pow_succ, Int.pow_succ, Int.mul_emod, ih, Int.emod_emod, ← Int.mul_emod]
theorem sq_pow (a : Int) (n : Nat) : (a * a) ^ n = a ^ (2 * n) := by
  induction n with
  | zero => simp
  | succ n ih => rw [Int.pow_succ, ih, show 2 * (n + 1) = 2 * n + 1 + 1 by omega, Int.pow_succ, Int.pow_succ, Int.mul_assoc]
/-- One round of square and multiply. -/
theorem pow_round {a m out : Int} {e : Nat} : ((if e % 2 = 1 then out * a % m else out) * (a * a % m) ^ (e / 2)) % m = out * a ^ e % m := by
  have h1 : (a * a % m) ^ (e / 2) % m = a ^ (2 * (e / 2)) % m := by rw [pow_mod, sq_pow]
  split
  · rename_i ho
    rw [Int.mul_emod, Int.emod_emod, h1, ← Int.mul_emod, Int.mul_assoc]
    congr 2
    rw [Int.mul_comm, ← Int.pow_succ]
    congr 1
    omega
  · rename_i ho
    rw [Int.mul_emod, h1, ← Int.mul_emod]
    congr 3
    omega
end Go.QF
