/-
  Texts of the proof of ModularInverse, joined: Bar, P3, PD, PL23, PG, PI, A23d, LD, LI. Conditions stand in each statement.
-/
import Derived.Test.YtdlfineibanppaaDoorMModularInverse4
/-
  Plain: elimination without fractions (Bareiss): its entries are minors, its quotients are exact, its last pivot is the determinant up to the sign of the exchanges. No condition.
-/
namespace Go.QF
set_option linter.unusedVariables false

/-- The lower right part from k on. -/
def shF (k : Nat) (F : Nat → Nat → Int) : Nat → Nat → Int := fun i j => F (k + i) (k + j)
theorem skp_shift {i k a : Nat} (h : i < k + 1) : skp i (k + a) = k + 1 + a := by unfold skp; rw [if_neg (by omega)]; omega
/-- A block of zeros at the lower left. -/
theorem det_block : ∀ {k m : Nat} {T : Nat → Nat → Int}, (∀ i j, k ≤ i → i < k + m → j < k → T i j = 0) → det (k + m) T = det k T * det m (shF k T) := by
  intro k
  induction k with
  | zero =>
    intro m T _
    have e : shF 0 T = T := by funext i j; simp [shF]
    rw [e, Nat.zero_add]
    simp [det]
  | succ k ih =>
    intro m T h
    rw [show k + 1 + m = (k + m) + 1 by omega]
    simp only [det]
    rw [psum_cut (k := k + 1) (by omega) (fun i h1 h2 => by rw [h i 0 h1 (by omega) (by omega)]; simp)]
    rw [Int.mul_comm, ← psum_mul]
    refine psum_congr fun i hi => ?_
    rw [ih (T := minor0 i T) (m := m) (fun a b ha ha2 hb => by
      obtain ⟨c, rfl⟩ : ∃ c, a = k + c := ⟨a - k, by omega⟩
      unfold minor0; rw [skp_shift hi]; exact h _ _ (by omega) (by omega) (by omega))]
    have e : shF k (minor0 i T) = shF (k + 1) T := by
      funext a b
      unfold shF minor0
      rw [skp_shift hi, show k + b + 1 = k + 1 + b by omega]
    rw [e]
    grind
theorem det_zero_col {n : Nat} {F : Nat → Nat → Int} (h : ∀ i, i < n + 1 → F i 0 = 0) : det (n + 1) F = 0 := by
  simp only [det]
  rw [psum_congr (g := fun _ => 0) fun i hi => by rw [h i hi]; simp]
  exact psum_zero _
theorem det_eq_cols {n : Nat} {F : Nat → Nat → Int} {a b : Nat} (ha : a < n) (hb : b < n) (hab : a ≠ b) (h : ∀ i, F i a = F i b) : det n F = 0 := by
  rw [← det_tr]
  exact det_eq_rows ha hb hab (by funext i; exact h i)
theorem det_two (F : Nat → Nat → Int) : det 2 F = F 0 0 * F 1 1 - F 1 0 * F 0 1 := by
  simp [det, psum, minor0, skp, sg]
  grind
/-- Row k is i's, the others are their own. -/
def bro (k i r : Nat) : Nat := if r < k then r else i
/-- The minor of the rows 0 .. k-1, i and the columns 0 .. k-1, j. -/
def Mn (k : Nat) (A : Nat → Nat → Int) (i j : Nat) : Int := det (k + 1) fun r c => A (bro k i r) (bro k j c)
theorem mn_zero (A : Nat → Nat → Int) (i j : Nat) : Mn 0 A i j = A i j := by
  simp [Mn, det, psum, bro, sg]
theorem mn_lead (k : Nat) (A : Nat → Nat → Int) : Mn k A k k = det (k + 1) A := by
  refine det_congr fun r c hr hc => ?_
  have e : ∀ r, r < k + 1 → bro k k r = r := fun r hr => by unfold bro; split <;> omega
  rw [e r hr, e c hc]
theorem mn_eq {k : Nat} (A : Nat → Nat → Int) (i : Nat) {j : Nat} (hj : j < k) : Mn k A i j = 0 := by
  refine det_eq_cols (a := j) (b := k) (by omega) (by omega) (by omega) fun r => ?_
  unfold bro
  simp [hj]
/-- The factors of the rows in a minor. -/
def cof (k : Nat) (A : Nat → Nat → Int) (i s : Nat) : Int := det (k + 1) (setF (fun c r => A (bro k i r) c) k (dl s))
theorem psum_dl {n : Nat} (f : Nat → Int) {q : Nat} (hq : q < n) : psum (fun s => f s * dl s q) n = f q := by
  rw [psum_one hq (fun i hi => by unfold dl; rw [if_neg hi, Int.mul_zero])]
  simp [dl]
theorem mn_exp (k : Nat) (A : Nat → Nat → Int) (i j : Nat) : Mn k A i j = psum (fun s => cof k A i s * A s j) k + det k A * A i j := by
  have h1 : Mn k A i j = det (k + 1) (setF (fun c r => A (bro k i r) c) k fun q => psum (fun s => A (bro k i s) j * dl s q) (k + 1)) := by
    unfold Mn
    rw [← det_tr]
    refine det_congr fun c r hc hr => ?_
    rw [setF_app, psum_dl _ hr]
    unfold trF
    split
    · subst_vars; simp [bro]
    · have : c < k := by omega
      simp [bro, this]
  rw [h1, det_psum (by omega)]
  have hk : det (k + 1) (setF (fun c r => A (bro k i r) c) k (dl k)) = det k A := by
    rw [det_block (k := k) (m := 1) (T := setF (fun c r => A (bro k i r) c) k (dl k)) (fun a b h1 h2 h3 => by
      obtain rfl : a = k := by omega
      rw [setF_app, if_pos rfl]; unfold dl; rw [if_neg (by omega)])]
    have e1 : det k (setF (fun c r => A (bro k i r) c) k (dl k)) = det k A := by
      rw [← det_tr]
      refine det_congr fun r c hr hc => ?_
      unfold trF
      rw [setF_app, if_neg (by omega)]
      simp [bro, hr]
    have e2 : det 1 (shF k (setF (fun c r => A (bro k i r) c) k (dl k))) = 1 := by
      simp [det, psum, shF, sg, setF_app, dl]
    rw [e1, e2, Int.mul_one]
  show psum (fun s => A (bro k i s) j * det (k + 1) (setF (fun c r => A (bro k i r) c) k (dl s))) k + A (bro k i k) j * det (k + 1) (setF (fun c r => A (bro k i r) c) k (dl k)) = _
  rw [hk]
  congr 1
  · refine psum_congr fun s hs => ?_
    show _ = cof k A i s * A s j
    unfold cof
    rw [Int.mul_comm]
    simp [bro, hs]
  · simp [bro, Int.mul_comm]
theorem dprod_split (f : Nat → Int) (k m : Nat) : dprod f (k + m) = dprod f k * dprod (fun i => f (k + i)) m := by
  induction m with
  | zero => simp [dprod]
  | succ m ih => rw [← Nat.add_assoc]; simp only [dprod]; rw [ih]; grind
theorem dprod_one {f : Nat → Int} : ∀ {n : Nat}, (∀ i, i < n → f i = 1) → dprod f n = 1
  | 0, _ => rfl
  | n + 1, h => by rw [dprod, dprod_one fun i hi => h i (by omega), h n (by omega)]; rfl
theorem dprod_ne {f : Nat → Int} : ∀ {n : Nat}, (∀ i, i < n → f i ≠ 0) → dprod f n ≠ 0
  | 0, _ => by simp [dprod]
  | n + 1, h => by rw [dprod]; exact Int.mul_ne_zero (dprod_ne fun i hi => h i (by omega)) (h n (by omega))
/-- Row r of the lower factor: from row k on, the factors of the minor of row ρ r. -/
def lowF (k : Nat) (A : Nat → Nat → Int) (ρ : Nat → Nat) : Nat → Nat → Int := fun r s => if r < k then dl r s else if s < k then cof k A (ρ r) s else if s = r then det k A else 0
theorem lowF_mul {k n : Nat} {A B : Nat → Nat → Int} {ρ γ : Nat → Nat} (hkn : k ≤ n) (hρ : ∀ r, r < k → ρ r = r) (hB : ∀ r c, B r c = A (ρ r) (γ c)) {r c : Nat} (hr : r < n) : mulF n (lowF k A ρ) B r c = if r < k then B r c else Mn k A (ρ r) (γ c) := by
  unfold mulF
  by_cases h : r < k
  · rw [if_pos h, psum_one hr (fun i hi => by unfold lowF; rw [if_pos h]; unfold dl; rw [if_neg (fun e => hi e.symm), Int.zero_mul])]
    unfold lowF; rw [if_pos h]; simp [dl]
  · rw [if_neg h, mn_exp]
    obtain ⟨m, rfl⟩ : ∃ m, n = k + m := ⟨n - k, by omega⟩
    have hs : ∀ t, psum (fun s => lowF k A ρ r s * B s c) (k + t) = psum (fun s => cof k A (ρ r) s * A s (γ c)) k + (if r < k + t then det k A * A (ρ r) (γ c) else 0) := by
      intro t
      induction t with
      | zero =>
        rw [if_neg (by omega), Int.add_zero, Nat.add_zero]
        refine psum_congr fun s hs => ?_
        unfold lowF
        rw [if_neg h, if_pos hs, hB, hρ s hs]
      | succ t ih =>
        show psum (fun s => lowF k A ρ r s * B s c) (k + t) + lowF k A ρ r (k + t) * B (k + t) c = _
        rw [ih]
        have e : lowF k A ρ r (k + t) = if k + t = r then det k A else 0 := by unfold lowF; rw [if_neg h, if_neg (by omega)]
        rw [e, hB]
        rcases Nat.lt_trichotomy r (k + t) with h1 | h1 | h1
        · rw [if_pos h1, if_neg (by omega), if_pos (by omega)]; simp
        · subst h1; rw [if_neg (by omega), if_pos rfl, if_pos (by omega)]; omega
        · rw [if_neg (by omega), if_neg (by omega), if_neg (by omega)]; simp
    rw [hs, if_pos hr]
theorem lowF_det {k m : Nat} {A : Nat → Nat → Int} {ρ : Nat → Nat} : det (k + m) (lowF k A ρ) = dprod (fun _ => det k A) m := by
  rw [det_lower (fun i j hij hj => by
    unfold lowF
    split
    · unfold dl; rw [if_neg (by omega)]
    · rw [if_neg (by omega), if_neg (by omega)]), dprod_split, dprod_one, Int.one_mul]
  · refine dprod_congr fun i hi => ?_
    unfold lowF; rw [if_neg (by omega), if_neg (by omega), if_pos rfl]
  · intro i hi
    unfold lowF; rw [if_pos hi]; simp [dl]
/-- The step's quotient is exact: it is the next minor. -/
theorem mn_step {k : Nat} {A : Nat → Nat → Int} (h0 : det k A ≠ 0) (i j : Nat) : Mn k A k k * Mn k A i j - Mn k A i k * Mn k A k j = det k A * Mn (k + 1) A i j := by
  have h1 := det_mul (n := k + 2) (lowF k A (bro (k + 1) i)) fun r c => A (bro (k + 1) i r) (bro (k + 1) j c)
  have hm : ∀ r c, r < k + 2 → mulF (k + 2) (lowF k A (bro (k + 1) i)) (fun r c => A (bro (k + 1) i r) (bro (k + 1) j c)) r c = if r < k then A (bro (k + 1) i r) (bro (k + 1) j c) else Mn k A (bro (k + 1) i r) (bro (k + 1) j c) := fun r c hr =>
    lowF_mul (k := k) (n := k + 2) (A := A) (B := fun r c => A (bro (k + 1) i r) (bro (k + 1) j c)) (ρ := bro (k + 1) i) (γ := bro (k + 1) j) (by omega) (fun r hr => by unfold bro; rw [if_pos (by omega)]) (fun r c => rfl) hr
  rw [lowF_det, det_block (k := k) (m := 2) (fun a b ha ha2 hb => by
    rw [hm a b ha2, if_neg (by omega), show bro (k + 1) j b = b by unfold bro; rw [if_pos (by omega)]]
    exact mn_eq _ _ hb)] at h1
  have e1 : det k (mulF (k + 2) (lowF k A (bro (k + 1) i)) fun r c => A (bro (k + 1) i r) (bro (k + 1) j c)) = det k A := by
    refine det_congr fun r c hr hc => ?_
    rw [hm r c (by omega), if_pos hr]
    simp only [bro]
    rw [if_pos (by omega), if_pos (by omega)]
  have b0 : ∀ q, bro (k + 1) q (k + 0) = k := fun q => by unfold bro; rw [if_pos (by omega)]; rfl
  have b1 : ∀ q, bro (k + 1) q (k + 1) = q := fun q => by unfold bro; rw [if_neg (by omega)]
  rw [e1, det_two] at h1
  simp only [shF] at h1
  rw [hm _ _ (by omega), hm _ _ (by omega), hm _ _ (by omega), hm _ _ (by omega), if_neg (by omega), if_neg (by omega), if_neg (by omega), if_neg (by omega), b0, b0, b1, b1] at h1
  have e2 : dprod (fun _ => det k A) 2 = det k A * det k A := by simp [dprod]
  have e3 : (det (k + 2) fun r c => A (bro (k + 1) i r) (bro (k + 1) j c)) = Mn (k + 1) A i j := rfl
  rw [e2, e3, Int.mul_assoc] at h1
  exact Int.eq_of_mul_eq_mul_left h0 h1
/-- No pivot: the determinant is zero. -/
theorem det_nopivot {k n : Nat} {A : Nat → Nat → Int} (h0 : det k A ≠ 0) (hk : k < n) (hz : ∀ i, k ≤ i → i < n → Mn k A i k = 0) : det n A = 0 := by
  obtain ⟨m, rfl⟩ : ∃ m, n = k + (m + 1) := ⟨n - k - 1, by omega⟩
  have h1 := det_mul (n := k + (m + 1)) (lowF k A id) A
  have hm : ∀ r c, r < k + (m + 1) → mulF (k + (m + 1)) (lowF k A id) A r c = if r < k then A r c else Mn k A r c := fun r c hr =>
    lowF_mul (k := k) (n := k + (m + 1)) (A := A) (B := A) (ρ := id) (γ := id) (by omega) (fun r hr => rfl) (fun r c => rfl) hr
  rw [lowF_det, det_block (k := k) (m := m + 1) (fun a b ha ha2 hb => by rw [hm a b ha2, if_neg (by omega)]; exact mn_eq _ _ hb), det_zero_col (F := shF k _) (fun i hi => by
    unfold shF
    rw [hm _ _ (by omega), if_neg (by omega)]
    exact hz _ (by omega) (by omega)), Int.mul_zero] at h1
  rcases Int.mul_eq_zero.1 h1.symm with h2 | h2
  · exact absurd h2 (dprod_ne fun i hi => h0)
  · exact h2
/-! sizes -/
def dBd (m : Nat) : Nat → Nat
  | 0 => 1
  | n + 1 => (n + 1) * m * dBd m n
theorem psum_abs {f : Nat → Int} {B : Nat} : ∀ {n : Nat}, (∀ i, i < n → (f i).natAbs ≤ B) → (psum f n).natAbs ≤ n * B
  | 0, _ => by simp [psum]
  | n + 1, h => by
    have h1 := psum_abs (n := n) fun i hi => h i (by omega)
    have h2 := h n (by omega)
    have h3 := Int.natAbs_add_le (psum f n) (f n)
    show (psum f n + f n).natAbs ≤ _
    rw [Nat.add_mul, Nat.one_mul]
    omega
theorem det_abs {m : Nat} : ∀ {n : Nat} {F : Nat → Nat → Int}, (∀ i j, (F i j).natAbs ≤ m) → (det n F).natAbs ≤ dBd m n
  | 0, _, _ => by simp [det, dBd]
  | n + 1, F, h => by
    have h1 := psum_abs (f := fun i => sg i * F i 0 * det n (minor0 i F)) (B := m * dBd m n) (n := n + 1) fun i hi => by
      have e := det_abs (n := n) (F := minor0 i F) fun a b => h _ _
      have es : (sg i).natAbs = 1 := by unfold sg; split <;> rfl
      rw [Int.natAbs_mul, Int.natAbs_mul, es, Nat.one_mul]
      exact Nat.mul_le_mul (h i 0) e
    rw [dBd, Nat.mul_assoc]
    exact h1
/-! the algorithm -/
theorem mn_swap {k n p : Nat} {A : Nat → Nat → Int} (hp : k < p) {i j : Nat} (hi : k ≤ i) : Mn k (swapF A p k) i j = Mn k A (if i = k then p else if i = p then k else i) j := by
  refine det_congr fun r c hr hc => ?_
  rw [swapF_app]
  unfold bro
  by_cases h : r < k
  · rw [if_pos h, if_pos h, if_neg (by omega), if_neg (by omega)]
  · rw [if_neg h, if_neg h]
    split
    · rfl
    · split <;> rfl
theorem det_swap_low {k p : Nat} {A : Nat → Nat → Int} (hp : k < p) : det k (swapF A p k) = det k A := by
  refine det_congr fun r c hr hc => ?_
  rw [swapF_app, if_neg (by omega), if_neg (by omega)]
def sgB (neg : Bool) : Int := if neg then -1 else 1
/-- The state of the elimination ahead of step k. -/
def BInv (m : Nat) (A0 : Nat → Nat → Int) (n k : Nat) (F : Nat → Nat → Int) (last : Int) (neg : Bool) : Prop :=
  ∃ A : Nat → Nat → Int, det n A = sgB neg * det n A0 ∧ (∀ i j, k ≤ i → i < n → k ≤ j → j < n → F i j = Mn k A i j) ∧ last = det k A ∧ last ≠ 0 ∧ ∀ i j, (A i j).natAbs ≤ m
theorem binv_start {m n : Nat} {A0 : Nat → Nat → Int} (h : ∀ i j, (A0 i j).natAbs ≤ m) : BInv m A0 n 0 A0 1 false :=
  ⟨A0, by simp [sgB], fun i j _ _ _ _ => (mn_zero A0 i j).symm, rfl, by decide, h⟩
theorem binv_swap {m n k p : Nat} {A0 F : Nat → Nat → Int} {last : Int} {neg : Bool} (H : BInv m A0 n k F last neg) (hkp : k < p) (hp : p < n) : BInv m A0 n k (swapF F p k) last (!neg) := by
  obtain ⟨A, h1, h2, h3, h4, h5⟩ := H
  refine ⟨swapF A p k, ?_, fun i j hi hin hj hjn => ?_, by rw [det_swap_low hkp]; exact h3, h4, fun i j => ?_⟩
  · rw [det_swap hp (by omega) (by omega), h1]; cases neg <;> simp [sgB]
  · rw [mn_swap (n := n) hkp hi, swapF_app]
    split
    · rw [h2 p j (by omega) hp hj hjn]
    · split
      · rw [h2 k j (by omega) (by omega) hj hjn]
      · rw [h2 i j hi hin hj hjn]
  · rw [swapF_app]; split
    · exact h5 _ _
    · split <;> exact h5 _ _
def bQ (k : Nat) (F : Nat → Nat → Int) (last : Int) (r c : Nat) : Int := (F k k * F r c - F r k * F k c) / last
/-- The step has reached entry (i, j). -/
def bF (k : Nat) (F : Nat → Nat → Int) (last : Int) (i j : Nat) : Nat → Nat → Int := fun r c => if k < r ∧ k < c ∧ (r < i ∨ r = i ∧ c < j) then bQ k F last r c else F r c
theorem bF_start (k : Nat) (F : Nat → Nat → Int) (last : Int) : bF k F last (k + 1) (k + 1) = F := by
  funext r c; unfold bF; rw [if_neg (by omega)]
theorem bF_row (k n : Nat) (F : Nat → Nat → Int) (last : Int) (i : Nat) {r c : Nat} (hc : c < n) : bF k F last i n r c = bF k F last (i + 1) (k + 1) r c := by
  unfold bF
  by_cases h : k < r ∧ k < c ∧ (r < i ∨ r = i ∧ c < n)
  · rw [if_pos h, if_pos (by omega)]
  · rw [if_neg h, if_neg (by omega)]
theorem bF_set (k : Nat) (F : Nat → Nat → Int) (last : Int) {i j : Nat} (hi : k < i) (hj : k < j) : (setF (bF k F last i j) i fun c => if c = j then bQ k F last i j else bF k F last i j i c) = bF k F last i (j + 1) := by
  funext r c
  rw [setF_app]
  split
  · subst_vars
    split
    · subst_vars; unfold bF; rw [if_pos (by omega)]
    · unfold bF
      by_cases h : k < r ∧ k < c ∧ (r < r ∨ r = r ∧ c < j)
      · rw [if_pos h, if_pos (by omega)]
      · rw [if_neg h, if_neg (by omega)]
  · unfold bF
    by_cases h : k < r ∧ k < c ∧ (r < i ∨ r = i ∧ c < j)
    · rw [if_pos h, if_pos (by omega)]
    · rw [if_neg h, if_neg (by omega)]
/-- What the step reads is still there. -/
theorem bF_kk (k : Nat) (F : Nat → Nat → Int) (last : Int) (i j c : Nat) : bF k F last i j k c = F k c := by unfold bF; rw [if_neg (by omega)]
theorem bF_ck (k : Nat) (F : Nat → Nat → Int) (last : Int) (i j r : Nat) : bF k F last i j r k = F r k := by unfold bF; rw [if_neg (by omega)]
theorem bF_ij (k : Nat) (F : Nat → Nat → Int) (last : Int) (i j : Nat) : bF k F last i j i j = F i j := by unfold bF; rw [if_neg (by omega)]
theorem bQ_eq {m n k : Nat} {A0 F : Nat → Nat → Int} {last : Int} {neg : Bool} (H : BInv m A0 n k F last neg) (hk : k < n) : ∃ A, (∀ i j, (A i j).natAbs ≤ m) ∧ det n A = sgB neg * det n A0 ∧ F k k = det (k + 1) A ∧ ∀ i j, k ≤ i → i < n → k ≤ j → j < n → F i j = Mn k A i j ∧ bQ k F last i j = Mn (k + 1) A i j := by
  obtain ⟨A, h1, h2, h3, h4, h5⟩ := H
  refine ⟨A, h5, h1, by rw [h2 k k (by omega) hk (by omega) hk, mn_lead], fun i j hi hin hj hjn => ⟨h2 i j hi hin hj hjn, ?_⟩⟩
  unfold bQ
  rw [h2 k k (by omega) hk (by omega) hk, h2 i j hi hin hj hjn, h2 i k hi hin (by omega) hk, h2 k j (by omega) hk hj hjn, mn_step (by rw [← h3]; exact h4), ← h3, Int.mul_ediv_cancel_left _ h4]
theorem binv_step {m n k : Nat} {A0 F : Nat → Nat → Int} {last : Int} {neg : Bool} (H : BInv m A0 n k F last neg) (hk : k < n) (h0 : F k k ≠ 0) : BInv m A0 n (k + 1) (bF k F last n (k + 1)) (F k k) neg := by
  obtain ⟨A, h5, h1, h6, h2⟩ := bQ_eq H hk
  refine ⟨A, h1, fun i j hi hin hj hjn => ?_, h6, h0, h5⟩
  unfold bF
  rw [if_pos (by omega)]
  exact (h2 i j (by omega) hin (by omega) hjn).2
theorem binv_none {m n k : Nat} {A0 F : Nat → Nat → Int} {last : Int} {neg : Bool} (H : BInv m A0 n k F last neg) (hk : k < n) (hz : ∀ i, k ≤ i → i < n → F i k = 0) : det n A0 = 0 := by
  obtain ⟨A, h1, h2, h3, h4, h5⟩ := H
  have h := det_nopivot (A := A) (by rw [← h3]; exact h4) hk fun i hi hin => by rw [← h2 i k hi hin (by omega) hk]; exact hz i hi hin
  rw [h1] at h
  rcases Int.mul_eq_zero.1 h with h6 | h6
  · cases neg <;> simp [sgB] at h6
  · exact h6
theorem binv_end {m n : Nat} {A0 F : Nat → Nat → Int} {last : Int} {neg : Bool} (H : BInv m A0 n n F last neg) : det n A0 = if neg then -last else last := by
  obtain ⟨A, h1, h2, h3, h4, h5⟩ := H
  rw [← h3] at h1
  rw [h1]
  cases neg
  · simp [sgB]
  · simp [sgB]
theorem mn_abs {m k : Nat} {A : Nat → Nat → Int} (h : ∀ i j, (A i j).natAbs ≤ m) (i j : Nat) : (Mn k A i j).natAbs ≤ dBd m (k + 1) := det_abs fun r c => h _ _
theorem dBd_mono {m : Nat} (hm : 1 ≤ m) {a b : Nat} (h : a ≤ b) : dBd m a ≤ dBd m b := by
  induction h with
  | refl => exact Nat.le_refl _
  | step h ih =>
    refine Nat.le_trans ih ?_
    rw [dBd]
    exact Nat.le_mul_of_pos_left _ (Nat.mul_pos (by omega) (by omega))
/-- No entry on the way exceeds the bound. -/
theorem binv_abs {m n k : Nat} {A0 F : Nat → Nat → Int} {last : Int} {neg : Bool} (hm : 1 ≤ m) (H : BInv m A0 n k F last neg) (hk : k < n) {i j : Nat} (hi : k ≤ i) (hin : i < n) (hj : k ≤ j) (hjn : j < n) : (F i j).natAbs ≤ dBd m n ∧ (bQ k F last i j).natAbs ≤ dBd m (n + 1) := by
  obtain ⟨A, h5, h1, h6, h2⟩ := bQ_eq H hk
  obtain ⟨h7, h8⟩ := h2 i j hi hin hj hjn
  rw [h7, h8]
  exact ⟨Nat.le_trans (mn_abs h5 _ _) (dBd_mono hm (by omega)), Nat.le_trans (mn_abs h5 _ _) (dBd_mono hm (by omega))⟩
theorem binv_last {m n k : Nat} {A0 F : Nat → Nat → Int} {last : Int} {neg : Bool} (hm : 1 ≤ m) (H : BInv m A0 n k F last neg) (hk : k ≤ n) : last ≠ 0 ∧ last.natAbs ≤ dBd m n := by
  obtain ⟨A, h1, h2, h3, h4, h5⟩ := H
  exact ⟨h4, by rw [h3]; exact Nat.le_trans (det_abs h5) (dBd_mono hm hk)⟩
end Go.QF


/-
  What the functions of quadformref03 answer, plain. Conditions stand in each statement.
-/
namespace Go.Proofs.YtdlfineibanppaaDoor
open Go Go.QF
set_option linter.unusedVariables false
set_option linter.unusedSimpArgs false
theorem set_mid {α : Type} {i n : Nat} {a b c : α} (h : i < n) : (List.replicate i a ++ List.replicate (n - i) b).set i c = List.replicate i a ++ (c :: List.replicate (n - i - 1) b) := by
  rw [List.set_append_right _ _ (by simp), List.length_replicate, Nat.sub_self, show n - i = (n - i - 1) + 1 by omega, List.replicate_succ]
  rfl
theorem zero_ok {fuel n m : Nat} (hn : n ≤ 100000000) (hm : m ≤ 100000000) (hf : n < fuel) : P_quadformref03_Zero fuel n m = some (List.replicate n (List.replicate m 0)) := by
  apply ok_eq
  unfold P_quadformref03_Zero
  refine ok_need (by omega) (ok_bind (ok_iter (fun i s => s = ((i : Int), List.replicate i (List.replicate m 0) ++ List.replicate (n - i) [])) n (Q := (· = List.replicate n (List.replicate m 0))) (by simp) hf fun i s hi hI => ?_) fun x hx => ok_some hx)
  subst hI
  unfold P_quadformref03_Zero_b1
  dsimp only
  rw [List.length_replicate, Int.toNat_natCast]
  refine ok_if (fun h => ok_need (by omega) (ok_get (n := i) (x := []) ?_ rfl (ok_some ⟨by omega, ?_⟩))) (fun h => ok_some ?_)
  · rw [List.getElem?_append_right (by simp), List.length_replicate, Nat.sub_self, List.getElem?_replicate, if_pos (by omega)]
  · rw [wrap_ok (by omega) (by omega), sI_nat, Int.toNat_natCast, set_mid (by omega)]
    congr 1
    rw [show n - (i + 1) = n - i - 1 by omega, List.replicate_succ']
    simp
  · obtain rfl : i = n := by omega
    simp
theorem take_set_nil {α : Type} {A : List (List α)} {i : Nat} {row : List α} (hi : i < A.length) : (A.take i ++ row :: List.replicate (A.length - i - 1) []).set i = fun r => A.take i ++ r :: List.replicate (A.length - i - 1) [] := by
  funext r
  rw [List.set_append_right _ _ (by simp; omega), List.length_take, Nat.min_eq_left (by omega), Nat.sub_self]; rfl
theorem copy_ok {fuel : Nat} {A : List (List Int)} (hn : A.length ≤ 100000000) (hm : ∀ z ∈ A, z.length ≤ 100000000 ∧ z.length < fuel) (hf : A.length < fuel) : P_quadformref03_Copy fuel A = some A := by
  apply ok_eq
  unfold P_quadformref03_Copy
  refine ok_need (by omega) (ok_bind (ok_iter (fun i s => s = ((i : Int), A.take i ++ List.replicate (A.length - i) [])) A.length (Q := (· = A)) (by simp) hf fun i s hi hI => ?_) fun x hx => ok_some hx)
  subst hI
  unfold P_quadformref03_Copy_b1
  dsimp only
  refine ok_if (fun h => ?_) (fun h => ok_some ?_)
  · have hi' : i < A.length := by omega
    obtain ⟨row, hrow⟩ : ∃ row, A[i]? = some row := ⟨A[i], List.getElem?_eq_getElem hi'⟩
    have hr := hm row (List.mem_of_getElem? hrow)
    refine ok_get hrow rfl (ok_bind (ok_iter (fun j s => s = ((j : Int), A.take i ++ row.take j :: List.replicate (A.length - i - 1) [])) row.length (Q := (· = A.take i ++ row :: List.replicate (A.length - i - 1) [])) ?_ hr.2 fun j s hj hJ => ?_) fun x hx => ok_some ⟨hi', ?_⟩)
    · rw [show A.length - i = (A.length - i - 1) + 1 by omega, List.replicate_succ]; simp
    · subst hJ
      unfold P_quadformref03_Copy_b2
      dsimp only
      refine ok_if (fun h2 => ?_) (fun h2 => ok_some ?_)
      · obtain ⟨x, hx⟩ : ∃ x, row[j]? = some x := ⟨row[j]'(by omega), List.getElem?_eq_getElem _⟩
        refine ok_get hx rfl (ok_get (n := i) (x := row.take j) ?_ rfl (ok_bind (Q := (· = x)) ⟨x, rfl, rfl⟩ fun y hy => ok_need ?_ (ok_some ⟨by omega, ?_⟩)))
        · rw [List.getElem?_append_right (by simp; omega), List.length_take, Nat.min_eq_left (by omega), Nat.sub_self]; rfl
        · rw [List.length_take]; omega
        · subst hy
          rw [wrap_ok (by omega) (by omega), sI_nat, take_set_nil hi', List.take_add_one, hx]; rfl
      · obtain rfl : j = row.length := by omega
        rw [List.take_length]
    · subst hx
      rw [wrap_ok (by omega) (by omega), List.take_add_one, hrow, show A.length - (i + 1) = A.length - i - 1 by omega]
      simp
  · obtain rfl : i = A.length := by omega
    simp
/-- The reference's matrix of Ints is valid. -/
def okM (A : List (List Int)) : Bool := decide (1 ≤ A.length ∧ A.length ≤ 16 ∧ ∀ z ∈ A, 1 ≤ z.length ∧ z.length ≤ 16 ∧ z.length = cols A)
theorem cols_some {A : List (List Int)} {z : List Int} (h : A[0]? = some z) : cols A = z.length := by unfold cols; rw [h]; rfl
theorem fromInts_ok {fuel : Nat} {A : List (List Int)} (hr : ∀ z ∈ A, ∀ x ∈ z, -9223372036854775808 ≤ x ∧ x ≤ 9223372036854775807) (hf : 17 < fuel) : P_quadformref03_FromInts fuel A = some (if okM A then (A, true) else ([], false)) := by
  apply ok_eq
  unfold P_quadformref03_FromInts
  have key : ∀ R : List (List Int) × Bool → Prop, (okM A = false → R ([], false)) → (okM A = true → R (A, true)) → Ok (P_quadformref03_FromInts fuel A) R := by
    intro R hF hT
    unfold P_quadformref03_FromInts
    refine ok_bind (Q := fun ex => match ex with | .inl e => e = ([], false) ∧ okM A = false | .inr _ => 1 ≤ A.length ∧ A.length ≤ 16) (ok_if (fun h => ok_some ⟨rfl, by unfold okM; rw [decide_eq_false_iff_not]; omega⟩) fun h => ok_if (fun h2 => ok_some ⟨rfl, by unfold okM; rw [decide_eq_false_iff_not]; omega⟩) fun h2 => ok_some ⟨by omega, by omega⟩) fun ex hex => ?_
    cases ex with
    | inl e => obtain ⟨rfl, h⟩ := hex; exact ok_some (hF h)
    | inr u =>
      dsimp only at hex ⊢
      obtain ⟨z0, hz0⟩ : ∃ z, A[0]? = some z := ⟨A[0]'(by omega), List.getElem?_eq_getElem _⟩
      have hc := cols_some hz0
      refine ok_bind (ok_iter (fun i (s : Int) => s = (i : Int) ∧ ∀ z ∈ A.take i, 1 ≤ z.length ∧ z.length ≤ 16 ∧ z.length = cols A) A.length (Q := fun ex => match ex with | .inl e => e = ([], false) ∧ okM A = false | .inr _ => okM A = true) ⟨rfl, by simp⟩ (by omega) fun i s hi hI => ?_) fun ex hex2 => ?_
      · obtain ⟨rfl, hI⟩ := hI
        unfold P_quadformref03_FromInts_b2
        refine ok_if (fun h => ?_) (fun h => ok_some ?_)
        · have hi' : i < A.length := by omega
          obtain ⟨row, hrow⟩ : ∃ row, A[i]? = some row := ⟨A[i], List.getElem?_eq_getElem hi'⟩
          have bad : ¬ (1 ≤ row.length ∧ row.length ≤ 16 ∧ row.length = cols A) → okM A = false := fun hb => by
            unfold okM; rw [decide_eq_false_iff_not]; exact fun h => hb (h.2.2 row (List.mem_of_getElem? hrow))
          refine ok_get hrow rfl (ok_if (fun h1 => ok_some ⟨rfl, bad (by omega)⟩) fun h1 => ok_if (fun h2 => ok_some ⟨rfl, bad (by omega)⟩) fun h2 => ok_get hz0 rfl (ok_if (fun h3 => ok_some ⟨rfl, bad (by omega)⟩) fun h3 => ok_some ⟨hi', wrap_ok (by omega) (by omega), ?_⟩))
          rw [List.take_add_one, hrow]
          intro z hz
          rcases List.mem_append.1 hz with hz | hz
          · exact hI z hz
          · rw [show z = row by simpa using hz]; omega
        · obtain rfl : i = A.length := by omega
          rw [List.take_length] at hI
          unfold okM; rw [decide_eq_true_eq]; exact ⟨hex.1, hex.2, hI⟩
      · cases ex with
        | inl e => obtain ⟨rfl, h⟩ := hex2; exact ok_some (hF h)
        | inr u =>
          dsimp only at hex2 ⊢
          have hv := hex2
          unfold okM at hv; rw [decide_eq_true_eq] at hv
          have hcA : ∀ z ∈ A, z.length = cols A := fun z hz => (hv.2.2 z hz).2.2
          have hc16 : 1 ≤ cols A ∧ cols A ≤ 16 := by have := hv.2.2 z0 (List.mem_of_getElem? hz0); omega
          refine ok_get hz0 rfl (ok_bind (ok_of (zero_ok (by omega) (by omega) (by omega))) fun O hO => ?_)
          subst hO
          rw [← hc]
          refine ok_bind (ok_iter (fun i s => s = ((i : Int), A.take i ++ List.replicate (A.length - i) (List.replicate (cols A) 0))) A.length (Q := (· = A)) (by simp) (by omega) fun i s hi hI => ?_) fun x hx => ok_some (hx ▸ hT hex2)
          subst hI
          unfold P_quadformref03_FromInts_b3
          dsimp only
          refine ok_if (fun h => ?_) (fun h => ok_some ?_)
          · have hi' : i < A.length := by omega
            obtain ⟨row, hrow⟩ : ∃ row, A[i]? = some row := ⟨A[i], List.getElem?_eq_getElem hi'⟩
            have hrl := hcA row (List.mem_of_getElem? hrow)
            refine ok_get hrow rfl (ok_bind (ok_iter (fun j s => s = ((j : Int), A.take i ++ (row.take j ++ List.replicate (cols A - j) 0) :: List.replicate (A.length - i - 1) (List.replicate (cols A) 0))) row.length (Q := (· = A.take i ++ row :: List.replicate (A.length - i - 1) (List.replicate (cols A) 0))) ?_ (by omega) fun j s hj hJ => ?_) fun x hx => ok_some ⟨hi', ?_⟩)
            · rw [show A.length - i = (A.length - i - 1) + 1 by omega, List.replicate_succ]; simp
            · subst hJ
              unfold P_quadformref03_FromInts_b4
              dsimp only
              refine ok_if (fun h2 => ?_) (fun h2 => ok_some ?_)
              · obtain ⟨x, hx⟩ : ∃ x, row[j]? = some x := ⟨row[j]'(by omega), List.getElem?_eq_getElem _⟩
                have hxr := hr row (List.mem_of_getElem? hrow) x (List.mem_of_getElem? hx)
                refine ok_get (n := i) (x := row.take j ++ List.replicate (cols A - j) 0) ?_ rfl (ok_get hrow rfl (ok_get hx rfl (ok_bind (Q := (· = x)) ⟨x, if_pos hxr, rfl⟩ fun y hy => ok_get (n := j) (x := 0) ?_ rfl (ok_some ⟨by omega, ?_⟩))))
                · rw [List.getElem?_append_right (by simp; omega), List.length_take, Nat.min_eq_left (by omega), Nat.sub_self]; rfl
                · rw [List.getElem?_append_right (by simp; omega), List.length_take, Nat.min_eq_left (by omega), Nat.sub_self, List.getElem?_replicate, if_pos (by omega)]
                · subst hy
                  rw [wrap_ok (by omega) (by omega), sI_nat, sI_nat]
                  congr 1
                  rw [List.set_append_right _ _ (by simp; omega), List.length_take, Nat.min_eq_left (by omega), Nat.sub_self, List.set_cons_zero]
                  congr 2
                  rw [List.set_append_right _ _ (by simp; omega), List.length_take, Nat.min_eq_left (by omega), Nat.sub_self, show cols A - j = (cols A - (j + 1)) + 1 by omega, List.replicate_succ, List.set_cons_zero, List.take_add_one, hx]
                  simp
              · obtain rfl : j = row.length := by omega
                rw [List.take_length, show cols A - row.length = 0 by omega]; simp
            · subst hx
              rw [wrap_ok (by omega) (by omega), List.take_add_one, hrow, show A.length - (i + 1) = A.length - i - 1 by omega]
              simp
          · obtain rfl : i = A.length := by omega
            simp
  have := key (fun r => r = if okM A then (A, true) else ([], false)) (fun h => by rw [h]; rfl) (fun h => by rw [h]; rfl)
  unfold P_quadformref03_FromInts at this
  exact this
theorem of_ok {fuel : Nat} {A : List (List Int)} (hr : ∀ z ∈ A, ∀ x ∈ z, -9223372036854775808 ≤ x ∧ x ≤ 9223372036854775807) (hf : 17 < fuel) : P_quadformref03_Of fuel A = some (if okM A then A else []) := by
  unfold P_quadformref03_Of
  rw [fromInts_ok hr hf]
  cases okM A <;> rfl
end Go.Proofs.YtdlfineibanppaaDoor


/-
  The determinant of the reference, plain: that of the matrix. Conditions stand in each statement.
-/
namespace Go.Proofs.YtdlfineibanppaaDoor
open Go Go.QF
set_option linter.unusedVariables false
set_option linter.unusedSimpArgs false
def m63 : Nat := 9223372036854775808
def dMax : Nat := dBd m63 17
theorem dMax_ok : 2 * (dMax * dMax) < bigZ := by decide
theorem dMax_pos : 1 ≤ dMax := by decide
theorem mul_lt_big {a b : Nat} (ha : a ≤ dMax) (hb : b ≤ dMax) : a * b < bigZ := by
  have := Nat.mul_le_mul ha hb
  have := dMax_ok
  omega
theorem lt_big {a : Nat} (ha : a ≤ dMax) : a < bigZ := by
  have h1 := dMax_ok
  have h2 := Nat.mul_le_mul dMax_pos (Nat.le_refl dMax)
  omega
theorem dBd_le {n : Nat} (hn : n ≤ 16) : dBd m63 n ≤ dMax ∧ dBd m63 (n + 1) ≤ dMax := ⟨dBd_mono (by decide) (by omega), dBd_mono (by decide) (by omega)⟩
theorem sig_zero {z : Int} : sigZ z = 0 ↔ z = 0 := by
  unfold sigZ
  split
  · omega
  · split <;> omega
theorem zMul_big {fuel : Nat} {a b : Int} (ha : a.natAbs ≤ dMax) (hb : b.natAbs ≤ dMax) : zMulP fuel a b = some (a * b) := if_pos (mul_lt_big ha hb)
theorem mul_big2 {a b : Int} (ha : a.natAbs ≤ dMax) (hb : b.natAbs ≤ dMax) : (a * b).natAbs < bigZ := by rw [Int.natAbs_mul]; exact mul_lt_big ha hb
theorem sub_big {a b c d : Int} (ha : a.natAbs ≤ dMax) (hb : b.natAbs ≤ dMax) (hc : c.natAbs ≤ dMax) (hd : d.natAbs ≤ dMax) : (a * b - c * d).natAbs < bigZ := by
  have h1 := Nat.mul_le_mul ha hb
  have h2 := Nat.mul_le_mul hc hd
  rw [← Int.natAbs_mul] at h1 h2
  have := dMax_ok
  omega
theorem sI_tab {r c i j : Nat} {F : Nat → Nat → Int} {x : Int} : sI (tab r c F) (i : Int) (sI (rowL c (F i)) (j : Int) x) = tab r c (setF F i fun q => if q = j then x else F i q) := by
  rw [sI_nat, sI_nat, rowL_set]; exact tab_setE
theorem det_ok {fuel n : Nat} {F : Nat → Nat → Int} (hn : n ≤ 16) (hb : ∀ i j, (F i j).natAbs ≤ m63) (hf : 17 < fuel) : P_quadformref03_Determinant fuel (tab n n F) = some (det n F) := by
  apply ok_eq
  unfold P_quadformref03_Determinant
  refine ok_bind (ok_of (copy_ok (by rw [tab_len]; omega) (fun z hz => by rw [tab_rows z hz]; omega) (by rw [tab_len]; omega))) fun A hA => ?_
  subst hA
  refine ok_bind (Q := (· = 1)) ⟨1, if_pos (by omega), rfl⟩ fun one h1 => ?_
  subst h1
  obtain ⟨hD, hD1⟩ := dBd_le hn
  refine ok_bind (ok_iter (fun k s => ∃ G last neg, s = (neg, ((k : Int), tab n n G, last)) ∧ BInv m63 F n k G last neg) n (Q := fun ex => match ex with | .inl e => e = det n F | .inr (neg, last) => det n F = if neg then -last else last) ⟨F, 1, false, rfl, binv_start hb⟩ (by omega) fun k s hk hI => ?_) fun ex hex => ?_
  · obtain ⟨G, last, neg, rfl, hB⟩ := hI
    unfold P_quadformref03_Determinant_b1
    dsimp only
    rw [tab_len]
    refine ok_if (fun h => ?_) (fun h => ok_some ?_)
    · have hk' : k < n := by omega
      refine ok_bind (Q := fun ex => match ex with | .inl e => e = det n F | .inr (neg', a', last') => ∃ G', a' = tab n n G' ∧ BInv m63 F n (k + 1) G' last' neg') ?_ fun ex hex => ?_
      · refine ok_bind (Q := fun (e : Int) => ∃ p : Nat, e = p ∧ k ≤ p ∧ p ≤ n ∧ (∀ i, k ≤ i → i < p → G i k = 0) ∧ (p < n → G p k ≠ 0)) (ok_bind (ok_iter (fun j (s : Int) => s = ((k + j : Nat) : Int) ∧ k + j ≤ n ∧ ∀ i, k ≤ i → i < k + j → G i k = 0) (n - k) (Q := fun (e : Int) => ∃ p : Nat, e = p ∧ k ≤ p ∧ p ≤ n ∧ (∀ i, k ≤ i → i < p → G i k = 0) ∧ (p < n → G p k ≠ 0)) ⟨rfl, by omega, fun i h1 h2 => by omega⟩ (by omega) fun j s hj hJ => ?_) fun e he => ok_some he) fun e he => ?_
        · obtain ⟨rfl, hjn, hz⟩ := hJ
          unfold P_quadformref03_Determinant_b4
          rw [tab_len]
          refine ok_bind (Q := fun ex => match ex with | .inl _ => k + j < n ∧ G (k + j) k = 0 | .inr _ => k + j < n → G (k + j) k ≠ 0) (ok_if (fun h2 => ok_get (tab_get (by omega)) rfl (ok_get (rowL_get (by omega)) rfl (ok_bind (ok_of (a := sigZ (G (k + j) k)) rfl) fun sg hsg => ok_if (fun h3 => ok_some ⟨by omega, ?_⟩) fun h3 => ok_some fun _ => ?_))) fun h2 => ok_some fun h3 => by omega) fun ex hex => ?_
          · subst hsg; exact sig_zero.1 h3
          · subst hsg; exact fun h4 => h3 (sig_zero.2 h4)
          · cases ex with
            | inl u => exact ok_some ⟨by omega, by rw [wrap_ok (by omega) (by omega)]; omega, by omega, fun i h1 h2 => by
                rcases Nat.lt_or_ge i (k + j) with h3 | h3
                · exact hz i h1 h3
                · obtain rfl : i = k + j := by omega
                  exact hex.2⟩
            | inr u => exact ok_some ⟨k + j, rfl, by omega, hjn, hz, hex⟩
        · obtain ⟨p, rfl, hkp, hpn, hz, hp⟩ := he
          refine ok_if (fun h2 => ok_some ?_) (fun h2 => ?_)
          · obtain rfl : p = n := by omega
            exact (binv_none hB hk' hz).symm
          · have hp' : p < n := by omega
            refine ok_bind (Q := fun (r : Bool × List (List Int)) => ∃ G', r.2 = tab n n G' ∧ BInv m63 F n k G' last r.1 ∧ G' k k ≠ 0) (ok_if (fun h3 => ok_get (tab_get (by omega)) rfl (ok_get (tab_get (by omega)) rfl (ok_some ⟨swapF G p k, ?_, binv_swap hB (by omega) hp', ?_⟩))) fun h3 => ok_some ⟨G, rfl, hB, ?_⟩) fun r hr => ?_
            · dsimp only
              rw [sI_nat, sI_nat]
              show ((tab n n G).set p (rowL n (G k))).set k (rowL n (G p)) = _
              rw [show rowL n (G k) = (List.range n).map (G k) from rfl, show rowL n (G p) = (List.range n).map (G p) from rfl, tab_setF, tab_setF]
              rfl
            · rw [swapF_app, if_pos rfl]; exact hp hp'
            · obtain rfl : p = k := by omega
              exact hp hp'
            · obtain ⟨neg2, a2⟩ := r
              obtain ⟨G2, hG2, hB2, hne⟩ := hr
              dsimp only at hG2 hB2 ⊢
              subst hG2
              have hlast := binv_last (by decide) hB2 (by omega)
              have habs : ∀ i j, k ≤ i → i < n → k ≤ j → j < n → (G2 i j).natAbs ≤ dMax := fun i j h1 h2 h3 h4 => Nat.le_trans (binv_abs (by decide) hB2 hk' h1 h2 h3 h4).1 hD
              have hl' : last.natAbs ≤ dMax := Nat.le_trans hlast.2 hD
              rw [wrap_ok (by omega) (by omega)]
              refine ok_bind (ok_iter (fun i s => s = (((k + 1 + i : Nat) : Int), tab n n (bF k G2 last (k + 1 + i) (k + 1))) ∧ k + 1 + i ≤ n) (n - (k + 1)) (Q := (· = tab n n (bF k G2 last n (k + 1)))) ⟨by rw [Nat.add_zero, bF_start]; simp, by omega⟩ (by omega) fun i s hi hI => ?_) fun a3 ha3 => ?_
              · obtain ⟨rfl, hin⟩ := hI
                unfold P_quadformref03_Determinant_b7
                dsimp only
                rw [tab_len]
                obtain ⟨q, hq⟩ : ∃ q, k + 1 + i = q := ⟨_, rfl⟩
                rw [hq] at hin ⊢
                refine ok_if (fun h3 => ?_) (fun h3 => ok_some ?_)
                · have hqn : q < n := by omega
                  rw [wrap_ok (by omega) (by omega)]
                  refine ok_bind (ok_iter (fun j s => s = (((k + 1 + j : Nat) : Int), tab n n (bF k G2 last q (k + 1 + j))) ∧ k + 1 + j ≤ n) (n - (k + 1)) (Q := (· = tab n n (bF k G2 last q n))) ⟨by simp, by omega⟩ (by omega) fun j s hj hJ => ?_) fun a4 ha4 => ok_some ?_
                  · obtain ⟨rfl, hjn⟩ := hJ
                    unfold P_quadformref03_Determinant_b8
                    dsimp only
                    rw [tab_len]
                    obtain ⟨c, hc⟩ : ∃ c, k + 1 + j = c := ⟨_, rfl⟩
                    rw [hc] at hjn ⊢
                    refine ok_if (fun h4 => ?_) (fun h4 => ok_some ?_)
                    · have hcn : c < n := by omega
                      refine ok_get (tab_get hqn) rfl (ok_get (tab_get hk') rfl (ok_get (rowL_get hk') rfl (ok_get (rowL_get hcn) rfl ?_)))
                      rw [bF_kk, bF_ij]
                      refine ok_bind (ok_of (zMul_big (habs _ _ (by omega) (by omega) (by omega) (by omega)) (habs _ _ (by omega) (by omega) (by omega) (by omega)))) fun x1 hx1 => ok_get (rowL_get hk') rfl (ok_get (rowL_get hcn) rfl ?_)
                      subst hx1
                      rw [bF_ck, bF_kk]
                      refine ok_bind (ok_of (zMul_big (habs _ _ (by omega) (by omega) (by omega) (by omega)) (habs _ _ (by omega) (by omega) (by omega) (by omega)))) fun x2 hx2 => ?_
                      subst hx2
                      refine ok_bind (Q := (· = G2 k k * G2 q c - G2 q k * G2 k c)) ⟨_, if_pos ⟨mul_big2 (habs _ _ (by omega) (by omega) (by omega) (by omega)) (habs _ _ (by omega) (by omega) (by omega) (by omega)), mul_big2 (habs _ _ (by omega) (by omega) (by omega) (by omega)) (habs _ _ (by omega) (by omega) (by omega) (by omega))⟩, rfl⟩ fun x3 hx3 => ?_
                      · subst hx3
                        refine ok_bind (Q := (· = bQ k G2 last q c)) ?_ fun x4 hx4 => ok_some ⟨by omega, ?_, by omega⟩
                        · unfold P_quadformref01_Quo zDivModP
                          rw [if_pos ⟨sub_big (habs _ _ (by omega) (by omega) (by omega) (by omega)) (habs _ _ (by omega) (by omega) (by omega) (by omega)) (habs _ _ (by omega) (by omega) (by omega) (by omega)) (habs _ _ (by omega) (by omega) (by omega) (by omega)), lt_big hl', hlast.1⟩]
                          exact ⟨_, rfl, rfl⟩
                        · subst hx4
                          rw [wrap_ok (by omega) (by omega), sI_tab, bF_set k G2 last (by omega) (by omega)]
                          congr 1
                          · omega
                          · rw [← Nat.add_assoc, hc]
                    · obtain rfl : c = n := by omega
                      rfl
                  · subst ha4
                    refine ⟨by omega, ?_, by omega⟩
                    rw [wrap_ok (by omega) (by omega)]
                    congr 1
                    · omega
                    · refine tab_congr fun r c hr hc => ?_
                      rw [bF_row k n G2 last q hc, ← Nat.add_assoc, hq]
                · obtain rfl : q = n := by omega
                  rfl
              · subst ha3
                refine ok_get (tab_get hk') rfl (ok_get (rowL_get hk') rfl (ok_some ⟨_, rfl, ?_⟩))
                rw [bF_kk]
                exact binv_step hB2 hk' hne
      · match ex, hex with
        | .inl e, hex => exact ok_some hex
        | .inr (neg', a', last'), hex =>
          obtain ⟨G', rfl, hB'⟩ := hex
          exact ok_some ⟨hk', G', last', neg', by rw [wrap_ok (by omega) (by omega)]; rfl, hB'⟩
    · obtain rfl : k = n := by omega
      exact binv_end hB
  · match ex, hex with
    | .inl e, hex => exact ok_some hex
    | .inr (neg, last), hex =>
      dsimp only at hex ⊢
      rw [hex]
      refine ok_if (fun h => ok_bind (ok_of (a := -last) rfl) fun x hx => ok_some ?_) (fun h => ok_some ?_)
      · rw [hx, h]; rfl
      · rw [if_neg h]
end Go.Proofs.YtdlfineibanppaaDoor


/-
  What the functions of quadformref22, quadformref23 and of law 23 answer, plain. Conditions stand in each statement.
-/
namespace Go.Proofs.YtdlfineibanppaaDoor
open Go Go.QF
set_option linter.unusedVariables false
set_option linter.unusedSimpArgs false
theorem mod_ok {fuel : Nat} {a m : Int} (hm : 0 < m) (hm2 : m ≤ 2147483647) : P_quadformref22_Mod fuel a m = some (a % m) := by
  unfold P_quadformref22_Mod
  rw [if_pos (by omega)]
  have h1 := Int.tmod_lt_of_pos a hm
  have h2 : -m < Int.tmod a m := by
    have := Int.tmod_lt_of_pos (-a) hm
    rw [Int.neg_tmod] at this; omega
  have h3 : Int.tmod a m = a % m ∨ Int.tmod a m = a % m - m := by
    rcases Int.lt_or_le a 0 with h | h
    · have e1 : Int.tmod a m = -((-a) % m) := by rw [show a = -(-a) by omega, Int.neg_tmod, Int.tmod_eq_emod_of_nonneg (by omega)]; simp
      rcases Int.lt_or_eq_of_le (Int.emod_nonneg (-a) (by omega : m ≠ 0)) with h4 | h4
      · right
        rw [e1]
        have := Int.emod_add_mul_ediv (-a) m
        have h5 : a % m = m - (-a) % m := by
          have h6 := Int.emod_lt_of_pos (-a) hm
          have e : a = (m - (-a) % m) + m * (-(-a / m) - 1) := by
            have e0 : m * (-(-a / m) - 1) = -(m * (-a / m)) - m := by rw [Int.mul_sub, Int.mul_neg, Int.mul_one]
            omega
          conv => lhs; rw [e]
          rw [Int.add_mul_emod_self_left, Int.emod_eq_of_lt (by omega) (by omega)]
        omega
      · left
        rw [e1, ← h4]
        have : m ∣ -a := Int.dvd_of_emod_eq_zero h4.symm
        have : m ∣ a := (Int.dvd_neg).1 this
        rw [Int.emod_eq_zero_of_dvd this]; rfl
    · left; exact Int.tmod_eq_emod_of_nonneg h
  have h4 := Int.emod_nonneg a (by omega : m ≠ 0)
  have h5 := Int.emod_lt_of_pos a hm
  rcases h3 with h3 | h3
  · rw [if_neg (by omega), h3]
  · rw [if_pos (by omega), wrap_ok (by omega) (by omega)]
    congr 1; omega
theorem large_P {fuel : Nat} {A : List (List Int)} (hf : 21 < fuel) : P_quadformlaw23_large fuel A = some (largeB A) := by
  apply ok_eq
  unfold P_quadformlaw23_large
  refine ok_if (fun h => ok_some ?_) fun h => ?_
  · symm; unfold largeB; rw [decide_eq_true_eq]; left; omega
  refine ok_bind (ok_iter (fun i (s : Int) => s = (i : Int) ∧ ∀ z ∈ A.take i, ¬ 20 < z.length) A.length (Q := fun ex => match ex with | .inl e => e = true ∧ largeB A = true | .inr _ => largeB A = false) ⟨rfl, by simp⟩ (by omega) fun i s hi hI => ?_) fun ex hex => ?_
  · obtain ⟨rfl, hI⟩ := hI
    unfold P_quadformlaw23_large_b1
    refine ok_if (fun h2 => ?_) (fun h2 => ok_some ?_)
    · have hi' : i < A.length := by omega
      obtain ⟨row, hrow⟩ : ∃ row, A[i]? = some row := ⟨A[i], List.getElem?_eq_getElem hi'⟩
      refine ok_get hrow rfl (ok_if (fun h3 => ok_some ⟨rfl, ?_⟩) fun h3 => ok_some ⟨hi', wrap_ok (by omega) (by omega), ?_⟩)
      · unfold largeB; rw [decide_eq_true_eq]; exact .inr ⟨row, List.mem_of_getElem? hrow, by omega⟩
      · rw [List.take_add_one, hrow]
        intro z hz
        rcases List.mem_append.1 hz with hz | hz
        · exact hI z hz
        · rw [show z = row by simpa using hz]; omega
    · obtain rfl : i = A.length := by omega
      rw [List.take_length] at hI
      unfold largeB; rw [decide_eq_false_iff_not]
      rintro (h3 | ⟨z, hz, h3⟩)
      · omega
      · exact hI z hz h3
  · cases ex with
    | inl e => exact ok_some (hex.1.trans hex.2.symm)
    | inr u => exact ok_some hex.symm
theorem valid_P {fuel : Nat} {A : List (List Int)} (hf : 21 < fuel) : P_quadformref23_Valid fuel A = some (validB A) := by
  apply ok_eq
  unfold P_quadformref23_Valid
  have hbad : ∀ h : ¬ Valid A, validB A = false := fun h => (validB_f h).symm
  refine ok_bind (Q := fun ex => match ex with | .inl e => e = false ∧ validB A = false | .inr _ => 1 ≤ A.length ∧ A.length ≤ 16) (ok_if (fun h => ok_some ⟨rfl, hbad fun hv => by have := hv.1; omega⟩) fun h => ok_if (fun h2 => ok_some ⟨rfl, hbad fun hv => by have := hv.2.1; omega⟩) fun h2 => ok_some ⟨by omega, by omega⟩) fun ex hex => ?_
  cases ex with
  | inl e => exact ok_some (hex.1.trans hex.2.symm)
  | inr u =>
    dsimp only at hex ⊢
    obtain ⟨z0, hz0⟩ : ∃ z, A[0]? = some z := ⟨A[0]'(by omega), List.getElem?_eq_getElem _⟩
    have hc := cols_some hz0
    refine ok_bind (ok_iter (fun i (s : Int) => s = (i : Int) ∧ ∀ z ∈ A.take i, 1 ≤ z.length ∧ z.length ≤ 16 ∧ z.length = cols A) A.length (Q := fun ex => match ex with | .inl e => e = false ∧ validB A = false | .inr _ => validB A = true) ⟨rfl, by simp⟩ (by omega) fun i s hi hI => ?_) fun ex hex2 => ?_
    · obtain ⟨rfl, hI⟩ := hI
      unfold P_quadformref23_Valid_b2
      refine ok_if (fun h => ?_) (fun h => ok_some ?_)
      · have hi' : i < A.length := by omega
        obtain ⟨row, hrow⟩ : ∃ row, A[i]? = some row := ⟨A[i], List.getElem?_eq_getElem hi'⟩
        have bad : ¬ (1 ≤ row.length ∧ row.length ≤ 16 ∧ row.length = cols A) → validB A = false := fun hb => hbad fun hv => hb (by have := hv.2.2.2.2 row (List.mem_of_getElem? hrow); have := hv.2.2.1; have := hv.2.2.2.1; omega)
        refine ok_get hrow rfl (ok_get hz0 rfl (ok_if (fun h1 => ok_some ⟨rfl, bad (by omega)⟩) fun h1 => ok_if (fun h2 => ok_some ⟨rfl, bad (by omega)⟩) fun h2 => ok_if (fun h3 => ok_some ⟨rfl, bad (by omega)⟩) fun h3 => ok_some ⟨hi', wrap_ok (by omega) (by omega), ?_⟩))
        rw [List.take_add_one, hrow]
        intro z hz
        rcases List.mem_append.1 hz with hz | hz
        · exact hI z hz
        · rw [show z = row by simpa using hz]; omega
      · obtain rfl : i = A.length := by omega
        rw [List.take_length] at hI
        refine (validB_t ⟨hex.1, hex.2, ?_, ?_, fun z hz => (hI z hz).2.2⟩).symm
        · have := hI z0 (List.mem_of_getElem? hz0); omega
        · have := hI z0 (List.mem_of_getElem? hz0); omega
    · cases ex with
      | inl e => exact ok_some (hex2.1.trans hex2.2.symm)
      | inr u => exact ok_some hex2.symm
theorem red_row_P {fuel : Nat} {row : List Int} {m : Int} (hm : 0 < m) (hm2 : m ≤ 2147483647) (hl : row.length ≤ 100000000) (hf : row.length < fuel) : iter (fun s => P_quadformref23_Reduce_b2 fuel m row s.1 s.2) fuel ([], 0) = some (row.map (· % m)) := by
  apply ok_eq
  refine ok_iter (fun i s => s = ((row.take i).map (· % m), (i : Int))) row.length (by simp) hf fun i s hi hI => ?_
  subst hI
  unfold P_quadformref23_Reduce_b2
  dsimp only
  refine ok_if (fun h => ?_) (fun h => ok_some ?_)
  · obtain ⟨x, hx⟩ : ∃ x, row[i]? = some x := ⟨row[i]'(by omega), List.getElem?_eq_getElem _⟩
    refine ok_get hx rfl (ok_bind (ok_of (mod_ok hm hm2)) fun y hy => ok_need (by simp; omega) (ok_some ⟨by omega, ?_⟩))
    subst hy
    rw [wrap_ok (by omega) (by omega), List.take_add_one, hx]
    simp
  · obtain rfl : i = row.length := by omega
    rw [List.take_length]
theorem reduce_P {fuel : Nat} {A : List (List Int)} {m : Int} (hm : 0 < m) (hm2 : m ≤ 2147483647) (hl : A.length ≤ 100000000) (hf : A.length < fuel) (hr : ∀ z ∈ A, z.length ≤ 100000000 ∧ z.length < fuel) : P_quadformref23_Reduce fuel A m = some (redM A m) := by
  apply ok_eq
  unfold P_quadformref23_Reduce
  refine ok_bind (ok_iter (fun i s => s = (redM (A.take i) m, (i : Int))) A.length (Q := (· = redM A m)) (by simp [redM]) hf fun i s hi hI => ?_) fun x hx => ok_some hx
  subst hI
  unfold P_quadformref23_Reduce_b1
  dsimp only
  refine ok_if (fun h => ?_) (fun h => ok_some ?_)
  · have hi' : i < A.length := by omega
    obtain ⟨row, hrow⟩ : ∃ row, A[i]? = some row := ⟨A[i], List.getElem?_eq_getElem hi'⟩
    have := hr row (List.mem_of_getElem? hrow)
    refine ok_get hrow rfl (ok_bind (ok_of (red_row_P hm hm2 this.1 this.2)) fun y hy => ok_need (by simp [redM]; omega) (ok_some ⟨hi', ?_⟩))
    subst hy
    rw [wrap_ok (by omega) (by omega), List.take_add_one, hrow]
    simp [redM]
  · obtain rfl : i = A.length := by omega
    rw [List.take_length]
theorem modulus_P {fuel : Nat} {m : Int} : P_quadformref23_modulus fuel m = some (modB m) := by
  unfold P_quadformref23_modulus modB
  split
  · congr 1; simp; omega
  · congr 1; symm; simp; omega
theorem square_P {fuel : Nat} {A : List (List Int)} (hf : 21 < fuel) : P_quadformref23_square fuel A = some (squareB A) := by
  apply ok_eq
  unfold P_quadformref23_square
  refine ok_bind (ok_of (valid_P hf)) fun v hv => ?_
  subst hv
  refine ok_if (fun h => ?_) (fun h => ok_some ?_)
  · have hv : Valid A := by simpa [validB] using h
    obtain ⟨z0, hz0⟩ : ∃ z, A[0]? = some z := ⟨A[0]'(by have := hv.1; omega), List.getElem?_eq_getElem _⟩
    have hc := cols_some hz0
    refine ok_get hz0 rfl (ok_if (fun h2 => ok_some ?_) (fun h2 => ok_some ?_))
    · unfold squareB
      rw [Bool.eq_iff_iff]
      simp only [decide_eq_true_eq]
      constructor
      · intro h3; exact ⟨hv, by omega, by omega⟩
      · intro h3; have := h3.2.2; omega
    · symm; unfold squareB; rw [decide_eq_false_iff_not]; intro h3; have := h3.2.1; omega
  · symm; unfold squareB; rw [decide_eq_false_iff_not]; intro h3; exact h (by simpa [validB] using h3.1)
theorem residue_P {fuel : Nat} {d m : Int} (hm : 0 < m) (hm2 : m ≤ 2147483647) (hd : d.natAbs < bigZ) : P_quadformref22_Residue fuel d m = some (d % m) := by
  have h4 := Int.emod_nonneg d (by omega : m ≠ 0)
  have h5 := Int.emod_lt_of_pos d hm
  have hb : m.natAbs < bigZ := Nat.lt_of_lt_of_le (show m.natAbs < 2147483648 by omega) (by decide)
  unfold P_quadformref22_Residue zSmallP
  rw [if_pos (by omega)]
  show (P_quadformref01_Rem fuel d m).bind _ = _
  unfold P_quadformref01_Rem zDivModP
  rw [if_pos ⟨hd, hb, by omega⟩]
  show (zInt64P fuel (d % m)).bind _ = _
  unfold zInt64P
  rw [if_pos (by omega)]
  rfl
theorem ent_red_abs {A : List (List Int)} {m : Int} (hm : 0 < m) (hm2 : m ≤ 2147483647) (i j : Nat) : (ent (redM A m) i j).natAbs ≤ m63 := by
  rw [ent_red]
  have h4 := Int.emod_nonneg (ent A i j) (by omega : m ≠ 0)
  have h5 := Int.emod_lt_of_pos (ent A i j) hm
  unfold m63; omega
theorem red_square {A : List (List Int)} {m : Int} (h : squareB A = true) : redM A m = tab A.length A.length (ent (redM A m)) ∧ okM (redM A m) = true ∧ A.length ≤ 8 ∧ 1 ≤ A.length := by
  have hs : Square A := by simpa [squareB] using h
  obtain ⟨hv, h1, h2⟩ := hs
  have hr : ∀ z ∈ redM A m, z.length = A.length := fun z hz => by
    obtain ⟨y, hy, rfl⟩ := List.mem_map.1 hz
    rw [List.length_map, hv.2.2.2.2 y hy]; omega
  refine ⟨?_, ?_, h2, hv.1⟩
  · have := tab_eq hr
    rwa [red_len] at this
  · unfold okM
    rw [decide_eq_true_eq, red_len]
    refine ⟨hv.1, by omega, fun z hz => ?_⟩
    rw [hr z hz, cols_red]
    exact ⟨hv.1, by omega, h1⟩
theorem refdet_val {fuel : Nat} {A : List (List Int)} {m : Int} (hf : 21 < fuel) (hs : squareB A = true) (hm : modB m = true) : P_quadformref23_determinant fuel (redM A m) = some (det A.length (ent (redM A m))) := by
  have hm' : 2 ≤ m ∧ m ≤ 2147483647 := by simpa [modB] using hm
  obtain ⟨ht, hok, h8, h1⟩ := red_square (m := m) hs
  unfold P_quadformref23_determinant
  have hr : ∀ z ∈ redM A m, ∀ x ∈ z, -9223372036854775808 ≤ x ∧ x ≤ 9223372036854775807 := fun z hz x hx => by
    obtain ⟨y, hy, rfl⟩ := List.mem_map.1 hz
    obtain ⟨w, hw, rfl⟩ := List.mem_map.1 hx
    have h4 := Int.emod_nonneg w (by omega : m ≠ 0)
    have h5 := Int.emod_lt_of_pos w (by omega : 0 < m)
    omega
  rw [of_ok hr (by omega), hok]
  show (P_quadformref03_Determinant fuel (redM A m)).bind _ = _
  have := det_ok (fuel := fuel) (n := A.length) (F := ent (redM A m)) (by omega) (fun i j => ent_red_abs (by omega) (by omega) i j) (by omega)
  rw [← ht] at this
  rw [this]; rfl
theorem det_big {A : List (List Int)} {m : Int} {n : Nat} (hm : 0 < m) (hm2 : m ≤ 2147483647) (hn : n ≤ 16) : (det n (ent (redM A m))).natAbs < bigZ := lt_big (Nat.le_trans (det_abs fun i j => ent_red_abs hm hm2 i j) (dBd_le hn).1)
theorem det_red_mod {A : List (List Int)} {m : Int} {n : Nat} : det n (ent (redM A m)) % m = det n (ent A) % m := det_eqm fun i j _ _ => by rw [ent_red]; exact Eqm.mod _ _
theorem refDet_P {fuel : Nat} {A : List (List Int)} {m : Int} (hf : 21 < fuel) (hA : largeB A = false) : P_quadformref23_Det fuel A m = some (detS A m, detE A m) := by
  have hl : A.length ≤ 20 ∧ ∀ z ∈ A, z.length ≤ 20 := by
    unfold largeB at hA
    rw [decide_eq_false_iff_not] at hA
    exact ⟨by omega, fun z hz => Nat.le_of_not_lt fun h => hA (.inr ⟨z, hz, h⟩)⟩
  apply ok_eq
  unfold P_quadformref23_Det detS detE
  refine ok_bind (ok_of (square_P hf)) fun v hv => ?_
  subst hv
  cases hs : squareB A with
  | false => exact ok_some rfl
  | true =>
    refine ok_if (fun h => by cases h) fun _ => ok_bind (ok_of modulus_P) fun v hv => ?_
    subst hv
    cases hm : modB m with
    | false => exact ok_some rfl
    | true =>
      have hm' : 2 ≤ m ∧ m ≤ 2147483647 := by simpa [modB] using hm
      refine ok_if (fun h => by cases h) fun _ => ok_bind (ok_of (reduce_P (by omega) (by omega) (by omega) (by omega) fun z hz => by have := hl.2 z hz; omega)) fun R hR => ?_
      subst hR
      refine ok_bind (ok_of (refdet_val hf hs hm)) fun d hd => ?_
      subst hd
      obtain ⟨ht, hok, h8, h1⟩ := red_square (m := m) hs
      refine ok_bind (ok_of (residue_P (by omega) (by omega) (det_big (by omega) (by omega) (by omega)))) fun x hx => ok_some ?_
      subst hx
      rw [det_red_mod]; rfl
end Go.Proofs.YtdlfineibanppaaDoor


/-
  Grid.Ints makes a matrix of the size asked for, plain. Conditions stand in each statement.
-/
namespace Go.Proofs.YtdlfineibanppaaDoor
open Go Go.QF
set_option linter.unusedVariables false
set_option linter.unusedSimpArgs false
theorem mem_set_len {A : List (List Int)} {i : Nat} {r : List Int} {m : Nat} (h : ∀ z ∈ A, z.length ≤ m) (hr : r.length ≤ m) : ∀ z ∈ A.set i r, z.length ≤ m := fun z hz => by
  rcases List.mem_or_eq_of_mem_set hz with h1 | h1
  · exact h z h1
  · rw [h1]; exact hr
theorem ints_P {fuel r c q : Nat} {Z : List Int} (hr : r < 256) (hc : c < 256) (hq : 1 ≤ q) (hq2 : q ≤ 20) (hf : 30 < fuel) : Ok (P_quadformmake_Grid_Ints fuel r c Z q) fun M => M.length = 1 + r % q ∧ ∀ z ∈ M, z.length ≤ q := by
  have hrq := Nat.mod_lt r (show 0 < q by omega)
  have hcq := Nat.mod_lt c (show 0 < q by omega)
  have er : w64 (1 + Int.tmod (w64 (r : Int)) (q : Int)) = ((1 + r % q : Nat) : Int) := by
    rw [wrap_ok (x := (r : Int)) (by omega) (by omega), Int.tmod_eq_emod_of_nonneg (by omega), ← Int.natCast_emod, wrap_ok (by omega) (by omega)]; simp
  have ec : w64 (1 + Int.tmod (w64 (c : Int)) (q : Int)) = ((1 + c % q : Nat) : Int) := by
    rw [wrap_ok (x := (c : Int)) (by omega) (by omega), Int.tmod_eq_emod_of_nonneg (by omega), ← Int.natCast_emod, wrap_ok (by omega) (by omega)]; simp
  obtain ⟨n, hn⟩ : ∃ n, 1 + r % q = n := ⟨_, rfl⟩
  obtain ⟨m, hm⟩ : ∃ m, 1 + c % q = m := ⟨_, rfl⟩
  unfold P_quadformmake_Grid_Ints
  rw [er, hn, Int.toNat_natCast]
  refine ok_need (by omega) (ok_need (by omega) (ok_bind (ok_iter (fun i s => ∃ (at_ : Nat) (out : List (List Int)), s = ((i : Int), (at_ : Int), out) ∧ at_ ≤ 20 * i ∧ out.length = n ∧ ∀ z ∈ out, z.length ≤ q) n (Q := fun M => M.length = n ∧ ∀ z ∈ M, z.length ≤ q) ⟨0, _, rfl, by omega, by simp, fun z hz => by rw [List.eq_of_mem_replicate hz]; simp⟩ (by omega) fun i s hi hI => ?_) fun x hx => ok_some hx))
  obtain ⟨at_, out, rfl, ha, ho, hz⟩ := hI
  unfold P_quadformmake_Grid_Ints_b1
  dsimp only
  rw [er, ec, hm, hn, Int.toNat_natCast, Int.toNat_natCast, List.length_replicate]
  refine ok_if (fun h => ?_) (fun h => ok_some ⟨ho, hz⟩)
  have hi' : i < n := by omega
  refine ok_need (by omega) (ok_need (by omega) (ok_get (n := i) (x := out[i]'(by omega)) (List.getElem?_eq_getElem _) rfl ?_))
  rw [sI_nat]
  refine ok_get (n := i) (x := List.replicate m 0) (List.getElem?_set_self (by omega)) rfl ?_
  refine ok_bind (ok_iter (fun j s => ∃ (a : Nat) (o2 : List (List Int)) (row : List Int), s = ((j : Int), (a : Int), o2) ∧ a ≤ at_ + j ∧ o2.length = n ∧ (∀ z ∈ o2, z.length ≤ q) ∧ o2[i]? = some row ∧ row.length = m) m (Q := fun (ex : Int × List (List Int)) => ∃ a : Nat, ex.1 = a ∧ a ≤ at_ + 20 ∧ ex.2.length = n ∧ ∀ z ∈ ex.2, z.length ≤ q) ⟨at_, _, _, rfl, by omega, by simp [ho], mem_set_len hz (by simp; omega), List.getElem?_set_self (by omega), by simp⟩ (by omega) fun j s hj hJ => ?_) fun ex hex => ?_
  · obtain ⟨a, o2, row, rfl, h1, h2, h3, h4, h5⟩ := hJ
    unfold P_quadformmake_Grid_Ints_b2
    dsimp only
    rw [List.length_replicate]
    refine ok_if (fun h6 => ?_) (fun h6 => ok_some ⟨a, rfl, by omega, h2, h3⟩)
    have hj' : j < m := by omega
    refine ok_get h4 rfl (ok_bind (Q := fun (e : Int × Int) => ∃ a' : Nat, e.2 = a' ∧ a' ≤ at_ + (j + 1)) (ok_if (fun h7 => ok_some ⟨a, rfl, by omega⟩) fun h7 => ?_) fun e he => ?_)
    · have ha' : w64 (w64 ((a : Int) + 1) - 1) = (a : Int) := by rw [wrap_ok (x := (a : Int) + 1) (by omega) (by omega), wrap_ok (by omega) (by omega)]; omega
      rw [ha']
      refine ok_get (n := a) (x := Z[a]'(by omega)) (List.getElem?_eq_getElem _) rfl (ok_some ⟨a + 1, ?_, by omega⟩)
      dsimp only
      rw [wrap_ok (x := (a : Int) + 1) (by omega) (by omega)]; rfl
    · obtain ⟨y, w⟩ := e
      obtain ⟨a', h8, h9⟩ := he
      dsimp only at h8 ⊢
      subst h8
      refine ok_get (n := j) (x := row[j]'(by omega)) (List.getElem?_eq_getElem _) rfl (ok_some ⟨hj', a', o2.set i (row.set j y), row.set j y, ?_, h9, ?_, ?_, ?_, ?_⟩)
      · rw [wrap_ok (by omega) (by omega), sI_nat, sI_nat]; rfl
      · rw [List.length_set, h2]
      · exact mem_set_len h3 (by simp; omega)
      · rw [List.getElem?_set_self (by omega)]
      · simp [h5]
  · obtain ⟨e1, e2⟩ := ex
    obtain ⟨a, h1, h2, h3, h4⟩ := hex
    dsimp only at h1 h3 h4 ⊢
    subst h1
    exact ok_some ⟨hi', a, e2, by rw [wrap_ok (by omega) (by omega)]; rfl, by omega, h3, h4⟩
end Go.Proofs.YtdlfineibanppaaDoor


/-
  What the functions that the reference's Inverse reaches answer, plain. Conditions stand in each statement.
-/
namespace Go.Proofs.YtdlfineibanppaaDoor
open Go Go.QF
set_option linter.unusedVariables false
set_option linter.unusedSimpArgs false
/-- The numbers below n without x. -/
def woL (n x : Nat) : List Int := rowL (n - 1) fun a => ((skp x a : Nat) : Int)
theorem woL_push {i x : Nat} (h : i ≠ x) : (if x < i then woL i x else rowL i fun a => (a : Int)) ++ [(i : Int)] = if x < i + 1 then woL (i + 1) x else rowL (i + 1) fun a => (a : Int) := by
  rcases Nat.lt_or_ge x i with h1 | h1
  · rw [if_pos h1, if_pos (by omega)]
    unfold woL
    obtain ⟨k, rfl⟩ : ∃ k, i = k + 1 := ⟨i - 1, by omega⟩
    show rowL k _ ++ _ = rowL (k + 1) _
    rw [← rowL_push]
    congr 2
    unfold skp; rw [if_neg (by omega)]
  · rw [if_neg (by omega), if_neg (by omega), ← rowL_push]
theorem without_P {fuel n x : Nat} (hn : n ≤ 100) (hx : x < n) (hf : 100 < fuel) : P_quadformref03_Without fuel n x = some (woL n x) := by
  apply ok_eq
  unfold P_quadformref03_Without
  refine ok_bind (ok_iter (fun i s => s = (if x < i then woL i x else rowL i fun a => (a : Int), (i : Int))) n (Q := (· = woL n x)) (by simp [rowL]) (by omega) fun i s hi hI => ?_) fun y hy => ok_some hy
  subst hI
  unfold P_quadformref03_Without_b1
  dsimp only
  refine ok_if (fun h => ?_) (fun h => ok_some ?_)
  · refine ok_bind (Q := (· = if x < i + 1 then woL (i + 1) x else rowL (i + 1) fun a => (a : Int))) (ok_if (fun h2 => ok_need ?_ (ok_some (woL_push (by omega)))) fun h2 => ok_some ?_) fun e he => ok_some ⟨by omega, ?_⟩
    · split
      · unfold woL; rw [rowL_len]; omega
      · rw [rowL_len]; omega
    · obtain rfl : i = x := by omega
      rw [if_neg (by omega), if_pos (by omega)]
      unfold woL
      rw [show i + 1 - 1 = i by omega]
      exact rowL_congr fun j hj => by unfold skp; rw [if_pos hj]
    · subst he
      rw [wrap_ok (by omega) (by omega)]; rfl
  · obtain rfl : i = n := by omega
    rw [if_pos hx]
theorem select_P {fuel n r c : Nat} {F : Nat → Nat → Int} {f g : Nat → Nat} (hr : r ≤ 100) (hc : c ≤ 100) (hf : 100 < fuel) (hfn : ∀ a, a < r → f a < n) (hgn : ∀ a, a < c → g a < n) : P_quadformref03_Select fuel (tab n n F) (rowL r fun a => (f a : Int)) (rowL c fun a => (g a : Int)) = some (tab r c fun a b => F (f a) (g b)) := by
  apply ok_eq
  unfold P_quadformref03_Select
  refine ok_bind (ok_iter (fun i s => s = (rowL i fun a => rowL c fun b => F (f a) (g b), (i : Int))) r (Q := (· = tab r c fun a b => F (f a) (g b))) rfl (by omega) fun i s hi hI => ?_) fun y hy => ok_some hy
  subst hI
  unfold P_quadformref03_Select_b1
  dsimp only
  rw [rowL_len]
  refine ok_if (fun h => ?_) (fun h => ok_some ?_)
  · have hi' : i < r := by omega
    refine ok_get (rowL_get hi') rfl (ok_bind (ok_iter (fun j s => s = (rowL j fun b => F (f i) (g b), (j : Int))) c (Q := (· = rowL c fun b => F (f i) (g b))) rfl (by omega) fun j s hj hJ => ?_) fun e he => ok_need (by rw [rowL_len]; omega) (ok_some ⟨hi', ?_⟩))
    · subst hJ
      unfold P_quadformref03_Select_b2
      dsimp only
      rw [rowL_len, rowL_len]
      refine ok_if (fun h2 => ?_) (fun h2 => ok_some ?_)
      · have hj' : j < c := by omega
        refine ok_get (rowL_get hj') rfl (ok_get (tab_get (hfn i hi')) rfl (ok_get (rowL_get (hgn j hj')) rfl (ok_need (by omega) (ok_some ⟨hj', ?_⟩))))
        rw [wrap_ok (by omega) (by omega), ← rowL_push]; rfl
      · obtain rfl : j = c := by omega
        rfl
    · subst he
      rw [wrap_ok (by omega) (by omega), ← rowL_push]; rfl
  · obtain rfl : i = r := by omega
    rfl
theorem shape_tab {fuel n : Nat} {F : Nat → Nat → Int} (hn : 1 ≤ n) (hn2 : n ≤ 16) (hf : 100 < fuel) : P_quadformref03_Square fuel (tab n n F) = some ((n : Int), true) := by
  apply ok_eq
  unfold P_quadformref03_Square
  refine ok_bind (Q := (· = ((n : Int), (n : Int), true))) ?_ fun e he => ?_
  · unfold P_quadformref03_Shape
    rw [tab_len]
    refine ok_bind (Q := fun ex => match ex with | .inl _ => False | .inr _ => True) (ok_if (fun h => by omega) fun h => ok_if (fun h2 => by omega) fun h2 => ok_some trivial) fun ex hex => ?_
    cases ex with
    | inl e => exact hex.elim
    | inr u =>
      dsimp only
      refine ok_bind (ok_iter (fun i (s : Int) => s = i) n (Q := fun ex => match ex with | .inl _ => False | .inr _ => True) rfl (by omega) fun i s hi hI => ?_) fun ex hex => ?_
      · subst hI
        unfold P_quadformref03_Shape_b2
        rw [tab_len]
        refine ok_if (fun h => ok_get (tab_get (by omega)) rfl ?_) fun h => ok_some trivial
        rw [rowL_len]
        refine ok_if (fun h2 => by omega) fun h2 => ok_if (fun h3 => by omega) fun h3 => ok_get (n := 0) (tab_get (by omega)) rfl (ok_if (fun h4 => ?_) fun h4 => ok_some ⟨by omega, wrap_ok (by omega) (by omega)⟩)
        rw [rowL_len] at h4; omega
      · cases ex with
        | inl e => exact hex.elim
        | inr u => exact ok_get (n := 0) (tab_get (by omega)) rfl (ok_some (by rw [rowL_len]))
  · subst he
    dsimp only
    exact ok_if (fun h => by cases h) fun _ => ok_if (fun h => absurd rfl h) fun _ => ok_some rfl
theorem skp_lt2 {x a n : Nat} (hx : x < n) (ha : a < n - 1) : skp x a < n := by unfold skp; split <;> omega
theorem adj_P {fuel n : Nat} {F : Nat → Nat → Int} (hn : 1 ≤ n) (hn2 : n ≤ 16) (hb : ∀ i j, (F i j).natAbs ≤ m63) (hf : 100 < fuel) : P_quadformref03_Adjugate fuel (tab n n F) = some (tab n n (adjF n F), true) := by
  apply ok_eq
  unfold P_quadformref03_Adjugate
  refine ok_bind (ok_of (shape_tab hn hn2 hf)) fun e he => ?_
  subst he
  dsimp only
  refine ok_if (fun h => by cases h) fun _ => ok_bind (ok_of (zero_ok (by omega) (by omega) (by omega))) fun O hO => ?_
  subst hO
  have h0 : List.replicate n (List.replicate n (0 : Int)) = tab n n fun _ _ => 0 := by rw [rowL_rep, rowL_rep]; rfl
  rw [h0]
  refine ok_bind (ok_iter (fun i s => s = ((i : Int), tab n n fun r c => if r < i then adjF n F r c else 0)) n (Q := (· = tab n n (adjF n F))) (by simp) (by omega) fun i s hi hI => ?_) fun y hy => ok_some (by rw [hy])
  subst hI
  unfold P_quadformref03_Adjugate_b1
  dsimp only
  rw [tab_len]
  refine ok_if (fun h => ?_) (fun h => ok_some ?_)
  · have hi' : i < n := by omega
    refine ok_bind (ok_iter (fun j s => s = ((j : Int), tab n n fun r c => if r < i ∨ r = i ∧ c < j then adjF n F r c else 0)) n (Q := (· = tab n n fun r c => if r < i + 1 then adjF n F r c else 0)) ?_ (by omega) fun j s hj hJ => ?_) fun e he => ok_some ⟨hi', ?_⟩
    · congr 1
      refine tab_congr fun r c _ _ => ?_
      by_cases h1 : r < i
      · rw [if_pos h1, if_pos (by omega)]
      · rw [if_neg h1, if_neg (by omega)]
    · subst hJ
      unfold P_quadformref03_Adjugate_b2
      dsimp only
      rw [tab_len]
      refine ok_if (fun h2 => ?_) (fun h2 => ok_some ?_)
      · have hj' : j < n := by omega
        refine ok_bind (ok_of (without_P (by omega) hj' (by omega))) fun w1 hw1 => ok_bind (ok_of (without_P (by omega) hi' (by omega))) fun w2 hw2 => ?_
        subst hw1; subst hw2
        refine ok_bind (ok_of (select_P (n := n) (r := n - 1) (c := n - 1) (F := F) (f := skp j) (g := skp i) (by omega) (by omega) (by omega) (fun a ha => skp_lt2 hj' ha) (fun a ha => skp_lt2 hi' ha))) fun A hA => ?_
        subst hA
        refine ok_bind (ok_of (det_ok (n := n - 1) (by omega) (fun a b => hb _ _) (by omega))) fun d hd => ?_
        subst hd
        have hcof : adjF n F i j = sg j * sg i * det (n - 1) fun a b => F (skp j a) (skp i b) := by
          obtain ⟨k, rfl⟩ : ∃ k, n = k + 1 := ⟨n - 1, by omega⟩
          exact cof_minor hj' hi'
        refine ok_bind (Q := (· = adjF n F i j)) ?_ fun x hx => ?_
        · rw [wrap_ok (x := (i : Int) + j) (by omega) (by omega), Int.tmod_eq_emod_of_nonneg (by omega), hcof, ← sg_add]
          refine ok_if (fun h3 => ok_bind (ok_of (a := _) rfl) fun y hy => ok_some ?_) fun h3 => ok_some ?_
          · subst hy; unfold sg; rw [if_neg (by omega)]; omega
          · unfold sg; rw [if_pos (by omega)]; omega
        · subst hx
          refine ok_get (tab_get hi') rfl (ok_get (rowL_get hj') rfl (ok_some ⟨hj', ?_⟩))
          rw [wrap_ok (by omega) (by omega), sI_tab]
          congr 1
          refine tab_congr fun r c _ _ => ?_
          rw [setF_app]
          by_cases h1 : r = i
          · subst h1
            rw [if_pos rfl]
            by_cases h4 : c = j
            · subst h4; rw [if_pos rfl, if_pos (by omega)]
            · rw [if_neg h4]
              by_cases h5 : c < j
              · rw [if_pos (by omega), if_pos (by omega)]
              · rw [if_neg (by omega), if_neg (by omega)]
          · rw [if_neg h1]
            by_cases h5 : r < i
            · rw [if_pos (by omega), if_pos (by omega)]
            · rw [if_neg (by omega), if_neg (by omega)]
      · obtain rfl : j = n := by omega
        refine tab_congr fun r c hr hc => ?_
        by_cases h5 : r < i + 1
        · rw [if_pos (by omega), if_pos (by omega)]
        · rw [if_neg (by omega), if_neg (by omega)]
    · subst he
      rw [wrap_ok (by omega) (by omega)]; rfl
  · obtain rfl : i = n := by omega
    exact tab_congr fun r c hr _ => by rw [if_pos hr]
end Go.Proofs.YtdlfineibanppaaDoor


/-
  ModularDet, walked.
-/
namespace Go.Proofs.YtdlfineibanppaaDoor
open Go Go.QF
set_option linter.unusedVariables false
set_option linter.unusedSimpArgs false
set_option maxRecDepth 100000
set_option maxHeartbeats 4000000
end Go.Proofs.YtdlfineibanppaaDoor


/-
  The law ModularDet: true for every input.
-/

namespace Go.Proofs.YtdlfineibanppaaDoor
open Go Go.QF
set_option linter.unusedVariables false
theorem large_of {M : List (List Int)} {n : Nat} (h1 : M.length ≤ 20) (h2 : ∀ z ∈ M, z.length ≤ 20) : largeB M = false := by
  unfold largeB; rw [decide_eq_false_iff_not]
  rintro (h | ⟨z, hz, h⟩)
  · omega
  · have := h2 z hz; omega
theorem lawmod_P {fuel : Nat} {k raw : Int} {w : Bool} : ∃ c, P_quadformlaw23_modulus fuel k raw w = some c := by
  unfold P_quadformlaw23_modulus
  cases w
  · exact ⟨_, rfl⟩
  · exact ⟨_, rfl⟩
end Go.Proofs.YtdlfineibanppaaDoor


/-
  The law ModularInverse: true for every input.
-/
namespace Go.Proofs.YtdlfineibanppaaDoor
open Go Go.QF
set_option linter.unusedVariables false
set_option linter.unusedSimpArgs false
/-- A number that divides a unit and the modulus is 1. -/
theorem unit_gcd {m d y : Int} {g : Nat} (hm : 2 ≤ m) (h : IsInv m d y) (h1 : (g : Int) ∣ d) (h2 : (g : Int) ∣ m) : g = 1 := by
  have e := h.2.2
  rw [Int.emod_eq_of_lt (a := 1) (by omega) (by omega)] at e
  have e2 : y * d - m * (y * d / m) = 1 := by have := Int.emod_add_mul_ediv (y * d) m; omega
  have h3 : (g : Int) ∣ 1 := by
    rw [← e2]
    exact Int.dvd_sub (Int.dvd_trans h1 (Int.dvd_mul_left _ _)) (Int.dvd_trans h2 (Int.dvd_mul_right _ _))
  have := Int.eq_one_of_dvd_one (by omega) h3
  omega
theorem gcd_mod {x y : Int} (hx : 0 ≤ x) (hy : 0 ≤ y) : Int.gcd y (x % y) = Int.gcd x y := by
  obtain ⟨X, rfl⟩ := Int.eq_ofNat_of_zero_le hx
  obtain ⟨Y, rfl⟩ := Int.eq_ofNat_of_zero_le hy
  rw [← Int.natCast_emod, Int.gcd_natCast_natCast, Int.gcd_natCast_natCast, Nat.gcd_comm Y (X % Y), ← Nat.gcd_rec, Nat.gcd_comm]
theorem gcd_P {fuel : Nat} {a b : Int} (ha : 0 ≤ a) (hb : 0 ≤ b) (hf : b.toNat + 1 < fuel) : Ok (P_quadformref23_gcd fuel a b) fun g => g = (Int.gcd a b : Int) := by
  unfold P_quadformref23_gcd
  refine ok_bind (ok_iter (fun i s => 0 ≤ s.1 ∧ 0 ≤ s.2 ∧ s.2.toNat + i ≤ b.toNat ∧ Int.gcd s.1 s.2 = Int.gcd a b) b.toNat (Q := fun g => g = (Int.gcd a b : Int)) ⟨ha, hb, by omega, rfl⟩ (by omega) fun i s hi hI => ?_) fun x hx => ok_some hx
  obtain ⟨x, y⟩ := s
  obtain ⟨h1, h2, h3, h4⟩ := hI
  dsimp only at h1 h2 h3 h4 ⊢
  unfold P_quadformref23_gcd_b1
  refine ok_if (fun h => ok_need h (ok_some ⟨by omega, by omega, ?_, ?_, ?_⟩)) fun h => ok_some ?_
  · exact Int.tmod_nonneg _ h1
  · have := Int.tmod_lt_of_pos x (by omega : 0 < y); have := Int.tmod_nonneg y h1; dsimp only; omega
  · dsimp only
    rw [← h4, Int.tmod_eq_emod_of_nonneg h1, gcd_mod h1 h2]
  · have : y = 0 := by omega
    subst this
    rw [← h4, Int.gcd_zero_right]; omega
theorem recip_P {fuel : Nat} {d m : Int} (hd : 0 ≤ d) (hdm : d < m) (hm : 2 ≤ m) (hm2 : m ≤ 2147483647) (hf : 5000000000 < fuel) : Ok (P_quadformref23_Reciprocal fuel d m) fun r => ((∃ y, IsInv m d y) ∧ r = (invM m d, true)) ∨ ((¬ ∃ y, IsInv m d y) ∧ r = (0, false)) := by
  unfold P_quadformref23_Reciprocal
  refine ok_bind (gcd_P hd (by omega) (by omega)) fun g hg => ?_
  subst hg
  have hgd : ((Int.gcd d m : Nat) : Int) ∣ d := Int.gcd_dvd_left ..
  have hgm : ((Int.gcd d m : Nat) : Int) ∣ m := Int.gcd_dvd_right ..
  refine ok_if (fun h => ok_some (.inr ⟨fun ⟨y, hy⟩ => h (by rw [unit_gcd hm hy hgd hgm]; rfl), rfl⟩)) fun h => ?_
  refine ok_bind (ok_iter (fun i (s : Int × Int × Int × Int) => 0 ≤ s.1 ∧ 0 ≤ s.2.1 ∧ s.1 ≤ m ∧ s.2.1.toNat + i ≤ m.toNat ∧ Int.gcd s.1 s.2.1 = Int.gcd d m ∧ (∃ k, s.1 = s.2.2.1 * d + m * k) ∧ (∃ k, s.2.1 = s.2.2.2 * d + m * k) ∧ s.2.2.1 * s.2.2.2 ≤ 0 ∧ (s.2.2.2.natAbs : Int) * s.1 + s.2.2.1.natAbs * s.2.1 = m) m.toNat (Q := fun u => ∃ k, 1 = u * d + m * k) ⟨hd, by dsimp only; omega, by dsimp only; omega, by dsimp only; omega, rfl, ⟨0, by simp⟩, ⟨1, by simp⟩, by simp, by simp⟩ (by omega) fun i s hi hI => ?_) fun u hu => ?_
  · obtain ⟨x, y, u, v⟩ := s
    obtain ⟨h1, h2, h3, h4, h5, ⟨k1, h6⟩, ⟨k2, h7⟩, h8, h9⟩ := hI
    dsimp only at h1 h2 h3 h4 h5 h6 h7 h8 h9 ⊢
    unfold P_quadformref23_Reciprocal_b1
    refine ok_if (fun hy => ok_need hy (ok_some ?_)) fun hy => ok_some ?_
    · have hy0 : 0 < y := by omega
      have hym : y ≤ m := by omega
      obtain ⟨q, hq⟩ : ∃ q, x / y = q := ⟨_, rfl⟩
      have hq0 : 0 ≤ q := hq ▸ Int.ediv_nonneg h1 h2
      have hqx : q ≤ x := hq ▸ Int.ediv_le_self _ h1
      have hmod := Int.emod_add_mul_ediv x y
      rw [hq] at hmod
      have hr0 := Int.emod_nonneg x (by omega : y ≠ 0)
      have hr1 := Int.emod_lt_of_pos x hy0
      obtain ⟨r, hr⟩ : ∃ r, x % y = r := ⟨_, rfl⟩
      rw [hr] at hmod hr0 hr1
      -- the sizes
      have hyq : 0 ≤ y * q := Int.mul_nonneg h2 hq0
      have habs : ((u - q * v).natAbs : Int) = u.natAbs + q * v.natAbs := by
        rcases Int.le_total 0 u with hu | hu
        · rcases Int.lt_or_le 0 v with hv | hv
          · have : u = 0 := by
              rcases Int.lt_or_eq_of_le hu with h | h
              · have := Int.mul_pos h hv; omega
              · exact h.symm
            subst this
            have := Int.mul_nonneg hq0 (Int.le_of_lt hv)
            rw [Int.natAbs_of_nonneg (Int.le_of_lt hv)]; simp; omega
          · have := Int.mul_nonneg hq0 (show 0 ≤ -v by omega)
            rw [Int.mul_neg] at this
            have e : ((v.natAbs : Int)) = -v := by omega
            rw [e, Int.mul_neg]; omega
        · rcases Int.lt_or_le v 0 with hv | hv
          · have : u = 0 := by
              rcases Int.lt_or_eq_of_le hu with h | h
              · have := Int.mul_pos_of_neg_of_neg h hv; omega
              · exact h
            subst this
            have := Int.mul_nonneg hq0 (show 0 ≤ -v by omega)
            rw [Int.mul_neg] at this
            have e : ((v.natAbs : Int)) = -v := by omega
            rw [e, Int.mul_neg]; omega
          · have := Int.mul_nonneg hq0 hv
            rw [Int.natAbs_of_nonneg hv]; omega
      have hnew : ((u - q * v).natAbs : Int) * y + v.natAbs * r = m := by
        rw [habs, ← h9]
        have : r = x - y * q := by omega
        rw [this]; grind
      have hvr : 0 ≤ (v.natAbs : Int) * r := Int.mul_nonneg (by omega) hr0
      have hle : ((u - q * v).natAbs : Int) ≤ m := by
        have : ((u - q * v).natAbs : Int) * 1 ≤ (u - q * v).natAbs * y := Int.mul_le_mul_of_nonneg_left (by omega) (by omega)
        omega
      have hqv : q * v.natAbs ≤ m := by have : (0 : Int) ≤ u.natAbs := by omega
                                        omega
      have hqv1 : q * v ≤ q * v.natAbs := Int.mul_le_mul_of_nonneg_left (by omega) hq0
      have hqv2 : -(q * v.natAbs) ≤ q * v := by
        rw [← Int.mul_neg]; exact Int.mul_le_mul_of_nonneg_left (by omega) hq0
      have e1 : w64 (Int.tdiv x y) = q := by rw [Int.tdiv_eq_ediv_of_nonneg h1, hq]; exact wrap_ok (by omega) (by omega)
      have e2 : w64 (q * y) = q * y := wrap_ok (by rw [Int.mul_comm]; omega) (by rw [Int.mul_comm]; omega)
      have e3 : w64 (q * v) = q * v := wrap_ok (by omega) (by omega)
      rw [e1, e2, e3, wrap_ok (x := x - q * y) (by rw [Int.mul_comm]; omega) (by rw [Int.mul_comm]; omega), wrap_ok (x := u - q * v) (by omega) (by omega)]
      have exr : x - q * y = r := by rw [Int.mul_comm]; omega
      rw [exr]
      refine ⟨by omega, by omega, hr0, hym, by dsimp only; omega, ?_, ⟨k2, h7⟩, ⟨k1 - q * k2, ?_⟩, ?_, hnew⟩
      · dsimp only
        rw [← h5, ← hr, gcd_mod h1 h2]
      · dsimp only
        rw [← exr, h6, h7]; grind
      · dsimp only
        have h10 : v * (u - q * v) = u * v - q * (v * v) := by grind
        have h11 : 0 ≤ q * (v * v) := Int.mul_nonneg hq0 (by rcases Int.le_total 0 v with h | h; exact Int.mul_nonneg h h; exact Int.mul_nonneg_of_nonpos_of_nonpos h h)
        omega
    · have hy' : y = 0 := by omega
      subst hy'
      rw [Int.gcd_zero_right] at h5
      have : x = 1 := by omega
      exact ⟨k1, by rw [← h6, this]⟩
  · obtain ⟨k, hk⟩ := hu
    refine ok_bind (ok_of (mod_ok (by omega) hm2)) fun w hw => ok_some (.inl ?_)
    subst hw
    have hI : IsInv m d (u % m) := by
      refine ⟨Int.emod_nonneg _ (by omega), Int.emod_lt_of_pos _ (by omega), ?_⟩
      rw [Int.mul_emod, Int.emod_emod, ← Int.mul_emod, show u * d = 1 + m * (-k) by rw [Int.mul_neg]; omega, Int.add_mul_emod_self_left]
    exact ⟨⟨_, hI⟩, by rw [invM_eq hI]⟩
theorem adj_abs {n : Nat} {A : Nat → Nat → Int} (hn : 1 ≤ n) (hn2 : n ≤ 16) (hb : ∀ i j, (A i j).natAbs ≤ m63) (i j : Nat) : (adjF n A i j).natAbs ≤ dMax := by
  refine Nat.le_trans (det_abs (m := m63) (n := n) fun r c => ?_) (dBd_le hn2).1
  rw [setF_app]
  split
  · unfold dl; split <;> decide
  · exact hb r c
theorem refInv_P {fuel : Nat} {A : List (List Int)} {m : Int} (hf : 5000000000 < fuel) (hA : largeB A = false) : P_quadformref23_Inverse fuel A m = some (invS A m, invE A m) := by
  have hl : A.length ≤ 20 ∧ ∀ z ∈ A, z.length ≤ 20 := by
    unfold largeB at hA
    rw [decide_eq_false_iff_not] at hA
    exact ⟨by omega, fun z hz => Nat.le_of_not_lt fun h => hA (.inr ⟨z, hz, h⟩)⟩
  apply ok_eq
  unfold P_quadformref23_Inverse
  refine ok_bind (ok_of (refDet_P (by omega) hA)) fun d hd => ?_
  subst hd
  dsimp only
  cases hs : squareB A with
  | false =>
    have e1 : detE A m = 3 := by simp [detE, hs]
    have e2 : invE A m = 3 := by simp [invE, hs]
    have e3 : invS A m = [] := by unfold invS; rw [if_neg (fun h => by rw [hs] at h; cases h.1)]
    rw [e1, e2, e3]
    exact ok_if (fun _ => ok_some rfl) fun h => absurd (show ¬ (3 : Int) = 0 by decide) h
  | true =>
    cases hm : modB m with
    | false =>
      have e1 : detE A m = 1 := by simp [detE, hs, hm]
      have e2 : invE A m = 1 := by simp [invE, hs, hm]
      have e3 : invS A m = [] := by unfold invS; rw [if_neg (fun h => by rw [hm] at h; cases h.2.1)]
      rw [e1, e2, e3]
      exact ok_if (fun _ => ok_some rfl) fun h => absurd (show ¬ (1 : Int) = 0 by decide) h
    | true =>
      have hm' := mod_of_modB hm
      have e1 : detE A m = 0 := by simp [detE, hs, hm]
      have eD : detS A m = det A.length (ent A) % m := by simp [detS, hs, hm]
      rw [e1]
      refine ok_if (fun h => absurd rfl h) fun _ => ok_bind (recip_P (by rw [eD]; exact Int.emod_nonneg _ (by omega)) (by rw [eD]; exact Int.emod_lt_of_pos _ (by omega)) hm'.1 hm'.2 hf) fun r hr => ?_
      rcases hr with ⟨hy, rfl⟩ | ⟨hn, rfl⟩
      · have e2 : invE A m = 0 := by simp [invE, hs, hm, hy]
        rw [e2]
        dsimp only
        refine ok_if (fun h => by cases h) fun _ => ok_bind (ok_of (reduce_P (by omega) (by omega) (by omega) (by omega) fun z hz => by have := hl.2 z hz; omega)) fun R hR => ?_
        subst hR
        obtain ⟨ht, hok, h8, h1⟩ := red_square (m := m) hs
        have hrr : ∀ z ∈ redM A m, ∀ x ∈ z, -9223372036854775808 ≤ x ∧ x ≤ 9223372036854775807 := fun z hz x hx => by
          obtain ⟨y, hy, rfl⟩ := List.mem_map.1 hz
          obtain ⟨w, hw, rfl⟩ := List.mem_map.1 hx
          have h4 := Int.emod_nonneg w (by omega : m ≠ 0)
          have h5 := Int.emod_lt_of_pos w (by omega : 0 < m)
          omega
        refine ok_bind (ok_of (of_ok hrr (by omega))) fun O hO => ?_
        subst hO
        rw [hok, if_pos rfl, ht]
        have hb : ∀ i j, (ent (redM A m) i j).natAbs ≤ m63 := fun i j => ent_red_abs (by omega) (by omega) i j
        refine ok_bind (ok_of (adj_P h1 (by omega) hb (by omega))) fun a ha => ?_
        subst ha
        dsimp only
        obtain ⟨n, hn⟩ : ∃ n, A.length = n := ⟨_, rfl⟩
        obtain ⟨u, hu⟩ : ∃ u, invM m (detS A m) = u := ⟨_, rfl⟩
        have hub : 0 ≤ u ∧ u < m := by obtain ⟨y, hy⟩ := hy; have := invM_spec hy; rw [hu] at this; exact ⟨this.1, this.2.1⟩
        have eS : invS A m = tab n n fun i j => adjF n (ent (redM A m)) i j * u % m := by unfold invS; rw [if_pos ⟨hs, hm, hy⟩, hn, hu]
        rw [eS, hn, hu]
        have hadj := fun i j => adj_abs (n := n) (A := ent (redM A m)) (by omega) (by omega) hb i j
        generalize ent (redM A m) = G at hadj ⊢
        refine ok_bind (ok_iter (fun i s => s = (rowL i fun r => rowL n fun c => adjF n G r c * u % m, (i : Int))) n (Q := (· = tab n n fun i j => adjF n G i j * u % m)) rfl (by omega) fun i s hi hI => ?_) fun x hx => ok_some (by rw [hx])
        subst hI
        unfold P_quadformref23_Inverse_b1
        dsimp only
        rw [tab_len]
        refine ok_if (fun h => ?_) (fun h => ok_some ?_)
        · have hi' : i < n := by omega
          refine ok_get (tab_get hi') rfl (ok_bind (ok_iter (fun j s => s = (rowL j fun c => adjF n G i c * u % m, (j : Int))) n (Q := (· = rowL n fun c => adjF n G i c * u % m)) rfl (by omega) fun j s hj hJ => ?_) fun e he => ok_need (by rw [rowL_len]; omega) (ok_some ⟨hi', ?_⟩))
          · subst hJ
            unfold P_quadformref23_Inverse_b2
            dsimp only
            rw [rowL_len, rowL_len]
            refine ok_if (fun h2 => ?_) (fun h2 => ok_some ?_)
            · have hj' : j < n := by omega
              have hu' : u.natAbs ≤ dMax := Nat.le_trans (show u.natAbs ≤ 2147483647 by omega) (by decide)
              refine ok_get (tab_get hi') rfl (ok_get (rowL_get hj') rfl (ok_bind (Q := (· = u)) ⟨u, if_pos (by omega), rfl⟩ fun w hw => ?_))
              subst hw
              refine ok_bind (ok_of (zMul_big (hadj i j) hu')) fun z hz => ?_
              subst hz
              refine ok_bind (ok_of (residue_P (by omega) (by omega) (mul_big2 (hadj i j) hu'))) fun z hz => ok_need (by omega) (ok_some ⟨hj', ?_⟩)
              subst hz
              rw [wrap_ok (by omega) (by omega), ← rowL_push]; rfl
            · obtain rfl : j = n := by omega
              rfl
          · subst he
            rw [wrap_ok (by omega) (by omega), ← rowL_push]; rfl
        · obtain rfl : i = n := by omega
          rfl
      · have e2 : invE A m = 8 := by simp [invE, hs, hm, hn]
        have e3 : invS A m = [] := by unfold invS; rw [if_neg (fun h => hn h.2.2)]
        rw [e2, e3]
        exact ok_if (fun _ => ok_some rfl) fun h => absurd rfl h
theorem same_P {fuel : Nat} {A : List (List Int)} (hf : A.length < fuel) (hr : ∀ z ∈ A, z.length < fuel ∧ z.length < 1000) (hl : A.length < 1000) : P_quadformref23_Same fuel A A = some true := by
  apply ok_eq
  unfold P_quadformref23_Same
  refine ok_if (fun h => absurd rfl h) fun _ => ok_bind (ok_iter (fun i (s : Int) => s = i) A.length (Q := fun ex => match ex with | .inl _ => False | .inr _ => True) rfl hf fun i s hi hI => ?_) fun ex hex => ?_
  · subst hI
    unfold P_quadformref23_Same_b1
    refine ok_if (fun h => ?_) fun h => ok_some trivial
    have hi' : i < A.length := by omega
    obtain ⟨row, hrow⟩ : ∃ row, A[i]? = some row := ⟨A[i], List.getElem?_eq_getElem hi'⟩
    have hrl := hr row (List.mem_of_getElem? hrow)
    refine ok_get hrow rfl (ok_get hrow rfl (ok_if (fun h => absurd rfl h) fun _ => ok_bind (ok_iter (fun j (s : Int) => s = j) row.length (Q := fun ex => match ex with | .inl _ => False | .inr _ => True) rfl hrl.1 fun j s hj hJ => ?_) fun ex hex => ?_))
    · subst hJ
      unfold P_quadformref23_Same_b2
      refine ok_if (fun h => ?_) fun h => ok_some trivial
      obtain ⟨x, hx⟩ : ∃ x, row[j]? = some x := ⟨row[j]'(by omega), List.getElem?_eq_getElem _⟩
      exact ok_get hrow rfl (ok_get hx rfl (ok_get hrow rfl (ok_get hx rfl (ok_if (fun h => absurd rfl h) fun _ => ok_some ⟨by omega, wrap_ok (by omega) (by omega)⟩))))
    · cases ex with
      | inl e => exact hex.elim
      | inr u => exact ok_some ⟨hi', wrap_ok (by omega) (by omega)⟩
  · cases ex with
    | inl e => exact hex.elim
    | inr u => exact ok_some rfl
theorem invS_small {A : List (List Int)} {m : Int} : (invS A m).length ≤ 8 ∧ ∀ z ∈ invS A m, z.length ≤ 8 := by
  unfold invS
  split
  · rename_i h
    have := (square_of h.1).2.2
    exact ⟨by rw [tab_len]; exact this, fun z hz => by rw [tab_rows z hz]; exact this⟩
  · simp
theorem modularInverse_true {A : List (List Int)} {gr gc : Nat} {Z : List Int} {k raw : Int} {wild made : Bool} (hr : gr < 256) : P_quadformlaw23_ModularInverse 5000000001 A gr gc Z k raw wild made = some true := by
  apply ok_eq
  unfold P_quadformlaw23_ModularInverse
  refine ok_bind (ok_of (large_P (by omega))) fun b hb => ?_
  subst hb
  obtain ⟨c, hc⟩ := lawmod_P (fuel := 5000000001) (k := k) (raw := raw) (w := wild)
  have key : ∀ M : List (List Int), largeB M = false → Ok ((modInvP 5000000001 M c).bind fun (x65, x66) => ((P_quadformref23_Inverse 5000000001 M c).bind fun (x79, x80) => (if x66 = x80 then ((P_quadformref23_Same 5000000001 x65 x79).bind fun x96 => (if x96 = true then ((awakeP 5000000001).bind fun x106 => (some x106)) else (some false))) else (some false)))) (· = true) := fun M hl => by
    refine ok_bind (ok_of (a := (invS M c, invE M c)) rfl) fun d hd => ok_bind (ok_of (refInv_P (by omega) hl)) fun e he => ?_
    subst hd; subst he
    dsimp only
    rw [if_pos rfl]
    have hs := invS_small (A := M) (m := c)
    refine ok_bind (ok_of (same_P (by omega) (fun z hz => by have := hs.2 z hz; omega) (by omega))) fun b hb => ?_
    subst hb
    rw [if_pos rfl]
    exact ok_bind (ok_of (a := true) rfl) fun x hx => ok_some hx
  refine ok_if (fun h => ok_bind (ok_of (a := true) rfl) fun x hx => ok_some hx) fun h => ok_if (fun h2 => ?_) fun h2 => ?_
  · refine ok_bind (ints_P (fuel := 5000000001) (Z := Z) (q := 5) hr hr (by omega) (by omega) (by omega)) fun M hM => ok_bind (ok_of hc) fun c' hc' => ?_
    subst hc'
    exact key M (large_of (n := 0) (by have := Nat.mod_lt gr (show 0 < 5 by decide); omega) fun z hz => by have := hM.2 z hz; omega)
  · refine ok_bind (ok_of hc) fun c' hc' => ?_
    subst hc'
    exact key A (by simpa using h)
theorem ModularInverse_ok {h : Heap} {va : Value} {A : List (List Int)} (HA : Mat h va A) (gr1 gc1 : Nat) (l1 : Value) (Z1 : List Int) (HZ1 : Sl h l1 (Z1.map (.int .i8))) (hr1 : gr1 < 256) (k raw : Int) (wild made : Bool) (HO : OffH h) : CallH Tryd.prog 4 #[va, .agg #[.int .u8 (gr1 : Int), .int .u8 (gc1 : Int), l1], .int .u16 k, .int .i64 raw, .bool wild, .bool made] h fun x h' => Ext h h' ∧ x = .bool true :=
  P_quadformlaw23_ModularInverse_ok (slC2_of HA) (slC_of HZ1) HO (modularInverse_true hr1)
end Go.Proofs.YtdlfineibanppaaDoor

