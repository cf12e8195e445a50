/-
  Plain: Gauss's lemma, quadratic reciprocity, the class of 2. No condition.
-/
import Derived.Test.YtccgaemmdikhcaaDoorPrm
namespace Go.QF
set_option linter.unusedVariables false
/-! ### products -/
theorem prodL_map_mul {α : Type} (f g : α → Int) (l : List α) : prodL (l.map fun x => f x * g x) = prodL (l.map f) * prodL (l.map g) := by
  induction l with
  | nil => simp [prodL]
  | cons x l ih => simp only [List.map_cons, prodL, ih]; simp only [Int.mul_assoc, Int.mul_left_comm]
theorem prodL_const_mul (a : Int) (l : List Int) : prodL (l.map fun x => a * x) = a ^ l.length * prodL l := by
  induction l with
  | nil => simp [prodL]
  | cons x l ih => simp only [List.map_cons, prodL, ih, List.length_cons, Int.pow_succ]; simp only [Int.mul_assoc, Int.mul_left_comm, Int.mul_comm]
theorem prodL_congr {α : Type} {f g : α → Int} {l : List α} (h : ∀ x ∈ l, f x = g x) : prodL (l.map f) = prodL (l.map g) := by rw [List.map_congr_left h]
theorem prodL_swap {α β : Type} (f : α → β → Int) (l : List α) (t : List β) : prodL (l.map fun x => prodL (t.map fun y => f x y)) = prodL (t.map fun y => prodL (l.map fun x => f x y)) := by
  induction l with
  | nil =>
    simp only [List.map_nil, prodL]
    induction t with
    | nil => rfl
    | cons y t ih => simp only [List.map_cons, prodL, ← ih]; rfl
  | cons x l ih => simp only [List.map_cons, prodL, ih]; rw [← prodL_map_mul]
theorem prodL_modEq {p : Int} {α : Type} {f g : α → Int} {l : List α} (h : ∀ x ∈ l, f x % p = g x % p) : prodL (l.map f) % p = prodL (l.map g) % p := by
  induction l with
  | nil => rfl
  | cons x l ih =>
    simp only [List.map_cons, prodL]
    rw [Int.mul_emod, h x (List.mem_cons_self ..), ih fun y hy => h y (List.mem_cons_of_mem _ hy), ← Int.mul_emod]
theorem prodL_pm {α : Type} {f : α → Int} {l : List α} (h : ∀ x ∈ l, f x = 1 ∨ f x = -1) : prodL (l.map f) = 1 ∨ prodL (l.map f) = -1 := by
  induction l with
  | nil => exact .inl rfl
  | cons x l ih =>
    simp only [List.map_cons, prodL]
    rcases h x (List.mem_cons_self ..) with h1 | h1 <;> rcases ih (fun y hy => h y (List.mem_cons_of_mem _ hy)) with h2 | h2 <;> rw [h1, h2] <;> simp
theorem upN_len (n : Nat) : (upN n).length = n := by simp [upN]
theorem upN_succ (n : Nat) : upN (n + 1) = upN n ++ [(n : Int) + 1] := by simp [upN, List.range_succ]
theorem prodL_append (l t : List Int) : prodL (l ++ t) = prodL l * prodL t := by
  induction l with
  | nil => simp [prodL]
  | cons x l ih => simp only [List.cons_append, prodL, ih, Int.mul_assoc]
/-! ### parity -/
def chi (n : Int) : Int := if n % 2 = 0 then 1 else -1
theorem chi_pm (n : Int) : chi n = 1 ∨ chi n = -1 := by unfold chi; split <;> simp
theorem chi_add (a b : Int) : chi (a + b) = chi a * chi b := by
  unfold chi
  by_cases ha : a % 2 = 0 <;> by_cases hb : b % 2 = 0
  · rw [if_pos ha, if_pos hb, if_pos (by omega)]; rfl
  · rw [if_pos ha, if_neg hb, if_neg (by omega)]; rfl
  · rw [if_neg ha, if_pos hb, if_neg (by omega)]; rfl
  · rw [if_neg ha, if_neg hb, if_pos (by omega)]; rfl
theorem chi_congr {a b : Int} (h : (a - b) % 2 = 0) : chi a = chi b := by
  unfold chi
  by_cases ha : a % 2 = 0
  · rw [if_pos ha, if_pos (by omega)]
  · rw [if_neg ha, if_neg (by omega)]
theorem pm_sq {x : Int} (h : x = 1 ∨ x = -1) : x * x = 1 := by rcases h with rfl | rfl <;> rfl
/-- How many of 1, .., M are at most N, as a sign. -/
theorem count_le (M N : Nat) (h : N ≤ M) : prodL ((upN M).map fun l => if l ≤ (N : Int) then -1 else 1) = chi N := by
  induction M with
  | zero =>
    obtain rfl : N = 0 := by omega
    rfl
  | succ M ih =>
    rw [upN_succ, List.map_append, prodL_append]
    simp only [List.map_cons, List.map_nil, prodL, Int.mul_one]
    rcases Nat.lt_or_ge M N with hlt | hge
    · obtain rfl : N = M + 1 := by omega
      rw [if_pos (by omega)]
      have h2 : prodL ((upN M).map fun l => if l ≤ ((M + 1 : Nat) : Int) then -1 else 1) = prodL ((upN M).map fun l => if l ≤ (M : Int) then -1 else 1) := prodL_congr fun x hx => by
        have := mem_upN.1 hx
        rw [if_pos (by omega), if_pos (by omega)]
      rw [h2]
      have key : ∀ K : Nat, prodL ((upN K).map fun l => if l ≤ (K : Int) then -1 else 1) = chi K := by
        intro K
        induction K with
        | zero => rfl
        | succ K ihK =>
          rw [upN_succ, List.map_append, prodL_append]
          simp only [List.map_cons, List.map_nil, prodL, Int.mul_one]
          have h3 : prodL ((upN K).map fun l => if l ≤ ((K + 1 : Nat) : Int) then -1 else 1) = prodL ((upN K).map fun l => if l ≤ (K : Int) then -1 else 1) := prodL_congr fun x hx => by
            have := mem_upN.1 hx
            rw [if_pos (by omega), if_pos (by omega)]
          rw [h3, ihK, if_pos (by omega)]
          have := chi_add (K : Int) 1
          rw [show ((K + 1 : Nat) : Int) = (K : Int) + 1 by omega, this]; rfl
      rw [key]
      have := chi_add (M : Int) 1
      rw [show ((M + 1 : Nat) : Int) = (M : Int) + 1 by omega, this]; rfl
    · rw [ih hge, if_neg (by omega), Int.mul_one]
/-! ### Gauss's lemma -/
section
variable {p : Int} {m : Nat}
def gs (p : Int) (m : Nat) (a k : Int) : Int := if a * k % p ≤ m then 1 else -1
def gv (p : Int) (m : Nat) (a k : Int) : Int := if a * k % p ≤ m then a * k % p else p - a * k % p
/-- The sign of Gauss's lemma. -/
def GS (p : Int) (m : Nat) (a : Int) : Int := prodL ((upN m).map (gs p m a))
theorem GS_pm (p : Int) (m : Nat) (a : Int) : GS p m a = 1 ∨ GS p m a = -1 := prodL_pm fun x _ => by unfold gs; split <;> simp
theorem mulmod_ne (hp : Pr p) {a k : Int} (ha : a % p ≠ 0) (hk : 0 < k) (hkp : k < p) : a * k % p ≠ 0 := by
  have h2 := hp.1
  have h1 : 0 < a % p := by have := Int.emod_nonneg a (show p ≠ 0 by omega); omega
  have h3 := Int.emod_lt_of_pos a (show 0 < p by omega)
  have := mul_ne hp h1 h3 hk hkp
  rwa [Int.mul_emod, Int.emod_emod, ← Int.mul_emod] at this
theorem mulmod_rng (hp : Pr p) {a k : Int} (ha : a % p ≠ 0) (hk : 0 < k) (hkp : k < p) : 1 ≤ a * k % p ∧ a * k % p < p := by
  have h2 := hp.1
  have h1 := mulmod_ne hp ha hk hkp
  have h3 := Int.emod_nonneg (a * k) (show p ≠ 0 by omega)
  have h4 := Int.emod_lt_of_pos (a * k) (show 0 < p by omega)
  omega
theorem gv_perm (hp : Pr p) (hm : p = 2 * m + 1) {a : Int} (ha : a % p ≠ 0) : ((upN m).map (gv p m a)).Perm (upN m) := by
  have hinj : ∀ k ∈ upN m, ∀ j ∈ upN m, gv p m a k = gv p m a j → k = j := by
    intro k hk j hj he
    have hk := mem_upN.1 hk
    have hj := mem_upN.1 hj
    have r1 := mulmod_rng hp ha (k := k) (by omega) (by omega)
    have r2 := mulmod_rng hp ha (k := j) (by omega) (by omega)
    by_cases hkj : k = j
    · exact hkj
    · exfalso
      unfold gv at he
      have e1 : a * k % p = a * j % p → False := by
        intro h
        have h3 : a * (k - j) % p = 0 := by rw [Int.mul_sub, Int.sub_emod, h, Int.sub_self]; rfl
        rcases Int.lt_trichotomy k j with hlt | heq | hgt
        · refine mulmod_ne hp ha (k := j - k) (by omega) (by omega) ?_
          rw [show a * (j - k) = -(a * (k - j)) by rw [← Int.mul_neg]; congr 1; omega]
          exact Int.emod_eq_zero_of_dvd (Int.dvd_neg.2 (Int.dvd_of_emod_eq_zero h3))
        · exact hkj heq
        · exact mulmod_ne hp ha (k := k - j) (by omega) (by omega) h3
      have e2 : a * k % p + a * j % p = p → False := by
        intro h
        refine mulmod_ne hp ha (k := k + j) (by omega) (by omega) ?_
        rw [Int.mul_add, Int.add_emod, h, Int.emod_self]
      split at he <;> split at he
      · exact e1 he
      · exact e2 (by omega)
      · exact e2 (by omega)
      · exact e1 (by omega)
  refine perm_of_sub _ _ ?_ (fun x hx => ?_) (by simp)
  · rw [List.nodup_iff_pairwise_ne, List.pairwise_map]
    have hnd := upN_nodup m
    rw [List.nodup_iff_pairwise_ne] at hnd
    refine List.Pairwise.imp_of_mem (fun {x y} hx hy hxy he => hxy (hinj x hx y hy he)) hnd
  · obtain ⟨k, hk, rfl⟩ := List.mem_map.1 hx
    have hk := mem_upN.1 hk
    have r1 := mulmod_rng hp ha (k := k) (by omega) (by omega)
    rw [mem_upN]
    unfold gv
    split <;> omega
theorem gauss (hp : Pr p) (hm : p = 2 * m + 1) {a : Int} (ha : a % p ≠ 0) : a ^ m % p = GS p m a % p := by
  have h2 := hp.1
  refine cancelL hp (upN m) (fun x hx => by have := mem_upN.1 hx; omega) ?_
  have h1 := prodL_const_mul a (upN m)
  rw [upN_len] at h1
  rw [← h1]
  have h3 : prodL ((upN m).map fun k => a * k) % p = prodL ((upN m).map fun k => gs p m a k * gv p m a k) % p := by
    refine prodL_modEq fun k hk => ?_
    unfold gs gv
    split
    · rw [Int.one_mul, Int.emod_emod]
    · rw [show (-1 : Int) * (p - a * k % p) = a * k % p - p by omega, Int.sub_emod, Int.emod_emod, Int.emod_self, Int.sub_zero, Int.emod_emod]
  rw [h3, prodL_map_mul, prodL_perm (gv_perm hp hm ha)]
  rfl
/-! ### Eisenstein -/
theorem eisen (hp : Pr p) (hm : p = 2 * m + 1) {a : Int} (ha : a % p ≠ 0) (hodd : a % 2 = 1) : GS p m a = prodL ((upN m).map fun k => chi (a * k / p)) := by
  have h2 := hp.1
  have hpt : ∀ k ∈ upN m, chi k = chi (a * k / p) * chi (gv p m a k) * gs p m a k := by
    intro k hk
    have hk := mem_upN.1 hk
    have r1 := mulmod_rng hp ha (k := k) (by omega) (by omega)
    have hd := Int.mul_ediv_add_emod (a * k) p
    have par : chi (a * k) = chi k := by
      refine chi_congr ?_
      obtain ⟨b, hb⟩ : ∃ b, a = 2 * b + 1 := ⟨a / 2, by omega⟩
      rw [hb, Int.add_mul, Int.one_mul, Int.mul_assoc]
      omega
    have parp : chi (p * (a * k / p)) = chi (a * k / p) := by
      refine chi_congr ?_
      rw [hm, Int.add_mul, Int.one_mul, Int.mul_assoc]
      omega
    rw [← par, ← hd, chi_add, parp, Int.mul_assoc]
    congr 1
    · rw [hd]
    · unfold gv gs
      split
      · rw [Int.mul_one]
      · have : chi (a * k % p) = chi (p - a * k % p) * chi 1 := by
          rw [← chi_add]
          exact chi_congr (by omega)
        rw [this]; rfl
  have h3 : prodL ((upN m).map chi) = prodL ((upN m).map fun k => chi (a * k / p)) * prodL ((upN m).map fun k => chi (gv p m a k)) * GS p m a := by
    rw [prodL_congr hpt, prodL_map_mul (fun k => chi (a * k / p) * chi (gv p m a k)) (gs p m a), prodL_map_mul]
    rfl
  have h4 : prodL ((upN m).map fun k => chi (gv p m a k)) = prodL ((upN m).map chi) := by
    have := prodL_perm ((gv_perm hp hm ha).map chi)
    rw [List.map_map] at this
    exact this
  rw [h4] at h3
  have q1 := prodL_pm (f := chi) (l := upN m) fun x _ => chi_pm x
  have q2 := prodL_pm (f := fun k => chi (a * k / p)) (l := upN m) fun x _ => chi_pm _
  have q3 := GS_pm p m a
  generalize prodL ((upN m).map chi) = A at h3 q1
  generalize prodL ((upN m).map fun k => chi (a * k / p)) = B at h3 q2 ⊢
  generalize GS p m a = Cc at h3 q3 ⊢
  rcases q1 with rfl | rfl <;> rcases q2 with rfl | rfl <;> rcases q3 with rfl | rfl <;> first | rfl | (exfalso; revert h3; decide)
end
/-! ### reciprocity -/
theorem floor_sign {p q : Int} {n : Nat} (hp : 0 < p) (hq : q = 2 * n + 1) {k : Int} (hk : 0 ≤ k) (hk2 : 2 * k < p) : chi (q * k / p) = prodL ((upN n).map fun l => if p * l ≤ q * k then -1 else 1) := by
  have h0 : 0 ≤ q * k := Int.mul_nonneg (by omega) hk
  have h1 : 0 ≤ q * k / p := Int.ediv_nonneg h0 (by omega)
  obtain ⟨N, hN⟩ : ∃ N : Nat, q * k / p = N := ⟨(q * k / p).toNat, by omega⟩
  have hle : N ≤ n := by
    rcases Nat.lt_or_ge n N with h | h
    · exfalso
      have h2 : q * k / p * p ≤ q * k := Int.ediv_mul_le _ (by omega)
      rw [hN] at h2
      have h3 : ((n : Int) + 1) * p ≤ N * p := Int.mul_le_mul_of_nonneg_right (by omega) (by omega)
      have h4 : q * (2 * k) ≤ q * (p - 1) := Int.mul_le_mul_of_nonneg_left (by omega) (by omega)
      rw [Int.mul_sub, Int.mul_one, Int.mul_left_comm] at h4
      have h5 : (2 * (n : Int) + 2) * p = q * p + p := by rw [hq, Int.add_mul, Int.add_mul]; omega
      have h6 : (2 * (n : Int) + 2) * p = 2 * (((n : Int) + 1) * p) := by rw [← Int.mul_assoc]; congr 1
      omega
    · exact h
  rw [hN, ← count_le n N hle]
  refine prodL_congr fun l hl => ?_
  have hiff : l ≤ (N : Int) ↔ p * l ≤ q * k := by
    rw [← hN, Int.le_ediv_iff_mul_le hp, Int.mul_comm]
  by_cases h : l ≤ (N : Int)
  · rw [if_pos h, if_pos (hiff.1 h)]
  · rw [if_neg h, if_neg (fun h' => h (hiff.2 h'))]
theorem prodL_neg (n : Nat) : prodL ((upN n).map fun _ => (-1 : Int)) = chi n := by
  rw [← count_le n n (Nat.le_refl _)]
  exact prodL_congr fun x hx => by rw [if_pos (mem_upN.1 hx).2]
theorem prodL_chi (n : Nat) (b : Int) : prodL ((upN n).map fun _ => chi b) = chi (n * b) := by
  induction n with
  | zero => simp [upN, prodL, chi]
  | succ n ih =>
    rw [upN_succ, List.map_append, prodL_append, ih]
    simp only [List.map_cons, List.map_nil, prodL, Int.mul_one]
    rw [← chi_add]
    congr 1
    rw [show ((n + 1 : Nat) : Int) = (n : Int) + 1 by omega, Int.add_mul, Int.one_mul]
theorem recip {p q : Int} {m n : Nat} (hp : Pr p) (hq : Pr q) (hm : p = 2 * m + 1) (hn : q = 2 * n + 1) (hne : p ≠ q) : GS p m q * GS q n p = chi (m * n) := by
  have hp2 := hp.1
  have hq2 := hq.1
  have hqp : q % p ≠ 0 := by
    intro h
    rcases Int.lt_trichotomy p q with hlt | heq | hgt
    · exact hq.2 p hp2 hlt h
    · exact hne heq
    · rw [Int.emod_eq_of_lt (by omega) hgt] at h; omega
  have hpq : p % q ≠ 0 := by
    intro h
    rcases Int.lt_trichotomy p q with hlt | heq | hgt
    · rw [Int.emod_eq_of_lt (by omega) hlt] at h; omega
    · exact hne heq
    · exact hp.2 q hq2 hgt h
  rw [eisen hp hm hqp (by omega), eisen hq hn hpq (by omega)]
  have e1 : prodL ((upN m).map fun k => chi (q * k / p)) = prodL ((upN m).map fun k => prodL ((upN n).map fun l => if p * l ≤ q * k then -1 else 1)) :=
    prodL_congr fun k hk => by have := mem_upN.1 hk; exact floor_sign (by omega) hn (by omega) (by omega)
  have e2 : prodL ((upN n).map fun l => chi (p * l / q)) = prodL ((upN n).map fun l => prodL ((upN m).map fun k => if q * k ≤ p * l then -1 else 1)) :=
    prodL_congr fun l hl => by have := mem_upN.1 hl; exact floor_sign (by omega) hm (by omega) (by omega)
  rw [e1, e2, prodL_swap (fun l k => if q * k ≤ p * l then (-1 : Int) else 1), ← prodL_map_mul]
  have e3 : prodL ((upN m).map fun k => prodL ((upN n).map fun l => if p * l ≤ q * k then (-1 : Int) else 1) * prodL ((upN n).map fun l => if q * k ≤ p * l then (-1 : Int) else 1)) = prodL ((upN m).map fun _ => chi n) := by
    refine prodL_congr fun k hk => ?_
    rw [← prodL_map_mul, ← prodL_neg n]
    refine prodL_congr fun l hl => ?_
    have hk := mem_upN.1 hk
    have hl := mem_upN.1 hl
    have hno : p * l ≠ q * k := by
      intro he
      refine mulmod_ne hp hqp (k := k) (by omega) (by omega) ?_
      rw [← he]; exact Int.mul_emod_right p l
    by_cases h : p * l ≤ q * k
    · rw [if_pos h, if_neg (by omega)]; rfl
    · rw [if_neg h, if_pos (by omega)]; rfl
  rw [e3, prodL_chi]
/-- The class of 2. -/
theorem two_class {p : Int} {m : Nat} (hp : Pr p) (hm : p = 2 * m + 1) (hm1 : 1 ≤ m) : GS p m 2 = if p % 8 = 1 ∨ p % 8 = 7 then 1 else -1 := by
  have h1 : GS p m 2 = prodL ((upN m).map fun k => (-1) * (if k ≤ ((m / 2 : Nat) : Int) then -1 else 1)) := by
    refine prodL_congr fun k hk => ?_
    have hk := mem_upN.1 hk
    unfold gs
    rw [Int.emod_eq_of_lt (by omega) (by omega)]
    by_cases h : 2 * k ≤ (m : Int)
    · rw [if_pos h, if_pos (by omega)]; rfl
    · rw [if_neg h, if_neg (by omega)]; rfl
  rw [h1, prodL_map_mul (fun _ => -1) (fun k => if k ≤ ((m / 2 : Nat) : Int) then -1 else 1), prodL_neg, count_le m (m / 2) (by omega), ← chi_add]
  unfold chi
  obtain ⟨j, r, hj, hr⟩ : ∃ j r : Nat, m = 4 * j + r ∧ r < 4 := ⟨m / 4, m % 4, by omega, by omega⟩
  have hd : m / 2 = 2 * j + r / 2 := by omega
  rw [hd]
  by_cases h : p % 8 = 1 ∨ p % 8 = 7
  · have : r = 0 ∨ r = 3 := by omega
    rcases this with rfl | rfl
    · rw [if_pos h, if_pos (by omega)]
    · rw [if_pos h, if_pos (by omega)]
  · have : r = 1 ∨ r = 2 := by omega
    rcases this with rfl | rfl
    · rw [if_neg h, if_neg (by omega)]
    · rw [if_neg h, if_neg (by omega)]
end Go.QF
