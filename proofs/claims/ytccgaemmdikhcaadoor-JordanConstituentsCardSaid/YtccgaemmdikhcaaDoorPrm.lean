/-
  Prime numbers: inverses exist, and Fermat's little theorem gives them as powers. No condition.
-/
import Derived.Test.YtccgaemmdikhcaaDoorNum
namespace Go.QF
set_option linter.unusedVariables false

theorem inv_exists {p : Int} (hp : Pr p) : ∀ (n : Nat) (x : Int), x.toNat ≤ n → 0 < x → x < p → ∃ y, y * x % p = 1 := by
  intro n
  induction n with
  | zero => intro x h1 h2; omega
  | succ n ih =>
    intro x hn hx hxp
    have h2 := hp.1
    rcases lt_ge 1 x with h1 | h1
    · have hr : p % x ≠ 0 := hp.2 x (by omega) hxp
      have hr0 := Int.emod_nonneg p (b := x) (by omega)
      have hr1 := Int.emod_lt_of_pos p (b := x) hx
      obtain ⟨s, hs⟩ := ih (p % x) (by omega) (by omega) (by omega)
      refine ⟨-(s * (p / x)), ?_⟩
      have hd := Int.mul_ediv_add_emod p x
      have he : -(s * (p / x)) * x = s * (p % x) + p * (-s) := by
        have : s * (x * (p / x) + p % x) = s * p := by rw [hd]
        rw [Int.mul_add] at this
        rw [Int.neg_mul, Int.mul_assoc, Int.mul_comm (p / x) x, Int.mul_neg, Int.mul_comm p s]
        omega
      rw [he, Int.add_mul_emod_self_left, hs]
    · obtain rfl : x = 1 := by omega
      exact ⟨1, Int.emod_eq_of_lt (by omega) (by omega)⟩
theorem isInv_exists {p x : Int} (hp : Pr p) (hx : 0 < x) (hxp : x < p) : ∃ y, IsInv p x y := by
  obtain ⟨y, hy⟩ := inv_exists hp x.toNat x (Nat.le_refl _) hx hxp
  have h2 := hp.1
  refine ⟨y % p, Int.emod_nonneg _ (by omega), Int.emod_lt_of_pos _ (by omega), ?_⟩
  rw [Int.mul_emod, Int.emod_emod, ← Int.mul_emod, hy, Int.emod_eq_of_lt (by omega) (by omega)]
theorem invM_ok {p x : Int} (hp : Pr p) (hx : 0 < x) (hxp : x < p) : IsInv p x (invM p x) := by
  obtain ⟨y, hy⟩ := isInv_exists hp hx hxp
  exact invM_spec hy

/-! ### Fermat -/
theorem perm_of_sub {α : Type} [DecidableEq α] : ∀ (l t : List α), l.Nodup → (∀ x ∈ l, x ∈ t) → t.length ≤ l.length → l.Perm t := by
  intro l
  induction l with
  | nil =>
    intro t _ _ h
    obtain rfl : t = [] := List.eq_nil_of_length_eq_zero (by simpa using h)
    exact .nil
  | cons x l ih =>
    intro t hn hs hl
    have hx := hs x (List.mem_cons_self ..)
    have hp := List.perm_cons_erase hx
    refine .trans (.cons x (ih (t.erase x) (List.nodup_cons.1 hn).2 (fun y hy => ?_) ?_)) hp.symm
    · refine (List.mem_erase_of_ne (fun he : y = x => (List.nodup_cons.1 hn).1 (he ▸ hy))).2 (hs y (List.mem_cons_of_mem _ hy))
    · have := hp.length_eq
      simp at this hl
      omega
def prodL : List Int → Int
  | [] => 1
  | x :: l => x * prodL l
theorem prodL_perm {l t : List Int} (h : l.Perm t) : prodL l = prodL t := by
  induction h with
  | nil => rfl
  | cons x _ ih => simp only [prodL]; rw [ih]
  | swap x y l => simp only [prodL]; rw [← Int.mul_assoc, ← Int.mul_assoc, Int.mul_comm x y]
  | trans _ _ ih1 ih2 => exact ih1.trans ih2
theorem prodL_mul (a p : Int) (l : List Int) : prodL (l.map fun x => a * x % p) % p = a ^ l.length * prodL l % p := by
  induction l with
  | nil => simp [prodL]
  | cons x l ih =>
    simp only [List.map_cons, prodL, List.length_cons]
    rw [Int.mul_emod, ih, Int.emod_emod, ← Int.mul_emod]
    congr 1
    rw [Int.pow_succ]
    simp only [Int.mul_assoc, Int.mul_comm, Int.mul_left_comm]
/-- 1, .., n. -/
def upN (n : Nat) : List Int := (List.range n).map fun i : Nat => ((i : Int) + 1)
theorem mem_upN {n : Nat} {x : Int} : x ∈ upN n ↔ 1 ≤ x ∧ x ≤ n := by
  simp only [upN, List.mem_map, List.mem_range]
  constructor
  · rintro ⟨i, hi, rfl⟩; omega
  · rintro ⟨h1, h2⟩; exact ⟨(x - 1).toNat, by omega, by omega⟩
theorem upN_nodup (n : Nat) : (upN n).Nodup := by
  unfold upN
  rw [List.nodup_iff_pairwise_ne, List.pairwise_map]
  refine List.Pairwise.imp ?_ List.nodup_range
  intro a b h he
  omega
theorem cancel {p x a b : Int} (hp : Pr p) (hx : 0 < x) (hxp : x < p) (h : a * x % p = b * x % p) : a % p = b % p := by
  obtain ⟨y, hy⟩ := inv_exists hp x.toNat x (Nat.le_refl _) hx hxp
  have h2 := hp.1
  have key : ∀ c : Int, c % p = c * x * y % p := fun c => by
    rw [Int.mul_assoc, Int.mul_emod, Int.mul_comm x y, hy, Int.mul_one, Int.emod_emod]
  rw [key a, key b, Int.mul_emod, h, ← Int.mul_emod]
theorem mul_ne {p a x : Int} (hp : Pr p) (ha : 0 < a) (hap : a < p) (hx : 0 < x) (hxp : x < p) : a * x % p ≠ 0 := by
  intro h
  have := cancel (a := a) (b := 0) hp hx hxp (by rw [h]; simp)
  rw [Int.emod_eq_of_lt (by omega) hap] at this
  simp at this
  omega
theorem cancelL {p a b : Int} (hp : Pr p) : ∀ l : List Int, (∀ x ∈ l, 0 < x ∧ x < p) → a * prodL l % p = b * prodL l % p → a % p = b % p := by
  intro l
  induction l generalizing a b with
  | nil => intro _ h; simpa [prodL] using h
  | cons x l ih =>
    intro hl h
    have hx := hl x (List.mem_cons_self ..)
    simp only [prodL, ← Int.mul_assoc] at h
    exact cancel hp hx.1 hx.2 (ih (fun y hy => hl y (List.mem_cons_of_mem _ hy)) h)
theorem fermat {p a : Int} (hp : Pr p) (ha : 0 < a) (hap : a < p) : a ^ (p - 1).toNat % p = 1 := by
  have h2 := hp.1
  have hup : ∀ x ∈ upN (p - 1).toNat, 0 < x ∧ x < p := fun x hx => by have := mem_upN.1 hx; omega
  have hperm : ((upN (p - 1).toNat).map fun x => a * x % p).Perm (upN (p - 1).toNat) := by
    refine perm_of_sub _ _ ?_ ?_ (by simp)
    · rw [List.nodup_iff_pairwise_ne, List.pairwise_map, List.pairwise_iff_getElem]
      intro i j hi hj hij he
      have hxi := hup _ (List.getElem_mem hi)
      have hxj := hup _ (List.getElem_mem hj)
      rw [Int.mul_comm a, Int.mul_comm a] at he
      have := cancel hp ha hap he
      rw [Int.emod_eq_of_lt (by omega) hxi.2, Int.emod_eq_of_lt (by omega) hxj.2] at this
      have hnd := List.pairwise_iff_getElem.1 (List.nodup_iff_pairwise_ne.1 (upN_nodup (p - 1).toNat)) i j hi hj hij
      exact hnd this
    · intro y hy
      simp only [List.mem_map] at hy
      obtain ⟨x, hx, rfl⟩ := hy
      have hx' := hup x hx
      have h0 := mul_ne hp ha hap hx'.1 hx'.2
      have h1 := Int.emod_nonneg (a * x) (b := p) (by omega)
      have h3 := Int.emod_lt_of_pos (a * x) (b := p) (by omega)
      exact mem_upN.2 ⟨by omega, by omega⟩
  have h3 := prodL_mul a p (upN (p - 1).toNat)
  rw [prodL_perm hperm] at h3
  have hlen : (upN (p - 1).toNat).length = (p - 1).toNat := by simp [upN]
  rw [hlen] at h3
  have := cancelL (a := 1) (b := a ^ (p - 1).toNat) hp _ hup (by rw [Int.one_mul]; exact h3)
  rw [← this, Int.emod_eq_of_lt (by omega) (by omega)]
theorem pow_inv {p a : Int} (hp : Pr p) (ha : 0 < a) (hap : a < p) : IsInv p a (a ^ (p - 2).toNat % p) := by
  have h2 := hp.1
  refine ⟨Int.emod_nonneg _ (by omega), Int.emod_lt_of_pos _ (by omega), ?_⟩
  rw [Int.mul_emod, Int.emod_emod, ← Int.mul_emod, ← Int.pow_succ, show (p - 2).toNat.succ = (p - 1).toNat by omega, fermat hp ha hap, Int.emod_eq_of_lt (by omega) (by omega)]
theorem pow_invM {p a : Int} (hp : Pr p) (ha : 0 < a) (hap : a < p) : a ^ (p - 2).toNat % p = invM p a := (invM_eq (pow_inv hp ha hap)).symm
end Go.QF
