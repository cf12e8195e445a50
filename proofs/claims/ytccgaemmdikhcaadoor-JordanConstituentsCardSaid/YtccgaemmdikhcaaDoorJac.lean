/-
  Plain: Legendre's symbol as a power, Jacobi's symbol as a product over a list of primes. No condition.
-/
import Derived.Test.YtccgaemmdikhcaaDoorQr
namespace Go.QF
set_option linter.unusedVariables false
set_option linter.unusedSimpArgs false
/-- The class of a modulo an odd prime p, by a power. -/
def lg (p a : Int) : Int := if a ^ ((p - 1) / 2).toNat % p = 0 then 0 else if a ^ ((p - 1) / 2).toNat % p = 1 then 1 else -1
def OPr (p : Int) : Prop := Pr p ∧ p % 2 = 1
theorem OPr.half {p : Int} (h : OPr p) : p = 2 * (((p - 1) / 2).toNat : Int) + 1 ∧ 1 ≤ ((p - 1) / 2).toNat := by
  have h1 := h.1.1
  have h2 := h.2
  omega
theorem OPr.three {p : Int} (h : OPr p) : 3 ≤ p := by have h1 := h.1.1; have h2 := h.2; omega
theorem lg_gs {p a : Int} (hp : OPr p) (ha : a % p ≠ 0) : lg p a = GS p ((p - 1) / 2).toNat a := by
  obtain ⟨h1, h2⟩ := hp.half
  have h3 := hp.three
  have hg := gauss hp.1 h1 ha
  unfold lg
  rw [hg]
  rcases GS_pm p ((p - 1) / 2).toNat a with h | h
  · rw [h, Int.emod_eq_of_lt (by omega) (by omega)]; rfl
  · rw [h]
    have : (-1 : Int) % p = p - 1 := by
      rw [show (-1 : Int) = (p - 1) + p * (-1) by omega, Int.add_mul_emod_self_left, Int.emod_eq_of_lt (by omega) (by omega)]
    rw [this, if_neg (by omega), if_neg (by omega)]
theorem pow_mod_zero {p a : Int} (ha : a % p = 0) : ∀ m : Nat, 1 ≤ m → a ^ m % p = 0 := by
  intro m hm
  obtain ⟨k, rfl⟩ : ∃ k, m = k + 1 := ⟨m - 1, by omega⟩
  rw [Int.pow_succ, Int.mul_emod, ha, Int.mul_zero, Int.zero_emod]
theorem lg_zero {p a : Int} (hp : OPr p) (ha : a % p = 0) : lg p a = 0 := by
  unfold lg
  rw [if_pos (pow_mod_zero ha _ hp.half.2)]
theorem lg_pm {p a : Int} (hp : OPr p) (ha : a % p ≠ 0) : lg p a = 1 ∨ lg p a = -1 := by rw [lg_gs hp ha]; exact GS_pm _ _ _
theorem lg_congr {p a b : Int} (hp : OPr p) (h : a % p = b % p) : lg p a = lg p b := by
  by_cases ha : a % p = 0
  · rw [lg_zero hp ha, lg_zero hp (h ▸ ha)]
  · rw [lg_gs hp ha, lg_gs hp (h ▸ ha)]
    refine prodL_congr fun k _ => ?_
    unfold gs
    rw [Int.mul_emod a, h, ← Int.mul_emod]
theorem lg_mod {p a : Int} (hp : OPr p) : lg p (a % p) = lg p a := lg_congr hp (Int.emod_emod _ _)
theorem mulne {p a b : Int} (hp : OPr p) (ha : a % p ≠ 0) (hb : b % p ≠ 0) : a * b % p ≠ 0 := by
  have h3 := hp.three
  have h1 := Int.emod_nonneg b (show p ≠ 0 by omega)
  have h2 := Int.emod_lt_of_pos b (show 0 < p by omega)
  have := mulmod_ne hp.1 ha (k := b % p) (by omega) h2
  rwa [Int.mul_emod, Int.emod_emod, ← Int.mul_emod] at this
theorem lg_mul {p : Int} (hp : OPr p) (a b : Int) : lg p (a * b) = lg p a * lg p b := by
  by_cases ha : a % p = 0
  · rw [lg_zero hp ha, lg_zero hp (by rw [Int.mul_emod, ha, Int.zero_mul, Int.zero_emod]), Int.zero_mul]
  · by_cases hb : b % p = 0
    · rw [lg_zero hp hb, lg_zero hp (by rw [Int.mul_emod, hb, Int.mul_zero, Int.zero_emod]), Int.mul_zero]
    · obtain ⟨h1, h2⟩ := hp.half
      have h3 := hp.three
      have hab := mulne hp ha hb
      rw [lg_gs hp ha, lg_gs hp hb, lg_gs hp hab]
      have g1 := gauss hp.1 h1 ha
      have g2 := gauss hp.1 h1 hb
      have g3 := gauss hp.1 h1 hab
      rw [Int.mul_pow, Int.mul_emod, g1, g2, ← Int.mul_emod] at g3
      have hm1 : (-1 : Int) % p = p - 1 := by
        rw [show (-1 : Int) = (p - 1) + p * (-1) by omega, Int.add_mul_emod_self_left, Int.emod_eq_of_lt (by omega) (by omega)]
      have h11 : (1 : Int) % p = 1 := Int.emod_eq_of_lt (by omega) (by omega)
      rcases GS_pm p ((p - 1) / 2).toNat a with e1 | e1 <;> rcases GS_pm p ((p - 1) / 2).toNat b with e2 | e2 <;> rcases GS_pm p ((p - 1) / 2).toNat (a * b) with e3 | e3 <;> rw [e1, e2, e3] at g3 ⊢ <;> first | rfl | (exfalso; simp only [Int.mul_one, Int.one_mul, Int.mul_neg, Int.neg_mul, Int.neg_neg, hm1, h11] at g3; omega)
def e4 (x y : Int) : Int := if x % 4 = 3 ∧ y % 4 = 3 then -1 else 1
def e8 (x : Int) : Int := if x % 8 = 1 ∨ x % 8 = 7 then 1 else -1
theorem e4_pm (x y : Int) : e4 x y = 1 ∨ e4 x y = -1 := by unfold e4; split <;> simp
theorem lg_two {p : Int} (hp : OPr p) : lg p 2 = e8 p := by
  obtain ⟨h1, h2⟩ := hp.half
  have h3 := hp.three
  rw [lg_gs hp (by rw [Int.emod_eq_of_lt (by omega) (by omega)]; omega), two_class hp.1 h1 h2]
  rfl
theorem lg_recip {p q : Int} (hp : OPr p) (hq : OPr q) : lg p q = e4 p q * lg q p := by
  by_cases hpq : p = q
  · subst hpq
    rw [lg_zero hp (Int.emod_self), Int.mul_zero]
  · obtain ⟨h1, _⟩ := hp.half
    obtain ⟨h2, _⟩ := hq.half
    have hq1 : q % p ≠ 0 := by
      intro h
      rcases Int.lt_trichotomy p q with hlt | heq | hgt
      · exact hq.1.2 p hp.1.1 hlt h
      · exact hpq heq
      · rw [Int.emod_eq_of_lt (by have := hq.three; omega) hgt] at h; have := hq.three; omega
    have hp1 : p % q ≠ 0 := by
      intro h
      rcases Int.lt_trichotomy p q with hlt | heq | hgt
      · rw [Int.emod_eq_of_lt (by have := hp.three; omega) hlt] at h; have := hp.three; omega
      · exact hpq heq
      · exact hp.1.2 q hq.1.1 hgt h
    have hr := recip hp.1 hq.1 h1 h2 hpq
    rw [lg_gs hp hq1, lg_gs hq hp1]
    have hc : chi ((((p - 1) / 2).toNat : Int) * (((q - 1) / 2).toNat : Int)) = e4 p q := by
      generalize hm : (((p - 1) / 2).toNat : Int) = m at h1 ⊢
      generalize hn : (((q - 1) / 2).toNat : Int) = n at h2 ⊢
      unfold chi e4
      rw [Int.mul_emod]
      rcases (by omega : m % 2 = 0 ∨ m % 2 = 1) with a | a <;> rcases (by omega : n % 2 = 0 ∨ n % 2 = 1) with b | b <;> rw [a, b]
      · rw [if_pos (by decide), if_neg (by omega)]
      · rw [if_pos (by decide), if_neg (by omega)]
      · rw [if_pos (by decide), if_neg (by omega)]
      · rw [if_neg (by decide), if_pos (by omega)]
    rw [hc] at hr
    rcases GS_pm p ((p - 1) / 2).toNat q with e1 | e1 <;> rcases GS_pm q ((q - 1) / 2).toNat p with e2 | e2 <;> rw [e1, e2] at hr ⊢ <;> rw [← hr] <;> rfl
/-! ### Jacobi -/
def Jb (ps : List Int) (a : Int) : Int := prodL (ps.map fun p => lg p a)
def OPrs (ps : List Int) : Prop := ∀ p ∈ ps, OPr p
theorem Jb_mul {ps : List Int} (h : OPrs ps) (a b : Int) : Jb ps (a * b) = Jb ps a * Jb ps b := by
  unfold Jb
  rw [← prodL_map_mul]
  exact prodL_congr fun p hp => lg_mul (h p hp) a b
theorem prod_odd {ps : List Int} (h : OPrs ps) : prodL ps % 2 = 1 ∧ 1 ≤ prodL ps := by
  induction ps with
  | nil => exact ⟨rfl, Int.le_refl _⟩
  | cons p ps ih =>
    obtain ⟨h1, h2⟩ := ih fun q hq => h q (List.mem_cons_of_mem _ hq)
    have hp := h p (List.mem_cons_self ..)
    have h3 := hp.three
    have h4 := hp.2
    simp only [prodL]
    refine ⟨by rw [Int.mul_emod, h1, h4]; rfl, ?_⟩
    have := Int.mul_le_mul (show (1 : Int) ≤ p by omega) h2 (by omega) (by omega)
    simpa using this
theorem prod_ge {ps : List Int} (h : OPrs ps) (hne : ps ≠ []) : 3 ≤ prodL ps := by
  cases ps with
  | nil => exact absurd rfl hne
  | cons p ps =>
    have h2 := (prod_odd (ps := ps) fun q hq => h q (List.mem_cons_of_mem _ hq)).2
    have h3 := (h p (List.mem_cons_self ..)).three
    have := Int.mul_le_mul h3 h2 (by omega) (by omega)
    simp only [prodL]
    simpa using this
theorem dvd_prod {ps : List Int} {p : Int} (h : p ∈ ps) : p ∣ prodL ps := by
  induction ps with
  | nil => cases h
  | cons q ps ih =>
    simp only [prodL]
    rcases List.mem_cons.1 h with rfl | h
    · exact Int.dvd_mul_right _ _
    · exact Int.dvd_mul_of_dvd_right (ih h)
theorem Jb_mod {ps : List Int} (h : OPrs ps) (a : Int) : Jb ps (a % prodL ps) = Jb ps a :=
  prodL_congr fun p hp => lg_congr (h p hp) (Int.emod_emod_of_dvd a (dvd_prod hp))
theorem e8_mul {x y : Int} (hx : x % 2 = 1) (hy : y % 2 = 1) : e8 (x * y) = e8 x * e8 y := by
  unfold e8
  rw [Int.mul_emod]
  rcases (by omega : x % 8 = 1 ∨ x % 8 = 3 ∨ x % 8 = 5 ∨ x % 8 = 7) with a | a | a | a <;> rcases (by omega : y % 8 = 1 ∨ y % 8 = 3 ∨ y % 8 = 5 ∨ y % 8 = 7) with b | b | b | b <;> rw [a, b] <;> rfl
theorem e4_mul {x y z : Int} (hy : y % 2 = 1) (hz : z % 2 = 1) : e4 x (y * z) = e4 x y * e4 x z := by
  unfold e4
  rw [Int.mul_emod]
  rcases (by omega : x % 4 = 0 ∨ x % 4 = 1 ∨ x % 4 = 2 ∨ x % 4 = 3) with a | a | a | a <;> rcases (by omega : y % 4 = 1 ∨ y % 4 = 3) with b | b <;> rcases (by omega : z % 4 = 1 ∨ z % 4 = 3) with c | c <;> rw [a, b, c] <;> rfl
theorem e4_comm (x y : Int) : e4 x y = e4 y x := by unfold e4; simp only [And.comm]
theorem Jb_two {ps : List Int} (h : OPrs ps) : Jb ps 2 = e8 (prodL ps) := by
  induction ps with
  | nil => rfl
  | cons p ps ih =>
    have hp := h p (List.mem_cons_self ..)
    have ho := prod_odd (ps := ps) fun q hq => h q (List.mem_cons_of_mem _ hq)
    have ih := ih fun q hq => h q (List.mem_cons_of_mem _ hq)
    unfold Jb at ih ⊢
    simp only [List.map_cons, prodL]
    rw [ih, lg_two hp, e8_mul hp.2 ho.1]
theorem lg_prod {p : Int} (hp : OPr p) (qs : List Int) : lg p (prodL qs) = prodL (qs.map fun q => lg p q) := by
  induction qs with
  | nil =>
    show lg p 1 = 1
    unfold lg
    have h3 := hp.three
    rw [Int.one_pow, Int.emod_eq_of_lt (by omega) (by omega)]; rfl
  | cons q qs ih => simp only [List.map_cons, prodL]; rw [lg_mul hp, ih]
theorem e4_prod {x : Int} {qs : List Int} (h : OPrs qs) : prodL (qs.map fun q => e4 x q) = e4 x (prodL qs) := by
  induction qs with
  | nil => simp [prodL, e4]
  | cons q qs ih =>
    have ho := prod_odd (ps := qs) fun r hr => h r (List.mem_cons_of_mem _ hr)
    simp only [List.map_cons, prodL]
    rw [ih fun r hr => h r (List.mem_cons_of_mem _ hr), e4_mul (h q (List.mem_cons_self ..)).2 ho.1]
theorem Jb_recip {ps qs : List Int} (hp : OPrs ps) (hq : OPrs qs) : Jb ps (prodL qs) = e4 (prodL qs) (prodL ps) * Jb qs (prodL ps) := by
  unfold Jb
  have e1 : prodL (ps.map fun p => lg p (prodL qs)) = prodL (ps.map fun p => e4 (prodL qs) p * prodL (qs.map fun q => lg q p)) := by
    refine prodL_congr fun p hpm => ?_
    rw [lg_prod (hp p hpm), e4_comm, ← e4_prod hq, ← prodL_map_mul]
    exact prodL_congr fun q hqm => lg_recip (hp p hpm) (hq q hqm)
  rw [e1, prodL_map_mul, e4_prod hp, prodL_swap (fun p q => lg q p)]
  congr 1
  exact prodL_congr fun q hqm => (lg_prod (hq q hqm) ps).symm
theorem prodL_app2 (l t : List Int) : prodL (l ++ t) = prodL l * prodL t := prodL_append l t
theorem factors : ∀ (n : Nat) (a : Int), a.toNat ≤ n → 1 ≤ a → a % 2 = 1 → ∃ qs, OPrs qs ∧ prodL qs = a := by
  intro n
  induction n with
  | zero => intro a h1 h2; omega
  | succ n ih =>
    intro a h1 h2 h3
    by_cases ha1 : a = 1
    · exact ⟨[], (fun q hq => by cases hq), by rw [ha1]; rfl⟩
    · by_cases hpr : Pr a
      · exact ⟨[a], (fun q hq => by rw [List.mem_singleton.1 hq]; exact ⟨hpr, h3⟩), by simp [prodL]⟩
      · have hex : ∃ d, 2 ≤ d ∧ d < a ∧ a % d = 0 := by
          by_cases hh : ∃ d, 2 ≤ d ∧ d < a ∧ a % d = 0
          · exact hh
          · exact absurd ⟨by omega, fun d hd1 hd2 hd3 => hh ⟨d, hd1, hd2, hd3⟩⟩ hpr
        obtain ⟨d, hd1, hd2, hd3⟩ := hex
        have hda : d * (a / d) = a := by have := Int.mul_ediv_add_emod a d; omega
        have hq0 : 0 < a / d := Int.ediv_pos_of_pos_of_dvd (by omega) (by omega) (Int.dvd_of_emod_eq_zero hd3)
        have hqlt : a / d < a := by
          have : 2 * (a / d) ≤ d * (a / d) := Int.mul_le_mul_of_nonneg_right hd1 (by omega)
          omega
        have hpar : d % 2 = 1 ∧ (a / d) % 2 = 1 := by
          have h4 : (d % 2) * ((a / d) % 2) % 2 = 1 := by rw [← Int.mul_emod, hda]; exact h3
          rcases (by omega : d % 2 = 0 ∨ d % 2 = 1) with e | e <;> rcases (by omega : (a / d) % 2 = 0 ∨ (a / d) % 2 = 1) with f | f <;> rw [e, f] at h4 <;> first | exact ⟨e, f⟩ | (exfalso; revert h4; decide)
        obtain ⟨q1, hq1, e1⟩ := ih d (by omega) (by omega) hpar.1
        obtain ⟨q2, hq2, e2⟩ := ih (a / d) (by omega) (by omega) hpar.2
        refine ⟨q1 ++ q2, fun q hq => ?_, by rw [prodL_append, e1, e2, hda]⟩
        rcases List.mem_append.1 hq with h | h
        · exact hq1 q h
        · exact hq2 q h
/-! ### the algorithm's steps -/
/-- What the loop of the symbol keeps: T is the sign so far times a symbol. -/
def JInv (T s a n : Int) : Prop := ∃ ps, OPrs ps ∧ prodL ps = n ∧ T = s * Jb ps a
theorem jinv_start {p a : Int} (hp : OPr p) : JInv (lg p a) 1 a p := ⟨[p], (fun q hq => by rw [List.mem_singleton.1 hq]; exact hp), by simp [prodL], by simp [Jb, prodL]⟩
theorem jinv_half {T s a n : Int} (h : JInv T s a n) (he : a % 2 = 0) : JInv T (if n % 8 = 3 ∨ n % 8 = 5 then -s else s) (a / 2) n := by
  obtain ⟨ps, h1, h2, h3⟩ := h
  refine ⟨ps, h1, h2, ?_⟩
  have ho := prod_odd h1
  have ha : a = 2 * (a / 2) := by omega
  rw [ha, Jb_mul h1, Jb_two h1, h2] at h3
  rw [h3]
  rw [h2] at ho
  unfold e8
  by_cases h8 : n % 8 = 3 ∨ n % 8 = 5
  · rw [if_pos h8, if_neg (by omega)]; simp [Int.mul_neg, Int.neg_mul]
  · rw [if_neg h8, if_pos (by omega)]; simp
theorem jinv_swap {T s a n : Int} (h : JInv T s a n) (h0 : 0 < a) (ho : a % 2 = 1) : JInv T (if a % 4 = 3 ∧ n % 4 = 3 then -s else s) (n % a) a := by
  obtain ⟨ps, h1, h2, h3⟩ := h
  obtain ⟨qs, q1, q2⟩ := factors a.toNat a (Nat.le_refl _) (by omega) ho
  refine ⟨qs, q1, q2, ?_⟩
  have hr := Jb_recip h1 q1
  rw [q2, h2] at hr
  rw [h3, hr]
  have hmod := Jb_mod q1 n
  rw [q2] at hmod
  rw [hmod]
  unfold e4
  by_cases h4 : a % 4 = 3 ∧ n % 4 = 3
  · rw [if_pos h4, if_pos h4]; simp [Int.mul_neg, Int.neg_mul]
  · rw [if_neg h4, if_neg h4]; simp
theorem jinv_end {T s n : Int} (h : JInv T s 0 n) : T = if n = 1 then s else 0 := by
  obtain ⟨ps, h1, h2, h3⟩ := h
  by_cases hn : ps = []
  · subst hn
    simp only [prodL] at h2
    rw [if_pos h2.symm, h3]
    simp [Jb, prodL]
  · have := prod_ge h1 hn
    rw [if_neg (by omega), h3]
    cases ps with
    | nil => exact absurd rfl hn
    | cons p ps =>
      unfold Jb
      simp only [List.map_cons, prodL]
      rw [lg_zero (h1 p (List.mem_cons_self ..)) (Int.zero_emod _), Int.zero_mul, Int.mul_zero]
theorem jinv_odd {T s a n : Int} (h : JInv T s a n) : n % 2 = 1 ∧ 1 ≤ n := by
  obtain ⟨ps, h1, h2, _⟩ := h
  rw [← h2]; exact prod_odd h1
end Go.QF
