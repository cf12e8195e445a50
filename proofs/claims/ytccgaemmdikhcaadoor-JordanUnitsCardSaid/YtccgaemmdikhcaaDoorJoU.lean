/-
  Plain: units at the eight primes, and the list that the law JordanUnits turns back. No condition.
-/
import Derived.Test.YtccgaemmdikhcaaDoorJoS
namespace Go.QF
open Go
set_option linter.unusedVariables false
theorem leg_zero {a p : Nat} (h : a % p = 0) : leg a p = 0 := by unfold leg; rw [h]; rfl
theorem mulJ_ne {p a c : Nat} (hp : p ∈ p8) (ha : a % p ≠ 0) (hc : c % p ≠ 0) : (a * c) % p ≠ 0 := by
  intro he
  have h1 := leg_mul hp a c
  rw [leg_zero he] at h1
  rcases leg_pm ha with h | h <;> rcases leg_pm hc with h' | h' <;> rw [h, h'] at h1 <;> simp at h1
theorem leg_sq {p c : Nat} (hc : c % p ≠ 0) : leg c p * leg c p = 1 := by
  rcases leg_pm hc with h | h <;> rw [h] <;> rfl
def setA (b : Blk) (x : Int) : Blk := ⟨b.exp, b.size, x, b.b, b.c⟩
theorem good_of_made {p : Nat} (hp : p ∈ p8) {Bs : List Blk} (H : Made (p : Int) 8 Bs) (h1 : 1 ≤ Bs.length) : GoodJ p Bs := by
  have hr := p8_range hp
  refine ⟨fun b hb => ?_, H.asc, h1, H.len⟩
  obtain ⟨hex, h | h⟩ := H.wf b hb
  · have hs := H.sm b hb
    refine ⟨h.1, hex.1, hex.2, h.2.2.1, h.2.2.2, hs.1, by omega, fun he => h.2.1 ?_⟩
    have : ((b.a.toNat % p : Nat) : Int) = b.a % (p : Int) := by rw [Int.natCast_emod, Int.toNat_of_nonneg hs.1]
    omega
  · have := h.2.1; omega
theorem good_set {p : Nat} {Bs : List Blk} (H : GoodJ p Bs) {i : Nat} {b : Blk} (hi : Bs[i]? = some b) {x : Int} (h0 : 0 ≤ x) (h1 : x ≤ 100000000) (h2 : x.toNat % p ≠ 0) : GoodJ p (Bs.set i (setA b x)) := by
  have hex : ∀ (j : Nat) (y : Blk), (Bs.set i (setA b x))[j]? = some y → ∃ z : Blk, Bs[j]? = some z ∧ z.exp = y.exp := by
    intro j y hy
    rw [List.getElem?_set] at hy
    by_cases hj : i = j
    · subst hj
      rw [if_pos rfl, if_pos (List.getElem?_eq_some_iff.1 hi).1] at hy
      cases hy
      exact ⟨b, hi, rfl⟩
    · rw [if_neg hj] at hy
      exact ⟨y, hy, rfl⟩
  refine ⟨fun y hy => ?_, fun j u v hj hu hv => ?_, by rw [List.length_set]; exact H.lo, by rw [List.length_set]; exact H.hi⟩
  · rcases List.mem_or_eq_of_mem_set hy with hy | rfl
    · exact H.wf y hy
    · obtain ⟨w1, w2, w3, w4, w5, _⟩ := H.wf b (List.mem_of_getElem? hi)
      exact ⟨w1, w2, w3, w4, w5, h0, h1, h2⟩
  · rw [List.length_set] at hj
    obtain ⟨u', hu', hue⟩ := hex _ _ hu
    obtain ⟨v', hv', hve⟩ := hex _ _ hv
    rw [← hue, ← hve]
    exact H.asc j u' v' hj hu' hv'
theorem toNat_mul {a : Int} (h : 0 ≤ a) (n : Nat) : (a * (n : Int)).toNat = a.toNat * n := by
  obtain ⟨k, rfl⟩ := Int.eq_ofNat_of_zero_le h
  rw [← Int.natCast_mul]; exact Int.toNat_natCast _
theorem unit_sq {p c : Nat} (hp : p ∈ p8) {b : Blk} (hb : 0 ≤ b.a) (hc : c % p ≠ 0) : sJ p (setA b (b.a * ((c * c : Nat) : Int))) = sJ p b := by
  unfold sJ setA
  simp only
  rw [toNat_mul hb, leg_mul hp, leg_mul hp, leg_sq hc, Int.mul_one]
theorem unit_cu {p c : Nat} (hp : p ∈ p8) {b : Blk} (hb : 0 ≤ b.a) (hc : c % p ≠ 0) : sJ p (setA b (b.a * ((c * c : Nat) : Int) * (c : Int))) = sJ p b * leg c p := by
  unfold sJ setA
  simp only
  have h0 : 0 ≤ b.a * ((c * c : Nat) : Int) := Int.mul_nonneg hb (by omega)
  rw [toNat_mul h0, toNat_mul hb, leg_mul hp, leg_mul hp, leg_mul hp, leg_sq hc, Int.mul_one]
/-- What the law has turned back so far. -/
def DJ (A : List Con) (e t : Int) (n : Nat) : List Con := A.take n ++ (A.map (FJ e t)).drop n
theorem DJ_zero (A : List Con) (e t : Int) : DJ A e t 0 = A.map (FJ e t) := by simp [DJ]
theorem DJ_all (A : List Con) (e t : Int) : DJ A e t A.length = A := by simp [DJ]
theorem DJ_len (A : List Con) (e t : Int) {n : Nat} (h : n ≤ A.length) : (DJ A e t n).length = A.length := by simp [DJ]; omega
theorem DJ_get {A : List Con} {e t : Int} {n : Nat} {x : Con} (h : A[n]? = some x) : (DJ A e t n)[n]? = some (FJ e t x) := by
  have hl := (List.getElem?_eq_some_iff.1 h).1
  unfold DJ
  rw [List.getElem?_append_right (by simp; omega), List.getElem?_drop]
  simp only [List.length_take, List.getElem?_map]
  rw [show n + (n - min n A.length) = n by omega, h]
  rfl
theorem DJ_set {A : List Con} {e t : Int} {n : Nat} {x : Con} (h : A[n]? = some x) : (DJ A e t n).set n x = DJ A e t (n + 1) := by
  have hl := (List.getElem?_eq_some_iff.1 h).1
  apply List.ext_getElem?
  intro j
  rw [List.getElem?_set]
  by_cases hj : n = j
  · subst hj
    rw [if_pos rfl, if_pos (by rw [DJ_len _ _ _ (by omega)]; exact hl)]
    unfold DJ
    rw [List.getElem?_append_left (by simp; omega), List.getElem?_take, if_pos (by omega), h]
  · rw [if_neg hj]
    unfold DJ
    rcases Nat.lt_or_ge j n with hjn | hjn
    · rw [List.getElem?_append_left (by simp; omega), List.getElem?_append_left (by simp; omega), List.getElem?_take, List.getElem?_take, if_pos hjn, if_pos (by omega)]
    · rw [List.getElem?_append_right (by simp; omega), List.getElem?_append_right (by simp; omega), List.getElem?_drop, List.getElem?_drop]
      simp only [List.length_take]
      congr 1
      omega
theorem DJ_skip {A : List Con} {e t : Int} {n : Nat} {x : Con} (h : A[n]? = some x) (hx : x.exp ≠ e) : DJ A e t (n + 1) = DJ A e t n := by
  rw [← DJ_set h]
  have := DJ_get (e := e) (t := t) h
  rw [FJ_ne hx] at this
  exact set_same this
end Go.QF
