/-
  Plain: the inverse that the row steps make is one on both sides. No condition.
-/
import Derived.Test.YtdlfineibanppaaDoorUni
import Derived.Test.YtdlfineibanppaaDoorInvH
namespace Go.QF
set_option linter.unusedVariables false
/-- The left half is the right half times A; the right half has an inverse from the left. -/
def InvQ (n : Nat) (m : Int) (A F : Nat → Nat → Int) : Prop :=
  (∀ i j, i < n → j < n → Eqm m (F i j) (psum (fun k => F i (n + k) * A k j) n)) ∧
  ∃ S : Nat → Nat → Int, ∀ i j, i < n → j < n → Eqm m (comb n (S i) F (n + j)) (dl i j)
theorem invQ_rowEq {n : Nat} {m : Int} {A F F' : Nat → Nat → Int} (E : RowEq n (n + n) m F F') (H : InvQ n m A F) : InvQ n m A F' := by
  obtain ⟨h1, S, h2⟩ := H
  refine ⟨fun i j hi hj => ?_, fun i => (E.2 (S i)).choose, fun i j hi hj => ((E.2 (S i)).choose_spec (n + j) (by omega)).symm.trans (h2 i j hi hj)⟩
  obtain ⟨y, e, _⟩ := E.1 (updY (fun _ => 0) i 1)
  have e' : ∀ q, q < n + n → Eqm m (F' i q) (comb n y F q) := fun q hq => by have := e q hq; rw [comb_unit hi] at this; exact this
  refine (e' j (by omega)).trans ?_
  have h3 : Eqm m (comb n y F j) (psum (fun a => y a * psum (fun k => F a (n + k) * A k j) n) n) := Eqm.psum fun a ha => (Eqm.refl _ _).mul (h1 a j ha hj)
  refine h3.trans ?_
  have h4 : psum (fun a => y a * psum (fun k => F a (n + k) * A k j) n) n = psum (fun k => comb n y F (n + k) * A k j) n := by
    unfold comb
    rw [psum_congr (g := fun a => psum (fun k => y a * F a (n + k) * A k j) n) (fun a _ => by rw [← psum_mul]; exact psum_congr fun k _ => by rw [Int.mul_assoc]), psum_comm]
    exact psum_congr fun k _ => by rw [Int.mul_comm, ← psum_mul]; exact psum_congr fun a _ => by rw [Int.mul_comm]
  rw [h4]
  exact Eqm.psum fun k hk => ((e' (n + k) (by omega)).symm).mul (Eqm.refl _ _)
theorem rowEq_step {r c a i : Nat} {q m : Int} {F : Nat → Nat → Int} (ha : a < r) (hi : i < r) (hne : a ≠ i) : RowEq r c m F (stepF F a i q m) :=
  (rowEq_add (e := m - q) ha hi hne).trans (rowEq_swap ha hi)
theorem invQ_aug {n : Nat} {m : Int} {A : Nat → Nat → Int} : InvQ n m A (augF n A) := by
  have h0 : ∀ i k, i < n → k < n → augF n A i (n + k) = dl i k := by
    intro i k hi hk
    unfold augF dl
    rw [if_neg (by omega)]
    by_cases h : i = k
    · subst h; simp
    · rw [if_neg h, if_neg (by omega)]
  refine ⟨fun i j hi hj => Eqm.of_eq ?_, dl, fun i j hi hj => Eqm.of_eq ?_⟩
  · rw [psum_congr (g := fun k => dl i k * A k j) (fun k hk => by rw [h0 i k hi hk])]
    rw [psum_one hi (fun k hk => by unfold dl; rw [if_neg (fun h => hk h.symm)]; simp)]
    simp [dl, augF, hj]
  · unfold comb
    rw [psum_congr (g := fun k => dl i k * dl k j) (fun k hk => by rw [h0 k j hk hj])]
    rw [psum_one hi (fun k hk => by unfold dl; rw [if_neg (fun h => hk h.symm)]; simp)]
    simp [dl]
theorem rowEq_back {n c : Nat} {m : Int} {F : Nat → Nat → Int} {k : Nat} (hk : k < n) (hu : ∃ y, IsInv m (F k k) y) : RowEq n c m F (backS m F k) := by
  obtain ⟨y, hy⟩ := hu
  have hinv := invM_spec hy
  unfold backS
  refine (rowEq_scale (g := F k k) hk ?_).trans (rowEq_elim hk k (by omega))
  exact hinv.2.2
theorem invQ_back {n : Nat} {m : Int} {A F : Nat → Nat → Int} (hm : 2 ≤ m) (hbd : Bd n (n + n) m F) (hz : Zc n F n) (hu : ∀ c, c < n → ∃ y, IsInv m (F c c) y) (H : InvQ n m A F) : ∀ j, j ≤ n → InvQ n m A (backTo m n F j) := by
  intro j
  induction j with
  | zero => intro _; exact H
  | succ j ih =>
    intro hj
    refine invQ_rowEq (rowEq_back (by omega) ?_) (ih (by omega))
    rw [back_col (by omega) hbd (by omega) hz j (by omega) (n - 1 - j) (n - 1 - j) (by omega) (by omega)]
    exact hu _ (by omega)
theorem back_id {n : Nat} {m : Int} {F : Nat → Nat → Int} (hm : 2 ≤ m) (hbd : Bd n (n + n) m F) (hz : Zc n F n) (hu : ∀ c, c < n → ∃ y, IsInv m (F c c) y) : ∀ j, j ≤ n → ∀ i c, i < n → n - j ≤ c → c < n → backTo m n F j i c = dl i c := by
  intro j
  induction j with
  | zero => intro _ i c _ h1 h2; omega
  | succ j ih =>
    intro hj i c hi h1 h2
    have hb := bd_back (n := n) (by omega : 0 < m) hbd j
    have hcol := back_col (m := m) (by omega) hbd (by omega) hz j (by omega)
    obtain ⟨G, hG⟩ : ∃ G, backTo m n F j = G := ⟨_, rfl⟩
    obtain ⟨k, hk⟩ : ∃ k, n - 1 - j = k := ⟨_, rfl⟩
    have hkn : k < n := by omega
    simp only [backTo, backS]
    rw [hG, hk] 
    rw [hG] at ih hb hcol
    have hkk : G k k = F k k := hcol k k hkn (by omega)
    obtain ⟨y, hy⟩ := hu k hkn
    have hinv := invM_spec hy
    rw [hkk]
    have hrow : ∀ q, scaleF G k (invM m (F k k)) m k q = G k q * invM m (F k k) % m := fun q => by unfold scaleF; rw [setF_same]
    have hoth : ∀ a, a ≠ k → scaleF G k (invM m (F k k)) m a = G a := fun a ha => by unfold scaleF; rw [setF_ne _ _ ha]
    have hone : scaleF G k (invM m (F k k)) m k k = 1 := by rw [hrow, hkk, Int.mul_comm, hinv.2.2, Int.emod_eq_of_lt (by omega) (by omega)]
    have hright : ∀ c, k < c → c < n → scaleF G k (invM m (F k k)) m k c = 0 := fun c h3 h4 => by
      rw [hrow, ih (by omega) k c hkn (by omega) h4]; unfold dl; rw [if_neg (by omega)]; simp
    by_cases hik : i = k
    · subst hik
      rw [elimF_top]
      by_cases hci : c = i
      · subst hci; rw [hone]; simp [dl]
      · rw [hright c (by omega) h2]; unfold dl; rw [if_neg (fun h => hci h.symm)]
    · by_cases hlt : i < k
      · rw [elimF_else hlt hik, hoth i hik]
        by_cases hck : c = k
        · subst hck
          rw [hone, Int.mul_one, show G i c + (m - G i c) = m by omega, Int.emod_self]
          unfold dl; rw [if_neg hik]
        · rw [hright c (by omega) h2, Int.mul_zero, Int.add_zero, ih (by omega) i c hi (by omega) h2]
          unfold dl; rw [if_neg (by omega)]; simp
      · have he : elimF (scaleF G k (invM m (F k k)) m) k k m k i c = G i c := by
          unfold elimF; rw [if_neg (by omega), hoth i hik]
        rw [he]
        by_cases hck : c = k
        · subst hck
          rw [hcol i c hi (by omega), hz c i hkn (by omega) hi]
          unfold dl; rw [if_neg hik]
        · exact ih (by omega) i c hi (by omega) h2
/-- The right half is an inverse on both sides. -/
theorem inv_both {n : Nat} {m : Int} {A F : Nat → Nat → Int} (hm : 2 ≤ m) (hbd : Bd n (n + n) m F) (hz : Zc n F n) (hu : ∀ c, c < n → ∃ y, IsInv m (F c c) y) (H : InvQ n m A F) :
    (∀ i j, i < n → j < n → Eqm m (psum (fun k => backTo m n F n i (n + k) * A k j) n) (dl i j)) ∧ (∀ i j, i < n → j < n → Eqm m (psum (fun k => A i k * backTo m n F n k (n + j)) n) (dl i j)) := by
  obtain ⟨h1, S, h2⟩ := invQ_back hm hbd hz hu H n (Nat.le_refl _)
  have hid := back_id hm hbd hz hu n (Nat.le_refl _)
  obtain ⟨G, hG⟩ : ∃ G, backTo m n F n = G := ⟨_, rfl⟩
  rw [hG] at h1 h2 hid ⊢
  have hBA : ∀ i j, i < n → j < n → Eqm m (psum (fun k => G i (n + k) * A k j) n) (dl i j) := fun i j hi hj => by
    have := h1 i j hi hj
    rw [hid i j hi (by omega) hj] at this
    exact this.symm
  refine ⟨hBA, fun i j hi hj => ?_⟩
  have hSA : ∀ i j, i < n → j < n → Eqm m (S i j) (A i j) := by
    intro i j hi hj
    have e1 : S i j = psum (fun k => S i k * dl k j) n := by
      rw [psum_one hj (fun k hk => by unfold dl; rw [if_neg hk]; simp)]; simp [dl]
    have e2 : Eqm m (psum (fun k => S i k * dl k j) n) (psum (fun k => S i k * psum (fun l => G k (n + l) * A l j) n) n) := Eqm.psum fun k hk => (Eqm.refl _ _).mul (hBA k j hk hj).symm
    have e3 : psum (fun k => S i k * psum (fun l => G k (n + l) * A l j) n) n = psum (fun l => comb n (S i) G (n + l) * A l j) n := by
      unfold comb
      rw [psum_congr (g := fun k => psum (fun l => S i k * G k (n + l) * A l j) n) (fun k _ => by rw [← psum_mul]; exact psum_congr fun l _ => by rw [Int.mul_assoc]), psum_comm]
      exact psum_congr fun l _ => by rw [Int.mul_comm, ← psum_mul]; exact psum_congr fun k _ => by rw [Int.mul_comm]
    have e4 : Eqm m (psum (fun l => comb n (S i) G (n + l) * A l j) n) (psum (fun l => dl i l * A l j) n) := Eqm.psum fun l hl => (h2 i l hi hl).mul (Eqm.refl _ _)
    have e5 : psum (fun l => dl i l * A l j) n = A i j := by
      rw [psum_one hi (fun k hk => by unfold dl; rw [if_neg (fun h => hk h.symm)]; simp)]; simp [dl]
    rw [e1]
    exact (e2.trans (Eqm.of_eq e3)).trans (e4.trans (Eqm.of_eq e5))
  refine Eqm.trans (Eqm.psum fun k hk => (hSA i k hi hk).symm.mul (Eqm.refl _ _)) ?_
  exact h2 i j hi hj
/-- A triangular matrix with an inverse from the left has units on its diagonal. -/
theorem tri_unit {n : Nat} {m : Int} {T L : Nat → Nat → Int} (hm : 2 ≤ m) (hL : ∀ i c, c < i → i < n → L i c = 0) (hT : ∀ i j, i < n → j < n → Eqm m (psum (fun k => T i k * L k j) n) (dl i j)) :
    ∀ c, c < n → Eqm m (T c c * L c c) 1 ∧ ∀ i, c < i → i < n → Eqm m (T i c) 0 := by
  intro c
  induction c using Nat.strongRecOn with
  | _ c ih =>
    intro hc
    have key : ∀ i, c ≤ i → i < n → Eqm m (T i c * L c c) (dl i c) := by
      intro i h1 h2
      refine Eqm.trans ?_ (hT i c h2 hc)
      have e1 : Eqm m (psum (fun k => T i k * L k c) n) (psum (fun k => if k = c then T i c * L c c else 0) n) := Eqm.psum fun k hk => by
        by_cases h3 : k = c
        · subst h3; rw [if_pos rfl]; exact Eqm.refl _ _
        · rw [if_neg h3]
          rcases Nat.lt_or_ge k c with h4 | h4
          · exact (((ih k h4 (by omega)).2 i (by omega) h2).mul (Eqm.refl _ _)).trans (Eqm.of_eq (by simp))
          · rw [hL k c (by omega) hk]; exact Eqm.of_eq (by simp)
      refine Eqm.trans (Eqm.of_eq ?_) e1.symm
      rw [psum_one hc (fun k hk => if_neg hk), if_pos rfl]
    have hcc : Eqm m (T c c * L c c) 1 := by have := key c (Nat.le_refl _) hc; simpa [dl] using this
    refine ⟨hcc, fun i h1 h2 => ?_⟩
    have h3 := key i (by omega) h2
    unfold dl at h3
    rw [if_neg (by omega)] at h3
    have h4 := h3.mul (Eqm.refl m (T c c))
    refine Eqm.trans ?_ (h4.trans (Eqm.of_eq (by simp)))
    refine Eqm.trans (Eqm.of_eq (show T i c = T i c * 1 by omega)) (((Eqm.refl m (T i c)).mul hcc.symm).trans (Eqm.of_eq ?_))
    grind
/-- A matrix with an inverse from the left is never called singular. -/
theorem uni_unit {n : Nat} {m : Int} {A F V : Nat → Nat → Int} (hm : 2 ≤ m) (hz : Zc n F n) (H : InvQ n m A F) (hV : ∀ i j, i < n → j < n → Eqm m (psum (fun k => V i k * A k j) n) (dl i j)) : ∀ c, c < n → ∃ y, IsInv m (F c c) y := by
  obtain ⟨h1, S, h2⟩ := H
  have hT : ∀ i j, i < n → j < n → Eqm m (psum (fun k => psum (fun a => V i a * S a k) n * F k j) n) (dl i j) := by
    intro i j hi hj
    have e1 : Eqm m (psum (fun k => psum (fun a => V i a * S a k) n * F k j) n) (psum (fun k => psum (fun a => V i a * S a k) n * psum (fun l => F k (n + l) * A l j) n) n) := Eqm.psum fun k hk => (Eqm.refl _ _).mul (h1 k j hk hj)
    have e2 : psum (fun k => psum (fun a => V i a * S a k) n * psum (fun l => F k (n + l) * A l j) n) n = psum (fun a => V i a * psum (fun l => comb n (S a) F (n + l) * A l j) n) n := by
      have s1 : ∀ k, psum (fun a => V i a * S a k) n * psum (fun l => F k (n + l) * A l j) n = psum (fun a => V i a * (S a k * psum (fun l => F k (n + l) * A l j) n)) n := fun k => by
        rw [Int.mul_comm, ← psum_mul]; exact psum_congr fun a _ => by rw [Int.mul_comm, Int.mul_assoc]
      rw [psum_congr (fun k _ => s1 k), psum_comm]
      refine psum_congr fun a _ => ?_
      rw [psum_mul]
      congr 1
      unfold comb
      rw [psum_congr (g := fun k => psum (fun l => S a k * F k (n + l) * A l j) n) (fun k _ => by rw [← psum_mul]; exact psum_congr fun l _ => by rw [Int.mul_assoc]), psum_comm]
      exact psum_congr fun l _ => by rw [Int.mul_comm, ← psum_mul]; exact psum_congr fun k _ => by rw [Int.mul_comm]
    have e3 : Eqm m (psum (fun a => V i a * psum (fun l => comb n (S a) F (n + l) * A l j) n) n) (psum (fun a => V i a * A a j) n) := Eqm.psum fun a ha => by
      refine (Eqm.refl _ _).mul ?_
      refine (Eqm.psum (g := fun l => dl a l * A l j) fun l hl => (h2 a l ha hl).mul (Eqm.refl _ _)).trans (Eqm.of_eq ?_)
      rw [psum_one ha (fun k hk => by unfold dl; rw [if_neg (fun h => hk h.symm)]; simp)]; simp [dl]
    exact (e1.trans (Eqm.of_eq e2)).trans (e3.trans (hV i j hi hj))
  intro c hc
  have := (tri_unit hm (fun i c h3 h4 => hz c i (by omega) h3 h4) hT c hc).1
  refine ⟨psum (fun a => V c a * S a c) n % m, Int.emod_nonneg _ (by omega), Int.emod_lt_of_pos _ (by omega), ?_⟩
  rw [Int.mul_emod, Int.emod_emod, ← Int.mul_emod]
  exact this
end Go.QF
