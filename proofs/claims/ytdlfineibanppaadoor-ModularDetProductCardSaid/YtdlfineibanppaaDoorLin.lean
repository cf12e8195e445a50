/-
  Plain: combinations of rows modulo a number, and that row operations keep them. No condition.
-/
import Derived.Test.YtdlfineibanppaaDoorTriS
namespace Go.QF
set_option linter.unusedVariables false

/-! ### sums -/
theorem psum_add (f g : Nat → Int) (n : Nat) : psum (fun i => f i + g i) n = psum f n + psum g n := by
  induction n with
  | zero => rfl
  | succ n ih => simp only [psum]; rw [ih]; omega
theorem psum_mul (c : Int) (f : Nat → Int) (n : Nat) : psum (fun i => c * f i) n = c * psum f n := by
  induction n with
  | zero => simp [psum]
  | succ n ih => simp only [psum]; rw [ih, Int.mul_add]
theorem psum_zero (n : Nat) : psum (fun _ => 0) n = 0 := by
  induction n with
  | zero => rfl
  | succ n ih => simp only [psum]; rw [ih]; rfl
theorem psum_comm (f : Nat → Nat → Int) (n m : Nat) : psum (fun i => psum (fun j => f i j) m) n = psum (fun j => psum (fun i => f i j) n) m := by
  induction n with
  | zero => simp only [psum]; exact (psum_zero m).symm
  | succ n ih =>
    simp only [psum]
    rw [ih, ← psum_add]
/-- One term is another. -/
theorem psum_upd {f g : Nat → Int} {n a : Nat} (ha : a < n) (h : ∀ i, i ≠ a → g i = f i) : psum g n = psum f n + (g a - f a) := by
  induction n with
  | zero => omega
  | succ n ih =>
    simp only [psum]
    by_cases hn : a = n
    · subst hn
      rw [psum_congr (f := g) (g := f) (fun k hk => h k (by omega))]; omega
    · rw [ih (by omega), h n (fun he => hn he.symm)]; omega
theorem psum_one {f : Nat → Int} {n a : Nat} (ha : a < n) (h : ∀ i, i ≠ a → f i = 0) : psum f n = f a := by
  rw [psum_upd (f := fun _ => 0) ha h, psum_zero]; omega
/-! ### congruence -/
def Eqm (m a b : Int) : Prop := a % m = b % m
theorem Eqm.refl (m a : Int) : Eqm m a a := rfl
theorem Eqm.of_eq {m a b : Int} (h : a = b) : Eqm m a b := h ▸ rfl
theorem Eqm.symm {m a b : Int} (h : Eqm m a b) : Eqm m b a := Eq.symm h
theorem Eqm.trans {m a b c : Int} (h : Eqm m a b) (k : Eqm m b c) : Eqm m a c := Eq.trans h k
theorem Eqm.add {m a b c d : Int} (h : Eqm m a b) (k : Eqm m c d) : Eqm m (a + c) (b + d) := by
  unfold Eqm at *; rw [Int.add_emod, h, k, ← Int.add_emod]
theorem Eqm.sub {m a b c d : Int} (h : Eqm m a b) (k : Eqm m c d) : Eqm m (a - c) (b - d) := by
  unfold Eqm at *; rw [Int.sub_emod, h, k, ← Int.sub_emod]
theorem Eqm.mul {m a b c d : Int} (h : Eqm m a b) (k : Eqm m c d) : Eqm m (a * c) (b * d) := by
  unfold Eqm at *; rw [Int.mul_emod, h, k, ← Int.mul_emod]
theorem Eqm.mod (m a : Int) : Eqm m (a % m) a := Int.emod_emod_of_dvd a (Int.dvd_refl m)
theorem Eqm.psum {m : Int} {f g : Nat → Int} {n : Nat} (h : ∀ i, i < n → Eqm m (f i) (g i)) : Eqm m (psum f n) (psum g n) := by
  induction n with
  | zero => rfl
  | succ n ih => exact (ih fun i hi => h i (by omega)).add (h n (by omega))
theorem Eqm.zero {m a : Int} (h : Eqm m a 0) : a % m = 0 := by simpa [Eqm] using h
theorem eqm_of_bd {m a b : Int} (h : Eqm m a b) (ha : 0 ≤ a ∧ a < m) (hb : 0 ≤ b ∧ b < m) : a = b := by
  unfold Eqm at h
  rwa [Int.emod_eq_of_lt ha.1 ha.2, Int.emod_eq_of_lt hb.1 hb.2] at h
/-! ### combinations of rows -/
def comb (r : Nat) (y : Nat → Int) (F : Nat → Nat → Int) (q : Nat) : Int := psum (fun i => y i * F i q) r
def updY (y : Nat → Int) (a : Nat) (t : Int) : Nat → Int := fun i => if i = a then t else y i
theorem updY_same (y : Nat → Int) (a : Nat) (t : Int) : updY y a t a = t := if_pos rfl
theorem updY_ne (y : Nat → Int) {a i : Nat} (t : Int) (h : i ≠ a) : updY y a t i = y i := if_neg h
theorem comb_setF {r a : Nat} {y : Nat → Int} {F : Nat → Nat → Int} {g : Nat → Int} {q : Nat} (ha : a < r) : comb r y (setF F a g) q = comb r y F q + y a * (g q - F a q) := by
  unfold comb
  rw [psum_upd (f := fun i => y i * F i q) ha (fun i hi => by rw [setF_ne _ _ hi]), setF_same, Int.mul_sub]
theorem comb_updY {r a : Nat} {y : Nat → Int} {t : Int} {F : Nat → Nat → Int} {q : Nat} (ha : a < r) : comb r (updY y a t) F q = comb r y F q + (t - y a) * F a q := by
  unfold comb
  rw [psum_upd (f := fun i => y i * F i q) ha (fun i hi => by rw [updY_ne _ _ hi]), updY_same, Int.sub_mul]
theorem comb_eqm {r : Nat} {m : Int} {y y' : Nat → Int} {F : Nat → Nat → Int} {q : Nat} (h : ∀ i, i < r → Eqm m (y i) (y' i)) : Eqm m (comb r y F q) (comb r y' F q) :=
  Eqm.psum fun i hi => (h i hi).mul (Eqm.refl _ _)
theorem comb_unit {r a : Nat} {F : Nat → Nat → Int} {q : Nat} (ha : a < r) : comb r (updY (fun _ => 0) a 1) F q = F a q := by
  unfold comb
  rw [psum_one ha (fun i hi => by rw [updY_ne _ _ hi]; simp), updY_same]; simp
/-- The same combinations, and none of F' that vanishes unless one of F does. -/
def RowEq (r c : Nat) (m : Int) (F F' : Nat → Nat → Int) : Prop :=
  (∀ y', ∃ y, (∀ q, q < c → Eqm m (comb r y' F' q) (comb r y F q)) ∧ ((∀ i, i < r → Eqm m (y i) 0) → ∀ i, i < r → Eqm m (y' i) 0)) ∧
  (∀ y, ∃ y', ∀ q, q < c → Eqm m (comb r y F q) (comb r y' F' q))
theorem RowEq.refl (r c : Nat) (m : Int) (F : Nat → Nat → Int) : RowEq r c m F F := ⟨fun y => ⟨y, fun _ _ => rfl, fun h => h⟩, fun y => ⟨y, fun _ _ => rfl⟩⟩
theorem RowEq.trans {r c : Nat} {m : Int} {F G H : Nat → Nat → Int} (h : RowEq r c m F G) (k : RowEq r c m G H) : RowEq r c m F H := by
  refine ⟨fun y2 => ?_, fun y0 => ?_⟩
  · obtain ⟨y1, e1, z1⟩ := k.1 y2
    obtain ⟨y0, e0, z0⟩ := h.1 y1
    exact ⟨y0, fun q hq => (e1 q hq).trans (e0 q hq), fun hz => z1 (z0 hz)⟩
  · obtain ⟨y1, e1⟩ := h.2 y0
    obtain ⟨y2, e2⟩ := k.2 y1
    exact ⟨y2, fun q hq => (e1 q hq).trans (e2 q hq)⟩
theorem rowEq_swap {r c a b : Nat} {m : Int} {F : Nat → Nat → Int} (ha : a < r) (hb : b < r) : RowEq r c m F (swapF F a b) := by
  by_cases hab : a = b
  · subst hab
    have : swapF F a a = F := by
      funext k
      by_cases hk : k = a
      · subst hk; rw [swapF_at]
      · rw [swapF_ne _ hk hk]
    rw [this]; exact RowEq.refl _ _ _ _
  · have key : ∀ y q, comb r y (swapF F a b) q = comb r (updY (updY y a (y b)) b (y a)) F q := by
      intro y q
      unfold swapF
      rw [comb_setF hb, comb_setF ha, setF_ne _ _ (Ne.symm hab), comb_updY hb, comb_updY ha, updY_ne _ _ (Ne.symm hab)]
      grind
    refine ⟨fun y' => ⟨_, fun q _ => Eqm.of_eq (key y' q), fun hz i hi => ?_⟩, fun y => ⟨updY (updY y a (y b)) b (y a), fun q _ => Eqm.of_eq ?_⟩⟩
    · by_cases h1 : i = a
      · subst h1; have := hz b hb; rw [updY_same] at this; exact this
      · by_cases h2 : i = b
        · subst h2; have := hz a ha; rw [updY_ne _ _ hab, updY_same] at this; exact this
        · have := hz i hi; rw [updY_ne _ _ h2, updY_ne _ _ h1] at this; exact this
    · rw [key]
      congr 1
      funext i
      by_cases h1 : i = b
      · subst h1; rw [updY_same, updY_ne _ _ hab, updY_same]
      · rw [updY_ne _ _ h1]
        by_cases h2 : i = a
        · subst h2; rw [updY_same, updY_same]
        · rw [updY_ne _ _ h2, updY_ne _ _ h1, updY_ne _ _ h2]
theorem rowEq_scale {r c a : Nat} {m f g : Int} {F : Nat → Nat → Int} (ha : a < r) (hf : Eqm m (f * g) 1) : RowEq r c m F (scaleF F a f m) := by
  have key : ∀ y q, Eqm m (comb r y (scaleF F a f m) q) (comb r (updY y a (y a * f)) F q) := by
    intro y q
    unfold scaleF
    rw [comb_setF ha, comb_updY ha]
    refine (Eqm.refl _ _).add ?_
    refine ((Eqm.refl m (y a)).mul ((Eqm.mod m _).sub (Eqm.refl _ _))).trans (Eqm.of_eq ?_)
    grind
  refine ⟨fun y' => ⟨_, fun q _ => key y' q, fun hz i hi => ?_⟩, fun y => ⟨updY y a (y a * g), fun q _ => ((key _ q).trans (comb_eqm fun i hi => ?_)).symm⟩⟩
  · by_cases h1 : i = a
    · subst h1
      have := hz i ha
      rw [updY_same] at this
      have h2 := this.mul (Eqm.refl m g)
      refine Eqm.trans ?_ (h2.trans (Eqm.of_eq (by omega)))
      refine Eqm.trans (Eqm.of_eq (show y' i = y' i * 1 by omega)) (((Eqm.refl m (y' i)).mul hf.symm).trans (Eqm.of_eq ?_))
      rw [Int.mul_assoc]
    · have := hz i hi; rw [updY_ne _ _ h1] at this; exact this
  · by_cases h1 : i = a
    · subst h1
      rw [updY_same, updY_same, Int.mul_assoc, Int.mul_comm g f]
      exact ((Eqm.refl m (y i)).mul hf).trans (Eqm.of_eq (by omega))
    · rw [updY_ne _ _ h1, updY_ne _ _ h1]; exact Eqm.refl _ _
theorem rowEq_add {r c k top : Nat} {m e : Int} {F : Nat → Nat → Int} (hk : k < r) (ht : top < r) (hne : k ≠ top) : RowEq r c m F (setF F k fun q => (F k q + e * F top q) % m) := by
  have key : ∀ y q, Eqm m (comb r y (setF F k fun q => (F k q + e * F top q) % m) q) (comb r (updY y top (y top + y k * e)) F q) := by
    intro y q
    rw [comb_setF hk, comb_updY ht]
    refine (Eqm.refl _ _).add ?_
    refine ((Eqm.refl m (y k)).mul ((Eqm.mod m _).sub (Eqm.refl _ _))).trans (Eqm.of_eq ?_)
    grind
  refine ⟨fun y' => ⟨_, fun q _ => key y' q, fun hz i hi => ?_⟩, fun y => ⟨updY y top (y top - y k * e), fun q _ => ((key _ q).trans (comb_eqm fun i hi => ?_)).symm⟩⟩
  · by_cases h1 : i = top
    · subst h1
      have h2 := hz i ht
      have h3 := hz k hk
      rw [updY_same] at h2
      rw [updY_ne _ _ hne] at h3
      have h4 := h2.sub (h3.mul (Eqm.refl m e))
      refine Eqm.trans (Eqm.of_eq ?_) (h4.trans (Eqm.of_eq ?_))
      · omega
      · simp
    · have := hz i hi; rw [updY_ne _ _ h1] at this; exact this
  · by_cases h1 : i = top
    · subst h1
      rw [updY_same, updY_same, updY_ne _ _ hne]
      exact Eqm.of_eq (by omega)
    · rw [updY_ne _ _ h1, updY_ne _ _ h1]; exact Eqm.refl _ _
/-! ### the elimination keeps the combinations -/
theorem rowEq_elim {r c top j : Nat} {m : Int} {F : Nat → Nat → Int} (ht : top < r) : ∀ k, k ≤ r → RowEq r c m F (elimF F top j m k) := by
  intro k
  induction k with
  | zero => intro _; rw [elimF_zero]; exact RowEq.refl _ _ _ _
  | succ k ih =>
    intro hk
    refine (ih (by omega)).trans ?_
    by_cases h : k = top
    · subst h; rw [elimF_skip]; exact RowEq.refl _ _ _ _
    · rw [← elimF_step h]
      have := rowEq_add (c := c) (m := m) (e := m - F k j) (F := elimF F top j m k) (k := k) (top := top) (by omega) ht h
      rw [elimF_at, elimF_top] at this
      exact this
theorem rowEq_col {r c j : Nat} {p : Int} {s : (Nat → Nat → Int) × List Nat} (hp : Pr p) (H : Bd r c p s.1) (hj : j < c) : RowEq r c p s.1 (colS (invM p) r p j s).1 := by
  unfold colS
  dsimp only
  split
  · rename_i hi
    have hle := (firstNZ_le s.1 j (r - s.2.length) s.2.length).1
    have hne := firstNZ_ne s.1 j (r - s.2.length) s.2.length (by omega)
    have hb := H _ j hi hj
    have hinv := invM_ok hp (x := s.1 (firstNZ s.1 j (r - s.2.length) s.2.length) j) (by omega) hb.2
    refine ((rowEq_swap (by omega) hi).trans (rowEq_scale (g := s.1 (firstNZ s.1 j (r - s.2.length) s.2.length) j) (by omega) ?_)).trans (rowEq_elim (by omega) r (Nat.le_refl _))
    rw [swapF_at2]
    exact hinv.2.2
  · exact RowEq.refl _ _ _ _
theorem rowEq_ech {r c : Nat} {p : Int} {F : Nat → Nat → Int} (hp : Pr p) (H : Bd r c p F) : ∀ j, j ≤ c → RowEq r c p F (echTo (invM p) r p F j).1 := by
  have h2 := hp.1
  intro j
  induction j with
  | zero => intro _; exact RowEq.refl _ _ _ _
  | succ j ih => intro hj; exact (ih (by omega)).trans (rowEq_col hp (bd_ech (by omega) H j) (by omega))
end Go.QF
