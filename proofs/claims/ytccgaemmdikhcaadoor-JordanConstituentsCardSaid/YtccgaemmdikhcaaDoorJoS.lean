/-
  Plain: the constituents at an odd prime, as products of classes; what a change of one block does. No condition.
-/
import Derived.Test.YtccgaemmdikhcaaDoorDyB
import Derived.KernelRfl
namespace Go.QF
open Go
set_option linter.unusedVariables false
def p8 : List Nat := [3, 5, 7, 11, 13, 17, 19, 23]
def isSq (a p : Nat) : Bool := (List.range p).any fun x => Nat.beq (x * x % p) a
/-- The class of a modulo p. -/
def leg (a p : Nat) : Int := bif Nat.beq (a % p) 0 then 0 else bif isSq (a % p) p then 1 else -1
theorem leg_pm {a p : Nat} (h : a % p ≠ 0) : leg a p = 1 ∨ leg a p = -1 := by
  unfold leg
  have : Nat.beq (a % p) 0 = false := by
    cases hb : Nat.beq (a % p) 0 with
    | false => rfl
    | true => exact absurd (Nat.eq_of_beq_eq_true hb) h
  rw [this]
  cases isSq (a % p) p <;> simp
theorem leg_mod (a p : Nat) : leg (a % p) p = leg a p := by unfold leg; rw [Nat.mod_mod]
theorem leg_all : (p8.all fun p => (List.range p).all fun x => (List.range p).all fun y => decide (leg (x * y) p = leg x p * leg y p)) = true := by kernel_rfl
theorem leg_mul {p : Nat} (hp : p ∈ p8) (x y : Nat) : leg (x * y) p = leg x p * leg y p := by
  have h0 : 0 < p := by
    rcases List.mem_cons.1 hp with rfl | hp <;> first | omega | skip
    simp at hp
    omega
  have := of_decide_eq_true (List.all_eq_true.1 (List.all_eq_true.1 (List.all_eq_true.1 leg_all p hp) (x % p) (List.mem_range.2 (Nat.mod_lt _ h0))) (y % p) (List.mem_range.2 (Nat.mod_lt _ h0)))
  rw [leg_mod, leg_mod, ← leg_mod, ← Nat.mul_mod, leg_mod] at this
  exact this
theorem p8_range {p : Nat} (hp : p ∈ p8) : 3 ≤ p ∧ p ≤ 23 := by
  simp [p8] at hp
  omega
/-- The class of a block's number. -/
def sJ (p : Nat) (b : Blk) : Int := leg b.a.toNat p
def incJ (p : Nat) (c : Con) (b : Blk) : Con := ⟨c.exp, c.dim + 1, c.sign * sJ p b, c.odd, c.oddity⟩
structure GoodJ (p : Nat) (Bs : List Blk) : Prop where
  wf : ∀ b ∈ Bs, b.size = 1 ∧ 0 ≤ b.exp ∧ b.exp ≤ 60 ∧ b.b = 0 ∧ b.c = 0 ∧ 0 ≤ b.a ∧ b.a ≤ 100000000 ∧ b.a.toNat % p ≠ 0
  asc : Asc Bs Bs.length
  lo : 1 ≤ Bs.length
  hi : Bs.length ≤ 8
def SmJ (m : Int) (c : Con) : Prop := (c.sign = 1 ∨ c.sign = -1) ∧ 0 ≤ c.dim ∧ c.dim ≤ m
theorem smJ_inc {p : Nat} {m : Int} {c : Con} {b : Blk} (H : SmJ m c) (hb : b.a.toNat % p ≠ 0) : SmJ (m + 1) (incJ p c b) := by
  obtain ⟨h1, h2, h3⟩ := H
  refine ⟨?_, by simp only [incJ]; omega, by simp only [incJ]; omega⟩
  simp only [incJ, sJ]
  rcases h1 with h | h <;> rcases leg_pm hb with h' | h' <;> rw [h, h'] <;> simp
theorem smJ_mono {m m' : Int} {c : Con} (H : SmJ m c) (h : m ≤ m') : SmJ m' c := ⟨H.1, H.2.1, by have := H.2.2; omega⟩
theorem smJ_cons {p : Nat} {Bs : List Blk} (H : GoodJ p Bs) : ∀ i, ∀ c ∈ consTo (incJ p) Bs i, SmJ (i : Int) c := by
  intro i
  induction i with
  | zero => intro c hc; simp [consTo] at hc
  | succ i ih =>
    intro c hc
    unfold consTo at hc
    split at hc
    · rename_i b hb
      have hbm := H.wf b (List.mem_of_getElem? hb)
      unfold addC at hc
      split at hc
      · rename_i c' hc'
        split at hc
        · rcases List.mem_append.1 hc with h | h
          · exact smJ_mono (ih c (List.dropLast_subset _ h)) (by omega)
          · rw [List.mem_singleton.1 h]
            have := smJ_inc (ih c' (List.mem_of_getLast? hc')) hbm.2.2.2.2.2.2.2
            exact smJ_mono this (by omega)
        · rcases List.mem_append.1 hc with h | h
          · exact smJ_mono (ih c h) (by omega)
          · rw [List.mem_singleton.1 h]
            exact smJ_mono (smJ_inc (m := 0) ⟨.inl rfl, Int.le_refl _, Int.le_refl _⟩ hbm.2.2.2.2.2.2.2) (by omega)
      · rw [List.mem_singleton.1 hc]
        exact smJ_mono (smJ_inc (m := 0) ⟨.inl rfl, Int.le_refl _, Int.le_refl _⟩ hbm.2.2.2.2.2.2.2) (by omega)
    · exact smJ_mono (ih c hc) (by omega)
/-! ### ascending -/
theorem consJ_asc {p : Nat} {Bs : List Blk} (H : GoodJ p Bs) : ∀ i, i ≤ Bs.length → (consTo (incJ p) Bs i).Pairwise (fun c d => c.exp < d.exp) ∧ ∀ c ∈ consTo (incJ p) Bs i, ∀ b, Bs[i]? = some b → c.exp ≤ b.exp := by
  intro i
  induction i with
  | zero => intro _; exact ⟨by simp [consTo], fun c hc => by simp [consTo] at hc⟩
  | succ i ih =>
    intro hi
    obtain ⟨ihp, ihb⟩ := ih (by omega)
    obtain ⟨b, hb⟩ : ∃ b, Bs[i]? = some b := ⟨_, List.getElem?_eq_getElem (by omega)⟩
    have hle := fun c hc => ihb c hc b hb
    have hnext : ∀ b2, Bs[i + 1]? = some b2 → b.exp ≤ b2.exp := fun b2 hb2 => H.asc i b b2 (by have := (List.getElem?_eq_some_iff.1 hb2).1; omega) hb hb2
    rw [consTo_succ hb]
    unfold addC
    split
    · rename_i c hc
      obtain ⟨init, hinit⟩ := List.getLast?_eq_some_iff.1 hc
      split
      · rename_i he
        rw [hinit] at ihp hle ⊢
        rw [List.pairwise_append] at ihp
        refine ⟨?_, ?_⟩
        · simp only [List.dropLast_concat]
          refine List.pairwise_append.2 ⟨ihp.1, by simp, fun x hx y hy => ?_⟩
          rw [List.mem_singleton.1 hy]
          exact ihp.2.2 x hx c (by simp)
        · intro x hx b2 hb2
          have := hnext b2 hb2
          simp only [List.dropLast_concat] at hx
          rcases List.mem_append.1 hx with h | h
          · have := hle x (List.mem_append_left _ h); omega
          · rw [List.mem_singleton.1 h]; show c.exp ≤ b2.exp; omega
      · rename_i he
        have hlt : ∀ x ∈ consTo (incJ p) Bs i, x.exp < b.exp := by
          intro x hx
          have h1 := hle c (List.mem_of_getLast? hc)
          rw [hinit] at ihp hx
          rw [List.pairwise_append] at ihp
          rcases List.mem_append.1 hx with h | h
          · have := ihp.2.2 x h c (by simp); omega
          · rw [List.mem_singleton.1 h]; omega
        refine ⟨List.pairwise_append.2 ⟨ihp, by simp, fun x hx y hy => ?_⟩, ?_⟩
        · rw [List.mem_singleton.1 hy]; exact hlt x hx
        · intro x hx b2 hb2
          have := hnext b2 hb2
          rcases List.mem_append.1 hx with h | h
          · have := hle x h; omega
          · rw [List.mem_singleton.1 h]; exact this
    · refine ⟨by simp, fun x hx b2 hb2 => ?_⟩
      rw [List.mem_singleton.1 hx]; exact hnext b2 hb2
/-! ### one block turns -/
def FJ (e t : Int) (c : Con) : Con := if c.exp = e then { c with sign := c.sign * t } else c
theorem FJ_exp (e t : Int) (c : Con) : (FJ e t c).exp = c.exp := by unfold FJ; split <;> rfl
theorem FJ_ne {e t : Int} {c : Con} (h : c.exp ≠ e) : FJ e t c = c := by unfold FJ; rw [if_neg h]
theorem FJ_inc {p : Nat} {e t : Int} {c : Con} {b : Blk} : FJ e t (incJ p c b) = incJ p (FJ e t c) b := by
  unfold FJ
  by_cases h : c.exp = e
  · rw [if_pos (show (incJ p c b).exp = e from h), if_pos h]
    simp only [incJ, Con.mk.injEq, true_and, and_true]
    exact Int.mul_right_comm ..
  · rw [if_neg (show ¬ (incJ p c b).exp = e from h), if_neg h]
theorem getLast_map {α β : Type} (f : α → β) (l : List α) : (l.map f).getLast? = l.getLast?.map f := by simp
theorem cons_turn {p : Nat} {Bs : List Blk} (H : GoodJ p Bs) {i : Nat} {b b' : Blk} (hi : Bs[i]? = some b) (he : b'.exp = b.exp) {t : Int} (hs : sJ p b' = sJ p b * t) : ∀ n, n ≤ Bs.length → consTo (incJ p) (Bs.set i b') n = if i < n then (consTo (incJ p) Bs n).map (FJ b.exp t) else consTo (incJ p) Bs n := by
  have hil := (List.getElem?_eq_some_iff.1 hi).1
  intro n
  induction n with
  | zero => intro _; rfl
  | succ n ih =>
    intro hn
    have ih := ih (by omega)
    obtain ⟨x, hx⟩ : ∃ x, Bs[n]? = some x := ⟨_, List.getElem?_eq_getElem (by omega)⟩
    obtain ⟨hp, hb⟩ := consJ_asc H n (by omega)
    rcases Nat.lt_trichotomy n i with hlt | heq | hgt
    · rw [if_neg (by omega)] at ih ⊢
      rw [consTo_succ hx, consTo_succ (b := x) (by rw [List.getElem?_set_ne (by omega)]; exact hx), ih]
    · subst heq
      rw [hi] at hx; cases hx
      rw [if_neg (by omega)] at ih
      rw [if_pos (by omega), consTo_succ hi, consTo_succ (b := b') (List.getElem?_set_self hil), ih]
      unfold addC
      have hle := fun c hc => hb c hc b hi
      have hinc : ∀ c : Con, c.exp = b.exp → incJ p c b' = FJ b.exp t (incJ p c b) := by
        intro c hc
        unfold FJ
        rw [if_pos (show (incJ p c b).exp = b.exp from hc)]
        simp only [incJ, hs, Con.mk.injEq, true_and, and_true]
        rw [Int.mul_assoc]
      have hid : ∀ l : List Con, (∀ c ∈ l, c.exp ≠ b.exp) → l.map (FJ b.exp t) = l := by
        intro l hl
        conv => rhs; rw [← List.map_id l]
        exact List.map_congr_left fun c hc => FJ_ne (hl c hc)
      cases hl : (consTo (incJ p) Bs n).getLast? with
      | none => simp only [List.map_cons, List.map_nil, he]; rw [hinc _ rfl]
      | some c =>
        obtain ⟨init, hinit⟩ := List.getLast?_eq_some_iff.1 hl
        simp only
        by_cases hce : c.exp = b.exp
        · rw [if_pos (by rw [he]; exact hce), if_pos hce, List.map_append, List.map_cons, List.map_nil, hinc c hce]
          congr 1
          refine (hid _ fun x hx => ?_).symm
          rw [hinit] at hp hx
          rw [List.pairwise_append] at hp
          simp only [List.dropLast_concat] at hx
          have := hp.2.2 x hx c (by simp)
          omega
        · rw [if_neg (by rw [he]; exact hce), if_neg hce, List.map_append, List.map_cons, List.map_nil, he, hinc _ rfl]
          congr 1
          refine (hid _ fun x hx => ?_).symm
          have h1 := hle c (List.mem_of_getLast? hl)
          rw [hinit] at hp hx
          rw [List.pairwise_append] at hp
          rcases List.mem_append.1 hx with h | h
          · have := hp.2.2 x h c (by simp); omega
          · rw [List.mem_singleton.1 h]; exact hce
    · rw [if_pos hgt] at ih
      rw [if_pos (by omega), consTo_succ hx, consTo_succ (b := x) (by rw [List.getElem?_set_ne (by omega)]; exact hx), ih]
      unfold addC
      rw [getLast_map]
      cases hl : (consTo (incJ p) Bs n).getLast? with
      | none =>
        exfalso
        obtain ⟨k, hk⟩ : ∃ k, n = k + 1 := ⟨n - 1, by omega⟩
        subst hk
        exact consTo_ne (inc := incJ p) (by omega) (List.getLast?_eq_none_iff.1 hl)
      | some c =>
        simp only [Option.map_some, FJ_exp]
        by_cases hce : c.exp = x.exp
        · rw [if_pos hce, if_pos hce, List.map_append, List.map_cons, List.map_nil, FJ_inc, List.map_dropLast]
        · rw [if_neg hce, if_neg hce, List.map_append, List.map_cons, List.map_nil]
          congr 1
          rw [FJ_ne]
          show x.exp ≠ b.exp
          have h1 := hb c (List.mem_of_getLast? hl) x hx
          obtain ⟨y, hy⟩ : ∃ y, Bs[n - 1]? = some y := ⟨_, List.getElem?_eq_getElem (by omega)⟩
          obtain ⟨c2, hc2, hc2e⟩ := consTo_last (inc := incJ p) (fun _ _ => rfl) hy
          rw [show n - 1 + 1 = n by omega, hl] at hc2
          cases hc2
          have h2 : b.exp ≤ y.exp := by
            have asc2 : ∀ d, i + d < Bs.length → ∀ z, Bs[i + d]? = some z → b.exp ≤ z.exp := by
              intro d
              induction d with
              | zero => intro _ z hz; rw [Nat.add_zero, hi] at hz; cases hz; exact Int.le_refl _
              | succ d ihd =>
                intro hd z hz
                obtain ⟨u, hu⟩ : ∃ u, Bs[i + d]? = some u := ⟨_, List.getElem?_eq_getElem (by omega)⟩
                have h3 := ihd (by omega) u hu
                have h4 := H.asc (i + d) u z (by omega) hu hz
                omega
            exact asc2 (n - 1 - i) (by omega) y (by rw [show i + (n - 1 - i) = n - 1 by omega]; exact hy)
          omega
/-- The whole list. -/
def conJ (p : Nat) (Bs : List Blk) : List Con := consTo (incJ p) Bs Bs.length
theorem conJ_turn {p : Nat} {Bs : List Blk} (H : GoodJ p Bs) {i : Nat} {b b' : Blk} (hi : Bs[i]? = some b) (he : b'.exp = b.exp) {t : Int} (hs : sJ p b' = sJ p b * t) : conJ p (Bs.set i b') = (conJ p Bs).map (FJ b.exp t) := by
  unfold conJ
  rw [List.length_set, cons_turn H hi he hs _ (Nat.le_refl _), if_pos (List.getElem?_eq_some_iff.1 hi).1]
theorem FJ_one (e : Int) (c : Con) : FJ e 1 c = c := by
  unfold FJ
  split
  · rw [Int.mul_one]
  · rfl
theorem conJ_same {p : Nat} {Bs : List Blk} (H : GoodJ p Bs) {i : Nat} {b b' : Blk} (hi : Bs[i]? = some b) (he : b'.exp = b.exp) (hs : sJ p b' = sJ p b) : conJ p (Bs.set i b') = conJ p Bs := by
  rw [conJ_turn H hi he (t := 1) (by rw [Int.mul_one]; exact hs)]
  conv => rhs; rw [← List.map_id (conJ p Bs)]
  exact List.map_congr_left fun c _ => FJ_one _ c
end Go.QF
