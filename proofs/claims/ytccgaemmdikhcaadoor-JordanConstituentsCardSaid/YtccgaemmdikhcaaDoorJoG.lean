/-
  Plain: the constituents at any odd prime. No condition.
-/
import Derived.Test.YtccgaemmdikhcaaDoorJac
import Derived.Test.YtccgaemmdikhcaaDoorJoS
namespace Go.QF
open Go
set_option linter.unusedVariables false
def incG (p : Int) (c : Con) (b : Blk) : Con := ⟨c.exp, c.dim + 1, c.sign * lg p b.a, c.odd, c.oddity⟩
def WG (p : Int) (b : Blk) : Prop := Ex b ∧ b.size = 1 ∧ b.b = 0 ∧ b.c = 0 ∧ b.a % p ≠ 0
def OddP (p : Int) : Prop := 2 < p ∧ p ≤ 9973 ∧ Pr p
def LG (p : Int) (Bs : List Blk) : Prop := OddP p ∧ (∀ b ∈ Bs, WG p b) ∧ Asc Bs Bs.length ∧ 1 ≤ Bs.length ∧ Bs.length ≤ 8
open Classical in
noncomputable def lgB (p : Int) (Bs : List Blk) : Bool := decide (LG p Bs)
noncomputable def conG (p : Int) (Bs : List Blk) : List Con := if lgB p Bs then consTo (incG p) Bs Bs.length else []
theorem lgB_t {p : Int} {Bs : List Blk} (H : LG p Bs) : lgB p Bs = true := by simp [lgB, H]
theorem lgB_f {p : Int} {Bs : List Blk} (H : ¬ LG p Bs) : lgB p Bs = false := by simp [lgB, H]
def GoodG (p : Int) (Bs : List Blk) (i : Nat) : Prop := (∀ b ∈ Bs.take i, WG p b) ∧ Asc Bs i
theorem goodG_zero (p : Int) (Bs : List Blk) : GoodG p Bs 0 := ⟨fun b hb => by simp at hb, fun i x y h => by omega⟩
theorem goodG_succ {p : Int} {Bs : List Blk} {i : Nat} {b : Blk} (H : GoodG p Bs i) (hb : Bs[i]? = some b) (hw : WG p b) (hprev : ∀ j x, j + 1 = i → Bs[j]? = some x → x.exp ≤ b.exp) : GoodG p Bs (i + 1) := by
  refine ⟨fun x hx => ?_, fun j x y hj hx hy => ?_⟩
  · rw [← take_snoc hb] at hx
    rcases List.mem_append.1 hx with h | h
    · exact H.1 x h
    · rw [List.mem_singleton.1 h]; exact hw
  · rcases Nat.lt_or_ge (j + 1) i with h | h
    · exact H.2 j x y h hx hy
    · have hji : j + 1 = i := by omega
      rw [hji, hb] at hy
      cases hy
      exact hprev j x hji hx
theorem goodG_all {p : Int} {Bs : List Blk} (H : GoodG p Bs Bs.length) (ho : OddP p) (h1 : 1 ≤ Bs.length) (h8 : Bs.length ≤ 8) : LG p Bs := by
  obtain ⟨h2, h3⟩ := H
  rw [List.take_length] at h2
  exact ⟨ho, h2, h3, h1, h8⟩
theorem lg_good {p : Int} {Bs : List Blk} (H : LG p Bs) (i : Nat) (hi : i ≤ Bs.length) : GoodG p Bs i := ⟨fun b hb => H.2.1 b (List.mem_of_mem_take hb), fun j x y hj hx hy => H.2.2.1 j x y (by omega) hx hy⟩
theorem smG_inc {p : Int} {m : Int} {c : Con} {b : Blk} (hp : OPr p) (H : SmJ m c) (hb : b.a % p ≠ 0) : SmJ (m + 1) (incG p c b) := by
  obtain ⟨h1, h2, h3⟩ := H
  refine ⟨?_, by simp only [incG]; omega, by simp only [incG]; omega⟩
  simp only [incG]
  rcases h1 with h | h <;> rcases lg_pm hp hb with h' | h' <;> rw [h, h'] <;> simp
theorem smG_cons {p : Int} {Bs : List Blk} (hp : OPr p) : ∀ i, (∀ b ∈ Bs.take i, WG p b) → ∀ c ∈ consTo (incG p) Bs i, SmJ (i : Int) c := by
  intro i
  induction i with
  | zero => intro _ c hc; simp [consTo] at hc
  | succ i ih =>
    intro hw c hc
    unfold consTo at hc
    split at hc
    · rename_i b hb
      have hbm := (hw b (by rw [← take_snoc hb]; simp)).2.2.2.2
      have ih := ih fun x hx => hw x (by rw [← take_snoc hb]; exact List.mem_append_left _ hx)
      unfold addC at hc
      split at hc
      · rename_i c' hc'
        split at hc
        · rcases List.mem_append.1 hc with h | h
          · exact smJ_mono (ih c (List.dropLast_subset _ h)) (by omega)
          · rw [List.mem_singleton.1 h]
            exact smJ_mono (smG_inc hp (ih c' (List.mem_of_getLast? hc')) hbm) (by omega)
        · rcases List.mem_append.1 hc with h | h
          · exact smJ_mono (ih c h) (by omega)
          · rw [List.mem_singleton.1 h]
            exact smJ_mono (smG_inc hp (m := 0) ⟨.inl rfl, Int.le_refl _, Int.le_refl _⟩ hbm) (by omega)
      · rw [List.mem_singleton.1 hc]
        exact smJ_mono (smG_inc hp (m := 0) ⟨.inl rfl, Int.le_refl _, Int.le_refl _⟩ hbm) (by omega)
    · rename_i hn
      have ht : Bs.take (i + 1) = Bs.take i := by
        rw [List.getElem?_eq_none_iff] at hn
        rw [List.take_of_length_le (by omega), List.take_of_length_le hn]
      exact smJ_mono (ih (by rw [← ht]; exact hw) c hc) (by omega)
theorem ssum_one {Bs : List Blk} (h : ∀ b ∈ Bs, b.size = 1) : ssum Bs = Bs.length := by
  induction Bs with
  | nil => rfl
  | cons b l ih =>
    simp only [ssum, List.length_cons]
    rw [ih fun x hx => h x (List.mem_cons_of_mem _ hx), h b (List.mem_cons_self ..)]
    omega
/-- The reference's conditions are the same. -/
theorem lg_lst {p : Int} {Bs : List Blk} (ho : OddP p) : LG p Bs ↔ LstR p Bs := by
  have h2 := ho.1
  constructor
  · rintro ⟨_, h, ha, h1, h8⟩
    refine ⟨fun b hb => ?_, ha, h1, ?_⟩
    · obtain ⟨q1, q2, q3, q4, q5⟩ := h b hb
      exact ⟨q1, .inl ⟨q2, q5, q3, q4⟩⟩
    · rw [ssum_one fun b hb => (h b hb).2.1]; omega
  · rintro ⟨h, ha, h1, h8⟩
    have hw : ∀ b ∈ Bs, WG p b := by
      intro b hb
      obtain ⟨q1, q | q⟩ := h b hb
      · exact ⟨q1, q.1, q.2.2.1, q.2.2.2, q.2.1⟩
      · have := q.2.1; omega
    rw [ssum_one fun b hb => (hw b hb).2.1] at h8
    exact ⟨ho, hw, ha, h1, by omega⟩
theorem conG_len (p : Int) (Bs : List Blk) : (conG p Bs).length ≤ Bs.length := by
  unfold conG
  split
  · exact consTo_len _ _ _
  · simp
end Go.QF
