/-
  Plain: a block of size 2 added to a list of blocks at 2. No condition.
-/
import Derived.Test.YtccgaemmdikhcaaDoorDyR
namespace Go.QF
open Go
set_option linter.unusedVariables false
theorem consTo_pre {inc : Con → Blk → Con} {Bs Cs : List Blk} : ∀ i, i ≤ Bs.length → consTo inc (Bs ++ Cs) i = consTo inc Bs i := by
  intro i
  induction i with
  | zero => intro _; rfl
  | succ i ih =>
    intro hi
    unfold consTo
    rw [List.getElem?_append_left (by omega), ih (by omega)]
/-- The block that the law adds. -/
def addB (e : Int) (a b c : Nat) : Blk := ⟨e, 2, 2 * (a : Int), 2 * (b : Int) + 1, 2 * (c : Int)⟩
theorem ex_last {n : Nat} {Bs : List Blk} (H : Made 2 n Bs) {l : Blk} (hl : l ∈ Bs) : Ex l := (H.wf l hl).1
theorem made_lst {n : Nat} {Bs : List Blk} (H : Made 2 n Bs) (h1 : 1 ≤ Bs.length) : con2B 2 Bs = decide (ssum Bs ≤ 8) := by
  by_cases hs : ssum Bs ≤ 8
  · rw [decide_eq_true hs]
    exact con2B_t rfl ⟨fun b hb => wfR_2.1 (H.wf b hb), H.asc, h1, hs⟩
  · rw [decide_eq_false hs]
    exact con2B_f fun hh => hs hh.2.2.2.2
theorem made_add {n : Nat} {Bs : List Blk} (H : Made 2 n Bs) {l : Blk} (hl : Bs[Bs.length - 1]? = some l) (a b c : Nat) : con2B 2 (Bs ++ [addB l.exp a b c]) = decide (ssum Bs + 2 ≤ 8) := by
  have hm := List.mem_of_getElem? hl
  have hex := ex_last H hm
  by_cases hs : ssum Bs + 2 ≤ 8
  · rw [decide_eq_true hs]
    refine con2B_t rfl ⟨fun x hx => ?_, fun i x y hi hx hy => ?_, by simp, ?_⟩
    · rcases List.mem_append.1 hx with h | h
      · exact wfR_2.1 (H.wf x h)
      · rw [List.mem_singleton.1 h]
        refine ⟨hex, .inr ⟨rfl, ?_, ?_, ?_⟩⟩ <;> simp only [addB] <;> omega
    · simp only [List.length_append, List.length_singleton] at hi
      rw [List.getElem?_append_left (by omega)] at hx
      rcases Nat.lt_or_ge (i + 1) Bs.length with h | h
      · rw [List.getElem?_append_left h] at hy
        exact H.asc i x y h hx hy
      · have hi2 : i = Bs.length - 1 := by omega
        rw [hi2, hl] at hx
        cases hx
        rw [List.getElem?_append_right h, show i + 1 - Bs.length = 0 by omega] at hy
        simp at hy
        subst hy
        exact Int.le_refl _
    · rw [ssum_append]; simp only [ssum, addB]; omega
  · rw [decide_eq_false hs]
    refine con2B_f fun hh => hs ?_
    have := hh.2.2.2.2
    rw [ssum_append] at this
    simp only [ssum, addB] at this
    omega
/-- The last constituent alone turns. -/
theorem con_add {n : Nat} {Bs : List Blk} (H : Made 2 n Bs) {l : Blk} (hl : Bs[Bs.length - 1]? = some l) (a b c : Nat) (hs : ssum Bs + 2 ≤ 8) : ∃ k x, k + 1 = (con2 2 Bs).length ∧ (con2 2 Bs)[k]? = some x ∧ con2 2 (Bs ++ [addB l.exp a b c]) = (con2 2 Bs).set k (inc2 x (addB l.exp a b c)) := by
  have hl1 : 1 ≤ Bs.length := by have := (List.getElem?_eq_some_iff.1 hl).1; omega
  have e1 : con2 2 Bs = consTo inc2 Bs Bs.length := by unfold con2; rw [made_lst H hl1, decide_eq_true (by omega)]; rfl
  have e2 : con2 2 (Bs ++ [addB l.exp a b c]) = consTo inc2 (Bs ++ [addB l.exp a b c]) (Bs.length + 1) := by unfold con2; rw [made_add H hl, decide_eq_true hs]; simp
  obtain ⟨x, hx, hxe⟩ := cons_old (inc := inc2) (Bs := Bs) (i := Bs.length) (b := addB l.exp a b c) (fun _ _ => rfl) (by omega) hl rfl
  have e3 : consTo inc2 (Bs ++ [addB l.exp a b c]) (Bs.length + 1) = addC inc2 (consTo inc2 Bs Bs.length) (addB l.exp a b c) := by
    rw [consTo_succ (b := addB l.exp a b c) (by simp), consTo_pre _ (Nat.le_refl _)]
  obtain ⟨init, hi⟩ := List.getLast?_eq_some_iff.1 hx
  refine ⟨init.length, x, by rw [e1, hi]; simp, by rw [e1, hi]; simp, ?_⟩
  rw [e1, e2, e3, addC_old hx hxe, hi]
  simp
theorem inc_back {x : Con} {e : Int} {a b c : Nat} : inc2 x (addB e a b c) = ⟨x.exp, x.dim + 2, if (4 * ((a : Int) * c) - (2 * (b : Int) + 1) * (2 * (b : Int) + 1)) % 8 = 3 ∨ (4 * ((a : Int) * c) - (2 * (b : Int) + 1) * (2 * (b : Int) + 1)) % 8 = 5 then -x.sign else x.sign, x.odd, x.oddity⟩ := by
  have h : 2 * (a : Int) * (2 * (c : Int)) = 4 * ((a : Int) * c) := by rw [Int.mul_assoc, Int.mul_left_comm (a : Int) 2 (c : Int), ← Int.mul_assoc]; rfl
  simp [inc2, addB, detB, h]
theorem ssum_made {n : Nat} {Bs : List Blk} (H : Made 2 n Bs) : 0 ≤ ssum Bs ∧ ssum Bs ≤ 2 * Bs.length := by
  have key : ∀ l : List Blk, (∀ b ∈ l, WfR 2 b) → 0 ≤ ssum l ∧ ssum l ≤ 2 * l.length := by
    intro l
    induction l with
    | nil => intro _; simp [ssum]
    | cons b l ih =>
      intro h
      have h1 := wfR_pos (h b (List.mem_cons_self ..))
      have h2 := ih fun b hb => h b (List.mem_cons_of_mem _ hb)
      simp only [ssum, List.length_cons]
      omega
  exact key Bs H.wf
theorem ssum_take_le {Bs : List Blk} {n : Nat} (H : Made 2 n Bs) (hn : n ≤ 20) (i : Nat) : 0 ≤ ssum (Bs.take i) ∧ ssum (Bs.take i) ≤ 40 := by
  have key : ∀ l : List Blk, (∀ b ∈ l, WfR 2 b) → 0 ≤ ssum l ∧ ssum l ≤ 2 * l.length := by
    intro l
    induction l with
    | nil => intro _; simp [ssum]
    | cons b l ih =>
      intro h
      have h1 := wfR_pos (h b (List.mem_cons_self ..))
      have h2 := ih fun b hb => h b (List.mem_cons_of_mem _ hb)
      simp only [ssum, List.length_cons]
      omega
  have h3 := key (Bs.take i) fun b hb => H.wf b (List.mem_of_mem_take hb)
  have h4 := H.len
  have h5 : (Bs.take i).length ≤ Bs.length := by simp; omega
  exact ⟨h3.1, by omega⟩
theorem SlK.pre {h : Heap} {k : Nat} {a : Option Addr} {n cap cap' : Nat} {L M : List (List Value)} (H : SlK h k (.slice a n cap) (L ++ M)) : SlK h k (.slice a L.length cap') L := by
  obtain ⟨a', c', hv, hc⟩ := H
  injection hv with ha hn hcap
  subst ha
  exact ⟨a, cap', rfl, fun i row hr => hc i row (by rw [List.getElem?_append_left (List.getElem?_eq_some_iff.1 hr).1]; exact hr)⟩
theorem con2_sm {n : Nat} {Bs : List Blk} (H : Made 2 n Bs) (h1 : 1 ≤ Bs.length) (hs : ssum Bs ≤ 8) {k : Nat} {x : Con} (hx : (con2 2 Bs)[k]? = some x) : SmC (2 * n) x := by
  have e1 : con2 2 Bs = consTo inc2 Bs Bs.length := by unfold con2; rw [made_lst H h1, decide_eq_true hs]; rfl
  rw [e1] at hx
  obtain ⟨q1, q2, q3, q4⟩ := smC_cons Bs.length (fun b hb => (wfR_2.1 (H.wf b (List.mem_of_mem_take hb))).2) x (List.mem_of_getElem? hx)
  have := H.len
  exact ⟨q1, q2, q3, by omega⟩
end Go.QF
