/-
  The sanity check of chapter 24 answers true over every heap that holds the table of prime.offsets.
-/
import Derived.Test.YtccgaemmdikhcaaDoorAw25
namespace Go.Proofs.YtccgaemmdikhcaaDoor
open Go Go.QF
set_option linter.unusedVariables false
set_option maxRecDepth 100000
theorem blk_eq (c d : Blk) (w : World) : (Op.equal 41 (.agg (blkV c).toArray) (.agg (blkV d).toArray)).run Tryd.prog w = .ok (decide (c = d)) w := by
  show (Op.equalIn (9998 + 1 + 1) _ _ _).run _ w = _
  rw [Op.equalIn]
  obtain ⟨c1, c2, c3, c4, c5⟩ := c
  obtain ⟨d1, d2, d3, d4, d5⟩ := d
  simp [u_run Tryd.underlying41, blkV, part_run na_int, part_run na_i64, eqInt_run it_int, eqInt_run it_i64]
  by_cases h1 : c1 = d1 <;> by_cases h2 : c2 = d2 <;> by_cases h3 : c3 = d3 <;> by_cases h4 : c4 = d4 <;> by_cases h5 : c5 = d5 <;> simp [h1, h2, h3, h4, h5]
def blkOf : List V → Option Blk
  | [.i .i64 a, .i .i64 b, .i .i64 c, .i .i64 d, .i .i64 e] => some ⟨a, b, c, d, e⟩
  | _ => none
theorem blkOf_ok {m : Mp} {xs : List V} {c : Blk} {us : List Value} (h : blkOf xs = some c) (hr : rels m xs us) : us = blkV c := by
  unfold blkOf at h
  split at h
  · cases h
    obtain ⟨_, _, rfl, h1, _, _, rfl, h2, _, _, rfl, h3, _, _, rfl, h4, _, _, rfl, h5, h6⟩ := hr
    cases h1; cases h2; cases h3; cases h4; cases h5; cases h6
    rfl
  · cases h
def eqR : EqT := fun t xs ys => bif Nat.beq t 41 then (match blkOf xs, blkOf ys with | some c, some d => some (decide (c = d)) | _, _ => none) else eqQ t xs ys
theorem eqR_ok : EqOk Tryd.prog eqR := by
  intro t xs ys r h
  unfold eqR at h
  cases hb : Nat.beq t 41 with
  | false => rw [hb] at h; exact eqQ_ok t xs ys r h
  | true =>
    rw [hb] at h
    simp only [cond_true] at h
    cases Nat.eq_of_beq_eq_true hb
    split at h
    · rename_i c d hc hd
      cases h
      refine ⟨by kernel_rfl, fun m us ws h1 h2 w => ?_⟩
      rw [blkOf_ok hc h1, blkOf_ok hd h2]
      exact blk_eq c d w
    · cases h
def tabG : List (Nat × Nat) := [(0, 0)]
def tabB : Hp := [some ⟨[.i .i64 7, .i .i64 11, .i .i64 13, .i .i64 17, .i .i64 19, .i .i64 23, .i .i64 29, .i .i64 31], true, 0⟩]
theorem hr_tab {h : Heap} (HO : OffH h) : HR h tabG [some (0, 0)] tabB h := by
  have hlt : 0 < h.size := cellH_lt (HO 0 _ rfl)
  refine ⟨Ext.refl h, rfl, fun g k hg => ?_, fun k b hb => ?_, fun k k' b b' r r' h1 h2 _ _ _ => ?_⟩
  · unfold tabG lookG at hg
    cases hb : Nat.beq g 0 with
    | false => rw [hb] at hg; cases hg
    | true => rw [hb] at hg; cases hg; cases Nat.eq_of_beq_eq_true hb; exact ⟨0, rfl⟩
  · cases k with
    | zero =>
      cases hb
      refine ⟨(0, 0), rfl, hlt, fun o x hx => ?_, fun hro => (by cases hro)⟩
      have ho : o < 8 := (List.getElem?_eq_some_iff.1 hx).1
      have hu : ∃ n : Int, x = .i .i64 n ∧ (offs.map (Value.int .i64))[o]? = some (.int .i64 n) := by
        rcases (by omega : o = 0 ∨ o = 1 ∨ o = 2 ∨ o = 3 ∨ o = 4 ∨ o = 5 ∨ o = 6 ∨ o = 7) with rfl | rfl | rfl | rfl | rfl | rfl | rfl | rfl <;> (cases hx; exact ⟨_, rfl, rfl⟩)
      obtain ⟨n, rfl, hn⟩ := hu
      exact ⟨_, HO o _ hn, rfl⟩
    | succ k => simp [tabB] at hb
  · have l1 := (List.getElem?_eq_some_iff.1 h1).1
    have l2 := (List.getElem?_eq_some_iff.1 h2).1
    simp [tabB] at l1 l2
    omega
def fns24 : List FuncId := [14, 18, 21, 26, 27, 35, 36, 38, 42, 43, 44, 45, 46, 47, 55, 58, 59, 60, 61, 63, 64, 68, 69, 71, 72, 73, 74, 75, 76, 78, 79, 80, 81, 82, 83, 84, 85, 86, 87, 88, 89, 90, 91, 92, 93, 94, 95, 96, 97, 98, 99, 100, 101, 102, 103, 104, 105, 106, 107, 108, 109, 110]
theorem fns24_ok : allOk Tryd.prog fns24 = true := by kernel_rfl
theorem run24 : isT (callE Tryd.prog eqR fns24 tabG 1000 30 18 [] tabB) = true := by kernel_rfl
theorem awake24_ok {h : Heap} (HO : OffH h) : CallH Tryd.prog 18 #[] h fun x h' => Ext h h' ∧ x = .bool true := by
  obtain ⟨bs, hb⟩ := isT_ok run24
  refine (callE_all mx eqR_ok fns24_ok h 1000 30 _ _ _ _ _ hb _ h [] (hr_tab HO) rfl).mono fun v h' hk => ?_
  obtain ⟨m', _, hR, hv⟩ := hk
  exact ⟨hR.ext, hv⟩
end Go.Proofs.YtccgaemmdikhcaaDoor
