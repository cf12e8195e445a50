/-
  The sanity check of chapter 25 answers true over every heap. No condition.
-/
import Derived.Test.YtccgaemmdikhcaaDoorEw9
import Derived.Test.YtccgaemmdikhcaaDoorDy3
namespace Go.Proofs.YtccgaemmdikhcaaDoor
open Go Go.QF
set_option linter.unusedVariables false
set_option maxRecDepth 100000
def conOf : List V → Option Con
  | [.i .i64 a, .i .i64 b, .i .i64 c, .b d, .i .i64 e] => some ⟨a, b, c, d, e⟩
  | _ => none
theorem conOf_ok {m : Mp} {xs : List V} {c : Con} {us : List Value} (h : conOf xs = some c) (hr : rels m xs us) : us = conV c := by
  unfold conOf at h
  split at h
  · cases h
    obtain ⟨_, _, rfl, h1, _, _, rfl, h2, _, _, rfl, h3, _, _, rfl, h4, _, _, rfl, h5, h6⟩ := hr
    cases h1; cases h2; cases h3; cases h4; cases h5; cases h6
    rfl
  · cases h
def eqQ : EqT := fun t xs ys => bif Nat.beq t 44 then (match conOf xs, conOf ys with | some c, some d => some (decide (c = d)) | _, _ => none) else none
theorem eqQ_ok : EqOk Tryd.prog eqQ := by
  intro t xs ys r h
  unfold eqQ at h
  cases hb : Nat.beq t 44 with
  | false => rw [hb] at h; cases h
  | true =>
    rw [hb] at h
    simp only [cond_true] at h
    cases Nat.eq_of_beq_eq_true hb
    split at h
    · rename_i c d hc hd
      cases h
      refine ⟨by kernel_rfl, fun m us ws h1 h2 w => ?_⟩
      rw [conOf_ok hc h1, conOf_ok hd h2]
      exact con_eq c d w
    · cases h
def fns25 : List FuncId := [10, 12, 14, 15, 26, 31, 32, 33, 35, 38, 42, 43, 44, 45, 55, 56, 58, 61, 63, 64, 68, 69, 70, 71, 72, 73, 74, 76, 78, 79, 80, 81, 82, 83, 84, 85, 86, 87, 88, 89, 90, 91, 92, 93, 94, 95, 96, 97, 98, 99, 100, 101, 102, 103, 104, 105, 106, 107, 108, 109, 110]
theorem fns25_ok : allOk Tryd.prog fns25 = true := by kernel_rfl
def isT : Option (V × Hp) → Bool
  | some (.b true, _) => true
  | _ => false
theorem run25 : isT (callE Tryd.prog eqQ fns25 [] 1000 30 10 [] []) = true := by kernel_rfl
theorem isT_ok {o : Option (V × Hp)} (h : isT o = true) : ∃ bs, o = some (.b true, bs) := by
  unfold isT at h
  split at h
  · exact ⟨_, rfl⟩
  · cases h
theorem hr_nil (h : Heap) : HR h [] [] [] h := ⟨Ext.refl h, rfl, fun g k hg => (by cases hg), fun k b hb => (by simp at hb), fun k k' b b' r r' hb => (by simp at hb)⟩
theorem awake25_ok (h : Heap) : CallH Tryd.prog 10 #[] h fun x h' => Ext h h' ∧ x = .bool true := by
  obtain ⟨bs, hb⟩ := isT_ok run25
  refine (callE_all mx eqQ_ok fns25_ok h 1000 30 _ _ _ _ _ hb [] h [] (hr_nil h) rfl).mono fun v h' hk => ?_
  obtain ⟨m', _, hR, hv⟩ := hk
  exact ⟨hR.ext, hv⟩
end Go.Proofs.YtccgaemmdikhcaaDoor
