/-
  Evaluation of code at fixed inputs (sanity checks): control flow over any state that stands for an environment and a heap.
-/
import Derived.Test.YtccgaemmdikhcaaDoorBox
namespace Go.QF
open Go
set_option linter.unusedVariables false
variable {P : Program} {Q : Exit → Env → Heap → Prop} {e : Env} {h : Heap}
/-- The loop's body, at most n times. -/
def Unr (P : Program) (c : Code) (Q : Exit → Env → Heap → Prop) : Nat → Env → Heap → Prop
  | 0, _, _ => False
  | n + 1, e, h => W P c (thenQ (fun e' h' => Unr P c Q n e' h') Q) e h
theorem thenQ_mono {K K' : Env → Heap → Prop} (H : ∀ e h, K e h → K' e h) : ∀ x e h, thenQ K Q x e h → thenQ K' Q x e h := by
  intro x e h hx
  cases x <;> first | exact H _ _ hx | exact hx
theorem unr_loop {c : Code} {n : Nat} (H : Unr P c Q n e h) : W P (.loop c) Q e h := by
  refine ⟨fun n e h => Unr P c Q n e h, n, H, fun n e h hU => ?_⟩
  cases n with
  | zero => exact hU.elim
  | succ n => exact W.mono (thenQ_mono fun e' h' hk => ⟨n, Nat.lt_succ_self n, hk⟩) hU
theorem loop_unr {c : Code} (H : W P (.loop c) Q e h) : ∃ n, Unr P c Q n e h := by
  obtain ⟨I, n, hi, hs⟩ := H
  suffices hh : ∀ m n, n < m → ∀ e h, I n e h → Unr P c Q m e h from ⟨n + 1, hh (n + 1) n (Nat.lt_succ_self n) e h hi⟩
  intro m
  induction m with
  | zero => intro n hn; exact absurd hn (Nat.not_lt_zero n)
  | succ m ih =>
    intro n hn e h hI
    exact W.mono (thenQ_mono fun e' h' ⟨n', hlt, hk⟩ => ih n' (Nat.lt_of_lt_of_le hlt (Nat.le_of_lt_succ hn)) e' h' hk) (hs n e h hI)
/-- A machine: states that stand for an environment and a heap, and a step for regions. -/
structure Mach (P : Program) where
  S : Type
  E : S → Env
  H : S → Heap
  reg : Array Oper → Bool → S → Option S
  val : S → Operand → Option Bool
  reg_ok : ∀ ops draw s s', reg ops draw s = some s' → ∀ K : Env → Heap → Prop, K (E s') (H s') → ∃ B, RL P B (stOf ops draw) ops ops.toList (E s) (H s) K
  val_ok : ∀ s c b, val s c = some b → (E s).ev c = .bool b
/-- Runs code on the machine. -/
def Mach.ev (M : Mach P) : Nat → Code → M.S → Option (Exit × M.S)
  | 0, _, _ => none
  | n + 1, .skip, s => some (.normal, s)
  | n + 1, .region _ ops draw, s => match M.reg ops draw s with | some s' => some (.normal, s') | none => none
  | n + 1, .seq a b, s => match M.ev n a s with | some (.normal, s') => M.ev n b s' | r => r
  | n + 1, .cond c x y, s => match M.val s c with | some true => M.ev n x s | some false => M.ev n y s | none => none
  | n + 1, .block id c, s => match M.ev n c s with | some (.exit id', s') => bif Nat.beq id' id then some (.normal, s') else some (.exit id', s') | r => r
  | n + 1, .loop c, s => match M.ev n c s with | some (.normal, s') => M.ev n (.loop c) s' | r => r
  | n + 1, .exit id, s => some (.exit id, s)
  | n + 1, .ret, s => some (.ret, s)
  | n + 1, .scope c, s => match M.ev n c s with | some (.goto _, _) => none | r => r
  | n + 1, .label _, s => some (.normal, s)
  | _ + 1, _, _ => none
theorem Mach.ev_ok (M : Mach P) : ∀ (n : Nat) (c : Code) (s : M.S) (x : Exit) (s' : M.S), M.ev n c s = some (x, s') → ∀ Q : Exit → Env → Heap → Prop, Q x (M.E s') (M.H s') → W P c Q (M.E s) (M.H s) := by
  intro n
  induction n with
  | zero => intro c s x s' h; cases h
  | succ n ih =>
    intro c s x s' hv Q hQ
    cases c <;> simp only [Mach.ev] at hv
    case skip => cases hv; exact hQ
    case exit => cases hv; exact hQ
    case ret => cases hv; exact hQ
    case label => cases hv; exact hQ
    case region id ops draw =>
      split at hv
      · rename_i s2 h2; cases hv; exact M.reg_ok _ _ _ _ h2 _ hQ
      · cases hv
    case seq a b =>
      split at hv
      · rename_i s2 h2; exact ih a s _ s2 h2 _ (ih b s2 x s' hv Q hQ)
      · rename_i r hne
        refine ih a s x s' hv _ ?_
        cases x <;> first | exact hQ | exact absurd hv (hne _)
    case cond c a b =>
      split at hv
      · rename_i h2; exact w_true (M.val_ok _ _ _ h2) (ih a s x s' hv Q hQ)
      · rename_i h2; exact w_false (M.val_ok _ _ _ h2) (ih b s x s' hv Q hQ)
      · cases hv
    case block id c =>
      split at hv
      · rename_i id' s2 h2
        refine ih c s _ s2 h2 _ ?_
        cases hb : Nat.beq id' id
        · rw [hb] at hv; cases hv
          exact q_bn (fun he => by rw [he, Nat.beq_refl] at hb; cases hb) hQ
        · rw [hb] at hv; cases hv
          cases Nat.eq_of_beq_eq_true hb
          exact q_bx hQ
      · rename_i r hne
        refine ih c s x s' hv _ ?_
        cases x <;> first | exact hQ | exact absurd hv (hne _ _)
    case loop c =>
      split at hv
      · rename_i s2 h2
        obtain ⟨k, hk⟩ := loop_unr (ih (.loop c) s2 x s' hv Q hQ)
        exact unr_loop (n := k + 1) (ih c s _ s2 h2 _ hk)
      · rename_i r hne
        refine unr_loop (n := 1) (ih c s x s' hv _ ?_)
        cases x <;> first | exact hQ | exact absurd hv (hne _)
    case scope c =>
      split at hv
      · cases hv
      · rename_i r hne
        refine ih c s x s' hv _ ?_
        cases x <;> first | exact hQ | exact absurd hv (hne _ _)
    all_goals cases hv
end Go.QF
