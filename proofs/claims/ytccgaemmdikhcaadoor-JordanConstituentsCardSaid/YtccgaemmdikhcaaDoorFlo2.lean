/-
  Regions with an operation that floats: every order.
-/
import Derived.Test.YtccgaemmdikhcaaDoorFlo
namespace Go.QF
open Go
set_option linter.unusedVariables false
section
variable {P : Program} {ops : Array Oper}
/-- The check of such a region: f needs nothing, all behind it needs it, and what stands ahead is ordered or independent. -/
def floatOk (n : Nat) (ops : Array Oper) (f : Nat) : Bool := match ops[f]? with
  | none => false
  | some of => of.after.all (fun ed => !Region.binds .any ed) && (List.range ops.size).all fun j => match ops[j]? with
    | none => false
    | some oj => (match oj.dst with | some d => decide (d < n) | none => true) && noSel oj && oj.after.all (fun ed => !Region.binds .any ed || decide (ed.on < j)) &&
      (Nat.beq j f || ((List.range j).all fun i => match ops[i]? with
        | none => false
        | some oi => Nat.beq i f || ahead ops i j || indep (stOf ops true) ops oi oj)) &&
      (bif Nat.ble j f then (Nat.beq j f || (match kindOf oj.op with | .eff => true | .wr => true | _ => indep (stOf ops true) ops of oj)) else ahead ops f j)
structure FlSpec (n : Nat) (ops : Array Oper) (f : Nat) (of : Oper) : Prop where
  fs : FSpec n ops f
  none : ∀ ed ∈ of.after, Region.binds .any ed = false
  up : ∀ j oj, ops[j]? = some oj → f < j → ∃ n, reach ops n f j = true
  dn : ∀ j oj, ops[j]? = some oj → j < f → kindOf oj.op = .pure ∨ kindOf oj.op = .read → indep (stOf ops true) ops of oj = true
theorem floatOk_spec {n f : Nat} (H : floatOk n ops f = true) : ∃ of, ops[f]? = some of ∧ FlSpec n ops f of := by
  unfold floatOk at H
  split at H
  · cases H
  · rename_i of hof
    refine ⟨of, hof, ?_⟩
    simp only [Bool.and_eq_true] at H
    obtain ⟨h0, H⟩ := H
    have key : ∀ {j : Nat} {oj : Oper}, ops[j]? = some oj → ((((match oj.dst with | some d => decide (d < n) | none => true) = true ∧ noSel oj = true) ∧ oj.after.all (fun ed => !Region.binds .any ed || decide (ed.on < j)) = true) ∧
      (Nat.beq j f || ((List.range j).all fun i => match ops[i]? with | none => false | some oi => Nat.beq i f || ahead ops i j || indep (stOf ops true) ops oi oj)) = true) ∧
      (bif Nat.ble j f then (Nat.beq j f || (match kindOf oj.op with | .eff => true | .wr => true | _ => indep (stOf ops true) ops of oj)) else ahead ops f j) = true := by
      intro j oj hj
      have hlt : j < ops.size := (Array.getElem?_eq_some_iff.1 hj).1
      have H := List.all_eq_true.1 H j (List.mem_range.2 hlt)
      simp only [hj, Bool.and_eq_true] at H
      exact H
    refine ⟨⟨fun {j oj} hj => ?_⟩, ?_, ?_, ?_⟩
    · obtain ⟨⟨⟨⟨h1, h2⟩, h3⟩, h4⟩, h5⟩ := key hj
      refine ⟨fun d hd => by simpa [hd] using h1, h2, fun ed hed hbd => ?_, fun i oi hij hif hjf hoi => ?_⟩
      · have := Array.all_eq_true_iff_forall_mem.1 h3 ed hed
        simpa [hbd] using this
      · rw [beq_ne hjf, Bool.false_or] at h4
        have := List.all_eq_true.1 h4 i (List.mem_range.2 hij)
        simp only [hoi, beq_ne hif, Bool.false_or, Bool.or_eq_true] at this
        rcases this with h | h
        · exact .inl (ahead_reach h)
        · exact .inr h
    · intro ed hed
      have := Array.all_eq_true_iff_forall_mem.1 h0 ed hed
      simpa using this
    · intro j oj hj hlt
      obtain ⟨_, h5⟩ := key hj
      have hb : Nat.ble j f = false := by
        cases hb : Nat.ble j f with
        | false => rfl
        | true => have := Nat.le_of_ble_eq_true hb; omega
      rw [hb] at h5
      exact ahead_reach h5
    · intro j oj hj hlt hk
      obtain ⟨_, h5⟩ := key hj
      rw [Nat.ble_eq_true_of_le (Nat.le_of_lt hlt), cond_true, beq_ne (by omega), Bool.false_or] at h5
      rcases hk with hk | hk <;> (rw [hk] at h5; exact h5)
theorem wpAny_of_LF {B : Heap → Prop} {n f : Nat} {of : Oper} {Q : Exit → Act → World → Prop} (hof : ops[f]? = some of) (S : FlSpec n ops f of) (T : List Nat) (hT : ∀ j ∈ T, f < j) : ∀ (fuel : Nat) (R : List Nat) (listed : Array Bool) (e : Env) (a : Act) (w : World) (K : Env → Heap → Prop),
    (R ++ f :: T).length = fuel → Lst ops (R ++ f :: T) listed → Rep n e a → LF P B (stOf ops true) ops f T R e w.heap K → (∀ e' a' w', Rep n e' a' → Same w w' → K e' w'.heap → Q .normal a' w') →
    wpAny P .any ops Q fuel listed a w := by
  intro fuel
  have hsf := (S.fs.spec hof).2.1
  induction fuel with
  | zero => intro R listed e a w K hlen; simp at hlen
  | succ fuel ih =>
    intro R listed e a w K hlen L r H hK
    refine ⟨fun hr => absurd hr (L.ready S.fs (by simp)), fun i hi => ?_⟩
    obtain ⟨hil, oi, hoi, hall⟩ := mem_ready.1 hi
    have his : i < ops.size := (Array.getElem?_eq_some_iff.1 hoi).1
    have hfR : f ∈ R ++ f :: T := List.mem_append_right _ (List.mem_cons_self ..)
    have hpw := List.pairwise_append.1 L.pw
    have hRf : ∀ j ∈ R, j < f := fun j hj => hpw.2.2 j hj f (List.mem_cons_self ..)
    by_cases hif : i = f
    · subst hif
      rw [hof] at hoi; cases hoi
      have h1 := H.now
      simp only [LI, hof] at h1
      refine wpOp_of_GOp hof (S.fs.spec hof).1 r h1 fun e' a' w' r' hs hk => ?_
      refine wpAny_of_LI' S.fs fuel (R ++ T) _ e' a' w' K ?_ (by simp at hlen ⊢; omega) (L.step hof hall) r' hk (fun e2 a2 w2 r2 s2 k2 => hK _ _ _ r2 (hs.trans s2) k2)
      intro hm
      rcases List.mem_append.1 hm with h | h
      · have := hRf _ h; omega
      · have := hT _ h; omega
    · have hiR : i ∈ R := by
        rcases List.mem_append.1 ((L.mem i).2 ⟨his, hil⟩) with h | h
        · exact h
        · rcases List.mem_cons.1 h with h | h
          · exact absurd h hif
          · exfalso
            obtain ⟨nre, hre⟩ := S.up i oi hoi (hT i h)
            have h1 : listed.getD f false = true := reach_listed (L := fun j => listed.getD j false = true) L.cl nre f i oi hoi hall hre
            rw [L.notListed hfR] at h1
            cases h1
      obtain ⟨R1, R2, rfl⟩ := List.append_of_mem hiR
      have L' : Lst ops (R1 ++ i :: (R2 ++ f :: T)) listed := by simpa using L
      obtain ⟨hdi, hsi, _⟩ := S.fs.spec hoi
      have hind : ∀ k ∈ R1, ∃ ok, ops[k]? = some ok ∧ noSel ok = true ∧ indep (stOf ops true) ops ok oi = true := fun k hk =>
        L'.indep S.fs hoi hall hif hk (fun he => by have := hRf k (List.mem_append_left _ hk); omega)
      have hg : GOp P B (stOf ops true) ops oi e w.heap fun e' h' => LF P B (stOf ops true) ops f T (R1 ++ R2) e' h' K := by
        by_cases hk : kindOf oi.op = .pure ∨ kindOf oi.op = .read
        · exact LF.bubbleA hof hsf hoi hsi hk (S.dn i oi hoi (hRf i hiR) hk) R1 hind H
        · refine LF.bubbleB hof hsf hoi hsi R1 (fun k hk' => ?_) H
          obtain ⟨ok, h1, h2, h3⟩ := hind k hk'
          refine ⟨ok, h1, h2, h3, indep_comm (S.dn k ok h1 (hRf k (List.mem_append_left _ hk')) ?_)⟩
          unfold indep at h3
          rw [Bool.and_eq_true] at h3
          have h4 := h3.2
          cases hx : kindOf ok.op with
          | pure => exact .inl rfl
          | read => exact .inr rfl
          | eff =>
            rw [hx] at h4
            cases hy : kindOf oi.op with
            | pure => exact absurd (Or.inl hy) hk
            | read => exact absurd (Or.inr hy) hk
            | eff => rw [hy] at h4; cases h4
            | wr => rw [hy] at h4; cases h4
          | wr =>
            rw [hx] at h4
            cases hy : kindOf oi.op with
            | pure => exact absurd (Or.inl hy) hk
            | read => exact absurd (Or.inr hy) hk
            | eff => rw [hy] at h4; cases h4
            | wr => rw [hy] at h4; cases h4
      refine wpOp_of_GOp hoi hdi r hg fun e' a' w' r' hs hk => ?_
      refine ih (R1 ++ R2) _ e' a' w' K (by simp at hlen ⊢; omega) ?_ r' hk (fun e2 a2 w2 r2 s2 k2 => hK _ _ _ r2 (hs.trans s2) k2)
      have := L'.step hoi hall
      simpa using this
theorem lst_start (ops : Array Oper) : Lst ops (List.range ops.size) (Array.replicate ops.size false) := by
  refine ⟨List.pairwise_lt_range, by simp, fun j => ?_, fun j oj hj _ => ?_⟩
  · simp only [List.mem_range]
    constructor
    · intro h; exact ⟨h, by simp [h]⟩
    · exact fun h => h.1
  · exfalso
    rcases Nat.lt_or_ge j ops.size with h' | h'
    · simp [h'] at hj
    · simp [h'] at hj
theorem range_split {f n : Nat} (h : f < n) : List.range n = List.range f ++ f :: List.range' (f + 1) (n - f - 1) := by
  rw [List.range_eq_range', List.range_eq_range']
  have h1 : n = f + (1 + (n - f - 1)) := by omega
  conv => lhs; rw [h1]
  rw [← List.range'_append_1]
  congr 1
  rw [Nat.zero_add, Nat.add_comm 1, List.range'_succ]
theorem wp_region_float {B : Heap → Prop} {n f : Nat} (hmx : P.follows .mixedOrders = true) {id : Nat} {Q : Exit → Act → World → Prop} {e : Env} {a : Act} {w : World} {K : Env → Heap → Prop} (hok : floatOk n ops f = true) (r : Rep n e a)
    (H : LF P B (stOf ops true) ops f (List.range' (f + 1) (ops.size - f - 1)) (List.range f) e w.heap K) (hK : ∀ e' a' w', Rep n e' a' → Same w w' → K e' w'.heap → Q .normal a' w') : (Code.region id ops true).wp P Q a w := by
  obtain ⟨of, hof, S⟩ := floatOk_spec hok
  have hfl : f < ops.size := (Array.getElem?_eq_some_iff.1 hof).1
  refine wp_region_draw fun t => ?_
  simp only [Region.schedule, hmx, Bool.true_or, if_true]
  have hs := range_split hfl
  refine wpAny_sound ops.size t _ a _ (wpAny_of_LF hof S _ (fun j hj => by have := List.mem_range'_1.1 hj; omega) ops.size (List.range f) (Array.replicate ops.size false) e a { w with drawn := w.drawn + 1 } K (by rw [← hs]; simp) (by rw [← hs]; exact lst_start ops) r H
    (fun e' a' w' r' hs hk => hK e' a' w' r' ⟨hs.os, hs.tape, hs.output⟩ hk))
end
end Go.QF
