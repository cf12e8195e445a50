/-
  Regions in which one operation (a new variable) may stand anywhere ahead of what needs it: all orders at once. No condition.
-/
import Derived.Test.YtccgaemmdikhcaaDoorEw8
namespace Go.QF
open Go
set_option linter.unusedVariables false
set_option linter.unusedSimpArgs false
section
variable {P : Program} {ops : Array Oper}
/-- The pairs apart from f are ordered or independent. -/
structure FSpec (n : Nat) (ops : Array Oper) (f : Nat) : Prop where
  spec : ∀ {j : Nat} {oj : Oper}, ops[j]? = some oj → (∀ d, oj.dst = some d → d < n) ∧ noSel oj = true ∧ ((∀ ed ∈ oj.after, Region.binds .any ed = true → ed.on < j) ∧
    ∀ i oi, i < j → i ≠ f → j ≠ f → ops[i]? = some oi → (∃ n, reach ops n i j = true) ∨ indep (stOf ops true) ops oi oj = true)
/-- What is left (in the order of the text), and what is listed. -/
structure Lst (ops : Array Oper) (R : List Nat) (listed : Array Bool) : Prop where
  pw : List.Pairwise (· < ·) R
  size : listed.size = ops.size
  mem : ∀ j, j ∈ R ↔ (j < ops.size ∧ listed.getD j true = false)
  cl : ∀ j oj, listed.getD j false = true → ops[j]? = some oj → ∀ ed ∈ oj.after, Region.binds .any ed = true → listed.getD ed.on false = true
theorem Lst.step {R1 R2 : List Nat} {i : Nat} {listed : Array Bool} {oi : Oper} (L : Lst ops (R1 ++ i :: R2) listed) (hoi : ops[i]? = some oi) (hall : ∀ ed ∈ oi.after, Region.binds .any ed = true → listed.getD ed.on false = true) : Lst ops (R1 ++ R2) (listed.setIfInBounds i true) := by
  have hpw' := List.pairwise_append.1 L.pw
  have his : i < ops.size := (Array.getElem?_eq_some_iff.1 hoi).1
  have his' : i < listed.size := by rw [L.size]; exact his
  refine ⟨List.pairwise_append.2 ⟨hpw'.1, (List.pairwise_cons.1 hpw'.2.1).2, fun x hx y hy => hpw'.2.2 x hx y (List.mem_cons_of_mem _ hy)⟩, by simp [L.size], fun j => ?_, ?_⟩
  · have hm := L.mem j
    constructor
    · intro hj
      have hj' : j ∈ R1 ++ i :: R2 := by
        rcases List.mem_append.1 hj with h | h
        · exact List.mem_append_left _ h
        · exact List.mem_append_right _ (List.mem_cons_of_mem _ h)
      obtain ⟨h1, h2⟩ := hm.1 hj'
      have hne : i ≠ j := by
        intro he
        subst he
        rcases List.mem_append.1 hj with h | h
        · have := hpw'.2.2 i h i (List.mem_cons_self ..); omega
        · have := (List.pairwise_cons.1 hpw'.2.1).1 i h; omega
      exact ⟨h1, by rw [getD_set_ne true hne]; exact h2⟩
    · rintro ⟨h1, h2⟩
      have hne : i ≠ j := by
        intro he
        subst he
        simp [his'] at h2
      rw [getD_set_ne true hne] at h2
      have := hm.2 ⟨h1, h2⟩
      rcases List.mem_append.1 this with h | h
      · exact List.mem_append_left _ h
      · rcases List.mem_cons.1 h with h | h
        · exact absurd h.symm hne
        · exact List.mem_append_right _ h
  · intro j oj hj hoj ed hed hbd
    by_cases hij : i = j
    · subst hij
      rw [hoi] at hoj
      injection hoj with hoj
      subst hoj
      exact getD_set_true (hall ed hed hbd)
    · rw [getD_set_ne false hij] at hj
      exact getD_set_true (L.cl j oj hj hoj ed hed hbd)
theorem Lst.notListed {R : List Nat} {listed : Array Bool} (L : Lst ops R listed) {k : Nat} (hk : k ∈ R) : listed.getD k false = false := by
  obtain ⟨h1, h2⟩ := (L.mem k).1 hk
  have h3 : k < listed.size := by rw [L.size]; exact h1
  simp [h3] at h2 ⊢; exact h2
theorem Lst.ready {n f : Nat} {R : List Nat} {listed : Array Bool} (hok : FSpec n ops f) (L : Lst ops R listed) (hR : R ≠ []) : Region.ready .any ops listed ≠ [] := by
  intro hr
  cases R with
  | nil => exact hR rfl
  | cons j R =>
    obtain ⟨hjs, hjl⟩ := (L.mem j).1 (List.mem_cons_self ..)
    obtain ⟨oj, hoj⟩ : ∃ oj, ops[j]? = some oj := ⟨ops[j], Array.getElem?_eq_getElem hjs⟩
    have : j ∈ Region.ready .any ops listed := mem_ready.2 ⟨hjl, oj, hoj, fun ed hed hbd => by
      obtain ⟨_, _, hd⟩ := hok.spec hoj
      have hlt := hd.1 ed hed hbd
      cases hl : listed.getD ed.on false with
      | true => rfl
      | false =>
        exfalso
        have hs : ed.on < ops.size := Nat.lt_trans hlt hjs
        have hm : ed.on ∈ j :: R := (L.mem ed.on).2 ⟨hs, by
          have h' : ed.on < listed.size := by rw [L.size]; exact hs
          simp [h'] at hl ⊢; exact hl⟩
        rcases List.mem_cons.1 hm with he | he
        · omega
        · have := (List.pairwise_cons.1 L.pw).1 _ he
          omega⟩
    rw [hr] at this
    cases this
theorem Lst.indep {n f : Nat} {R1 R2 : List Nat} {i : Nat} {listed : Array Bool} {oi : Oper} (hok : FSpec n ops f) (L : Lst ops (R1 ++ i :: R2) listed) (hoi : ops[i]? = some oi) (hall : ∀ ed ∈ oi.after, Region.binds .any ed = true → listed.getD ed.on false = true) (hfi : i ≠ f) {k : Nat} (hk : k ∈ R1) (hfk : k ≠ f) :
    ∃ ok, ops[k]? = some ok ∧ noSel ok = true ∧ indep (stOf ops true) ops ok oi = true := by
  have hpw' := List.pairwise_append.1 L.pw
  have his : i < ops.size := (Array.getElem?_eq_some_iff.1 hoi).1
  have hki : k < i := hpw'.2.2 k hk i (List.mem_cons_self ..)
  have hks : k < ops.size := Nat.lt_trans hki his
  obtain ⟨ok, hok'⟩ : ∃ ok, ops[k]? = some ok := ⟨ops[k], Array.getElem?_eq_getElem hks⟩
  refine ⟨ok, hok', (hok.spec hok').2.1, ?_⟩
  rcases (hok.spec hoi).2.2.2 k ok hki hfk hfi hok' with ⟨nre, hre⟩ | h
  · exfalso
    have h1 : listed.getD k false = true := reach_listed (L := fun j => listed.getD j false = true) L.cl nre k i oi hoi hall hre
    rw [L.notListed (List.mem_append_left _ hk)] at h1
    cases h1
  · exact h
theorem wpAny_of_LI' {B : Heap → Prop} {n f : Nat} {Q : Exit → Act → World → Prop} (hok : FSpec n ops f) : ∀ (fuel : Nat) (R : List Nat) (listed : Array Bool) (e : Env) (a : Act) (w : World) (K : Env → Heap → Prop),
    f ∉ R → R.length = fuel → Lst ops R listed → Rep n e a → LI P B (stOf ops true) ops R e w.heap K → (∀ e' a' w', Rep n e' a' → Same w w' → K e' w'.heap → Q .normal a' w') →
    wpAny P .any ops Q fuel listed a w := by
  intro fuel
  induction fuel with
  | zero =>
    intro R listed e a w K hfR hlen L r H hK
    obtain rfl : R = [] := List.length_eq_zero_iff.1 hlen
    refine ⟨?_, hK _ _ _ r (.refl w) H⟩
    refine List.eq_nil_iff_forall_not_mem.2 fun j hj => ?_
    obtain ⟨hjl, oj, hoj, _⟩ := mem_ready.1 hj
    have := (L.mem j).2 ⟨(Array.getElem?_eq_some_iff.1 hoj).1, hjl⟩
    cases this
  | succ fuel ih =>
    intro R listed e a w K hfR hlen L r H hK
    refine ⟨fun hr => absurd hr (L.ready hok (fun h0 => by subst h0; simp at hlen)), fun i hi => ?_⟩
    obtain ⟨hil, oi, hoi, hall⟩ := mem_ready.1 hi
    have his : i < ops.size := (Array.getElem?_eq_some_iff.1 hoi).1
    obtain ⟨R1, R2, rfl⟩ := List.append_of_mem ((L.mem i).2 ⟨his, hil⟩)
    obtain ⟨hdi, hsi, _⟩ := hok.spec hoi
    have hb : LI P B (stOf ops true) ops (i :: (R1 ++ R2)) e w.heap K :=
      LI.bubble hoi hsi R1 (fun k hk => L.indep hok hoi hall (fun he => hfR (he ▸ List.mem_append_right _ (List.mem_cons_self ..))) hk (fun he => hfR (he ▸ List.mem_append_left _ hk))) H
    simp only [LI, hoi] at hb
    refine wpOp_of_GOp hoi hdi r hb fun e' a' w' r' hs hk => ?_
    exact ih (R1 ++ R2) _ e' a' w' K (fun hf => hfR (by rcases List.mem_append.1 hf with h | h; exact List.mem_append_left _ h; exact List.mem_append_right _ (List.mem_cons_of_mem _ h))) (by simp at hlen ⊢; omega) (L.step hoi hall) r' hk
      (fun e2 a2 w2 r2 s2 k2 => hK _ _ _ r2 (hs.trans s2) k2)
/-! ### the operation that floats -/
/-- f may come now or later; what needs it (T) comes behind it. -/
def LF (P : Program) (B : Heap → Prop) (st : Bool) (ops : Array Oper) (f : Nat) (T : List Nat) : List Nat → Env → Heap → (Env → Heap → Prop) → Prop
  | [], e, h, K => LI P B st ops (f :: T) e h K
  | i :: R, e, h, K => LI P B st ops (f :: i :: (R ++ T)) e h K ∧ match ops[i]? with
    | none => LF P B st ops f T R e h K
    | some o => GOp P B st ops o e h fun e' h' => LF P B st ops f T R e' h' K
theorem LF.now {B : Heap → Prop} {st : Bool} {f : Nat} {T R : List Nat} {e : Env} {h : Heap} {K : Env → Heap → Prop} (H : LF P B st ops f T R e h K) : LI P B st ops (f :: (R ++ T)) e h K := by
  cases R with
  | nil => exact H
  | cons i R => exact H.1
theorem SOp.and {B : Heap → Prop} {st : Bool} {o : Oper} {e : Env} {h : Heap} {K1 K2 : Env → Heap → Prop} (hk : kindOf o.op = .pure ∨ kindOf o.op = .read) (H1 : SOp P B st o e h K1) (H2 : SOp P B st o e h K2) : SOp P B st o e h fun e' h' => K1 e' h' ∧ K2 e' h' := by
  have un : ∀ {u u2 : Value} {w : World}, (execOp e.ev o).run P w = .ok (.value u) w → (execOp e.ev o).run P w = .ok (.value u2) w → u2 = u := by
    intro u u2 w a1 a2
    rw [a1] at a2
    injection a2 with a2 _
    injection a2 with a2
    exact a2.symm
  unfold SOp at H1 H2 ⊢
  rcases hk with hk | hk
  · simp only [hk] at H1 H2 ⊢
    obtain ⟨v, hv, h1⟩ := H1
    obtain ⟨v2, hv2, h2⟩ := H2
    cases un (hv (aWorld h)) (hv2 (aWorld h))
    exact ⟨v, hv, h1, h2⟩
  · cases st with
    | false =>
      simp only [hk] at H1 H2 ⊢
      obtain ⟨v, hv, h1⟩ := H1
      obtain ⟨v2, hv2, h2⟩ := H2
      cases un (hv (aWorld h) rfl) (hv2 (aWorld h) rfl)
      exact ⟨v, hv, h1, h2⟩
    | true =>
      simp only [hk] at H1 H2 ⊢
      obtain ⟨v, hb, hv, h1⟩ := H1
      obtain ⟨v2, _, hv2, h2⟩ := H2
      cases un (hv (aWorld h) hb) (hv2 (aWorld h) hb)
      exact ⟨v, hb, hv, h1, h2⟩
theorem GOp.and {B : Heap → Prop} {st : Bool} {o : Oper} {e : Env} {h : Heap} {K1 K2 : Env → Heap → Prop} (hk : kindOf o.op = .pure ∨ kindOf o.op = .read) (H1 : GOp P B st ops o e h K1) (H2 : GOp P B st ops o e h K2) : GOp P B st ops o e h fun e' h' => K1 e' h' ∧ K2 e' h' := by
  unfold GOp at *
  split
  · rename_i hw; rw [if_pos hw] at H1 H2; exact H1.and hk H2
  · rename_i hw; rw [if_neg hw] at H1 H2; exact ⟨H1, H2⟩
/-- A reading operation comes ahead. -/
theorem LF.bubbleA {B : Heap → Prop} {st : Bool} {f i : Nat} {T : List Nat} {of oi : Oper} (hf : ops[f]? = some of) (hsf : noSel of = true) (hi : ops[i]? = some oi) (hsi : noSel oi = true) (hk : kindOf oi.op = .pure ∨ kindOf oi.op = .read) (hfi : indep st ops of oi = true) (R1 : List Nat) : ∀ {R2 : List Nat} {e : Env} {h : Heap} {K : Env → Heap → Prop},
    (∀ k ∈ R1, ∃ ok, ops[k]? = some ok ∧ noSel ok = true ∧ indep st ops ok oi = true) → LF P B st ops f T (R1 ++ i :: R2) e h K → GOp P B st ops oi e h fun e' h' => LF P B st ops f T (R1 ++ R2) e' h' K := by
  induction R1 with
  | nil =>
    intro R2 e h K _ H
    have := H.2
    simp only [hi] at this
    exact this
  | cons k R1 ih =>
    intro R2 e h K hind H
    obtain ⟨ok, hok, hsk, hik⟩ := hind k (List.mem_cons_self ..)
    have h1 := H.1
    have h2 := H.2
    simp only [hok] at h2
    have h3 : GOp P B st ops ok e h fun e' h' => GOp P B st ops oi e' h' fun e2 h2 => LF P B st ops f T (R1 ++ R2) e2 h2 K := h2.mono fun v h' hh => ih (fun k' hk' => hind k' (List.mem_cons_of_mem _ hk')) hh
    have h4 := GOp.swap hsk hsi hik h3
    have h5 : LI P B st ops ((f :: k :: R1) ++ i :: (R2 ++ T)) e h K := by simpa using h1
    have h6 := LI.bubble hi hsi (f :: k :: R1) (fun j hj => by
      rcases List.mem_cons.1 hj with rfl | hj
      · exact ⟨of, hf, hsf, hfi⟩
      · exact hind j hj) h5
    simp only [LI, hi] at h6
    refine (GOp.and hk h6 h4).mono fun v h' hh => ⟨?_, ?_⟩
    · have := hh.1
      simpa [LI] using this
    · simp only [hok]; exact hh.2
/-- Any operation comes ahead, behind reading ones. -/
theorem LF.bubbleB {B : Heap → Prop} {st : Bool} {f i : Nat} {T : List Nat} {of oi : Oper} (hf : ops[f]? = some of) (hsf : noSel of = true) (hi : ops[i]? = some oi) (hsi : noSel oi = true) (R1 : List Nat) : ∀ {R2 : List Nat} {e : Env} {h : Heap} {K : Env → Heap → Prop},
    (∀ k ∈ R1, ∃ ok, ops[k]? = some ok ∧ noSel ok = true ∧ indep st ops ok oi = true ∧ indep st ops ok of = true) → LF P B st ops f T (R1 ++ i :: R2) e h K → GOp P B st ops oi e h fun e' h' => LF P B st ops f T (R1 ++ R2) e' h' K := by
  induction R1 with
  | nil =>
    intro R2 e h K _ H
    have := H.2
    simp only [hi] at this
    exact this
  | cons k R1 ih =>
    intro R2 e h K hind H
    obtain ⟨ok, hok, hsk, hik, hfk⟩ := hind k (List.mem_cons_self ..)
    have h2 := H.2
    simp only [hok] at h2
    have h3 : GOp P B st ops ok e h fun e' h' => GOp P B st ops oi e' h' fun e2 h2 => LF P B st ops f T (R1 ++ R2) e2 h2 K := h2.mono fun v h' hh => ih (fun k' hk' => hind k' (List.mem_cons_of_mem _ hk')) hh
    refine (GOp.swap hsk hsi hik h3).mono fun v h' hh => ⟨?_, ?_⟩
    · have h5 : LI P B st ops ([k] ++ f :: (R1 ++ R2 ++ T)) (e.put oi.dst v) h' K := by
        simp only [List.cons_append, List.nil_append, LI, hok]
        exact hh.mono fun v2 h2 hl => by have := hl.now; simpa [LI] using this
      have := LI.bubble hf hsf [k] (fun j hj => by rw [List.mem_singleton.1 hj]; exact ⟨ok, hok, hsk, hfk⟩) h5
      simpa using this
    · simp only [hok]; exact hh
theorem LF.lift {B : Heap → Prop} {st : Bool} {f k : Nat} {T R : List Nat} {of ok : Oper} (hf : ops[f]? = some of) (hsf : noSel of = true) (hok : ops[k]? = some ok) (hsk : noSel ok = true) (hfk : indep st ops ok of = true) {e : Env} {h : Heap} {K : Env → Heap → Prop} (H : GOp P B st ops ok e h fun e' h' => LF P B st ops f T R e' h' K) : LF P B st ops f T (k :: R) e h K := by
  refine ⟨?_, by simp only [hok]; exact H⟩
  have h5 : LI P B st ops ([k] ++ f :: (R ++ T)) e h K := by
    simp only [List.cons_append, List.nil_append, LI, hok]
    exact H.mono fun v2 h2 hl => by have := hl.now; simpa [LI] using this
  have := LI.bubble hf hsf [k] (fun j hj => by rw [List.mem_singleton.1 hj]; exact ⟨ok, hok, hsk, hfk⟩) h5
  simpa using this
theorem LI_of_RL {B : Heap → Prop} {st : Bool} {K : Env → Heap → Prop} : ∀ (I : List Nat) (L : List Oper), I.map (fun i => ops[i]?) = L.map some → ∀ e h, RL P B st ops L e h K → LI P B st ops I e h K := by
  intro I
  induction I with
  | nil => intro L hI e h H; cases L with | nil => exact H | cons o L => cases hI
  | cons i I ih =>
    intro L hI e h H
    cases L with
    | nil => cases hI
    | cons o L =>
      simp only [List.map_cons, List.cons.injEq] at hI
      simp only [LI, hI.1]
      exact GOp.mono (fun v h' hh => ih L hI.2 _ _ hh) H
theorem indep_comm {st : Bool} {x y : Oper} (h : indep st ops x y = true) : indep st ops y x = true := by
  unfold indep at h ⊢
  rw [Bool.and_eq_true] at h ⊢
  refine ⟨?_, ?_⟩
  · have := Oper.apart_spec h.1
    have h1 := h.1
    unfold Oper.apart at h1 ⊢
    simp only [Bool.and_eq_true] at h1 ⊢
    revert h1
    cases hx : x.dst <;> cases hy : y.dst <;> simp <;> intros <;> simp_all <;> (try exact fun hh => by simp_all)
  · cases hx : kindOf x.op <;> cases hy : kindOf y.op <;> simp_all
end
end Go.QF
