/-
  What the evaluator's values and heaps stand for.
-/
import Derived.Test.YtccgaemmdikhcaaDoorEw
namespace Go.QF
open Go
set_option linter.unusedVariables false
theorem nth_eq {α : Type} : ∀ (l : List α) (k : Nat), nth l k = l[k]? := by
  intro l
  induction l with
  | nil => intro k; simp [nth]
  | cons x l ih => intro k; cases k <;> simp [nth, ih]
/-- Where the evaluator's blocks lie; a block that is foretold lies nowhere yet. -/
abbrev Mp := List (Option (Nat × Nat))
def mg (m : Mp) (k : Nat) : Option (Nat × Nat) := match m[k]? with | some (some r) => some r | _ => none
theorem mg_lt {m : Mp} {k : Nat} {r : Nat × Nat} (h : mg m k = some r) : k < m.length := by
  unfold mg at h
  split at h
  · rename_i q hq; exact (List.getElem?_eq_some_iff.1 hq).1
  · cases h
theorem mg_left {m x : Mp} {k : Nat} (h : k < m.length) : mg (m ++ x) k = mg m k := by unfold mg; rw [List.getElem?_append_left h]
theorem mg_last (m : Mp) (r : Nat × Nat) : mg (m ++ [some r]) m.length = some r := by unfold mg; simp
theorem mg_cases {m : Mp} {k : Nat} {r q : Nat × Nat} (h : mg (m ++ [some r]) k = some q) : (k < m.length ∧ mg m k = some q) ∨ (k = m.length ∧ q = r) := by
  have hl := mg_lt h
  simp at hl
  rcases Nat.lt_or_ge k m.length with hk | hk
  · rw [mg_left hk] at h; exact .inl ⟨hk, h⟩
  · have : k = m.length := by omega
    subst this
    rw [mg_last] at h
    cases h
    exact .inr ⟨rfl, rfl⟩
mutual
def rel (m : Mp) : V → Value → Prop
  | .u, v => v = undef
  | .b x, v => v = .bool x
  | .i k n, v => v = .int k n
  | .p blk off, v => ∃ r, mg m blk = some r ∧ v = .pointer (some ⟨r.1, off, none⟩)
  | .s blk off len cap, v => ∃ r, mg m blk = some r ∧ v = .slice (some ⟨r.1, off, none⟩) len cap
  | .g blk len, v => ∃ r, mg m blk = some r ∧ len ≤ r.2 ∧ v = .slice (some ⟨r.1, 0, none⟩) len r.2
  | .sn, v => v = .slice none 0 0
  | .fn, v => v = .nilFunc
  | .f id c, v => ∃ vs, rels m c vs ∧ v = .func (.func id) #[] vs.toArray
  | .a l, v => ∃ vs, rels m l vs ∧ v = .agg vs.toArray
  | .t l, v => ∃ vs, rels m l vs ∧ v = .tuple vs.toArray
def rels (m : Mp) : List V → List Value → Prop
  | [], vs => vs = []
  | x :: l, vs => ∃ y ys, vs = y :: ys ∧ rel m x y ∧ rels m l ys
end
/-- What lies somewhere stays there. -/
def Wle (m m' : Mp) : Prop := ∀ (k : Nat) (r : Nat × Nat), mg m k = some r → mg m' k = some r
theorem Wle.refl (m : Mp) : Wle m m := fun _ _ h => h
theorem Wle.trans {a b c : Mp} (h : Wle a b) (k : Wle b c) : Wle a c := fun i r hr => k i r (h i r hr)
/-- Blocks have come. -/
structure Mle (m m' : Mp) : Prop where
  pre : ∃ t, m' = m ++ t
theorem Mle.w {m m' : Mp} (h : Mle m m') : Wle m m' := by
  obtain ⟨t, rfl⟩ := h.pre
  intro k r hk
  rw [mg_left (mg_lt hk)]; exact hk
theorem Mle.refl (m : Mp) : Mle m m := ⟨⟨[], by simp⟩⟩
theorem Mle.trans {a b c : Mp} (h : Mle a b) (k : Mle b c) : Mle a c := by
  obtain ⟨t, rfl⟩ := h.pre
  obtain ⟨u, rfl⟩ := k.pre
  exact ⟨⟨t ++ u, by simp⟩⟩
theorem mle_push (m : Mp) (r : Nat × Nat) : Mle m (m ++ [some r]) := ⟨⟨_, rfl⟩⟩
mutual
theorem rel_mono {m m' : Mp} (hm : Wle m m') : ∀ (x : V) (v : Value), rel m x v → rel m' x v
  | .u, v, h => h
  | .b _, v, h => h
  | .i _ _, v, h => h
  | .p _ _, v, h => by obtain ⟨r, h1, h2⟩ := h; exact ⟨r, hm _ _ h1, h2⟩
  | .s _ _ _ _, v, h => by obtain ⟨r, h1, h2⟩ := h; exact ⟨r, hm _ _ h1, h2⟩
  | .g _ _, v, h => by obtain ⟨r, h1, h2⟩ := h; exact ⟨r, hm _ _ h1, h2⟩
  | .sn, v, h => h
  | .fn, v, h => h
  | .f _ c, v, h => by obtain ⟨vs, h1, h2⟩ := h; exact ⟨vs, rels_mono hm c vs h1, h2⟩
  | .a c, v, h => by obtain ⟨vs, h1, h2⟩ := h; exact ⟨vs, rels_mono hm c vs h1, h2⟩
  | .t c, v, h => by obtain ⟨vs, h1, h2⟩ := h; exact ⟨vs, rels_mono hm c vs h1, h2⟩
theorem rels_mono {m m' : Mp} (hm : Wle m m') : ∀ (l : List V) (vs : List Value), rels m l vs → rels m' l vs
  | [], vs, h => h
  | x :: l, vs, h => by obtain ⟨y, ys, h1, h2, h3⟩ := h; exact ⟨y, ys, h1, rel_mono hm x y h2, rels_mono hm l ys h3⟩
end
mutual
theorem rel_fun {m : Mp} : ∀ (x : V) (v v' : Value), rel m x v → rel m x v' → v = v'
  | .u, v, v', h, h' => h.trans h'.symm
  | .b _, v, v', h, h' => h.trans h'.symm
  | .i _ _, v, v', h, h' => h.trans h'.symm
  | .p _ _, v, v', h, h' => by obtain ⟨r, h1, h2⟩ := h; obtain ⟨r', h3, h4⟩ := h'; rw [h1] at h3; cases h3; rw [h2, h4]
  | .s _ _ _ _, v, v', h, h' => by obtain ⟨r, h1, h2⟩ := h; obtain ⟨r', h3, h4⟩ := h'; rw [h1] at h3; cases h3; rw [h2, h4]
  | .g _ _, v, v', h, h' => by obtain ⟨r, h1, _, h2⟩ := h; obtain ⟨r', h3, _, h4⟩ := h'; rw [h1] at h3; cases h3; rw [h2, h4]
  | .sn, v, v', h, h' => h.trans h'.symm
  | .fn, v, v', h, h' => h.trans h'.symm
  | .f _ c, v, v', h, h' => by obtain ⟨vs, h1, h2⟩ := h; obtain ⟨vs', h3, h4⟩ := h'; rw [h2, h4, rels_fun c vs vs' h1 h3]
  | .a c, v, v', h, h' => by obtain ⟨vs, h1, h2⟩ := h; obtain ⟨vs', h3, h4⟩ := h'; rw [h2, h4, rels_fun c vs vs' h1 h3]
  | .t c, v, v', h, h' => by obtain ⟨vs, h1, h2⟩ := h; obtain ⟨vs', h3, h4⟩ := h'; rw [h2, h4, rels_fun c vs vs' h1 h3]
theorem rels_fun {m : Mp} : ∀ (l : List V) (vs vs' : List Value), rels m l vs → rels m l vs' → vs = vs'
  | [], vs, vs', h, h' => h.trans h'.symm
  | x :: l, vs, vs', h, h' => by
    obtain ⟨y, ys, h1, h2, h3⟩ := h; obtain ⟨y', ys', h4, h5, h6⟩ := h'
    rw [h1, h4, rel_fun x y y' h2 h5, rels_fun l ys ys' h3 h6]
end
/-- Lists that stand for one another, place by place. -/
def LR (m : Mp) (c : List V) (cs : List Value) : Prop := ∀ (o : Nat) (x : V), c[o]? = some x → ∃ u, cs[o]? = some u ∧ rel m x u
theorem rels_iff {m : Mp} : ∀ {l : List V} {vs : List Value}, rels m l vs ↔ l.length = vs.length ∧ LR m l vs := by
  intro l
  induction l with
  | nil =>
    intro vs
    constructor
    · intro h; cases h; exact ⟨rfl, fun o x hx => by simp at hx⟩
    · intro h; exact List.eq_nil_of_length_eq_zero h.1.symm
  | cons x l ih =>
    intro vs
    constructor
    · rintro ⟨y, ys, rfl, h1, h2⟩
      obtain ⟨h3, h4⟩ := ih.1 h2
      refine ⟨by simp [h3], fun o z hz => ?_⟩
      cases o with
      | zero => simp at hz; subst hz; exact ⟨y, rfl, h1⟩
      | succ o => exact h4 o z (by simpa using hz)
    · rintro ⟨h1, h2⟩
      cases vs with
      | nil => simp at h1
      | cons y ys =>
        refine ⟨y, ys, rfl, ?_, ih.2 ⟨by simpa using h1, fun o z hz => h2 (o + 1) z (by simpa using hz)⟩⟩
        obtain ⟨u, hu, hr⟩ := h2 0 x rfl
        simp at hu; subst hu; exact hr
theorem rels_len {m : Mp} {l : List V} {vs : List Value} (h : rels m l vs) : l.length = vs.length := (rels_iff.1 h).1
theorem LR.mono {m m' : Mp} (hm : Wle m m') {c : List V} {cs : List Value} (h : LR m c cs) : LR m' c cs := fun o x hx => let ⟨u, hu, hr⟩ := h o x hx; ⟨u, hu, rel_mono hm _ _ hr⟩
theorem rels_app {m : Mp} : ∀ {l l' : List V} {vs vs' : List Value}, rels m l vs → rels m l' vs' → rels m (l ++ l') (vs ++ vs') := by
  intro l
  induction l with
  | nil => intro l' vs vs' h h'; cases h; exact h'
  | cons x l ih => rintro l' vs vs' ⟨y, ys, rfl, h1, h2⟩ h'; exact ⟨y, ys ++ vs', rfl, h1, ih h2 h'⟩
theorem LR.len {m : Mp} {c : List V} {cs : List Value} (h : LR m c cs) : c.length ≤ cs.length := by
  cases hc : c.length with
  | zero => omega
  | succ n =>
    obtain ⟨u, hu, _⟩ := h n (c[n]'(by omega)) (List.getElem?_eq_getElem (by omega))
    have := (List.getElem?_eq_some_iff.1 hu).1
    omega
theorem lr_app {m : Mp} {l l' : List V} {vs vs' : List Value} (h : rels m l vs) (h' : LR m l' vs') : LR m (l ++ l') (vs ++ vs') := by
  obtain ⟨h1, h2⟩ := rels_iff.1 h
  intro o x hx
  rcases Nat.lt_or_ge o l.length with hl | hl
  · rw [List.getElem?_append_left hl] at hx
    rw [List.getElem?_append_left (by omega)]
    exact h2 o x hx
  · rw [List.getElem?_append_right hl] at hx
    rw [List.getElem?_append_right (by omega), ← h1]
    exact h' _ x hx
theorem lr_nil (m : Mp) (vs : List Value) : LR m [] vs := fun o x hx => by simp at hx
theorem lr_pre {m : Mp} {l : List V} {vs ws : List Value} (h : rels m l vs) : LR m l (vs ++ ws) := by
  have := lr_app h (lr_nil m ws)
  rwa [List.append_nil] at this
theorem over_len {α : Type} : ∀ (l : List α) (k : Nat) (vs : List α), (over l k vs).length = l.length := by
  intro l
  induction l with
  | nil => intro k vs; cases k <;> cases vs <;> rfl
  | cons x l ih =>
    intro k vs
    cases k with
    | zero => cases vs with
      | nil => rfl
      | cons v vs => simp [over, ih]
    | succ k => simp [over, ih]
theorem over_get {α : Type} : ∀ (l : List α) (k : Nat) (vs : List α) (o : Nat), (over l k vs)[o]? = if k ≤ o ∧ o < k + vs.length ∧ o < l.length then vs[o - k]? else l[o]? := by
  intro l
  induction l with
  | nil => intro k vs o; cases k <;> cases vs <;> simp [over]
  | cons x l ih =>
    intro k vs o
    cases k with
    | zero => cases vs with
      | nil => simp [over]
      | cons v vs =>
        cases o with
        | zero => simp [over]
        | succ o =>
          simp only [over, List.getElem?_cons_succ, ih]
          simp only [List.length_cons, Nat.zero_le, true_and, Nat.sub_zero, List.getElem?_cons_succ, Nat.zero_add, Nat.add_lt_add_iff_right]
    | succ k =>
      cases o with
      | zero => simp [over]
      | succ o =>
        simp only [over, List.getElem?_cons_succ, ih, List.length_cons]
        by_cases hc : k ≤ o ∧ o < k + vs.length ∧ o < l.length
        · rw [if_pos hc, if_pos (by omega)]; congr 1; omega
        · rw [if_neg hc, if_neg (by omega)]
/-- What a heap of the evaluator stands for, above h. -/
structure HR (h : Heap) (G : List (Nat × Nat)) (m : Mp) (bs : Hp) (H : Heap) : Prop where
  ext : Ext h H
  len : m.length = bs.length
  glob : ∀ g k, lookG G g = some k → ∃ c, mg m k = some (g, c)
  blk : ∀ (k : Nat) (b : Bk), bs[k]? = some (some b) → ∃ r, mg m k = some r ∧ r.1 < H.size ∧ (∀ o x, b.c[o]? = some x → ∃ u, cellH H ⟨r.1, o, none⟩ = some u ∧ rel m x u) ∧
    (b.ro = false → h.size ≤ r.1 ∧ ∃ cs t, H[r.1]? = some (.cells cs t (0, 0)) ∧ (b.sz ≠ 0 → cs.size = r.2 * b.sz))
  inj : ∀ (k k' : Nat) (b b' : Bk) (r r' : Nat × Nat), bs[k]? = some (some b) → bs[k']? = some (some b') → mg m k = some r → mg m k' = some r' → r.1 = r'.1 → k = k'
theorem blkE_eq {bs : Hp} {k : Nat} {b : Bk} (h : blkE bs k = some b) : bs[k]? = some (some b) := by
  unfold blkE at h
  rw [nth_eq] at h
  split at h
  · rename_i b' hb; cases h; exact hb
  · cases h
theorem HR.cell {h : Heap} {G : List (Nat × Nat)} {m : Mp} {bs : Hp} {H : Heap} (R : HR h G m bs H) {k o : Nat} {x : V} (hc : cellE bs k o = some x) : ∃ r u, mg m k = some r ∧ cellH H ⟨r.1, o, none⟩ = some u ∧ rel m x u := by
  unfold cellE at hc
  split at hc
  · rename_i b hb
    obtain ⟨r, h1, _, h3, _⟩ := R.blk k b (blkE_eq hb)
    rw [nth_eq] at hc
    obtain ⟨u, hu, hr⟩ := h3 o x hc
    exact ⟨r, u, h1, hu, hr⟩
  · cases hc
theorem HR.cells {h : Heap} {G : List (Nat × Nat)} {m : Mp} {bs : Hp} {H : Heap} (R : HR h G m bs H) {k : Nat} {r : Nat × Nat} (hk : mg m k = some r) : ∀ {n o : Nat} {xs : List V}, cellsE bs k o n = some xs → ∃ us, rels m xs us ∧ us.length = n ∧ ∀ i u, us[i]? = some u → cellH H ⟨r.1, o + i, none⟩ = some u := by
  intro n
  induction n with
  | zero => intro o xs hx; cases hx; exact ⟨[], rfl, rfl, fun i u hu => by simp at hu⟩
  | succ n ih =>
    intro o xs hx
    unfold cellsE at hx
    split at hx
    · rename_i v ws h1 h2
      cases hx
      obtain ⟨us, h3, h4, h5⟩ := ih h2
      obtain ⟨r', u, h6, h7, h8⟩ := R.cell h1
      rw [hk] at h6; cases h6
      refine ⟨u :: us, ⟨u, us, rfl, h8, h3⟩, by simp [h4], fun i y hy => ?_⟩
      cases i with
      | zero => simp at hy; subst hy; exact h7
      | succ i =>
        have := h5 i y (by simpa using hy)
        rwa [show o + (i + 1) = o + 1 + i by omega]
    · cases hx
theorem HR.push {h : Heap} {G : List (Nat × Nat)} {m : Mp} {bs : Hp} {H : Heap} (R : HR h G m bs H) {c : List V} {cs : Array Value} {t sz cap : Nat} (hc : LR m c cs.toList) (hs : sz ≠ 0 → cs.size = cap * sz) : HR h G (m ++ [some (H.size, cap)]) (bs ++ [some ⟨c, false, sz⟩]) (H.push (.cells cs t (0, 0))) := by
  have hE := ext_push H (.cells cs t (0, 0))
  have hM := (mle_push m (H.size, cap)).w
  refine ⟨R.ext.trans hE, by simp [R.len], fun g k hg => let ⟨c, hc⟩ := R.glob g k hg; ⟨c, hM _ _ hc⟩, fun k b hb => ?_, ?_⟩
  · rcases Nat.lt_or_ge k bs.length with hk | hk
    · rw [List.getElem?_append_left hk] at hb
      obtain ⟨r, h1, h2, h3, h4⟩ := R.blk k b hb
      refine ⟨r, hM _ _ h1, by simp; omega, fun o x hx => ?_, fun hro => ?_⟩
      · obtain ⟨u, hu, hr⟩ := h3 o x hx
        exact ⟨u, cellH_ext hu hE, rel_mono hM _ _ hr⟩
      · obtain ⟨h5, cs', t', h6, h7⟩ := h4 hro
        exact ⟨h5, cs', t', (hE.2 _ h2).trans h6, h7⟩
    · rw [List.getElem?_append_right hk] at hb
      have hk0 : k - bs.length = 0 := by
        rcases Nat.eq_zero_or_pos (k - bs.length) with h0 | h0
        · exact h0
        · rw [List.getElem?_eq_none (by simp; omega)] at hb; cases hb
      have hkl : k = bs.length := by omega
      subst hkl
      simp at hb
      subst hb
      refine ⟨(H.size, cap), by rw [← R.len]; exact mg_last _ _, by simp, fun o x hx => ?_, fun _ => ⟨R.ext.1, cs, t, by simp, hs⟩⟩
      obtain ⟨u, hu, hr⟩ := hc o x hx
      exact ⟨u, by simpa [cellH] using hu, rel_mono hM _ _ hr⟩
  · have key : ∀ (k : Nat) (b : Bk) (r : Nat × Nat), (bs ++ [some ⟨c, false, sz⟩])[k]? = some (some b) → mg (m ++ [some (H.size, cap)]) k = some r → (k < bs.length ∧ bs[k]? = some (some b) ∧ mg m k = some r ∧ r.1 < H.size) ∨ (k = bs.length ∧ r.1 = H.size) := by
      intro k b r hb hr
      rcases Nat.lt_or_ge k bs.length with hk | hk
      · rw [List.getElem?_append_left hk] at hb
        rw [mg_left (by rw [R.len]; exact hk)] at hr
        obtain ⟨r', h1, h2, _⟩ := R.blk k b hb
        rw [hr] at h1; cases h1
        exact .inl ⟨hk, hb, hr, h2⟩
      · have hkl : k = bs.length := by
          have := (List.getElem?_eq_some_iff.1 hb).1
          simp at this; omega
        subst hkl
        rw [← R.len, mg_last] at hr
        injection hr with hr
        exact .inr ⟨rfl, by rw [← hr]⟩
    intro k k' b b' r r' h1 h2 h3 h4 h5
    rcases key k b r h1 h3 with ⟨a1, a2, a3, a4⟩ | ⟨a1, a2⟩ <;> rcases key k' b' r' h2 h4 with ⟨c1, c2, c3, c4⟩ | ⟨c1, c2⟩
    · exact R.inj k k' b b' r r' a2 c2 a3 c3 h5
    · omega
    · omega
    · omega
theorem set_none_get {bs : Hp} {k j : Nat} {b : Bk} (h : (bs.set k none)[j]? = some (some b)) : j ≠ k ∧ bs[j]? = some (some b) := by
  rw [List.getElem?_set] at h
  split at h
  · split at h <;> cases h
  · rename_i hne; exact ⟨fun he => hne he.symm, h⟩
theorem HR.kill {h : Heap} {G : List (Nat × Nat)} {m : Mp} {bs : Hp} {H : Heap} (R : HR h G m bs H) (k : Nat) : HR h G m (bs.set k none) H :=
  ⟨R.ext, by simp [R.len], R.glob, fun j b hb => R.blk j b (set_none_get hb).2, fun j j' b b' r r' h1 h2 => R.inj j j' b b' r r' (set_none_get h1).2 (set_none_get h2).2⟩
theorem HR.move {h : Heap} {G : List (Nat × Nat)} {m : Mp} {bs : Hp} {H : Heap} (R : HR h G m bs H) {k : Nat} {b : Bk} {r : Nat × Nat} (hb : bs[k]? = some (some b)) (hr : mg m k = some r) : HR h G (m ++ [some r]) (bs.set k none ++ [some b]) H := by
  have hM := (mle_push m r).w
  have key : ∀ (j : Nat) (b' : Bk) (r' : Nat × Nat), (bs.set k none ++ [some b])[j]? = some (some b') → mg (m ++ [some r]) j = some r' → (j < bs.length ∧ j ≠ k ∧ bs[j]? = some (some b') ∧ mg m j = some r') ∨ (j = bs.length ∧ b' = b ∧ r' = r) := by
    intro j b' r' h1 h2
    rcases Nat.lt_or_ge j bs.length with hj | hj
    · rw [List.getElem?_append_left (by simpa using hj)] at h1
      rw [mg_left (by rw [R.len]; exact hj)] at h2
      exact .inl ⟨hj, (set_none_get h1).1, (set_none_get h1).2, h2⟩
    · have hjl : j = bs.length := by
        have := (List.getElem?_eq_some_iff.1 h1).1
        simp at this; omega
      subst hjl
      have h1' : (bs.set k none ++ [some b])[(bs.set k none).length]? = some (some b') := by simpa using h1
      rw [List.getElem?_append_right (Nat.le_refl _)] at h1'
      simp at h1'
      rw [← R.len, mg_last] at h2
      injection h2 with h2
      exact .inr ⟨rfl, h1'.symm, h2.symm⟩
  refine ⟨R.ext, by simp [R.len], fun g k hg => let ⟨c, hc⟩ := R.glob g k hg; ⟨c, hM _ _ hc⟩, fun j b' hb' => ?_, ?_⟩
  · obtain ⟨r', hr'⟩ : ∃ r', mg (m ++ [some r]) j = some r' := by
      rcases Nat.lt_or_ge j bs.length with hj | hj
      · rw [List.getElem?_append_left (by simpa using hj)] at hb'
        obtain ⟨q, h1, _⟩ := R.blk j b' (set_none_get hb').2
        exact ⟨q, hM _ _ h1⟩
      · have hjl : j = bs.length := by
          have := (List.getElem?_eq_some_iff.1 hb').1
          simp at this; omega
        subst hjl
        exact ⟨r, by rw [← R.len]; exact mg_last _ _⟩
    rcases key j b' r' hb' hr' with ⟨_, _, a2, a3⟩ | ⟨_, a2, a3⟩
    · obtain ⟨q, h1, h2, h3, h4⟩ := R.blk j b' a2
      rw [a3] at h1; cases h1
      exact ⟨r', hr', h2, fun o x hx => let ⟨u, hu, hh⟩ := h3 o x hx; ⟨u, hu, rel_mono hM _ _ hh⟩, h4⟩
    · subst a2; subst a3
      obtain ⟨q, h1, h2, h3, h4⟩ := R.blk k b' hb
      rw [hr] at h1; cases h1
      exact ⟨r', hr', h2, fun o x hx => let ⟨u, hu, hh⟩ := h3 o x hx; ⟨u, hu, rel_mono hM _ _ hh⟩, h4⟩
  · intro j j' b1 b2 r1 r2 h1 h2 h3 h4 h5
    rcases key j b1 r1 h1 h3 with ⟨_, a0, a2, a3⟩ | ⟨a1, a2, a3⟩ <;> rcases key j' b2 r2 h2 h4 with ⟨_, c0, c2, c3⟩ | ⟨c1, c2, c3⟩
    · exact R.inj j j' b1 b2 r1 r2 a2 c2 a3 c3 h5
    · subst c3; exact absurd (R.inj j k b1 b r1 r2 a2 hb a3 hr h5) a0
    · subst a3; exact absurd (R.inj k j' b b2 r1 r2 hb c2 hr c3 h5).symm c0
    · omega
theorem mg_set {m : Mp} {k j : Nat} {r q : Nat × Nat} (h : mg (m.set k (some r)) j = some q) : (j = k ∧ q = r) ∨ (j ≠ k ∧ mg m j = some q) := by
  unfold mg at h ⊢
  rw [List.getElem?_set] at h
  by_cases hk : k = j
  · subst hk
    rw [if_pos rfl] at h
    split at h
    · rename_i q' hq
      split at hq
      · cases hq; cases h; exact .inl ⟨rfl, rfl⟩
      · cases hq
    · cases h
  · rw [if_neg hk] at h
    exact .inr ⟨fun he => hk he.symm, h⟩
theorem mg_none {m : Mp} {k : Nat} (h : m[k]? = some none) : mg m k = none := by unfold mg; rw [h]
theorem wle_resv {m : Mp} {k : Nat} (hk : m[k]? = some none) (r : Nat × Nat) : Wle m (m.set k (some r)) := by
  intro j q hj
  have hne : k ≠ j := fun he => by subst he; rw [mg_none hk] at hj; cases hj
  unfold mg at hj ⊢
  rw [List.getElem?_set, if_neg hne]; exact hj
/-- A block that was foretold comes. -/
theorem HR.resv {h : Heap} {G : List (Nat × Nat)} {m : Mp} {bs : Hp} {H : Heap} (R : HR h G m bs H) {k : Nat} (hk : m[k]? = some none) {c : List V} {cs : Array Value} {t : Nat} (hc : LR m c cs.toList) : HR h G (m.set k (some (H.size, 0))) (bs.set k (some ⟨c, false, 0⟩)) (H.push (.cells cs t (0, 0))) := by
  have hE := ext_push H (.cells cs t (0, 0))
  have hM := wle_resv hk (H.size, 0)
  have hkl : k < m.length := (List.getElem?_eq_some_iff.1 hk).1
  have hgk : mg (m.set k (some (H.size, 0))) k = some (H.size, 0) := by unfold mg; rw [List.getElem?_set_self hkl]
  have key : ∀ (j : Nat) (b : Bk), (bs.set k (some ⟨c, false, 0⟩))[j]? = some (some b) → (j = k ∧ b = ⟨c, false, 0⟩) ∨ (j ≠ k ∧ bs[j]? = some (some b)) := by
    intro j b h1
    rw [List.getElem?_set] at h1
    by_cases hj : k = j
    · subst hj
      rw [if_pos rfl] at h1
      split at h1
      · injection h1 with h1; injection h1 with h1; exact .inl ⟨rfl, h1.symm⟩
      · cases h1
    · rw [if_neg hj] at h1; exact .inr ⟨fun he => hj he.symm, h1⟩
  refine ⟨R.ext.trans hE, by simp [R.len], fun g j hg => let ⟨c, hc⟩ := R.glob g j hg; ⟨c, hM _ _ hc⟩, fun j b hb => ?_, ?_⟩
  · rcases key j b hb with ⟨rfl, rfl⟩ | ⟨hne, hb⟩
    · refine ⟨(H.size, 0), hgk, by simp, fun o x hx => ?_, fun _ => ⟨R.ext.1, cs, t, by simp, fun h0 => absurd rfl h0⟩⟩
      obtain ⟨u, hu, hr⟩ := hc o x hx
      exact ⟨u, by simpa [cellH] using hu, rel_mono hM _ _ hr⟩
    · obtain ⟨r, h1, h2, h3, h4⟩ := R.blk j b hb
      refine ⟨r, hM _ _ h1, by simp; omega, fun o x hx => ?_, fun hro => ?_⟩
      · obtain ⟨u, hu, hr⟩ := h3 o x hx
        exact ⟨u, cellH_ext hu hE, rel_mono hM _ _ hr⟩
      · obtain ⟨h5, cs', t', h6, h7⟩ := h4 hro
        exact ⟨h5, cs', t', (hE.2 _ h2).trans h6, h7⟩
  · intro j j' b b' r r' h1 h2 h3 h4 h5
    have fact : ∀ (j : Nat) (b : Bk) (r : Nat × Nat), (bs.set k (some ⟨c, false, 0⟩))[j]? = some (some b) → mg (m.set k (some (H.size, 0))) j = some r → (j = k ∧ r.1 = H.size) ∨ (j ≠ k ∧ bs[j]? = some (some b) ∧ mg m j = some r ∧ r.1 < H.size) := by
      intro j b r hb hr
      rcases key j b hb with ⟨rfl, _⟩ | ⟨hne, hb⟩
      · rcases mg_set hr with ⟨_, rfl⟩ | ⟨h0, _⟩
        · exact .inl ⟨rfl, rfl⟩
        · exact absurd rfl h0
      · rcases mg_set hr with ⟨h0, _⟩ | ⟨_, hr⟩
        · exact absurd h0 hne
        · obtain ⟨q, q1, q2, _⟩ := R.blk j b hb
          rw [hr] at q1; cases q1
          exact .inr ⟨hne, hb, hr, q2⟩
    rcases fact j b r h1 h3 with ⟨a1, a2⟩ | ⟨a1, a2, a3, a4⟩ <;> rcases fact j' b' r' h2 h4 with ⟨c1, c2⟩ | ⟨c1, c2, c3, c4⟩
    · omega
    · omega
    · omega
    · exact R.inj j j' b b' r r' a2 c2 a3 c3 h5
/-- A block is foretold. -/
theorem HR.foretell {h : Heap} {G : List (Nat × Nat)} {m : Mp} {bs : Hp} {H : Heap} (R : HR h G m bs H) : HR h G (m ++ [none]) (bs ++ [none]) H := by
  have hM : Wle m (m ++ [none]) := (Mle.mk ⟨_, rfl⟩).w
  have key : ∀ (j : Nat) (b : Bk), (bs ++ [none])[j]? = some (some b) → bs[j]? = some (some b) := by
    intro j b hb
    rcases Nat.lt_or_ge j bs.length with hj | hj
    · rwa [List.getElem?_append_left hj] at hb
    · rw [List.getElem?_append_right hj] at hb
      cases hjj : j - bs.length with
      | zero => rw [hjj] at hb; simp at hb
      | succ n => rw [hjj] at hb; simp at hb
  refine ⟨R.ext, by simp [R.len], fun g j hg => let ⟨c, hc⟩ := R.glob g j hg; ⟨c, hM _ _ hc⟩, fun j b hb => ?_, ?_⟩
  · obtain ⟨r, h1, h2, h3, h4⟩ := R.blk j b (key j b hb)
    exact ⟨r, hM _ _ h1, h2, fun o x hx => let ⟨u, hu, hr⟩ := h3 o x hx; ⟨u, hu, rel_mono hM _ _ hr⟩, h4⟩
  · intro j j' b b' r r' h1 h2 h3 h4 h5
    have back : ∀ (j : Nat) (b : Bk) (r : Nat × Nat), bs[j]? = some (some b) → mg (m ++ [none]) j = some r → mg m j = some r := by
      intro j b r hb hr
      rwa [mg_left (by rw [R.len]; exact (List.getElem?_eq_some_iff.1 hb).1)] at hr
    exact R.inj j j' b b' r r' (key _ _ h1) (key _ _ h2) (back _ _ _ (key _ _ h1) h3) (back _ _ _ (key _ _ h2) h4) h5
/-- A block's contents turn. -/
theorem HR.repl {h : Heap} {G : List (Nat × Nat)} {m : Mp} {bs : Hp} {H H' : Heap} (R : HR h G m bs H) {k : Nat} {b : Bk} {r : Nat × Nat} {cs cs' : Array Value} {t : TypeId} {c' : List V} (hb : bs[k]? = some (some b)) (hro : b.ro = false) (hr : mg m k = some r)
    (hcs : H[r.1]? = some (.cells cs t (0, 0))) (hU : Upd (· = r.1) H H') (hcs' : H'[r.1]? = some (.cells cs' t (0, 0))) (hsz : cs'.size = cs.size) (hc : LR m c' cs'.toList) : HR h G m (bs.set k (some ⟨c', b.ro, b.sz⟩)) H' := by
  obtain ⟨q, q1, q2, q3, q4⟩ := R.blk k b hb
  rw [hr] at q1; cases q1
  obtain ⟨q5, cs0, t0, q6, q7⟩ := q4 hro
  rw [hcs] at q6; cases q6
  have hkl := (List.getElem?_eq_some_iff.1 hb).1
  have key : ∀ (j : Nat) (b' : Bk), (bs.set k (some ⟨c', b.ro, b.sz⟩))[j]? = some (some b') → (j = k ∧ b' = ⟨c', b.ro, b.sz⟩) ∨ (j ≠ k ∧ bs[j]? = some (some b')) := by
    intro j b' h1
    rw [List.getElem?_set] at h1
    split at h1
    · rename_i he
      subst he
      first | rw [if_pos hkl] at h1 | skip
      injection h1 with h1
      injection h1 with h1
      exact .inl ⟨rfl, h1.symm⟩
    · rename_i hne; exact .inr ⟨fun he => hne he.symm, h1⟩
  refine ⟨R.ext.thenUpd hU (fun i hi => by have hi' : i = r.1 := hi; omega), by simp [R.len], R.glob, fun j b' hb' => ?_, ?_⟩
  · rcases key j b' hb' with ⟨rfl, rfl⟩ | ⟨hne, hb2⟩
    · refine ⟨r, hr, Nat.lt_of_lt_of_le q2 hU.1, fun o x hx => ?_, fun _ => ⟨q5, cs', t, hcs', fun hz => by rw [hsz]; exact q7 hz⟩⟩
      obtain ⟨u, hu, hrl⟩ := hc o x hx
      exact ⟨u, by simp only [cellH, hcs']; simpa using hu, hrl⟩
    · obtain ⟨q', p1, p2, p3, p4⟩ := R.blk j b' hb2
      have hneq : ¬ q'.1 = r.1 := fun he => hne (R.inj j k b' b q' r hb2 hb p1 hr he)
      refine ⟨q', p1, Nat.lt_of_lt_of_le p2 hU.1, fun o x hx => ?_, fun hro' => ?_⟩
      · obtain ⟨u, hu, hrl⟩ := p3 o x hx
        exact ⟨u, cellH_upd hu hU hneq, hrl⟩
      · obtain ⟨p5, cs2, t2, p6, p7⟩ := p4 hro'
        exact ⟨p5, cs2, t2, (hU.2 _ p2 hneq).trans p6, p7⟩
  · intro j j' b1 b2 r1 r2 h1 h2 h3 h4 h5
    have old : ∀ (j : Nat) (b' : Bk), (bs.set k (some ⟨c', b.ro, b.sz⟩))[j]? = some (some b') → ∃ b'', bs[j]? = some (some b'') := by
      intro j b' hj
      rcases key j b' hj with ⟨rfl, _⟩ | ⟨_, hb2⟩
      · exact ⟨b, hb⟩
      · exact ⟨b', hb2⟩
    obtain ⟨b1', hb1⟩ := old j b1 h1
    obtain ⟨b2', hb2⟩ := old j' b2 h2
    exact R.inj j j' b1' b2' r1 r2 hb1 hb2 h3 h4 h5
end Go.QF
