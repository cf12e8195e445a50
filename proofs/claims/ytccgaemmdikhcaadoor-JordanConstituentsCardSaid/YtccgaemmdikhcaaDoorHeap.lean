/-
  What slices hold: read alone (Sl, Mat), or owned by the call (OwnA, OwnM); how stores, new blocks and later heaps keep it; the rules of operations in these words. No condition.
-/
import Derived.Test.YtccgaemmdikhcaaDoorOps
import Derived.Laws.MakeOwn
namespace Go.QF
open Go
set_option linter.unusedVariables false
set_option linter.unusedSimpArgs false

/-! ### Later heaps -/
/-- h' holds all blocks of h as they were, but for those in S. -/
def Upd (S : Nat → Prop) (h h' : Heap) : Prop := h.size ≤ h'.size ∧ ∀ k, k < h.size → ¬ S k → h'[k]? = h[k]?
def Ext (h h' : Heap) : Prop := h.size ≤ h'.size ∧ ∀ k, k < h.size → h'[k]? = h[k]?
theorem Ext.refl (h : Heap) : Ext h h := ⟨Nat.le_refl _, fun _ _ => rfl⟩
theorem Ext.trans {a b c : Heap} (h : Ext a b) (k : Ext b c) : Ext a c := ⟨Nat.le_trans h.1 k.1, fun i hi => (k.2 i (Nat.lt_of_lt_of_le hi h.1)).trans (h.2 i hi)⟩
theorem Ext.upd {S : Nat → Prop} {a b : Heap} (h : Ext a b) : Upd S a b := ⟨h.1, fun k hk _ => h.2 k hk⟩
theorem Upd.refl (S : Nat → Prop) (h : Heap) : Upd S h h := ⟨Nat.le_refl _, fun _ _ _ => rfl⟩
theorem Upd.trans {S : Nat → Prop} {a b c : Heap} (h : Upd S a b) (k : Upd S b c) : Upd S a c := ⟨Nat.le_trans h.1 k.1, fun i hi hs => (k.2 i (Nat.lt_of_lt_of_le hi h.1) hs).trans (h.2 i hi hs)⟩
theorem Upd.mono {S T : Nat → Prop} {a b : Heap} (h : Upd S a b) (hST : ∀ k, k < a.size → S k → T k) : Upd T a b := ⟨h.1, fun k hk ht => h.2 k hk fun hs => ht (hST k hk hs)⟩
theorem Upd.ext {S : Nat → Prop} {a b : Heap} (h : Upd S a b) (hS : ∀ k, S k → a.size ≤ k) : Ext a b := ⟨h.1, fun k hk => h.2 k hk fun hs => by have := hS k hs; omega⟩
/-- Nothing below the first heap's end has turned, though later blocks have. -/
theorem Ext.thenUpd {S : Nat → Prop} {a b c : Heap} (h : Ext a b) (k : Upd S b c) (hS : ∀ i, S i → a.size ≤ i) : Ext a c :=
  ⟨Nat.le_trans h.1 k.1, fun i hi => (k.2 i (Nat.lt_of_lt_of_le hi h.1) fun hs => by have := hS i hs; omega).trans (h.2 i hi)⟩
theorem ext_push (h : Heap) (o : Obj) : Ext h (h.push o) := ⟨by simp, fun k hk => by rw [Array.getElem?_push, if_neg (by omega)]⟩
theorem upd_set (h : Heap) (a : Addr) (v : Value) : Upd (· = a.block) h (setH h a v) := by
  refine ⟨by simp [setH], fun k hk hs => ?_⟩
  simp only [setH, Array.getElem?_modify]
  rw [if_neg (fun he => hs he.symm)]
theorem size_setH (h : Heap) (a : Addr) (v : Value) : (setH h a v).size = h.size := by simp [setH]

theorem cellH_lt {h : Heap} {a : Addr} {v : Value} (hc : cellH h a = some v) : a.block < h.size := by
  unfold cellH at hc
  rcases Nat.lt_or_ge a.block h.size with hl | hl
  · exact hl
  · rw [Array.getElem?_eq_none hl] at hc; simp at hc
theorem cellH_congr {h h' : Heap} {a : Addr} (he : h'[a.block]? = h[a.block]?) : cellH h' a = cellH h a := by unfold cellH; rw [he]
theorem cellH_ext {h h' : Heap} {a : Addr} {v : Value} (hc : cellH h a = some v) (he : Ext h h') : cellH h' a = some v := by
  rw [cellH_congr (he.2 _ (cellH_lt hc))]; exact hc
theorem cellH_upd {S : Nat → Prop} {h h' : Heap} {a : Addr} {v : Value} (hc : cellH h a = some v) (he : Upd S h h') (hS : ¬ S a.block) : cellH h' a = some v := by
  rw [cellH_congr (he.2 _ (cellH_lt hc) hS)]; exact hc

/-! ### Slices of one-cell elements, read -/
def Sl (h : Heap) (v : Value) (l : List Value) : Prop := ∃ a cap, v = .slice a l.length cap ∧ ∀ i x, l[i]? = some x → ∃ b o, a = some ⟨b, o, none⟩ ∧ cellH h ⟨b, o + i, none⟩ = some x
theorem Sl.ext {h h' : Heap} {v : Value} {l : List Value} (H : Sl h v l) (he : Ext h h') : Sl h' v l := by
  obtain ⟨a, cap, hv, hc⟩ := H
  exact ⟨a, cap, hv, fun i x hx => let ⟨b, o, ha, hx⟩ := hc i x hx; ⟨b, o, ha, cellH_ext hx he⟩⟩
theorem Sl.upd {S : Nat → Prop} {h h' : Heap} {v : Value} {l : List Value} (H : Sl h v l) (he : Upd S h h') (hS : ∀ b, v.ownBlock = some b → ¬ S b) : Sl h' v l := by
  obtain ⟨a, cap, hv, hc⟩ := H
  refine ⟨a, cap, hv, fun i x hx => ?_⟩
  obtain ⟨b, o, ha, hx⟩ := hc i x hx
  exact ⟨b, o, ha, cellH_upd hx he (hS b (by subst hv; subst ha; rfl))⟩
theorem sl_nil (h : Heap) : Sl h (.slice none 0 0) [] := ⟨none, 0, rfl, fun i x hx => by simp at hx⟩
theorem Sl.inj {h : Heap} {v : Value} {l l' : List Value} (H : Sl h v l) (H' : Sl h v l') : l = l' := by
  obtain ⟨a, cap, rfl, hc⟩ := H
  obtain ⟨a', cap', hv, hc'⟩ := H'
  injection hv with ha hl hcap
  subst ha
  refine List.ext_getElem? fun i => ?_
  cases hx : l[i]? with
  | none =>
    have : l'[i]? = none := by rw [List.getElem?_eq_none_iff] at hx ⊢; omega
    rw [this]
  | some x =>
    obtain ⟨b, o, ha, h1⟩ := hc i x hx
    have hi : i < l'.length := by have := (List.getElem?_eq_some_iff.1 hx).1; omega
    obtain ⟨b', o', ha', h2⟩ := hc' i l'[i] (List.getElem?_eq_getElem hi)
    rw [ha] at ha'
    injection ha' with ha'
    injection ha' with hb ho
    subst hb; subst ho
    rw [h1] at h2
    injection h2 with h2
    rw [h2, List.getElem?_eq_getElem hi]

/-- A prefix of a slice. -/
theorem Sl.pre {h : Heap} {a : Option Addr} {n cap : Nat} {l : List Value} (H : Sl h (.slice a n cap) l) (k : Nat) (hk : k ≤ l.length) (cap' : Nat) : Sl h (.slice a k cap') (l.take k) := by
  obtain ⟨a', c', hv, hc⟩ := H
  injection hv with ha hl hcap
  subst ha
  refine ⟨a, cap', by simp [Nat.min_eq_left hk], fun i x hx => hc i x ?_⟩
  rw [List.getElem?_take] at hx
  split at hx
  · exact hx
  · cases hx

def iv (x : Int) : Value := .int .i64 x
theorem isOne_iv (x : Int) : isOne (iv x) = true := rfl
def Ints (h : Heap) (v : Value) (zs : List Int) : Prop := Sl h v (zs.map (.int .i64))
def Mat (h : Heap) (v : Value) (M : List (List Int)) : Prop := ∃ rs : List Value, Sl h v rs ∧ rs.length = M.length ∧ ∀ (i : Nat) (r : Value) (z : List Int), rs[i]? = some r → M[i]? = some z → Sl h r (z.map (.int .i64))
theorem Mat.ext {h h' : Heap} {v : Value} {M : List (List Int)} (H : Mat h v M) (he : Ext h h') : Mat h' v M := by
  obtain ⟨rs, h1, h2, h3⟩ := H
  exact ⟨rs, h1.ext he, h2, fun i r z hr hz => (h3 i r z hr hz).ext he⟩
theorem mat_nil (h : Heap) : Mat h (.slice none 0 0) [] := ⟨[], sl_nil h, rfl, fun i r z hr _ => by simp at hr⟩
theorem Mat.row {h : Heap} {v : Value} {M : List (List Int)} (H : Mat h v M) {i : Nat} {z : List Int} (hz : M[i]? = some z) : ∃ r, (∃ rs, Sl h v rs ∧ rs[i]? = some r) ∧ Sl h r (z.map (.int .i64)) := by
  obtain ⟨rs, h1, h2, h3⟩ := H
  have hi : i < rs.length := by have := (List.getElem?_eq_some_iff.1 hz).1; omega
  exact ⟨rs[i], ⟨rs, h1, List.getElem?_eq_getElem hi⟩, h3 i _ z (List.getElem?_eq_getElem hi) hz⟩
theorem Mat.len {h : Heap} {v : Value} {M : List (List Int)} (H : Mat h v M) : ∃ a cap, v = .slice a M.length cap := by
  obtain ⟨rs, ⟨a, cap, hv, _⟩, h2, _⟩ := H
  exact ⟨a, cap, by rw [hv, h2]⟩

/-! ### Slices of one-cell elements, owned -/
def OwnA (h : Heap) (el g : Nat) (v : Value) (l : List Value) : Prop :=
  ∃ cap cur, v = .slice (some ⟨g, 0, none⟩) l.length cap ∧ h[g]? = some (.cells cur el (0, 0)) ∧ l.length ≤ cap ∧ cap ≤ maxLen ∧ cur.size = cap ∧ cur.toList.take l.length = l
theorem OwnA.lt {h : Heap} {el g : Nat} {v : Value} {l : List Value} (H : OwnA h el g v l) : g < h.size := by
  obtain ⟨cap, cur, _, hg, _⟩ := H
  exact (Array.getElem?_eq_some_iff.1 hg).1
theorem OwnA.blk {h : Heap} {el g : Nat} {v : Value} {l : List Value} (H : OwnA h el g v l) : v.ownBlock = some g := by
  obtain ⟨cap, cur, rfl, _⟩ := H
  rfl
theorem OwnA.one {h : Heap} {el g : Nat} {v : Value} {l : List Value} (H : OwnA h el g v l) : isOne v = true := by
  obtain ⟨cap, cur, rfl, _⟩ := H
  rfl
theorem OwnA.cell {h : Heap} {el g : Nat} {v : Value} {l : List Value} (H : OwnA h el g v l) {i : Nat} {x : Value} (hx : l[i]? = some x) : cellH h ⟨g, i, none⟩ = some x := by
  obtain ⟨cap, cur, _, hg, _, _, _, ht⟩ := H
  have hi := (List.getElem?_eq_some_iff.1 hx).1
  simp only [cellH, hg]
  rw [← ht, List.getElem?_take, if_pos hi] at hx
  simpa using hx
theorem OwnA.free {h : Heap} {el g : Nat} {v : Value} {l : List Value} (H : OwnA h el g v l) (i : Nat) : frozenH h ⟨g, i, none⟩ = false := by
  obtain ⟨cap, cur, _, hg, _⟩ := H
  simp [frozenH, hg]
theorem OwnA.sl {h : Heap} {el g : Nat} {v : Value} {l : List Value} (H : OwnA h el g v l) : Sl h v l := by
  have H' := H
  obtain ⟨cap, cur, hv, _⟩ := H
  exact ⟨_, cap, hv, fun i x hx => ⟨g, 0, rfl, by rw [Nat.zero_add]; exact H'.cell hx⟩⟩
theorem OwnA.congr {h h' : Heap} {el g : Nat} {v : Value} {l : List Value} (H : OwnA h el g v l) (he : h'[g]? = h[g]?) : OwnA h' el g v l := by
  obtain ⟨cap, cur, hv, hg, r⟩ := H
  exact ⟨cap, cur, hv, he.trans hg, r⟩
theorem OwnA.ext {h h' : Heap} {el g : Nat} {v : Value} {l : List Value} (H : OwnA h el g v l) (he : Ext h h') : OwnA h' el g v l := H.congr (he.2 g H.lt)
theorem OwnA.upd {S : Nat → Prop} {h h' : Heap} {el g : Nat} {v : Value} {l : List Value} (H : OwnA h el g v l) (he : Upd S h h') (hS : ¬ S g) : OwnA h' el g v l := H.congr (he.2 g H.lt hS)
theorem OwnA.set {h : Heap} {el g : Nat} {v : Value} {l : List Value} (H : OwnA h el g v l) (i : Nat) (y : Value) (hi : i < l.length) : OwnA (setH h ⟨g, i, none⟩ y) el g v (l.set i y) := by
  obtain ⟨cap, cur, hv, hg, hl, hm, hs, ht⟩ := H
  refine ⟨cap, cur.setIfInBounds i y, by rw [List.length_set]; exact hv, ?_, by rw [List.length_set]; exact hl, hm, by simp [hs], ?_⟩
  · simp only [setH, Array.getElem?_modify, if_true, hg, Option.map_some]
    rfl
  · rw [List.length_set, Array.toList_setIfInBounds, List.take_set, ht]
theorem OwnA.setOther {h : Heap} {el g : Nat} {v : Value} {l : List Value} (H : OwnA h el g v l) {a : Addr} (y : Value) (hne : g ≠ a.block) : OwnA (setH h a y) el g v l := H.upd (upd_set h a y) hne
theorem ownA_new (h : Heap) (el n : Nat) (z : Value) (hm : n ≤ maxLen) : OwnA (h.push (.cells (List.replicate n z).toArray el (0, 0))) el h.size (.slice (some ⟨h.size, 0, none⟩) n n) (List.replicate n z) :=
  ⟨n, (List.replicate n z).toArray, by simp, by simp, by simp, hm, by simp, by simp⟩
theorem ownA_lit (h : Heap) (el : Nat) (l : List Value) (hm : l.length ≤ maxLen) : OwnA (h.push (.cells l.toArray el (0, 0))) el h.size (.slice (some ⟨h.size, 0, none⟩) l.length l.length) l :=
  ⟨l.length, l.toArray, rfl, by simp, Nat.le_refl _, hm, by simp, by simp⟩

theorem nodup_getElem?_inj {l : List Nat} (hn : l.Nodup) {i j g : Nat} (hi : l[i]? = some g) (hj : l[j]? = some g) : i = j := by
  obtain ⟨hi1, hi2⟩ := List.getElem?_eq_some_iff.1 hi
  obtain ⟨hj1, hj2⟩ := List.getElem?_eq_some_iff.1 hj
  have hp := List.pairwise_iff_getElem.1 hn
  rcases Nat.lt_trichotomy i j with h | h | h
  · exact absurd (hi2.trans hj2.symm) (hp i j hi1 hj1 h)
  · exact h
  · exact absurd (hj2.trans hi2.symm) (hp j i hj1 hi1 h)
/-! ### Rules in these words -/
section
variable {P : Program} {B : Heap → Prop} {st : Bool} {ops : Array Oper} {rest : List Oper} {e : Env} {h : Heap} {K : Env → Heap → Prop}
variable {d : Nat} {ty : TypeId} {pos : String} {af : Array Edge}

theorem addr_add (b o i : Nat) : (⟨b, o, none⟩ : Addr).add i = ⟨b, o + i, none⟩ := by
  unfold Addr.add
  split
  · rename_i hi; subst hi; rfl
  · rfl

/-- The address of an element that is read. -/
theorem r_ixs {x i : Operand} {t el : Nat} {v u : Value} {l : List Value} {k : IntKind} {n : Nat} (hT : SlT P t el 1) (hx : e.ev x = v) (HS : Sl h v l) (hi : e.ev i = .int k (n : Int)) (hu : l[n]? = some u)
    (H : ∀ a, cellH h a = some u → RL P B st ops rest (e.set d (.pointer (some a))) h K) : RL P B st ops (⟨some d, .indexAddr t x i, ty, pos, af, none⟩ :: rest) e h K := by
  obtain ⟨a, cap, rfl, hc⟩ := HS
  obtain ⟨b, o, rfl, hcu⟩ := hc n u hu
  have hn := (List.getElem?_eq_some_iff.1 hu).1
  refine r_ix hT hx hi (by omega) (by omega) ?_
  have he : (⟨b, o, none⟩ : Addr).add ((n : Int).toNat * 1) = ⟨b, o + n, none⟩ := by rw [addr_add]; simp
  rw [he]
  exact H _ hcu
/-- The same, the cell read alike in all of B. -/
theorem r_ixsB {x i : Operand} {t el : Nat} {v u : Value} {l : List Value} {k : IntKind} {n : Nat} (hT : SlT P t el 1) (hx : e.ev x = v) (hb : B h) (HS : ∀ h', B h' → Sl h' v l) (hi : e.ev i = .int k (n : Int)) (hu : l[n]? = some u)
    (H : ∀ a, (∀ h', B h' → cellH h' a = some u) → RL P B st ops rest (e.set d (.pointer (some a))) h K) : RL P B st ops (⟨some d, .indexAddr t x i, ty, pos, af, none⟩ :: rest) e h K := by
  obtain ⟨a, cap, rfl, hc⟩ := HS h hb
  obtain ⟨b, o, rfl, hcu⟩ := hc n u hu
  have hn := (List.getElem?_eq_some_iff.1 hu).1
  refine r_ix hT hx hi (by omega) (by omega) ?_
  have he : (⟨b, o, none⟩ : Addr).add ((n : Int).toNat * 1) = ⟨b, o + n, none⟩ := by rw [addr_add]; simp
  rw [he]
  refine H _ fun h' hb' => ?_
  obtain ⟨a', cap', hv, hc'⟩ := HS h' hb'
  obtain ⟨b', o', ha', hcu'⟩ := hc' n u hu
  injection hv with ha
  rw [← ha] at ha'
  injection ha' with ha'
  injection ha' with h1 h2
  subst h1; subst h2
  exact hcu'
/-- The address of an element of an owned slice. -/
theorem r_ixo {x i : Operand} {t el g er : Nat} {v : Value} {l : List Value} {k : IntKind} {n : Nat} (hT : SlT P t el 1) (hx : e.ev x = v) (HO : OwnA h er g v l) (hi : e.ev i = .int k (n : Int)) (hn : n < l.length)
    (H : RL P B st ops rest (e.set d (.pointer (some ⟨g, n, none⟩))) h K) : RL P B st ops (⟨some d, .indexAddr t x i, ty, pos, af, none⟩ :: rest) e h K := by
  obtain ⟨cap, cur, rfl, _⟩ := HO
  refine r_ix hT hx hi (by omega) (by omega) ?_
  have he : (⟨g, 0, none⟩ : Addr).add ((n : Int).toNat * 1) = ⟨g, n, none⟩ := by rw [addr_add]; simp
  rw [he]
  exact H
/-- A store into an owned slice. -/
theorem r_sto {x y : Operand} {t g er n : Nat} {v u : Value} {l : List Value} (ht : NaT P t) (hx : e.ev x = .pointer (some ⟨g, n, none⟩)) (hy : e.ev y = u) (h1 : isOne u = true) (HO : OwnA h er g v l) (hn : n < l.length)
    (H : RL P B st ops rest e (setH h ⟨g, n, none⟩ u) K) : RL P B st ops (⟨none, .store t x y, ty, pos, af, none⟩ :: rest) e h K :=
  r_st ht hx hy h1 (HO.cell (List.getElem?_eq_getElem hn)) (HO.free n) H

/-- The next number. -/
theorem r_inc {x : Operand} {t t2 : TypeId} {i : Nat} (hx : e.ev x = .int .i64 (i : Int)) (hi : i < 4611686018427387904) (H : RL P B st ops rest (e.set d (.int .i64 ((i + 1 : Nat) : Int))) h K) :
    RL P B st ops (⟨some d, .binOp .add t x (.const (.int .i64 1)) t2, ty, pos, af, none⟩ :: rest) e h K := by
  refine r_add hx rfl ?_
  have : IntKind.i64.wrap ((i : Int) + 1) = ((i + 1 : Nat) : Int) := by rw [IntKind.wrap_i64]; omega
  rw [this]
  exact H
theorem r_addb {x y : Operand} {t t2 : TypeId} {a b : Int} (hx : e.ev x = .int .i64 a) (hy : e.ev y = .int .i64 b) (h0 : -9223372036854775808 ≤ a + b) (h1 : a + b ≤ 9223372036854775807) (H : RL P B st ops rest (e.set d (.int .i64 (a + b))) h K) :
    RL P B st ops (⟨some d, .binOp .add t x y t2, ty, pos, af, none⟩ :: rest) e h K := by
  refine r_add hx hy ?_
  have : IntKind.i64.wrap (a + b) = a + b := by rw [IntKind.wrap_i64]; omega
  rw [this]
  exact H
theorem r_subb {x y : Operand} {t t2 : TypeId} {a b : Int} (hx : e.ev x = .int .i64 a) (hy : e.ev y = .int .i64 b) (h0 : -9223372036854775808 ≤ a - b) (h1 : a - b ≤ 9223372036854775807) (H : RL P B st ops rest (e.set d (.int .i64 (a - b))) h K) :
    RL P B st ops (⟨some d, .binOp .sub t x y t2, ty, pos, af, none⟩ :: rest) e h K := by
  refine r_sub hx hy ?_
  have : IntKind.i64.wrap (a - b) = a - b := by rw [IntKind.wrap_i64]; omega
  rw [this]
  exact H
theorem r_mulb {x y : Operand} {t t2 : TypeId} {a b : Int} (hx : e.ev x = .int .i64 a) (hy : e.ev y = .int .i64 b) (h0 : -9223372036854775808 ≤ a * b) (h1 : a * b ≤ 9223372036854775807) (H : RL P B st ops rest (e.set d (.int .i64 (a * b))) h K) :
    RL P B st ops (⟨some d, .binOp .mul t x y t2, ty, pos, af, none⟩ :: rest) e h K := by
  refine r_mul hx hy ?_
  have : IntKind.i64.wrap (a * b) = a * b := by rw [IntKind.wrap_i64]; omega
  rw [this]
  exact H
theorem r_remp {x y : Operand} {t t2 : TypeId} {k : IntKind} {a b : Int} (hx : e.ev x = .int k a) (hy : e.ev y = .int k b) (ha : 0 ≤ a) (hb : 0 < b) (H : RL P B st ops rest (e.set d (.int k (a % b))) h K) :
    RL P B st ops (⟨some d, .binOp .rem t x y t2, ty, pos, af, none⟩ :: rest) e h K := by
  refine r_rem hx hy (by omega) ?_
  rw [Int.tmod_eq_emod_of_nonneg ha]
  exact H
theorem r_quop {x y : Operand} {t t2 : TypeId} {a b : Int} (hx : e.ev x = .int .i64 a) (hy : e.ev y = .int .i64 b) (ha : 0 ≤ a) (ha1 : a ≤ 9223372036854775807) (hb : 0 < b) (H : RL P B st ops rest (e.set d (.int .i64 (a / b))) h K) :
    RL P B st ops (⟨some d, .binOp .quo t x y t2, ty, pos, af, none⟩ :: rest) e h K := by
  refine r_quo hx hy (by omega) ?_
  have h1 : a.tdiv b = a / b := Int.tdiv_eq_ediv_of_nonneg ha
  have h2 : a / b ≤ a := Int.ediv_le_self _ ha
  have h3 : 0 ≤ a / b := Int.ediv_nonneg ha (by omega)
  have : IntKind.i64.wrap (a.tdiv b) = a / b := by rw [h1, IntKind.wrap_i64]; omega
  rw [this]
  exact H

theorem r_lss {x y : Operand} {t t2 : TypeId} {k : IntKind} {a b : Int} (hx : e.ev x = .int k a) (hy : e.ev y = .int k b)
    (HT : a < b → RL P B st ops rest (e.set d (.bool true)) h K) (HF : b ≤ a → RL P B st ops rest (e.set d (.bool false)) h K) : RL P B st ops (⟨some d, .binOp .lss t x y t2, ty, pos, af, none⟩ :: rest) e h K :=
  r_if hx hy rfl (fun hc => HT (by simpa using hc)) (fun hc => HF (by simpa using hc))
theorem r_leq {x y : Operand} {t t2 : TypeId} {k : IntKind} {a b : Int} (hx : e.ev x = .int k a) (hy : e.ev y = .int k b)
    (HT : a ≤ b → RL P B st ops rest (e.set d (.bool true)) h K) (HF : b < a → RL P B st ops rest (e.set d (.bool false)) h K) : RL P B st ops (⟨some d, .binOp .leq t x y t2, ty, pos, af, none⟩ :: rest) e h K :=
  r_if hx hy rfl (fun hc => HT (by simpa using hc)) (fun hc => HF (by simpa using hc))
theorem r_gtr {x y : Operand} {t t2 : TypeId} {k : IntKind} {a b : Int} (hx : e.ev x = .int k a) (hy : e.ev y = .int k b)
    (HT : b < a → RL P B st ops rest (e.set d (.bool true)) h K) (HF : a ≤ b → RL P B st ops rest (e.set d (.bool false)) h K) : RL P B st ops (⟨some d, .binOp .gtr t x y t2, ty, pos, af, none⟩ :: rest) e h K :=
  r_if hx hy rfl (fun hc => HT (by simpa using hc)) (fun hc => HF (by simpa using hc))
theorem r_geq {x y : Operand} {t t2 : TypeId} {k : IntKind} {a b : Int} (hx : e.ev x = .int k a) (hy : e.ev y = .int k b)
    (HT : b ≤ a → RL P B st ops rest (e.set d (.bool true)) h K) (HF : a < b → RL P B st ops rest (e.set d (.bool false)) h K) : RL P B st ops (⟨some d, .binOp .geq t x y t2, ty, pos, af, none⟩ :: rest) e h K :=
  r_if hx hy rfl (fun hc => HT (by simpa using hc)) (fun hc => HF (by simpa using hc))
theorem r_eql {x y : Operand} {t t2 : TypeId} {k : IntKind} {a b : Int} (hx : e.ev x = .int k a) (hy : e.ev y = .int k b)
    (HT : a = b → RL P B st ops rest (e.set d (.bool true)) h K) (HF : a ≠ b → RL P B st ops rest (e.set d (.bool false)) h K) : RL P B st ops (⟨some d, .binOp .eql t x y t2, ty, pos, af, none⟩ :: rest) e h K :=
  r_if hx hy rfl (fun hc => HT (by simpa using hc)) (fun hc => HF (by simpa using hc))
theorem r_neq {x y : Operand} {t t2 : TypeId} {k : IntKind} {a b : Int} (hx : e.ev x = .int k a) (hy : e.ev y = .int k b)
    (HT : a ≠ b → RL P B st ops rest (e.set d (.bool true)) h K) (HF : a = b → RL P B st ops rest (e.set d (.bool false)) h K) : RL P B st ops (⟨some d, .binOp .neq t x y t2, ty, pos, af, none⟩ :: rest) e h K :=
  r_if hx hy rfl (fun hc => HT (by simpa using hc)) (fun hc => HF (by simpa using hc))

/-! new memory -/
theorem madeCells_one (z : Value) (h1 : isOne z = true) (n : Nat) : madeCells z.cells n = (List.replicate n z).toArray := by
  have : z.cells = #[z] := by cases z <;> first | rfl | cases h1
  rw [this]
  apply Array.ext
  · simp [madeCells]
  · intro i h1 h2
    simp [madeCells, Nat.mod_one]
theorem r_mk {x y : Operand} {t el n bytes : Nat} {z : Value} (hT : SlT P t el 1) (hz : ZeT P el z bytes) (h1 : isOne z = true) (hb : B h) (hx : e.ev x = .int .i64 (n : Int)) (hy : e.ev y = .int .i64 (n : Int)) (hn : bytes * n ≤ 281474976710656) (hn2 : n ≤ 281474976710656)
    (H : B (h.push (.cells (List.replicate n z).toArray el (0, 0))) ∧ RL P B st ops rest (e.set d (.slice (some ⟨h.size, 0, none⟩) n n)) (h.push (.cells (List.replicate n z).toArray el (0, 0))) K) :
    RL P B st ops (⟨some d, .makeSlice t x y, ty, pos, af, none⟩ :: rest) e h K := by
  refine r_eff rfl rfl hb fun w hw => ?_
  subst hw
  obtain ⟨hu, i0, hi0, hs0⟩ := hT
  obtain ⟨i, hi, hzz, hsz, hby⟩ := hz
  rw [hi] at hi0; injection hi0 with hi0; subst hi0
  have hr := run_make (P := P) w t el i z hu hi hzz .i64 .i64 (n : Int) (n : Int) (by omega) (by omega) (by rw [hby]; omega) (by omega)
  have : (execOp e.ev ⟨some d, .makeSlice t x y, ty, pos, af, none⟩).run P w = .ok (.value (.slice (some ⟨w.heap.size, 0, none⟩) n n)) (w.alloc (.cells (List.replicate n z).toArray el)) := by
    simp only [execOp, hx, hy]
    simp only [Int.toNat_natCast, hs0, Nat.mul_one, madeCells_one z h1] at hr
    simp [hr]
  rw [this]
  exact ⟨⟨rfl, rfl, rfl⟩, H⟩
/-- append to an owned slice: it may stay in its block or move to a new one. -/
theorem r_app {s x : Operand} {t el g bytes : Nat} {z v xv : Value} {l news : List Value} (hT : SlT P t el 1) (hz : ZeT P el z bytes) (h1 : isOne z = true) (hb : B h) (hs : e.ev s = v) (HO : OwnA h el g v l) (hx : e.ev x = xv) (HX : Sl h xv news) (hone : ∀ u ∈ news, isOne u = true)
    (hn0 : news ≠ []) (hlen : (l.length + news.length) * bytes ≤ 140737488355328) (hlen2 : l.length + news.length ≤ 140737488355328)
    (H : ∀ v' g' h', OwnA h' el g' v' (l ++ news) → (g' = g ∨ g' = h.size) → Upd (· = g) h h' → B h' ∧ RL P B st ops rest (e.set d v') h' K) :
    RL P B st ops (⟨some d, .call ⟨.builtin .append, #[s, x], #[t, t]⟩, ty, pos, af, none⟩ :: rest) e h K := by
  refine r_eff rfl rfl hb fun w hw => ?_
  subst hw
  obtain ⟨hu, i0, hi0, hs0⟩ := hT
  obtain ⟨i, hi, hzz, hsz, hby⟩ := hz
  rw [hi] at hi0; injection hi0 with hi0; subst hi0
  have HO' := HO
  obtain ⟨cap, cur, rfl, hg, hlc, hcm, hcs, ht⟩ := HO
  obtain ⟨xa, xc, rfl, hxc⟩ := HX
  obtain ⟨u0, hu0⟩ : ∃ u, news[0]? = some u := by cases news with | nil => exact absurd rfl hn0 | cons a l => exact ⟨a, rfl⟩
  obtain ⟨xb, xo, rfl, _⟩ := hxc 0 u0 hu0
  have hnews : ∀ j u, news[j]? = some u → w.cell? ((⟨xb, xo, none⟩ : Addr).add j) = some u := fun j u hu' => by
    obtain ⟨b, o, ha, hc⟩ := hxc j u hu'
    injection ha with ha; injection ha with h1 h2; subst h1; subst h2
    rw [addr_add]; exact hc
  have hone' : ∀ u ∈ news, u.oneCell' = true := fun u hu' => by have := hone u hu'; cases u <;> first | rfl | cases this
  have hown : w.ownsRow 0 el 1 (.slice (some ⟨g, 0, none⟩) l.length cap) l.length l :=
    ⟨by simp, .inr ⟨g, cap, cur, rfl, Nat.zero_le _, hg, hlc, hcm, by simp [hcs], by simpa using ht⟩⟩
  have hzs : z.cells.size = 1 := by cases z <;> first | rfl | cases h1
  by_cases hroom : l.length + news.length ≤ cap
  · have hr := run_append_room (P := P) w t ty el i hu hi g l.length cap cur hg ⟨xb, xo, none⟩ news.length xc news (by simp [hs0]) hnews hone' hroom (by simp [hs0, hcs]; omega)
    have hrun : (execOp e.ev ⟨some d, .call ⟨.builtin .append, #[s, x], #[t, t]⟩, ty, pos, af, none⟩).run P w = .ok (.value (.slice (some ⟨g, 0, none⟩) (l.length + news.length) cap)) (w.setRow g (cur.toList.take (l.length * i.size) ++ news ++ cur.toList.drop (l.length * i.size + news.length)).toArray) := by
      simp [execOp, resolve, invoke, builtin, hs, hx, hr]
    rw [hrun]
    refine ⟨⟨rfl, rfl, rfl⟩, H _ g _ ?_ (.inl rfl) ?_⟩
    · refine ⟨cap, _, by simp, setRow_heap w g cur _ el (0, 0) hg, by simpa using hroom, hcm, ?_, ?_⟩
      · simp only [hs0, Nat.mul_one, List.size_toArray, List.length_append, List.length_take, List.length_drop, Array.length_toList, hcs]
        omega
      · simp only [hs0, Nat.mul_one, ht]
        exact List.take_left
    · exact ⟨by simp [World.setRow], fun k hk hne => setRow_other w g k _ (fun he => hne he)⟩
  · have hr := run_append_grow (P := P) w t ty el i z hu hi hzz ⟨g, 0, none⟩ l.length cap l (by simp [hs0]) (fun j u hu' => by rw [addr_add, Nat.zero_add]; exact HO'.cell hu') ⟨xb, xo, none⟩ news.length xc news (by simp [hs0]) hnews (by omega)
      (by omega) (by rw [hby]; exact growslice_fits (by omega) hlen)
    have hrun : (execOp e.ev ⟨some d, .call ⟨.builtin .append, #[s, x], #[t, t]⟩, ty, pos, af, none⟩).run P w = .ok (.value (.slice (some ⟨w.heap.size, 0, none⟩) (l.length + news.length) (grownCap w (l.length + news.length) cap el)))
        (w.drew.alloc (.cells (l.toArray ++ news.toArray ++ Builtin.zeroCells z.cells (grownCap w (l.length + news.length) cap el - (l.length + news.length))) el)) := by
      simp [execOp, resolve, invoke, builtin, hs, hx, hr]
    rw [hrun]
    have hge := grownCap_ge w (l.length + news.length) cap el
    have hcm' : grownCap w (l.length + news.length) cap el ≤ maxLen := grownCap_le_maxLen w _ _ el (by unfold maxLen; omega)
    refine ⟨⟨rfl, rfl, rfl⟩, H _ w.heap.size _ ?_ (.inr rfl) ?_⟩
    · refine ⟨_, _, by simp, heap_alloc_new w.drew _, by simpa using hge, hcm', ?_, ?_⟩
      · simp [size_zeroCells, hzs]; omega
      · simp only [Array.toList_append, List.append_assoc]
        rw [← List.append_assoc]
        exact List.take_left
    · exact (Ext.upd ⟨by simp, fun k hk => heap_alloc_old w.drew _ k hk⟩)
/-- append to nil. -/
theorem r_app0 {s x : Operand} {t el bytes : Nat} {z xv : Value} {news : List Value} (hT : SlT P t el 1) (hz : ZeT P el z bytes) (h1 : isOne z = true) (hb : B h) (hs : e.ev s = .slice none 0 0) (hx : e.ev x = xv) (HX : Sl h xv news) (hone : ∀ u ∈ news, isOne u = true)
    (hn0 : news ≠ []) (hlen : news.length * bytes ≤ 140737488355328) (hlen2 : news.length ≤ 140737488355328)
    (H : ∀ v' h', OwnA h' el h.size v' news → Ext h h' → B h' ∧ RL P B st ops rest (e.set d v') h' K) :
    RL P B st ops (⟨some d, .call ⟨.builtin .append, #[s, x], #[t, t]⟩, ty, pos, af, none⟩ :: rest) e h K := by
  refine r_eff rfl rfl hb fun w hw => ?_
  subst hw
  obtain ⟨hu, i0, hi0, hs0⟩ := hT
  obtain ⟨i, hi, hzz, hsz, hby⟩ := hz
  rw [hi] at hi0; injection hi0 with hi0; subst hi0
  obtain ⟨xa, xc, rfl, hxc⟩ := HX
  obtain ⟨u0, hu0⟩ : ∃ u, news[0]? = some u := by cases news with | nil => exact absurd rfl hn0 | cons a l => exact ⟨a, rfl⟩
  obtain ⟨xb, xo, rfl, _⟩ := hxc 0 u0 hu0
  have hnews : ∀ j u, news[j]? = some u → w.cell? ((⟨xb, xo, none⟩ : Addr).add j) = some u := fun j u hu' => by
    obtain ⟨b, o, ha, hc⟩ := hxc j u hu'
    injection ha with ha; injection ha with h1 h2; subst h1; subst h2
    rw [addr_add]; exact hc
  have hpos : 0 < news.length := (List.getElem?_eq_some_iff.1 hu0).1
  have hzs : z.cells.size = 1 := by cases z <;> first | rfl | cases h1
  have hr := run_append_nil (P := P) w t ty el i z hu hi hzz ⟨xb, xo, none⟩ news.length xc news (by simp [hs0]) hnews hpos (by omega) (by rw [hby]; omega)
  have hrun : (execOp e.ev ⟨some d, .call ⟨.builtin .append, #[s, x], #[t, t]⟩, ty, pos, af, none⟩).run P w = .ok (.value (.slice (some ⟨w.heap.size, 0, none⟩) news.length (grownCap w news.length 0 el)))
      (w.drew.alloc (.cells (news.toArray ++ Builtin.zeroCells z.cells (grownCap w news.length 0 el - news.length)) el)) := by
    simp [execOp, resolve, invoke, builtin, hs, hx, hr]
  rw [hrun]
  have hge := grownCap_ge w news.length 0 el
  have hcm' : grownCap w news.length 0 el ≤ maxLen := grownCap_le_maxLen w _ _ el (by unfold maxLen; omega)
  refine ⟨⟨rfl, rfl, rfl⟩, H _ _ ?_ ⟨by simp, fun k hk => heap_alloc_old w.drew _ k hk⟩⟩
  refine ⟨_, _, rfl, heap_alloc_new w.drew _, hge, hcm', ?_, ?_⟩
  · simp [size_zeroCells, hzs]; omega
  · simp only [Array.toList_append]
    exact List.take_left
/-! matrices and rows of integers, read -/
theorem r_ixm {x i : Operand} {t el : Nat} {v : Value} {M : List (List Int)} {z : List Int} {k : IntKind} {n : Nat} (hT : SlT P t el 1) (hx : e.ev x = v) (HM : Mat h v M) (hi : e.ev i = .int k (n : Int)) (hz : M[n]? = some z)
    (H : ∀ a r, cellH h a = some r → Ints h r z → RL P B st ops rest (e.set d (.pointer (some a))) h K) : RL P B st ops (⟨some d, .indexAddr t x i, ty, pos, af, none⟩ :: rest) e h K := by
  obtain ⟨r, ⟨rs, h1, h2⟩, h3⟩ := HM.row hz
  exact r_ixs hT hx h1 hi h2 fun a ha => H a r ha h3
theorem r_ixi {x i : Operand} {t el : Nat} {v : Value} {zs : List Int} {z : Int} {k : IntKind} {n : Nat} (hT : SlT P t el 1) (hx : e.ev x = v) (HI : Ints h v zs) (hi : e.ev i = .int k (n : Int)) (hz : zs[n]? = some z)
    (H : ∀ a, cellH h a = some (.int .i64 z) → RL P B st ops rest (e.set d (.pointer (some a))) h K) : RL P B st ops (⟨some d, .indexAddr t x i, ty, pos, af, none⟩ :: rest) e h K :=
  r_ixs hT hx HI hi (by rw [List.getElem?_map, hz]; rfl) H
theorem r_lenm {x : Operand} {t el s : Nat} {v : Value} {M : List (List Int)} (hT : SlT P t el s) (hx : e.ev x = v) (HM : Mat h v M) (H : RL P B st ops rest (e.set d (.int .i64 (M.length : Int))) h K) :
    RL P B st ops (⟨some d, .call ⟨.builtin .len, #[x], #[t]⟩, ty, pos, af, none⟩ :: rest) e h K := by
  obtain ⟨a, cap, rfl⟩ := HM.len
  exact r_len hT hx H
theorem r_leni {x : Operand} {t el s : Nat} {v : Value} {zs : List Int} (hT : SlT P t el s) (hx : e.ev x = v) (HI : Ints h v zs) (H : RL P B st ops rest (e.set d (.int .i64 (zs.length : Int))) h K) :
    RL P B st ops (⟨some d, .call ⟨.builtin .len, #[x], #[t]⟩, ty, pos, af, none⟩ :: rest) e h K := by
  obtain ⟨a, cap, rfl, _⟩ := HI
  rw [List.length_map] at hx
  exact r_len hT hx H
theorem r_lens {x : Operand} {t el s : Nat} {v : Value} {l : List Value} (hT : SlT P t el s) (hx : e.ev x = v) (HI : Sl h v l) (H : RL P B st ops rest (e.set d (.int .i64 (l.length : Int))) h K) :
    RL P B st ops (⟨some d, .call ⟨.builtin .len, #[x], #[t]⟩, ty, pos, af, none⟩ :: rest) e h K := by
  obtain ⟨a, cap, rfl, _⟩ := HI
  exact r_len hT hx H
end
theorem Ints.ext {h h' : Heap} {v : Value} {zs : List Int} (H : Ints h v zs) (he : Ext h h') : Ints h' v zs := Sl.ext H he
end Go.QF
