/-
  Variables in memory of any struct type, slices of structs, read or owned; bits and shifts; results in memory. No condition.
-/
import Derived.Test.YtccgaemmdikhcaaDoorGro
import Derived.Test.YtccgaemmdikhcaaDoorGridS
namespace Go.QF
open Go
set_option linter.unusedVariables false
set_option linter.unusedSimpArgs false

/-! ### A variable's block -/
def BoxH (t : Nat) (h : Heap) (b : Nat) (l : List Value) : Prop := h[b]? = some (.cells l.toArray t (0, 0))
theorem BoxH.lt {t : Nat} {h : Heap} {b : Nat} {l : List Value} (H : BoxH t h b l) : b < h.size := (Array.getElem?_eq_some_iff.1 H).1
theorem BoxH.cell {t : Nat} {h : Heap} {b : Nat} {l : List Value} (H : BoxH t h b l) {i : Nat} {u : Value} (hu : l[i]? = some u) : cellH h ⟨b, i, none⟩ = some u := by
  unfold BoxH at H
  simp [cellH, H, hu]
theorem BoxH.free {t : Nat} {h : Heap} {b : Nat} {l : List Value} (H : BoxH t h b l) (i : Nat) : frozenH h ⟨b, i, none⟩ = false := by
  unfold BoxH at H
  simp [frozenH, H]
theorem BoxH.agg {t : Nat} {h : Heap} {b : Nat} {l : List Value} (H : BoxH t h b l) : ∀ i u, l[i]? = some u → cellH h ((⟨b, 0, none⟩ : Addr).add i) = some u := by
  intro i u hu
  rw [addr_add, Nat.zero_add]; exact H.cell hu
theorem BoxH.upd {S : Nat → Prop} {t : Nat} {h h' : Heap} {b : Nat} {l : List Value} (H : BoxH t h b l) (hU : Upd S h h') (hS : ¬ S b) : BoxH t h' b l := (hU.2 b H.lt hS).trans H
theorem BoxH.ext {t : Nat} {h h' : Heap} {b : Nat} {l : List Value} (H : BoxH t h b l) (hE : Ext h h') : BoxH t h' b l := (hE.2 b H.lt).trans H
theorem BoxH.set {t : Nat} {h : Heap} {b : Nat} {l : List Value} (H : BoxH t h b l) (i : Nat) (y : Value) : BoxH t (setH h ⟨b, i, none⟩ y) b (l.set i y) := by
  unfold BoxH at H ⊢
  simp only [setH, Array.getElem?_modify, if_true, H, Option.map_some]
  simp

theorem Upd.thenUpd {S T : Nat → Prop} {a b c : Heap} (h : Upd S a b) (k : Upd T b c) (hT : ∀ i, T i → a.size ≤ i) : Upd S a c :=
  ⟨Nat.le_trans h.1 k.1, fun i hi hs => (k.2 i (Nat.lt_of_lt_of_le hi h.1) fun ht => by have := hT i ht; omega).trans (h.2 i hi hs)⟩
theorem Upd.transE {S : Nat → Prop} {a b c : Heap} (h : Upd S a b) (k : Ext b c) : Upd S a c := h.trans k.upd
/-! ### Slices of structs of k cells -/
/-- The cells of a run of structs. -/
def SlK (h : Heap) (k : Nat) (v : Value) (L : List (List Value)) : Prop := ∃ a cap, v = .slice a L.length cap ∧ ∀ i row, L[i]? = some row → ∃ b o, a = some ⟨b, o, none⟩ ∧ ∀ j x, row[j]? = some x → cellH h ⟨b, o + i * k + j, none⟩ = some x
theorem SlK.ext {h h' : Heap} {k : Nat} {v : Value} {L : List (List Value)} (H : SlK h k v L) (he : Ext h h') : SlK h' k v L := by
  obtain ⟨a, cap, hv, hc⟩ := H
  exact ⟨a, cap, hv, fun i r hr => let ⟨b, o, ha, hx⟩ := hc i r hr; ⟨b, o, ha, fun j x hj => cellH_ext (hx j x hj) he⟩⟩
theorem SlK.upd {S : Nat → Prop} {h h' : Heap} {k : Nat} {v : Value} {L : List (List Value)} (H : SlK h k v L) (he : Upd S h h') (hS : ∀ b, v.ownBlock = some b → ¬ S b) : SlK h' k v L := by
  obtain ⟨a, cap, hv, hc⟩ := H
  refine ⟨a, cap, hv, fun i r hr => ?_⟩
  obtain ⟨b, o, ha, hx⟩ := hc i r hr
  exact ⟨b, o, ha, fun j x hj => cellH_upd (hx j x hj) he (hS b (by subst hv; subst ha; rfl))⟩
theorem slK_nil (h : Heap) (k : Nat) : SlK h k (.slice none 0 0) [] := ⟨none, 0, rfl, fun i x hx => by simp at hx⟩
theorem SlK.len {h : Heap} {k : Nat} {v : Value} {L : List (List Value)} (H : SlK h k v L) : ∃ a cap, v = .slice a L.length cap := let ⟨a, cap, hv, _⟩ := H; ⟨a, cap, hv⟩

/-- A slice of structs that the call owns. -/
def OwnK (h : Heap) (el k g : Nat) (v : Value) (L : List (List Value)) : Prop :=
  ∃ cap cur, v = .slice (some ⟨g, 0, none⟩) L.length cap ∧ h[g]? = some (.cells cur el (0, 0)) ∧ L.length ≤ cap ∧ cap ≤ maxLen ∧ cur.size = cap * k ∧ (∀ r ∈ L, r.length = k) ∧ cur.toList.take (L.length * k) = L.flatten
theorem flat_len {k : Nat} : ∀ {L : List (List Value)}, (∀ r ∈ L, r.length = k) → L.flatten.length = L.length * k := by
  intro L
  induction L with
  | nil => intro _; simp
  | cons r L ih => intro h; simp [h r (List.mem_cons_self ..), ih fun r hr => h r (List.mem_cons_of_mem _ hr), Nat.add_mul, Nat.add_comm]
theorem flat_get {k : Nat} : ∀ {L : List (List Value)} {i j : Nat} {r : List Value} {x : Value}, (∀ r ∈ L, r.length = k) → L[i]? = some r → r[j]? = some x → L.flatten[i * k + j]? = some x := by
  intro L
  induction L with
  | nil => intro i j r x _ h; simp at h
  | cons s L ih =>
    intro i j r x h hi hj
    have hs := h s (List.mem_cons_self ..)
    cases i with
    | zero =>
      simp at hi; subst hi
      have hjl := (List.getElem?_eq_some_iff.1 hj).1
      rw [List.flatten_cons, Nat.zero_mul, Nat.zero_add, List.getElem?_append_left hjl]; exact hj
    | succ i =>
      simp only [List.getElem?_cons_succ] at hi
      have := ih (fun r hr => h r (List.mem_cons_of_mem _ hr)) hi hj
      rw [List.flatten_cons, List.getElem?_append_right (by rw [hs, Nat.add_mul]; omega), hs, show (i + 1) * k + j - k = i * k + j by rw [Nat.add_mul]; omega]
      exact this
theorem OwnK.lt {h : Heap} {el k g : Nat} {v : Value} {L : List (List Value)} (H : OwnK h el k g v L) : g < h.size := by
  obtain ⟨cap, cur, _, hg, _⟩ := H
  exact (Array.getElem?_eq_some_iff.1 hg).1
theorem OwnK.blk {h : Heap} {el k g : Nat} {v : Value} {L : List (List Value)} (H : OwnK h el k g v L) : v.ownBlock = some g := by
  obtain ⟨cap, cur, rfl, _⟩ := H
  rfl
theorem OwnK.cell {h : Heap} {el k g : Nat} {v : Value} {L : List (List Value)} (H : OwnK h el k g v L) {i j : Nat} {r : List Value} {x : Value} (hr : L[i]? = some r) (hx : r[j]? = some x) : cellH h ⟨g, i * k + j, none⟩ = some x := by
  obtain ⟨cap, cur, _, hg, _, _, _, hk, ht⟩ := H
  have h1 := flat_get hk hr hx
  have hi := (List.getElem?_eq_some_iff.1 h1).1
  rw [flat_len hk] at hi
  rw [← ht, List.getElem?_take, if_pos hi] at h1
  simp only [cellH, hg]
  simpa using h1
theorem OwnK.free {h : Heap} {el k g : Nat} {v : Value} {L : List (List Value)} (H : OwnK h el k g v L) (i : Nat) : frozenH h ⟨g, i, none⟩ = false := by
  obtain ⟨cap, cur, _, hg, _⟩ := H
  simp [frozenH, hg]
theorem OwnK.sl {h : Heap} {el k g : Nat} {v : Value} {L : List (List Value)} (H : OwnK h el k g v L) : SlK h k v L := by
  have H' := H
  obtain ⟨cap, cur, hv, _⟩ := H
  exact ⟨_, cap, hv, fun i r hr => ⟨g, 0, rfl, fun j x hx => by rw [Nat.zero_add]; exact H'.cell hr hx⟩⟩
theorem OwnK.congr {h h' : Heap} {el k g : Nat} {v : Value} {L : List (List Value)} (H : OwnK h el k g v L) (he : h'[g]? = h[g]?) : OwnK h' el k g v L := by
  obtain ⟨cap, cur, hv, hg, r⟩ := H
  exact ⟨cap, cur, hv, he.trans hg, r⟩
theorem OwnK.ext {h h' : Heap} {el k g : Nat} {v : Value} {L : List (List Value)} (H : OwnK h el k g v L) (he : Ext h h') : OwnK h' el k g v L := H.congr (he.2 g H.lt)
theorem OwnK.upd {S : Nat → Prop} {h h' : Heap} {el k g : Nat} {v : Value} {L : List (List Value)} (H : OwnK h el k g v L) (he : Upd S h h') (hS : ¬ S g) : OwnK h' el k g v L := H.congr (he.2 g H.lt hS)
theorem flat_set {k : Nat} : ∀ {L : List (List Value)} {i j : Nat} {r : List Value} (y : Value), (∀ r ∈ L, r.length = k) → L[i]? = some r → j < k → (L.set i (r.set j y)).flatten = L.flatten.set (i * k + j) y := by
  intro L
  induction L with
  | nil => intro i j r y _ h; simp at h
  | cons s L ih =>
    intro i j r y h hi hj
    have hs := h s (List.mem_cons_self ..)
    cases i with
    | zero =>
      simp at hi; subst hi
      simp only [List.set_cons_zero, List.flatten_cons, Nat.zero_mul, Nat.zero_add]
      rw [List.set_append_left _ _ (by omega)]
    | succ i =>
      simp only [List.getElem?_cons_succ] at hi
      have := ih y (fun r hr => h r (List.mem_cons_of_mem _ hr)) hi hj
      simp only [List.set_cons_succ, List.flatten_cons]
      rw [this, List.set_append_right _ _ (by rw [hs, Nat.add_mul]; omega), hs, show (i + 1) * k + j - k = i * k + j by rw [Nat.add_mul]; omega]
theorem OwnK.set {h : Heap} {el k g : Nat} {v : Value} {L : List (List Value)} (H : OwnK h el k g v L) {i j : Nat} {r : List Value} (y : Value) (hr : L[i]? = some r) (hj : j < k) : OwnK (setH h ⟨g, i * k + j, none⟩ y) el k g v (L.set i (r.set j y)) := by
  obtain ⟨cap, cur, hv, hg, hl, hm, hs, hk, ht⟩ := H
  have hrk := hk r (List.mem_of_getElem? hr)
  refine ⟨cap, cur.setIfInBounds (i * k + j) y, by rw [List.length_set]; exact hv, ?_, by rw [List.length_set]; exact hl, hm, by simp [hs], ?_, ?_⟩
  · simp only [setH, Array.getElem?_modify, if_true, hg, Option.map_some]
    rfl
  · intro q hq
    rcases List.mem_or_eq_of_mem_set hq with hq | rfl
    · exact hk q hq
    · rw [List.length_set]; exact hrk
  · rw [List.length_set, Array.toList_setIfInBounds, List.take_set, ht, flat_set y hk hr hj]

def GroK (h : Heap) (el k lo : Nat) (v : Value) (L : List (List Value)) : Prop := (L = [] ∧ v = .slice none 0 0) ∨ ∃ g, lo ≤ g ∧ OwnK h el k g v L
theorem groK_nil (h : Heap) (el k lo : Nat) : GroK h el k lo (.slice none 0 0) [] := .inl ⟨rfl, rfl⟩
theorem GroK.sl {h : Heap} {el k lo : Nat} {v : Value} {L : List (List Value)} (H : GroK h el k lo v L) : SlK h k v L := by
  rcases H with ⟨rfl, rfl⟩ | ⟨g, _, H⟩
  · exact slK_nil h k
  · exact H.sl
theorem GroK.upd {S : Nat → Prop} {h h' : Heap} {el k lo : Nat} {v : Value} {L : List (List Value)} (H : GroK h el k lo v L) (he : Upd S h h') (hS : ∀ g, v.ownBlock = some g → ¬ S g) : GroK h' el k lo v L := by
  rcases H with ⟨rfl, rfl⟩ | ⟨g, hg, H⟩
  · exact groK_nil h' el k lo
  · exact .inr ⟨g, hg, H.upd he (hS g H.blk)⟩
theorem GroK.ext {h h' : Heap} {el k lo : Nat} {v : Value} {L : List (List Value)} (H : GroK h el k lo v L) (he : Ext h h') : GroK h' el k lo v L := H.upd (S := fun _ => False) he.upd (fun _ _ h => h)
theorem GroK.blk {h : Heap} {el k lo : Nat} {v : Value} {L : List (List Value)} (H : GroK h el k lo v L) : ∀ g, v.ownBlock = some g → lo ≤ g ∧ g < h.size := by
  intro g hg
  rcases H with ⟨rfl, rfl⟩ | ⟨g', hg', H⟩
  · cases hg
  · have := H.blk; rw [hg] at this; injection this with this; subst this; exact ⟨hg', H.lt⟩
theorem GroK.own {h : Heap} {el k lo : Nat} {v : Value} {L : List (List Value)} (H : GroK h el k lo v L) (hl : L ≠ []) : ∃ g, lo ≤ g ∧ OwnK h el k g v L := by
  rcases H with ⟨rfl, rfl⟩ | H
  · exact absurd rfl hl
  · exact H
/-- A store elsewhere, below. -/
theorem GroK.updLo {b : Nat} {h h' : Heap} {el k lo : Nat} {v : Value} {L : List (List Value)} (H : GroK h el k lo v L) (he : Upd (· = b) h h') (hb : b < lo) : GroK h' el k lo v L :=
  H.upd he fun g hg hs => by have := (H.blk g hg).1; have hs' : g = b := hs; omega

theorem SlK.toK {h : Heap} {k : Nat} {v : Value} {L : List (List Value)} (H : SlK h k v L) {i : Nat} {r : List Value} (hr : L[i]? = some r) : ∃ b o, ∀ j x, r[j]? = some x → cellH h ⟨b, o + j, none⟩ = some x := by
  obtain ⟨a, cap, hv, hc⟩ := H
  obtain ⟨b, o, _, hx⟩ := hc i r hr
  exact ⟨b, _, hx⟩
/-! ### literals of structs in slices -/
theorem fill_fold : ∀ (l pre old : List Value) , old.length = l.length → ((l.zipIdx pre.length).foldl (fun (cs : Array Value) (x : Value × Nat) => cs.setIfInBounds (0 + x.2) x.1) (pre ++ old).toArray) = (pre ++ l).toArray := by
  intro l
  induction l with
  | nil => intro pre old h; obtain rfl : old = [] := List.eq_nil_of_length_eq_zero h; simp
  | cons v l ih =>
    intro pre old h
    cases old with
    | nil => simp at h
    | cons o old =>
      have := ih (pre ++ [v]) old (by simpa using h)
      simp only [List.zipIdx_cons, List.foldl_cons]
      rw [show (pre ++ o :: old).toArray.setIfInBounds (0 + pre.length) v = (pre ++ [v] ++ old).toArray by simp]
      rw [List.length_append, List.length_cons, List.length_nil, Nat.zero_add] at this
      rw [this]
      simp

section
variable {P : Program} {B : Heap → Prop} {st : Bool} {ops : Array Oper} {rest : List Oper} {e : Env} {h : Heap} {K : Env → Heap → Prop}
variable {d d' : Nat} {ty ty' : TypeId} {pos pos' : String} {af af' : Array Edge}

/-- A new variable that holds a value. -/
theorem r_boxB {x : Operand} {t : Nat} {v : Value} (l : List Value) (hbB : ∀ h', B h') (hx : e.ev x = v) (hl : v.cells = l.toArray) (H : ∀ b h', BoxH t h' b l → Ext h h' → h.size ≤ b → b < h'.size → RL P B st ops rest (e.set d (.pointer (some ⟨b, 0, none⟩))) h' K) :
    RL P B st ops (⟨some d, .box t x, ty, pos, af, none⟩ :: rest) e h K := by
  refine r_box (hbB _) hx ⟨hbB _, ?_⟩
  exact H h.size _ (by unfold BoxH; rw [hl]; simp) (ext_push _ _) (Nat.le_refl _) (by simp)
/-- A new variable that holds zero. -/
theorem r_allocB {t bytes : Nat} {z : Value} (l : List Value) (hz : ZeT P t z bytes) (hl : z.cells = l.toArray) (hbB : ∀ h', B h') (H : ∀ b h', BoxH t h' b l → Ext h h' → h.size ≤ b → b < h'.size → RL P B st ops rest (e.set d (.pointer (some ⟨b, 0, none⟩))) h' K) :
    RL P B st ops (⟨some d, .alloc t, ty, pos, af, none⟩ :: rest) e h K := by
  refine r_alloc hz (hbB _) ⟨hbB _, ?_⟩
  exact H h.size _ (by unfold BoxH; rw [hl]; simp) (ext_push _ _) (Nat.le_refl _) (by simp)
/-- A field of a variable is set. -/
theorem r_stB {x y : Operand} {t tb b i : Nat} {u : Value} {l : List Value} (l' : List Value) (ht : NaT P t) (hx : e.ev x = .pointer (some ⟨b, i, none⟩)) (hy : e.ev y = u) (h1 : isOne u = true) (HB : BoxH tb h b l) (hi : i < l.length) (hl : l.set i u = l')
    (H : ∀ h', BoxH tb h' b l' → Upd (· = b) h h' → RL P B st ops rest e h' K) : RL P B st ops (⟨none, .store t x y, ty, pos, af, none⟩ :: rest) e h K :=
  r_st ht hx hy h1 (HB.cell (List.getElem?_eq_getElem hi)) (HB.free i) (H _ (hl ▸ HB.set i u) (upd_set _ _ _))
theorem run_storeA {b t : Nat} {w : World} {l l' : List Value} (HB : BoxH t w.heap b l) (hl : l'.length = l.length) (h1 : ∀ u ∈ l', isOne u = true) : ∃ w', (storeCells ⟨b, 0, none⟩ l').run P w = .ok () w' ∧ w'.tape = w.tape ∧ w'.os = w.os ∧ w'.output = w.output ∧ BoxH t w'.heap b l' ∧ Upd (· = b) w.heap w'.heap := by
  have hone' : ∀ u ∈ l', u.oneCell' = true := fun u hu' => by have := h1 u hu'; cases u <;> first | rfl | cases this
  have := run_storeCells_at P b 0 t l' 0 l.toArray w HB (by simp [hl]) hone'
  refine ⟨_, this, rfl, rfl, rfl, ?_, ?_⟩
  · unfold BoxH
    rw [setRow_heap w b l.toArray _ t (0, 0) HB]
    simp [hl]
  · exact ⟨by simp [World.setRow], fun k hk hne => setRow_other w b k _ (fun he => hne he)⟩
/-- A whole variable is set. -/
theorem r_stA {x y : Operand} {t tb b s : Nat} {l : List Value} (l' : List Value) (ht : AgT P t s) (hl' : l'.length = s) (hl : l.length = s) (hx : e.ev x = .pointer (some ⟨b, 0, none⟩)) (hy : e.ev y = .agg l'.toArray) (h1 : ∀ u ∈ l', isOne u = true) (HB : BoxH tb h b l)
    (H : ∀ h', BoxH tb h' b l' → Upd (· = b) h h' → RL P B st ops rest e h' K) : RL P B st ops (⟨none, .store t x y, ty, pos, af, none⟩ :: rest) e h K := by
  refine r_wr rfl rfl fun w hw => ?_
  subst hw
  obtain ⟨_, i, hi, hsz⟩ := ht
  obtain ⟨w', hr, ht', ho', hu', HB', hU⟩ := run_storeA (P := P) HB (hl'.trans hl.symm) h1
  have hrun : (execOp e.ev ⟨none, .store t x y, ty, pos, af, none⟩).run P w = .ok .skip w' := by
    simp only [execOp, Instr.storeAt, hx, Instr.sureAddr, hy]
    simp [storeVar, s_run hi, Value.cells, hsz, hl', hr]
  rw [hrun]
  exact ⟨⟨ho', ht', hu'⟩, H _ HB' hU⟩
/-- The address of a struct in a slice. -/
theorem r_ixK {x i : Operand} {t el s : Nat} {v : Value} {L : List (List Value)} {r : List Value} {k : IntKind} {n : Nat} (hT : SlT P t el s) (hx : e.ev x = v) (HS : SlK h s v L) (hi : e.ev i = .int k (n : Int)) (hu : L[n]? = some r)
    (H : ∀ b o, (∀ j x, r[j]? = some x → cellH h ⟨b, o + j, none⟩ = some x) → RL P B st ops rest (e.set d (.pointer (some ⟨b, o, none⟩))) h K) : RL P B st ops (⟨some d, .indexAddr t x i, ty, pos, af, none⟩ :: rest) e h K := by
  obtain ⟨a, cap, rfl, hc⟩ := HS
  obtain ⟨b, o, rfl, hcu⟩ := hc n r hu
  have hn := (List.getElem?_eq_some_iff.1 hu).1
  refine r_ix hT hx hi (by omega) (by omega) ?_
  have he : (⟨b, o, none⟩ : Addr).add ((n : Int).toNat * s) = ⟨b, o + n * s, none⟩ := by rw [addr_add]; simp
  rw [he]
  exact H b _ hcu
/-- The same, the cells read alike in all of B. -/
theorem r_ixKB {x i : Operand} {t el s : Nat} {v : Value} {L : List (List Value)} {r : List Value} {k : IntKind} {n : Nat} (hT : SlT P t el s) (hx : e.ev x = v) (hb : B h) (HS : ∀ h', B h' → SlK h' s v L) (hi : e.ev i = .int k (n : Int)) (hu : L[n]? = some r)
    (H : ∀ b o, (∀ h', B h' → ∀ j x, r[j]? = some x → cellH h' ⟨b, o + j, none⟩ = some x) → RL P B st ops rest (e.set d (.pointer (some ⟨b, o, none⟩))) h K) : RL P B st ops (⟨some d, .indexAddr t x i, ty, pos, af, none⟩ :: rest) e h K := by
  obtain ⟨a, cap, hv0, hc⟩ := HS h hb
  obtain ⟨b, o, rfl, hcu⟩ := hc n r hu
  have hn := (List.getElem?_eq_some_iff.1 hu).1
  rw [hv0] at hx
  refine r_ix hT hx hi (by omega) (by omega) ?_
  have he : (⟨b, o, none⟩ : Addr).add ((n : Int).toNat * s) = ⟨b, o + n * s, none⟩ := by rw [addr_add]; simp
  rw [he]
  refine H b _ fun h' hb' => ?_
  obtain ⟨a', cap', hv', hc'⟩ := HS h' hb'
  obtain ⟨b', o', ha', hcu'⟩ := hc' n r hu
  rw [hv0] at hv'
  injection hv' with h1
  rw [← h1] at ha'
  injection ha' with ha'
  injection ha' with h2 h3
  subst h2; subst h3
  exact hcu'
theorem r_ixKo {x i : Operand} {t el er s g : Nat} {v : Value} {L : List (List Value)} {k : IntKind} {n : Nat} (hT : SlT P t el s) (hx : e.ev x = v) (HO : OwnK h er s g v L) (hi : e.ev i = .int k (n : Int)) (hn : n < L.length)
    (H : RL P B st ops rest (e.set d (.pointer (some ⟨g, n * s, none⟩))) h K) : RL P B st ops (⟨some d, .indexAddr t x i, ty, pos, af, none⟩ :: rest) e h K := by
  obtain ⟨cap, cur, rfl, _⟩ := HO
  refine r_ix hT hx hi (by omega) (by omega) ?_
  have he : (⟨g, 0, none⟩ : Addr).add ((n : Int).toNat * s) = ⟨g, n * s, none⟩ := by rw [addr_add]; simp
  rw [he]
  exact H
theorem r_lenK {x : Operand} {t el s k : Nat} {v : Value} {L : List (List Value)} (hT : SlT P t el s) (hx : e.ev x = v) (HI : SlK h k v L) (H : RL P B st ops rest (e.set d (.int .i64 (L.length : Int))) h K) :
    RL P B st ops (⟨some d, .call ⟨.builtin .len, #[x], #[t]⟩, ty, pos, af, none⟩ :: rest) e h K := by
  obtain ⟨a, cap, rfl, _⟩ := HI
  exact r_len hT hx H
theorem r_lenKm {α : Type} {f : α → List Value} {Bs : List α} {x : Operand} {t el s k : Nat} {v : Value} (hT : SlT P t el s) (hx : e.ev x = v) (HI : SlK h k v (Bs.map f)) (H : RL P B st ops rest (e.set d (.int .i64 (Bs.length : Int))) h K) :
    RL P B st ops (⟨some d, .call ⟨.builtin .len, #[x], #[t]⟩, ty, pos, af, none⟩ :: rest) e h K := by
  refine r_lenK hT hx HI ?_
  rw [List.length_map]; exact H
/-- A field's address, whatever the block. -/
theorem r_fo {x : Operand} {t f off ft fs b o : Nat} (hf : FdT P t f off ft) (hs : (P.info? ft).map (·.size) = some fs) (hfs : fs ≠ 0) (hx : e.ev x = .pointer (some ⟨b, o, none⟩)) (H : RL P B st ops rest (e.set d (.pointer (some ⟨b, o + off, none⟩))) h K) :
    RL P B st ops (⟨some d, .fieldAddr t x f, ty, pos, af, none⟩ :: rest) e h K := by
  refine r_fa hf hs hfs hx ?_
  rw [addr_add]; exact H
/-- The address of an entry of an array. -/
theorem r_ixA {x i : Operand} {t el n s b o : Nat} {k : IntKind} {j : Nat} (hu : P.underlying t = some (.array n el)) (hs : (P.info? el).map (·.size) = some s) (hx : e.ev x = .pointer (some ⟨b, o, none⟩)) (hi : e.ev i = .int k (j : Int)) (hj : j < n)
    (H : RL P B st ops rest (e.set d (.pointer (some ⟨b, o + j * s, none⟩))) h K) : RL P B st ops (⟨some d, .indexAddr t x i, ty, pos, af, none⟩ :: rest) e h K :=
  r_pure (v := .pointer (some ⟨b, o + j * s, none⟩)) rfl rfl (fun w => by
    cases hi' : P.info? el with
    | none => rw [hi'] at hs; cases hs
    | some i' =>
      rw [hi'] at hs
      have hs' : i'.size = s := by simpa using hs
      have h1 : (j : Int) < (n : Int) := by omega
      simp [execOp, hx, hi, Instr.indexAt, asIntOf, u_run hu, s_run hi', hs', h1, Instr.sureAddr, addr_add]
      intro hlt; omega) H

/-- '[]T{x}' of a struct. -/
theorem r_bsK {t el bytes s : Nat} {z : Value} {y : Operand} (l : List Value) (hT : SlT P t el s) (hz : ZeT P el z bytes) (hb : B h) (hy : e.ev y = .agg l.toArray) (hl : l.length = s) (hs1 : 0 < s) (hs2 : s ≤ 1000)
    (H : B (h.push (.cells l.toArray el (0, 0))) ∧ RL P B st ops rest (e.set d (.slice (some ⟨h.size, 0, none⟩) 1 1)) (h.push (.cells l.toArray el (0, 0))) K) :
    RL P B st ops (⟨some d, .buildSlice t 1 #[(0, y)], ty, pos, af, none⟩ :: rest) e h K := by
  refine r_eff rfl rfl hb fun w hw => ?_
  subst hw
  obtain ⟨hu, i0, hi0, hs0⟩ := hT
  obtain ⟨i, hi, hzz, hsz, hby⟩ := hz
  rw [hi] at hi0; injection hi0 with hi0; subst hi0
  have h3 : ¬ (1 * i.size > 2 ^ 24) := by rw [hs0]; omega
  have h4 : ¬ (1 * i.size = 0) := by rw [hs0]; omega
  have hfill : Instr.fill (fun j => some (j * i.size, i.size)) ((Array.range (1 * i.size)).map (z.cells[· % z.cells.size]!)) [(0, .agg l.toArray)] = some l.toArray := by
    have hvc : (Value.agg l.toArray).cells = l.toArray := rfl
    generalize z.cells = zc
    simp only [Instr.fill, hvc, List.size_toArray, hl, hs0]
    rw [if_neg (by simp)]
    congr 1
    obtain ⟨old, ho⟩ : ∃ old : List Value, ((Array.range (1 * s)).map (zc[· % zc.size]!)) = old.toArray := ⟨_, (Array.toArray_toList).symm⟩
    have hol : old.length = l.length := by have := congrArg Array.size ho; simp at this; omega
    rw [ho]
    have := fill_fold l [] old hol
    simp only [List.nil_append, List.length_nil] at this
    simp only [Nat.zero_mul]
    rw [← Array.foldl_toList]
    simp only [Array.toList_zipIdx]
    exact this
  have : (execOp e.ev ⟨some d, .buildSlice t 1 #[(0, y)], ty, pos, af, none⟩).run P w = .ok (.value (.slice (some ⟨w.heap.size, 0, none⟩) 1 1)) (w.alloc (.cells l.toArray el)) := by
    simp only [execOp, List.map_toArray, List.map, hy]
    simp only [Instr.buildSlice, Sem.run_bind, u_run hu, Result.andThen, s_run hi, if_neg h3, if_neg h4, z_run hi hzz]
    have hp1 : Sem.run P (pure z.cells : Sem (Array Value)) w = .ok z.cells w := rfl
    simp only [hp1]
    rw [hfill]
    simp [newRow]
  rw [this]
  exact ⟨⟨rfl, rfl, rfl⟩, H⟩
theorem ownK_lit (h : Heap) (el k : Nat) (l : List Value) (hl : l.length = k) : OwnK (h.push (.cells l.toArray el (0, 0))) el k h.size (.slice (some ⟨h.size, 0, none⟩) 1 1) [l] :=
  ⟨1, l.toArray, rfl, by simp, by simp, by simp [maxLen], by simp [hl], by simpa using hl, by simp [← hl]⟩
/-- A field of a struct in an owned slice is set. -/
theorem r_stK {x y : Operand} {t el k g i j : Nat} {u v : Value} {L : List (List Value)} {row : List Value} (row' : List Value) (ht : NaT P t) (hx : e.ev x = .pointer (some ⟨g, i * k + j, none⟩)) (hy : e.ev y = u) (h1 : isOne u = true) (HO : OwnK h el k g v (L.set i row)) (hi : i < L.length) (hj : j < k) (hr : row.set j u = row')
    (H : ∀ h', OwnK h' el k g v (L.set i row') → Upd (· = g) h h' → RL P B st ops rest e h' K) : RL P B st ops (⟨none, .store t x y, ty, pos, af, none⟩ :: rest) e h K := by
  have hg : (L.set i row)[i]? = some row := List.getElem?_set_self hi
  have hk : row.length = k := by
    obtain ⟨_, _, _, _, _, _, _, hk, _⟩ := HO
    exact hk row (List.mem_of_getElem? hg)
  obtain ⟨x0, hx0⟩ : ∃ x0, row[j]? = some x0 := ⟨row[j]'(by omega), List.getElem?_eq_getElem _⟩
  have := HO.set u hg hj
  rw [List.set_set, hr] at this
  exact r_st ht hx hy h1 (HO.cell hg hx0) (HO.free _) (H _ this (upd_set _ _ _))
/-- 's = append(s, x)' of structs. -/
theorem r_pushK {s y : Operand} {t el bytes lo k : Nat} {z v : Value} {L : List (List Value)} (u : List Value) (hT : SlT P t el k) (hz : ZeT P el z bytes) (hzk : z.cells.size = k) (hbB : ∀ h', B h') (hs : ∀ p, (e.set d p).ev s = v) (hy : e.ev y = .agg u.toArray) (hu : u.length = k) (hone : ∀ x ∈ u, isOne x = true) (hk1 : 0 < k) (hk2 : k ≤ 1000) (HG : GroK h el k lo v L) (hlo : lo ≤ h.size) (hby : bytes ≤ 1000)
    (hl : L.length ≤ 100000000)
    (H : ∀ p v' h', GroK h' el k lo v' (L ++ [u]) → Upd (fun k => v.ownBlock = some k) h h' → (v'.ownBlock = v.ownBlock ∨ ∃ g, v'.ownBlock = some g ∧ h.size ≤ g) → RL P B st ops rest ((e.set d p).set d' v') h' K) :
    RL P B st ops (⟨some d, .buildSlice t 1 #[(0, y)], ty, pos, af, none⟩ :: ⟨some d', .call ⟨.builtin .append, #[s, .tmp d], #[t, t]⟩, ty', pos', af', none⟩ :: rest) e h K := by
  have hsz : L.length * bytes ≤ 100000000 * 1000 := Nat.mul_le_mul hl hby
  have hb2 : (L.length + 1) * bytes ≤ 140737488355328 := by rw [Nat.add_mul]; omega
  refine r_bsK u hT hz (hbB h) hy hu hk1 hk2 ⟨hbB _, ?_⟩
  have hnew := ownK_lit h el k u hu
  have hE := ext_push h (.cells u.toArray el (0, 0))
  have hsz2 : (h.push (.cells u.toArray el (0, 0))).size = h.size + 1 := by simp
  have hone' : ∀ x ∈ u, x.oneCell' = true := fun x hx' => by have := hone x hx'; cases x <;> first | rfl | cases this
  refine r_eff rfl rfl (hbB _) fun w hw => ?_
  have hws : w.heap.size = h.size + 1 := by rw [hw]; exact hsz2
  have hEw : Ext h w.heap := by rw [hw]; exact hE
  obtain ⟨hut, i0, hi0, hs0⟩ := hT
  obtain ⟨i, hi, hzz, hszz, hbyy⟩ := hz
  rw [hi] at hi0; injection hi0 with hi0; subst hi0
  have hnews : ∀ j x, u[j]? = some x → w.cell? ((⟨h.size, 0, none⟩ : Addr).add j) = some x := fun j x hx => by
    rw [addr_add, Nat.zero_add]
    have := hnew.cell (i := 0) rfl hx
    rw [Nat.zero_mul, Nat.zero_add] at this
    rw [cell?_eq, hw]; exact this
  rcases HG with ⟨rfl, rfl⟩ | ⟨g, hg, HO⟩
  · have hr := run_append_nil (P := P) w t ty' el i z hut hi hzz ⟨h.size, 0, none⟩ 1 1 u (by rw [hu, hs0]; omega) hnews (by omega) (by omega) (by rw [hbyy]; omega)
    have hrun : (execOp (e.set d (.slice (some ⟨h.size, 0, none⟩) 1 1)).ev ⟨some d', .call ⟨.builtin .append, #[s, .tmp d], #[t, t]⟩, ty', pos', af', none⟩).run P w = .ok (.value (.slice (some ⟨w.heap.size, 0, none⟩) 1 (grownCap w 1 0 el)))
        (w.drew.alloc (.cells (u.toArray ++ Builtin.zeroCells z.cells (grownCap w 1 0 el - 1)) el)) := by
      have hd : (e.set d (.slice (some ⟨h.size, 0, none⟩) 1 1)).ev (.tmp d) = .slice (some ⟨h.size, 0, none⟩) 1 1 := Env.set_same _ _ _
      simp [execOp, resolve, invoke, builtin, hs, hd, hr]
    rw [hrun]
    have hge := grownCap_ge w 1 0 el
    have hcm' : grownCap w 1 0 el ≤ maxLen := grownCap_le_maxLen w _ _ el (by unfold maxLen; omega)
    refine ⟨⟨rfl, rfl, rfl⟩, hbB _, H _ _ _ (.inr ⟨w.heap.size, by omega, ?_⟩) ?_ (.inr ⟨w.heap.size, rfl, by omega⟩)⟩
    · refine ⟨_, _, rfl, heap_alloc_new w.drew _, hge, hcm', ?_, by simpa using hu, ?_⟩
      · rw [Array.size_append, size_zeroCells, hzk, List.size_toArray, hu, Nat.sub_mul]
        have : 1 * k ≤ grownCap w 1 0 el * k := Nat.mul_le_mul_right k hge
        omega
      · simp only [Array.toList_append]
        simp only [List.nil_append, List.length_cons, List.length_nil, Nat.zero_add, Nat.one_mul, List.flatten_cons, List.flatten_nil, List.append_nil]
        rw [← hu]
        exact List.take_left
    · exact (hEw.trans ⟨by simp, fun k hk => heap_alloc_old w.drew _ k hk⟩).upd
  · have HO2 := HO.ext hE
    rw [← hw] at HO2
    have hcell : ∀ j x, L.flatten[j]? = some x → w.cell? ((⟨g, 0, none⟩ : Addr).add j) = some x := fun j x hx => by
      obtain ⟨cap, cur, _, hgg, _, _, _, hkk, ht⟩ := HO2
      rw [addr_add, Nat.zero_add, cell?_eq]
      have hj := (List.getElem?_eq_some_iff.1 hx).1
      rw [flat_len hkk] at hj
      rw [← ht, List.getElem?_take, if_pos hj] at hx
      simp only [cellH, hgg]
      simpa using hx
    have HO3 := HO2
    obtain ⟨cap, cur, rfl, hgg, hlc, hcm, hcs, hkk, ht⟩ := HO2
    have hd : (e.set d (.slice (some ⟨h.size, 0, none⟩) 1 1)).ev (.tmp d) = .slice (some ⟨h.size, 0, none⟩) 1 1 := Env.set_same _ _ _
    have hlu : (L ++ [u]).length = L.length + 1 := by simp
    have hkk' : ∀ r ∈ L ++ [u], r.length = k := by
      intro r hr
      rcases List.mem_append.1 hr with h1 | h1
      · exact hkk r h1
      · rw [List.mem_singleton.1 h1]; exact hu
    by_cases hroom : L.length + 1 ≤ cap
    · have hmul : (L.length + 1) * k ≤ cap * k := Nat.mul_le_mul_right k hroom
      rw [Nat.add_mul, Nat.one_mul] at hmul
      have hr := run_append_room (P := P) w t ty' el i hut hi g L.length cap cur hgg ⟨h.size, 0, none⟩ 1 1 u (by rw [hu, hs0]; omega) hnews hone' hroom (by rw [hs0, hu, hcs]; exact hmul)
      have hrun : (execOp (e.set d (.slice (some ⟨h.size, 0, none⟩) 1 1)).ev ⟨some d', .call ⟨.builtin .append, #[s, .tmp d], #[t, t]⟩, ty', pos', af', none⟩).run P w = .ok (.value (.slice (some ⟨g, 0, none⟩) (L.length + 1) cap)) (w.setRow g (cur.toList.take (L.length * i.size) ++ u ++ cur.toList.drop (L.length * i.size + u.length)).toArray) := by
        simp [execOp, resolve, invoke, builtin, hs, hd, hr]
      rw [hrun]
      refine ⟨⟨rfl, rfl, rfl⟩, hbB _, H _ _ _ (.inr ⟨g, hg, ?_⟩) ?_ (.inl rfl)⟩
      · refine ⟨cap, _, by rw [hlu], setRow_heap w g cur _ el (0, 0) hgg, by rw [hlu]; exact hroom, hcm, ?_, hkk', ?_⟩
        · simp only [hs0, List.size_toArray, List.length_append, List.length_take, List.length_drop, Array.length_toList, hcs, hu]
          omega
        · simp only [hs0, ht, hlu]
          rw [List.flatten_append, List.flatten_cons, List.flatten_nil, List.append_nil]
          have : (L.length + 1) * k = (L.flatten ++ u).length := by rw [List.length_append, flat_len hkk, hu, Nat.add_mul, Nat.one_mul]
          rw [this]
          exact List.take_left
      · refine hEw.upd.trans ⟨by simp [World.setRow], fun q hq hne => setRow_other w g q _ (fun he => hne (by rw [he]; rfl))⟩
    · have hr := run_append_grow (P := P) w t ty' el i z hut hi hzz ⟨g, 0, none⟩ L.length cap L.flatten (by rw [flat_len hkk, hs0]) hcell ⟨h.size, 0, none⟩ 1 1 u (by rw [hu, hs0]; omega) hnews (by omega)
        (by omega) (by rw [hbyy]; exact growslice_fits (by omega) hb2)
      have hrun : (execOp (e.set d (.slice (some ⟨h.size, 0, none⟩) 1 1)).ev ⟨some d', .call ⟨.builtin .append, #[s, .tmp d], #[t, t]⟩, ty', pos', af', none⟩).run P w = .ok (.value (.slice (some ⟨w.heap.size, 0, none⟩) (L.length + 1) (grownCap w (L.length + 1) cap el)))
          (w.drew.alloc (.cells (L.flatten.toArray ++ u.toArray ++ Builtin.zeroCells z.cells (grownCap w (L.length + 1) cap el - (L.length + 1))) el)) := by
        simp [execOp, resolve, invoke, builtin, hs, hd, hr]
      rw [hrun]
      have hge := grownCap_ge w (L.length + 1) cap el
      have hcm' : grownCap w (L.length + 1) cap el ≤ maxLen := grownCap_le_maxLen w _ _ el (by unfold maxLen; omega)
      refine ⟨⟨rfl, rfl, rfl⟩, hbB _, H _ _ _ (.inr ⟨w.heap.size, by omega, ?_⟩) ?_ (.inr ⟨w.heap.size, rfl, by omega⟩)⟩
      · refine ⟨_, _, by rw [hlu], heap_alloc_new w.drew _, by rw [hlu]; exact hge, hcm', ?_, hkk', ?_⟩
        · have hmm : (L.length + 1) * k ≤ grownCap w (L.length + 1) cap el * k := Nat.mul_le_mul_right k hge
          rw [Nat.add_mul] at hmm
          rw [Array.size_append, Array.size_append, size_zeroCells, hzk, List.size_toArray, List.size_toArray, hu, flat_len hkk, Nat.sub_mul, Nat.add_mul]
          omega
        · simp only [Array.toList_append, hlu]
          rw [List.flatten_append, List.flatten_cons, List.flatten_nil, List.append_nil]
          have : (L.length + 1) * k = (L.flatten ++ u).length := by rw [List.length_append, flat_len hkk, hu, Nat.add_mul, Nat.one_mul]
          rw [this]
          exact List.take_left
      · exact (hEw.trans ⟨by simp, fun k hk => heap_alloc_old w.drew _ k hk⟩).upd

/-! ### bits -/
theorem r_bits {op : BinOp} {x y : Operand} {t t2 : TypeId} {k : IntKind} {a b c : Int} (hx : e.ev x = .int k a) (hy : e.ev y = .int k b) (hop : op = .and ∨ op = .or ∨ op = .xor ∨ op = .andNot) (hv : ∀ w, (Op.intBits op k a b).run P w = .ok (.int k c) w) (H : RL P B st ops rest (e.set d (.int k c)) h K) :
    RL P B st ops (⟨some d, .binOp op t x y t2, ty, pos, af, none⟩ :: rest) e h K :=
  r_pure (v := .int k c) rfl rfl (fun w => by
    rcases hop with rfl | rfl | rfl | rfl <;> simp [execOp, hx, hy, eqGuard, binOp, hv]) H
theorem r_shl {x y : Operand} {t t2 : TypeId} {k k' : IntKind} {a : Int} {n : Nat} (hx : e.ev x = .int k a) (hy : e.ev y = .int k' (n : Int)) (hn : n ≤ k.bits) (H : RL P B st ops rest (e.set d (.int k (k.wrap (a * 2 ^ n)))) h K) :
    RL P B st ops (⟨some d, .binOp .shl t x y t2, ty, pos, af, none⟩ :: rest) e h K :=
  r_pure (v := .int k (k.wrap (a * 2 ^ n))) rfl rfl (fun w => by
    have h1 : ¬ ((n : Int) < 0) := by omega
    have h2 : min n k.bits = n := by omega
    simp [execOp, hx, hy, eqGuard, binOp, Op.shift, h1, h2]) H
theorem r_shr {x y : Operand} {t t2 : TypeId} {k k' : IntKind} {a : Int} {n : Nat} (hx : e.ev x = .int k a) (hy : e.ev y = .int k' (n : Int)) (hn : n ≤ k.bits) (H : RL P B st ops rest (e.set d (.int k (a / 2 ^ n))) h K) :
    RL P B st ops (⟨some d, .binOp .shr t x y t2, ty, pos, af, none⟩ :: rest) e h K :=
  r_pure (v := .int k (a / 2 ^ n)) rfl rfl (fun w => by
    have h1 : ¬ ((n : Int) < 0) := by omega
    have h2 : min n k.bits = n := by omega
    have h3 : a.fdiv (2 ^ n) = a / 2 ^ n := Int.fdiv_eq_ediv_of_nonneg _ (Int.le_of_lt (Int.pow_pos (by omega)))
    simp [execOp, hx, hy, eqGuard, binOp, Op.shift, h1, h2, h3]) H
theorem run_eqBool {t : TypeId} {a b : Bool} (ht : P.underlying t = some .bool) (w : World) : (Op.equal t (.bool a) (.bool b)).run P w = .ok (a == b) w := by
  show (Op.equalIn (9999 + 1) t _ _).run P w = _
  rw [Op.equalIn]
  simp [u_run ht]
/-- '==' and '!=' of booleans. -/
theorem r_eqBool {x y : Operand} {t t2 : TypeId} {a b : Bool} (ht : P.underlying t = some .bool) (hx : e.ev x = .bool a) (hy : e.ev y = .bool b) (H : RL P B st ops rest (e.set d (.bool (a == b))) h K) :
    RL P B st ops (⟨some d, .binOp .eql t x y t2, ty, pos, af, none⟩ :: rest) e h K :=
  r_pure (v := .bool (a == b)) rfl rfl (fun w => by
    simp [execOp, hx, hy, eqGuard, binOp, run_eqBool ht]) H
theorem r_neBool {x y : Operand} {t t2 : TypeId} {a b : Bool} (ht : P.underlying t = some .bool) (hx : e.ev x = .bool a) (hy : e.ev y = .bool b) (H : RL P B st ops rest (e.set d (.bool (!(a == b)))) h K) :
    RL P B st ops (⟨some d, .binOp .neq t x y t2, ty, pos, af, none⟩ :: rest) e h K :=
  r_pure (v := .bool (!(a == b))) rfl rfl (fun w => by
    simp [execOp, hx, hy, eqGuard, binOp, run_eqBool ht]) H
/-- '==' and '!=' of structs. -/
theorem r_eqA {x y : Operand} {t t2 : TypeId} {a b : Array Value} {r : Bool} (hg : P.eqGuardType P.depth t = false) (hx : e.ev x = .agg a) (hy : e.ev y = .agg b) (hv : ∀ w, (Op.equal t (.agg a) (.agg b)).run P w = .ok r w) (H : RL P B st ops rest (e.set d (.bool r)) h K) :
    RL P B st ops (⟨some d, .binOp .eql t x y t2, ty, pos, af, none⟩ :: rest) e h K :=
  r_pure (v := .bool r) rfl rfl (fun w => by
    simp [execOp, hx, hy, eqGuard, binOp, hv, hg]) H
theorem r_neA {x y : Operand} {t t2 : TypeId} {a b : Array Value} {r : Bool} (hg : P.eqGuardType P.depth t = false) (hx : e.ev x = .agg a) (hy : e.ev y = .agg b) (hv : ∀ w, (Op.equal t (.agg a) (.agg b)).run P w = .ok r w) (H : RL P B st ops rest (e.set d (.bool !r)) h K) :
    RL P B st ops (⟨some d, .binOp .neq t x y t2, ty, pos, af, none⟩ :: rest) e h K :=
  r_pure (v := .bool !r) rfl rfl (fun w => by
    simp [execOp, hx, hy, eqGuard, binOp, hv, hg]) H
end

/-! ### parts of structs, held against one another -/
theorem part_run {P : Program} {t : TypeId} {cs : Array Value} {off : Nat} {v : Value} (ht : NaT P t) (hv : cs[off]? = some v) (w : World) : (part t cs off).run P w = .ok v w := by
  obtain ⟨⟨d, hd, hna⟩, _⟩ := ht
  have h2 := a_run (P := P) hd w
  rw [hna] at h2
  simp [part, h2, hv]
theorem eqInt_run {P : Program} {t : TypeId} {k : IntKind} {a b : Int} (ht : IntT P t k) (w : World) : (Op.equalIn 9999 t (.int k a) (.int k b)).run P w = .ok (a == b) w := by
  show (Op.equalIn (9998 + 1) t _ _).run P w = _
  unfold IntT at ht
  rw [Op.equalIn]
  simp [u_run ht]
theorem eqBool_run {P : Program} {t : TypeId} {a b : Bool} (ht : P.underlying t = some .bool) (w : World) : (Op.equalIn 9999 t (.bool a) (.bool b)).run P w = .ok (a == b) w := by
  show (Op.equalIn (9998 + 1) t _ _).run P w = _
  rw [Op.equalIn]
  simp [u_run ht]
/-! ### results in memory -/
theorem run_loadVarA {P : Program} {t s : Nat} (ht : AgT P t s) {a : Addr} {l : List Value} (hl : l.length = s) (w : World) (hc : ∀ i u, l[i]? = some u → cellH w.heap (a.add i) = some u) : (loadVar t a).run P w = .ok (.agg l.toArray) w := by
  obtain ⟨⟨dd, hd, hag⟩, i, hi, hsz⟩ := ht
  have h1 := run_loadCells (P := P) (a := a) (w := w) l 0 #[] (fun i u hu => by rw [Nat.zero_add]; exact hc i u hu)
  rw [hl, ← hsz] at h1
  have h2 := a_run (P := P) hd w
  rw [hag] at h2
  simp [loadVar, h2, s_run hi, loadCells, h1]
theorem retV_c {P : Program} {e : Env} {h : Heap} {t : Tmp} {ty s tb b : Nat} {l : List Value} (ht : AgT P ty s) (hl : l.length = s) (he : e t = .pointer (some ⟨b, 0, none⟩)) (HB : BoxH tb h b l) : RetV P [.cell t ty] e h (.agg l.toArray) :=
  fun fn tmps w hr hg hw => by
    have h1 : tmps[t]?.getD undef = .pointer (some ⟨b, 0, none⟩) := by rw [← Array.getD_eq_getD_getElem?, hg]; exact he
    have h2 := run_loadVarA ht hl w (a := ⟨b, 0, none⟩) (by rw [hw]; exact HB.agg)
    simp only [results, hr]
    simp [h1, asAddr, h2]
theorem retV_ct {P : Program} {e : Env} {h : Heap} {t u : Tmp} {ty s tb b : Nat} {l : List Value} (ht : AgT P ty s) (hl : l.length = s) (he : e t = .pointer (some ⟨b, 0, none⟩)) (HB : BoxH tb h b l) : RetV P [.cell t ty, .tmp u] e h (.tuple #[.agg l.toArray, e u]) :=
  fun fn tmps w hr hg hw => by
    have h1 : tmps[t]?.getD undef = .pointer (some ⟨b, 0, none⟩) := by rw [← Array.getD_eq_getD_getElem?, hg]; exact he
    have h2 := run_loadVarA ht hl w (a := ⟨b, 0, none⟩) (by rw [hw]; exact HB.agg)
    rw [← hg u]
    simp only [results, hr]
    simp [h1, asAddr, h2]
theorem retV_cct {P : Program} {e : Env} {h : Heap} {t t2 u : Tmp} {ty ty2 s s2 tb tb2 b b2 : Nat} {l l2 : List Value} (ht : AgT P ty s) (hl : l.length = s) (he : e t = .pointer (some ⟨b, 0, none⟩)) (HB : BoxH tb h b l) (ht2 : AgT P ty2 s2) (hl2 : l2.length = s2) (he2 : e t2 = .pointer (some ⟨b2, 0, none⟩)) (HB2 : BoxH tb2 h b2 l2) : RetV P [.cell t ty, .cell t2 ty2, .tmp u] e h (.tuple #[.agg l.toArray, .agg l2.toArray, e u]) :=
  fun fn tmps w hr hg hw => by
    have h1 : tmps[t]?.getD undef = .pointer (some ⟨b, 0, none⟩) := by rw [← Array.getD_eq_getD_getElem?, hg]; exact he
    have h3 : tmps[t2]?.getD undef = .pointer (some ⟨b2, 0, none⟩) := by rw [← Array.getD_eq_getD_getElem?, hg]; exact he2
    have h2 := run_loadVarA ht hl w (a := ⟨b, 0, none⟩) (by rw [hw]; exact HB.agg)
    have h4 := run_loadVarA ht2 hl2 w (a := ⟨b2, 0, none⟩) (by rw [hw]; exact HB2.agg)
    rw [← hg u]
    simp only [results, hr]
    simp [h1, h3, asAddr, h2, h4]
end Go.QF
