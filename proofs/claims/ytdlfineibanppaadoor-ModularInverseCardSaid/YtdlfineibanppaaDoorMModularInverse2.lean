/-
  Texts of the proof of ModularInverse, joined: Sl2, Part, IntS, Zs, C1, C2, Ty2, Z1, Z2, Z3, Z4, Free, Ev, Ew. Conditions stand in each statement.
-/
import Derived.Test.YtdlfineibanppaaDoorMModularInverse1
/-
  Pieces of slices and of matrices that are read alone. No condition.
-/
namespace Go.QF
open Go
set_option linter.unusedVariables false
def CapOk (v : Value) : Prop := ∃ a n c, v = .slice a n c ∧ n ≤ c
theorem capOk_nil : CapOk (.slice none 0 0) := ⟨_, _, _, rfl, Nat.le_refl _⟩
theorem OwnA.cap {h : Heap} {el g : Nat} {v : Value} {l : List Value} (H : OwnA h el g v l) : CapOk v := by
  obtain ⟨cap, cur, rfl, _, hl, _⟩ := H
  exact ⟨_, _, _, rfl, hl⟩
theorem Sl.drop {h : Heap} {a : Option Addr} {n cap k : Nat} {l : List Value} (H : Sl h (.slice a n cap) l) (hk : k ≤ n) (hc : n ≤ cap) :
    Sl h (.slice (if cap = k then a else a.map (·.add (k * 1))) (n - k) (cap - k)) (l.drop k) := by
  obtain ⟨a', c', hv, hx⟩ := H
  injection hv with ha hl hcap
  subst ha
  refine ⟨_, _, by rw [List.length_drop, hl], fun i x hi => ?_⟩
  rw [List.getElem?_drop] at hi
  have hil := (List.getElem?_eq_some_iff.1 hi).1
  obtain ⟨b, o, ha, hcell⟩ := hx _ _ hi
  refine ⟨b, o + k, ?_, by rw [Nat.add_assoc]; exact hcell⟩
  rw [if_neg (by omega), ha]
  simp [Addr.add]
theorem Mat.drop {h : Heap} {a : Option Addr} {n cap k : Nat} {M : List (List Int)} (H : Mat h (.slice a n cap) M) (hk : k ≤ n) (hc : n ≤ cap) :
    Mat h (.slice (if cap = k then a else a.map (·.add (k * 1))) (n - k) (cap - k)) (M.drop k) := by
  obtain ⟨rs, h1, h2, h3⟩ := H
  refine ⟨rs.drop k, h1.drop hk hc, by simp [h2], fun i r z hr hz => ?_⟩
  rw [List.getElem?_drop] at hr hz
  exact h3 _ r z hr hz
section
variable {P : Program} {B : Heap → Prop} {st : Bool} {ops : Array Oper} {rest : List Oper} {e : Env} {h : Heap} {K : Env → Heap → Prop}
variable {d : Nat} {ty : TypeId} {pos : String} {af : Array Edge}
end
end Go.QF


/-
  Rules for matrices of integers in the making, the heap named anew at each step. No condition.
-/
namespace Go.QF
open Go
set_option linter.unusedVariables false
/-- A matrix in the making whose blocks all lie from lo on. -/
def PartL (h : Heap) (er ei lo b : Nat) (gs : List Nat) (v : Value) (n : Nat) (Z : List (List Int)) : Prop := PartM h er ei b gs v n Z ∧ ∀ g ∈ b :: gs, lo ≤ g
theorem PartL.ext {h h' : Heap} {er ei lo b n : Nat} {gs : List Nat} {v : Value} {M : List (List Int)} (H : PartL h er ei lo b gs v n M) (he : Ext h h') : PartL h' er ei lo b gs v n M := ⟨H.1.ext he, H.2⟩
theorem PartL.mono {h : Heap} {er ei lo lo' b n : Nat} {gs : List Nat} {v : Value} {M : List (List Int)} (H : PartL h er ei lo b gs v n M) (hl : lo' ≤ lo) : PartL h er ei lo' b gs v n M := ⟨H.1, fun g hg => Nat.le_trans hl (H.2 g hg)⟩
theorem PartL.cap {h : Heap} {er ei lo b n : Nat} {gs : List Nat} {v : Value} {M : List (List Int)} (H : PartL h er ei lo b gs v n M) : CapOk v := let ⟨_, h1, _⟩ := H.1.top; h1.cap
theorem PartL.mat {h : Heap} {er ei lo b : Nat} {gs : List Nat} {v : Value} {M : List (List Int)} (H : PartL h er ei lo b gs v M.length M) : Mat h v M := OwnM.mat H.1
section
variable {P : Program} {B : Heap → Prop} {st : Bool} {ops : Array Oper} {rest : List Oper} {e : Env} {h : Heap} {K : Env → Heap → Prop}
variable {d : Nat} {ty : TypeId} {pos : String} {af : Array Edge}
end
end Go.QF


/-
  Plain: natural numbers as lists of 32-bit digits, and where they lie in memory. No condition.
-/
namespace Go.QF
open Go
set_option linter.unusedVariables false
def nv : List Nat → Nat
  | [] => 0
  | x :: l => x + 4294967296 * nv l
def Dig (L : List Nat) : Prop := ∀ x ∈ L, x < 4294967296
/-- No zero at the end. -/
def TL (L : List Nat) : Prop := ∀ x, L.getLast? = some x → x ≠ 0
theorem nv_append (l m : List Nat) : nv (l ++ m) = nv l + 4294967296 ^ l.length * nv m := by
  induction l with
  | nil => simp [nv]
  | cons x l ih => simp only [List.cons_append, nv, ih, List.length_cons, Nat.pow_succ]; grind
theorem nv_snoc (l : List Nat) (x : Nat) : nv (l ++ [x]) = nv l + 4294967296 ^ l.length * x := by rw [nv_append]; simp [nv]
theorem nv_lt {L : List Nat} (h : Dig L) : nv L < 4294967296 ^ L.length := by
  induction L with
  | nil => simp [nv]
  | cons x l ih =>
    have h1 := h x (List.mem_cons_self ..)
    have h2 := ih fun y hy => h y (List.mem_cons_of_mem _ hy)
    simp only [nv, List.length_cons, Nat.pow_succ]
    have h3 : 4294967296 * (nv l + 1) ≤ 4294967296 * 4294967296 ^ l.length := Nat.mul_le_mul_left _ h2
    rw [Nat.mul_comm (4294967296 ^ l.length)]
    rw [Nat.mul_add, Nat.mul_one] at h3
    omega
theorem dig_take {L : List Nat} (h : Dig L) (k : Nat) : Dig (L.take k) := fun x hx => h x (List.mem_of_mem_take hx)
theorem nv_zero_tl {L : List Nat} (h : TL L) (h0 : nv L = 0) : L = [] := by
  rcases List.eq_nil_or_concat L with rfl | ⟨l, x, rfl⟩
  · rfl
  · rw [List.concat_eq_append, nv_snoc] at h0
    have hx := h x (by simp)
    have : 0 < 4294967296 ^ l.length := Nat.pow_pos (by decide)
    have := Nat.mul_le_mul_left (4294967296 ^ l.length) (Nat.one_le_iff_ne_zero.2 hx)
    omega
theorem nv_ge {L : List Nat} (h : TL L) (hL : L ≠ []) : 4294967296 ^ (L.length - 1) ≤ nv L := by
  rcases List.eq_nil_or_concat L with rfl | ⟨l, x, rfl⟩
  · exact absurd rfl hL
  · have hx := h x (by simp)
    rw [List.concat_eq_append, nv_snoc]
    have h2 := Nat.mul_le_mul_left (4294967296 ^ l.length) (Nat.one_le_iff_ne_zero.2 hx)
    have h3 : (l ++ [x]).length - 1 = l.length := by simp
    rw [h3]; omega
def u32V (n : Nat) : Value := .int .u32 (n : Int)
/-- Digits in memory, from block lo on. -/
structure DS (h : Heap) (lo : Nat) (v : Value) (L : List Nat) : Prop where
  sl : Sl h v (L.map u32V)
  cap : CapOk v
  dig : Dig L
  lo : ∀ g, v.ownBlock = some g → lo ≤ g
  tg : ∀ g, v.ownBlock = some g → ∃ cur off, h[g]? = some (.cells cur 98 off)
theorem DS.ext {h h' : Heap} {lo : Nat} {v : Value} {L : List Nat} (H : DS h lo v L) (he : Ext h h') : DS h' lo v L := ⟨H.sl.ext he, H.cap, H.dig, H.lo, fun g hg => let ⟨cur, off, hx⟩ := H.tg g hg; ⟨cur, off, (he.2 g (Array.getElem?_eq_some_iff.1 hx).1).trans hx⟩⟩
theorem DS.updLo {b : Nat} {h h' : Heap} {lo : Nat} {v : Value} {L : List Nat} (H : DS h lo v L) (he : Upd (· = b) h h') (hb : b < lo) : DS h' lo v L :=
  ⟨H.sl.upd he (fun g hg hs => by have := H.lo g hg; have hs' : g = b := hs; omega), H.cap, H.dig, H.lo, fun g hg => let ⟨cur, off, hx⟩ := H.tg g hg; ⟨cur, off, (he.2 g (Array.getElem?_eq_some_iff.1 hx).1 (fun hs => by have := H.lo g hg; have hs' : g = b := hs; omega)).trans hx⟩⟩
theorem DS.mono {h : Heap} {lo lo' : Nat} {v : Value} {L : List Nat} (H : DS h lo v L) (hl : lo' ≤ lo) : DS h lo' v L := ⟨H.sl, H.cap, H.dig, fun g hg => Nat.le_trans hl (H.lo g hg), H.tg⟩
/-- A store into a block of another type. -/
theorem DS.updT {b el : Nat} {cur : Array Value} {off : Nat × Nat} {h h' : Heap} {lo : Nat} {v : Value} {L : List Nat} (H : DS h lo v L) (he : Upd (· = b) h h') (hb : h[b]? = some (.cells cur el off)) (hel : Nat.beq el 98 = false) : DS h' lo v L := by
  have hne : ∀ g, v.ownBlock = some g → g ≠ b := fun g hg hgb => by
    obtain ⟨cur', off', hx⟩ := H.tg g hg
    rw [hgb, hb] at hx
    injection hx with hx
    injection hx with _ hx _
    subst hx
    rw [Nat.beq_eq.mpr rfl] at hel
    cases hel
  exact ⟨H.sl.upd he (fun g hg => hne g hg), H.cap, H.dig, H.lo, fun g hg => let ⟨cur, off, hx⟩ := H.tg g hg; ⟨cur, off, (he.2 g (Array.getElem?_eq_some_iff.1 hx).1 (hne g hg)).trans hx⟩⟩
theorem CapOk.one {v : Value} (H : CapOk v) : isOne v = true := by
  obtain ⟨a, n, c, rfl, _⟩ := H; rfl
theorem one_Z {ng : Bool} {s : Value} (H : CapOk s) : ∀ u ∈ [Value.bool ng, s], isOne u = true := by
  intro u hu
  simp only [List.mem_cons, List.not_mem_nil, or_false] at hu
  rcases hu with rfl | rfl
  · rfl
  · exact H.one
theorem ds_nil (h : Heap) (lo : Nat) : DS h lo (.slice none 0 0) [] := ⟨by simpa using sl_nil h, capOk_nil, fun x hx => by simp at hx, fun g hg => (by cases hg), fun g hg => (by cases hg)⟩
theorem get_u32 {L : List Nat} {i x : Nat} (h : L[i]? = some x) : (L.map u32V)[i]? = some (u32V x) := by simp [h]
def sgn (neg : Bool) (n : Nat) : Int := if neg then -(n : Int) else n
theorem tl_nil : TL [] := fun x hx => by cases hx
theorem tl_len {L : List Nat} (h : TL L) {k : Nat} (hk : nv L < 4294967296 ^ k) : L.length ≤ k := by
  by_cases hL : L = []
  · subst hL; simp
  · have h1 := nv_ge h hL
    have h2 : 4294967296 ^ (L.length - 1) < 4294967296 ^ k := Nat.lt_of_le_of_lt h1 hk
    have := (Nat.pow_lt_pow_iff_right (by decide : 1 < 4294967296)).1 h2
    omega
/-- An Int in memory, canonical, of at most 100 digits. -/
structure ZV (h : Heap) (lo : Nat) (v : Value) (z : Int) : Prop where
  out : ∃ neg s L, v = .agg #[.bool neg, s] ∧ DS h lo s L ∧ TL L ∧ L.length ≤ 100 ∧ z = sgn neg (nv L)
theorem ZV.ext {h h' : Heap} {lo : Nat} {v : Value} {z : Int} (H : ZV h lo v z) (he : Ext h h') : ZV h' lo v z := by
  obtain ⟨n, s, L, h1, h2, h3⟩ := H.out
  exact ⟨n, s, L, h1, h2.ext he, h3⟩
theorem ZV.updLo {b : Nat} {h h' : Heap} {lo : Nat} {v : Value} {z : Int} (H : ZV h lo v z) (he : Upd (· = b) h h') (hb : b < lo) : ZV h' lo v z := by
  obtain ⟨n, s, L, h1, h2, h3⟩ := H.out
  exact ⟨n, s, L, h1, h2.updLo he hb, h3⟩
section
variable {P : Program} {B : Heap → Prop} {st : Bool} {ops : Array Oper} {rest : List Oper} {e : Env} {h : Heap} {K : Env → Heap → Prop}
variable {d : Nat} {ty : TypeId} {pos : String} {af : Array Edge}
/-- 's[:k]'. -/
theorem r_slToL {x y : Operand} {t el k : Nat} {v : Value} {l : List Value} {kk : IntKind} (hT : SlT P t el 1) (hx : e.ev x = v) (HS : Sl h v l) (hc : CapOk v) (hy : e.ev y = .int kk (k : Int)) (hk : k ≤ l.length)
    (H : ∀ v', Sl h v' (l.take k) → CapOk v' → v'.ownBlock = v.ownBlock → RL P B st ops rest (e.set d v') h K) :
    RL P B st ops (⟨some d, .slice t x none (some y) none, ty, pos, af, none⟩ :: rest) e h K := by
  obtain ⟨a, n, c, rfl, hnc⟩ := hc
  have hn : n = l.length := by
    obtain ⟨a', c', hv, _⟩ := HS
    injection hv with _ h2 _
  refine r_slTo hT hx hy (by omega) (H _ (HS.pre k hk c) ⟨_, _, _, rfl, by omega⟩ ?_)
  cases a <;> rfl
theorem r_lenD {x : Operand} {t el s lo : Nat} {v : Value} {L : List Nat} (hT : SlT P t el s) (hx : e.ev x = v) (HI : DS h lo v L) (H : RL P B st ops rest (e.set d (.int .i64 (L.length : Int))) h K) :
    RL P B st ops (⟨some d, .call ⟨.builtin .len, #[x], #[t]⟩, ty, pos, af, none⟩ :: rest) e h K := by
  refine r_lens hT hx HI.sl ?_
  rw [List.length_map]; exact H
theorem r_ixD {x i : Operand} {t el lo : Nat} {v : Value} {L : List Nat} {u : Nat} {k : IntKind} {n : Nat} (hT : SlT P t el 1) (hx : e.ev x = v) (HS : DS h lo v L) (hi : e.ev i = .int k (n : Int)) (hu : L[n]? = some u)
    (H : ∀ a, cellH h a = some (.int .u32 (u : Int)) → RL P B st ops rest (e.set d (.pointer (some a))) h K) : RL P B st ops (⟨some d, .indexAddr t x i, ty, pos, af, none⟩ :: rest) e h K :=
  r_ixs hT hx HS.sl hi (get_u32 hu) H
/-- 'make([]uint32, n)'. -/
theorem r_mkD {x y : Operand} {t el n bytes : Nat} (hT : SlT P t el 1) (hz : ZeT P el (.int .u32 0) bytes) (hbB : ∀ h', B h') (hx : e.ev x = .int .i64 (n : Int)) (hy : e.ev y = .int .i64 (n : Int)) (hby : bytes ≤ 1000) (hn : n ≤ 100000000)
    (H : ∀ g v h', OwnA h' el g v ((List.replicate n 0).map u32V) → Ext h h' → h.size ≤ g → g < h'.size → RL P B st ops rest (e.set d v) h' K) :
    RL P B st ops (⟨some d, .makeSlice t x y, ty, pos, af, none⟩ :: rest) e h K := by
  have h1 : bytes * n ≤ 1000 * 100000000 := Nat.mul_le_mul hby hn
  refine r_mk hT hz rfl (hbB _) hx hy (by omega) (by omega) ⟨hbB _, ?_⟩
  refine H h.size _ _ ?_ (ext_push _ _) (Nat.le_refl _) (by simp)
  rw [List.map_replicate]
  exact ownA_new h el n (.int .u32 0) (by unfold maxLen; omega)
/-- A digit is set. -/
theorem r_stD {x y : Operand} {t er g n u : Nat} {v : Value} {D : List Nat} (D' : List Nat) (ht : NaT P t) (hx : e.ev x = .pointer (some ⟨g, n, none⟩)) (hy : e.ev y = .int .u32 (u : Int)) (HO : OwnA h er g v (D.map u32V)) (hn : n < D.length) (hD : D.set n u = D')
    (H : ∀ h', OwnA h' er g v (D'.map u32V) → Upd (· = g) h h' → RL P B st ops rest e h' K) : RL P B st ops (⟨none, .store t x y, ty, pos, af, none⟩ :: rest) e h K := by
  have h2 := HO.set n (u32V u) (by simpa using hn)
  rw [← List.map_set, hD] at h2
  exact r_sto ht hx hy rfl HO (by simpa using hn) (H _ h2 (upd_set _ _ _))
/-! natural numbers in 64 bits -/
theorem r_addU {x y : Operand} {t t2 : TypeId} {a b : Nat} (hx : e.ev x = .int .u64 (a : Int)) (hy : e.ev y = .int .u64 (b : Int)) (h1 : a + b < 18446744073709551616) (H : RL P B st ops rest (e.set d (.int .u64 ((a + b : Nat) : Int))) h K) :
    RL P B st ops (⟨some d, .binOp .add t x y t2, ty, pos, af, none⟩ :: rest) e h K := by
  refine r_add hx hy ?_
  rw [show IntKind.u64.wrap ((a : Int) + (b : Int)) = ((a + b : Nat) : Int) by simp only [IntKind.wrap, IntKind.bits, IntKind.signed]; simp; omega]; exact H
theorem r_mulU {x y : Operand} {t t2 : TypeId} {a b : Nat} (hx : e.ev x = .int .u64 (a : Int)) (hy : e.ev y = .int .u64 (b : Int)) (h1 : a * b < 18446744073709551616) (H : RL P B st ops rest (e.set d (.int .u64 ((a * b : Nat) : Int))) h K) :
    RL P B st ops (⟨some d, .binOp .mul t x y t2, ty, pos, af, none⟩ :: rest) e h K := by
  refine r_mul hx hy ?_
  rw [show IntKind.u64.wrap ((a : Int) * (b : Int)) = ((a * b : Nat) : Int) by rw [← Int.natCast_mul]; simp only [IntKind.wrap, IntKind.bits, IntKind.signed]; simp; rw [← Int.natCast_mul]; omega]; exact H
theorem r_shr32 {x y : Operand} {t t2 : TypeId} {k : IntKind} {a : Nat} (hx : e.ev x = .int .u64 (a : Int)) (hy : e.ev y = .int k 32) (H : RL P B st ops rest (e.set d (.int .u64 ((a / 4294967296 : Nat) : Int))) h K) :
    RL P B st ops (⟨some d, .binOp .shr t x y t2, ty, pos, af, none⟩ :: rest) e h K := by
  refine r_shr (n := 32) hx hy (by decide) ?_
  rw [show (a : Int) / 2 ^ 32 = ((a / 4294967296 : Nat) : Int) by omega]; exact H
theorem r_up {x : Operand} {src dst : TypeId} {a : Nat} (hs : IntT P src .u32) (hd : IntT P dst .u64) (hx : e.ev x = .int .u32 (a : Int)) (ha : a < 4294967296) (H : RL P B st ops rest (e.set d (.int .u64 (a : Int))) h K) :
    RL P B st ops (⟨some d, .convert src dst x, ty, pos, af, none⟩ :: rest) e h K := by
  refine r_cv hs hd hx ?_
  rw [show IntKind.u64.wrap (a : Int) = (a : Int) by simp only [IntKind.wrap, IntKind.bits, IntKind.signed]; simp; omega]; exact H
theorem r_low {x : Operand} {src dst : TypeId} {a : Nat} (hs : IntT P src .u64) (hd : IntT P dst .u32) (hx : e.ev x = .int .u64 (a : Int)) (H : RL P B st ops rest (e.set d (.int .u32 ((a % 4294967296 : Nat) : Int))) h K) :
    RL P B st ops (⟨some d, .convert src dst x, ty, pos, af, none⟩ :: rest) e h K := by
  refine r_cv hs hd hx ?_
  rw [show IntKind.u32.wrap (a : Int) = ((a % 4294967296 : Nat) : Int) by simp only [IntKind.wrap, IntKind.bits, IntKind.signed]; simp]; exact H
/-- '[]T{..}' of one-cell elements. -/
theorem r_bsO {t el bytes n : Nat} {z : Value} {parts : List (Nat × Operand)} (l : List Value) (hT : SlT P t el 1) (hz : ZeT P el z bytes) (h1 : isOne z = true) (hbB : ∀ h', B h') (hn : l.length = n) (hn2 : n ≤ 1000000) (hpos : 0 < n) (hp : (parts.map fun (i, x) => (i, e.ev x)) = partsOf 0 l)
    (hone : ∀ u ∈ l, isOne u = true) (H : ∀ g v h', OwnA h' el g v l → Ext h h' → h.size ≤ g → g < h'.size → RL P B st ops rest (e.set d v) h' K) :
    RL P B st ops (⟨some d, .buildSlice t n parts.toArray, ty, pos, af, none⟩ :: rest) e h K := by
  subst hn
  refine r_bs l hT hz h1 (hbB _) rfl (by omega) hpos hp hone ⟨hbB _, ?_⟩
  exact H h.size _ _ (ownA_lit h el l (by unfold maxLen; omega)) (ext_push _ _) (Nat.le_refl _) (by simp)
end
theorem dig_snoc {D : List Nat} {u : Nat} (h : Dig D) (hu : u < 4294967296) : Dig (D ++ [u]) := by
  intro x hx
  rcases List.mem_append.1 hx with h1 | h1
  · exact h x h1
  · rw [List.mem_singleton.1 h1]; exact hu
theorem carry_step {i D c s S : Nat} (hD : D + 4294967296 ^ i * c = S) : D + 4294967296 ^ i * ((c + s) % 4294967296) + 4294967296 ^ (i + 1) * ((c + s) / 4294967296) = S + 4294967296 ^ i * s := by
  have h1 := Nat.mod_add_div (c + s) 4294967296
  have h2 : 4294967296 ^ i * (c + s) = 4294967296 ^ i * ((c + s) % 4294967296) + 4294967296 ^ (i + 1) * ((c + s) / 4294967296) := by
    conv => lhs; rw [← h1]
    rw [Nat.mul_add, Nat.pow_succ, Nat.mul_assoc]
  rw [Nat.mul_add] at h2
  omega
theorem OwnA.ds {h : Heap} {g lo : Nat} {v : Value} {L : List Nat} (H : OwnA h 98 g v (L.map u32V)) (hd : Dig L) (hl : lo ≤ g) : DS h lo v L :=
  ⟨H.sl, H.cap, hd, fun q hq => by rw [H.blk] at hq; injection hq with hq; omega, fun q hq => by
    rw [H.blk] at hq
    injection hq with hq
    subst hq
    obtain ⟨cap, cur, _, hg, _⟩ := H
    exact ⟨cur, (0, 0), hg⟩⟩
theorem or_u64 {P : Program} {a b : Nat} (ha : a < 18446744073709551616) (hb : b < 18446744073709551616) (w : World) : (Op.intBits .or .u64 (a : Int) (b : Int)).run P w = .ok (.int .u64 ((a ||| b : Nat) : Int)) w := by
  have h1 : (BitVec.ofInt 64 (a : Int)).toNat = a := by rw [BitVec.toNat_ofInt]; omega
  have h2 : (BitVec.ofInt 64 (b : Int)).toNat = b := by rw [BitVec.toNat_ofInt]; omega
  have h3 : a ||| b < 2 ^ 64 := Nat.or_lt_two_pow (by omega) (by omega)
  simp only [Op.intBits]
  show Result.ok (Value.int .u64 (IntKind.u64.wrap ((BitVec.ofInt 64 (a : Int) ||| BitVec.ofInt 64 (b : Int)).toNat : Int))) w = _
  rw [BitVec.toNat_or, h1, h2]
  have : IntKind.u64.wrap ((a ||| b : Nat) : Int) = ((a ||| b : Nat) : Int) := by
    simp only [IntKind.wrap, IntKind.bits, IntKind.signed]
    simp
    omega
  rw [this]
theorem or_add {a b i : Nat} (h : a < 2 ^ i) : a ||| 2 ^ i * b = a + 2 ^ i * b := by
  rw [Nat.or_comm, ← Nat.two_pow_add_eq_or_of_lt h, Nat.add_comm]
theorem nv_take_succ {L : List Nat} {i x : Nat} (h : L[i]? = some x) : nv (L.take (i + 1)) = nv (L.take i) + 4294967296 ^ i * x := by
  rw [← take_snoc h, nv_snoc, List.length_take, Nat.min_eq_left (by have := (List.getElem?_eq_some_iff.1 h).1; omega)]
theorem nv_take_lt {L : List Nat} (h : Dig L) {i : Nat} (hi : i ≤ L.length) : nv (L.take i) < 4294967296 ^ i := by
  have := nv_lt (dig_take h i)
  rwa [List.length_take, Nat.min_eq_left hi] at this
theorem nv_take_getD (L : List Nat) (i : Nat) : nv (L.take (i + 1)) = nv (L.take i) + 4294967296 ^ i * (L[i]?.getD 0) := by
  cases h : L[i]? with
  | some x => rw [nv_take_succ h]; rfl
  | none =>
    have := List.getElem?_eq_none_iff.1 h
    rw [List.take_of_length_le (by omega), List.take_of_length_le (by omega)]; simp
theorem borrow_step {i D c SA SB x y d c' : Nat} (hD : D + SB = SA + 4294967296 ^ i * c) (hd : d + y + c = x + 4294967296 * c') : D + 4294967296 ^ i * d + (SB + 4294967296 ^ i * y) = SA + 4294967296 ^ i * x + 4294967296 ^ (i + 1) * c' := by
  have h1 : 4294967296 ^ i * (d + y + c) = 4294967296 ^ i * (x + 4294967296 * c') := by rw [hd]
  rw [Nat.mul_add, Nat.mul_add, Nat.mul_add, ← Nat.mul_assoc, ← Nat.pow_succ] at h1
  have e : i.succ = i + 1 := rfl
  rw [e] at h1
  omega
theorem bb_pow (i : Nat) : 4294967296 ^ i = 2 ^ (32 * i) := by rw [Nat.pow_mul]
theorem wrap_u32 (a : Int) : IntKind.u32.wrap a = a % 4294967296 := by
  simp [IntKind.wrap, IntKind.bits, IntKind.signed]
theorem wrap_u64 (a : Int) : IntKind.u64.wrap a = a % 18446744073709551616 := by
  simp [IntKind.wrap, IntKind.bits, IntKind.signed]
end Go.QF


/-
  Plain and rules: digits of the reference's integers (quadformref01). No condition.
-/
namespace Go.QF
open Go
set_option linter.unusedVariables false
set_option linter.unusedSimpArgs false
section
variable {P : Program} {B : Heap → Prop} {st : Bool} {ops : Array Oper} {rest : List Oper} {e : Env} {h : Heap} {K : Env → Heap → Prop}
variable {d d' : Nat} {ty ty' : TypeId} {pos pos' : String} {af af' : Array Edge}
/-- 'append([]uint32(nil), m...)'. -/
theorem r_cpD {s x : Operand} {t bytes lo : Nat} {xv : Value} {L : List Nat} (hT : SlT P t 98 1) (hz : ZeT P 98 (.int .u32 0) bytes) (hbB : ∀ h', B h') (hs : e.ev s = .slice none 0 0) (hx : e.ev x = xv) (HX : DS h lo xv L) (hby : bytes ≤ 1000) (hn : L.length ≤ 100000000)
    (H : ∀ v' h', DS h' h.size v' L → Ext h h' → RL P B st ops rest (e.set d v') h' K) :
    RL P B st ops (⟨some d, .call ⟨.builtin .append, #[s, x], #[t, t]⟩, ty, pos, af, none⟩ :: rest) e h K := by
  by_cases hL : L = []
  · subst hL
    refine r_eff rfl rfl (hbB _) fun w hw => ?_
    subst hw
    obtain ⟨hu, i, hi, hs0⟩ := hT
    obtain ⟨xa, xc, hxe, _⟩ := HX.sl
    have hrun : (execOp e.ev ⟨some d, .call ⟨.builtin .append, #[s, x], #[t, t]⟩, ty, pos, af, none⟩).run P w = .ok (.value (.slice none 0 0)) w := by
      subst hxe
      have hc : (Builtin.firstCells i.size 0 (.slice xa 0 xc)).run P w = .ok #[] w := by
        cases xa with
        | none => exact run_firstCells_none (P := P) w _ 0 0 xc
        | some a => exact run_firstCells_some (P := P) w i.size 0 a 0 xc [] (by simp) (fun j v hj => by simp at hj)
      simp only [List.map_nil, List.length_nil] at hx
      simp [execOp, resolve, invoke, builtin, hs, hx, Builtin.append_, u_run hu, s_run hi, Builtin.lenOf, hc]
    rw [hrun]
    exact ⟨⟨rfl, rfl, rfl⟩, hbB _, H _ _ (ds_nil _ _) (Ext.refl _)⟩
  · have h1 : L.length * bytes ≤ 100000000 * 1000 := Nat.mul_le_mul hn hby
    refine r_app0 hT hz rfl (hbB _) hs hx HX.sl (fun u hu => by obtain ⟨y, _, rfl⟩ := List.mem_map.1 hu; rfl) (by simpa using hL) (by rw [List.length_map]; omega) (by rw [List.length_map]; omega) fun v' h' HO E => ⟨hbB _, H v' h' (HO.ds HX.dig (Nat.le_refl _)) E⟩
/-- 'out = append(out, x)', the list being the call's own. -/
theorem r_pushD {h0 : Heap} {s y : Operand} {t el bytes u : Nat} {v : Value} {D : List Nat} (hT : SlT P t el 1) (hz : ZeT P el (.int .u32 0) bytes) (hbB : ∀ h', B h') (hs : ∀ p, (e.set d p).ev s = v) (hy : e.ev y = .int .u32 (u : Int)) (E0 : Ext h0 h) (HG : Gro h el h0.size v (D.map u32V)) (hby : bytes ≤ 1000) (hl : D.length ≤ 100000000)
    (H : ∀ p v' h', Gro h' el h0.size v' ((D ++ [u]).map u32V) → Ext h0 h' → RL P B st ops rest ((e.set d p).set d' v') h' K) :
    RL P B st ops (⟨some d, .buildSlice t 1 #[(0, y)], ty, pos, af, none⟩ :: ⟨some d', .call ⟨.builtin .append, #[s, .tmp d], #[t, t]⟩, ty', pos', af', none⟩ :: rest) e h K := by
  refine r_push hT hz rfl hbB hs hy rfl HG E0.1 hby (by rw [List.length_map]; exact hl) fun p v' h' HG' U _ => ?_
  refine H p v' h' (by rw [List.map_append]; exact HG') (E0.thenUpd U fun k hk => ?_)
  exact (HG.blk k hk).1
end
theorem Gro.ds {h : Heap} {lo : Nat} {v : Value} {D : List Nat} (H : Gro h 98 lo v (D.map u32V)) (hd : Dig D) : DS h lo v D := by
  rcases H with ⟨h1, rfl⟩ | ⟨g, hg, HO⟩
  · have : D = [] := by simpa using h1
    subst this; exact ds_nil _ _
  · exact HO.ds hd hg
theorem tl_take {L : List Nat} {n x : Nat} (hx : L[n - 1]? = some x) (h0 : x ≠ 0) (hn : 0 < n) : TL (L.take n) := by
  intro y hy
  have hl := (List.getElem?_eq_some_iff.1 hx).1
  rw [List.getLast?_eq_getElem?, List.length_take, Nat.min_eq_left (by omega), List.getElem?_take_of_lt (by omega), hx] at hy
  injection hy with hy
  omega
theorem nv_set {L : List Nat} : ∀ {q x : Nat} (u : Nat), L[q]? = some x → nv (L.set q u) + 4294967296 ^ q * x = nv L + 4294967296 ^ q * u := by
  induction L with
  | nil => intro q x u h; simp at h
  | cons y L ih =>
    intro q x u h
    cases q with
    | zero => simp at h; subst h; simp [nv]; omega
    | succ q =>
      have h1 := ih u (q := q) (x := x) (by simpa using h)
      simp only [List.set_cons_succ, nv, Nat.pow_succ]
      have e1 : 4294967296 ^ q * 4294967296 * x = 4294967296 * (4294967296 ^ q * x) := by rw [Nat.mul_comm (4294967296 ^ q) 4294967296, Nat.mul_assoc]
      have e2 : 4294967296 ^ q * 4294967296 * u = 4294967296 * (4294967296 ^ q * u) := by rw [Nat.mul_comm (4294967296 ^ q) 4294967296, Nat.mul_assoc]
      rw [e1, e2]
      omega
theorem dig_set {L : List Nat} {q u : Nat} (h : Dig L) (hu : u < 4294967296) : Dig (L.set q u) := by
  intro x hx
  rcases List.mem_or_eq_of_mem_set hx with h1 | h1
  · exact h x h1
  · omega
/-- One digit of the product. -/
theorem mul_step {O O' V0 Pi c x y o i j u c' S : Nat} (hset : O' + 4294967296 ^ (i + j) * o = O + 4294967296 ^ (i + j) * u) (hinv : O + 4294967296 ^ (i + j) * c = V0 + 4294967296 ^ i * (x * S)) (ht : u + 4294967296 * c' = c + (x * y + o)) :
    O' + 4294967296 ^ (i + (j + 1)) * c' = V0 + 4294967296 ^ i * (x * (S + 4294967296 ^ j * y)) := by
  have e1 : 4294967296 ^ (i + (j + 1)) * c' = 4294967296 ^ (i + j) * (4294967296 * c') := by rw [← Nat.add_assoc, Nat.pow_succ, Nat.mul_assoc]
  have e2 : 4294967296 ^ (i + j) * (u + 4294967296 * c') = 4294967296 ^ (i + j) * (c + (x * y + o)) := by rw [ht]
  have e3 : 4294967296 ^ i * (x * (S + 4294967296 ^ j * y)) = 4294967296 ^ i * (x * S) + 4294967296 ^ (i + j) * (x * y) := by
    rw [Nat.mul_add, Nat.mul_add, Nat.pow_add]
    congr 1
    rw [Nat.mul_assoc (4294967296 ^ i)]
    congr 1
    rw [← Nat.mul_assoc, ← Nat.mul_assoc, Nat.mul_comm x]
  rw [e1, e3]
  rw [Nat.mul_add, Nat.mul_add, Nat.mul_add] at e2
  omega
theorem mul_bdZ {c x y o : Nat} (hc : c < 4294967296) (hx : x < 4294967296) (hy : y < 4294967296) (ho : o < 4294967296) : c + (x * y + o) < 18446744073709551616 := by
  have : x * y ≤ 4294967295 * 4294967295 := Nat.mul_le_mul (by omega) (by omega)
  omega
theorem getD_lt {L : List Nat} (h : Dig L) (i : Nat) : L[i]?.getD 0 < 4294967296 := by
  cases hq : L[i]? with
  | none => simp
  | some q => exact h q (List.mem_of_getElem? hq)
/-- One digit of twice a number. -/
theorem dbl_step {i D b S x u b' : Nat} (hD : D + 4294967296 ^ i * b = S) (hu : u + 4294967296 * b' = 2 * x + b) : D + 4294967296 ^ i * u + 4294967296 ^ (i + 1) * b' = S + 4294967296 ^ i * (2 * x) := by
  have e1 : 4294967296 ^ (i + 1) * b' = 4294967296 ^ i * (4294967296 * b') := by rw [Nat.pow_succ, Nat.mul_assoc]
  have e2 : 4294967296 ^ i * (u + 4294967296 * b') = 4294967296 ^ i * (2 * x + b) := by rw [hu]
  rw [Nat.mul_add, Nat.mul_add] at e2
  rw [e1]
  omega
/-! bits -/
theorem nv_div {L : List Nat} (h : Dig L) : ∀ {k x : Nat}, L[k]? = some x → nv L / 4294967296 ^ k % 4294967296 = x := by
  intro k x hx
  have hk := (List.getElem?_eq_some_iff.1 hx).1
  have e : nv L = nv (L.take k) + 4294967296 ^ k * nv (L.drop k) := by
    have := nv_append (L.take k) (L.drop k)
    rwa [List.take_append_drop, List.length_take, Nat.min_eq_left (by omega)] at this
  have hlt := nv_take_lt h (i := k) (by omega)
  rw [e, Nat.add_mul_div_left _ _ (Nat.pow_pos (by decide)), Nat.div_eq_of_lt hlt, Nat.zero_add]
  have hd : L.drop k = x :: L.drop (k + 1) := by
    rw [List.drop_eq_getElem_cons hk]
    congr 1
    exact (List.getElem?_eq_some_iff.1 hx).2
  rw [hd]
  simp only [nv]
  have := h x (List.mem_of_getElem? hx)
  omega
theorem pow_split (i : Nat) : (2 : Nat) ^ i = 4294967296 ^ (i / 32) * 2 ^ (i % 32) := by
  rw [bb_pow, ← Nat.pow_add]
  congr 1
  omega
/-- The bit i of a number in its digit. -/
theorem bit_dig {L : List Nat} (h : Dig L) {i x : Nat} (hx : L[i / 32]? = some x) : nv L / 2 ^ i % 2 = x / 2 ^ (i % 32) % 2 := by
  rw [← nv_div h hx, pow_split i, ← Nat.div_div_eq_div_mul]
  generalize nv L / 4294967296 ^ (i / 32) = y
  have hs : i % 32 < 32 := Nat.mod_lt _ (by decide)
  generalize i % 32 = s at hs
  -- the bit s of y and of y mod 2^32
  have h1 : y = y % 4294967296 + 2 ^ s * (2 * 2 ^ (31 - s) * (y / 4294967296)) := by
    have e : 2 ^ s * (2 * 2 ^ (31 - s)) = (4294967296 : Nat) := by
      rw [show (4294967296 : Nat) = 2 ^ 32 by decide, ← Nat.pow_succ', ← Nat.pow_add]
      congr 1
      omega
    rw [← Nat.mul_assoc, e]
    have := Nat.mod_add_div y 4294967296
    omega
  conv => lhs; rw [h1]
  rw [Nat.add_mul_div_left _ _ (Nat.pow_pos (by decide)), Nat.mul_assoc, Nat.add_mul_mod_self_left]
theorem dvd_dig {L : List Nat} (h : Dig L) {i x q : Nat} (hx : L[i / 32]? = some x) (hq : nv L = 2 ^ (i + 1) * q) : ∃ t, x = 2 ^ (i % 32 + 1) * t := by
  have h1 := nv_div h hx
  rw [hq, Nat.pow_succ, pow_split i] at h1
  rw [Nat.mul_assoc, Nat.mul_assoc, Nat.mul_div_cancel_left _ (Nat.pow_pos (by decide))] at h1
  have hs : i % 32 < 32 := Nat.mod_lt _ (by decide)
  generalize i % 32 = s at hs h1
  refine ⟨q % 2 ^ (31 - s), ?_⟩
  rw [← h1, ← Nat.mul_assoc, ← Nat.pow_succ, show (4294967296 : Nat) = 2 ^ (s + 1) * 2 ^ (31 - s) by rw [← Nat.pow_add, show s + 1 + (31 - s) = 32 by omega], Nat.mul_mod_mul_left]
theorem or_bit {t s : Nat} : 2 ^ (s + 1) * t ||| 2 ^ s = 2 ^ (s + 1) * t + 2 ^ s := by
  rw [← Nat.two_pow_add_eq_or_of_lt (Nat.pow_lt_pow_right (by decide) (by omega))]
theorem bit_fit {s t : Nat} (hs : s < 32) (h : 2 ^ (s + 1) * t < 4294967296) : 2 ^ (s + 1) * t + 2 ^ s < 4294967296 := by
  have e : 2 ^ (s + 1) * 2 ^ (31 - s) = (4294967296 : Nat) := by rw [← Nat.pow_add, show s + 1 + (31 - s) = 32 by omega]
  have h1 : t < 2 ^ (31 - s) := by
    rw [← e] at h
    exact Nat.lt_of_mul_lt_mul_left h
  have h2 : 2 ^ (s + 1) * (t + 1) ≤ 4294967296 := by rw [← e]; exact Nat.mul_le_mul_left _ h1
  rw [Nat.mul_add, Nat.mul_one] at h2
  have h3 : (2 : Nat) ^ s < 2 ^ (s + 1) := Nat.pow_lt_pow_right (by decide) (by omega)
  omega
/-- One bit of the division. -/
theorem div_step {N n i R : Nat} (hn : n ≠ 0) (hR : R = N / 2 ^ (i + 1) % n) : 2 * R + N / 2 ^ i % 2 = (2 * (N / 2 ^ (i + 1) % n) + N / 2 ^ i % 2) ∧
    (n ≤ 2 * R + N / 2 ^ i % 2 → N / 2 ^ i % n = 2 * R + N / 2 ^ i % 2 - n ∧ N / 2 ^ i / n = 2 * (N / 2 ^ (i + 1) / n) + 1) ∧ (2 * R + N / 2 ^ i % 2 < n → N / 2 ^ i % n = 2 * R + N / 2 ^ i % 2 ∧ N / 2 ^ i / n = 2 * (N / 2 ^ (i + 1) / n)) := by
  have e : N / 2 ^ (i + 1) = N / 2 ^ i / 2 := by rw [Nat.pow_succ, ← Nat.div_div_eq_div_mul]
  rw [e] at hR ⊢
  generalize N / 2 ^ i = y at *
  refine ⟨by rw [hR], fun h => ?_, fun h => ?_⟩
  · have h1 := Nat.div_add_mod (y / 2) n
    have h2 := Nat.mod_lt (y / 2) (Nat.pos_of_ne_zero hn)
    rw [← hR] at h1 h2
    generalize y / 2 / n = q at *
    have h3 : y = n * (2 * q + 1) + (2 * R + y % 2 - n) := by
      rw [Nat.mul_add, Nat.mul_one, Nat.mul_left_comm]
      omega
    have h4 : 2 * R + y % 2 - n < n := by omega
    generalize y % 2 = b at *
    generalize 2 * R + b - n = r at *
    subst h3
    exact ⟨by rw [Nat.mul_add_mod, Nat.mod_eq_of_lt h4], by rw [Nat.mul_add_div (Nat.pos_of_ne_zero hn), Nat.div_eq_of_lt h4, Nat.add_zero]⟩
  · have h1 := Nat.div_add_mod (y / 2) n
    rw [← hR] at h1
    generalize y / 2 / n = q at *
    have h3 : y = n * (2 * q) + (2 * R + y % 2) := by
      rw [Nat.mul_left_comm]
      omega
    generalize y % 2 = b at *
    generalize 2 * R + b = r at *
    subst h3
    exact ⟨by rw [Nat.mul_add_mod, Nat.mod_eq_of_lt h], by rw [Nat.mul_add_div (Nat.pos_of_ne_zero hn), Nat.div_eq_of_lt h, Nat.add_zero]⟩
theorem ZV.updT {b el : Nat} {cur : Array Value} {off : Nat × Nat} {h h' : Heap} {lo : Nat} {v : Value} {z : Int} (H : ZV h lo v z) (he : Upd (· = b) h h') (hb : h[b]? = some (.cells cur el off)) (hel : Nat.beq el 98 = false) : ZV h' lo v z := by
  obtain ⟨n, s, L, h1, h2, h3⟩ := H.out
  exact ⟨n, s, L, h1, h2.updT he hb hel, h3⟩
theorem ZV.mono {h : Heap} {lo lo' : Nat} {v : Value} {z : Int} (H : ZV h lo v z) (hl : lo' ≤ lo) : ZV h lo' v z := by
  obtain ⟨n, s, L, h1, h2, h3⟩ := H.out
  exact ⟨n, s, L, h1, h2.mono hl, h3⟩
end Go.QF


/-
  Data in memory by codecs: lists and matrices that are read or owned, footprints, steps of the heap. No condition.
-/
namespace Go.QF
open Go
set_option linter.unusedVariables false
set_option linter.unusedSimpArgs false
/-- A block that holds no digits. -/
def NotD (h : Heap) (b : Nat) : Prop := ∃ cur el off, h[b]? = some (.cells cur el off) ∧ Nat.beq el 98 = false
/-- A step of the heap: of the old blocks only those of F may change, and these hold no digits. -/
def UpT (F : List Nat) (h h' : Heap) : Prop := (h.size ≤ h'.size ∧ ∀ k, k < h.size → k ∉ F → h'[k]? = h[k]?) ∧ ∀ b ∈ F, b < h.size → NotD h b ∧ NotD h' b
theorem UpT.size {F : List Nat} {h h' : Heap} (H : UpT F h h') : h.size ≤ h'.size := H.1.1
theorem UpT.ext {h h' : Heap} (H : UpT [] h h') : Ext h h' := ⟨H.1.1, fun k hk => H.1.2 k hk (by simp)⟩
theorem Ext.upT {h h' : Heap} (H : Ext h h') : UpT [] h h' := ⟨⟨H.1, fun k hk _ => H.2 k hk⟩, fun b hb => by simp at hb⟩
theorem UpT.refl (h : Heap) : UpT [] h h := (Ext.refl h).upT
theorem NotD.of {F : List Nat} {h h' : Heap} {b : Nat} (H : NotD h b) (U : UpT F h h') : NotD h' b := by
  obtain ⟨cur, el, off, h1, h2⟩ := H
  have hb := (Array.getElem?_eq_some_iff.1 h1).1
  by_cases hm : b ∈ F
  · exact (U.2 b hm hb).2
  · exact ⟨cur, el, off, (U.1.2 b hb hm).trans h1, h2⟩
theorem UpT.refl' {F : List Nat} {h : Heap} (H : ∀ b ∈ F, b < h.size → NotD h b) : UpT F h h := ⟨⟨Nat.le_refl _, fun _ _ _ => rfl⟩, fun b hb hl => ⟨H b hb hl, H b hb hl⟩⟩
/-- Steps one after the other, the second at blocks of the first or at new ones. -/
theorem UpT.then {F G : List Nat} {a b c : Heap} (H : UpT F a b) (K : UpT G b c) (hG : ∀ x ∈ G, x ∈ F ∨ a.size ≤ x) : UpT F a c := by
  refine ⟨⟨Nat.le_trans H.1.1 K.1.1, fun k hk hF => ?_⟩, fun x hx hl => ⟨(H.2 x hx hl).1, (H.2 x hx hl).2.of K⟩⟩
  rw [K.1.2 k (Nat.lt_of_lt_of_le hk H.1.1) (fun hg => by rcases hG k hg with h1 | h1; exact hF h1; omega), H.1.2 k hk hF]
theorem UpT.trans {F G : List Nat} {a b c : Heap} (H : UpT F a b) (K : UpT G b c) (hG : ∀ x ∈ G, x < a.size → NotD a x) : UpT (F ++ G) a c := by
  refine ⟨⟨Nat.le_trans H.1.1 K.1.1, fun k hk hF => ?_⟩, fun x hx hl => ?_⟩
  · rw [List.mem_append] at hF
    rw [K.1.2 k (Nat.lt_of_lt_of_le hk H.1.1) (fun hg => hF (.inr hg)), H.1.2 k hk (fun hg => hF (.inl hg))]
  · rcases List.mem_append.1 hx with h1 | h1
    · exact ⟨(H.2 x h1 hl).1, (H.2 x h1 hl).2.of K⟩
    · exact ⟨hG x h1 hl, ((hG x h1 hl).of H).of K⟩
theorem UpT.mono {F G : List Nat} {a b : Heap} (H : UpT F a b) (hFG : ∀ x ∈ F, x ∈ G) (hG : ∀ x ∈ G, x < a.size → NotD a x) : UpT G a b :=
  ⟨⟨H.1.1, fun k hk hF => H.1.2 k hk fun h => hF (hFG k h)⟩, fun x hx hl => ⟨hG x hx hl, (hG x hx hl).of H⟩⟩
theorem Ext.thenT {F : List Nat} {a b c : Heap} (H : Ext a b) (K : UpT F b c) (hF : ∀ x ∈ F, a.size ≤ x) : Ext a c := (H.upT.then K fun x hx => .inr (hF x hx)).ext
theorem upT_of {F : List Nat} {g : Nat} {h h' : Heap} (U : Upd (· = g) h h') (hg : g ∈ F) (hF : ∀ b ∈ F, b < h.size → NotD h b) (hg' : NotD h' g) : UpT F h h' := by
  refine ⟨⟨U.1, fun k hk hF => U.2 k hk (fun he => hF (he ▸ hg))⟩, fun b hb hl => ⟨hF b hb hl, ?_⟩⟩
  by_cases he : b = g
  · exact he ▸ hg'
  · obtain ⟨cur, el, off, h1, h2⟩ := hF b hb hl
    exact ⟨cur, el, off, (U.2 b hl he).trans h1, h2⟩
theorem DS.upT {F : List Nat} {h h' : Heap} {lo : Nat} {v : Value} {L : List Nat} (H : DS h lo v L) (U : UpT F h h') : DS h' lo v L := by
  have hne : ∀ g, v.ownBlock = some g → g ∉ F := fun g hg hgF => by
    obtain ⟨cur', off', hx⟩ := H.tg g hg
    obtain ⟨⟨cur, el, off, hb, hel⟩, _⟩ := U.2 g hgF (Array.getElem?_eq_some_iff.1 hx).1
    rw [hb] at hx
    injection hx with hx
    injection hx with _ hx _
    subst hx
    rw [Nat.beq_eq.mpr rfl] at hel
    cases hel
  have he : Upd (· ∈ F) h h' := U.1
  exact ⟨H.sl.upd he (fun g hg => hne g hg), H.cap, H.dig, H.lo, fun g hg => let ⟨cur, off, hx⟩ := H.tg g hg; ⟨cur, off, (he.2 g (Array.getElem?_eq_some_iff.1 hx).1 (hne g hg)).trans hx⟩⟩
/-- An Int, as a value that no step changes. -/
def ZZ (h : Heap) (v : Value) (z : Int) : Prop := ZV h 0 v z
theorem ZV.zz {h : Heap} {lo : Nat} {v : Value} {z : Int} (H : ZV h lo v z) : ZZ h v z := H.mono (Nat.zero_le _)
theorem ZZ.upT {F : List Nat} {h h' : Heap} {v : Value} {z : Int} (H : ZZ h v z) (U : UpT F h h') : ZZ h' v z := by
  obtain ⟨n, s, L, h1, h2, h3⟩ := H.out
  exact ⟨n, s, L, h1, h2.upT U, h3⟩
/-- How a datum lies in cells. -/
structure Cod (α : Type) where
  k : Nat
  ag : Bool
  rep : Heap → α → List Value → Prop
  klen : ∀ {h a cs}, rep h a cs → cs.length = k
  one : ∀ {h a cs}, rep h a cs → ∀ u ∈ cs, isOne u = true
  upT : ∀ {F h h' a cs}, rep h a cs → UpT F h h' → rep h' a cs
  pos : 0 < k
  le : k ≤ 1000
  sc : ag = false → k = 1
def Cod.val {α : Type} (c : Cod α) (cs : List Value) : Value := bif c.ag then .agg cs.toArray else cs.headD undef
/-- Cells that hold plain values. -/
def cFlat {α : Type} (k : Nat) (ag : Bool) (f : α → List Value) (hk : ∀ a, (f a).length = k) (h1 : ∀ a, ∀ u ∈ f a, isOne u = true) (hp : 0 < k) (hl : k ≤ 1000) (hs : ag = false → k = 1) : Cod α where
  k := k
  ag := ag
  rep := fun _ a cs => cs = f a
  klen := fun h => h ▸ hk _
  one := fun h => h ▸ h1 _
  upT := fun h _ => h
  pos := hp
  le := hl
  sc := hs
def cI (κ : IntKind) : Cod Int := cFlat 1 false (fun a => [.int κ a]) (fun _ => rfl) (fun a u hu => by rw [List.mem_singleton.1 hu]; rfl) (by decide) (by decide) (fun _ => rfl)
/-- Ints of the integer packages. -/
def cZ : Cod Int where
  k := 2
  ag := true
  rep := fun h z cs => cs.length = 2 ∧ ZZ h (.agg cs.toArray) z
  klen := fun h => h.1
  one := fun {h a cs} H => by
    obtain ⟨hl, n, s, L, h1, h2, h3⟩ := H
    have : cs = [.bool n, s] := by
      injection h1 with h1
      have := congrArg Array.toList h1
      simpa using this
    subst this
    exact one_Z h2.cap
  upT := fun H U => ⟨H.1, H.2.upT U⟩
  pos := by decide
  le := by decide
  sc := fun h => by cases h
theorem ZZ.cs {h : Heap} {v : Value} {z : Int} (H : ZZ h v z) : ∃ cs, v = .agg cs.toArray ∧ cZ.rep h z cs := by
  have H' := H
  obtain ⟨n, s, L, rfl, h2, h3⟩ := H'.out
  exact ⟨[.bool n, s], rfl, rfl, H⟩
/-- A list of data and the cells of its elements. -/
def Al {α : Type} (c : Cod α) (h : Heap) (L : List α) (Ls : List (List Value)) : Prop := Ls.length = L.length ∧ ∀ (i : Nat) (cs : List Value) (a : α), Ls[i]? = some cs → L[i]? = some a → c.rep h a cs
theorem Al.upT {α : Type} {c : Cod α} {F : List Nat} {h h' : Heap} {L : List α} {Ls : List (List Value)} (H : Al c h L Ls) (U : UpT F h h') : Al c h' L Ls := ⟨H.1, fun i cs a h1 h2 => c.upT (H.2 i cs a h1 h2) U⟩
theorem al_nil {α : Type} (c : Cod α) (h : Heap) : Al c h [] [] := ⟨rfl, fun i cs a h1 => by simp at h1⟩
theorem Al.get {α : Type} {c : Cod α} {h : Heap} {L : List α} {Ls : List (List Value)} (H : Al c h L Ls) {i : Nat} {a : α} (ha : L[i]? = some a) : ∃ cs, Ls[i]? = some cs ∧ c.rep h a cs := by
  have hi := (List.getElem?_eq_some_iff.1 ha).1
  exact ⟨Ls[i]'(by rw [H.1]; exact hi), List.getElem?_eq_getElem _, H.2 i _ a (List.getElem?_eq_getElem _) ha⟩
theorem Al.push {α : Type} {c : Cod α} {h : Heap} {L : List α} {Ls : List (List Value)} (H : Al c h L Ls) {a : α} {cs : List Value} (hr : c.rep h a cs) : Al c h (L ++ [a]) (Ls ++ [cs]) := by
  refine ⟨by simp [H.1], fun i cs' a' h1 h2 => ?_⟩
  rcases Nat.lt_or_ge i L.length with hi | hi
  · rw [List.getElem?_append_left (by rw [H.1]; exact hi)] at h1
    rw [List.getElem?_append_left hi] at h2
    exact H.2 i cs' a' h1 h2
  · rw [List.getElem?_append_right (by rw [H.1]; exact hi), H.1] at h1
    rw [List.getElem?_append_right hi] at h2
    have : i - L.length = 0 := by have := (List.getElem?_eq_some_iff.1 h2).1; simp at this; omega
    rw [this] at h1 h2
    injection h1 with h1; injection h2 with h2
    subst h1; subst h2; exact hr
theorem Al.set {α : Type} {c : Cod α} {h : Heap} {L : List α} {Ls : List (List Value)} (H : Al c h L Ls) (n : Nat) {a : α} {cs : List Value} (hr : c.rep h a cs) : Al c h (L.set n a) (Ls.set n cs) := by
  refine ⟨by simp [H.1], fun i cs' a' h1 h2 => ?_⟩
  by_cases hi : n = i
  · subst hi
    have hn : n < L.length := by have := (List.getElem?_eq_some_iff.1 h2).1; simpa using this
    rw [List.getElem?_set_self (by rw [H.1]; exact hn)] at h1
    rw [List.getElem?_set_self hn] at h2
    injection h1 with h1; injection h2 with h2
    subst h1; subst h2; exact hr
  · rw [List.getElem?_set_ne hi] at h1 h2
    exact H.2 i cs' a' h1 h2
theorem al_rep {α : Type} {c : Cod α} {h : Heap} {a : α} {cs : List Value} (hr : c.rep h a cs) (n : Nat) : Al c h (List.replicate n a) (List.replicate n cs) := by
  refine ⟨by simp, fun i cs' a' h1 h2 => ?_⟩
  rw [List.eq_of_mem_replicate (List.mem_of_getElem? h1), List.eq_of_mem_replicate (List.mem_of_getElem? h2)]
  exact hr
/-! lists that are read -/
def SlC {α : Type} (c : Cod α) (h : Heap) (v : Value) (L : List α) : Prop := ∃ Ls, SlK h c.k v Ls ∧ Al c h L Ls
theorem SlC.ext {α : Type} {c : Cod α} {h h' : Heap} {v : Value} {L : List α} (H : SlC c h v L) (E : Ext h h') : SlC c h' v L := by
  obtain ⟨Ls, h1, h2⟩ := H
  exact ⟨Ls, h1.ext E, h2.upT E.upT⟩
theorem slC_nil {α : Type} (c : Cod α) (h : Heap) : SlC c h (.slice none 0 0) [] := ⟨[], slK_nil h c.k, al_nil c h⟩
/-- Matrices that are read. -/
def SlC2 {α : Type} (c : Cod α) (h : Heap) (v : Value) (M : List (List α)) : Prop := ∃ rs : List Value, SlK h 1 v (rs.map fun r => [r]) ∧ rs.length = M.length ∧ ∀ (i : Nat) (r : Value) (L : List α), rs[i]? = some r → M[i]? = some L → SlC c h r L
theorem SlC2.ext {α : Type} {c : Cod α} {h h' : Heap} {v : Value} {M : List (List α)} (H : SlC2 c h v M) (E : Ext h h') : SlC2 c h' v M := by
  obtain ⟨rs, h1, h2, h3⟩ := H
  exact ⟨rs, h1.ext E, h2, fun i r L hr hL => (h3 i r L hr hL).ext E⟩
/-! lists that are owned -/
def OwC {α : Type} (c : Cod α) (el : Nat) (h : Heap) (F : List Nat) (v : Value) (L : List α) : Prop :=
  (L = [] ∧ v = .slice none 0 0 ∧ F = []) ∨ ∃ g Ls, F = [g] ∧ OwnK h el c.k g v Ls ∧ Al c h L Ls ∧ Nat.beq el 98 = false
theorem owC_nil {α : Type} (c : Cod α) (el : Nat) (h : Heap) : OwC c el h [] (.slice none 0 0) [] := .inl ⟨rfl, rfl, rfl⟩
theorem OwC.upT {α : Type} {c : Cod α} {el : Nat} {h h' : Heap} {F G : List Nat} {v : Value} {L : List α} (H : OwC c el h F v L) (U : UpT G h h') (hd : ∀ b ∈ F, b ∉ G) : OwC c el h' F v L := by
  rcases H with ⟨h1, h2, h3⟩ | ⟨g, Ls, rfl, h2, h3, h4⟩
  · exact .inl ⟨h1, h2, h3⟩
  · exact .inr ⟨g, Ls, rfl, h2.upd (S := (· ∈ G)) U.1 (hd g (by simp)), h3.upT U, h4⟩
theorem OwC.ext {α : Type} {c : Cod α} {el : Nat} {h h' : Heap} {F : List Nat} {v : Value} {L : List α} (H : OwC c el h F v L) (E : Ext h h') : OwC c el h' F v L := H.upT E.upT fun b _ => by simp
theorem OwC.rd {α : Type} {c : Cod α} {el : Nat} {h : Heap} {F : List Nat} {v : Value} {L : List α} (H : OwC c el h F v L) : SlC c h v L := by
  rcases H with ⟨rfl, rfl, _⟩ | ⟨g, Ls, rfl, h2, h3, _⟩
  · exact slC_nil c h
  · exact ⟨Ls, h2.sl, h3⟩
theorem OwC.lt {α : Type} {c : Cod α} {el : Nat} {h : Heap} {F : List Nat} {v : Value} {L : List α} (H : OwC c el h F v L) : ∀ b ∈ F, b < h.size := by
  rcases H with ⟨rfl, rfl, rfl⟩ | ⟨g, Ls, rfl, h2, h3, _⟩
  · intro b hb; simp at hb
  · intro b hb; rw [List.mem_singleton.1 hb]; exact h2.lt
theorem OwnK.notD {h : Heap} {el k g : Nat} {v : Value} {L : List (List Value)} (H : OwnK h el k g v L) (hel : Nat.beq el 98 = false) : NotD h g := by
  obtain ⟨cap, cur, _, hg, _⟩ := H; exact ⟨cur, el, _, hg, hel⟩
theorem OwC.notD {α : Type} {c : Cod α} {el : Nat} {h : Heap} {F : List Nat} {v : Value} {L : List α} (H : OwC c el h F v L) : ∀ b ∈ F, NotD h b := by
  rcases H with ⟨rfl, rfl, rfl⟩ | ⟨g, Ls, rfl, h2, h3, h4⟩
  · intro b hb; simp at hb
  · intro b hb; rw [List.mem_singleton.1 hb]; exact h2.notD h4
theorem OwC.nodup {α : Type} {c : Cod α} {el : Nat} {h : Heap} {F : List Nat} {v : Value} {L : List α} (H : OwC c el h F v L) : F.Nodup := by
  rcases H with ⟨rfl, rfl, rfl⟩ | ⟨g, Ls, rfl, _⟩ <;> simp
theorem OwC.isOne {α : Type} {c : Cod α} {el : Nat} {h : Heap} {F : List Nat} {v : Value} {L : List α} (H : OwC c el h F v L) : isOne v = true := by
  rcases H with ⟨rfl, rfl, rfl⟩ | ⟨g, Ls, rfl, ⟨cap, cur, rfl, _⟩, _⟩ <;> rfl
/-- Matrices that are owned: the blocks of the rows, the rows' values. -/
def OwC2 {α : Type} (c : Cod α) (er el : Nat) (h : Heap) (F : List Nat) (Gs : List (List Nat)) (rs : List Value) (v : Value) (M : List (List α)) : Prop :=
  (M = [] ∧ v = .slice none 0 0 ∧ F = [] ∧ Gs = [] ∧ rs = []) ∨ ∃ b, F = b :: Gs.flatten ∧ F.Nodup ∧ OwnK h er 1 b v (rs.map fun r => [r]) ∧ Nat.beq er 98 = false ∧ rs.length = M.length ∧ Gs.length = M.length ∧
    ∀ (i : Nat) (G : List Nat) (r : Value) (L : List α), Gs[i]? = some G → rs[i]? = some r → M[i]? = some L → OwC c el h G r L
theorem owC2_nil {α : Type} (c : Cod α) (er el : Nat) (h : Heap) : OwC2 c er el h [] [] [] (.slice none 0 0) [] := .inl ⟨rfl, rfl, rfl, rfl, rfl⟩
theorem mem_flat {Gs : List (List Nat)} {i x : Nat} {G : List Nat} (h : Gs[i]? = some G) (hx : x ∈ G) : x ∈ Gs.flatten := List.mem_flatten.2 ⟨G, List.mem_of_getElem? h, hx⟩
theorem OwC2.upT {α : Type} {c : Cod α} {er el : Nat} {h h' : Heap} {F Q : List Nat} {Gs : List (List Nat)} {rs : List Value} {v : Value} {M : List (List α)} (H : OwC2 c er el h F Gs rs v M) (U : UpT Q h h') (hd : ∀ b ∈ F, b ∉ Q) : OwC2 c er el h' F Gs rs v M := by
  rcases H with H | ⟨b, rfl, hn, h2, h3, h4, h5, h6⟩
  · exact .inl H
  · exact .inr ⟨b, rfl, hn, h2.upd (S := (· ∈ Q)) U.1 (hd b (by simp)), h3, h4, h5, fun i G r L hG hr hL => (h6 i G r L hG hr hL).upT U fun x hx => hd x (List.mem_cons_of_mem _ (mem_flat hG hx))⟩
theorem OwC2.ext {α : Type} {c : Cod α} {er el : Nat} {h h' : Heap} {F : List Nat} {Gs : List (List Nat)} {rs : List Value} {v : Value} {M : List (List α)} (H : OwC2 c er el h F Gs rs v M) (E : Ext h h') : OwC2 c er el h' F Gs rs v M := H.upT E.upT fun b _ => by simp
theorem OwC2.rd {α : Type} {c : Cod α} {er el : Nat} {h : Heap} {F : List Nat} {Gs : List (List Nat)} {rs : List Value} {v : Value} {M : List (List α)} (H : OwC2 c er el h F Gs rs v M) : SlC2 c h v M := by
  rcases H with ⟨rfl, rfl, rfl, rfl, rfl⟩ | ⟨b, rfl, hn, h2, h3, h4, h5, h6⟩
  · exact ⟨[], slK_nil h 1, rfl, fun i r L hr => by simp at hr⟩
  · refine ⟨rs, h2.sl, h4, fun i r L hr hL => ?_⟩
    have hi := (List.getElem?_eq_some_iff.1 hL).1
    exact (h6 i (Gs[i]'(by omega)) r L (List.getElem?_eq_getElem _) hr hL).rd
theorem OwC2.notD {α : Type} {c : Cod α} {er el : Nat} {h : Heap} {F : List Nat} {Gs : List (List Nat)} {rs : List Value} {v : Value} {M : List (List α)} (H : OwC2 c er el h F Gs rs v M) : ∀ b ∈ F, NotD h b := by
  rcases H with ⟨rfl, rfl, rfl, rfl, rfl⟩ | ⟨b, rfl, hn, h2, h3, h4, h5, h6⟩
  · intro b hb; simp at hb
  · intro x hx
    rcases List.mem_cons.1 hx with rfl | hx
    · exact h2.notD h3
    · obtain ⟨G, hG, hxG⟩ := List.mem_flatten.1 hx
      obtain ⟨i, hi⟩ := List.getElem?_of_mem hG
      have hil := (List.getElem?_eq_some_iff.1 hi).1
      exact (h6 i G (rs[i]'(by omega)) (M[i]'(by omega)) hi (List.getElem?_eq_getElem _) (List.getElem?_eq_getElem _)).notD x hxG
theorem NotD.lt {h : Heap} {b : Nat} (H : NotD h b) : b < h.size := by
  obtain ⟨cur, el, off, h1, _⟩ := H; exact (Array.getElem?_eq_some_iff.1 h1).1
theorem OwC2.lt {α : Type} {c : Cod α} {er el : Nat} {h : Heap} {F : List Nat} {Gs : List (List Nat)} {rs : List Value} {v : Value} {M : List (List α)} (H : OwC2 c er el h F Gs rs v M) : ∀ b ∈ F, b < h.size := fun b hb => (H.notD b hb).lt
theorem OwC2.nodup {α : Type} {c : Cod α} {er el : Nat} {h : Heap} {F : List Nat} {Gs : List (List Nat)} {rs : List Value} {v : Value} {M : List (List α)} (H : OwC2 c er el h F Gs rs v M) : F.Nodup := by
  rcases H with ⟨rfl, rfl, rfl, rfl, rfl⟩ | ⟨b, rfl, hn, _⟩
  · simp
  · exact hn
theorem OwC2.isOne {α : Type} {c : Cod α} {er el : Nat} {h : Heap} {F : List Nat} {Gs : List (List Nat)} {rs : List Value} {v : Value} {M : List (List α)} (H : OwC2 c er el h F Gs rs v M) : isOne v = true := by
  rcases H with ⟨rfl, rfl, rfl, rfl, rfl⟩ | ⟨b, rfl, hn, ⟨cap, cur, rfl, _⟩, _⟩ <;> rfl
/-- A row of an owned matrix. -/
theorem OwC2.row {α : Type} {c : Cod α} {er el : Nat} {h : Heap} {F : List Nat} {Gs : List (List Nat)} {rs : List Value} {v : Value} {M : List (List α)} (H : OwC2 c er el h F Gs rs v M) {i : Nat} {r : Value} {L : List α} (hr : rs[i]? = some r) (hL : M[i]? = some L) : ∃ G, Gs[i]? = some G ∧ OwC c el h G r L ∧ ∀ x ∈ G, x ∈ F := by
  rcases H with ⟨rfl, rfl, rfl, rfl, rfl⟩ | ⟨b, rfl, hn, h2, h3, h4, h5, h6⟩
  · simp at hL
  · have hi := (List.getElem?_eq_some_iff.1 hL).1
    exact ⟨Gs[i]'(by omega), List.getElem?_eq_getElem _, h6 i _ r L (List.getElem?_eq_getElem _) hr hL, fun x hx => List.mem_cons_of_mem _ (mem_flat (List.getElem?_eq_getElem _) hx)⟩
theorem OwC2.rowRd {α : Type} {c : Cod α} {er el : Nat} {h : Heap} {F : List Nat} {Gs : List (List Nat)} {rs : List Value} {v : Value} {M : List (List α)} (H : OwC2 c er el h F Gs rs v M) {i : Nat} {r : Value} {L : List α} (hr : rs[i]? = some r) (hL : M[i]? = some L) : SlC c h r L := let ⟨_, _, h1, _⟩ := H.row hr hL; h1.rd
theorem boxNotD {t : Nat} {h : Heap} {b : Nat} {l : List Value} (H : BoxH t h b l) (ht : Nat.beq t 98 = false) : NotD h b := ⟨_, _, _, H, ht⟩
theorem BoxH.upT {t : Nat} {h h' : Heap} {b : Nat} {G : List Nat} {l : List Value} (H : BoxH t h b l) (U : UpT G h h') (hd : ∀ x ∈ [b], x ∉ G) : BoxH t h' b l := H.upd (S := (· ∈ G)) U.1 (hd b (by simp))
/-! footprints -/
/-- Footprints apart from each other, from lo on. -/
def Sp (h : Heap) (lo : Nat) (Fs : List (List Nat)) : Prop := Fs.flatten.Nodup ∧ ∀ b ∈ Fs.flatten, lo ≤ b ∧ b < h.size
theorem sp_nil (h : Heap) (lo : Nat) : Sp h lo [] := ⟨by simp, fun b hb => by simp at hb⟩
theorem Sp.keep {h h' : Heap} {lo : Nat} {Fs : List (List Nat)} (S : Sp h lo Fs) (hs : h.size ≤ h'.size) : Sp h' lo Fs := ⟨S.1, fun b hb => ⟨(S.2 b hb).1, Nat.lt_of_lt_of_le (S.2 b hb).2 hs⟩⟩
theorem Sp.mono {h : Heap} {lo lo' : Nat} {Fs : List (List Nat)} (S : Sp h lo Fs) (hl : lo' ≤ lo) : Sp h lo' Fs := ⟨S.1, fun b hb => ⟨Nat.le_trans hl (S.2 b hb).1, (S.2 b hb).2⟩⟩
theorem Sp.app {h h' : Heap} {lo : Nat} {Fs Ks : List (List Nat)} (S : Sp h lo Fs) (S' : Sp h' h.size Ks) (hs : h.size ≤ h'.size) (hl : lo ≤ h.size) : Sp h' lo (Fs ++ Ks) := by
  refine ⟨?_, fun b hb => ?_⟩
  · rw [List.flatten_append]
    refine List.nodup_append.2 ⟨S.1, S'.1, fun x hx y hy he => ?_⟩
    have h1 := (S.2 x hx).2
    have h2 := (S'.2 y hy).1
    omega
  · rw [List.flatten_append] at hb
    rcases List.mem_append.1 hb with h1 | h1
    · exact ⟨(S.2 b h1).1, Nat.lt_of_lt_of_le (S.2 b h1).2 hs⟩
    · exact ⟨Nat.le_trans hl (S'.2 b h1).1, (S'.2 b h1).2⟩
theorem sp_one {h h' : Heap} {b : Nat} (h1 : h.size ≤ b) (h2 : b < h'.size) : Sp h' h.size [[b]] := ⟨by simp, fun x hx => by simp at hx; omega⟩
theorem Sp.lo {h : Heap} {lo : Nat} {Fs : List (List Nat)} (S : Sp h lo Fs) (i : Nat) {F : List Nat} (hi : Fs[i]? = some F) : ∀ b ∈ F, lo ≤ b ∧ b < h.size := fun b hb => S.2 b (mem_flat hi hb)
theorem dj_of {Fs : List (List Nat)} : ∀ {i j : Nat} {F G : List Nat}, Fs.flatten.Nodup → Fs[i]? = some F → Fs[j]? = some G → i ≠ j → ∀ b ∈ F, b ∉ G := by
  induction Fs with
  | nil => intro i j F G _ h; simp at h
  | cons K Fs ih =>
    intro i j F G hn hi hj hij b hb hg
    rw [List.flatten_cons] at hn
    obtain ⟨h1, h2, h3⟩ := List.nodup_append.1 hn
    cases i with
    | zero =>
      cases j with
      | zero => exact hij rfl
      | succ j =>
        simp at hi hj; subst hi
        exact h3 b hb b (mem_flat hj hg) rfl
    | succ i =>
      cases j with
      | zero =>
        simp at hi hj; subst hj
        exact h3 b hg b (mem_flat hi hb) rfl
      | succ j => exact ih h2 (by simpa using hi) (by simpa using hj) (by omega) b hb hg
theorem Sp.dj {h : Heap} {lo : Nat} {Fs : List (List Nat)} (S : Sp h lo Fs) (i j : Nat) {F G : List Nat} (hi : Fs[i]? = some F) (hj : Fs[j]? = some G) (hij : i ≠ j) : ∀ b ∈ F, b ∉ G := dj_of S.1 hi hj hij
theorem mem_set_flat {Fs : List (List Nat)} : ∀ {i x : Nat} {F : List Nat}, x ∈ (Fs.set i F).flatten → x ∈ F ∨ ∃ j G, j ≠ i ∧ Fs[j]? = some G ∧ x ∈ G := by
  induction Fs with
  | nil => intro i x F h; simp at h
  | cons K Fs ih =>
    intro i x F h
    cases i with
    | zero =>
      rw [List.set_cons_zero, List.flatten_cons] at h
      rcases List.mem_append.1 h with h | h
      · exact .inl h
      · obtain ⟨G, hG, hx⟩ := List.mem_flatten.1 h
        obtain ⟨j, hj⟩ := List.getElem?_of_mem hG
        exact .inr ⟨j + 1, G, by omega, by simpa using hj, hx⟩
    | succ i =>
      rw [List.set_cons_succ, List.flatten_cons] at h
      rcases List.mem_append.1 h with h | h
      · exact .inr ⟨0, K, by omega, rfl, h⟩
      · rcases ih h with h1 | ⟨j, G, h1, h2, h3⟩
        · exact .inl h1
        · exact .inr ⟨j + 1, G, by omega, by simpa using h2, h3⟩
theorem nodup_set_flat {Fs : List (List Nat)} : ∀ {i : Nat} {F : List Nat}, Fs.flatten.Nodup → F.Nodup → (∀ x ∈ F, ∀ j G, j ≠ i → Fs[j]? = some G → x ∉ G) → (Fs.set i F).flatten.Nodup := by
  induction Fs with
  | nil => intro i F h1 h2 h3; simp
  | cons K Fs ih =>
    intro i F hn hF hd
    rw [List.flatten_cons] at hn
    obtain ⟨h1, h2, h3⟩ := List.nodup_append.1 hn
    cases i with
    | zero =>
      rw [List.set_cons_zero, List.flatten_cons]
      refine List.nodup_append.2 ⟨hF, h2, fun x hx y hy he => ?_⟩
      obtain ⟨G, hG, hy⟩ := List.mem_flatten.1 hy
      obtain ⟨j, hj⟩ := List.getElem?_of_mem hG
      exact hd x hx (j + 1) G (by omega) (by simpa using hj) (he ▸ hy)
    | succ i =>
      rw [List.set_cons_succ, List.flatten_cons]
      refine List.nodup_append.2 ⟨h1, ih h2 hF (fun x hx j G hj hG => hd x hx (j + 1) G (by omega) (by simpa using hG)), fun x hx y hy he => ?_⟩
      rcases mem_set_flat hy with h4 | ⟨j, G, hj, hG, hy⟩
      · exact hd y h4 0 K (by omega) rfl (he ▸ hx)
      · exact h3 x hx y (mem_flat hG hy) he
/-- The i-th footprint is replaced by parts of it and new blocks. -/
theorem Sp.put {h h' : Heap} {lo : Nat} {Fs : List (List Nat)} (S : Sp h lo Fs) (i : Nat) {F F' : List Nat} (hi : Fs[i]? = some F) (hn : F'.Nodup) (hs : h.size ≤ h'.size) (hl : lo ≤ h.size) (hF : ∀ x ∈ F', x < h'.size) (hsub : ∀ x ∈ F', x ∈ F ∨ h.size ≤ x) : Sp h' lo (Fs.set i F') := by
  refine ⟨nodup_set_flat S.1 hn fun x hx j G hj hG hxG => ?_, fun b hb => ?_⟩
  · rcases hsub x hx with h1 | h1
    · exact S.dj i j hi hG (fun he => hj he.symm) x h1 hxG
    · have := (S.lo j hG x hxG).2; omega
  · rcases mem_set_flat hb with h1 | ⟨j, G, hj, hG, hb⟩
    · refine ⟨?_, hF b h1⟩
      rcases hsub b h1 with h2 | h2
      · exact (S.lo i hi b h2).1
      · omega
    · have := S.lo j hG b hb
      exact ⟨this.1, by omega⟩
/-- Some of the footprints, in any order. -/
theorem Sp.sel {h : Heap} {lo : Nat} {Fs : List (List Nat)} (S : Sp h lo Fs) (is : List Nat) (hn : is.Nodup) : Sp h lo (is.map fun i => (Fs[i]?).getD []) := by
  have key : ∀ is : List Nat, is.Nodup → (is.map fun i => (Fs[i]?).getD []).flatten.Nodup ∧ ∀ b ∈ (is.map fun i => (Fs[i]?).getD []).flatten, ∃ i F, i ∈ is ∧ Fs[i]? = some F ∧ b ∈ F := by
    intro is
    induction is with
    | nil => intro _; exact ⟨by simp, fun b hb => by simp at hb⟩
    | cons i is ih =>
      intro hn
      obtain ⟨hni, hn⟩ := List.nodup_cons.1 hn
      obtain ⟨h1, h2⟩ := ih hn
      cases hi : Fs[i]? with
      | none =>
        simp only [List.map_cons, hi, Option.getD_none, List.flatten_cons, List.nil_append]
        exact ⟨h1, fun b hb => let ⟨j, F, hj, hF⟩ := h2 b hb; ⟨j, F, List.mem_cons_of_mem _ hj, hF⟩⟩
      | some F =>
        simp only [List.map_cons, hi, Option.getD_some, List.flatten_cons]
        refine ⟨List.nodup_append.2 ⟨?_, h1, fun x hx y hy he => ?_⟩, fun b hb => ?_⟩
        · obtain ⟨s, t, hst⟩ := List.append_of_mem (List.mem_of_getElem? hi)
          have := S.1
          rw [hst, List.flatten_append, List.flatten_cons] at this
          exact (List.nodup_append.1 (List.nodup_append.1 this).2.1).1
        · obtain ⟨j, G, hj, hG, hy⟩ := h2 y hy
          exact S.dj i j hi hG (fun h => hni (h ▸ hj)) x hx (he ▸ hy)
        · rcases List.mem_append.1 hb with hb | hb
          · exact ⟨i, F, List.mem_cons_self .., hi, hb⟩
          · obtain ⟨j, F, hj, hF⟩ := h2 b hb
            exact ⟨j, F, List.mem_cons_of_mem _ hj, hF⟩
  obtain ⟨h1, h2⟩ := key is hn
  exact ⟨h1, fun b hb => let ⟨i, F, _, hF, hbF⟩ := h2 b hb; S.lo i hF b hbF⟩
/-- Two footprints become one, the first of the list. -/
theorem Sp.mrg {h : Heap} {lo : Nat} {F G : List Nat} {Fs : List (List Nat)} (S : Sp h lo (F :: G :: Fs)) : Sp h lo ((F ++ G) :: Fs) := by
  obtain ⟨h1, h2⟩ := S
  simp only [List.flatten_cons] at h1 h2
  exact ⟨by simpa using h1, fun b hb => h2 b (by simpa using hb)⟩
/-! loops, plain -/
def iter {S E : Type} (body : S → Option (S ⊕ E)) : Nat → S → Option E
  | 0, _ => none
  | n + 1, s => match body s with
    | none => none
    | some (.inl s') => iter body n s'
    | some (.inr e) => some e
def IterR {S E : Type} (body : S → Option (S ⊕ E)) (n : Nat) (ex : E) : S ⊕ E → Prop
  | .inl s' => iter body n s' = some ex
  | .inr e => e = ex
theorem iter_step {S E : Type} {body : S → Option (S ⊕ E)} {n : Nat} {s : S} {ex : E} (H : iter body n s = some ex) : ∃ k r, n = k + 1 ∧ body s = some r ∧ IterR body k ex r := by
  cases n with
  | zero => cases H
  | succ k =>
    rw [iter] at H
    cases hb : body s with
    | none => rw [hb] at H; cases H
    | some r =>
      rw [hb] at H
      refine ⟨k, r, rfl, rfl, ?_⟩
      cases r with
      | inl s' => exact H
      | inr e => exact Option.some.inj H
theorem obind {α β : Type} {o : Option α} {f : α → Option β} {r : β} (H : o.bind f = some r) : ∃ x, o = some x ∧ f x = some r := by
  cases o with
  | none => cases H
  | some x => exact ⟨x, rfl, H⟩
theorem ifT {c : Prop} [Decidable c] {α : Type} {a b : Option α} {r : α} (H : (if c then a else b) = some r) (hc : c) : a = some r := by rwa [if_pos hc] at H
theorem ifF {c : Prop} [Decidable c] {α : Type} {a b : Option α} {r : α} (H : (if c then a else b) = some r) (hc : ¬ c) : b = some r := by rwa [if_neg hc] at H
theorem ifFb {c : Bool} {α : Type} {a b : Option α} {r : α} (H : (if c = true then a else b) = some r) (hc : c = false) : b = some r := by subst hc; exact H
theorem ifN {c : Prop} [Decidable c] {α : Type} {a : Option α} {r : α} (H : (if c then a else none) = some r) : c ∧ a = some r := by
  by_cases hc : c
  · rw [if_pos hc] at H; exact ⟨hc, H⟩
  · rw [if_neg hc] at H; cases H
theorem ifTd {c : Prop} [Decidable c] {α : Type} {a b : Option α} {r : α} (H : (if c then a else b) = some r) (hc : decide c = true) : a = some r := ifT H (of_decide_eq_true hc)
theorem ifFd {c : Prop} [Decidable c] {α : Type} {a b : Option α} {r : α} (H : (if c then a else b) = some r) (hc : decide c = false) : b = some r := ifF H (of_decide_eq_false hc)
def gI {α : Type} (L : List α) (i : Int) : Option α := if 0 ≤ i then L[i.toNat]? else none
def sI {α : Type} (L : List α) (i : Int) (x : α) : List α := L.set i.toNat x
theorem gI_some {α : Type} {L : List α} {i : Int} {a : α} (H : gI L i = some a) : ∃ n : Nat, i = n ∧ L[n]? = some a := by
  unfold gI at H
  split at H
  · exact ⟨i.toNat, by omega, H⟩
  · cases H
abbrev w64 (x : Int) : Int := IntKind.i64.wrap x
theorem iter_gen {S E : Type} {body : S → Option (S ⊕ E)} {n : Nat} {s : S} {ex : E} (H : iter body n s = some ex) : ∃ bd, bd = body ∧ iter bd n s = some ex := ⟨_, rfl, H⟩
theorem dj_app {F A B : List Nat} (h1 : ∀ b ∈ F, b ∉ A) (h2 : ∀ b ∈ F, b ∉ B) : ∀ b ∈ F, b ∉ A ++ B := fun b hb hm => by
  rcases List.mem_append.1 hm with h | h
  · exact h1 b hb h
  · exact h2 b hb h
theorem dj_nil {F : List Nat} : ∀ b ∈ F, b ∉ ([] : List Nat) := fun b _ h => by simp at h
theorem all_app {P : Nat → Prop} {A B : List Nat} (h1 : ∀ b ∈ A, P b) (h2 : ∀ b ∈ B, P b) : ∀ b ∈ A ++ B, P b := fun b hb => by
  rcases List.mem_append.1 hb with h | h
  · exact h1 b h
  · exact h2 b h
theorem all_nil {P : Nat → Prop} : ∀ b ∈ ([] : List Nat), P b := fun b h => by simp at h
theorem UpT.thenE {F : List Nat} {a b c : Heap} (H : UpT F a b) (E : Ext b c) : UpT F a c := H.then E.upT fun x hx => by simp at hx
theorem UpT.start {F : List Nat} {h : Heap} (H : ∀ b ∈ F, NotD h b) : UpT F h h := UpT.refl' fun b hb _ => H b hb
theorem boxAll {t : Nat} {h : Heap} {b : Nat} {l : List Value} (H : BoxH t h b l) (ht : Nat.beq t 98 = false) : ∀ x ∈ [b], NotD h x := fun x hx => by rw [List.mem_singleton.1 hx]; exact boxNotD H ht
theorem fr_hyp {F' FM FO : List Nat} {a c : Nat} (h1 : ∀ x ∈ F', x ∈ FM ∨ a ≤ x) (h2 : ∀ x ∈ FM, x ∈ FO ∨ c ≤ x) (h3 : c ≤ a) : ∀ x ∈ F', x ∈ FO ∨ c ≤ x := fun x hx => by
  rcases h1 x hx with h | h
  · exact h2 x h
  · exact .inr (by omega)
theorem fr_new {F FO : List Nat} {a c : Nat} (h1 : ∀ x ∈ F, a ≤ x) (h3 : c ≤ a) : ∀ x ∈ F, x ∈ FO ∨ c ≤ x := fun x hx => .inr (by have := h1 x hx; omega)
theorem fr_in {F A B : List Nat} {c : Nat} (h : F = A) : ∀ x ∈ F, x ∈ A ++ B ∨ c ≤ x := fun x hx => .inl (by subst h; simp [hx])
theorem fr_tl {F A B : List Nat} {c : Nat} (h : ∀ x ∈ F, x ∈ B ∨ c ≤ x) : ∀ x ∈ F, x ∈ A ++ B ∨ c ≤ x := fun x hx => by
  rcases h x hx with h | h
  · exact .inl (by simp [h])
  · exact .inr h
theorem Sp.addnil {h : Heap} {lo : Nat} {Fs : List (List Nat)} (S : Sp h lo Fs) : Sp h lo (Fs ++ [[]]) := by
  obtain ⟨h1, h2⟩ := S
  exact ⟨by simpa using h1, fun b hb => h2 b (by simpa using hb)⟩
theorem cellH_upT {F : List Nat} {h h' : Heap} {a : Addr} {v : Value} (hc : cellH h a = some v) (U : UpT F h h') (hd : a.block ∉ F) : cellH h' a = some v := cellH_upd (S := (· ∈ F)) hc U.1 hd
theorem OwC2.rowI {α : Type} {c : Cod α} {er el : Nat} {h : Heap} {F : List Nat} {Gs : List (List Nat)} {rs : List Value} {v : Value} {M : List (List α)} (H : OwC2 c er el h F Gs rs v M) {i : Int} {r : Value} {L : List α} (hr : rs[i.toNat]? = some r) (hL : gI M i = some L) : SlC c h r L := by
  obtain ⟨n, rfl, hL⟩ := gI_some hL
  exact H.rowRd hr hL
theorem Sp.loAll {h : Heap} {lo : Nat} {Fs : List (List Nat)} (S : Sp h lo Fs) (i : Nat) {F : List Nat} (hi : Fs[i]? = some F) : ∀ b ∈ F, lo ≤ b := fun b hb => (S.lo i hi b hb).1
theorem BoxH.stA {tb b : Nat} {h h' : Heap} {l' : List Value} (H : BoxH tb h' b l') (U : Upd (· = b) h h') (hN : ∀ x ∈ [b], NotD h x) (ht : Nat.beq tb 98 = false) : UpT [b] h h' := upT_of U (by simp) (fun x hx _ => hN x hx) (boxNotD H ht)
end Go.QF


/-
  Rules for data in memory by codecs. No condition.
-/
namespace Go.QF
open Go
set_option linter.unusedVariables false
set_option linter.unusedSimpArgs false
theorem ownK_of {h : Heap} {el g : Nat} {v : Value} {l : List Value} (H : OwnA h el g v l) : OwnK h el 1 g v (l.map fun x => [x]) := by
  obtain ⟨cap, cur, h1, h2, h3, h4, h5, h6⟩ := H
  have hf : ∀ l : List Value, (l.map fun x => [x]).flatten = l := fun l => by induction l <;> simp_all
  exact ⟨cap, cur, by rw [List.length_map]; exact h1, h2, by rw [List.length_map]; exact h3, h4, by omega, fun r hr => by obtain ⟨x, _, rfl⟩ := List.mem_map.1 hr; rfl, by rw [List.length_map, Nat.mul_one, hf]; exact h6⟩
section
variable {P : Program} {B : Heap → Prop} {st : Bool} {ops : Array Oper} {rest : List Oper} {e : Env} {h : Heap} {K : Env → Heap → Prop}
variable {d d' : Nat} {ty ty' : TypeId} {pos pos' : String} {af af' : Array Edge}
theorem r_bsV {t el bytes s : Nat} {z w0 : Value} {y : Operand} (l : List Value) (hT : SlT P t el s) (hz : ZeT P el z bytes) (hb : B h) (hy : e.ev y = w0) (hw0 : w0.cells = l.toArray) (hl : l.length = s) (hs1 : 0 < s) (hs2 : s ≤ 1000)
    (H : B (h.push (.cells l.toArray el (0, 0))) ∧ RL P B st ops rest (e.set d (.slice (some ⟨h.size, 0, none⟩) 1 1)) (h.push (.cells l.toArray el (0, 0))) K) :
    RL P B st ops (⟨some d, .buildSlice t 1 #[(0, y)], ty, pos, af, none⟩ :: rest) e h K := by
  refine r_eff rfl rfl hb fun w hw => ?_
  subst hw
  obtain ⟨hu, i0, hi0, hs0⟩ := hT
  obtain ⟨i, hi, hzz, hsz, hby⟩ := hz
  rw [hi] at hi0; injection hi0 with hi0; subst hi0
  have h3 : ¬ (1 * i.size > 2 ^ 24) := by rw [hs0]; omega
  have h4 : ¬ (1 * i.size = 0) := by rw [hs0]; omega
  have hfill : Instr.fill (fun j => some (j * i.size, i.size)) ((Array.range (1 * i.size)).map (z.cells[· % z.cells.size]!)) [(0, w0)] = some l.toArray := by
    generalize z.cells = zc
    simp only [Instr.fill, hw0, List.size_toArray, hl, hs0]
    rw [if_neg (by simp)]
    congr 1
    obtain ⟨old, ho⟩ : ∃ old : List Value, ((Array.range (1 * s)).map (zc[· % zc.size]!)) = old.toArray := ⟨_, (Array.toArray_toList).symm⟩
    have hol : old.length = l.length := by have := congrArg Array.size ho; simp at this; omega
    rw [ho]
    have := fill_fold l [] old hol
    simp only [List.nil_append, List.length_nil] at this
    simp only [Nat.zero_mul]
    rw [← Array.foldl_toList]
    simp only [Array.toList_zipIdx]
    exact this
  have : (execOp e.ev ⟨some d, .buildSlice t 1 #[(0, y)], ty, pos, af, none⟩).run P w = .ok (.value (.slice (some ⟨w.heap.size, 0, none⟩) 1 1)) (w.alloc (.cells l.toArray el)) := by
    simp only [execOp, List.map_toArray, List.map, hy]
    simp only [Instr.buildSlice, Sem.run_bind, u_run hu, Result.andThen, s_run hi, if_neg h3, if_neg h4, z_run hi hzz]
    have hp1 : Sem.run P (pure z.cells : Sem (Array Value)) w = .ok z.cells w := rfl
    simp only [hp1]
    rw [hfill]
    simp [newRow]
  rw [this]
  exact ⟨⟨rfl, rfl, rfl⟩, H⟩
/-- What 'append' does to the heap. -/
def PU (el : Nat) (v : Value) (h h' : Heap) : Prop := Upd (fun k => v.ownBlock = some k) h h' ∧ ∀ g, v.ownBlock = some g → ∃ cur, h'[g]? = some (.cells cur el (0, 0))
theorem pu_ext {h h' : Heap} {el k lo : Nat} {v : Value} {L : List (List Value)} (H : GroK h el k lo v L) (E : Ext h h') : PU el v h h' := by
  refine ⟨E.upd, fun g hg => ?_⟩
  rcases H with ⟨_, rfl⟩ | ⟨g', _, HO⟩
  · cases hg
  · rw [HO.blk] at hg
    injection hg with hg; subst hg
    obtain ⟨cap, cur, _, hgg, _⟩ := HO.ext E
    exact ⟨cur, hgg⟩
theorem r_pushV {s y : Operand} {t el bytes lo k : Nat} {z v w0 : Value} {L : List (List Value)} (u : List Value) (hT : SlT P t el k) (hz : ZeT P el z bytes) (hzk : z.cells.size = k) (hb0 : B h) (hbB : ∀ h', PU el v h h' → B h') (hs : ∀ p, (e.set d p).ev s = v) (hy : e.ev y = w0) (hw0 : w0.cells = u.toArray) (hu : u.length = k) (hone : ∀ x ∈ u, isOne x = true) (hk1 : 0 < k) (hk2 : k ≤ 1000) (HG : GroK h el k lo v L) (hlo : lo ≤ h.size) (hby : bytes ≤ 1000)
    (hl : L.length ≤ 100000000)
    (H : ∀ p v' h', GroK h' el k lo v' (L ++ [u]) → PU el v h h' → (v'.ownBlock = v.ownBlock ∨ ∃ g, v'.ownBlock = some g ∧ h.size ≤ g) → RL P B st ops rest ((e.set d p).set d' v') h' K) :
    RL P B st ops (⟨some d, .buildSlice t 1 #[(0, y)], ty, pos, af, none⟩ :: ⟨some d', .call ⟨.builtin .append, #[s, .tmp d], #[t, t]⟩, ty', pos', af', none⟩ :: rest) e h K := by
  have hsz : L.length * bytes ≤ 100000000 * 1000 := Nat.mul_le_mul hl hby
  have hb2 : (L.length + 1) * bytes ≤ 140737488355328 := by rw [Nat.add_mul]; omega
  refine r_bsV u hT hz hb0 hy hw0 hu hk1 hk2 ⟨hbB _ (pu_ext HG (ext_push _ _)), ?_⟩
  have hnew := ownK_lit h el k u hu
  have hE := ext_push h (.cells u.toArray el (0, 0))
  have hsz2 : (h.push (.cells u.toArray el (0, 0))).size = h.size + 1 := by simp
  have hone' : ∀ x ∈ u, x.oneCell' = true := fun x hx' => by have := hone x hx'; cases x <;> first | rfl | cases this
  refine r_eff rfl rfl (hbB _ (pu_ext HG (ext_push _ _))) fun w hw => ?_
  have hws : w.heap.size = h.size + 1 := by rw [hw]; exact hsz2
  have hEw : Ext h w.heap := by rw [hw]; exact hE
  obtain ⟨hut, i0, hi0, hs0⟩ := hT
  obtain ⟨i, hi, hzz, hszz, hbyy⟩ := hz
  rw [hi] at hi0; injection hi0 with hi0; subst hi0
  have hnews : ∀ j x, u[j]? = some x → w.cell? ((⟨h.size, 0, none⟩ : Addr).add j) = some x := fun j x hx => by
    rw [addr_add, Nat.zero_add]
    have := hnew.cell (i := 0) rfl hx
    rw [Nat.zero_mul, Nat.zero_add] at this
    rw [cell?_eq, hw]; exact this
  rcases HG with ⟨rfl, rfl⟩ | ⟨g, hg, HO⟩
  · have hr := run_append_nil (P := P) w t ty' el i z hut hi hzz ⟨h.size, 0, none⟩ 1 1 u (by rw [hu, hs0]; omega) hnews (by omega) (by omega) (by rw [hbyy]; omega)
    have hrun : (execOp (e.set d (.slice (some ⟨h.size, 0, none⟩) 1 1)).ev ⟨some d', .call ⟨.builtin .append, #[s, .tmp d], #[t, t]⟩, ty', pos', af', none⟩).run P w = .ok (.value (.slice (some ⟨w.heap.size, 0, none⟩) 1 (grownCap w 1 0 el)))
        (w.drew.alloc (.cells (u.toArray ++ Builtin.zeroCells z.cells (grownCap w 1 0 el - 1)) el)) := by
      have hd : (e.set d (.slice (some ⟨h.size, 0, none⟩) 1 1)).ev (.tmp d) = .slice (some ⟨h.size, 0, none⟩) 1 1 := Env.set_same _ _ _
      simp [execOp, resolve, invoke, builtin, hs, hd, hr]
    rw [hrun]
    have hge := grownCap_ge w 1 0 el
    have hcm' : grownCap w 1 0 el ≤ maxLen := grownCap_le_maxLen w _ _ el (by unfold maxLen; omega)
    refine ⟨⟨rfl, rfl, rfl⟩, hbB _ ?hU1, H _ _ _ (.inr ⟨w.heap.size, by omega, ?_⟩) ?hU1 (.inr ⟨w.heap.size, rfl, by omega⟩)⟩
    rotate_left
    · refine ⟨_, _, rfl, heap_alloc_new w.drew _, hge, hcm', ?_, by simpa using hu, ?_⟩
      · rw [Array.size_append, size_zeroCells, hzk, List.size_toArray, hu, Nat.sub_mul]
        have : 1 * k ≤ grownCap w 1 0 el * k := Nat.mul_le_mul_right k hge
        omega
      · simp only [Array.toList_append]
        simp only [List.nil_append, List.length_cons, List.length_nil, Nat.zero_add, Nat.one_mul, List.flatten_cons, List.flatten_nil, List.append_nil]
        rw [← hu]
        exact List.take_left
    · exact ⟨(hEw.trans ⟨by simp, fun k hk => heap_alloc_old w.drew _ k hk⟩).upd, fun g hg => by cases hg⟩
  · have HO2 := HO.ext hE
    rw [← hw] at HO2
    have hcell : ∀ j x, L.flatten[j]? = some x → w.cell? ((⟨g, 0, none⟩ : Addr).add j) = some x := fun j x hx => by
      obtain ⟨cap, cur, _, hgg, _, _, _, hkk, ht⟩ := HO2
      rw [addr_add, Nat.zero_add, cell?_eq]
      have hj := (List.getElem?_eq_some_iff.1 hx).1
      rw [flat_len hkk] at hj
      rw [← ht, List.getElem?_take, if_pos hj] at hx
      simp only [cellH, hgg]
      simpa using hx
    have HO3 := HO2
    obtain ⟨cap, cur, rfl, hgg, hlc, hcm, hcs, hkk, ht⟩ := HO2
    have hd : (e.set d (.slice (some ⟨h.size, 0, none⟩) 1 1)).ev (.tmp d) = .slice (some ⟨h.size, 0, none⟩) 1 1 := Env.set_same _ _ _
    have hlu : (L ++ [u]).length = L.length + 1 := by simp
    have hkk' : ∀ r ∈ L ++ [u], r.length = k := by
      intro r hr
      rcases List.mem_append.1 hr with h1 | h1
      · exact hkk r h1
      · rw [List.mem_singleton.1 h1]; exact hu
    by_cases hroom : L.length + 1 ≤ cap
    · have hmul : (L.length + 1) * k ≤ cap * k := Nat.mul_le_mul_right k hroom
      rw [Nat.add_mul, Nat.one_mul] at hmul
      have hr := run_append_room (P := P) w t ty' el i hut hi g L.length cap cur hgg ⟨h.size, 0, none⟩ 1 1 u (by rw [hu, hs0]; omega) hnews hone' hroom (by rw [hs0, hu, hcs]; exact hmul)
      have hrun : (execOp (e.set d (.slice (some ⟨h.size, 0, none⟩) 1 1)).ev ⟨some d', .call ⟨.builtin .append, #[s, .tmp d], #[t, t]⟩, ty', pos', af', none⟩).run P w = .ok (.value (.slice (some ⟨g, 0, none⟩) (L.length + 1) cap)) (w.setRow g (cur.toList.take (L.length * i.size) ++ u ++ cur.toList.drop (L.length * i.size + u.length)).toArray) := by
        simp [execOp, resolve, invoke, builtin, hs, hd, hr]
      rw [hrun]
      refine ⟨⟨rfl, rfl, rfl⟩, hbB _ ?hU2, H _ _ _ (.inr ⟨g, hg, ?_⟩) ?hU2 (.inl rfl)⟩
      rotate_left
      · refine ⟨cap, _, by rw [hlu], setRow_heap w g cur _ el (0, 0) hgg, by rw [hlu]; exact hroom, hcm, ?_, hkk', ?_⟩
        · simp only [hs0, List.size_toArray, List.length_append, List.length_take, List.length_drop, Array.length_toList, hcs, hu]
          omega
        · simp only [hs0, ht, hlu]
          rw [List.flatten_append, List.flatten_cons, List.flatten_nil, List.append_nil]
          have : (L.length + 1) * k = (L.flatten ++ u).length := by rw [List.length_append, flat_len hkk, hu, Nat.add_mul, Nat.one_mul]
          rw [this]
          exact List.take_left
      · exact ⟨hEw.upd.trans ⟨by simp [World.setRow], fun q hq hne => setRow_other w g q _ (fun he => hne (by rw [he]; rfl))⟩, fun g' hg' => by injection hg' with hg'; subst hg'; exact ⟨_, setRow_heap w g cur _ el (0, 0) hgg⟩⟩
    · have hr := run_append_grow (P := P) w t ty' el i z hut hi hzz ⟨g, 0, none⟩ L.length cap L.flatten (by rw [flat_len hkk, hs0]) hcell ⟨h.size, 0, none⟩ 1 1 u (by rw [hu, hs0]; omega) hnews (by omega)
        (by omega) (by rw [hbyy]; exact growslice_fits (by omega) hb2)
      have hrun : (execOp (e.set d (.slice (some ⟨h.size, 0, none⟩) 1 1)).ev ⟨some d', .call ⟨.builtin .append, #[s, .tmp d], #[t, t]⟩, ty', pos', af', none⟩).run P w = .ok (.value (.slice (some ⟨w.heap.size, 0, none⟩) (L.length + 1) (grownCap w (L.length + 1) cap el)))
          (w.drew.alloc (.cells (L.flatten.toArray ++ u.toArray ++ Builtin.zeroCells z.cells (grownCap w (L.length + 1) cap el - (L.length + 1))) el)) := by
        simp [execOp, resolve, invoke, builtin, hs, hd, hr]
      rw [hrun]
      have hge := grownCap_ge w (L.length + 1) cap el
      have hcm' : grownCap w (L.length + 1) cap el ≤ maxLen := grownCap_le_maxLen w _ _ el (by unfold maxLen; omega)
      refine ⟨⟨rfl, rfl, rfl⟩, hbB _ ?hU3, H _ _ _ (.inr ⟨w.heap.size, by omega, ?_⟩) ?hU3 (.inr ⟨w.heap.size, rfl, by omega⟩)⟩
      rotate_left
      · refine ⟨_, _, by rw [hlu], heap_alloc_new w.drew _, by rw [hlu]; exact hge, hcm', ?_, hkk', ?_⟩
        · have hmm : (L.length + 1) * k ≤ grownCap w (L.length + 1) cap el * k := Nat.mul_le_mul_right k hge
          rw [Nat.add_mul] at hmm
          rw [Array.size_append, Array.size_append, size_zeroCells, hzk, List.size_toArray, List.size_toArray, hu, flat_len hkk, Nat.sub_mul, Nat.add_mul]
          omega
        · simp only [Array.toList_append, hlu]
          rw [List.flatten_append, List.flatten_cons, List.flatten_nil, List.append_nil]
          have : (L.length + 1) * k = (L.flatten ++ u).length := by rw [List.length_append, flat_len hkk, hu, Nat.add_mul, Nat.one_mul]
          rw [this]
          exact List.take_left
      · exact ⟨(hEw.trans ⟨by simp, fun k hk => heap_alloc_old w.drew _ k hk⟩).upd, fun g' hg' => by injection hg' with hg'; subst hg'; exact ⟨_, (heap_alloc_old w.drew _ g (Array.getElem?_eq_some_iff.1 hgg).1).trans hgg⟩⟩

theorem flat_setRow {k : Nat} : ∀ {L : List (List Value)} {i : Nat} {row : List Value}, (∀ r ∈ L, r.length = k) → row.length = k → i < L.length → (L.set i row).flatten = L.flatten.take (i * k) ++ row ++ L.flatten.drop (i * k + k) := by
  intro L
  induction L with
  | nil => intro i row _ _ h; simp at h
  | cons s L ih =>
    intro i row hk hr hi
    have hs := hk s (List.mem_cons_self ..)
    cases i with
    | zero => simp [hs, List.drop_append]
    | succ i =>
      have := ih (fun r hr => hk r (List.mem_cons_of_mem _ hr)) hr (by simpa using hi)
      simp only [List.set_cons_succ, List.flatten_cons, this]
      rw [List.take_append, List.drop_append, hs, show (i + 1) * k - k = i * k by rw [Nat.add_mul]; omega, show (i + 1) * k + k - k = i * k + k by rw [Nat.add_mul]; omega, List.take_of_length_le (l := s) (by rw [hs, Nat.add_mul]; omega), List.drop_of_length_le (l := s) (by rw [hs, Nat.add_mul]; omega)]
      simp
theorem OwnK.setAll {el k g n : Nat} {v : Value} {L : List (List Value)} {h h' : Heap} {row : List Value} (HO : OwnK h el k g v L) (hn : n < L.length) (hrow : row.length = k) (hcur : ∀ cur, h[g]? = some (.cells cur el (0, 0)) → h'[g]? = some (.cells (cur.toList.take (n * k) ++ row ++ cur.toList.drop (n * k + row.length)).toArray el (0, 0))) : OwnK h' el k g v (L.set n row) := by
  obtain ⟨cap, cur, hv, hg, hl, hm, hs, hk, ht⟩ := HO
  have hle' : n * k + k ≤ L.length * k := by rw [← Nat.succ_mul]; exact Nat.mul_le_mul_right k hn
  have hle2' : L.length * k ≤ cap * k := Nat.mul_le_mul_right k hl
  have hcl : L.length * k ≤ cur.toList.length := by have : cur.toList.length = cur.size := Array.length_toList; omega
  refine ⟨cap, _, by rw [List.length_set]; exact hv, hcur cur hg, by rw [List.length_set]; exact hl, hm, ?_, ?_, ?_⟩
  · simp only [List.size_toArray, List.length_append, List.length_take, List.length_drop, Array.length_toList, hrow]
    omega
  · intro q hq
    rcases List.mem_or_eq_of_mem_set hq with hq | rfl
    · exact hk q hq
    · exact hrow
  · rw [List.length_set, flat_setRow hk hrow hn, ← ht]
    have e1 : ((cur.toList.take (n * k) ++ row ++ cur.toList.drop (n * k + row.length)).toArray).toList = cur.toList.take (n * k) ++ row ++ cur.toList.drop (n * k + row.length) := rfl
    rw [e1, List.take_append, List.take_append, List.take_take, List.take_take, Nat.min_eq_right (by omega), Nat.min_eq_left (by omega), List.length_append, List.length_take, Nat.min_eq_left (by omega), hrow]
    rw [List.take_of_length_le (l := row) (by rw [hrow]; omega), List.drop_take]
theorem r_stKA {x y : Operand} {t el g s n : Nat} {v : Value} {L : List (List Value)} (row : List Value) (ht : AgT P t s) (hrow : row.length = s) (hx : e.ev x = .pointer (some ⟨g, n * s, none⟩)) (hy : e.ev y = .agg row.toArray) (h1 : ∀ u ∈ row, isOne u = true) (HO : OwnK h el s g v L) (hn : n < L.length)
    (H : ∀ h', (∀ v L, OwnK h el s g v L → n < L.length → OwnK h' el s g v (L.set n row)) → Upd (· = g) h h' → RL P B st ops rest e h' K) : RL P B st ops (⟨none, .store t x y, ty, pos, af, none⟩ :: rest) e h K := by
  refine r_wr rfl rfl fun w hw => ?_
  subst hw
  obtain ⟨_, i, hi, hsz⟩ := ht
  obtain ⟨cap, cur, hv, hg, hl, hm, hs, hk, htk⟩ := HO
  have hone' : ∀ u ∈ row, u.oneCell' = true := fun u hu' => by have := h1 u hu'; cases u <;> first | rfl | cases this
  have hle : n * s + s ≤ L.length * s := by rw [← Nat.succ_mul]; exact Nat.mul_le_mul_right s hn
  have hle2 : L.length * s ≤ cap * s := Nat.mul_le_mul_right s hl
  have hr := run_storeCells_at P g (n * s) el row 0 cur w hg (by rw [hrow, hs]; omega) hone'
  have hrun : (execOp e.ev ⟨none, .store t x y, ty, pos, af, none⟩).run P w = .ok .skip (w.setRow g (cur.toList.take (n * s + 0) ++ row ++ cur.toList.drop (n * s + 0 + row.length)).toArray) := by
    simp only [execOp, Instr.storeAt, hx, Instr.sureAddr, hy]
    simp only [Nat.add_zero] at hr
    simp [storeVar, s_run hi, Value.cells, hsz, hrow, hr]
  rw [hrun]
  exact ⟨⟨rfl, rfl, rfl⟩, H _ (fun v' L' HO' hn' => HO'.setAll hn' hrow fun cur' hc' => by
    rw [hg] at hc'
    injection hc' with hc'
    injection hc' with hc' _ _
    subst hc'
    exact setRow_heap w g cur _ el (0, 0) hg) ⟨by simp [World.setRow], fun k hk hne => setRow_other w g k _ (fun he => hne he)⟩⟩
theorem madeCells_two (a b : Value) (n : Nat) : madeCells #[a, b] (n * 2) = ((List.replicate n [a, b]).flatten).toArray := by
  apply Array.ext
  · simp [madeCells]
  · intro i h1 h2
    have hi : i < n * 2 := by simpa [madeCells] using h1
    simp only [madeCells, Array.getElem_map, Array.getElem_range]
    have hk : ∀ r ∈ List.replicate n [a, b], r.length = 2 := fun r hr => by rw [(List.mem_replicate.1 hr).2]; rfl
    have h3 : (List.replicate n [a, b])[i / 2]? = some [a, b] := by rw [List.getElem?_replicate, if_pos (by omega)]
    have hg : ((List.replicate n [a, b]).flatten)[i]? = some (#[a, b][i % 2]!) := by
      have hm : i % 2 = 0 ∨ i % 2 = 1 := by omega
      rcases hm with hm | hm
      · have := flat_get hk h3 (j := 0) (x := a) rfl
        rw [show i / 2 * 2 + 0 = i by omega] at this
        rw [this, hm]; rfl
      · have := flat_get hk h3 (j := 1) (x := b) rfl
        rw [show i / 2 * 2 + 1 = i by omega] at this
        rw [this, hm]; rfl
    have hl : i < ((List.replicate n [a, b]).flatten).length := by rw [flat_len hk]; simp; omega
    rw [List.getElem?_eq_getElem hl] at hg
    injection hg with hg
    simpa using hg.symm
/-- 'make([]T, n)' for structs of two cells. -/
theorem r_mkK2 {x y : Operand} {t el n bytes : Nat} {a b : Value} (hT : SlT P t el 2) (hz : ZeT P el (.agg #[a, b]) bytes) (hb : B h) (hx : e.ev x = .int .i64 (n : Int)) (hy : e.ev y = .int .i64 (n : Int)) (hby : bytes ≤ 1000) (hn : n ≤ 100000000)
    (H : ∀ h', OwnK h' el 2 h.size (.slice (some ⟨h.size, 0, none⟩) n n) (List.replicate n [a, b]) → Ext h h' → h.size < h'.size → B h' → RL P B st ops rest (e.set d (.slice (some ⟨h.size, 0, none⟩) n n)) h' K) (hbB : B (h.push (.cells ((List.replicate n [a, b]).flatten).toArray el (0, 0)))) :
    RL P B st ops (⟨some d, .makeSlice t x y, ty, pos, af, none⟩ :: rest) e h K := by
  have h1 : bytes * n ≤ 1000 * 100000000 := Nat.mul_le_mul hby hn
  refine r_eff rfl rfl hb fun w hw => ?_
  subst hw
  obtain ⟨hu, i0, hi0, hs0⟩ := hT
  obtain ⟨i, hi, hzz, hsz, hby'⟩ := hz
  rw [hi] at hi0; injection hi0 with hi0; subst hi0
  have hr := run_make (P := P) w t el i (.agg #[a, b]) hu hi hzz .i64 .i64 (n : Int) (n : Int) (by omega) (by omega) (by rw [hby']; omega) (by omega)
  have : (execOp e.ev ⟨some d, .makeSlice t x y, ty, pos, af, none⟩).run P w = .ok (.value (.slice (some ⟨w.heap.size, 0, none⟩) n n)) (w.alloc (.cells ((List.replicate n [a, b]).flatten).toArray el)) := by
    simp only [execOp, hx, hy]
    have hc : (Value.agg #[a, b]).cells = #[a, b] := rfl
    simp only [Int.toNat_natCast, hs0, hc, madeCells_two] at hr
    simp [hr]
  rw [this]
  have hk : ∀ r ∈ List.replicate n [a, b], r.length = 2 := fun r hr => by rw [(List.mem_replicate.1 hr).2]; rfl
  refine ⟨⟨rfl, rfl, rfl⟩, hbB, H _ ⟨n, ((List.replicate n [a, b]).flatten).toArray, by simp, heap_alloc_new w _, by simp, by unfold maxLen; omega, ?_, hk, ?_⟩ (ext_push _ _) (by simp) hbB⟩
  · rw [List.size_toArray, flat_len hk]; simp
  · rw [show ((List.replicate n [a, b]).flatten).toArray.toList = (List.replicate n [a, b]).flatten from rfl]
    exact List.take_of_length_le (by rw [flat_len hk]; exact Nat.le_refl _)
/-! indexes -/
theorem r_ixKo' {x i : Operand} {t el er s g : Nat} {v : Value} {L : List (List Value)} {k : IntKind} {n : Nat} {h0 : Heap} (hT : SlT P t el s) (hx : e.ev x = v) (HO : OwnK h0 er s g v L) (hi : e.ev i = .int k (n : Int)) (hn : n < L.length)
    (H : RL P B st ops rest (e.set d (.pointer (some ⟨g, n * s, none⟩))) h K) : RL P B st ops (⟨some d, .indexAddr t x i, ty, pos, af, none⟩ :: rest) e h K := by
  obtain ⟨cap, cur, rfl, _⟩ := HO
  refine r_ix hT hx hi (by omega) (by omega) ?_
  have he : (⟨g, 0, none⟩ : Addr).add ((n : Int).toNat * s) = ⟨g, n * s, none⟩ := by rw [addr_add]; simp
  rw [he]
  exact H
theorem r_ixC {α : Type} {c : Cod α} {x i : Operand} {t el : Nat} {v : Value} {L : List α} {κ : IntKind} {n : Int} {a : α} {h0 : Heap} (hT : SlT P t el c.k) (hx : e.ev x = v) (HS : SlC c h0 v L) (hi : e.ev i = .int κ n) (ha : gI L n = some a)
    (H : ∀ b o cs, c.rep h0 a cs → (∀ j u, cs[j]? = some u → cellH h0 ⟨b, o + j, none⟩ = some u) → RL P B st ops rest (e.set d (.pointer (some ⟨b, o, none⟩))) h K) : RL P B st ops (⟨some d, .indexAddr t x i, ty, pos, af, none⟩ :: rest) e h K := by
  obtain ⟨m, rfl, hm0⟩ := gI_some ha
  clear ha
  have ha := hm0
  obtain ⟨Ls, ⟨ad, cap, rfl, hc⟩, HA⟩ := HS
  obtain ⟨cs, hcs, hrep⟩ := HA.get ha
  obtain ⟨b, o, rfl, hcu⟩ := hc m cs hcs
  have hn := (List.getElem?_eq_some_iff.1 hcs).1
  refine r_ix hT hx hi (by omega) (by omega) ?_
  have he : (⟨b, o, none⟩ : Addr).add ((m : Int).toNat * c.k) = ⟨b, o + m * c.k, none⟩ := by rw [addr_add]; simp
  rw [he]
  exact H b _ cs hrep hcu
theorem r_ixR {α : Type} {c : Cod α} {x i : Operand} {t el : Nat} {v : Value} {M : List (List α)} {κ : IntKind} {n : Int} {L : List α} {h0 : Heap} (hT : SlT P t el 1) (hx : e.ev x = v) (HS : SlC2 c h0 v M) (hi : e.ev i = .int κ n) (ha : gI M n = some L)
    (H : ∀ b o r, cellH h0 ⟨b, o, none⟩ = some r → SlC c h0 r L → RL P B st ops rest (e.set d (.pointer (some ⟨b, o, none⟩))) h K) : RL P B st ops (⟨some d, .indexAddr t x i, ty, pos, af, none⟩ :: rest) e h K := by
  obtain ⟨m, rfl, hm0⟩ := gI_some ha
  clear ha
  have ha := hm0
  obtain ⟨rs, ⟨ad, cap, rfl, hc⟩, hl, HA⟩ := HS
  have hm := (List.getElem?_eq_some_iff.1 ha).1
  obtain ⟨r, hr⟩ : ∃ r, rs[m]? = some r := ⟨rs[m]'(by omega), List.getElem?_eq_getElem _⟩
  obtain ⟨b, o, rfl, hcu⟩ := hc m [r] (by simp [hr])
  refine r_ix hT hx hi (by omega) (by simp; omega) ?_
  have he : (⟨b, o, none⟩ : Addr).add ((m : Int).toNat * 1) = ⟨b, o + m * 1, none⟩ := by rw [addr_add]; simp
  rw [he]
  exact H b _ r (hcu 0 r rfl) (HA m r L hr ha)
theorem ow2_top {α : Type} {c : Cod α} {er el : Nat} {h0 : Heap} {F : List Nat} {Gs : List (List Nat)} {rs : List Value} {v : Value} {M : List (List α)} {n : Nat} {L : List α} (HO : OwC2 c er el h0 F Gs rs v M) (ha : M[n]? = some L) : ∃ b r, F = b :: Gs.flatten ∧ OwnK h0 er 1 b v (rs.map fun r => [r]) ∧ rs[n]? = some r ∧ n < rs.length := by
  rcases HO with ⟨rfl, _⟩ | ⟨b, hF, hn, h2, h3, h4, h5, h6⟩
  · simp at ha
  · have hm := (List.getElem?_eq_some_iff.1 ha).1
    exact ⟨b, rs[n]'(by omega), hF, h2, List.getElem?_eq_getElem _, by omega⟩
/-- A row of an owned matrix: its address, and what lies there. -/
theorem r_ixR2 {α : Type} {c : Cod α} {x i : Operand} {t el0 er el : Nat} {F : List Nat} {Gs : List (List Nat)} {rs : List Value} {v : Value} {M : List (List α)} {κ : IntKind} {n : Int} {L : List α} {h0 : Heap} (hT : SlT P t el0 1) (hx : e.ev x = v) (HO : OwC2 c er el h0 F Gs rs v M) (hi : e.ev i = .int κ n) (ha : gI M n = some L)
    (H : ∀ b r, F = b :: Gs.flatten → rs[n.toNat]? = some r → cellH h0 ⟨b, n.toNat, none⟩ = some r → RL P B st ops rest (e.set d (.pointer (some ⟨b, n.toNat, none⟩))) h K) : RL P B st ops (⟨some d, .indexAddr t x i, ty, pos, af, none⟩ :: rest) e h K := by
  obtain ⟨m, rfl, hm0⟩ := gI_some ha
  clear ha
  have ha := hm0
  obtain ⟨b, r, hF, h2, hr, hm⟩ := ow2_top HO ha
  have hcell := h2.cell (i := m) (j := 0) (r := [r]) (x := r) (by simp [hr]) rfl
  refine r_ixKo' (er := er) (n := m) hT hx h2 hi (by simpa using hm) ?_
  rw [Nat.mul_one]
  rw [Nat.mul_one, Nat.add_zero] at hcell
  exact H b r hF hr hcell
/-- An entry of an owned list. -/
theorem r_ixO {α : Type} {c : Cod α} {x i : Operand} {t el0 el : Nat} {F : List Nat} {v : Value} {L : List α} {κ : IntKind} {n : Int} {a : α} {h0 : Heap} (hT : SlT P t el0 c.k) (hx : e.ev x = v) (HO : OwC c el h0 F v L) (hi : e.ev i = .int κ n) (ha : gI L n = some a)
    (H : ∀ g, F = [g] → RL P B st ops rest (e.set d (.pointer (some ⟨g, n.toNat * c.k, none⟩))) h K) : RL P B st ops (⟨some d, .indexAddr t x i, ty, pos, af, none⟩ :: rest) e h K := by
  obtain ⟨m, rfl, hm0⟩ := gI_some ha
  clear ha
  have ha := hm0
  rcases HO with ⟨rfl, _⟩ | ⟨g, Ls, hF, h2, h3, _⟩
  · simp at ha
  · have hm := (List.getElem?_eq_some_iff.1 ha).1
    exact r_ixKo' (er := el) (n := m) hT hx h2 hi (by rw [h3.1]; exact hm) (H g hF)
theorem OwC.cells {α : Type} {c : Cod α} {el : Nat} {g : Nat} {v : Value} {L : List α} {n : Int} {a : α} {h0 : Heap} {F : List Nat} (HO : OwC c el h0 F v L) (hF : F = [g]) (ha : gI L n = some a) : ∃ cs, c.rep h0 a cs ∧ ∀ j u, cs[j]? = some u → cellH h0 ⟨g, n.toNat * c.k + j, none⟩ = some u := by
  obtain ⟨m, rfl, hm0⟩ := gI_some ha
  clear ha
  have ha := hm0
  rcases HO with ⟨rfl, _⟩ | ⟨g', Ls, hF', h2, h3, _⟩
  · simp at ha
  · rw [hF] at hF'; injection hF' with hg; subst hg
    obtain ⟨cs, hcs, hrep⟩ := h3.get ha
    exact ⟨cs, hrep, fun j u hu => h2.cell hcs hu⟩
/-- An entry of an owned matrix, by its row. -/
theorem r_ixO2 {α : Type} {c : Cod α} {x i : Operand} {t el0 er el : Nat} {F : List Nat} {Gs : List (List Nat)} {rs : List Value} {v r : Value} {M : List (List α)} {κ : IntKind} {m n : Int} {L : List α} {a : α} {h0 : Heap} (hT : SlT P t el0 c.k) (hx : e.ev x = r) (HO : OwC2 c er el h0 F Gs rs v M) (hr : rs[m.toNat]? = some r) (hL : gI M m = some L) (hi : e.ev i = .int κ n) (ha : gI L n = some a)
    (H : ∀ g, Gs[m.toNat]? = some [g] → RL P B st ops rest (e.set d (.pointer (some ⟨g, n.toNat * c.k, none⟩))) h K) : RL P B st ops (⟨some d, .indexAddr t x i, ty, pos, af, none⟩ :: rest) e h K := by
  obtain ⟨q, rfl, hm0⟩ := gI_some hL
  clear hL
  have hL := hm0
  obtain ⟨G, hG, HR, _⟩ := HO.row hr hL
  exact r_ixO hT hx HR hi ha fun g hg => H g (hg ▸ hG)
theorem OwC2.cells {α : Type} {c : Cod α} {er el : Nat} {g : Nat} {F : List Nat} {Gs : List (List Nat)} {rs : List Value} {v : Value} {M : List (List α)} {m n : Int} {L : List α} {a : α} {h0 : Heap} (HO : OwC2 c er el h0 F Gs rs v M) (hG : Gs[m.toNat]? = some [g]) (hL : gI M m = some L) (ha : gI L n = some a) : ∃ cs, c.rep h0 a cs ∧ ∀ j u, cs[j]? = some u → cellH h0 ⟨g, n.toNat * c.k + j, none⟩ = some u := by
  obtain ⟨q, rfl, hm0⟩ := gI_some hL
  clear hL
  have hL := hm0
  obtain ⟨b, r, hF, h2, hr, hm⟩ := ow2_top HO hL
  obtain ⟨G, hG', HR, _⟩ := HO.row hr hL
  rw [Int.toNat_natCast, hG'] at hG
  injection hG with hG; subst hG
  exact HR.cells rfl ha
/-! loads of structs -/
theorem r_ldC {α : Type} {c : Cod α} {x : Operand} {t b o : Nat} {a : α} {cs : List Value} (ht : AgT P t c.k) (hx : e.ev x = .pointer (some ⟨b, o, none⟩)) (hrep : c.rep h a cs) (hc : ∀ j u, cs[j]? = some u → cellH h ⟨b, o + j, none⟩ = some u) (H : RL P B false ops rest (e.set d (.agg cs.toArray)) h K) :
    RL P B false ops (⟨some d, .load t x, ty, pos, af, none⟩ :: rest) e h K :=
  r_ldA cs ht (c.klen hrep) hx (fun i u hu => by rw [addr_add]; exact hc i u hu) H
theorem r_ldCB {α : Type} {c : Cod α} {x : Operand} {t b o : Nat} {a : α} {cs : List Value} {h0 : Heap} (ht : AgT P t c.k) (hx : e.ev x = .pointer (some ⟨b, o, none⟩)) (hrep : c.rep h0 a cs) (hb : B h) (hB : ∀ h', B h' → ∀ j u, cs[j]? = some u → cellH h' ⟨b, o + j, none⟩ = some u) (H : RL P B true ops rest (e.set d (.agg cs.toArray)) h K) :
    RL P B true ops (⟨some d, .load t x, ty, pos, af, none⟩ :: rest) e h K :=
  r_ldAB cs ht (c.klen hrep) hx hb (fun h' hb i u hu => by rw [addr_add]; exact hB h' hb i u hu) H
/-! lengths -/
theorem r_lenC {α : Type} {c : Cod α} {x : Operand} {t el s : Nat} {v : Value} {L : List α} {h0 : Heap} (hT : SlT P t el s) (hx : e.ev x = v) (HI : SlC c h0 v L) (H : RL P B st ops rest (e.set d (.int .i64 (L.length : Int))) h K) :
    RL P B st ops (⟨some d, .call ⟨.builtin .len, #[x], #[t]⟩, ty, pos, af, none⟩ :: rest) e h K := by
  obtain ⟨Ls, ⟨a, cap, rfl, _⟩, HA⟩ := HI
  rw [HA.1] at hx
  exact r_len hT hx H
theorem r_lenR {α : Type} {c : Cod α} {x : Operand} {t el s : Nat} {v : Value} {M : List (List α)} {h0 : Heap} (hT : SlT P t el s) (hx : e.ev x = v) (HI : SlC2 c h0 v M) (H : RL P B st ops rest (e.set d (.int .i64 (M.length : Int))) h K) :
    RL P B st ops (⟨some d, .call ⟨.builtin .len, #[x], #[t]⟩, ty, pos, af, none⟩ :: rest) e h K := by
  obtain ⟨rs, ⟨a, cap, rfl, _⟩, hl, _⟩ := HI
  rw [List.length_map, hl] at hx
  exact r_len hT hx H
/-! stores -/
/-- What a store of one element does, whatever it is. -/
def StEl (P : Program) (B : Heap → Prop) (st : Bool) (ops : Array Oper) (rest : List Oper) (e : Env) (h : Heap) (K : Env → Heap → Prop) (o : Oper) (el k g n : Nat) (row : List Value) : Prop :=
  ∀ (v : Value) (L : List (List Value)), OwnK h el k g v L → n < L.length → (∀ h', (∀ v' L', OwnK h el k g v' L' → n < L'.length → OwnK h' el k g v' (L'.set n row)) → Upd (· = g) h h' → RL P B st ops rest e h' K) → RL P B st ops (o :: rest) e h K
theorem stEl_ag {x y : Operand} {t el g s n : Nat} {row : List Value} (ht : AgT P t s) (hrow : row.length = s) (hx : e.ev x = .pointer (some ⟨g, n * s, none⟩)) (hy : e.ev y = .agg row.toArray) (h1 : ∀ u ∈ row, isOne u = true) : StEl P B st ops rest e h K ⟨none, .store t x y, ty, pos, af, none⟩ el s g n row :=
  fun v L HO hn H => r_stKA row ht hrow hx hy h1 HO hn H
theorem stEl_na {x y : Operand} {t el g n : Nat} {u : Value} (ht : NaT P t) (hx : e.ev x = .pointer (some ⟨g, n * 1, none⟩)) (hy : e.ev y = u) (h1 : isOne u = true) : StEl P B st ops rest e h K ⟨none, .store t x y, ty, pos, af, none⟩ el 1 g n [u] := by
  intro v L HO hn H
  rw [Nat.mul_one] at hx
  have hl : ∀ v' L', OwnK h el 1 g v' L' → n < L'.length → ∃ x0, L'[n]? = some [x0] := fun v' L' HO' hn' => by
    obtain ⟨_, _, _, _, _, _, _, hk, _⟩ := HO'
    have := hk (L'[n]'hn') (List.getElem_mem _)
    obtain ⟨x0, hx0⟩ := List.length_eq_one_iff.1 this
    exact ⟨x0, by rw [List.getElem?_eq_getElem hn', hx0]⟩
  obtain ⟨x0, hx0⟩ := hl v L HO hn
  have hc := HO.cell hx0 (j := 0) (x := x0) rfl
  rw [Nat.mul_one, Nat.add_zero] at hc
  refine r_st ht hx hy h1 hc (HO.free _) (H _ (fun v' L' HO' hn' => ?_) (upd_set _ _ _))
  obtain ⟨x1, hx1⟩ := hl v' L' HO' hn'
  have := HO'.set (j := 0) u hx1 (by decide)
  rw [Nat.mul_one, Nat.add_zero] at this
  exact this
theorem nodup_flat_inj {Gs : List (List Nat)} (hn : Gs.flatten.Nodup) {i j g : Nat} {G : List Nat} (hi : Gs[i]? = some [g]) (hj : Gs[j]? = some G) (hg : g ∈ G) : i = j := by
  by_cases hij : i = j
  · exact hij
  · exact absurd hg (dj_of hn hi hj hij g (by simp))
theorem r_stO2 {α : Type} {c : Cod α} {o : Oper} {er el : Nat} {g : Nat} {F : List Nat} {Gs : List (List Nat)} {rs : List Value} {v : Value} {M : List (List α)} {m n : Int} {L : List α} {a a' : α} {cs : List Value} (HS : StEl P B st ops rest e h K o el c.k g n.toNat cs) (HO : OwC2 c er el h F Gs rs v M) (hG : Gs[m.toNat]? = some [g]) (hL : gI M m = some L) (ha : gI L n = some a) (hrep : c.rep h a' cs)
    (H : ∀ h', OwC2 c er el h' F Gs rs v (sI M m (sI L n a')) → UpT F h h' → RL P B st ops rest e h' K) : RL P B st ops (o :: rest) e h K := by
  obtain ⟨i, rfl, hm0⟩ := gI_some hL
  clear hL
  have hL := hm0
  rw [Int.toNat_natCast] at hG
  have hnd := HO.notD
  obtain ⟨b, r, hFb, hb2, hr, hi⟩ := ow2_top HO hL
  obtain ⟨G, hG', HR, hGF⟩ := HO.row hr hL
  rw [hG] at hG'; injection hG' with hG'; subst hG'
  obtain ⟨j, rfl, ha'⟩ := gI_some ha
  rcases HO with ⟨rfl, _⟩ | ⟨b', hF', hn, h2, h3, h4, h5, h6⟩
  · simp at hL
  rcases HR with ⟨_, _, hF0⟩ | ⟨g', Ls, hF0, hk2, hk3, hk4⟩
  · cases hF0
  injection hF0 with hF0; subst hF0
  have hj := (List.getElem?_eq_some_iff.1 ha').1
  rw [Int.toNat_natCast] at HS
  refine HS r Ls hk2 (by rw [hk3.1]; exact hj) fun h' hS hU => ?_
  have hk2' := hS r Ls hk2 (by rw [hk3.1]; exact hj)
  have U : UpT F h h' := upT_of hU (hGF g (by simp)) (fun b hb _ => hnd b hb) (hk2'.notD hk4)
  have hbg : b' ≠ g := fun he => by
    rw [hF'] at hn
    exact (List.nodup_cons.1 hn).1 (he ▸ mem_flat hG (by simp))
  refine H h' (.inr ⟨b', hF', hn, h2.upd hU hbg, h3, by simp [sI, h4], by simp [sI, h5], fun i' G' r' L' hGi hri hLi => ?_⟩) U
  by_cases hii : i' = i
  · subst hii
    rw [hG] at hGi; injection hGi with hGi; subst hGi
    rw [hr] at hri; injection hri with hri; subst hri
    have : L' = sI L (j : Int) a' := by
      simp only [sI, Int.toNat_natCast] at hLi ⊢
      rw [List.getElem?_set_self (List.getElem?_eq_some_iff.1 hL).1] at hLi
      exact (Option.some.inj hLi).symm
    subst this
    refine .inr ⟨g, _, rfl, hk2', ?_, hk4⟩
    simp only [sI, Int.toNat_natCast]
    exact (hk3.set j hrep).upT U
  · have hLi' : M[i']? = some L' := by
      simp only [sI, Int.toNat_natCast] at hLi
      rwa [List.getElem?_set_ne (fun he => hii he.symm)] at hLi
    have U1 : UpT [g] h h' := upT_of hU (by simp) (fun b hb _ => hnd b (hGF b hb)) (hk2'.notD hk4)
    exact (h6 i' G' r' L' hGi hri hLi').upT U1 fun x hx hxg => by
      rw [List.mem_singleton.1 hxg] at hx
      rw [hF'] at hn
      exact hii (nodup_flat_inj (List.nodup_cons.1 hn).2 hG hGi hx).symm
/-- A row is set: the row is an owned list of its own. -/
theorem r_stR {α : Type} {c : Cod α} {x y : Operand} {t er el : Nat} {F F' : List Nat} {Gs : List (List Nat)} {rs : List Value} {v r' : Value} {M : List (List α)} {n : Int} {L L' : List α} (ht : NaT P t) (HO : OwC2 c er el h F Gs rs v M) (hL : gI M n = some L) {b : Nat} (hF : F = b :: Gs.flatten) (hx : e.ev x = .pointer (some ⟨b, n.toNat, none⟩)) (hy : e.ev y = r') (HR : OwC c el h F' r' L') (hd : ∀ z ∈ F', z ∉ F)
    (H : ∀ h', OwC2 c er el h' (b :: (Gs.set n.toNat F').flatten) (Gs.set n.toNat F') (rs.set n.toNat r') v (sI M n L') → UpT F h h' → (∀ z ∈ b :: (Gs.set n.toNat F').flatten, z ∈ F ++ F') → RL P B st ops rest e h' K) : RL P B st ops (⟨none, .store t x y, ty, pos, af, none⟩ :: rest) e h K := by
  obtain ⟨i, rfl, hm0⟩ := gI_some hL
  clear hL
  have hL := hm0
  simp only [Int.toNat_natCast, sI] at hx H ⊢
  have hnd := HO.notD
  have hlt := HR.lt
  have hi := (List.getElem?_eq_some_iff.1 hL).1
  rcases HO with ⟨rfl, _⟩ | ⟨b', hF', hn, h2, h3, h4, h5, h6⟩
  · simp at hL
  rw [hF] at hF'; injection hF' with hF'; subst hF'
  have hsub : ∀ z ∈ b :: (Gs.set i F').flatten, z ∈ F ++ F' := by
    intro z hz
    rcases List.mem_cons.1 hz with rfl | hz
    · simp [hF]
    · rcases mem_set_flat hz with h7 | ⟨j, G, _, hG, hz⟩
      · simp [h7]
      · rw [hF]; simp only [List.cons_append, List.mem_cons, List.mem_append]; exact .inr (.inl (mem_flat hG hz))
  rw [hF] at hn
  have hnf := List.nodup_cons.1 hn
  refine (stEl_na (n := i) (el := er) (g := b) ht (by rw [Nat.mul_one]; exact hx) hy HR.isOne) v _ h2 (by simpa using (by omega : i < rs.length)) fun h' hS hU => ?_
  have h2' := hS v _ h2 (by simpa using (by omega : i < rs.length))
  have U : UpT F h h' := upT_of hU (by simp [hF]) (fun b hb _ => hnd b hb) (h2'.notD h3)
  have U1 : UpT [b] h h' := upT_of hU (by simp) (fun x hx _ => hnd x (by rw [List.mem_singleton.1 hx, hF]; simp)) (h2'.notD h3)
  refine H h' (.inr ⟨b, rfl, ?_, by rw [List.map_set]; exact h2', h3, by simp [h4], by simp [h5], fun i' G' r2 L2 hGi hri hLi => ?_⟩) U hsub
  · refine List.nodup_cons.2 ⟨fun hz => ?_, nodup_set_flat hnf.2 HR.nodup fun z hz j G _ hG hzG => ?_⟩
    · rcases mem_set_flat hz with h7 | ⟨j, G, _, hG, hz⟩
      · exact hd b h7 (by rw [hF]; simp)
      · exact hnf.1 (mem_flat hG hz)
    · exact hd z hz (by rw [hF]; exact List.mem_cons_of_mem _ (mem_flat hG hzG))
  · by_cases hii : i' = i
    · subst hii
      rw [List.getElem?_set_self (by omega)] at hGi hri hLi
      injection hGi with hGi; injection hri with hri; injection hLi with hLi
      subst hGi; subst hri; subst hLi
      exact HR.upT U hd
    · rw [List.getElem?_set_ne (fun he => hii he.symm)] at hGi hri hLi
      exact (h6 i' G' r2 L2 hGi hri hLi).upT U1 fun z hz hzb => by
        rw [List.mem_singleton.1 hzb] at hz
        exact hnf.1 (mem_flat hGi hz)
/-! new lists -/
theorem r_mkC1 {α : Type} {c : Cod α} {x y : Operand} {t el bytes : Nat} {n : Int} {z : Value} {a : α} (hT : SlT P t el 1) (hz : ZeT P el z bytes) (h1 : isOne z = true) (hk : c.k = 1) (hrep : ∀ h, c.rep h a [z]) (hel : Nat.beq el 98 = false) (hb : B h) (hBE : ∀ h', Ext h h' → B h') (hx : e.ev x = .int .i64 n) (hy : e.ev y = .int .i64 n) (hby : bytes ≤ 1000) (hn : 0 ≤ n ∧ n ≤ 100000000)
    (H : ∀ b v h', OwC c el h' [b] v (List.replicate n.toNat a) → Ext h h' → h.size ≤ b → b < h'.size → RL P B st ops rest (e.set d v) h' K) :
    RL P B st ops (⟨some d, .makeSlice t x y, ty, pos, af, none⟩ :: rest) e h K := by
  obtain ⟨m, rfl⟩ : ∃ m : Nat, n = m := ⟨n.toNat, by omega⟩
  have h2 : bytes * m ≤ 1000 * 100000000 := Nat.mul_le_mul hby (by omega)
  refine r_mk hT hz h1 hb hx hy (by omega) (by omega) ⟨hBE _ (ext_push _ _), ?_⟩
  rw [Int.toNat_natCast] at H
  refine H h.size _ _ (.inr ⟨h.size, _, rfl, by rw [hk]; exact ownK_of (ownA_new h el m z (by unfold maxLen; omega)), ?_, hel⟩) (ext_push _ _) (Nat.le_refl _) (by simp)
  rw [List.map_replicate]; exact al_rep (hrep _) m
theorem r_mkC2 {x y : Operand} {t el bytes : Nat} {n : Int} (hT : SlT P t el 2) (hz : ZeT P el (.agg #[.bool false, .slice none 0 0]) bytes) (hel : Nat.beq el 98 = false) (hb : B h) (hBE : ∀ h', Ext h h' → B h') (hx : e.ev x = .int .i64 n) (hy : e.ev y = .int .i64 n) (hby : bytes ≤ 1000) (hn : 0 ≤ n ∧ n ≤ 100000000)
    (H : ∀ b v h', OwC cZ el h' [b] v (List.replicate n.toNat 0) → Ext h h' → h.size ≤ b → b < h'.size → RL P B st ops rest (e.set d v) h' K) :
    RL P B st ops (⟨some d, .makeSlice t x y, ty, pos, af, none⟩ :: rest) e h K := by
  obtain ⟨m, rfl⟩ : ∃ m : Nat, n = m := ⟨n.toNat, by omega⟩
  rw [Int.toNat_natCast] at H
  refine r_mkK2 hT hz hb hx hy hby (by omega) (fun h' HO E hlt _ => H h.size _ _ (.inr ⟨h.size, _, rfl, HO, al_rep (c := cZ) (show cZ.rep h' 0 _ from ⟨rfl, ⟨false, _, [], rfl, ds_nil _ _, tl_nil, by simp, rfl⟩⟩) m, hel⟩) E (Nat.le_refl _) hlt) (hBE _ (ext_push _ _))
theorem r_mkR {α : Type} (c : Cod α) (el : Nat) {x y : Operand} {t er bytes : Nat} {n : Int} (hT : SlT P t er 1) (hz : ZeT P er (.slice none 0 0) bytes) (her : Nat.beq er 98 = false) (hb : B h) (hBE : ∀ h', Ext h h' → B h') (hx : e.ev x = .int .i64 n) (hy : e.ev y = .int .i64 n) (hby : bytes ≤ 1000) (hn : 0 ≤ n ∧ n ≤ 100000000)
    (H : ∀ F Gs rs v h', OwC2 c er el h' F Gs rs v (List.replicate n.toNat []) → Ext h h' → Sp h' h.size [F] → RL P B st ops rest (e.set d v) h' K) :
    RL P B st ops (⟨some d, .makeSlice t x y, ty, pos, af, none⟩ :: rest) e h K := by
  obtain ⟨m, rfl⟩ : ∃ m : Nat, n = m := ⟨n.toNat, by omega⟩
  rw [Int.toNat_natCast] at H
  have h2 : bytes * m ≤ 1000 * 100000000 := Nat.mul_le_mul hby (by omega)
  refine r_mk hT hz rfl hb hx hy (by omega) (by omega) ⟨hBE _ (ext_push _ _), ?_⟩
  have hf : (List.replicate m ([] : List Nat)).flatten = [] := by induction m <;> simp_all [List.replicate_succ]
  refine H [h.size] (List.replicate m []) (List.replicate m (.slice none 0 0)) _ _ (.inr ⟨h.size, by rw [hf], by simp, ownK_of (ownA_new h er m _ (by unfold maxLen; omega)), her, by simp, by simp, fun i G r L hG hr hL => .inl ⟨?_, ?_, ?_⟩⟩) (ext_push _ _) (sp_one (Nat.le_refl _) (by simp))
  · exact List.eq_of_mem_replicate (List.mem_of_getElem? hL)
  · exact List.eq_of_mem_replicate (List.mem_of_getElem? hr)
  · exact List.eq_of_mem_replicate (List.mem_of_getElem? hG)
/-! lists that grow -/
theorem val_cells {α : Type} {c : Cod α} {h : Heap} {a : α} {cs : List Value} (hrep : c.rep h a cs) : (c.val cs).cells = cs.toArray := by
  unfold Cod.val
  have h1 := c.one hrep
  have h2 := c.klen hrep
  cases hag : c.ag with
  | true => rfl
  | false =>
    rw [c.sc hag] at h2
    obtain ⟨u, rfl⟩ := List.length_eq_one_iff.1 h2
    have := h1 u (by simp)
    simp only [cond_false, List.headD]
    cases u <;> first | rfl | cases this
/-- 's = append(s, x)'. -/
theorem r_pushC {α : Type} {c : Cod α} {s y : Operand} {t el bytes : Nat} {z v : Value} {F : List Nat} {L : List α} {a : α} {cs : List Value} (hT : SlT P t el c.k) (hz : ZeT P el z bytes) (hzk : z.cells.size = c.k) (hel : Nat.beq el 98 = false) (hb0 : B h) (hbB : ∀ h', UpT F h h' → B h') (hs : ∀ p, (e.set d p).ev s = v) (hy : e.ev y = c.val cs) (hrep : c.rep h a cs) (HO : OwC c el h F v L) (hby : bytes ≤ 1000) (hl : L.length ≤ 100000000)
    (H : ∀ p F' v' h', OwC c el h' F' v' (L ++ [a]) → UpT F h h' → (∀ x ∈ F', x ∈ F ∨ h.size ≤ x) → RL P B st ops rest ((e.set d p).set d' v') h' K) :
    RL P B st ops (⟨some d, .buildSlice t 1 #[(0, y)], ty, pos, af, none⟩ :: ⟨some d', .call ⟨.builtin .append, #[s, .tmp d], #[t, t]⟩, ty', pos', af', none⟩ :: rest) e h K := by
  have hG : ∃ Ls, GroK h el c.k 0 v Ls ∧ Al c h L Ls ∧ (∀ x, v.ownBlock = some x → x ∈ F) ∧ (∀ x ∈ F, v.ownBlock = some x) := by
    rcases HO with ⟨rfl, rfl, rfl⟩ | ⟨g, Ls, rfl, h2, h3, h4⟩
    · exact ⟨[], .inl ⟨rfl, rfl⟩, al_nil c h, (fun x hx => by cases hx), (fun x hx => by simp at hx)⟩
    · exact ⟨Ls, .inr ⟨g, Nat.zero_le _, h2⟩, h3, fun x hx => by rw [h2.blk] at hx; injection hx with hx; simp [hx], fun x hx => by rw [List.mem_singleton.1 hx]; exact h2.blk⟩
  obtain ⟨Ls, HG, HA, hFb, hbF⟩ := hG
  have hnd := HO.notD
  have key : ∀ h', PU el v h h' → UpT F h h' := fun h' U => ⟨⟨U.1.1, fun k hk hkF => U.1.2 k hk fun hv => hkF (hFb k hv)⟩, fun x hx hl => ⟨hnd x hx, by
    obtain ⟨cur, hc⟩ := U.2 x (hbF x hx)
    exact ⟨cur, el, _, hc, hel⟩⟩⟩
  refine r_pushV (B := B) (lo := 0) cs hT hz hzk hb0 (fun h' U => hbB h' (key h' U)) hs hy (val_cells hrep) (c.klen hrep) (c.one hrep) c.pos c.le HG (Nat.zero_le _) hby (by rw [HA.1]; exact hl) fun p v' h' HG' U hv' => ?_
  have UT := key h' U
  rcases HG' with ⟨h1, _⟩ | ⟨g', _, HO'⟩
  · simp at h1
  · refine H p [g'] v' h' (.inr ⟨g', _, rfl, HO', (HA.upT UT).push (c.upT hrep UT), hel⟩) UT fun x hx => ?_
    rw [List.mem_singleton.1 hx]
    rcases hv' with h1 | ⟨g2, h1, h2⟩
    · exact .inl (hFb _ (h1 ▸ HO'.blk))
    · rw [HO'.blk] at h1
      injection h1 with h1
      exact .inr (by omega)
/-- 'out = append(out, row)': the row is an owned list of its own and becomes part of the matrix. -/
theorem r_pushR {α : Type} {c : Cod α} {s y : Operand} {t er el bytes : Nat} {z v r : Value} {F F0 : List Nat} {Gs : List (List Nat)} {rs : List Value} {M : List (List α)} {L : List α} (hT : SlT P t er 1) (hz : ZeT P er z bytes) (hzk : z.cells.size = 1) (her : Nat.beq er 98 = false) (hb0 : B h) (hbB : ∀ h', UpT F h h' → B h') (hs : ∀ p, (e.set d p).ev s = v) (hy : e.ev y = r) (HR : OwC c el h F0 r L) (HO : OwC2 c er el h F Gs rs v M) (hdj : ∀ x ∈ F0, x ∉ F) (hby : bytes ≤ 1000) (hl : M.length ≤ 100000000)
    (H : ∀ p F' v' h', OwC2 c er el h' F' (Gs ++ [F0]) (rs ++ [r]) v' (M ++ [L]) → UpT F h h' → (∀ x ∈ F', x ∈ F ++ F0 ∨ h.size ≤ x) → RL P B st ops rest ((e.set d p).set d' v') h' K) :
    RL P B st ops (⟨some d, .buildSlice t 1 #[(0, y)], ty, pos, af, none⟩ :: ⟨some d', .call ⟨.builtin .append, #[s, .tmp d], #[t, t]⟩, ty', pos', af', none⟩ :: rest) e h K := by
  have hnd := HO.notD
  have hnd0 := HR.notD
  have hlt0 := HR.lt
  have hlt := HO.lt
  have hG : ∃ bs : List Nat, GroK h er 1 0 v (rs.map fun r => [r]) ∧ F = bs ++ Gs.flatten ∧ (∀ x, v.ownBlock = some x → bs = [x]) ∧ (∀ x ∈ bs, v.ownBlock = some x) ∧ rs.length = M.length ∧ Gs.length = M.length ∧ F.Nodup ∧ ∀ (i : Nat) (G : List Nat) (r : Value) (L : List α), Gs[i]? = some G → rs[i]? = some r → M[i]? = some L → OwC c el h G r L := by
    rcases HO with ⟨rfl, rfl, rfl, rfl, rfl⟩ | ⟨b, rfl, hn, h2, h3, h4, h5, h6⟩
    · exact ⟨[], .inl ⟨rfl, rfl⟩, rfl, (fun x hx => by cases hx), (fun x hx => by simp at hx), rfl, rfl, by simp, (fun i G r L hG => by simp at hG)⟩
    · exact ⟨[b], .inr ⟨b, Nat.zero_le _, h2⟩, rfl, fun x hx => by rw [h2.blk] at hx; injection hx with hx; rw [hx], fun x hx => by rw [List.mem_singleton.1 hx]; exact h2.blk, h4, h5, hn, h6⟩
  obtain ⟨bs, HG, hF, hFb, hbF, h4, h5, hn, h6⟩ := hG
  have key : ∀ h', PU er v h h' → UpT bs h h' := fun h' U => ⟨⟨U.1.1, fun k hk hkF => U.1.2 k hk fun hv => hkF (by rw [hFb k hv]; simp)⟩, fun x hx hl => ⟨hnd x (by rw [hF]; simp [hx]), by
    obtain ⟨cur, hc⟩ := U.2 x (hbF x hx)
    exact ⟨cur, er, _, hc, her⟩⟩⟩
  have keyF : ∀ h', UpT bs h h' → UpT F h h' := fun h' U => U.mono (fun x hx => by rw [hF]; simp [hx]) fun x hx _ => hnd x hx
  have hone := HR.isOne
  have hvc : r.cells = [r].toArray := by cases r <;> first | rfl | cases hone
  refine r_pushV (B := B) (lo := 0) [r] hT hz hzk hb0 (fun h' U => hbB h' (keyF h' (key h' U))) hs hy hvc rfl (fun x hx => by rw [List.mem_singleton.1 hx]; exact hone) (by decide) (by decide) HG (Nat.zero_le _) hby (by rw [List.length_map, h4]; exact hl) fun p v' h' HG' U hv' => ?_
  have UT := key h' U
  rcases HG' with ⟨h1, _⟩ | ⟨b', _, HO'⟩
  · simp at h1
  have hsub : b' ∈ F ∨ h.size ≤ b' := by
    rcases hv' with h1 | ⟨g2, h1, h2⟩
    · have := hFb b' (h1 ▸ HO'.blk)
      rw [this] at hF
      exact .inl (by rw [hF]; simp)
    · rw [HO'.blk] at h1
      injection h1 with h1
      exact .inr (by omega)
  have hbG : b' ∉ Gs.flatten := fun hm => by
    rcases hv' with h1 | ⟨g2, h1, h2⟩
    · have := hFb b' (h1 ▸ HO'.blk)
      rw [hF, this] at hn
      exact (List.nodup_cons.1 hn).1 hm
    · rw [HO'.blk] at h1
      injection h1 with h1
      have := hlt b' (by rw [hF]; simp [hm])
      omega
  have hbF0 : b' ∉ F0 := fun hm => by
    rcases hsub with h1 | h1
    · exact hdj b' hm h1
    · have := hlt0 b' hm; omega
  have hnG : Gs.flatten.Nodup := by rw [hF] at hn; exact (List.nodup_append.1 hn).2.1
  refine H p (b' :: (Gs ++ [F0]).flatten) v' h' (.inr ⟨b', rfl, ?_, by rw [List.map_append]; exact HO', her, by simp [h4], by simp [h5], fun i G r2 L2 hGi hri hLi => ?_⟩) (keyF h' UT) fun x hx => ?_
  · refine List.nodup_cons.2 ⟨by simp [hbG, hbF0], ?_⟩
    simp only [List.flatten_append, List.flatten_cons, List.flatten_nil, List.append_nil]
    exact List.nodup_append.2 ⟨hnG, HR.nodup, fun x hx y hy he => hdj y hy (by rw [hF]; simp [he ▸ hx])⟩
  · rcases Nat.lt_or_ge i M.length with hi | hi
    · rw [List.getElem?_append_left (by omega)] at hGi hri hLi
      exact (h6 i G r2 L2 hGi hri hLi).upT UT fun x hx hxb => by
        have hxo := hbF x hxb
        have hb1 := hFb x hxo
        rw [hF, hb1] at hn
        exact (List.nodup_cons.1 hn).1 (mem_flat hGi hx)
    · rw [List.getElem?_append_right (by omega)] at hGi hri hLi
      have : i - M.length = 0 := by have := (List.getElem?_eq_some_iff.1 hLi).1; simp at this; omega
      rw [show i - Gs.length = 0 by omega] at hGi
      rw [show i - rs.length = 0 by omega] at hri
      rw [this] at hLi
      injection hGi with hGi; injection hri with hri; injection hLi with hLi
      subst hGi; subst hri; subst hLi
      exact HR.upT UT fun x hx hxb => hdj x hx (by rw [hF]; simp [hxb])
  · simp only [List.flatten_append, List.flatten_cons, List.flatten_nil, List.append_nil, List.mem_cons, List.mem_append] at hx
    rcases hx with rfl | hx | hx
    · rcases hsub with h1 | h1
      · exact .inl (by simp [h1])
      · exact .inr h1
    · exact .inl (by rw [hF]; simp [hx])
    · exact .inl (by simp [hx])
/-! new variables -/
theorem r_boxE {x : Operand} {t : Nat} {v : Value} (l : List Value) (hb : B h) (hBE : ∀ h', Ext h h' → B h') (hx : e.ev x = v) (hl : v.cells = l.toArray) (H : ∀ b h', BoxH t h' b l → Ext h h' → Sp h' h.size [[b]] → RL P B st ops rest (e.set d (.pointer (some ⟨b, 0, none⟩))) h' K) :
    RL P B st ops (⟨some d, .box t x, ty, pos, af, none⟩ :: rest) e h K := by
  refine r_box hb hx ⟨hBE _ (ext_push _ _), ?_⟩
  exact H h.size _ (by unfold BoxH; rw [hl]; simp) (ext_push _ _) (sp_one (Nat.le_refl _) (by simp))
theorem r_allocE {t bytes : Nat} {z : Value} (l : List Value) (hz : ZeT P t z bytes) (hl : z.cells = l.toArray) (hb : B h) (hBE : ∀ h', Ext h h' → B h') (H : ∀ b h', BoxH t h' b l → Ext h h' → Sp h' h.size [[b]] → RL P B st ops rest (e.set d (.pointer (some ⟨b, 0, none⟩))) h' K) :
    RL P B st ops (⟨some d, .alloc t, ty, pos, af, none⟩ :: rest) e h K := by
  refine r_alloc hz hb ⟨hBE _ (ext_push _ _), ?_⟩
  exact H h.size _ (by unfold BoxH; rw [hl]; simp) (ext_push _ _) (sp_one (Nat.le_refl _) (by simp))
/-- A call, whatever the family of heaps. -/
theorem r_callE {f : FuncId} {xs : List Operand} {ts : Array TypeId} {l : List Value} {K' : Value → Heap → Prop} (hb : B h) (hBE : ∀ h', Ext h h' → B h') (hxs : xs.map e.ev = l) (HC : CallH P f l.toArray h fun x h' => Ext h h' ∧ K' x h')
    (H : ∀ v h', Ext h h' → K' v h' → RL P B st ops rest (e.set d v) h' K) : RL P B st ops (⟨some d, .call ⟨.value (.func f), xs.toArray, ts⟩, ty, pos, af, none⟩ :: rest) e h K :=
  r_call hb hxs HC fun v h' hk => ⟨hBE _ hk.1, H v h' hk.1 hk.2⟩
theorem rep_nilZ (h : Heap) : cZ.rep h 0 [.bool false, .slice none 0 0] := ⟨rfl, ⟨false, _, [], rfl, ds_nil _ _, tl_nil, by simp, rfl⟩⟩
end
end Go.QF


/-
  More types of this program, as the rules ask of them: closed facts. No condition.
-/
namespace Go.Proofs.YtdlfineibanppaaDoor
open Go Go.QF
theorem un_bool : Tryd.prog.underlying 4 = some .bool := Tryd.underlying4
theorem sl_U32 : SlT Tryd.prog 77 98 1 := slT_mk Tryd.underlying77 (by kernel_rfl)
theorem na_U32 : NaT Tryd.prog 77 := naT_mk Tryd.underlying77 rfl (by kernel_rfl)
theorem na_u32 : NaT Tryd.prog 98 := naT_mk Tryd.underlying98 rfl (by kernel_rfl)
theorem it_u32 : IntT Tryd.prog 98 .u32 := Tryd.underlying98
theorem ze_u32 : ZeT Tryd.prog 98 (.int .u32 0) 4 := zeT_mk (by kernel_rfl)
theorem it_u64 : IntT Tryd.prog 99 .u64 := Tryd.underlying99
theorem ag_Z : AgT Tryd.prog 79 2 := agT_mk Tryd.underlying79 rfl (by kernel_rfl)
theorem ze_Z : ZeT Tryd.prog 79 (.agg #[.bool false, .slice none 0 0]) 32 := zeT_mk (by kernel_rfl)
theorem fd_Z0 : FdT Tryd.prog 79 0 0 4 := ⟨_, _, Tryd.underlying79, rfl, rfl, rfl⟩
theorem fd_Z1 : FdT Tryd.prog 79 1 1 77 := ⟨_, _, Tryd.underlying79, rfl, rfl, rfl⟩
theorem sl_ZS : SlT Tryd.prog 76 79 2 := slT_mk Tryd.underlying76 (by kernel_rfl)
theorem na_ZS : NaT Tryd.prog 76 := naT_mk Tryd.underlying76 rfl (by kernel_rfl)
theorem sl_ZZ : SlT Tryd.prog 72 76 1 := slT_mk Tryd.underlying72 (by kernel_rfl)
end Go.Proofs.YtdlfineibanppaaDoor


/-
  Contracts of quadformref01: digits, words, small numbers, signs, comparison. Conditions stand in each statement.
-/
namespace Go.Proofs.YtdlfineibanppaaDoor
open Go Go.QF
set_option linter.unusedVariables false
set_option linter.unusedSimpArgs false
set_option maxRecDepth 100000

theorem ztrim_ok {h : Heap} {lo : Nat} {v : Value} {L : List Nat} (H : DS h lo v L) (hn : L.length ≤ 1000000) : CallH Tryd.prog 90 #[v] h fun x h' => Ext h h' ∧ ∃ L', DS h' (Array.size h) x L' ∧ TL L' ∧ nv L' = nv L ∧ L'.length ≤ L.length := by
  refine calls_of_W (l := [_]) mx Tryd.func90 rfl rfl rfl rfl rfl (by kernel_rfl) ?_
  refine w_seq ?_
  refine w_reg ?_
  refine r_as (r_nil (q_t ?_))
  refine w_seq ?_
  refine w_reg ?_
  refine r_mv (r_lenD sl_U32 rfl H (r_as (r_nil (q_t ?_))))
  refine w_seq ?_
  refine w_block ?_
  refine w_loop 262088 (fun n : Nat => [(3, .int .i64 (n : Int))]) (fun k n h' => h' = h ∧ n = k ∧ n ≤ L.length ∧ nv (L.take n) = nv L) (by kernel_rfl) L.length L.length ?_ ⟨rfl, trivial⟩ ?_
  · exact ⟨rfl, rfl, Nat.le_refl _, by rw [List.take_length]⟩
  rintro k n s1 h ⟨rfl, rfl, hi, hv⟩
  refine w_seq ?_
  refine w_seq ?_
  refine w_reg ?_
  refine r_mv (r_gtr rfl rfl (fun hc1 => ?_) (fun hc1 => ?_))   -- t7 := binOp gtr 3 t6 0:i64 3
  · skip
    refine r_mv (r_want 8 true (by kernel_rfl) rfl rfl (r_mv (r_want 8 true (by kernel_rfl) rfl rfl (r_mv (r_want 8 true (by kernel_rfl) rfl rfl (r_subb rfl rfl (by omega) (by omega) ?_))))))
    rw [show ((n : Nat) : Int) - 1 = ((n - 1 : Nat) : Int) by omega]
    obtain ⟨x, hx⟩ : ∃ x, L[n - 1]? = some x := ⟨_, List.getElem?_eq_getElem (by omega)⟩
    refine r_want 8 true (by kernel_rfl) rfl rfl (r_ixD sl_U32 rfl H rfl hx fun aq1 haq1 => ?_)
    refine r_want 8 true (by kernel_rfl) rfl rfl (r_ld na_u32 rfl haq1 (r_want 8 true (by kernel_rfl) rfl rfl (r_eql rfl rfl (fun hc2 => ?_) (fun hc2 => ?_))))   -- t14 := binOp eql 98 t13 0:u32 98   [guard op2 true]
    · skip
      refine r_pickT rfl (r_nil (q_t ?_))
      refine w_true rfl ?_
      refine w_skip (q_t ?_)
      refine w_block ?_
      refine w_reg ?_
      refine r_mv (r_subb rfl rfl (by omega) (by omega) ?_)
      rw [show ((n : Nat) : Int) - 1 = ((n - 1 : Nat) : Int) by omega]
      have hx0 : x = 0 := by omega
      refine r_as (r_nil (q_b (q_t ?_)))
      exact ⟨n - 1, n - 1, by omega, ⟨rfl, rfl, by omega, by rw [← hv]; have := nv_take_succ hx; rw [show n - 1 + 1 = n by omega] at this; rw [this, hx0]; simp⟩, rfl, trivial⟩
    · skip
      refine r_pickT rfl (r_nil (q_t ?_))
      refine w_false rfl ?_
      refine w_exit (q_tx (q_tx (q_bx (q_t ?_))))
      refine w_seq ?_
      refine w_reg ?_
      refine r_mv (r_mv (r_slToL sl_U32 rfl H.sl H.cap rfl (by rw [List.length_map]; omega) fun v9 HS9 hc9 hb9 => ?_))
      have HD9 : DS h lo v9 (L.take n) := ⟨by rw [List.map_take]; exact HS9, hc9, dig_take H.dig n, fun g hg => H.lo g (hb9 ▸ hg), fun g hg => H.tg g (hb9 ▸ hg)⟩
      refine r_cpD sl_U32 ze_u32 (fun _ => trivial) rfl rfl HD9 (by decide) (by rw [List.length_take]; omega) fun v2 h2 HD2 E2 => ?_
      have sz2 := E2.1
      have Z3 := (Ext.refl h).trans E2
      refine r_as (r_nil (q_t ?_))
      refine w_ret ?_
      refine ⟨_, retV_1, ?_⟩
      refine ⟨E2, L.take n, HD2, ?_, hv, by rw [List.length_take]; omega⟩
      first
      | (have h0 : n = 0 := by omega
         subst h0; exact tl_nil)
      | exact tl_take hx (by omega) (by omega)
  · skip
    refine r_mv (r_skip 8 false (by kernel_rfl) rfl rfl (r_skip 8 false (by kernel_rfl) rfl rfl (r_skip 8 false (by kernel_rfl) rfl rfl (r_skip 8 false (by kernel_rfl) rfl rfl (r_skip 8 false (by kernel_rfl) rfl rfl (r_skip 8 false (by kernel_rfl) rfl rfl (r_pickF rfl (r_nil (q_t ?_)))))))))
    refine w_false rfl ?_
    refine w_exit (q_tx (q_tx (q_bx (q_t ?_))))
    refine w_seq ?_
    refine w_reg ?_
    refine r_mv (r_mv (r_slToL sl_U32 rfl H.sl H.cap rfl (by rw [List.length_map]; omega) fun v9 HS9 hc9 hb9 => ?_))
    have HD9 : DS h lo v9 (L.take n) := ⟨by rw [List.map_take]; exact HS9, hc9, dig_take H.dig n, fun g hg => H.lo g (hb9 ▸ hg), fun g hg => H.tg g (hb9 ▸ hg)⟩
    refine r_cpD sl_U32 ze_u32 (fun _ => trivial) rfl rfl HD9 (by decide) (by rw [List.length_take]; omega) fun v2 h2 HD2 E2 => ?_
    have sz4 := E2.1
    have Z5 := (Ext.refl h).trans E2
    refine r_as (r_nil (q_t ?_))
    refine w_ret ?_
    refine ⟨_, retV_1, ?_⟩
    refine ⟨E2, L.take n, HD2, ?_, hv, by rw [List.length_take]; omega⟩
    first
    | (have h0 : n = 0 := by omega
       subst h0; exact tl_nil)
    | exact tl_take hx (by omega) (by omega)

theorem build_Z0 (w : World) : (Instr.build 79 #[]).run Tryd.prog w = .ok (.agg #[.bool false, .slice none 0 0]) w := by kernel_rfl
theorem build_Z (b : Bool) (a : Option Addr) (n c : Nat) (w : World) : (Instr.build 79 #[(0, .bool b), (1, .slice a n c)]).run Tryd.prog w = .ok (.agg #[.bool b, .slice a n c]) w := by kernel_rfl
theorem sgn_zero (b : Bool) : sgn b 0 = 0 := by cases b <;> rfl

theorem zMake_ok {h : Heap} {lo : Nat} {s : Value} {L : List Nat} (neg : Bool) (H : DS h lo s L) (hn : L.length ≤ 1000000) (hb : nv L < 4294967296 ^ 100) : CallH Tryd.prog 81 #[.bool neg, s] h fun x h' => Ext h h' ∧ ZV h' (Array.size h) x (sgn neg (nv L)) := by
  refine calls_of_W (l := [_, _]) mx Tryd.func81 rfl rfl rfl rfl rfl (by kernel_rfl) ?_
  refine w_seq ?_
  refine w_reg ?_
  refine r_allocB [.bool false, .slice none 0 0] ze_Z rfl (fun _ => trivial) fun bq1 h2 V3 E4 hb5 hl6 => ?_
  have hzbq1 : Array.size h ≤ bq1 := hb5
  have sz7 := E4.1
  have Z8 := (Ext.refl h).trans E4
  refine r_nil (q_t ?_)
  refine w_seq ?_
  refine w_reg ?_
  refine r_mv (r_call trivial rfl (ztrim_ok (H.ext E4) (by omega)) fun x9 h10 hk => ?_)
  obtain ⟨E11, L1, HD1, htl1, hv1, hl1⟩ := hk
  refine ⟨trivial, ?_⟩
  have sz12 := E11.1
  have Z13 := Z8.trans E11
  have X14 := E4.trans E11
  have V3_15 := V3.ext E11
  have Y16 := E4.trans E11
  obtain ⟨a1, n1, c1, rfl, hnc1⟩ := HD1.cap
  refine r_as (r_nil (q_t ?_))
  refine w_seq ?_
  refine w_reg ?_
  refine r_mv ?_
  cases hc1 : neg
  · skip
    refine r_mv (r_skip 9 false (by kernel_rfl) rfl rfl (r_skip 9 false (by kernel_rfl) rfl rfl (r_skip 9 false (by kernel_rfl) rfl rfl (r_pickF rfl (r_mv (r_build (v := .agg #[.bool false, .slice a1 n1 c1]) (build_Z false a1 n1 c1) ?_))))))
    refine r_stA [.bool false, .slice a1 n1 c1] ag_Z rfl rfl rfl rfl (one_Z HD1.cap) V3_15 fun h17 V3_18 U19 => ?_
    have X20 := X14.thenUpd U19 (fun k hk => by have hk2 : k = bq1 := hk; omega)
    have sz21 := U19.1
    have Z22 := Z13.thenUpd U19 (fun k hk => by have hk2 : k = bq1 := hk; omega)
    have Y23 := Y16.thenUpd U19 (fun k hk => by have hk2 : k = bq1 := hk; omega)
    have HD1_24 := HD1.updLo U19 (by omega)
    refine r_nil (q_t ?_)
    refine w_ret ?_
    refine ⟨_, retV_c ag_Z rfl rfl V3_18, ?_⟩
    have hlen1 : L1.length ≤ 100 := tl_len htl1 (by rw [hv1]; exact hb)
    refine ⟨X20, ⟨false, _, L1, rfl, HD1_24.mono (by omega), htl1, hlen1, ?_⟩⟩
    first
    | (rw [hv1]; done)
    | (have h0 : L1 = [] := List.length_eq_zero_iff.1 (by omega)
       rw [← hv1, h0]; exact (sgn_zero _).trans (sgn_zero _).symm)
  · skip
    refine r_mv (r_want 9 true (by kernel_rfl) rfl rfl (r_mv (r_want 9 true (by kernel_rfl) rfl rfl (r_lenD sl_U32 rfl HD1 (r_want 9 true (by kernel_rfl) rfl rfl (r_gtr rfl rfl (fun hc2 => ?_) (fun hc2 => ?_)))))))   -- t12 := binOp gtr 3 t11 0:i64 3   [guard op1 true]
    · skip
      refine r_pickT rfl (r_mv (r_build (v := .agg #[.bool true, .slice a1 n1 c1]) (build_Z true a1 n1 c1) ?_))
      refine r_stA [.bool true, .slice a1 n1 c1] ag_Z rfl rfl rfl rfl (one_Z HD1.cap) V3_15 fun h25 V3_26 U27 => ?_
      have X28 := X14.thenUpd U27 (fun k hk => by have hk2 : k = bq1 := hk; omega)
      have sz29 := U27.1
      have Z30 := Z13.thenUpd U27 (fun k hk => by have hk2 : k = bq1 := hk; omega)
      have Y31 := Y16.thenUpd U27 (fun k hk => by have hk2 : k = bq1 := hk; omega)
      have HD1_32 := HD1.updLo U27 (by omega)
      refine r_nil (q_t ?_)
      refine w_ret ?_
      refine ⟨_, retV_c ag_Z rfl rfl V3_26, ?_⟩
      have hlen1 : L1.length ≤ 100 := tl_len htl1 (by rw [hv1]; exact hb)
      refine ⟨X28, ⟨true, _, L1, rfl, HD1_32.mono (by omega), htl1, hlen1, ?_⟩⟩
      first
      | (rw [hv1]; done)
      | (have h0 : L1 = [] := List.length_eq_zero_iff.1 (by omega)
         rw [← hv1, h0]; exact (sgn_zero _).trans (sgn_zero _).symm)
    · skip
      refine r_pickT rfl (r_mv (r_build (v := .agg #[.bool false, .slice a1 n1 c1]) (build_Z false a1 n1 c1) ?_))
      refine r_stA [.bool false, .slice a1 n1 c1] ag_Z rfl rfl rfl rfl (one_Z HD1.cap) V3_15 fun h33 V3_34 U35 => ?_
      have X36 := X14.thenUpd U35 (fun k hk => by have hk2 : k = bq1 := hk; omega)
      have sz37 := U35.1
      have Z38 := Z13.thenUpd U35 (fun k hk => by have hk2 : k = bq1 := hk; omega)
      have Y39 := Y16.thenUpd U35 (fun k hk => by have hk2 : k = bq1 := hk; omega)
      have HD1_40 := HD1.updLo U35 (by omega)
      refine r_nil (q_t ?_)
      refine w_ret ?_
      refine ⟨_, retV_c ag_Z rfl rfl V3_34, ?_⟩
      have hlen1 : L1.length ≤ 100 := tl_len htl1 (by rw [hv1]; exact hb)
      refine ⟨X36, ⟨false, _, L1, rfl, HD1_40.mono (by omega), htl1, hlen1, ?_⟩⟩
      first
      | (rw [hv1]; done)
      | (have h0 : L1 = [] := List.length_eq_zero_iff.1 (by omega)
         rw [← hv1, h0]; exact (sgn_zero _).trans (sgn_zero _).symm)

theorem zNormalize_ok {h : Heap} {lo : Nat} {va : Value} {z : Int} (HA : ZV h lo va z) : CallH Tryd.prog 94 #[va] h fun x h' => Ext h h' ∧ ZV h' (Array.size h) x (z) := by
  obtain ⟨na, sa, LA, rfl, HDa, htla, hla, hza⟩ := HA.out
  have hna : LA.length ≤ 1000000 := by omega
  have hba : nv LA < 4294967296 ^ 100 := Nat.lt_of_lt_of_le (nv_lt HDa.dig) (Nat.pow_le_pow_right (by decide) hla)
  refine calls_of_W (l := [_]) mx Tryd.func94 rfl rfl rfl rfl rfl (by kernel_rfl) ?_
  refine w_seq ?_
  refine w_reg ?_
  refine r_boxB [.bool na, sa] (fun _ => trivial) rfl rfl fun bq1 h2 V3 E4 hb5 hl6 => ?_
  have hzbq1 : Array.size h ≤ bq1 := hb5
  have sz7 := E4.1
  have Z8 := (Ext.refl h).trans E4
  refine r_allocB [.bool false, .slice none 0 0] ze_Z rfl (fun _ => trivial) fun bq9 h10 V11 E12 hb13 hl14 => ?_
  have hzbq9 : Array.size h ≤ bq9 := Nat.le_trans E4.1 hb13
  have nebq1bq9 : bq1 ≠ bq9 := by have := V3.lt; omega
  have sz15 := E12.1
  have Z16 := Z8.trans E12
  have X17 := E4.trans E12
  have V3_18 := V3.ext E12
  have Y19 := E4.trans E12
  refine r_nil (q_t ?_)
  refine w_seq ?_
  refine w_reg ?_
  refine r_fo (fs := 1) fd_Z0 (by kernel_rfl) (by decide) rfl (r_ld na_bool rfl (V3_18.cell (i := 0) rfl) (r_fo (fs := 1) fd_Z1 (by kernel_rfl) (by decide) rfl (r_ld na_U32 rfl (V3_18.cell (i := 1) rfl) (r_call trivial rfl (zMake_ok na (HDa.ext X17) hna hba) fun x20 h21 hk => ?_))))
  obtain ⟨E22, HZ3⟩ := hk
  refine ⟨trivial, ?_⟩
  have sz23 := E22.1
  have Z24 := Z16.trans E22
  have X25 := X17.trans E22
  have V3_26 := V3_18.ext E22
  have Y27 := Y19.trans E22
  have V11_28 := V11.ext E22
  have Y29 := E12.trans E22
  obtain ⟨ng3, s3, L3, rfl, HD3, htl3, hlen3, hz3⟩ := HZ3.out
  refine r_stA [.bool ng3, s3] ag_Z rfl rfl rfl rfl (one_Z HD3.cap) V11_28 fun h30 V11_31 U32 => ?_
  have X33 := X25.thenUpd U32 (fun k hk => by have hk2 : k = bq9 := hk; omega)
  have sz34 := U32.1
  have Z35 := Z24.thenUpd U32 (fun k hk => by have hk2 : k = bq9 := hk; omega)
  have Y36 := Y29.thenUpd U32 (fun k hk => by have hk2 : k = bq9 := hk; omega)
  have V3_37 := V3.ext Y36
  have Y38 := Y27.thenUpd U32 (fun k hk => by have hk2 : k = bq9 := hk; omega)
  have HD3_39 := HD3.updLo U32 (by omega)
  refine r_nil (q_t ?_)
  refine w_ret ?_
  refine ⟨_, retV_c ag_Z rfl rfl V11_31, ?_⟩
  exact ⟨X33, ⟨ng3, s3, L3, rfl, HD3_39.mono (by omega), htl3, hlen3, by first | (rw [← hz3, hza]; done) | (rw [← hz3, hza]; cases na <;> simp [sgn])⟩⟩

theorem zNeg_ok {h : Heap} {lo : Nat} {va : Value} {z : Int} (HA : ZV h lo va z) : CallH Tryd.prog 77 #[va] h fun x h' => Ext h h' ∧ ZV h' (Array.size h) x (-z) := by
  obtain ⟨na, sa, LA, rfl, HDa, htla, hla, hza⟩ := HA.out
  have hna : LA.length ≤ 1000000 := by omega
  have hba : nv LA < 4294967296 ^ 100 := Nat.lt_of_lt_of_le (nv_lt HDa.dig) (Nat.pow_le_pow_right (by decide) hla)
  refine calls_of_W (l := [_]) mx Tryd.func77 rfl rfl rfl rfl rfl (by kernel_rfl) ?_
  refine w_seq ?_
  refine w_reg ?_
  refine r_boxB [.bool na, sa] (fun _ => trivial) rfl rfl fun bq1 h2 V3 E4 hb5 hl6 => ?_
  have hzbq1 : Array.size h ≤ bq1 := hb5
  have sz7 := E4.1
  have Z8 := (Ext.refl h).trans E4
  refine r_allocB [.bool false, .slice none 0 0] ze_Z rfl (fun _ => trivial) fun bq9 h10 V11 E12 hb13 hl14 => ?_
  have hzbq9 : Array.size h ≤ bq9 := Nat.le_trans E4.1 hb13
  have nebq1bq9 : bq1 ≠ bq9 := by have := V3.lt; omega
  have sz15 := E12.1
  have Z16 := Z8.trans E12
  have X17 := E4.trans E12
  have V3_18 := V3.ext E12
  have Y19 := E4.trans E12
  refine r_nil (q_t ?_)
  refine w_seq ?_
  refine w_reg ?_
  refine r_fo (fs := 1) fd_Z0 (by kernel_rfl) (by decide) rfl (r_ld na_bool rfl (V3_18.cell (i := 0) rfl) (r_not rfl (r_fo (fs := 1) fd_Z1 (by kernel_rfl) (by decide) rfl (r_ld na_U32 rfl (V3_18.cell (i := 1) rfl) (r_call trivial rfl (zMake_ok (!na) (HDa.ext X17) hna hba) fun x20 h21 hk => ?_)))))
  obtain ⟨E22, HZ3⟩ := hk
  refine ⟨trivial, ?_⟩
  have sz23 := E22.1
  have Z24 := Z16.trans E22
  have X25 := X17.trans E22
  have V3_26 := V3_18.ext E22
  have Y27 := Y19.trans E22
  have V11_28 := V11.ext E22
  have Y29 := E12.trans E22
  obtain ⟨ng3, s3, L3, rfl, HD3, htl3, hlen3, hz3⟩ := HZ3.out
  refine r_stA [.bool ng3, s3] ag_Z rfl rfl rfl rfl (one_Z HD3.cap) V11_28 fun h30 V11_31 U32 => ?_
  have X33 := X25.thenUpd U32 (fun k hk => by have hk2 : k = bq9 := hk; omega)
  have sz34 := U32.1
  have Z35 := Z24.thenUpd U32 (fun k hk => by have hk2 : k = bq9 := hk; omega)
  have Y36 := Y29.thenUpd U32 (fun k hk => by have hk2 : k = bq9 := hk; omega)
  have V3_37 := V3.ext Y36
  have Y38 := Y27.thenUpd U32 (fun k hk => by have hk2 : k = bq9 := hk; omega)
  have HD3_39 := HD3.updLo U32 (by omega)
  refine r_nil (q_t ?_)
  refine w_ret ?_
  refine ⟨_, retV_c ag_Z rfl rfl V11_31, ?_⟩
  exact ⟨X33, ⟨ng3, s3, L3, rfl, HD3_39.mono (by omega), htl3, hlen3, by first | (rw [← hz3, hza]; done) | (rw [← hz3, hza]; cases na <;> simp [sgn])⟩⟩

theorem zword_ok (neg : Bool) (w : Nat) (hw : w < 18446744073709551616) (h : Heap) : CallH Tryd.prog 82 #[.bool neg, .int .u64 (w : Int)] h fun x h' => Ext h h' ∧ ZV h' (Array.size h) x (sgn neg w) := by
  refine calls_of_W (l := [_, _]) mx Tryd.func82 rfl rfl rfl rfl rfl (by kernel_rfl) ?_
  refine w_seq ?_
  refine w_reg ?_
  refine r_allocB [.bool false, .slice none 0 0] ze_Z rfl (fun _ => trivial) fun bq1 h2 V3 E4 hb5 hl6 => ?_
  have hzbq1 : Array.size h ≤ bq1 := hb5
  have sz7 := E4.1
  have Z8 := (Ext.refl h).trans E4
  refine r_nil (q_t ?_)
  refine w_seq ?_
  refine w_reg ?_
  refine r_mv (r_mv (r_cv it_u64 it_u32 rfl ?_))
  rw [show IntKind.u32.wrap (w : Int) = ((w % 4294967296 : Nat) : Int) by rw [wrap_u32]; omega]
  refine r_mv (r_shr (n := 32) rfl rfl (by decide) (r_cv it_u64 it_u32 rfl ?_))
  rw [show IntKind.u32.wrap ((w : Int) / 2 ^ 32) = ((w / 4294967296 : Nat) : Int) by rw [wrap_u32]; omega]
  have hdg : Dig [w % 4294967296, w / 4294967296] := by intro x hx; simp only [List.mem_cons, List.not_mem_nil, or_false] at hx; rcases hx with rfl | rfl <;> omega
  refine r_bsO ([w % 4294967296, w / 4294967296].map u32V) sl_U32 ze_u32 rfl (fun _ => trivial) rfl (by omega) (by omega) rfl (by simp [u32V, isOne]) fun g1 v1 h1 HO1 E1 hg1 hl1 => ?_
  have sz9 := E1.1
  have Z10 := Z8.trans E1
  have X11 := E4.trans E1
  have V3_12 := V3.ext E1
  have Y13 := E4.trans E1
  have HD1 := HO1.ds (lo := 0) hdg (Nat.zero_le _)
  have hwv : nv [w % 4294967296, w / 4294967296] = w := by simp only [nv]; omega
  refine r_call trivial rfl (zMake_ok neg HD1 (by simp) (by rw [hwv]; exact Nat.lt_trans hw (by decide))) fun x14 h15 hk => ?_
  obtain ⟨E16, HZ3⟩ := hk
  refine ⟨trivial, ?_⟩
  have sz17 := E16.1
  have Z18 := Z10.trans E16
  have X19 := X11.trans E16
  have V3_20 := V3_12.ext E16
  have Y21 := Y13.trans E16
  obtain ⟨ng3, s3, L3, rfl, HD3, htl3, hlen3, hz3⟩ := HZ3.out
  refine r_stA [.bool ng3, s3] ag_Z rfl rfl rfl rfl (one_Z HD3.cap) V3_20 fun h22 V3_23 U24 => ?_
  have X25 := X19.thenUpd U24 (fun k hk => by have hk2 : k = bq1 := hk; omega)
  have sz26 := U24.1
  have Z27 := Z18.thenUpd U24 (fun k hk => by have hk2 : k = bq1 := hk; omega)
  have Y28 := Y21.thenUpd U24 (fun k hk => by have hk2 : k = bq1 := hk; omega)
  have HD3_29 := HD3.updLo U24 (by omega)
  refine r_nil (q_t ?_)
  refine w_ret ?_
  refine ⟨_, retV_c ag_Z rfl rfl V3_23, ?_⟩
  exact ⟨X25, ⟨ng3, s3, L3, rfl, HD3_29.mono (by omega), htl3, hlen3, by rw [← hz3, hwv]⟩⟩

theorem zSmall_ok {n : Int} (hn : -9223372036854775808 ≤ n ∧ n ≤ 9223372036854775807) (h : Heap) : CallH Tryd.prog 57 #[.int .i64 n] h fun x h' => Ext h h' ∧ ZV h' (Array.size h) x n := by
  refine calls_of_W (l := [_]) mx Tryd.func57 rfl rfl rfl rfl rfl (by kernel_rfl) ?_
  refine w_seq ?_
  refine w_reg ?_
  refine r_allocB [.bool false, .slice none 0 0] ze_Z rfl (fun _ => trivial) fun bq1 h2 V3 E4 hb5 hl6 => ?_
  have hzbq1 : Array.size h ≤ bq1 := hb5
  have sz7 := E4.1
  have Z8 := (Ext.refl h).trans E4
  refine r_nil (q_t ?_)
  refine w_seq ?_
  refine w_seq ?_
  refine w_reg ?_
  refine r_mv (r_lss rfl rfl (fun hc1 => ?_) (fun hc1 => ?_))   -- t4 := binOp lss 2 t3 0:i64 2
  · skip
    refine r_nil (q_t ?_)
    refine w_true rfl ?_
    refine w_seq ?_
    refine w_reg ?_
    refine r_mv (r_cv it_i64 it_u64 rfl ?_)
    rw [show IntKind.u64.wrap n = n + 18446744073709551616 by rw [wrap_u64]; omega]
    refine r_neg rfl ?_
    rw [show IntKind.u64.wrap (0 - (n + 18446744073709551616)) = ((n.natAbs : Nat) : Int) by rw [wrap_u64]; omega]
    refine r_call trivial rfl (zword_ok true n.natAbs (by omega) _) fun x9 h10 hk => ?_
    obtain ⟨E11, HZ2⟩ := hk
    refine ⟨trivial, ?_⟩
    have sz12 := E11.1
    have Z13 := Z8.trans E11
    have X14 := E4.trans E11
    have V3_15 := V3.ext E11
    have Y16 := E4.trans E11
    obtain ⟨ng2, s2, L2, rfl, HD2, htl2, hlen2, hz2⟩ := HZ2.out
    refine r_stA [.bool ng2, s2] ag_Z rfl rfl rfl rfl (one_Z HD2.cap) V3_15 fun h17 V3_18 U19 => ?_
    have X20 := X14.thenUpd U19 (fun k hk => by have hk2 : k = bq1 := hk; omega)
    have sz21 := U19.1
    have Z22 := Z13.thenUpd U19 (fun k hk => by have hk2 : k = bq1 := hk; omega)
    have Y23 := Y16.thenUpd U19 (fun k hk => by have hk2 : k = bq1 := hk; omega)
    have HD2_24 := HD2.updLo U19 (by omega)
    refine r_nil (q_t ?_)
    refine w_ret (q_tr ?_)
    refine ⟨_, retV_c ag_Z rfl rfl V3_18, ?_⟩
    exact ⟨X20, ⟨ng2, s2, L2, rfl, HD2_24.mono (by omega), htl2, hlen2, by rw [← hz2]; unfold sgn; first | (rw [if_pos rfl]; omega) | (rw [if_neg (by decide)]; omega)⟩⟩
  · skip
    refine r_nil (q_t ?_)
    refine w_false rfl ?_
    refine w_skip (q_t ?_)
    refine w_seq ?_
    refine w_reg ?_
    refine r_mv (r_cv it_i64 it_u64 rfl ?_)
    rw [show IntKind.u64.wrap n = ((n.natAbs : Nat) : Int) by rw [wrap_u64]; omega]
    refine r_call trivial rfl (zword_ok false n.natAbs (by omega) _) fun x25 h26 hk => ?_
    obtain ⟨E27, HZ2⟩ := hk
    refine ⟨trivial, ?_⟩
    have sz28 := E27.1
    have Z29 := Z8.trans E27
    have X30 := E4.trans E27
    have V3_31 := V3.ext E27
    have Y32 := E4.trans E27
    obtain ⟨ng2, s2, L2, rfl, HD2, htl2, hlen2, hz2⟩ := HZ2.out
    refine r_stA [.bool ng2, s2] ag_Z rfl rfl rfl rfl (one_Z HD2.cap) V3_31 fun h33 V3_34 U35 => ?_
    have X36 := X30.thenUpd U35 (fun k hk => by have hk2 : k = bq1 := hk; omega)
    have sz37 := U35.1
    have Z38 := Z29.thenUpd U35 (fun k hk => by have hk2 : k = bq1 := hk; omega)
    have Y39 := Y32.thenUpd U35 (fun k hk => by have hk2 : k = bq1 := hk; omega)
    have HD2_40 := HD2.updLo U35 (by omega)
    refine r_nil (q_t ?_)
    refine w_ret ?_
    refine ⟨_, retV_c ag_Z rfl rfl V3_34, ?_⟩
    exact ⟨X36, ⟨ng2, s2, L2, rfl, HD2_40.mono (by omega), htl2, hlen2, by rw [← hz2]; unfold sgn; first | (rw [if_pos rfl]; omega) | (rw [if_neg (by decide)]; omega)⟩⟩

theorem zlow_ok {h : Heap} {lo : Nat} {v : Value} {L : List Nat} (H : DS h lo v L) (hn : L.length ≤ 2) : CallH Tryd.prog 91 #[v] h fun x h' => h' = h ∧ x = .int .u64 (nv L : Int) := by
  refine calls_of_W (l := [_]) mx Tryd.func91 rfl rfl rfl rfl rfl (by kernel_rfl) ?_
  refine w_seq ?_
  refine w_reg ?_
  refine r_as (r_nil (q_t ?_))
  refine w_seq ?_
  refine w_reg ?_
  refine r_as (r_nil (q_t ?_))
  refine w_seq ?_
  refine w_seq ?_
  refine w_reg ?_
  refine r_as (r_nil (q_t ?_))
  refine w_block ?_
  refine w_loop 33554424 (fun y : Nat × Nat => [(4, .int .i64 (y.1 : Int)), (3, .int .u64 (y.2 : Int))]) (fun k y h' => h' = h ∧ k = L.length - y.1 ∧ y.1 ≤ L.length ∧ y.2 = nv (L.take y.1)) (by kernel_rfl) L.length (0, 0) ?_ ⟨rfl, rfl, trivial⟩ ?_
  · exact ⟨rfl, rfl, Nat.zero_le _, rfl⟩
  rintro k ⟨i, w⟩ s1 h ⟨rfl, rfl, hi, hw⟩
  dsimp only at hi hw ⊢
  subst hw
  refine w_seq ?_
  refine w_seq ?_
  refine w_reg ?_
  refine r_mv (r_mv (r_lenD sl_U32 rfl H (r_lss rfl rfl (fun hc1 => ?_) (fun hc1 => ?_))))   -- t8 := binOp lss 3 t5 t7 3
  · skip
    refine r_mv (r_want 9 true (by kernel_rfl) rfl rfl (r_mv (r_want 9 true (by kernel_rfl) rfl rfl (r_lss rfl rfl (fun hc2 => ?_) (fun hc2 => ?_)))))   -- t11 := binOp lss 3 t10 2:i64 3   [guard op4 true]
    · skip
      refine r_pickT rfl (r_nil (q_t ?_))
      refine w_true rfl ?_
      refine w_skip (q_t ?_)
      refine w_seq ?_
      refine w_block ?_
      obtain ⟨x, hx⟩ : ∃ x, L[i]? = some x := ⟨_, List.getElem?_eq_getElem (by omega)⟩
      have hxb := H.dig x (List.mem_of_getElem? hx)
      refine w_reg ?_
      refine r_mv (r_mv (r_mv (r_ixD sl_U32 rfl H rfl hx fun aq1 haq1 => ?_)))
      refine r_ld na_u32 rfl haq1 (r_cvk it_u32 it_u64 rfl (by rw [wrap_u64]; omega) ?_)
      refine r_mv (r_mulb rfl rfl (by omega) (by omega) ?_)
      rw [show (32 : Int) * (i : Int) = ((32 * i : Nat) : Int) by omega]
      refine r_shl (n := 32 * i) rfl rfl (by show 32 * i ≤ 64; omega) ?_
      have hi1 : i = 0 ∨ i = 1 := by omega
      have hlt := nv_take_lt H.dig hi
      have hsh : IntKind.u64.wrap ((x : Int) * 2 ^ (32 * i)) = ((2 ^ (32 * i) * x : Nat) : Int) := by
        rw [wrap_u64]
        rcases hi1 with rfl | rfl
        · simp; omega
        · simp; omega
      rw [hsh]
      have hb1 : 2 ^ (32 * i) * x < 18446744073709551616 := by
        rcases hi1 with rfl | rfl
        · simp; omega
        · simp; omega
      have hb2 : nv (L.take i) < 18446744073709551616 := by
        rcases hi1 with rfl | rfl
        · simp at hlt ⊢; omega
        · simp at hlt ⊢; omega
      refine r_bits rfl rfl (.inr (.inl rfl)) (or_u64 hb2 hb1) ?_
      rw [or_add (by rw [← bb_pow]; exact hlt), ← bb_pow, ← nv_take_succ hx]
      refine r_as (r_nil (q_b (q_t ?_)))
      refine w_reg ?_
      refine r_mv (r_inc rfl (by omega) (r_as (r_nil (q_t ?_))))
      exact ⟨L.length - (i + 1), (i + 1, nv (L.take (i + 1))), by first | omega | (dsimp only; omega), ⟨rfl, rfl, by first | omega | (dsimp only; omega), rfl⟩, rfl, rfl, trivial⟩
    · skip
      refine r_pickT rfl (r_nil (q_t ?_))
      refine w_false rfl ?_
      refine w_exit (q_tx (q_tx (q_bx (q_t ?_))))
      refine w_seq ?_
      refine w_reg ?_
      refine r_mv (r_as (r_nil (q_t ?_)))
      refine w_ret ?_
      refine ⟨_, retV_1, ?_⟩
      obtain rfl : i = L.length := by omega
      exact ⟨rfl, by rw [List.take_length] at *; rfl⟩
  · skip
    refine r_mv (r_skip 9 false (by kernel_rfl) rfl rfl (r_skip 9 false (by kernel_rfl) rfl rfl (r_pickF rfl (r_nil (q_t ?_)))))
    refine w_false rfl ?_
    refine w_exit (q_tx (q_tx (q_bx (q_t ?_))))
    refine w_seq ?_
    refine w_reg ?_
    refine r_mv (r_as (r_nil (q_t ?_)))
    refine w_ret ?_
    refine ⟨_, retV_1, ?_⟩
    obtain rfl : i = L.length := by omega
    exact ⟨rfl, by rw [List.take_length] at *; rfl⟩

def sigZ (z : Int) : Int := if z < 0 then -1 else if z = 0 then 0 else 1
theorem sign_zero {z : Int} (h : z = 0) : sigZ z = 0 := by subst h; rfl
theorem sign_neg {z : Int} (h : z < 0) : sigZ z = -1 := if_pos h
theorem sign_pos {z : Int} (h : 0 < z) : sigZ z = 1 := by unfold sigZ; rw [if_neg (by omega), if_neg (by omega)]

theorem zSign_ok {h : Heap} {lo : Nat} {va : Value} {z : Int} (HA : ZV h lo va z) : CallH Tryd.prog 87 #[va] h fun x h' => Ext h h' ∧ x = .int .i64 (sigZ z) := by
  obtain ⟨na, sa, LA, rfl, HDa, htla, hla, hza⟩ := HA.out
  have hna : LA.length ≤ 1000000 := by omega
  have hba : nv LA < 4294967296 ^ 100 := Nat.lt_of_lt_of_le (nv_lt HDa.dig) (Nat.pow_le_pow_right (by decide) hla)
  refine calls_of_W (l := [_]) mx Tryd.func87 rfl rfl rfl rfl rfl (by kernel_rfl) ?_
  refine w_seq ?_
  refine w_reg ?_
  refine r_boxB [.bool na, sa] (fun _ => trivial) rfl rfl fun bq1 h2 V3 E4 hb5 hl6 => ?_
  have hzbq1 : Array.size h ≤ bq1 := hb5
  have sz7 := E4.1
  have Z8 := (Ext.refl h).trans E4
  refine r_as (r_nil (q_t ?_))
  refine w_seq ?_
  refine w_block ?_
  refine w_seq ?_
  refine w_reg ?_
  refine r_fo (fs := 1) fd_Z1 (by kernel_rfl) (by decide) rfl (r_ld na_U32 rfl (V3.cell (i := 1) rfl) (r_call trivial rfl (ztrim_ok (HDa.ext E4) hna) fun x9 h10 hk => ?_))
  obtain ⟨E11, L1, HD1, htl1, hv1, hl1⟩ := hk
  refine ⟨trivial, ?_⟩
  have sz12 := E11.1
  have Z13 := Z8.trans E11
  have X14 := E4.trans E11
  have V3_15 := V3.ext E11
  have Y16 := E4.trans E11
  refine r_lenD sl_U32 rfl HD1 (r_eql rfl rfl (fun hc1 => ?_) (fun hc1 => ?_))   -- t8 := binOp eql 3 t7 0:i64 3
  · skip
    refine r_as (r_nil (q_t ?_))
    refine w_true rfl ?_
    refine w_seq ?_
    refine w_reg ?_
    refine r_as (r_nil (q_t ?_))
    refine w_ret (q_br (q_tr ?_))
    refine ⟨_, retV_1, ?_⟩
    first
    | (have h0 : L1 = [] := List.length_eq_zero_iff.1 (by omega)
       have h1 : nv LA = 0 := by rw [← hv1, h0]; rfl
       exact ⟨X14, congrArg (Value.int .i64) (sign_zero (hza.trans (by rw [h1]; cases na <;> rfl))).symm⟩)
    | (have h1 : nv LA ≠ 0 := fun h0 => by rw [← hv1] at h0; have := congrArg List.length (nv_zero_tl htl1 h0); rw [List.length_nil] at this; omega
       have h3 : na = true := by assumption
       exact ⟨X14, congrArg (Value.int .i64) (sign_neg (by rw [hza, h3]; unfold sgn; rw [if_pos rfl]; omega)).symm⟩)
    | (have h1 : nv LA ≠ 0 := fun h0 => by rw [← hv1] at h0; have := congrArg List.length (nv_zero_tl htl1 h0); rw [List.length_nil] at this; omega
       have h3 : na = false := by assumption
       exact ⟨X14, congrArg (Value.int .i64) (sign_pos (by rw [hza, h3]; unfold sgn; rw [if_neg (by decide)]; omega)).symm⟩)
  · skip
    refine r_as (r_nil (q_t ?_))
    refine w_false rfl ?_
    refine w_seq ?_
    refine w_reg ?_
    refine r_fo (fs := 1) fd_Z0 (by kernel_rfl) (by decide) rfl (r_ld na_bool rfl (V3_15.cell (i := 0) rfl) ?_)
    cases hc2 : na
    · skip
      refine r_as (r_nil (q_t ?_))
      refine w_false rfl ?_
      refine w_skip (q_b (q_t ?_))
      refine w_seq ?_
      refine w_reg ?_
      refine r_as (r_nil (q_t ?_))
      refine w_ret ?_
      refine ⟨_, retV_1, ?_⟩
      first
      | (have h0 : L1 = [] := List.length_eq_zero_iff.1 (by omega)
         have h1 : nv LA = 0 := by rw [← hv1, h0]; rfl
         exact ⟨X14, congrArg (Value.int .i64) (sign_zero (hza.trans (by rw [h1]; cases na <;> rfl))).symm⟩)
      | (have h1 : nv LA ≠ 0 := fun h0 => by rw [← hv1] at h0; have := congrArg List.length (nv_zero_tl htl1 h0); rw [List.length_nil] at this; omega
         have h3 : na = true := by assumption
         exact ⟨X14, congrArg (Value.int .i64) (sign_neg (by rw [hza, h3]; unfold sgn; rw [if_pos rfl]; omega)).symm⟩)
      | (have h1 : nv LA ≠ 0 := fun h0 => by rw [← hv1] at h0; have := congrArg List.length (nv_zero_tl htl1 h0); rw [List.length_nil] at this; omega
         have h3 : na = false := by assumption
         exact ⟨X14, congrArg (Value.int .i64) (sign_pos (by rw [hza, h3]; unfold sgn; rw [if_neg (by decide)]; omega)).symm⟩)
    · skip
      refine r_as (r_nil (q_t ?_))
      refine w_true rfl ?_
      refine w_seq ?_
      refine w_reg ?_
      refine r_as (r_nil (q_t ?_))
      refine w_ret (q_br (q_tr ?_))
      refine ⟨_, retV_1, ?_⟩
      first
      | (have h0 : L1 = [] := List.length_eq_zero_iff.1 (by omega)
         have h1 : nv LA = 0 := by rw [← hv1, h0]; rfl
         exact ⟨X14, congrArg (Value.int .i64) (sign_zero (hza.trans (by rw [h1]; cases na <;> rfl))).symm⟩)
      | (have h1 : nv LA ≠ 0 := fun h0 => by rw [← hv1] at h0; have := congrArg List.length (nv_zero_tl htl1 h0); rw [List.length_nil] at this; omega
         have h3 : na = true := by assumption
         exact ⟨X14, congrArg (Value.int .i64) (sign_neg (by rw [hza, h3]; unfold sgn; rw [if_pos rfl]; omega)).symm⟩)
      | (have h1 : nv LA ≠ 0 := fun h0 => by rw [← hv1] at h0; have := congrArg List.length (nv_zero_tl htl1 h0); rw [List.length_nil] at this; omega
         have h3 : na = false := by assumption
         exact ⟨X14, congrArg (Value.int .i64) (sign_pos (by rw [hza, h3]; unfold sgn; rw [if_neg (by decide)]; omega)).symm⟩)

def cmpN (a b : Nat) : Int := if a < b then -1 else if a = b then 0 else 1
theorem cmp_lt {a b : Nat} (h : a < b) : cmpN a b = -1 := if_pos h
theorem cmp_gt {a b : Nat} (h : b < a) : cmpN a b = 1 := by unfold cmpN; rw [if_neg (by omega), if_neg (by omega)]
theorem cmp_eq {a b : Nat} (h : a = b) : cmpN a b = 0 := by unfold cmpN; rw [if_neg (by omega), if_pos h]
theorem len_lt {A B : List Nat} (ha : Dig A) (hb : TL B) (h : A.length < B.length) : nv A < nv B := by
  have h1 := nv_lt ha
  have h2 := nv_ge hb (fun he => by rw [he] at h; simp at h)
  have h3 : 4294967296 ^ A.length ≤ 4294967296 ^ (B.length - 1) := Nat.pow_le_pow_right (by decide) (by omega)
  omega
theorem dig_lt {A B : List Nat} (ha : Dig A) (hb : Dig B) {i x y : Nat} (hl : A.length = B.length) (hx : A[i]? = some x) (hy : B[i]? = some y) (hxy : x < y) (hs : ∀ q, i < q → A[q]? = B[q]?) : nv A < nv B := by
  have hi := (List.getElem?_eq_some_iff.1 hx).1
  have hd : A.drop (i + 1) = B.drop (i + 1) := List.ext_getElem? fun q => by rw [List.getElem?_drop, List.getElem?_drop]; exact hs _ (by omega)
  have e : ∀ L : List Nat, nv L = nv (L.take (i + 1)) + 4294967296 ^ (L.take (i + 1)).length * nv (L.drop (i + 1)) := fun L => by rw [← nv_append, List.take_append_drop]
  rw [e A, e B, hd, nv_take_succ hx, nv_take_succ hy, List.length_take, List.length_take, hl]
  have h1 := nv_take_lt ha (i := i) (by omega)
  have h2 : 4294967296 ^ i * (x + 1) ≤ 4294967296 ^ i * y := Nat.mul_le_mul_left _ hxy
  rw [Nat.mul_add, Nat.mul_one] at h2
  omega

theorem zcmp_ok {h : Heap} {la lb : Nat} {va vb : Value} {LA LB : List Nat} (HA : DS h la va LA) (HB : DS h lb vb LB) (hta : TL LA) (htb : TL LB) (hna : LA.length ≤ 1000000) (hnb : LB.length ≤ 1000000) : CallH Tryd.prog 98 #[va, vb] h fun x h' => h' = h ∧ x = .int .i64 (cmpN (nv LA) (nv LB)) := by
  refine calls_of_W (l := [_, _]) mx Tryd.func98 rfl rfl rfl rfl rfl (by kernel_rfl) ?_
  refine w_seq ?_
  refine w_reg ?_
  refine r_as (r_nil (q_t ?_))
  refine w_seq ?_
  refine w_seq ?_
  refine w_reg ?_
  refine r_mv (r_lenD sl_U32 rfl HA (r_mv (r_lenD sl_U32 rfl HB (r_neq rfl rfl (fun hc1 => ?_) (fun hc1 => ?_)))))   -- t10 := binOp neq 3 t7 t9 3
  · skip
    refine r_nil (q_t ?_)
    refine w_true rfl ?_
    refine w_seq ?_
    refine w_seq ?_
    refine w_reg ?_
    refine r_mv (r_lenD sl_U32 rfl HA (r_mv (r_lenD sl_U32 rfl HB (r_lss rfl rfl (fun hc2 => ?_) (fun hc2 => ?_)))))   -- t15 := binOp lss 3 t12 t14 3
    · skip
      refine r_nil (q_t ?_)
      refine w_true rfl ?_
      refine w_seq ?_
      refine w_reg ?_
      refine r_as (r_nil (q_t ?_))
      refine w_ret (q_tr (q_tr ?_))
      refine ⟨_, retV_1, ?_⟩
      first
      | exact ⟨rfl, congrArg (Value.int .i64) (cmp_lt (len_lt HA.dig htb (by omega))).symm⟩
      | exact ⟨rfl, congrArg (Value.int .i64) (cmp_gt (len_lt HB.dig hta (by omega))).symm⟩
      | exact ⟨rfl, congrArg (Value.int .i64) (cmp_lt (dig_lt HA.dig HB.dig (by omega) hx hy (by omega) (fun q hq => hsame q (by omega)))).symm⟩
      | exact ⟨rfl, congrArg (Value.int .i64) (cmp_gt (dig_lt HB.dig HA.dig (by omega) hy hx (by omega) (fun q hq => (hsame q (by omega)).symm))).symm⟩
      | exact ⟨rfl, congrArg (Value.int .i64) (cmp_eq (congrArg nv (List.ext_getElem? fun q => hsame q (by omega)))).symm⟩
    · skip
      refine r_nil (q_t ?_)
      refine w_false rfl ?_
      refine w_skip (q_t ?_)
      refine w_seq ?_
      refine w_reg ?_
      refine r_as (r_nil (q_t ?_))
      refine w_ret (q_tr ?_)
      refine ⟨_, retV_1, ?_⟩
      first
      | exact ⟨rfl, congrArg (Value.int .i64) (cmp_lt (len_lt HA.dig htb (by omega))).symm⟩
      | exact ⟨rfl, congrArg (Value.int .i64) (cmp_gt (len_lt HB.dig hta (by omega))).symm⟩
      | exact ⟨rfl, congrArg (Value.int .i64) (cmp_lt (dig_lt HA.dig HB.dig (by omega) hx hy (by omega) (fun q hq => hsame q (by omega)))).symm⟩
      | exact ⟨rfl, congrArg (Value.int .i64) (cmp_gt (dig_lt HB.dig HA.dig (by omega) hy hx (by omega) (fun q hq => (hsame q (by omega)).symm))).symm⟩
      | exact ⟨rfl, congrArg (Value.int .i64) (cmp_eq (congrArg nv (List.ext_getElem? fun q => hsame q (by omega)))).symm⟩
  · skip
    refine r_nil (q_t ?_)
    refine w_false rfl ?_
    refine w_skip (q_t ?_)
    refine w_seq ?_
    refine w_seq ?_
    refine w_reg ?_
    refine r_mv (r_lenD sl_U32 rfl HA (r_subb rfl rfl (by omega) (by omega) ?_))
    refine r_as (r_nil (q_t ?_))
    refine w_block ?_
    refine w_loop 2199022731312 (fun i : Nat => [(5, .int .i64 ((i : Int) - 1))]) (fun k i h' => h' = h ∧ i = k ∧ i ≤ LA.length ∧ ∀ q, i ≤ q → LA[q]? = LB[q]?) (by kernel_rfl) LA.length LA.length ?_ ⟨rfl, trivial⟩ ?_
    · exact ⟨rfl, rfl, Nat.le_refl _, fun q hq => by rw [List.getElem?_eq_none hq, List.getElem?_eq_none (by omega)]⟩
    rintro k i s1 h ⟨rfl, rfl, hi, hsame⟩
    refine w_seq ?_
    refine w_seq ?_
    refine w_reg ?_
    refine r_mv (r_geq rfl rfl (fun hc3 => ?_) (fun hc3 => ?_))   -- t20 := binOp geq 3 t19 0:i64 3
    · skip
      refine r_nil (q_t ?_)
      refine w_true rfl ?_
      refine w_skip (q_t ?_)
      refine w_seq ?_
      refine w_block ?_
      refine w_seq ?_
      obtain ⟨x, hx⟩ : ∃ x, LA[i - 1]? = some x := ⟨_, List.getElem?_eq_getElem (by omega)⟩
      obtain ⟨y, hy⟩ : ∃ y, LB[i - 1]? = some y := ⟨_, List.getElem?_eq_getElem (by omega)⟩
      have e1 : ((i : Int) - 1) = ((i - 1 : Nat) : Int) := by omega
      refine w_draw (by kernel_rfl) ?_
      refine r_mv (r_mv (r_ixD (n := i - 1) sl_U32 rfl HA (show Value.int .i64 ((i : Int) - 1) = _ by rw [e1]) hx fun a1 ha1 => ?_))
      refine r_ld na_u32 rfl ha1 (r_mv (r_mv (r_ixD (n := i - 1) sl_U32 rfl HB (show Value.int .i64 ((i : Int) - 1) = _ by rw [e1]) hy fun a2 ha2 => ?_)))
      refine r_ld na_u32 rfl ha2 (r_neq rfl rfl (fun hc4 => ?_) (fun hc4 => ?_))   -- t31 := binOp neq 98 t26 t30 98
      · skip
        refine r_nil (q_t ?_)
        refine w_true rfl ?_
        refine w_seq ?_
        refine w_seq ?_
        refine w_draw (by kernel_rfl) ?_
        refine r_mv (r_mv (r_ixD (n := i - 1) sl_U32 rfl HA (show Value.int .i64 ((i : Int) - 1) = _ by rw [e1]) hx fun a3 ha3 => ?_))
        refine r_ld na_u32 rfl ha3 (r_mv (r_mv (r_ixD (n := i - 1) sl_U32 rfl HB (show Value.int .i64 ((i : Int) - 1) = _ by rw [e1]) hy fun a4 ha4 => ?_)))
        refine r_ld na_u32 rfl ha4 (r_lss rfl rfl (fun hc5 => ?_) (fun hc5 => ?_))   -- t40 := binOp lss 98 t35 t39 98
        · skip
          refine r_nil (q_t ?_)
          refine w_true rfl ?_
          refine w_seq ?_
          refine w_reg ?_
          refine r_as (r_nil (q_t ?_))
          refine w_ret (q_tr (q_br (q_tr (q_tr (q_br (q_tr ?_))))))
          refine ⟨_, retV_1, ?_⟩
          first
          | exact ⟨rfl, congrArg (Value.int .i64) (cmp_lt (len_lt HA.dig htb (by omega))).symm⟩
          | exact ⟨rfl, congrArg (Value.int .i64) (cmp_gt (len_lt HB.dig hta (by omega))).symm⟩
          | exact ⟨rfl, congrArg (Value.int .i64) (cmp_lt (dig_lt HA.dig HB.dig (by omega) hx hy (by omega) (fun q hq => hsame q (by omega)))).symm⟩
          | exact ⟨rfl, congrArg (Value.int .i64) (cmp_gt (dig_lt HB.dig HA.dig (by omega) hy hx (by omega) (fun q hq => (hsame q (by omega)).symm))).symm⟩
          | exact ⟨rfl, congrArg (Value.int .i64) (cmp_eq (congrArg nv (List.ext_getElem? fun q => hsame q (by omega)))).symm⟩
        · skip
          refine r_nil (q_t ?_)
          refine w_false rfl ?_
          refine w_skip (q_t ?_)
          refine w_seq ?_
          refine w_reg ?_
          refine r_as (r_nil (q_t ?_))
          refine w_ret (q_br (q_tr (q_tr (q_br (q_tr ?_)))))
          refine ⟨_, retV_1, ?_⟩
          first
          | exact ⟨rfl, congrArg (Value.int .i64) (cmp_lt (len_lt HA.dig htb (by omega))).symm⟩
          | exact ⟨rfl, congrArg (Value.int .i64) (cmp_gt (len_lt HB.dig hta (by omega))).symm⟩
          | exact ⟨rfl, congrArg (Value.int .i64) (cmp_lt (dig_lt HA.dig HB.dig (by omega) hx hy (by omega) (fun q hq => hsame q (by omega)))).symm⟩
          | exact ⟨rfl, congrArg (Value.int .i64) (cmp_gt (dig_lt HB.dig HA.dig (by omega) hy hx (by omega) (fun q hq => (hsame q (by omega)).symm))).symm⟩
          | exact ⟨rfl, congrArg (Value.int .i64) (cmp_eq (congrArg nv (List.ext_getElem? fun q => hsame q (by omega)))).symm⟩
      · skip
        refine r_nil (q_t ?_)
        refine w_false rfl ?_
        refine w_skip (q_b (q_t ?_))
        refine w_reg ?_
        refine r_mv (r_subb rfl rfl (by omega) (by omega) ?_)
        refine r_as (r_nil (q_t ?_))
        exact ⟨i - 1, i - 1, by omega, ⟨rfl, rfl, by omega, fun q hq => by rcases Nat.lt_or_ge q i with h2 | h2; obtain rfl : q = i - 1 := (by omega); rw [hx, hy]; congr 1; omega; exact hsame q h2⟩, by rw [show ((i - 1 : Nat) : Int) - 1 = (i : Int) - 1 - 1 by omega]; rfl, trivial⟩
    · skip
      refine r_nil (q_t ?_)
      refine w_false rfl ?_
      refine w_exit (q_tx (q_tx (q_bx (q_t ?_))))
      refine w_seq ?_
      refine w_reg ?_
      refine r_as (r_nil (q_t ?_))
      refine w_ret ?_
      refine ⟨_, retV_1, ?_⟩
      first
      | exact ⟨rfl, congrArg (Value.int .i64) (cmp_lt (len_lt HA.dig htb (by omega))).symm⟩
      | exact ⟨rfl, congrArg (Value.int .i64) (cmp_gt (len_lt HB.dig hta (by omega))).symm⟩
      | exact ⟨rfl, congrArg (Value.int .i64) (cmp_lt (dig_lt HA.dig HB.dig (by omega) hx hy (by omega) (fun q hq => hsame q (by omega)))).symm⟩
      | exact ⟨rfl, congrArg (Value.int .i64) (cmp_gt (dig_lt HB.dig HA.dig (by omega) hy hx (by omega) (fun q hq => (hsame q (by omega)).symm))).symm⟩
      | exact ⟨rfl, congrArg (Value.int .i64) (cmp_eq (congrArg nv (List.ext_getElem? fun q => hsame q (by omega)))).symm⟩

end Go.Proofs.YtdlfineibanppaaDoor


/-
  Contracts of quadformref01: sums, differences, products. Conditions stand in each statement.
-/
namespace Go.Proofs.YtdlfineibanppaaDoor
open Go Go.QF
set_option linter.unusedVariables false
set_option linter.unusedSimpArgs false
set_option maxRecDepth 100000
theorem or_u32 {P : Program} {a b : Nat} (ha : a < 4294967296) (hb : b < 4294967296) (w : World) : (Op.intBits .or .u32 (a : Int) (b : Int)).run P w = .ok (.int .u32 ((a ||| b : Nat) : Int)) w := by
  have h1 : (BitVec.ofInt 32 (a : Int)).toNat = a := by rw [BitVec.toNat_ofInt]; omega
  have h2 : (BitVec.ofInt 32 (b : Int)).toNat = b := by rw [BitVec.toNat_ofInt]; omega
  have h3 : a ||| b < 2 ^ 32 := Nat.or_lt_two_pow (by omega) (by omega)
  simp only [Op.intBits]
  show Result.ok (Value.int .u32 (IntKind.u32.wrap ((BitVec.ofInt 32 (a : Int) ||| BitVec.ofInt 32 (b : Int)).toNat : Int))) w = _
  rw [BitVec.toNat_or, h1, h2, wrap_u32, Int.emod_eq_of_lt (by omega) (by omega)]
theorem and1_u32 {P : Program} {a : Nat} (ha : a < 4294967296) (w : World) : (Op.intBits .and .u32 (a : Int) 1).run P w = .ok (.int .u32 ((a % 2 : Nat) : Int)) w := by
  have h1 : (BitVec.ofInt 32 (a : Int)).toNat = a := by rw [BitVec.toNat_ofInt]; omega
  have h2 : (BitVec.ofInt 32 (1 : Int)).toNat = 1 := by decide
  simp only [Op.intBits]
  show Result.ok (Value.int .u32 (IntKind.u32.wrap ((BitVec.ofInt 32 (a : Int) &&& BitVec.ofInt 32 (1 : Int)).toNat : Int))) w = _
  rw [BitVec.toNat_and, h1, h2, Nat.and_one_is_mod, wrap_u32, Int.emod_eq_of_lt (by omega) (by omega)]
theorem nv_take_over {L : List Nat} {i : Nat} (h : L.length ≤ i) : nv (L.take i) = nv L := by rw [List.take_of_length_le h]

theorem zsum_ok {h : Heap} {la lb : Nat} {va vb : Value} {LA LB : List Nat} (HA : DS h la va LA) (HB : DS h lb vb LB) (hna : LA.length ≤ 1000) (hnb : LB.length ≤ 1000) : CallH Tryd.prog 97 #[va, vb] h fun x h' => Ext h h' ∧ ∃ L, DS h' (Array.size h) x L ∧ nv L = nv LA + nv LB ∧ L.length ≤ 1001 := by
  refine calls_of_W (l := [_, _]) mx Tryd.func97 rfl rfl rfl rfl rfl (by kernel_rfl) ?_
  refine w_seq ?_
  refine w_reg ?_
  refine r_as (r_nil (q_t ?_))
  refine w_seq ?_
  refine w_reg ?_
  refine r_as (r_nil (q_t ?_))
  refine w_seq ?_
  refine w_reg ?_
  refine r_as (r_nil (q_t ?_))
  refine w_seq ?_
  refine w_seq ?_
  refine w_reg ?_
  refine r_as (r_nil (q_t ?_))
  refine w_block ?_
  refine w_loop 562949953421280 (fun y : Nat × Value × Nat => [(7, .int .i64 (y.1 : Int)), (5, y.2.1), (6, .int .u64 (y.2.2 : Int))]) (fun k y h' => k = LA.length + LB.length - y.1 ∧ (y.1 ≤ LA.length ∨ y.1 ≤ LB.length) ∧ Ext h h' ∧ y.2.2 ≤ 1 ∧ ∃ D, Gro h' 98 (Array.size h) y.2.1 (D.map u32V) ∧ D.length = y.1 ∧ Dig D ∧ nv D + 4294967296 ^ y.1 * y.2.2 = nv (LA.take y.1) + nv (LB.take y.1)) (by kernel_rfl) (LA.length + LB.length) (0, .slice none 0 0, 0) ?_ ⟨rfl, rfl, rfl, trivial⟩ ?_
  · exact ⟨rfl, .inl (Nat.zero_le _), (Ext.refl _), by first | omega | (dsimp only; omega), [], gro_nil _ _ _, rfl, fun x hx => (by simp at hx), rfl⟩
  rintro k ⟨i, vo, c⟩ s1 h2 ⟨rfl, hi, E2, hc, D, HG, hDl, hDd, hDv⟩
  dsimp only at hi hc HG hDl hDv ⊢
  have hga := getD_lt HA.dig i
  have hgb := getD_lt HB.dig i
  have sz1 := E2.1
  refine w_seq ?_
  refine w_seq ?_
  refine w_reg ?_
  refine r_mv (r_mv (r_lenD sl_U32 rfl (HA.ext E2) (r_lss rfl rfl (fun hc1 => ?_) (fun hc1 => ?_))))   -- t11 := binOp lss 3 t8 t10 3
  · skip
    refine r_mv (r_skip 12 true (by kernel_rfl) rfl rfl (r_skip 12 true (by kernel_rfl) rfl rfl (r_skip 12 true (by kernel_rfl) rfl rfl (r_skip 12 true (by kernel_rfl) rfl rfl (r_pickT rfl (r_nil (q_t ?_)))))))
    refine w_true rfl ?_
    refine w_skip (q_t ?_)
    refine w_seq ?_
    refine w_block ?_
    refine w_join 2146435136 (fun q : Nat => [(6, .int .u64 (q : Int))]) (fun q h' => h' = h2 ∧ q = c + LA[i]?.getD 0) (by kernel_rfl) ?_ ?_
    · skip
      refine w_seq ?_
      refine w_reg ?_
      refine r_mv (r_mv (r_lenD sl_U32 rfl (HA.ext E2) (r_lss rfl rfl (fun hc2 => ?_) (fun hc2 => ?_))))   -- t23 := binOp lss 3 t20 t22 3
      · skip
        refine r_nil (q_t ?_)
        refine w_true rfl ?_
        obtain ⟨x, hx⟩ : ∃ x, LA[i]? = some x := ⟨_, List.getElem?_eq_getElem (by omega)⟩
        have hbx := HA.dig x (List.mem_of_getElem? hx)
        refine w_reg ?_
        refine r_mv (r_mv (r_mv (r_ixD sl_U32 rfl (HA.ext E2) rfl hx fun aq2 haq2 => ?_)))
        refine r_ld na_u32 rfl haq2 (r_up it_u32 it_u64 rfl hbx ?_)
        refine r_addU rfl rfl (by omega) ?_
        refine r_as (r_nil (q_t ?_))
        exact ⟨c + x, ⟨rfl, by rw [hx]; rfl⟩, rfl, trivial⟩
      · skip
        refine r_nil (q_t ?_)
        refine w_false rfl ?_
        refine w_skip (q_t ?_)
        exact ⟨c, ⟨rfl, by rw [show LA[i]? = none from List.getElem?_eq_none (by omega)]; rfl⟩, rfl, trivial⟩
    rintro q s2 h2 ⟨rfl, rfl⟩
    refine w_join 4395899027520 (fun q : Nat => [(6, .int .u64 (q : Int))]) (fun q h' => h' = h2 ∧ q = c + LA[i]?.getD 0 + LB[i]?.getD 0) (by kernel_rfl) ?_ ?_
    · skip
      refine w_seq ?_
      refine w_reg ?_
      refine r_mv (r_mv (r_lenD sl_U32 rfl (HB.ext E2) (r_lss rfl rfl (fun hc3 => ?_) (fun hc3 => ?_))))   -- t34 := binOp lss 3 t31 t33 3
      · skip
        refine r_nil (q_t ?_)
        refine w_true rfl ?_
        obtain ⟨y, hy⟩ : ∃ x, LB[i]? = some x := ⟨_, List.getElem?_eq_getElem (by omega)⟩
        have hby := HB.dig y (List.mem_of_getElem? hy)
        refine w_reg ?_
        refine r_mv (r_mv (r_mv (r_ixD sl_U32 rfl (HB.ext E2) rfl hy fun aq3 haq3 => ?_)))
        refine r_ld na_u32 rfl haq3 (r_up it_u32 it_u64 rfl hby ?_)
        refine r_addU rfl rfl (by omega) ?_
        refine r_as (r_nil (q_t ?_))
        exact ⟨c + LA[i]?.getD 0 + y, ⟨rfl, by rw [hy]; rfl⟩, rfl, trivial⟩
      · skip
        refine r_nil (q_t ?_)
        refine w_false rfl ?_
        refine w_skip (q_t ?_)
        exact ⟨c + LA[i]?.getD 0, ⟨rfl, by rw [show LB[i]? = none from List.getElem?_eq_none (by omega)]; rfl⟩, rfl, trivial⟩
    rintro q s2 h2 ⟨rfl, rfl⟩
    refine w_seq ?_
    refine w_reg ?_
    refine r_mv (r_mv (r_low it_u64 it_u32 rfl ?_))
    refine r_pushD (h0 := h) sl_U32 ze_u32 (fun _ => trivial) (fun _ => rfl) rfl E2 HG (by decide) (by omega) fun p4 v4 h4 HG4 E4 => ?_
    refine r_as (r_nil (q_t ?_))
    refine w_reg ?_
    refine r_mv (r_shr32 rfl rfl ?_)
    refine r_as (r_nil (q_b (q_t ?_)))
    refine w_reg ?_
    refine r_mv (r_inc rfl (by omega) (r_as (r_nil (q_t ?_))))
    exact ⟨LA.length + LB.length - (i + 1), (i + 1, v4, (c + LA[i]?.getD 0 + LB[i]?.getD 0) / 4294967296), by first | omega | (dsimp only; omega), ⟨rfl, by first | omega | (dsimp only; omega), E4, by first | omega | (dsimp only; omega), _, HG4, by simp [hDl], dig_snoc hDd (Nat.mod_lt _ (by decide)), by rw [nv_snoc, hDl, Nat.add_assoc c, carry_step hDv, nv_take_getD LA, nv_take_getD LB, Nat.mul_add]; omega⟩, rfl, rfl, rfl, trivial⟩
  · skip
    refine r_mv (r_want 12 false (by kernel_rfl) rfl rfl (r_mv (r_want 12 false (by kernel_rfl) rfl rfl (r_mv (r_want 12 false (by kernel_rfl) rfl rfl (r_lenD sl_U32 rfl (HB.ext E2) (r_want 12 false (by kernel_rfl) rfl rfl (r_lss rfl rfl (fun hc4 => ?_) (fun hc4 => ?_)))))))))   -- t16 := binOp lss 3 t13 t15 3   [guard op4 false]
    · skip
      refine r_pickF rfl (r_nil (q_t ?_))
      refine w_true rfl ?_
      refine w_skip (q_t ?_)
      refine w_seq ?_
      refine w_block ?_
      refine w_join 2146435136 (fun q : Nat => [(6, .int .u64 (q : Int))]) (fun q h' => h' = h2 ∧ q = c + LA[i]?.getD 0) (by kernel_rfl) ?_ ?_
      · skip
        refine w_seq ?_
        refine w_reg ?_
        refine r_mv (r_mv (r_lenD sl_U32 rfl (HA.ext E2) (r_lss rfl rfl (fun hc5 => ?_) (fun hc5 => ?_))))   -- t23 := binOp lss 3 t20 t22 3
        · skip
          refine r_nil (q_t ?_)
          refine w_true rfl ?_
          obtain ⟨x, hx⟩ : ∃ x, LA[i]? = some x := ⟨_, List.getElem?_eq_getElem (by omega)⟩
          have hbx := HA.dig x (List.mem_of_getElem? hx)
          refine w_reg ?_
          refine r_mv (r_mv (r_mv (r_ixD sl_U32 rfl (HA.ext E2) rfl hx fun aq4 haq4 => ?_)))
          refine r_ld na_u32 rfl haq4 (r_up it_u32 it_u64 rfl hbx ?_)
          refine r_addU rfl rfl (by omega) ?_
          refine r_as (r_nil (q_t ?_))
          exact ⟨c + x, ⟨rfl, by rw [hx]; rfl⟩, rfl, trivial⟩
        · skip
          refine r_nil (q_t ?_)
          refine w_false rfl ?_
          refine w_skip (q_t ?_)
          exact ⟨c, ⟨rfl, by rw [show LA[i]? = none from List.getElem?_eq_none (by omega)]; rfl⟩, rfl, trivial⟩
      rintro q s2 h2 ⟨rfl, rfl⟩
      refine w_join 4395899027520 (fun q : Nat => [(6, .int .u64 (q : Int))]) (fun q h' => h' = h2 ∧ q = c + LA[i]?.getD 0 + LB[i]?.getD 0) (by kernel_rfl) ?_ ?_
      · skip
        refine w_seq ?_
        refine w_reg ?_
        refine r_mv (r_mv (r_lenD sl_U32 rfl (HB.ext E2) (r_lss rfl rfl (fun hc6 => ?_) (fun hc6 => ?_))))   -- t34 := binOp lss 3 t31 t33 3
        · skip
          refine r_nil (q_t ?_)
          refine w_true rfl ?_
          obtain ⟨y, hy⟩ : ∃ x, LB[i]? = some x := ⟨_, List.getElem?_eq_getElem (by omega)⟩
          have hby := HB.dig y (List.mem_of_getElem? hy)
          refine w_reg ?_
          refine r_mv (r_mv (r_mv (r_ixD sl_U32 rfl (HB.ext E2) rfl hy fun aq5 haq5 => ?_)))
          refine r_ld na_u32 rfl haq5 (r_up it_u32 it_u64 rfl hby ?_)
          refine r_addU rfl rfl (by omega) ?_
          refine r_as (r_nil (q_t ?_))
          exact ⟨c + LA[i]?.getD 0 + y, ⟨rfl, by rw [hy]; rfl⟩, rfl, trivial⟩
        · skip
          refine r_nil (q_t ?_)
          refine w_false rfl ?_
          refine w_skip (q_t ?_)
          exact ⟨c + LA[i]?.getD 0, ⟨rfl, by rw [show LB[i]? = none from List.getElem?_eq_none (by omega)]; rfl⟩, rfl, trivial⟩
      rintro q s2 h2 ⟨rfl, rfl⟩
      refine w_seq ?_
      refine w_reg ?_
      refine r_mv (r_mv (r_low it_u64 it_u32 rfl ?_))
      refine r_pushD (h0 := h) sl_U32 ze_u32 (fun _ => trivial) (fun _ => rfl) rfl E2 HG (by decide) (by omega) fun p4 v4 h4 HG4 E4 => ?_
      refine r_as (r_nil (q_t ?_))
      refine w_reg ?_
      refine r_mv (r_shr32 rfl rfl ?_)
      refine r_as (r_nil (q_b (q_t ?_)))
      refine w_reg ?_
      refine r_mv (r_inc rfl (by omega) (r_as (r_nil (q_t ?_))))
      exact ⟨LA.length + LB.length - (i + 1), (i + 1, v4, (c + LA[i]?.getD 0 + LB[i]?.getD 0) / 4294967296), by first | omega | (dsimp only; omega), ⟨rfl, by first | omega | (dsimp only; omega), E4, by first | omega | (dsimp only; omega), _, HG4, by simp [hDl], dig_snoc hDd (Nat.mod_lt _ (by decide)), by rw [nv_snoc, hDl, Nat.add_assoc c, carry_step hDv, nv_take_getD LA, nv_take_getD LB, Nat.mul_add]; omega⟩, rfl, rfl, rfl, trivial⟩
    · skip
      refine r_pickF rfl (r_nil (q_t ?_))
      refine w_false rfl ?_
      refine w_exit (q_tx (q_tx (q_bx (q_t ?_))))
      refine w_seq ?_
      refine w_reg ?_
      refine r_mv (r_mv (r_low it_u64 it_u32 rfl ?_))
      rw [Nat.mod_eq_of_lt (show c < 4294967296 by omega)]
      refine r_pushD (h0 := h) sl_U32 ze_u32 (fun _ => trivial) (fun _ => rfl) rfl E2 HG (by decide) (by omega) fun p5 v5 h5 HG5 E5 => ?_
      refine r_as (r_nil (q_t ?_))
      refine w_ret ?_
      refine ⟨_, retV_1, ?_⟩
      exact ⟨E5, D ++ [c], HG5.ds (dig_snoc hDd (by omega)), by rw [nv_snoc, hDl, hDv, nv_take_over (by omega), nv_take_over (by omega)], by simp [hDl]; omega⟩

theorem zdiff_ok {h : Heap} {la lb : Nat} {va vb : Value} {LA LB : List Nat} (HA : DS h la va LA) (HB : DS h lb vb LB) (htb : TL LB) (hle : nv LB ≤ nv LA) (hna : LA.length ≤ 1000) : CallH Tryd.prog 99 #[va, vb] h fun x h' => Ext h h' ∧ ∃ L, DS h' (Array.size h) x L ∧ nv L = nv LA - nv LB ∧ L.length ≤ LA.length := by
  refine calls_of_W (l := [_, _]) mx Tryd.func99 rfl rfl rfl rfl rfl (by kernel_rfl) ?_
  refine w_seq ?_
  refine w_reg ?_
  refine r_as (r_nil (q_t ?_))
  refine w_seq ?_
  refine w_reg ?_
  refine r_as (r_nil (q_t ?_))
  refine w_seq ?_
  refine w_reg ?_
  refine r_as (r_nil (q_t ?_))
  refine w_seq ?_
  refine w_seq ?_
  refine w_reg ?_
  refine r_as (r_nil (q_t ?_))
  refine w_block ?_
  refine w_loop 35184372088800 (fun y : Nat × Value × Nat => [(7, .int .i64 (y.1 : Int)), (5, y.2.1), (6, .int .u64 (y.2.2 : Int))]) (fun k y h' => k = LA.length - y.1 ∧ y.1 ≤ LA.length ∧ Ext h h' ∧ y.2.2 ≤ 1 ∧ ∃ D, Gro h' 98 (Array.size h) y.2.1 (D.map u32V) ∧ D.length = y.1 ∧ Dig D ∧ nv D + nv (LB.take y.1) = nv (LA.take y.1) + 4294967296 ^ y.1 * y.2.2) (by kernel_rfl) LA.length (0, .slice none 0 0, 0) ?_ ⟨rfl, rfl, rfl, trivial⟩ ?_
  · exact ⟨rfl, Nat.zero_le _, (Ext.refl _), by first | omega | (dsimp only; omega), [], gro_nil _ _ _, rfl, fun x hx => (by simp at hx), rfl⟩
  rintro k ⟨i, vo, c⟩ s1 h2 ⟨rfl, hi, E2, hc, D, HG, hDl, hDd, hDv⟩
  dsimp only at hi hc HG hDl hDv ⊢
  have sz1 := E2.1
  refine w_seq ?_
  refine w_seq ?_
  refine w_reg ?_
  refine r_mv (r_mv (r_lenD sl_U32 rfl (HA.ext E2) (r_lss rfl rfl (fun hc1 => ?_) (fun hc1 => ?_))))   -- t12 := binOp lss 3 t9 t11 3
  · skip
    refine r_nil (q_t ?_)
    refine w_true rfl ?_
    refine w_skip (q_t ?_)
    refine w_seq ?_
    refine w_block ?_
    refine w_seq ?_
    obtain ⟨x, hx⟩ : ∃ x, LA[i]? = some x := ⟨_, List.getElem?_eq_getElem (by omega)⟩
    have hbx := HA.dig x (List.mem_of_getElem? hx)
    have hgb := getD_lt HB.dig i
    refine w_reg ?_
    refine r_mv (r_as (r_nil (q_t ?_)))
    refine w_join 134152448 (fun q : Nat => [(8, .int .u64 (q : Int))]) (fun q h' => h' = h2 ∧ q = c + LB[i]?.getD 0) (by kernel_rfl) ?_ ?_
    · skip
      refine w_seq ?_
      refine w_reg ?_
      refine r_mv (r_mv (r_lenD sl_U32 rfl (HB.ext E2) (r_lss rfl rfl (fun hc2 => ?_) (fun hc2 => ?_))))   -- t19 := binOp lss 3 t16 t18 3
      · skip
        refine r_nil (q_t ?_)
        refine w_true rfl ?_
        obtain ⟨y, hy⟩ : ∃ x, LB[i]? = some x := ⟨_, List.getElem?_eq_getElem (by omega)⟩
        have hby := HB.dig y (List.mem_of_getElem? hy)
        refine w_reg ?_
        refine r_mv (r_mv (r_mv (r_ixD sl_U32 rfl (HB.ext E2) rfl hy fun aq2 haq2 => ?_)))
        refine r_ld na_u32 rfl haq2 (r_up it_u32 it_u64 rfl hby ?_)
        refine r_addU rfl rfl (by omega) ?_
        refine r_as (r_nil (q_t ?_))
        exact ⟨c + y, ⟨rfl, by rw [hy]; rfl⟩, rfl, trivial⟩
      · skip
        refine r_nil (q_t ?_)
        refine w_false rfl ?_
        refine w_skip (q_t ?_)
        exact ⟨c, ⟨rfl, by rw [show LB[i]? = none from List.getElem?_eq_none (by omega)]; rfl⟩, rfl, trivial⟩
    rintro q s2 h2 ⟨rfl, rfl⟩
    refine w_seq ?_
    refine w_reg ?_
    refine r_mv (r_mv (r_mv (r_ixD sl_U32 rfl (HA.ext E2) rfl hx fun aq3 haq3 => ?_)))
    refine r_ld na_u32 rfl haq3 (r_up it_u32 it_u64 rfl hbx ?_)
    refine r_mv (r_sub rfl rfl ?_)
    rw [wrap_u64]
    refine r_cv it_u64 it_u32 rfl ?_
    obtain ⟨dg, hdg⟩ : ∃ dg : Nat, (dg : Int) = ((x : Int) - ((c + LB[i]?.getD 0 : Nat) : Int)) % 4294967296 := ⟨(((x : Int) - ((c + LB[i]?.getD 0 : Nat) : Int)) % 4294967296).toNat, by omega⟩
    rw [show IntKind.u32.wrap (((x : Int) - ((c + LB[i]?.getD 0 : Nat) : Int)) % 18446744073709551616) = (dg : Int) by rw [wrap_u32, hdg]; omega]
    refine r_pushD (h0 := h) sl_U32 ze_u32 (fun _ => trivial) (fun _ => rfl) rfl E2 HG (by decide) (by omega) fun p4 v4 h4 HG4 E4 => ?_
    refine r_as (r_nil (q_t ?_))
    refine w_seq ?_
    refine w_reg ?_
    refine r_as (r_nil (q_t ?_))
    refine w_seq ?_
    refine w_reg ?_
    refine r_mv (r_mv (r_ixD sl_U32 rfl (HA.ext E4) rfl hx fun aq4 haq4 => ?_))
    refine r_ld na_u32 rfl haq4 (r_up it_u32 it_u64 rfl hbx ?_)
    refine r_mv (r_lss rfl rfl (fun hc3 => ?_) (fun hc3 => ?_))   -- t44 := binOp lss 99 t42 t43 99
    · skip
      refine r_nil (q_t ?_)
      refine w_true rfl ?_
      refine w_reg ?_
      refine r_as (r_nil (q_b (q_t ?_)))
      refine w_reg ?_
      refine r_mv (r_inc rfl (by omega) (r_as (r_nil (q_t ?_))))
      exact ⟨LA.length - (i + 1), (i + 1, v4, 1), by first | omega | (dsimp only; omega), ⟨rfl, by first | omega | (dsimp only; omega), E4, by first | omega | (dsimp only; omega), _, HG4, by simp [hDl], dig_snoc hDd (by omega), by rw [nv_snoc, hDl, nv_take_getD LB, nv_take_succ hx]; exact borrow_step hDv (by first | omega | (dsimp only; omega))⟩, rfl, rfl, rfl, trivial⟩
    · skip
      refine r_nil (q_t ?_)
      refine w_false rfl ?_
      refine w_skip (q_b (q_t ?_))
      refine w_reg ?_
      refine r_mv (r_inc rfl (by omega) (r_as (r_nil (q_t ?_))))
      exact ⟨LA.length - (i + 1), (i + 1, v4, 0), by first | omega | (dsimp only; omega), ⟨rfl, by first | omega | (dsimp only; omega), E4, by first | omega | (dsimp only; omega), _, HG4, by simp [hDl], dig_snoc hDd (by omega), by rw [nv_snoc, hDl, nv_take_getD LB, nv_take_succ hx]; exact borrow_step hDv (by first | omega | (dsimp only; omega))⟩, rfl, rfl, rfl, trivial⟩
  · skip
    refine r_nil (q_t ?_)
    refine w_false rfl ?_
    refine w_exit (q_tx (q_tx (q_bx (q_t ?_))))
    refine w_seq ?_
    refine w_reg ?_
    refine r_mv (r_as (r_nil (q_t ?_)))
    refine w_ret ?_
    refine ⟨_, retV_1, ?_⟩
    obtain rfl : i = LA.length := by omega
    rw [List.take_length, nv_take_over (by have := tl_len htb (Nat.lt_of_le_of_lt hle (nv_lt HA.dig)); omega)] at hDv
    have hDlt := nv_lt hDd
    rw [hDl] at hDlt
    have hc0 : c = 0 := by
      rcases Nat.eq_zero_or_pos c with h0 | h0
      · exact h0
      · obtain rfl : c = 1 := by omega
        rw [Nat.mul_one] at hDv; omega
    subst hc0
    rw [Nat.mul_zero, Nat.add_zero] at hDv
    exact ⟨E2, D, HG.ds hDd, by omega, by omega⟩

theorem zdouble_ok {h : Heap} {lo : Nat} {v : Value} {L : List Nat} (b : Nat) (hb : b ≤ 1) (H : DS h lo v L) (hn : L.length ≤ 1000) : CallH Tryd.prog 100 #[v, .int .u32 (b : Int)] h fun x h' => Ext h h' ∧ ∃ L', DS h' (Array.size h) x L' ∧ nv L' = 2 * nv L + b ∧ L'.length ≤ L.length + 1 := by
  refine calls_of_W (l := [_, _]) mx Tryd.func100 rfl rfl rfl rfl rfl (by kernel_rfl) ?_
  refine w_seq ?_
  refine w_reg ?_
  refine r_as (r_nil (q_t ?_))
  refine w_seq ?_
  refine w_reg ?_
  refine r_as (r_nil (q_t ?_))
  refine w_seq ?_
  refine w_seq ?_
  refine w_reg ?_
  refine r_mv (r_lenD sl_U32 rfl H (r_mv (r_nil (q_t ?_))))
  refine w_block ?_
  refine w_loop 16776354 (fun y : Nat × Value × Nat => [(10, .int .i64 (y.1 : Int)), (5, y.2.1), (1, .int .u32 (y.2.2 : Int))]) (fun k y h' => k = L.length - y.1 ∧ y.1 ≤ L.length ∧ Ext h h' ∧ y.2.2 ≤ 1 ∧ ∃ D, Gro h' 98 (Array.size h) y.2.1 (D.map u32V) ∧ D.length = y.1 ∧ Dig D ∧ nv D + 4294967296 ^ y.1 * y.2.2 = 2 * nv (L.take y.1) + b) (by kernel_rfl) L.length (0, .slice none 0 0, b) ?_ ⟨rfl, rfl, rfl, trivial⟩ ?_
  · exact ⟨rfl, Nat.zero_le _, (Ext.refl _), hb, [], gro_nil _ _ _, rfl, fun x hx => (by simp at hx), by simp [nv]⟩
  rintro k ⟨i, vo, c⟩ s1 h2 ⟨rfl, hi, E2, hc, D, HG, hDl, hDd, hDv⟩
  dsimp only at hi hc HG hDl hDv ⊢
  have sz1 := E2.1
  refine w_seq ?_
  refine w_reg ?_
  refine r_lss rfl rfl (fun hc1 => ?_) (fun hc1 => ?_)   -- t11 := binOp lss 3 t10 t9 3
  · skip
    refine r_nil (q_t ?_)
    refine w_seq ?_
    refine w_true rfl ?_
    refine w_skip (q_t ?_)
    refine w_seq ?_
    refine w_block ?_
    refine w_seq ?_
    obtain ⟨x, hx⟩ : ∃ x, L[i]? = some x := ⟨_, List.getElem?_eq_getElem (by omega)⟩
    have hbx := H.dig x (List.mem_of_getElem? hx)
    refine w_reg ?_
    refine r_ixD sl_U32 rfl (H.ext E2) rfl hx fun aq2 haq2 => ?_
    refine r_ld na_u32 rfl haq2 (r_as (r_nil (q_t ?_)))
    refine w_seq ?_
    refine w_reg ?_
    refine r_mv (r_mv (r_shl (n := 1) rfl rfl (by decide) ?_))
    rw [show IntKind.u32.wrap ((x : Int) * 2 ^ 1) = ((2 * x % 4294967296 : Nat) : Int) by rw [wrap_u32]; omega]
    refine r_mv (r_bits rfl rfl (.inr (.inl rfl)) (or_u32 (Nat.mod_lt _ (by decide)) (by omega)) ?_)
    have hor : 2 * x % 4294967296 ||| c = 2 * x % 4294967296 + c := by
      have h1 : 2 * x % 4294967296 = 2 ^ 1 * (x % 2147483648) := by omega
      rw [h1, ← Nat.two_pow_add_eq_or_of_lt (by omega)]
    rw [hor]
    refine r_pushD (h0 := h) sl_U32 ze_u32 (fun _ => trivial) (fun _ => rfl) rfl E2 HG (by decide) (by omega) fun p4 v4 h4 HG4 E4 => ?_
    refine r_as (r_nil (q_t ?_))
    refine w_reg ?_
    refine r_mv (r_shr (n := 31) rfl rfl (by decide) ?_)
    rw [show (x : Int) / 2 ^ 31 = ((x / 2147483648 : Nat) : Int) by omega]
    refine r_as (r_nil (q_b (q_t ?_)))
    refine w_reg ?_
    refine r_inc rfl (by omega) (r_mv (r_nil (q_t ?_)))
    exact ⟨L.length - (i + 1), (i + 1, v4, x / 2147483648), by first | omega | (dsimp only; omega), ⟨rfl, by first | omega | (dsimp only; omega), E4, by first | omega | (dsimp only; omega), _, HG4, by simp [hDl], dig_snoc hDd (by omega), by rw [nv_snoc, hDl, dbl_step hDv (show 2 * x % 4294967296 + c + 4294967296 * (x / 2147483648) = 2 * x + c by omega), nv_take_succ hx, Nat.mul_add, Nat.mul_left_comm]; omega⟩, rfl, rfl, rfl, trivial⟩
  · skip
    refine r_nil (q_t ?_)
    refine w_seq ?_
    refine w_false rfl ?_
    refine w_exit (q_tx (q_tx (q_bx (q_t ?_))))
    refine w_seq ?_
    refine w_reg ?_
    refine r_mv (r_mv (r_pushD (h0 := h) sl_U32 ze_u32 (fun _ => trivial) (fun _ => rfl) rfl E2 HG (by decide) (by omega) fun p5 v5 h5 HG5 E5 => ?_))
    refine r_as (r_nil (q_t ?_))
    refine w_ret ?_
    refine ⟨_, retV_1, ?_⟩
    obtain rfl : i = L.length := by omega
    rw [List.take_length] at hDv
    exact ⟨E5, D ++ [c], HG5.ds (dig_snoc hDd (by omega)), by rw [nv_snoc, hDl, hDv], by simp [hDl]⟩

end Go.Proofs.YtdlfineibanppaaDoor


/-
  Contracts of quadformref01: Int64, Add, Sub, Mul. Conditions stand in each statement.
-/
namespace Go.Proofs.YtdlfineibanppaaDoor
open Go Go.QF
set_option linter.unusedVariables false
set_option linter.unusedSimpArgs false
set_option maxRecDepth 100000

theorem cmp_ge {a b : Nat} (h : 0 ≤ cmpN a b) : b ≤ a := by
  unfold cmpN at h
  split at h
  · omega
  · omega
theorem cmp_le {a b : Nat} (h : cmpN a b < 0) : a ≤ b := by
  unfold cmpN at h
  split at h
  · omega
  · split at h <;> omega
theorem sum_bd {A B : List Nat} (ha : Dig A) (hb : Dig B) (la : A.length ≤ 99) (lb : B.length ≤ 99) : nv A + nv B < 4294967296 ^ 100 := by
  have h1 := nv_lt ha
  have h2 := nv_lt hb
  have h3 : 4294967296 ^ A.length ≤ 4294967296 ^ 99 := Nat.pow_le_pow_right (by decide) la
  have h4 : 4294967296 ^ B.length ≤ 4294967296 ^ 99 := Nat.pow_le_pow_right (by decide) lb
  have h5 : 4294967296 ^ 100 = 4294967296 ^ 99 * 4294967296 := Nat.pow_succ 4294967296 99
  rw [h5]
  have h6 : 0 < 4294967296 ^ 99 := Nat.pow_pos (by decide)
  generalize 4294967296 ^ 99 = t at *
  omega
theorem sgn_add {a b : Bool} {x y : Nat} (h : a = b) : sgn a x + sgn b y = sgn a (x + y) := by
  subst h; cases a <;> simp [sgn] <;> omega
theorem sgn_sub {a b : Bool} {x y : Nat} (h : a ≠ b) (hl : y ≤ x) : sgn a x + sgn b y = sgn a (x - y) := by
  cases a <;> cases b <;> simp [sgn] at h ⊢ <;> omega
theorem sgn_sub2 {a b : Bool} {x y : Nat} (h : a ≠ b) (hl : x ≤ y) : sgn a x + sgn b y = sgn b (y - x) := by
  cases a <;> cases b <;> simp [sgn] at h ⊢ <;> omega

theorem sgn_abs {ng : Bool} {n : Nat} {z : Int} (h : z = sgn ng n) : z.natAbs = n := by
  subst h; cases ng <;> simp [sgn]
theorem sgn_mul (a b : Bool) (x y : Nat) : sgn a x * sgn b y = sgn (!(a == b)) (x * y) := by
  cases a <;> cases b <;> simp [sgn, Int.neg_mul, Int.mul_neg]

theorem nv_lt2 {L : List Nat} (h : Dig L) (hl : L.length ≤ 2) : nv L < 18446744073709551616 := by
  have h1 := nv_lt h
  have h2 : 4294967296 ^ L.length ≤ 4294967296 ^ 2 := Nat.pow_le_pow_right (by decide) hl
  omega

theorem zInt64_ok {h : Heap} {lo : Nat} {va : Value} {z : Int} (HA : ZV h lo va z) (hb : z.natAbs < 9223372036854775808) : CallH Tryd.prog 79 #[va] h fun x h' => Ext h h' ∧ x = .tuple #[.int .i64 z, .bool true] := by
  obtain ⟨na, sa, LA, rfl, HDa, htla, hla, hza⟩ := HA.out
  refine calls_of_W (l := [_]) mx Tryd.func79 rfl rfl rfl rfl rfl (by kernel_rfl) ?_
  refine w_seq ?_
  refine w_reg ?_
  refine r_boxB [.bool na, sa] (fun _ => trivial) rfl rfl fun bq1 h2 V3 E4 hb5 hl6 => ?_
  have hzbq1 : Array.size h ≤ bq1 := hb5
  have sz7 := E4.1
  have Z8 := (Ext.refl h).trans E4
  refine r_as (r_as (r_nil (q_t ?_)))
  refine w_seq ?_
  refine w_reg ?_
  refine r_fo (fs := 1) fd_Z1 (by kernel_rfl) (by decide) rfl (r_ld na_U32 rfl (V3.cell (i := 1) rfl) (r_call trivial rfl (ztrim_ok (HDa.ext E4) (by omega)) fun x9 h10 hk => ?_))
  obtain ⟨E11, L1, HD1, htl1, hv1, hl1⟩ := hk
  refine ⟨trivial, ?_⟩
  have sz12 := E11.1
  have Z13 := Z8.trans E11
  have X14 := E4.trans E11
  have V3_15 := V3.ext E11
  have Y16 := E4.trans E11
  refine r_as (r_nil (q_t ?_))
  refine w_seq ?_
  refine w_reg ?_
  refine r_mv ?_
  have hl2 : L1.length ≤ 2 := tl_len htl1 (by rw [hv1, ← sgn_abs hza]; exact Nat.lt_of_lt_of_le hb (by decide))
  refine r_call trivial rfl (zlow_ok HD1 hl2) fun x17 h10 hk => ?_
  obtain ⟨rfl, rfl⟩ := hk
  refine ⟨trivial, ?_⟩
  refine r_as (r_nil (q_t ?_))
  refine w_seq ?_
  refine w_block ?_
  refine w_seq ?_
  refine w_reg ?_
  refine r_mv (r_lenD sl_U32 rfl HD1 (r_gtr rfl rfl (fun hc => absurd hc (by omega)) (fun _ => ?_)))
  refine r_as (r_nil (q_t ?_))
  refine w_false rfl ?_
  refine w_seq ?_
  have hab := sgn_abs hza
  rw [hv1]
  refine w_reg ?_
  refine r_fo (fs := 1) fd_Z0 (by kernel_rfl) (by decide) rfl (r_ld na_bool rfl (V3_15.cell (i := 0) rfl) ?_)
  cases hc1 : na
  · skip
    refine r_mv (r_skip 18 false (by kernel_rfl) rfl rfl (r_skip 18 false (by kernel_rfl) rfl rfl (r_pickF rfl (r_as (r_nil (q_t ?_))))))
    refine w_false rfl ?_
    refine w_seq ?_
    refine w_reg ?_
    refine r_fo (fs := 1) fd_Z0 (by kernel_rfl) (by decide) rfl (r_ld na_bool rfl (V3_15.cell (i := 0) rfl) ?_)
    rw [hc1]
    refine r_not rfl (r_mv (r_want 29 true (by kernel_rfl) rfl rfl (r_mv (r_want 29 true (by kernel_rfl) rfl rfl (r_lss rfl rfl (fun _ => ?_) (fun hc => absurd hc (by omega)))))))
    refine r_pickT rfl (r_as (r_nil (q_t ?_)))
    refine w_true rfl ?_
    refine w_seq ?_
    refine w_reg ?_
    refine r_mv (r_cv it_u64 it_i64 rfl ?_)
    refine r_as (r_as (r_nil (q_t ?_)))
    refine w_ret (q_br (q_tr ?_))
    refine ⟨_, retV_2, ?_⟩
    have hz2 : z = sgn na (nv LA) := hza
    rw [hc1] at hz2
    unfold sgn at hz2
    first
    | (rw [if_pos rfl] at hz2
       exact ⟨X14, congrArg (fun t => Value.tuple #[.int .i64 t, .bool true]) (show IntKind.i64.wrap (IntKind.u64.wrap (0 - ((nv LA : Nat) : Int))) = z by rw [wrap_u64, IntKind.wrap_i64]; omega)⟩)
    | (rw [if_neg (by decide)] at hz2
       exact ⟨X14, congrArg (fun t => Value.tuple #[.int .i64 t, .bool true]) (show IntKind.i64.wrap ((nv LA : Nat) : Int) = z by rw [IntKind.wrap_i64]; omega)⟩)
  · skip
    refine r_mv (r_want 18 true (by kernel_rfl) rfl rfl (r_mv (r_want 18 true (by kernel_rfl) rfl rfl (r_leq rfl rfl (fun _ => ?_) (fun hc => absurd hc (by omega))))))
    refine r_pickT rfl (r_as (r_nil (q_t ?_)))
    refine w_true rfl ?_
    refine w_seq ?_
    refine w_reg ?_
    refine r_mv (r_neg rfl ?_)
    refine r_cv it_u64 it_i64 rfl ?_
    refine r_as (r_as (r_nil (q_t ?_)))
    refine w_ret (q_br (q_tr ?_))
    refine ⟨_, retV_2, ?_⟩
    have hz2 : z = sgn na (nv LA) := hza
    rw [hc1] at hz2
    unfold sgn at hz2
    first
    | (rw [if_pos rfl] at hz2
       exact ⟨X14, congrArg (fun t => Value.tuple #[.int .i64 t, .bool true]) (show IntKind.i64.wrap (IntKind.u64.wrap (0 - ((nv LA : Nat) : Int))) = z by rw [wrap_u64, IntKind.wrap_i64]; omega)⟩)
    | (rw [if_neg (by decide)] at hz2
       exact ⟨X14, congrArg (fun t => Value.tuple #[.int .i64 t, .bool true]) (show IntKind.i64.wrap ((nv LA : Nat) : Int) = z by rw [IntKind.wrap_i64]; omega)⟩)

theorem zAdd_ok {h : Heap} {la lb : Nat} {va vb : Value} {a b : Int} (HA : ZV h la va a) (HB : ZV h lb vb b) (hba : a.natAbs < 4294967296 ^ 99) (hbb : b.natAbs < 4294967296 ^ 99) : CallH Tryd.prog 95 #[va, vb] h fun x h' => Ext h h' ∧ ZV h' (Array.size h) x (a + b) := by
  obtain ⟨na, sa, LA, rfl, HDa, htla, hla, hza⟩ := HA.out
  obtain ⟨nb, sb, LB, rfl, HDb, htlb, hlb, hzb⟩ := HB.out
  refine calls_of_W (l := [_, _]) mx Tryd.func95 rfl rfl rfl rfl rfl (by kernel_rfl) ?_
  refine w_seq ?_
  refine w_reg ?_
  refine r_boxB [.bool na, sa] (fun _ => trivial) rfl rfl fun bq1 h2 V3 E4 hb5 hl6 => ?_
  have hzbq1 : Array.size h ≤ bq1 := hb5
  have sz7 := E4.1
  have Z8 := (Ext.refl h).trans E4
  refine r_boxB [.bool nb, sb] (fun _ => trivial) rfl rfl fun bq9 h10 V11 E12 hb13 hl14 => ?_
  have hzbq9 : Array.size h ≤ bq9 := Nat.le_trans E4.1 hb13
  have nebq1bq9 : bq1 ≠ bq9 := by have := V3.lt; omega
  have sz15 := E12.1
  have Z16 := Z8.trans E12
  have X17 := E4.trans E12
  have V3_18 := V3.ext E12
  have Y19 := E4.trans E12
  refine r_allocB [.bool false, .slice none 0 0] ze_Z rfl (fun _ => trivial) fun bq20 h21 V22 E23 hb24 hl25 => ?_
  have hzbq20 : Array.size h ≤ bq20 := Nat.le_trans X17.1 hb24
  have nebq1bq20 : bq1 ≠ bq20 := by have := V3_18.lt; omega
  have nebq9bq20 : bq9 ≠ bq20 := by have := V11.lt; omega
  have sz26 := E23.1
  have Z27 := Z16.trans E23
  have X28 := X17.trans E23
  have V3_29 := V3_18.ext E23
  have Y30 := Y19.trans E23
  have V11_31 := V11.ext E23
  have Y32 := E12.trans E23
  refine r_nil (q_t ?_)
  refine w_seq ?_
  refine w_drawB (fun h' => Ext h21 h') (by kernel_rfl) ?_
  have hB0 := Ext.refl h21
  refine r_fo (fs := 1) fd_Z1 (by kernel_rfl) (by decide) rfl (r_ldB na_U32 rfl hB0 (fun h' hb => (V3_29.ext hb).cell (i := 1) rfl) (r_call hB0 rfl (ztrim_ok (DS.ext HDa X28) (by omega)) fun x33 h34 hk => ?_))
  obtain ⟨E35, L1, HD1, htl1, hv1, hl1⟩ := hk
  have hB36 := hB0.trans E35
  refine ⟨hB36, ?_⟩
  have sz37 := E35.1
  have Z38 := Z27.trans E35
  have X39 := X28.trans E35
  have V3_40 := V3_29.ext E35
  have Y41 := Y30.trans E35
  have V11_42 := V11_31.ext E35
  have Y43 := Y32.trans E35
  have V22_44 := V22.ext E35
  have Y45 := E23.trans E35
  refine r_fo (fs := 1) fd_Z1 (by kernel_rfl) (by decide) rfl (r_ldB na_U32 rfl hB36 (fun h' hb => (V11_31.ext hb).cell (i := 1) rfl) (r_call hB36 rfl (ztrim_ok (DS.ext HDb X39) (by omega)) fun x46 h47 hk => ?_))
  obtain ⟨E48, L2, HD2, htl2, hv2, hl2⟩ := hk
  have hB49 := hB36.trans E48
  refine ⟨hB49, ?_⟩
  have sz50 := E48.1
  have Z51 := Z38.trans E48
  have X52 := X39.trans E48
  have V3_53 := V3_40.ext E48
  have Y54 := Y41.trans E48
  have V11_55 := V11_42.ext E48
  have Y56 := Y43.trans E48
  have V22_57 := V22_44.ext E48
  have Y58 := Y45.trans E48
  have HD1_59 := HD1.ext E48
  refine r_as (r_as (r_nil (q_t ?_)))
  refine w_seq ?_
  refine w_seq ?_
  have hl1b : L1.length ≤ 99 := tl_len htl1 (by rw [hv1, ← sgn_abs hza]; exact hba)
  have hl2b : L2.length ≤ 99 := tl_len htl2 (by rw [hv2, ← sgn_abs hzb]; exact hbb)
  refine w_reg ?_
  refine r_fo (fs := 1) fd_Z0 (by kernel_rfl) (by decide) rfl (r_ld na_bool rfl (V3_53.cell (i := 0) rfl) (r_fo (fs := 1) fd_Z0 (by kernel_rfl) (by decide) rfl (r_ld na_bool rfl (V11_55.cell (i := 0) rfl) (r_eqBool un_bool rfl rfl ?_))))
  cases hc1 : na == nb
  · skip
    refine r_nil (q_t ?_)
    refine w_false rfl ?_
    refine w_skip (q_t ?_)
    refine w_seq ?_
    refine w_seq ?_
    refine w_reg ?_
    refine r_mv (r_mv (r_call trivial rfl (zcmp_ok HD1_59 HD2 htl1 htl2 (by omega) (by omega)) fun x60 h47 hk => ?_))
    obtain ⟨rfl, rfl⟩ := hk
    refine ⟨trivial, ?_⟩
    refine r_geq rfl rfl (fun hc2 => ?_) (fun hc2 => ?_)   -- t27 := binOp geq 3 t26 0:i64 3
    · skip
      refine r_nil (q_t ?_)
      refine w_true rfl ?_
      refine w_seq ?_
      refine w_drawB (fun h' => Ext h47 h') (by kernel_rfl) ?_
      have hB0 := Ext.refl h47
      refine r_fo (fs := 1) fd_Z0 (by kernel_rfl) (by decide) rfl (r_ldB na_bool rfl hB0 (fun h' hb => (V3_53.ext hb).cell (i := 0) rfl) (r_mv (r_mv (r_call hB0 rfl (zdiff_ok HD1_59 HD2 htl2 (cmp_ge (by assumption)) (by omega)) fun x61 h62 hk => ?_))))
      obtain ⟨E63, L3, HD3, hv3, hl3⟩ := hk
      have hB64 := hB0.trans E63
      refine ⟨hB64, ?_⟩
      have sz65 := E63.1
      have Z66 := Z51.trans E63
      have X67 := X52.trans E63
      have V3_68 := V3_53.ext E63
      have Y69 := Y54.trans E63
      have V11_70 := V11_55.ext E63
      have Y71 := Y56.trans E63
      have V22_72 := V22_57.ext E63
      have Y73 := Y58.trans E63
      have HD1_74 := HD1_59.ext E63
      have HD2_75 := HD2.ext E63
      refine r_call hB64 rfl (zMake_ok na HD3 (by omega) (by rw [hv3]; have := sum_bd HD1.dig HD2.dig hl1b hl2b; omega)) fun x76 h77 hk => ?_
      obtain ⟨E78, HZ4⟩ := hk
      have hB79 := hB64.trans E78
      refine ⟨hB79, ?_⟩
      have sz80 := E78.1
      have Z81 := Z66.trans E78
      have X82 := X67.trans E78
      have V3_83 := V3_68.ext E78
      have Y84 := Y69.trans E78
      have V11_85 := V11_70.ext E78
      have Y86 := Y71.trans E78
      have V22_87 := V22_72.ext E78
      have Y88 := Y73.trans E78
      have HD1_89 := HD1_74.ext E78
      have HD2_90 := HD2_75.ext E78
      have HD3_91 := HD3.ext E78
      obtain ⟨ng4, s4, L4, rfl, HD4, htl4, hlen4, hz4⟩ := HZ4.out
      refine r_stA [.bool ng4, s4] ag_Z rfl rfl rfl rfl (one_Z HD4.cap) V22_87 fun h92 V22_93 U94 => ?_
      have X95 := X82.thenUpd U94 (fun k hk => by have hk2 : k = bq20 := hk; omega)
      have sz96 := U94.1
      have Z97 := Z81.thenUpd U94 (fun k hk => by have hk2 : k = bq20 := hk; omega)
      have Y98 := Y88.thenUpd U94 (fun k hk => by have hk2 : k = bq20 := hk; omega)
      have V3_99 := V3_18.ext Y98
      have Y100 := Y84.thenUpd U94 (fun k hk => by have hk2 : k = bq20 := hk; omega)
      have V11_101 := V11.ext Y98
      have Y102 := Y86.thenUpd U94 (fun k hk => by have hk2 : k = bq20 := hk; omega)
      have HD1_103 := HD1_89.updLo U94 (by omega)
      have HD2_104 := HD2_90.updLo U94 (by omega)
      have HD3_105 := HD3_91.updLo U94 (by omega)
      have HD4_106 := HD4.updLo U94 (by omega)
      refine r_nil (q_t ?_)
      refine w_ret (q_tr ?_)
      refine ⟨_, retV_c ag_Z rfl rfl V22_93, ?_⟩
      exact ⟨X95, ⟨ng4, s4, L4, rfl, HD4_106.mono (by omega), htl4, hlen4, by rw [← hz4, hv3, hza, hzb, ← hv1, ← hv2]; first | exact sgn_add (eq_of_beq (by assumption)) | exact sgn_sub (ne_of_beq_false (by assumption)) (cmp_ge (by assumption)) | exact sgn_sub2 (ne_of_beq_false (by assumption)) (cmp_le (by assumption))⟩⟩
    · skip
      refine r_nil (q_t ?_)
      refine w_false rfl ?_
      refine w_skip (q_t ?_)
      refine w_seq ?_
      refine w_drawB (fun h' => Ext h47 h') (by kernel_rfl) ?_
      have hB0 := Ext.refl h47
      refine r_fo (fs := 1) fd_Z0 (by kernel_rfl) (by decide) rfl (r_ldB na_bool rfl hB0 (fun h' hb => (V11_55.ext hb).cell (i := 0) rfl) (r_mv (r_mv (r_call hB0 rfl (zdiff_ok HD2 HD1_59 htl1 (cmp_le (by assumption)) (by omega)) fun x107 h108 hk => ?_))))
      obtain ⟨E109, L3, HD3, hv3, hl3⟩ := hk
      have hB110 := hB0.trans E109
      refine ⟨hB110, ?_⟩
      have sz111 := E109.1
      have Z112 := Z51.trans E109
      have X113 := X52.trans E109
      have V3_114 := V3_53.ext E109
      have Y115 := Y54.trans E109
      have V11_116 := V11_55.ext E109
      have Y117 := Y56.trans E109
      have V22_118 := V22_57.ext E109
      have Y119 := Y58.trans E109
      have HD1_120 := HD1_59.ext E109
      have HD2_121 := HD2.ext E109
      refine r_call hB110 rfl (zMake_ok nb HD3 (by omega) (by rw [hv3]; have := sum_bd HD1.dig HD2.dig hl1b hl2b; omega)) fun x122 h123 hk => ?_
      obtain ⟨E124, HZ4⟩ := hk
      have hB125 := hB110.trans E124
      refine ⟨hB125, ?_⟩
      have sz126 := E124.1
      have Z127 := Z112.trans E124
      have X128 := X113.trans E124
      have V3_129 := V3_114.ext E124
      have Y130 := Y115.trans E124
      have V11_131 := V11_116.ext E124
      have Y132 := Y117.trans E124
      have V22_133 := V22_118.ext E124
      have Y134 := Y119.trans E124
      have HD1_135 := HD1_120.ext E124
      have HD2_136 := HD2_121.ext E124
      have HD3_137 := HD3.ext E124
      obtain ⟨ng4, s4, L4, rfl, HD4, htl4, hlen4, hz4⟩ := HZ4.out
      refine r_stA [.bool ng4, s4] ag_Z rfl rfl rfl rfl (one_Z HD4.cap) V22_133 fun h138 V22_139 U140 => ?_
      have X141 := X128.thenUpd U140 (fun k hk => by have hk2 : k = bq20 := hk; omega)
      have sz142 := U140.1
      have Z143 := Z127.thenUpd U140 (fun k hk => by have hk2 : k = bq20 := hk; omega)
      have Y144 := Y134.thenUpd U140 (fun k hk => by have hk2 : k = bq20 := hk; omega)
      have V3_145 := V3_18.ext Y144
      have Y146 := Y130.thenUpd U140 (fun k hk => by have hk2 : k = bq20 := hk; omega)
      have V11_147 := V11.ext Y144
      have Y148 := Y132.thenUpd U140 (fun k hk => by have hk2 : k = bq20 := hk; omega)
      have HD1_149 := HD1_135.updLo U140 (by omega)
      have HD2_150 := HD2_136.updLo U140 (by omega)
      have HD3_151 := HD3_137.updLo U140 (by omega)
      have HD4_152 := HD4.updLo U140 (by omega)
      refine r_nil (q_t ?_)
      refine w_ret ?_
      refine ⟨_, retV_c ag_Z rfl rfl V22_139, ?_⟩
      exact ⟨X141, ⟨ng4, s4, L4, rfl, HD4_152.mono (by omega), htl4, hlen4, by rw [← hz4, hv3, hza, hzb, ← hv1, ← hv2]; first | exact sgn_add (eq_of_beq (by assumption)) | exact sgn_sub (ne_of_beq_false (by assumption)) (cmp_ge (by assumption)) | exact sgn_sub2 (ne_of_beq_false (by assumption)) (cmp_le (by assumption))⟩⟩
  · skip
    refine r_nil (q_t ?_)
    refine w_true rfl ?_
    refine w_seq ?_
    refine w_drawB (fun h' => Ext h47 h') (by kernel_rfl) ?_
    have hB0 := Ext.refl h47
    refine r_fo (fs := 1) fd_Z0 (by kernel_rfl) (by decide) rfl (r_ldB na_bool rfl hB0 (fun h' hb => (V3_53.ext hb).cell (i := 0) rfl) (r_mv (r_mv (r_call hB0 rfl (zsum_ok HD1_59 HD2 (by omega) (by omega)) fun x153 h154 hk => ?_))))
    obtain ⟨E155, L3, HD3, hv3, hl3⟩ := hk
    have hB156 := hB0.trans E155
    refine ⟨hB156, ?_⟩
    have sz157 := E155.1
    have Z158 := Z51.trans E155
    have X159 := X52.trans E155
    have V3_160 := V3_53.ext E155
    have Y161 := Y54.trans E155
    have V11_162 := V11_55.ext E155
    have Y163 := Y56.trans E155
    have V22_164 := V22_57.ext E155
    have Y165 := Y58.trans E155
    have HD1_166 := HD1_59.ext E155
    have HD2_167 := HD2.ext E155
    refine r_call hB156 rfl (zMake_ok na HD3 (by omega) (by rw [hv3]; exact sum_bd HD1.dig HD2.dig hl1b hl2b)) fun x168 h169 hk => ?_
    obtain ⟨E170, HZ4⟩ := hk
    have hB171 := hB156.trans E170
    refine ⟨hB171, ?_⟩
    have sz172 := E170.1
    have Z173 := Z158.trans E170
    have X174 := X159.trans E170
    have V3_175 := V3_160.ext E170
    have Y176 := Y161.trans E170
    have V11_177 := V11_162.ext E170
    have Y178 := Y163.trans E170
    have V22_179 := V22_164.ext E170
    have Y180 := Y165.trans E170
    have HD1_181 := HD1_166.ext E170
    have HD2_182 := HD2_167.ext E170
    have HD3_183 := HD3.ext E170
    obtain ⟨ng4, s4, L4, rfl, HD4, htl4, hlen4, hz4⟩ := HZ4.out
    refine r_stA [.bool ng4, s4] ag_Z rfl rfl rfl rfl (one_Z HD4.cap) V22_179 fun h184 V22_185 U186 => ?_
    have X187 := X174.thenUpd U186 (fun k hk => by have hk2 : k = bq20 := hk; omega)
    have sz188 := U186.1
    have Z189 := Z173.thenUpd U186 (fun k hk => by have hk2 : k = bq20 := hk; omega)
    have Y190 := Y180.thenUpd U186 (fun k hk => by have hk2 : k = bq20 := hk; omega)
    have V3_191 := V3_18.ext Y190
    have Y192 := Y176.thenUpd U186 (fun k hk => by have hk2 : k = bq20 := hk; omega)
    have V11_193 := V11.ext Y190
    have Y194 := Y178.thenUpd U186 (fun k hk => by have hk2 : k = bq20 := hk; omega)
    have HD1_195 := HD1_181.updLo U186 (by omega)
    have HD2_196 := HD2_182.updLo U186 (by omega)
    have HD3_197 := HD3_183.updLo U186 (by omega)
    have HD4_198 := HD4.updLo U186 (by omega)
    refine r_nil (q_t ?_)
    refine w_ret (q_tr ?_)
    refine ⟨_, retV_c ag_Z rfl rfl V22_185, ?_⟩
    exact ⟨X187, ⟨ng4, s4, L4, rfl, HD4_198.mono (by omega), htl4, hlen4, by rw [← hz4, hv3, hza, hzb, ← hv1, ← hv2]; first | exact sgn_add (eq_of_beq (by assumption)) | exact sgn_sub (ne_of_beq_false (by assumption)) (cmp_ge (by assumption)) | exact sgn_sub2 (ne_of_beq_false (by assumption)) (cmp_le (by assumption))⟩⟩

theorem zSub_ok {h : Heap} {la lb : Nat} {va vb : Value} {a b : Int} (HA : ZV h la va a) (HB : ZV h lb vb b) (hba : a.natAbs < 4294967296 ^ 99) (hbb : b.natAbs < 4294967296 ^ 99) : CallH Tryd.prog 89 #[va, vb] h fun x h' => Ext h h' ∧ ZV h' (Array.size h) x (a - b) := by
  obtain ⟨na, sa, LA, rfl, HDa, htla, hla, hza⟩ := HA.out
  obtain ⟨nb, sb, LB, rfl, HDb, htlb, hlb, hzb⟩ := HB.out
  refine calls_of_W (l := [_, _]) mx Tryd.func89 rfl rfl rfl rfl rfl (by kernel_rfl) ?_
  refine w_seq ?_
  refine w_reg ?_
  refine r_boxB [.bool na, sa] (fun _ => trivial) rfl rfl fun bq1 h2 V3 E4 hb5 hl6 => ?_
  have hzbq1 : Array.size h ≤ bq1 := hb5
  have sz7 := E4.1
  have Z8 := (Ext.refl h).trans E4
  refine r_boxB [.bool nb, sb] (fun _ => trivial) rfl rfl fun bq9 h10 V11 E12 hb13 hl14 => ?_
  have hzbq9 : Array.size h ≤ bq9 := Nat.le_trans E4.1 hb13
  have nebq1bq9 : bq1 ≠ bq9 := by have := V3.lt; omega
  have sz15 := E12.1
  have Z16 := Z8.trans E12
  have X17 := E4.trans E12
  have V3_18 := V3.ext E12
  have Y19 := E4.trans E12
  refine r_allocB [.bool false, .slice none 0 0] ze_Z rfl (fun _ => trivial) fun bq20 h21 V22 E23 hb24 hl25 => ?_
  have hzbq20 : Array.size h ≤ bq20 := Nat.le_trans X17.1 hb24
  have nebq1bq20 : bq1 ≠ bq20 := by have := V3_18.lt; omega
  have nebq9bq20 : bq9 ≠ bq20 := by have := V11.lt; omega
  have sz26 := E23.1
  have Z27 := Z16.trans E23
  have X28 := X17.trans E23
  have V3_29 := V3_18.ext E23
  have Y30 := Y19.trans E23
  have V11_31 := V11.ext E23
  have Y32 := E12.trans E23
  refine r_nil (q_t ?_)
  refine w_seq ?_
  refine w_drawB (fun h' => Ext h21 h') (by kernel_rfl) ?_
  have hB0 := Ext.refl h21
  refine r_ldAB [.bool na, sa] ag_Z rfl rfl hB0 (fun h' hb => (V3_29.ext hb).agg) (r_ldAB [.bool nb, sb] ag_Z rfl rfl hB0 (fun h' hb => (V11_31.ext hb).agg) (r_call hB0 rfl (zNeg_ok (HB.ext X28)) fun x33 h34 hk => ?_))
  obtain ⟨E35, HN⟩ := hk
  have hB36 := hB0.trans E35
  refine ⟨hB36, ?_⟩
  have sz37 := E35.1
  have Z38 := Z27.trans E35
  have X39 := X28.trans E35
  have V3_40 := V3_29.ext E35
  have Y41 := Y30.trans E35
  have V11_42 := V11_31.ext E35
  have Y43 := Y32.trans E35
  have V22_44 := V22.ext E35
  have Y45 := E23.trans E35
  refine r_call hB36 rfl (zAdd_ok (HA.ext X39) HN hba (by rw [Int.natAbs_neg]; exact hbb)) fun x46 h47 hk => ?_
  obtain ⟨E48, HZ4⟩ := hk
  have hB49 := hB36.trans E48
  refine ⟨hB49, ?_⟩
  have sz50 := E48.1
  have Z51 := Z38.trans E48
  have X52 := X39.trans E48
  have V3_53 := V3_40.ext E48
  have Y54 := Y41.trans E48
  have V11_55 := V11_42.ext E48
  have Y56 := Y43.trans E48
  have V22_57 := V22_44.ext E48
  have Y58 := Y45.trans E48
  have HN_59 := HN.ext E48
  obtain ⟨ng4, s4, L4, rfl, HD4, htl4, hlen4, hz4⟩ := HZ4.out
  refine r_stA [.bool ng4, s4] ag_Z rfl rfl rfl rfl (one_Z HD4.cap) V22_57 fun h60 V22_61 U62 => ?_
  have X63 := X52.thenUpd U62 (fun k hk => by have hk2 : k = bq20 := hk; omega)
  have sz64 := U62.1
  have Z65 := Z51.thenUpd U62 (fun k hk => by have hk2 : k = bq20 := hk; omega)
  have Y66 := Y58.thenUpd U62 (fun k hk => by have hk2 : k = bq20 := hk; omega)
  have V3_67 := V3_18.ext Y66
  have Y68 := Y54.thenUpd U62 (fun k hk => by have hk2 : k = bq20 := hk; omega)
  have V11_69 := V11.ext Y66
  have Y70 := Y56.thenUpd U62 (fun k hk => by have hk2 : k = bq20 := hk; omega)
  have HN_71 := HN_59.updLo U62 (by omega)
  have HD4_72 := HD4.updLo U62 (by omega)
  refine r_nil (q_t ?_)
  refine w_ret ?_
  refine ⟨_, retV_c ag_Z rfl rfl V22_61, ?_⟩
  exact ⟨X63, ⟨ng4, s4, L4, rfl, HD4_72.mono (by omega), htl4, hlen4, by rw [← hz4]; omega⟩⟩

theorem nv_rep (n : Nat) : nv (List.replicate n 0) = 0 := by
  induction n with
  | zero => rfl
  | succ n ih => rw [List.replicate_succ]; simp [nv, ih]

theorem zMul_ok {h : Heap} {la lb : Nat} {va vb : Value} {a b : Int} (HA : ZV h la va a) (HB : ZV h lb vb b) (hab : a.natAbs * b.natAbs < 4294967296 ^ 100) : CallH Tryd.prog 56 #[va, vb] h fun x h' => Ext h h' ∧ ZV h' (Array.size h) x (a * b) := by
  obtain ⟨na, sa, LA, rfl, HDa, htla, hla, hza⟩ := HA.out
  obtain ⟨nb, sb, LB, rfl, HDb, htlb, hlb, hzb⟩ := HB.out
  refine calls_of_W (l := [_, _]) mx Tryd.func56 rfl rfl rfl rfl rfl (by kernel_rfl) ?_
  refine w_seq ?_
  refine w_reg ?_
  refine r_boxB [.bool na, sa] (fun _ => trivial) rfl rfl fun bq1 h2 V3 E4 hb5 hl6 => ?_
  have hzbq1 : Array.size h ≤ bq1 := hb5
  have sz7 := E4.1
  have Z8 := (Ext.refl h).trans E4
  refine r_boxB [.bool nb, sb] (fun _ => trivial) rfl rfl fun bq9 h10 V11 E12 hb13 hl14 => ?_
  have hzbq9 : Array.size h ≤ bq9 := Nat.le_trans E4.1 hb13
  have nebq1bq9 : bq1 ≠ bq9 := by have := V3.lt; omega
  have sz15 := E12.1
  have Z16 := Z8.trans E12
  have X17 := E4.trans E12
  have V3_18 := V3.ext E12
  have Y19 := E4.trans E12
  refine r_allocB [.bool false, .slice none 0 0] ze_Z rfl (fun _ => trivial) fun bq20 h21 V22 E23 hb24 hl25 => ?_
  have hzbq20 : Array.size h ≤ bq20 := Nat.le_trans X17.1 hb24
  have nebq1bq20 : bq1 ≠ bq20 := by have := V3_18.lt; omega
  have nebq9bq20 : bq9 ≠ bq20 := by have := V11.lt; omega
  have sz26 := E23.1
  have Z27 := Z16.trans E23
  have X28 := X17.trans E23
  have V3_29 := V3_18.ext E23
  have Y30 := Y19.trans E23
  have V11_31 := V11.ext E23
  have Y32 := E12.trans E23
  refine r_nil (q_t ?_)
  refine w_seq ?_
  refine w_reg ?_
  refine r_fo (fs := 1) fd_Z1 (by kernel_rfl) (by decide) rfl (r_ld na_U32 rfl (V3_29.cell (i := 1) rfl) (r_lenD sl_U32 rfl (HDa.ext X28) (r_fo (fs := 1) fd_Z1 (by kernel_rfl) (by decide) rfl (r_ld na_U32 rfl (V11_31.cell (i := 1) rfl) (r_lenD sl_U32 rfl (HDb.ext X28) (r_addn rfl rfl (by omega) ?_))))))
  refine r_mkD (n := LA.length + LB.length) sl_U32 ze_u32 (fun _ => trivial) rfl rfl (by decide) (by omega) fun g1 v1 h1 HO1 E1 hg1 hl1 => ?_
  have sz33 := E1.1
  have Z34 := Z27.trans E1
  have X35 := X28.trans E1
  have V3_36 := V3_29.ext E1
  have Y37 := Y30.trans E1
  have V11_38 := V11_31.ext E1
  have Y39 := Y32.trans E1
  have V22_40 := V22.ext E1
  have Y41 := E23.trans E1
  refine r_as (r_nil (q_t ?_))
  refine w_seq ?_
  refine w_seq ?_
  refine w_reg ?_
  refine r_fo (fs := 1) fd_Z1 (by kernel_rfl) (by decide) rfl (r_ld na_U32 rfl (V3_36.cell (i := 1) rfl) (r_lenD sl_U32 rfl (HDa.ext X35) (r_mv (r_nil (q_t ?_)))))
  refine w_block ?_
  refine w_loop 1180591620717407111104 (fun y : Nat × List Nat => [(22, .int .i64 (y.1 : Int))]) (fun k y h' => k = LA.length - y.1 ∧ y.1 ≤ LA.length ∧ Ext h h' ∧ g1 < Array.size h' ∧ BoxH 79 h' bq1 [.bool na, sa] ∧ BoxH 79 h' bq9 [.bool nb, sb] ∧ BoxH 79 h' bq20 [.bool false, .slice none 0 0] ∧ OwnA h' 98 g1 v1 (y.2.map u32V) ∧ y.2.length = LA.length + LB.length ∧ Dig y.2 ∧ nv y.2 = nv (LA.take y.1) * nv LB ∧ ∀ q, y.1 + LB.length ≤ q → q < LA.length + LB.length → y.2[q]? = some 0) (by kernel_rfl) LA.length (0, List.replicate (LA.length + LB.length) 0) ?_ ⟨rfl, trivial⟩ ?_
  · exact ⟨rfl, Nat.zero_le _, X35, by omega, V3_36, V11_38, V22_40, HO1, by simp, fun x hx => by rw [(List.mem_replicate.1 hx).2]; decide, by simp [nv, nv_rep], fun q hq hq2 => by dsimp only; rw [List.getElem?_replicate]; simp; omega⟩
  rintro k ⟨i, O⟩ s1 hq ⟨rfl, hi, XQ, hgq, VQ2, VQ3, VQ4, HO2, hOl, hOd, hOv, hOz⟩
  dsimp only at hi HO2 hOl hOd hOv hOz ⊢
  refine w_seq ?_
  refine w_reg ?_
  refine r_lss rfl rfl (fun hc1 => ?_) (fun hc1 => ?_)   -- t23 := binOp lss 3 t22 t21 3
  · skip
    refine r_nil (q_t ?_)
    refine w_seq ?_
    refine w_true rfl ?_
    refine w_skip (q_t ?_)
    refine w_seq ?_
    refine w_block ?_
    refine w_seq ?_
    obtain ⟨x, hx⟩ : ∃ x, LA[i]? = some x := ⟨_, List.getElem?_eq_getElem (by omega)⟩
    have hbx := HDa.dig x (List.mem_of_getElem? hx)
    refine w_reg ?_
    refine r_mv (r_ixD sl_U32 rfl (HDa.ext XQ) rfl hx fun aq42 haq42 => ?_)
    refine r_ld na_u32 rfl haq42 (r_as (r_as (r_nil (q_t ?_))))
    refine w_seq ?_
    refine w_reg ?_
    refine r_as (r_nil (q_t ?_))
    refine w_seq ?_
    refine w_seq ?_
    refine w_reg ?_
    refine r_fo (fs := 1) fd_Z1 (by kernel_rfl) (by decide) rfl (r_ld na_U32 rfl (VQ3.cell (i := 1) rfl) (r_lenD sl_U32 rfl (HDb.ext XQ) (r_mv (r_nil (q_t ?_)))))
    refine w_block ?_
    refine w_loop 1152921503533106944 (fun y : Nat × Nat × List Nat => [(30, .int .i64 (y.1 : Int)), (8, .int .u64 (y.2.1 : Int))]) (fun k y h' => k = LB.length - y.1 ∧ y.1 ≤ LB.length ∧ Ext h h' ∧ g1 < Array.size h' ∧ BoxH 79 h' bq1 [.bool na, sa] ∧ BoxH 79 h' bq9 [.bool nb, sb] ∧ BoxH 79 h' bq20 [.bool false, .slice none 0 0] ∧ OwnA h' 98 g1 v1 (y.2.2.map u32V) ∧ y.2.2.length = LA.length + LB.length ∧ Dig y.2.2 ∧ y.2.1 < 4294967296 ∧ nv y.2.2 + 4294967296 ^ (i + y.1) * y.2.1 = nv (LA.take i) * nv LB + 4294967296 ^ i * (x * nv (LB.take y.1)) ∧ ∀ q, i + LB.length ≤ q → q < LA.length + LB.length → y.2.2[q]? = some 0) (by kernel_rfl) LB.length (0, 0, O) ?_ ⟨rfl, rfl, trivial⟩ ?_
    · exact ⟨rfl, Nat.zero_le _, XQ, by omega, VQ2, VQ3, VQ4, HO2, hOl, hOd, by dsimp only; omega, by simp [nv, hOv], hOz⟩
    rintro k ⟨j, c, O⟩ s2 hp ⟨rfl, hj, XQ, hgq, VQ2, VQ3, VQ4, HO2, hOl, hOd, hc, hOv, hOz⟩
    dsimp only at hj HO2 hOl hOd hc hOv hOz ⊢
    refine w_seq ?_
    refine w_reg ?_
    refine r_lss rfl rfl (fun hc2 => ?_) (fun hc2 => ?_)   -- t31 := binOp lss 3 t30 t29 3
    · skip
      refine r_nil (q_t ?_)
      refine w_seq ?_
      refine w_true rfl ?_
      refine w_skip (q_t ?_)
      refine w_seq ?_
      refine w_block ?_
      refine w_seq ?_
      obtain ⟨y, hy⟩ : ∃ x, LB[j]? = some x := ⟨_, List.getElem?_eq_getElem (by omega)⟩
      have hby := HDb.dig y (List.mem_of_getElem? hy)
      obtain ⟨ov, hov⟩ : ∃ x, O[i + j]? = some x := ⟨_, List.getElem?_eq_getElem (by omega)⟩
      have hbo := hOd ov (List.mem_of_getElem? hov)
      have htb := mul_bdZ hc hbx hby hbo
      have hxy : x * y ≤ 4294967295 * 4294967295 := Nat.mul_le_mul (by omega) (by omega)
      refine w_reg ?_
      refine r_mv (r_ixD sl_U32 rfl (HDb.ext XQ) rfl hy fun aq43 haq43 => ?_)
      refine r_ld na_u32 rfl haq43 (r_as (r_as (r_nil (q_t ?_))))
      refine w_seq ?_
      refine w_reg ?_
      refine r_mv (r_mv (r_up it_u32 it_u64 rfl hbx ?_))
      refine r_mv (r_up it_u32 it_u64 rfl hby ?_)
      refine r_mulU rfl rfl (by omega) ?_
      refine r_mv (r_mv (r_mv (r_addn rfl rfl (by omega) ?_)))
      refine r_ixo sl_U32 rfl HO2 rfl (by rw [List.length_map]; omega) ?_
      refine r_ld na_u32 rfl (OwnA.cell HO2 (get_u32 hov)) ?_
      refine r_up it_u32 it_u64 rfl hbo ?_
      refine r_addU rfl rfl (by omega) ?_
      refine r_addU rfl rfl (by omega) ?_
      refine r_as (r_nil (q_t ?_))
      refine w_seq ?_
      refine w_reg ?_
      refine r_mv (r_mv (r_mv (r_addn rfl rfl (by omega) ?_)))
      refine r_mv (r_low it_u64 it_u32 rfl ?_)
      refine r_ixo sl_U32 rfl HO2 rfl (by rw [List.length_map]; omega) ?_
      refine r_stD (O.set (i + j) ((c + (x * y + ov)) % 4294967296)) na_u32 rfl rfl HO2 (by omega) rfl fun h4 HO4 U4 => ?_
      have sz44 := U4.1
      have X45 := XQ.thenUpd U4 (fun k hk => by have hk2 : k = g1 := hk; omega)
      have V3_46 := VQ2.upd U4 (fun he => by have he2 : bq1 = g1 := he; omega)
      have V11_47 := VQ3.upd U4 (fun he => by have he2 : bq9 = g1 := he; omega)
      have V22_48 := VQ4.upd U4 (fun he => by have he2 : bq20 = g1 := he; omega)
      refine r_nil (q_t ?_)
      refine w_reg ?_
      refine r_mv (r_shr32 rfl rfl ?_)
      refine r_as (r_nil (q_b (q_t ?_)))
      refine w_reg ?_
      refine r_inc rfl (by omega) (r_mv (r_nil (q_t ?_)))
      exact ⟨LB.length - (j + 1), (j + 1, (c + (x * y + ov)) / 4294967296, O.set (i + j) ((c + (x * y + ov)) % 4294967296)), by first | omega | (dsimp only; omega), ⟨rfl, by first | omega | (dsimp only; omega), X45, by omega, V3_46, V11_47, V22_48, HO4, by simp [hOl], dig_set hOd (Nat.mod_lt _ (by decide)), by dsimp only; exact Nat.div_lt_of_lt_mul htb, by dsimp only; rw [nv_take_succ hy]; exact mul_step (Pi := 0) (nv_set _ hov) hOv (Nat.mod_add_div _ _), fun q h1 h2 => by dsimp only; rw [List.getElem?_set_ne (by omega)]; exact hOz q h1 h2⟩, rfl, rfl, trivial⟩
    · skip
      refine r_nil (q_t ?_)
      refine w_seq ?_
      refine w_false rfl ?_
      refine w_exit (q_tx (q_tx (q_bx (q_t ?_))))
      obtain rfl : j = LB.length := by omega
      refine w_reg ?_
      refine r_mv (r_mv (r_fo (fs := 1) fd_Z1 (by kernel_rfl) (by decide) rfl (r_ld na_U32 rfl (VQ3.cell (i := 1) rfl) (r_lenD sl_U32 rfl (HDb.ext XQ) (r_addn rfl rfl (by omega) ?_)))))
      refine r_mv (r_low it_u64 it_u32 rfl ?_)
      rw [Nat.mod_eq_of_lt hc]
      refine r_ixo sl_U32 rfl HO2 rfl (by rw [List.length_map]; omega) ?_
      refine r_stD (O.set (i + LB.length) (c)) na_u32 rfl rfl HO2 (by omega) rfl fun h5 HO5 U5 => ?_
      have sz49 := U5.1
      have X50 := XQ.thenUpd U5 (fun k hk => by have hk2 : k = g1 := hk; omega)
      have V3_51 := VQ2.upd U5 (fun he => by have he2 : bq1 = g1 := he; omega)
      have V11_52 := VQ3.upd U5 (fun he => by have he2 : bq9 = g1 := he; omega)
      have V22_53 := VQ4.upd U5 (fun he => by have he2 : bq20 = g1 := he; omega)
      refine r_nil (q_b (q_t ?_))
      refine w_reg ?_
      refine r_inc rfl (by omega) (r_mv (r_nil (q_t ?_)))
      exact ⟨LA.length - (i + 1), (i + 1, O.set (i + LB.length) c), by first | omega | (dsimp only; omega), ⟨rfl, by first | omega | (dsimp only; omega), X50, by omega, V3_51, V11_52, V22_53, HO5, by simp [hOl], dig_set hOd hc, by dsimp only; have h1 := nv_set c (hOz (i + LB.length) (Nat.le_refl _) (by omega)); rw [Nat.mul_zero, Nat.add_zero] at h1; rw [h1, hOv, List.take_length, nv_take_succ hx, Nat.add_mul, Nat.mul_assoc], fun q h1 h2 => by dsimp only; rw [List.getElem?_set_ne (by omega)]; exact hOz q (by omega) h2⟩, rfl, trivial⟩
  · skip
    refine r_nil (q_t ?_)
    refine w_seq ?_
    refine w_false rfl ?_
    refine w_exit (q_tx (q_tx (q_bx (q_t ?_))))
    refine w_seq ?_
    obtain rfl : i = LA.length := by omega
    rw [List.take_length] at hOv
    have HDo := HO2.ds (lo := 0) hOd (Nat.zero_le _)
    refine w_reg ?_
    refine r_fo (fs := 1) fd_Z0 (by kernel_rfl) (by decide) rfl (r_ld na_bool rfl (VQ2.cell (i := 0) rfl) (r_fo (fs := 1) fd_Z0 (by kernel_rfl) (by decide) rfl (r_ld na_bool rfl (VQ3.cell (i := 0) rfl) (r_neBool un_bool rfl rfl (r_mv (r_call trivial rfl (zMake_ok (!(na == nb)) (DS.ext HDo (Ext.refl _)) (by omega) (by rw [hOv, ← sgn_abs hza, ← sgn_abs hzb]; exact hab)) fun x54 h55 hk => ?_))))))
    obtain ⟨E56, HZ3⟩ := hk
    refine ⟨trivial, ?_⟩
    have sz57 := E56.1
    have X58 := XQ.trans E56
    have V3_59 := VQ2.ext E56
    have V11_60 := VQ3.ext E56
    have V22_61 := VQ4.ext E56
    have HO2_62 := HO2.ext E56
    obtain ⟨ng3, s3, L3, rfl, HD3, htl3, hlen3, hz3⟩ := HZ3.out
    refine r_stA [.bool ng3, s3] ag_Z rfl rfl rfl rfl (one_Z HD3.cap) V22_61 fun h63 V22_64 U65 => ?_
    have X66 := X58.thenUpd U65 (fun k hk => by have hk2 : k = bq20 := hk; omega)
    have sz67 := U65.1
    have V3_68 := V3_59.upd U65 (fun he => nebq1bq20 (he : bq1 = bq20))
    have V11_69 := V11_60.upd U65 (fun he => nebq9bq20 (he : bq9 = bq20))
    have HD3_70 := HD3.updLo U65 (by omega)
    refine r_nil (q_t ?_)
    refine w_ret ?_
    refine ⟨_, retV_c ag_Z rfl rfl V22_64, ?_⟩
    exact ⟨X66, ⟨ng3, s3, L3, rfl, HD3_70.mono (by omega), htl3, hlen3, by rw [← hz3, hOv, hza, hzb, sgn_mul]⟩⟩

end Go.Proofs.YtdlfineibanppaaDoor


/-
  Contracts of quadformref01: divide. Conditions stand in each statement.
-/
namespace Go.Proofs.YtdlfineibanppaaDoor
open Go Go.QF
set_option linter.unusedVariables false
set_option linter.unusedSimpArgs false
set_option maxRecDepth 100000
theorem field_Z (b : Bool) (a : Option Addr) (n c : Nat) (w : World) : (Instr.field 79 (.agg #[.bool b, .slice a n c]) 1).run Tryd.prog w = .ok (.slice a n c) w := by kernel_rfl
theorem q_step {j t : Nat} : 2 ^ (j + 1) * t + 2 ^ j = 2 ^ j * (2 * t + 1) := by rw [Nat.pow_succ, Nat.mul_add, Nat.mul_one, Nat.mul_assoc]
theorem q_same {j t : Nat} : 2 ^ (j + 1) * t = 2 ^ j * (2 * t) := by rw [Nat.pow_succ, Nat.mul_assoc]
theorem shl_u32 {s : Nat} (h : s < 32) : IntKind.u32.wrap (1 * 2 ^ s) = ((2 ^ s : Nat) : Int) := by
  have h1 : (2 : Nat) ^ s < 4294967296 := by rw [show (4294967296 : Nat) = 2 ^ 32 by decide]; exact Nat.pow_lt_pow_right (by decide) h
  rw [wrap_u32, Int.one_mul, show ((2 : Int) ^ s) = ((2 ^ s : Nat) : Int) by simp]
  generalize (2 : Nat) ^ s = q at *
  omega

theorem cmp_lt2 {a b : Nat} (h : cmpN a b < 0) : a < b := by
  unfold cmpN at h
  split at h
  · assumption
  · split at h <;> omega

theorem zdivide_ok {h : Heap} {la lb : Nat} {va vb : Value} {LA LB : List Nat} (HA : DS h la va LA) (HB : DS h lb vb LB) (htb : TL LB) (hb0 : nv LB ≠ 0) (hna : LA.length ≤ 900) (hnb : LB.length ≤ 900) : CallH Tryd.prog 96 #[va, vb] h fun x h' => Ext h h' ∧ ∃ q r, x = .tuple #[q, r] ∧ ∃ LQ LR, DS h' (Array.size h) q LQ ∧ DS h' (Array.size h) r LR ∧ nv LQ = nv LA / nv LB ∧ nv LR = nv LA % nv LB ∧ LQ.length ≤ 1000 ∧ LR.length ≤ 1000 := by
  refine calls_of_W (l := [_, _]) mx Tryd.func96 rfl rfl rfl rfl rfl (by kernel_rfl) ?_
  refine w_seq ?_
  refine w_reg ?_
  refine r_as (r_as (r_nil (q_t ?_)))
  refine w_seq ?_
  refine w_seq ?_
  refine w_reg ?_
  refine r_mv (r_lenD sl_U32 rfl HA (r_leq rfl rfl (fun hc1 => ?_) (fun hc1 => ?_)))   -- t11 := binOp leq 3 t10 2:i64 3
  · skip
    refine r_mv (r_want 12 true (by kernel_rfl) rfl rfl (r_mv (r_want 12 true (by kernel_rfl) rfl rfl (r_lenD sl_U32 rfl HB (r_want 12 true (by kernel_rfl) rfl rfl (r_leq rfl rfl (fun hc2 => ?_) (fun hc2 => ?_)))))))   -- t15 := binOp leq 3 t14 2:i64 3   [guard op3 true]
    · skip
      refine r_pickT rfl (r_nil (q_t ?_))
      refine w_true rfl ?_
      refine w_seq ?_
      refine w_reg ?_
      refine r_mv (r_call trivial rfl (zlow_ok HA (by omega)) fun x1 h hk => ?_)
      obtain ⟨rfl, rfl⟩ := hk
      refine ⟨trivial, ?_⟩
      refine r_mv (r_call trivial rfl (zlow_ok HB (by omega)) fun x2 h hk => ?_)
      obtain ⟨rfl, rfl⟩ := hk
      refine ⟨trivial, ?_⟩
      refine r_as (r_as (r_nil (q_t ?_)))
      refine w_seq ?_
      have hlt2 := nv_lt2 HA.dig (by omega)
      refine w_draw (by kernel_rfl) ?_
      refine r_mv (r_mv (r_quo rfl rfl (by omega) ?_))
      rw [show IntKind.u64.wrap (((nv LA : Nat) : Int).tdiv ((nv LB : Nat) : Int)) = ((nv LA / nv LB : Nat) : Int) by rw [Int.tdiv_eq_ediv_of_nonneg (by omega), ← Int.natCast_ediv, wrap_u64]; have hq := Nat.div_le_self (nv LA) (nv LB); generalize nv LA / nv LB = q at hq ⊢; omega]
      refine r_call trivial rfl (zword_ok false (nv LA / nv LB) (by have := Nat.div_le_self (nv LA) (nv LB); omega) _) fun x3 h4 hk => ?_
      obtain ⟨E5, HZ1⟩ := hk
      refine ⟨trivial, ?_⟩
      have sz6 := E5.1
      have Z7 := (Ext.refl h).trans E5
      obtain ⟨ng1, s1, L1, rfl, HD1, htl1, hlen1, hz1⟩ := HZ1.out
      obtain ⟨a1, n1, c1, rfl, _⟩ := HD1.cap
      have hv1 : nv L1 = nv LA / nv LB := (sgn_abs hz1).symm.trans (sgn_abs rfl)
      refine r_fd (field_Z _ _ _ _) ?_
      refine r_mv (r_mv (r_remn rfl rfl (by omega) ?_))
      refine r_call trivial rfl (zword_ok false (nv LA % nv LB) (by have := Nat.mod_le (nv LA) (nv LB); omega) _) fun x8 h9 hk => ?_
      obtain ⟨E10, HZ2⟩ := hk
      refine ⟨trivial, ?_⟩
      have sz11 := E10.1
      have Z12 := Z7.trans E10
      have X13 := E5.trans E10
      have HD1_14 := HD1.ext E10
      obtain ⟨ng2, s2, L2, rfl, HD2, htl2, hlen2, hz2⟩ := HZ2.out
      obtain ⟨a2, n2, c2, rfl, _⟩ := HD2.cap
      have hv2 : nv L2 = nv LA % nv LB := (sgn_abs hz2).symm.trans (sgn_abs rfl)
      refine r_fd (field_Z _ _ _ _) ?_
      refine r_as (r_as (r_nil (q_t ?_)))
      refine w_ret (q_tr ?_)
      refine ⟨_, retV_2, ?_⟩
      first
      | exact ⟨X13, _, _, rfl, L1, L2, HD1_14.mono (by omega), HD2.mono (by omega), hv1, hv2, by omega, by omega⟩
      | exact ⟨X13, _, _, rfl, L7, R, lacks_HD7.mono (by omega), lacks_HR.mono (by omega), by rw [hv7]; exact hQv, hRv, by omega, by omega⟩
    · skip
      refine r_pickT rfl (r_nil (q_t ?_))
      refine w_false rfl ?_
      refine w_skip (q_t ?_)
      refine w_seq ?_
      refine w_reg ?_
      refine r_mv (r_lenD sl_U32 rfl HA (r_mkD (n := LA.length) sl_U32 ze_u32 (fun _ => trivial) rfl rfl (by decide) (by omega) fun g1 v1 h1 HO1 E1 hg1 hl1 => ?_))
      have sz15 := E1.1
      have Z16 := (Ext.refl h).trans E1
      refine r_as (r_nil (q_t ?_))
      refine w_seq ?_
      refine w_seq ?_
      refine w_reg ?_
      refine r_mv (r_lenD sl_U32 rfl (HA.ext E1) (r_mulb rfl rfl (by omega) (by omega) ?_))
      rw [show (32 : Int) * ((LA.length : Nat) : Int) = ((32 * LA.length : Nat) : Int) by omega]
      refine r_subb rfl rfl (by omega) (by omega) ?_
      refine r_as (r_nil (q_t ?_))
      refine w_block ?_
      have h0d : nv LA / 2 ^ (32 * LA.length) = 0 := Nat.div_eq_of_lt (by rw [← bb_pow]; exact nv_lt HA.dig)
      refine w_loop 4722366482594767307040 (fun y : Nat × Value × List Nat × List Nat => [(8, .int .i64 ((y.1 : Int) - 1)), (5, y.2.1)]) (fun k y h' => y.1 = k ∧ y.1 ≤ 32 * LA.length ∧ Ext h h' ∧ g1 < Array.size h' ∧ OwnA h' 98 g1 v1 (y.2.2.1.map u32V) ∧ y.2.2.1.length = LA.length ∧ Dig y.2.2.1 ∧ nv y.2.2.1 = 2 ^ y.1 * (nv LA / 2 ^ y.1 / nv LB) ∧ DS h' (g1 + 1) y.2.1 y.2.2.2 ∧ TL y.2.2.2 ∧ nv y.2.2.2 = nv LA / 2 ^ y.1 % nv LB) (by kernel_rfl) (32 * LA.length) (32 * LA.length, .slice none 0 0, List.replicate LA.length 0, []) ?_ ⟨rfl, rfl, trivial⟩ ?_
      · exact ⟨rfl, Nat.le_refl _, E1, by omega, HO1, by simp, fun x hx => by rw [(List.mem_replicate.1 hx).2]; decide, by dsimp only; rw [h0d, Nat.zero_div, nv_rep]; rfl, ds_nil _ _, tl_nil, by dsimp only; rw [h0d, Nat.zero_mod]; rfl⟩
      rintro k ⟨i, vr, Q, R⟩ s1 hq ⟨rfl, hi, XQ, hgq, HO2, hQl, hQd, hQv, HR, hRt, hRv⟩
      dsimp only at hi HO2 hQl hQd hQv HR hRt hRv ⊢
      have hRl : R.length ≤ LB.length := tl_len hRt (by rw [hRv]; exact Nat.lt_trans (Nat.mod_lt _ (Nat.pos_of_ne_zero hb0)) (nv_lt HB.dig))
      refine w_seq ?_
      refine w_seq ?_
      refine w_reg ?_
      refine r_mv (r_geq rfl rfl (fun hc3 => ?_) (fun hc3 => ?_))   -- t39 := binOp geq 3 t38 0:i64 3
      · skip
        refine r_nil (q_t ?_)
        refine w_true rfl ?_
        refine w_skip (q_t ?_)
        refine w_seq ?_
        refine w_block ?_
        refine w_seq ?_
        obtain ⟨j, rfl⟩ : ∃ j, i = j + 1 := ⟨i - 1, by omega⟩
        obtain ⟨x, hx⟩ : ∃ x, LA[j / 32]? = some x := ⟨_, List.getElem?_eq_getElem (by omega)⟩
        have hbx := HA.dig x (List.mem_of_getElem? hx)
        have hbit := bit_dig HA.dig hx
        have hst := div_step (N := nv LA) (i := j) hb0 hRv
        rw [hbit] at hst
        refine w_reg ?_
        refine r_mv (r_mv (r_mv (r_quop rfl rfl (by omega) (by omega) (by omega) ?_)))
        rw [show (((j + 1 : Nat) : Int) - 1) / 32 = ((j / 32 : Nat) : Int) by omega]
        refine r_ixD sl_U32 rfl (HA.ext XQ) rfl hx fun aq17 haq17 => ?_
        refine r_ld na_u32 rfl haq17 (r_mv (r_remp rfl rfl (by omega) (by omega) ?_))
        rw [show (((j + 1 : Nat) : Int) - 1) % 32 = ((j % 32 : Nat) : Int) by omega]
        refine r_shr (n := j % 32) rfl rfl (by show j % 32 ≤ 32; omega) ?_
        rw [show (x : Int) / 2 ^ (j % 32) = ((x / 2 ^ (j % 32) : Nat) : Int) by simp]
        have hxs : x / 2 ^ (j % 32) < 4294967296 := Nat.lt_of_le_of_lt (Nat.div_le_self _ _) hbx
        refine r_bits rfl rfl (.inl rfl) (and1_u32 hxs) ?_
        refine r_call trivial rfl (zdouble_ok (x / 2 ^ (j % 32) % 2) (by omega) HR (by omega)) fun x18 h19 hk => ?_
        obtain ⟨E20, L3, HD3, hv3, hl3⟩ := hk
        refine ⟨trivial, ?_⟩
        have sz21 := E20.1
        have X22 := XQ.trans E20
        have HO2_23 := HO2.ext E20
        have HR_24 := HR.ext E20
        refine r_call trivial rfl (ztrim_ok HD3 (by omega)) fun x25 h26 hk => ?_
        obtain ⟨E27, L4, HD4, htl4, hv4, hl4⟩ := hk
        refine ⟨trivial, ?_⟩
        have sz28 := E27.1
        have X29 := X22.trans E27
        have HO2_30 := HO2_23.ext E27
        have HR_31 := HR_24.ext E27
        have HD3_32 := HD3.ext E27
        refine r_as (r_nil (q_t ?_))
        refine w_seq ?_
        refine w_reg ?_
        refine r_mv (r_mv (r_call trivial rfl (zcmp_ok HD4 (HB.ext X29) htl4 htb (by omega) (by omega)) fun x33 h26 hk => ?_))
        obtain ⟨rfl, rfl⟩ := hk
        refine ⟨trivial, ?_⟩
        refine r_geq rfl rfl (fun hc4 => ?_) (fun hc4 => ?_)   -- t57 := binOp geq 3 t56 0:i64 3
        · skip
          refine r_nil (q_t ?_)
          refine w_true rfl ?_
          refine w_seq ?_
          refine w_reg ?_
          refine r_mv (r_mv (r_call trivial rfl (zdiff_ok HD4 (HB.ext X29) htb (cmp_ge (by assumption)) (by omega)) fun x34 h35 hk => ?_))
          obtain ⟨E36, L5, HD5, hv5, hl5⟩ := hk
          refine ⟨trivial, ?_⟩
          have sz37 := E36.1
          have X38 := X29.trans E36
          have HO2_39 := HO2_30.ext E36
          have HR_40 := HR_31.ext E36
          have HD3_41 := HD3_32.ext E36
          have HD4_42 := HD4.ext E36
          refine r_call trivial rfl (ztrim_ok HD5 (by omega)) fun x43 h44 hk => ?_
          obtain ⟨E45, L6, HD6, htl6, hv6, hl6⟩ := hk
          refine ⟨trivial, ?_⟩
          have sz46 := E45.1
          have X47 := X38.trans E45
          have HO2_48 := HO2_39.ext E45
          have HR_49 := HR_40.ext E45
          have HD3_50 := HD3_41.ext E45
          have HD4_51 := HD4_42.ext E45
          have HD5_52 := HD5.ext E45
          refine r_as (r_nil (q_t ?_))
          obtain ⟨dd, hd⟩ : ∃ x, Q[j / 32]? = some x := ⟨_, List.getElem?_eq_getElem (by omega)⟩
          have hdb := hQd dd (List.mem_of_getElem? hd)
          obtain ⟨t, rfl⟩ := dvd_dig hQd hd hQv
          have hge : nv LB ≤ 2 * nv R + x / 2 ^ (j % 32) % 2 := by rw [← hv3, ← hv4]; exact cmp_ge (by assumption)
          have hs32 : j % 32 < 32 := Nat.mod_lt _ (by decide)
          have hp32 : 2 ^ (j % 32) < 4294967296 := by have := bit_fit hs32 hdb; omega
          refine w_draw (by kernel_rfl) ?_
          refine r_mv (r_mv (r_quop rfl rfl (by omega) (by omega) (by omega) ?_))
          rw [show (((j + 1 : Nat) : Int) - 1) / 32 = ((j / 32 : Nat) : Int) by omega]
          refine r_ixo sl_U32 rfl HO2_48 rfl (by rw [List.length_map]; omega) ?_
          refine r_ld na_u32 rfl (OwnA.cell HO2_48 (get_u32 hd)) ?_
          refine r_mv (r_remp rfl rfl (by omega) (by omega) ?_)
          rw [show (((j + 1 : Nat) : Int) - 1) % 32 = ((j % 32 : Nat) : Int) by omega]
          refine r_shl (n := j % 32) rfl rfl (by show j % 32 ≤ 32; omega) ?_
          rw [shl_u32 hs32]
          refine r_bits rfl rfl (.inr (.inl rfl)) (or_u32 hdb hp32) ?_
          rw [or_bit]
          refine r_ixo sl_U32 rfl HO2_48 rfl (by rw [List.length_map]; omega) ?_
          refine r_stD (Q.set (j / 32) (2 ^ (j % 32 + 1) * t + 2 ^ (j % 32))) na_u32 rfl rfl HO2_48 (by omega) rfl fun h9 HO9 U9 => ?_
          have sz53 := U9.1
          have X54 := X47.thenUpd U9 (fun k hk => by have hk2 : k = g1 := hk; omega)
          have HR_55 := HR_49.updLo U9 (by omega)
          have HD3_56 := HD3_50.updLo U9 (by omega)
          have HD4_57 := HD4_51.updLo U9 (by omega)
          have HD5_58 := HD5_52.updLo U9 (by omega)
          have HD6_59 := HD6.updLo U9 (by omega)
          refine r_nil (q_b (q_t ?_))
          refine w_reg ?_
          refine r_mv (r_subb rfl rfl (by omega) (by omega) ?_)
          rw [show (((j + 1 : Nat) : Int) - 1) - 1 = ((j : Nat) : Int) - 1 by omega]
          refine r_as (r_nil (q_t ?_))
          exact ⟨j, (j, _, Q.set (j / 32) (2 ^ (j % 32 + 1) * t + 2 ^ (j % 32)), L6), by first | omega | (dsimp only; omega), ⟨rfl, by first | omega | (dsimp only; omega), X54, by omega, HO9, by simp [hQl], dig_set hQd (bit_fit (Nat.mod_lt _ (by decide)) hdb), by dsimp only; rw [(hst.2.1 hge).2, ← q_step, ← hQv, pow_split j]; have := nv_set (2 ^ (j % 32 + 1) * t + 2 ^ (j % 32)) hd; rw [Nat.mul_add] at this; omega, HD6_59.mono (by omega), htl6, by dsimp only; rw [hv6, hv5, hv4, hv3]; exact (hst.2.1 hge).1.symm⟩, rfl, rfl, trivial⟩
        · skip
          refine r_nil (q_t ?_)
          refine w_false rfl ?_
          refine w_skip (q_b (q_t ?_))
          refine w_reg ?_
          refine r_mv (r_subb rfl rfl (by omega) (by omega) ?_)
          rw [show (((j + 1 : Nat) : Int) - 1) - 1 = ((j : Nat) : Int) - 1 by omega]
          refine r_as (r_nil (q_t ?_))
          have hlt : 2 * nv R + x / 2 ^ (j % 32) % 2 < nv LB := by rw [← hv3, ← hv4]; exact cmp_lt2 (by assumption)
          exact ⟨j, (j, _, Q, L4), by first | omega | (dsimp only; omega), ⟨rfl, by first | omega | (dsimp only; omega), X29, by omega, HO2_30, hQl, hQd, by dsimp only; rw [(hst.2.2 hlt).2, hQv, q_same], HD4.mono (by omega), htl4, by dsimp only; rw [hv4, hv3]; exact (hst.2.2 hlt).1.symm⟩, rfl, rfl, trivial⟩
      · skip
        refine r_nil (q_t ?_)
        refine w_false rfl ?_
        refine w_exit (q_tx (q_tx (q_bx (q_t ?_))))
        refine w_seq ?_
        obtain rfl : i = 0 := by omega
        rw [Nat.pow_zero, Nat.one_mul, Nat.div_one] at hQv
        rw [Nat.pow_zero, Nat.div_one] at hRv
        have HDq := HO2.ds (lo := 0) hQd (Nat.zero_le _)
        refine w_reg ?_
        refine r_mv (r_call trivial rfl (ztrim_ok (DS.ext HDq (Ext.refl _)) (by omega)) fun x60 h61 hk => ?_)
        obtain ⟨E62, L7, HD7, htl7, hv7, hl7⟩ := hk
        refine ⟨trivial, ?_⟩
        have sz63 := E62.1
        have X64 := XQ.trans E62
        have HO2_65 := HO2.ext E62
        have HR_66 := HR.ext E62
        refine r_mv (r_as (r_as (r_nil (q_t ?_))))
        refine w_ret ?_
        refine ⟨_, retV_2, ?_⟩
        first
        | exact ⟨X64, _, _, rfl, L1, L2, lacks_HD1.mono (by omega), lacks_HD2.mono (by omega), hv1, hv2, by omega, by omega⟩
        | exact ⟨X64, _, _, rfl, L7, R, HD7.mono (by omega), HR_66.mono (by omega), by rw [hv7]; exact hQv, hRv, by omega, by omega⟩
  · skip
    refine r_mv (r_skip 12 false (by kernel_rfl) rfl rfl (r_skip 12 false (by kernel_rfl) rfl rfl (r_skip 12 false (by kernel_rfl) rfl rfl (r_pickF rfl (r_nil (q_t ?_))))))
    refine w_false rfl ?_
    refine w_skip (q_t ?_)
    refine w_seq ?_
    refine w_reg ?_
    refine r_mv (r_lenD sl_U32 rfl HA (r_mkD (n := LA.length) sl_U32 ze_u32 (fun _ => trivial) rfl rfl (by decide) (by omega) fun g1 v1 h1 HO1 E1 hg1 hl1 => ?_))
    have sz67 := E1.1
    have Z68 := (Ext.refl h).trans E1
    refine r_as (r_nil (q_t ?_))
    refine w_seq ?_
    refine w_seq ?_
    refine w_reg ?_
    refine r_mv (r_lenD sl_U32 rfl (HA.ext E1) (r_mulb rfl rfl (by omega) (by omega) ?_))
    rw [show (32 : Int) * ((LA.length : Nat) : Int) = ((32 * LA.length : Nat) : Int) by omega]
    refine r_subb rfl rfl (by omega) (by omega) ?_
    refine r_as (r_nil (q_t ?_))
    refine w_block ?_
    have h0d : nv LA / 2 ^ (32 * LA.length) = 0 := Nat.div_eq_of_lt (by rw [← bb_pow]; exact nv_lt HA.dig)
    refine w_loop 4722366482594767307040 (fun y : Nat × Value × List Nat × List Nat => [(8, .int .i64 ((y.1 : Int) - 1)), (5, y.2.1)]) (fun k y h' => y.1 = k ∧ y.1 ≤ 32 * LA.length ∧ Ext h h' ∧ g1 < Array.size h' ∧ OwnA h' 98 g1 v1 (y.2.2.1.map u32V) ∧ y.2.2.1.length = LA.length ∧ Dig y.2.2.1 ∧ nv y.2.2.1 = 2 ^ y.1 * (nv LA / 2 ^ y.1 / nv LB) ∧ DS h' (g1 + 1) y.2.1 y.2.2.2 ∧ TL y.2.2.2 ∧ nv y.2.2.2 = nv LA / 2 ^ y.1 % nv LB) (by kernel_rfl) (32 * LA.length) (32 * LA.length, .slice none 0 0, List.replicate LA.length 0, []) ?_ ⟨rfl, rfl, trivial⟩ ?_
    · exact ⟨rfl, Nat.le_refl _, E1, by omega, HO1, by simp, fun x hx => by rw [(List.mem_replicate.1 hx).2]; decide, by dsimp only; rw [h0d, Nat.zero_div, nv_rep]; rfl, ds_nil _ _, tl_nil, by dsimp only; rw [h0d, Nat.zero_mod]; rfl⟩
    rintro k ⟨i, vr, Q, R⟩ s1 hq ⟨rfl, hi, XQ, hgq, HO2, hQl, hQd, hQv, HR, hRt, hRv⟩
    dsimp only at hi HO2 hQl hQd hQv HR hRt hRv ⊢
    have hRl : R.length ≤ LB.length := tl_len hRt (by rw [hRv]; exact Nat.lt_trans (Nat.mod_lt _ (Nat.pos_of_ne_zero hb0)) (nv_lt HB.dig))
    refine w_seq ?_
    refine w_seq ?_
    refine w_reg ?_
    refine r_mv (r_geq rfl rfl (fun hc5 => ?_) (fun hc5 => ?_))   -- t39 := binOp geq 3 t38 0:i64 3
    · skip
      refine r_nil (q_t ?_)
      refine w_true rfl ?_
      refine w_skip (q_t ?_)
      refine w_seq ?_
      refine w_block ?_
      refine w_seq ?_
      obtain ⟨j, rfl⟩ : ∃ j, i = j + 1 := ⟨i - 1, by omega⟩
      obtain ⟨x, hx⟩ : ∃ x, LA[j / 32]? = some x := ⟨_, List.getElem?_eq_getElem (by omega)⟩
      have hbx := HA.dig x (List.mem_of_getElem? hx)
      have hbit := bit_dig HA.dig hx
      have hst := div_step (N := nv LA) (i := j) hb0 hRv
      rw [hbit] at hst
      refine w_reg ?_
      refine r_mv (r_mv (r_mv (r_quop rfl rfl (by omega) (by omega) (by omega) ?_)))
      rw [show (((j + 1 : Nat) : Int) - 1) / 32 = ((j / 32 : Nat) : Int) by omega]
      refine r_ixD sl_U32 rfl (HA.ext XQ) rfl hx fun aq69 haq69 => ?_
      refine r_ld na_u32 rfl haq69 (r_mv (r_remp rfl rfl (by omega) (by omega) ?_))
      rw [show (((j + 1 : Nat) : Int) - 1) % 32 = ((j % 32 : Nat) : Int) by omega]
      refine r_shr (n := j % 32) rfl rfl (by show j % 32 ≤ 32; omega) ?_
      rw [show (x : Int) / 2 ^ (j % 32) = ((x / 2 ^ (j % 32) : Nat) : Int) by simp]
      have hxs : x / 2 ^ (j % 32) < 4294967296 := Nat.lt_of_le_of_lt (Nat.div_le_self _ _) hbx
      refine r_bits rfl rfl (.inl rfl) (and1_u32 hxs) ?_
      refine r_call trivial rfl (zdouble_ok (x / 2 ^ (j % 32) % 2) (by omega) HR (by omega)) fun x70 h71 hk => ?_
      obtain ⟨E72, L3, HD3, hv3, hl3⟩ := hk
      refine ⟨trivial, ?_⟩
      have sz73 := E72.1
      have X74 := XQ.trans E72
      have HO2_75 := HO2.ext E72
      have HR_76 := HR.ext E72
      refine r_call trivial rfl (ztrim_ok HD3 (by omega)) fun x77 h78 hk => ?_
      obtain ⟨E79, L4, HD4, htl4, hv4, hl4⟩ := hk
      refine ⟨trivial, ?_⟩
      have sz80 := E79.1
      have X81 := X74.trans E79
      have HO2_82 := HO2_75.ext E79
      have HR_83 := HR_76.ext E79
      have HD3_84 := HD3.ext E79
      refine r_as (r_nil (q_t ?_))
      refine w_seq ?_
      refine w_reg ?_
      refine r_mv (r_mv (r_call trivial rfl (zcmp_ok HD4 (HB.ext X81) htl4 htb (by omega) (by omega)) fun x85 h78 hk => ?_))
      obtain ⟨rfl, rfl⟩ := hk
      refine ⟨trivial, ?_⟩
      refine r_geq rfl rfl (fun hc6 => ?_) (fun hc6 => ?_)   -- t57 := binOp geq 3 t56 0:i64 3
      · skip
        refine r_nil (q_t ?_)
        refine w_true rfl ?_
        refine w_seq ?_
        refine w_reg ?_
        refine r_mv (r_mv (r_call trivial rfl (zdiff_ok HD4 (HB.ext X81) htb (cmp_ge (by assumption)) (by omega)) fun x86 h87 hk => ?_))
        obtain ⟨E88, L5, HD5, hv5, hl5⟩ := hk
        refine ⟨trivial, ?_⟩
        have sz89 := E88.1
        have X90 := X81.trans E88
        have HO2_91 := HO2_82.ext E88
        have HR_92 := HR_83.ext E88
        have HD3_93 := HD3_84.ext E88
        have HD4_94 := HD4.ext E88
        refine r_call trivial rfl (ztrim_ok HD5 (by omega)) fun x95 h96 hk => ?_
        obtain ⟨E97, L6, HD6, htl6, hv6, hl6⟩ := hk
        refine ⟨trivial, ?_⟩
        have sz98 := E97.1
        have X99 := X90.trans E97
        have HO2_100 := HO2_91.ext E97
        have HR_101 := HR_92.ext E97
        have HD3_102 := HD3_93.ext E97
        have HD4_103 := HD4_94.ext E97
        have HD5_104 := HD5.ext E97
        refine r_as (r_nil (q_t ?_))
        obtain ⟨dd, hd⟩ : ∃ x, Q[j / 32]? = some x := ⟨_, List.getElem?_eq_getElem (by omega)⟩
        have hdb := hQd dd (List.mem_of_getElem? hd)
        obtain ⟨t, rfl⟩ := dvd_dig hQd hd hQv
        have hge : nv LB ≤ 2 * nv R + x / 2 ^ (j % 32) % 2 := by rw [← hv3, ← hv4]; exact cmp_ge (by assumption)
        have hs32 : j % 32 < 32 := Nat.mod_lt _ (by decide)
        have hp32 : 2 ^ (j % 32) < 4294967296 := by have := bit_fit hs32 hdb; omega
        refine w_draw (by kernel_rfl) ?_
        refine r_mv (r_mv (r_quop rfl rfl (by omega) (by omega) (by omega) ?_))
        rw [show (((j + 1 : Nat) : Int) - 1) / 32 = ((j / 32 : Nat) : Int) by omega]
        refine r_ixo sl_U32 rfl HO2_100 rfl (by rw [List.length_map]; omega) ?_
        refine r_ld na_u32 rfl (OwnA.cell HO2_100 (get_u32 hd)) ?_
        refine r_mv (r_remp rfl rfl (by omega) (by omega) ?_)
        rw [show (((j + 1 : Nat) : Int) - 1) % 32 = ((j % 32 : Nat) : Int) by omega]
        refine r_shl (n := j % 32) rfl rfl (by show j % 32 ≤ 32; omega) ?_
        rw [shl_u32 hs32]
        refine r_bits rfl rfl (.inr (.inl rfl)) (or_u32 hdb hp32) ?_
        rw [or_bit]
        refine r_ixo sl_U32 rfl HO2_100 rfl (by rw [List.length_map]; omega) ?_
        refine r_stD (Q.set (j / 32) (2 ^ (j % 32 + 1) * t + 2 ^ (j % 32))) na_u32 rfl rfl HO2_100 (by omega) rfl fun h9 HO9 U9 => ?_
        have sz105 := U9.1
        have X106 := X99.thenUpd U9 (fun k hk => by have hk2 : k = g1 := hk; omega)
        have HR_107 := HR_101.updLo U9 (by omega)
        have HD3_108 := HD3_102.updLo U9 (by omega)
        have HD4_109 := HD4_103.updLo U9 (by omega)
        have HD5_110 := HD5_104.updLo U9 (by omega)
        have HD6_111 := HD6.updLo U9 (by omega)
        refine r_nil (q_b (q_t ?_))
        refine w_reg ?_
        refine r_mv (r_subb rfl rfl (by omega) (by omega) ?_)
        rw [show (((j + 1 : Nat) : Int) - 1) - 1 = ((j : Nat) : Int) - 1 by omega]
        refine r_as (r_nil (q_t ?_))
        exact ⟨j, (j, _, Q.set (j / 32) (2 ^ (j % 32 + 1) * t + 2 ^ (j % 32)), L6), by first | omega | (dsimp only; omega), ⟨rfl, by first | omega | (dsimp only; omega), X106, by omega, HO9, by simp [hQl], dig_set hQd (bit_fit (Nat.mod_lt _ (by decide)) hdb), by dsimp only; rw [(hst.2.1 hge).2, ← q_step, ← hQv, pow_split j]; have := nv_set (2 ^ (j % 32 + 1) * t + 2 ^ (j % 32)) hd; rw [Nat.mul_add] at this; omega, HD6_111.mono (by omega), htl6, by dsimp only; rw [hv6, hv5, hv4, hv3]; exact (hst.2.1 hge).1.symm⟩, rfl, rfl, trivial⟩
      · skip
        refine r_nil (q_t ?_)
        refine w_false rfl ?_
        refine w_skip (q_b (q_t ?_))
        refine w_reg ?_
        refine r_mv (r_subb rfl rfl (by omega) (by omega) ?_)
        rw [show (((j + 1 : Nat) : Int) - 1) - 1 = ((j : Nat) : Int) - 1 by omega]
        refine r_as (r_nil (q_t ?_))
        have hlt : 2 * nv R + x / 2 ^ (j % 32) % 2 < nv LB := by rw [← hv3, ← hv4]; exact cmp_lt2 (by assumption)
        exact ⟨j, (j, _, Q, L4), by first | omega | (dsimp only; omega), ⟨rfl, by first | omega | (dsimp only; omega), X81, by omega, HO2_82, hQl, hQd, by dsimp only; rw [(hst.2.2 hlt).2, hQv, q_same], HD4.mono (by omega), htl4, by dsimp only; rw [hv4, hv3]; exact (hst.2.2 hlt).1.symm⟩, rfl, rfl, trivial⟩
    · skip
      refine r_nil (q_t ?_)
      refine w_false rfl ?_
      refine w_exit (q_tx (q_tx (q_bx (q_t ?_))))
      refine w_seq ?_
      obtain rfl : i = 0 := by omega
      rw [Nat.pow_zero, Nat.one_mul, Nat.div_one] at hQv
      rw [Nat.pow_zero, Nat.div_one] at hRv
      have HDq := HO2.ds (lo := 0) hQd (Nat.zero_le _)
      refine w_reg ?_
      refine r_mv (r_call trivial rfl (ztrim_ok (DS.ext HDq (Ext.refl _)) (by omega)) fun x112 h113 hk => ?_)
      obtain ⟨E114, L7, HD7, htl7, hv7, hl7⟩ := hk
      refine ⟨trivial, ?_⟩
      have sz115 := E114.1
      have X116 := XQ.trans E114
      have HO2_117 := HO2.ext E114
      have HR_118 := HR.ext E114
      refine r_mv (r_as (r_as (r_nil (q_t ?_))))
      refine w_ret ?_
      refine ⟨_, retV_2, ?_⟩
      first
      | exact ⟨X116, _, _, rfl, L1, L2, lacks_HD1.mono (by omega), lacks_HD2.mono (by omega), hv1, hv2, by omega, by omega⟩
      | exact ⟨X116, _, _, rfl, L7, R, HD7.mono (by omega), HR_118.mono (by omega), by rw [hv7]; exact hQv, hRv, by omega, by omega⟩

end Go.Proofs.YtdlfineibanppaaDoor


/-
  Regions whose first operations may come in any order (calls and new variables among them), the others behind in order; code in parts. No condition.
-/
namespace Go.QF
open Go
set_option linter.unusedVariables false
set_option linter.unusedSimpArgs false
section
variable {P : Program} {ops : Array Oper}
/-- What is left (in the order of the text), and what is listed. -/
structure LsF (ops : Array Oper) (R : List Nat) (listed : Array Bool) : Prop where
  pw : List.Pairwise (· < ·) R
  size : listed.size = ops.size
  mem : ∀ j, j ∈ R ↔ (j < ops.size ∧ listed.getD j true = false)
  cl : ∀ j oj, listed.getD j false = true → ops[j]? = some oj → ∀ ed ∈ oj.after, Region.binds .any ed = true → listed.getD ed.on false = true
theorem LsF.step {R1 R2 : List Nat} {i : Nat} {listed : Array Bool} {oi : Oper} (L : LsF ops (R1 ++ i :: R2) listed) (hoi : ops[i]? = some oi) (hall : ∀ ed ∈ oi.after, Region.binds .any ed = true → listed.getD ed.on false = true) : LsF ops (R1 ++ R2) (listed.setIfInBounds i true) := by
  have hpw' := List.pairwise_append.1 L.pw
  have his : i < ops.size := (Array.getElem?_eq_some_iff.1 hoi).1
  have his' : i < listed.size := by rw [L.size]; exact his
  have hne2 : ∀ j, i ≠ j → ∀ d, (listed.setIfInBounds i true).getD j d = listed.getD j d := fun j hij d => by
    simp only [Array.getD_eq_getD_getElem?]; rw [Array.getElem?_setIfInBounds_ne hij]
  have htr : ∀ j, listed.getD j false = true → (listed.setIfInBounds i true).getD j false = true := fun j hj => by
    by_cases h : i = j
    · subst h; simp [his']
    · rw [hne2 j h]; exact hj
  refine ⟨List.pairwise_append.2 ⟨hpw'.1, (List.pairwise_cons.1 hpw'.2.1).2, fun x hx y hy => hpw'.2.2 x hx y (List.mem_cons_of_mem _ hy)⟩, by simp [L.size], fun j => ?_, ?_⟩
  · have hm := L.mem j
    constructor
    · intro hj
      have hj' : j ∈ R1 ++ i :: R2 := by
        rcases List.mem_append.1 hj with h | h
        · exact List.mem_append_left _ h
        · exact List.mem_append_right _ (List.mem_cons_of_mem _ h)
      obtain ⟨h1, h2⟩ := hm.1 hj'
      have hne : i ≠ j := by
        intro he
        subst he
        rcases List.mem_append.1 hj with h | h
        · have := hpw'.2.2 i h i (List.mem_cons_self ..); omega
        · have := (List.pairwise_cons.1 hpw'.2.1).1 i h; omega
      exact ⟨h1, by rw [hne2 j hne]; exact h2⟩
    · rintro ⟨h1, h2⟩
      have hne : i ≠ j := by
        intro he
        subst he
        simp [his'] at h2
      rw [hne2 j hne] at h2
      have := hm.2 ⟨h1, h2⟩
      rcases List.mem_append.1 this with h | h
      · exact List.mem_append_left _ h
      · rcases List.mem_cons.1 h with h | h
        · exact absurd h.symm hne
        · exact List.mem_append_right _ h
  · intro j oj hj hoj ed hed hbd
    by_cases hij : i = j
    · subst hij
      rw [hoi] at hoj
      injection hoj with hoj
      subst hoj
      exact htr _ (hall ed hed hbd)
    · rw [hne2 j hij] at hj
      exact htr _ (L.cl j oj hj hoj ed hed hbd)
theorem LsF.notListed {R : List Nat} {listed : Array Bool} (L : LsF ops R listed) {k : Nat} (hk : k ∈ R) : listed.getD k false = false := by
  obtain ⟨h1, h2⟩ := (L.mem k).1 hk
  have h3 : k < listed.size := by rw [L.size]; exact h1
  simp [h3] at h2 ⊢; exact h2
def freeOk (n : Nat) (ops : Array Oper) (m : Nat) : Bool := Nat.ble m ops.size && (List.range ops.size).all fun j => match ops[j]? with
  | none => false
  | some oj => (match oj.dst with | some d => Nat.blt d n | none => true) && oj.after.all (fun ed => !Region.binds .any ed || Nat.blt ed.on j) &&
    (bif Nat.blt j m then (List.range j).all fun i => match ops[i]? with
        | none => false
        | some oi => match oi.dst, oj.dst with | some a, some b => !Nat.beq a b | _, _ => false
      else (List.range j).all fun i => ahead ops i j)
structure FrSpec (n : Nat) (ops : Array Oper) (m : Nat) : Prop where
  le : m ≤ ops.size
  dst : ∀ (j : Nat) (oj : Oper), ops[j]? = some oj → ∀ d, oj.dst = some d → d < n
  dep : ∀ (j : Nat) (oj : Oper), ops[j]? = some oj → ∀ ed ∈ oj.after, Region.binds .any ed = true → ed.on < j
  ne : ∀ (i j : Nat) (oi oj : Oper) (a b : Nat), i ≠ j → i < m → j < m → ops[i]? = some oi → ops[j]? = some oj → oi.dst = some a → oj.dst = some b → a ≠ b
  up : ∀ (i j : Nat) (oj : Oper), ops[j]? = some oj → m ≤ j → i < j → ∃ n, reach ops n i j = true
theorem blt_lt {a b : Nat} (h : Nat.blt a b = true) : a < b := Nat.le_of_ble_eq_true h
theorem freeOk_spec {n m : Nat} (H : freeOk n ops m = true) : FrSpec n ops m := by
  unfold freeOk at H
  rw [Bool.and_eq_true] at H
  obtain ⟨h0, H⟩ := H
  have key : ∀ {j : Nat} {oj : Oper}, ops[j]? = some oj → (((match oj.dst with | some d => Nat.blt d n | none => true) = true ∧ oj.after.all (fun ed => !Region.binds .any ed || Nat.blt ed.on j) = true) ∧
    (bif Nat.blt j m then (List.range j).all fun i => match ops[i]? with
        | none => false
        | some oi => match oi.dst, oj.dst with | some a, some b => !Nat.beq a b | _, _ => false
      else (List.range j).all fun i => ahead ops i j) = true) := by
    intro j oj hj
    have hlt : j < ops.size := (Array.getElem?_eq_some_iff.1 hj).1
    have H := List.all_eq_true.1 H j (List.mem_range.2 hlt)
    simp only [hj, Bool.and_eq_true] at H
    exact H
  have ne : ∀ (i j : Nat) (oi oj : Oper) (a b : Nat), i < j → j < m → ops[i]? = some oi → ops[j]? = some oj → oi.dst = some a → oj.dst = some b → a ≠ b := by
    intro i j oi oj a b hij hjm hi hj ha hb he
    have h1 := (key hj).2
    have hb1 : Nat.blt j m = true := Nat.ble_eq_true_of_le hjm
    rw [hb1, cond_true] at h1
    have h2 := List.all_eq_true.1 h1 i (List.mem_range.2 hij)
    simp only [hi, ha, hb, he] at h2
    simp at h2
  refine ⟨Nat.le_of_ble_eq_true h0, fun j oj hj d hd => ?_, fun j oj hj ed hed hbd => ?_, ?_, fun i j oj hj hmj hij => ?_⟩
  · have := (key hj).1.1
    rw [hd] at this
    exact blt_lt this
  · have := Array.all_eq_true_iff_forall_mem.1 (key hj).1.2 ed hed
    rw [hbd] at this
    exact blt_lt (by simpa using this)
  · intro i j oi oj a b hne him hjm hi hj ha hb
    rcases Nat.lt_or_gt_of_ne hne with h | h
    · exact ne i j oi oj a b h hjm hi hj ha hb
    · exact fun he => ne j i oj oi b a h him hj hi hb ha he.symm
  · have h1 := (key hj).2
    have hb1 : Nat.blt j m = false := by
      cases hb : Nat.blt j m with
      | false => rfl
      | true => have := blt_lt hb; omega
    rw [hb1, cond_false] at h1
    exact ahead_reach (List.all_eq_true.1 h1 i (List.mem_range.2 hij))
theorem wpAny_tail {B : Heap → Prop} {st : Bool} {n m : Nat} {Q : Exit → Act → World → Prop} (S : FrSpec n ops m) : ∀ (fuel : Nat) (T : List Nat) (listed : Array Bool) (e : Env) (a : Act) (w : World) (K : Env → Heap → Prop),
    (∀ j ∈ T, m ≤ j) → T.length = fuel → LsF ops T listed → Rep n e a → LI P B st ops T e w.heap K → (∀ e' a' w', Rep n e' a' → Same w w' → K e' w'.heap → Q .normal a' w') →
    wpAny P .any ops Q fuel listed a w := by
  intro fuel
  induction fuel with
  | zero =>
    intro T listed e a w K hT hlen L r H hK
    obtain rfl : T = [] := List.length_eq_zero_iff.1 hlen
    refine ⟨?_, hK _ _ _ r (.refl w) H⟩
    refine List.eq_nil_iff_forall_not_mem.2 fun j hj => ?_
    obtain ⟨hjl, oj, hoj, _⟩ := mem_ready.1 hj
    have := (L.mem j).2 ⟨(Array.getElem?_eq_some_iff.1 hoj).1, hjl⟩
    cases this
  | succ fuel ih =>
    intro T listed e a w K hT hlen L r H hK
    cases T with
    | nil => simp at hlen
    | cons i0 T =>
    have hi0 := (L.mem i0).1 (List.mem_cons_self ..)
    obtain ⟨o0, ho0⟩ : ∃ o, ops[i0]? = some o := ⟨ops[i0], Array.getElem?_eq_getElem hi0.1⟩
    refine ⟨fun hr => ?_, fun i hi => ?_⟩
    · exfalso
      have : i0 ∈ Region.ready .any ops listed := mem_ready.2 ⟨hi0.2, o0, ho0, fun ed hed hbd => by
        have hlt := S.dep i0 o0 ho0 ed hed hbd
        cases hl : listed.getD ed.on false with
        | true => rfl
        | false =>
          exfalso
          have hs : ed.on < ops.size := Nat.lt_trans hlt hi0.1
          have hm : ed.on ∈ i0 :: T := (L.mem ed.on).2 ⟨hs, by
            have h' : ed.on < listed.size := by rw [L.size]; exact hs
            simp [h'] at hl ⊢; exact hl⟩
          rcases List.mem_cons.1 hm with he | he
          · omega
          · have := (List.pairwise_cons.1 L.pw).1 _ he
            omega⟩
      rw [hr] at this
      cases this
    · obtain ⟨hil, oi, hoi, hall⟩ := mem_ready.1 hi
      have his : i < ops.size := (Array.getElem?_eq_some_iff.1 hoi).1
      have hiT := (L.mem i).2 ⟨his, hil⟩
      have hii : i = i0 := by
        rcases List.mem_cons.1 hiT with h | h
        · exact h
        · exfalso
          have hlt := (List.pairwise_cons.1 L.pw).1 _ h
          obtain ⟨nre, hre⟩ := S.up i0 i oi hoi (hT i hiT) hlt
          have h1 : listed.getD i0 false = true := reach_listed (L := fun j => listed.getD j false = true) L.cl nre i0 i oi hoi hall hre
          rw [L.notListed (List.mem_cons_self ..)] at h1
          cases h1
      subst hii
      simp only [LI, hoi] at H
      refine wpOp_of_GOp hoi (S.dst i oi hoi) r H fun e' a' w' r' hs hk => ?_
      exact ih T _ e' a' w' K (fun j hj => hT j (List.mem_cons_of_mem _ hj)) (by simp at hlen; omega) (LsF.step (R1 := []) L hoi hall) r' hk (fun e2 a2 w2 r2 s2 k2 => hK _ _ _ r2 (hs.trans s2) k2)
theorem wpAny_free {B : Heap → Prop} {st : Bool} {n m : Nat} {Q : Exit → Act → World → Prop} (S : FrSpec n ops m) {h0 : Heap} {e0 : Env} {F : Nat → Value → Heap → Prop} {D : Nat → Nat → Value → Value → Prop} {T : List Nat} {K : Env → Heap → Prop}
    (hst : ∀ j v h h', F j v h → Ext h h' → F j v h') (hT : ∀ j ∈ T, m ≤ j)
    (hop : ∀ i oi, i < m → ops[i]? = some oi → ∀ e h, Ext h0 h → (∀ j oj d, (∃ ed ∈ oi.after, Region.binds .any ed = true ∧ ed.on = j) → ops[j]? = some oj → oj.dst = some d → F j (e d) h) → (∀ t, (∀ j oj, j < m → ops[j]? = some oj → oj.dst ≠ some t) → e t = e0 t) → GOp P B st ops oi e h fun e' h' => Ext h h' ∧ ∀ d, oi.dst = some d → F i (e' d) h' ∧ ∀ j u, F j u h → D i j (e' d) u ∧ D j i u (e' d))
    (hend : ∀ e h, Ext h0 h → (∀ j oj d, j < m → ops[j]? = some oj → oj.dst = some d → F j (e d) h) → (∀ i j oi oj a b, i ≠ j → i < m → j < m → ops[i]? = some oi → ops[j]? = some oj → oi.dst = some a → oj.dst = some b → D i j (e a) (e b)) → (∀ t, (∀ j oj, j < m → ops[j]? = some oj → oj.dst ≠ some t) → e t = e0 t) → LI P B st ops T e h K) :
    ∀ (fuel : Nat) (R : List Nat) (listed : Array Bool) (e : Env) (a : Act) (w : World),
    (∀ j ∈ R, j < m) → (R ++ T).length = fuel → LsF ops (R ++ T) listed → Rep n e a → Ext h0 w.heap →
    (∀ j oj d, j < m → listed.getD j false = true → ops[j]? = some oj → oj.dst = some d → F j (e d) w.heap) → (∀ i j oi oj a b, i ≠ j → i < m → j < m → listed.getD i false = true → listed.getD j false = true → ops[i]? = some oi → ops[j]? = some oj → oi.dst = some a → oj.dst = some b → D i j (e a) (e b)) → (∀ t, (∀ j oj, j < m → ops[j]? = some oj → oj.dst ≠ some t) → e t = e0 t) →
    (∀ e' a' w', Rep n e' a' → Same w w' → K e' w'.heap → Q .normal a' w') → wpAny P .any ops Q fuel listed a w := by
  intro fuel
  induction fuel with
  | zero =>
    intro R listed e a w hR hlen L r hE hF hD he0 hK
    have hli : R = [] → ∀ j oj, j < m → ops[j]? = some oj → listed.getD j false = true := by
      intro hR0 j oj hj hoj
      subst hR0
      have hs := (Array.getElem?_eq_some_iff.1 hoj).1
      have hs' : j < listed.size := by rw [L.size]; exact hs
      cases hl : listed.getD j false with
      | true => rfl
      | false =>
        exfalso
        have := hT j ((L.mem j).2 ⟨hs, by simp [hs'] at hl ⊢; exact hl⟩)
        omega
    have hR0 : R = [] := by
      cases R with
      | nil => rfl
      | cons i R => simp at hlen
    subst hR0
    exact wpAny_tail S 0 T listed e a w K hT hlen L r (hend e w.heap hE (fun j oj d hj hoj hd => hF j oj d hj (hli rfl j oj hj hoj) hoj hd) (fun i j oi oj a b hij hi hj hoi hoj ha hb => hD i j oi oj a b hij hi hj (hli rfl i oi hi hoi) (hli rfl j oj hj hoj) hoi hoj ha hb) he0) hK
  | succ fuel ih =>
    intro R listed e a w hR hlen L r hE hF hD he0 hK
    have hli : R = [] → ∀ j oj, j < m → ops[j]? = some oj → listed.getD j false = true := by
      intro hR0 j oj hj hoj
      subst hR0
      have hs := (Array.getElem?_eq_some_iff.1 hoj).1
      have hs' : j < listed.size := by rw [L.size]; exact hs
      cases hl : listed.getD j false with
      | true => rfl
      | false =>
        exfalso
        have := hT j ((L.mem j).2 ⟨hs, by simp [hs'] at hl ⊢; exact hl⟩)
        omega
    cases hRc : R with
    | nil =>
      subst hRc
      exact wpAny_tail S (fuel + 1) T listed e a w K hT hlen L r (hend e w.heap hE (fun j oj d hj hoj hd => hF j oj d hj (hli rfl j oj hj hoj) hoj hd) (fun i j oi oj a b hij hi hj hoi hoj ha hb => hD i j oi oj a b hij hi hj (hli rfl i oi hi hoi) (hli rfl j oj hj hoj) hoi hoj ha hb) he0) hK
    | cons i0 R' =>
    have hi0R : i0 ∈ R := by rw [hRc]; exact List.mem_cons_self ..
    have hi0 := (L.mem i0).1 (List.mem_append_left _ hi0R)
    obtain ⟨o0, ho0⟩ : ∃ o, ops[i0]? = some o := ⟨ops[i0], Array.getElem?_eq_getElem hi0.1⟩
    have hmin : ∀ j ∈ R ++ T, i0 ≤ j := by
      intro j hj
      have hpw := L.pw
      rw [hRc] at hpw hj
      rcases List.mem_cons.1 hj with h | h
      · omega
      · have := (List.pairwise_cons.1 hpw).1 j h; omega
    refine ⟨fun hr => ?_, fun i hi => ?_⟩
    · exfalso
      have : i0 ∈ Region.ready .any ops listed := mem_ready.2 ⟨hi0.2, o0, ho0, fun ed hed hbd => by
        have hlt := S.dep i0 o0 ho0 ed hed hbd
        cases hl : listed.getD ed.on false with
        | true => rfl
        | false =>
          exfalso
          have hs : ed.on < ops.size := Nat.lt_trans hlt hi0.1
          have hm := hmin ed.on ((L.mem ed.on).2 ⟨hs, by
            have h' : ed.on < listed.size := by rw [L.size]; exact hs
            simp [h'] at hl ⊢; exact hl⟩)
          omega⟩
      rw [hr] at this
      cases this
    · obtain ⟨hil, oi, hoi, hall⟩ := mem_ready.1 hi
      have his : i < ops.size := (Array.getElem?_eq_some_iff.1 hoi).1
      have hiR : i ∈ R := by
        rcases List.mem_append.1 ((L.mem i).2 ⟨his, hil⟩) with h | h
        · exact h
        · exfalso
          have hlt : i0 < i := by have := hT i h; have := hR i0 hi0R; omega
          obtain ⟨nre, hre⟩ := S.up i0 i oi hoi (hT i h) hlt
          have h1 : listed.getD i0 false = true := reach_listed (L := fun j => listed.getD j false = true) L.cl nre i0 i oi hoi hall hre
          rw [L.notListed (List.mem_append_left _ hi0R)] at h1
          cases h1
      have him := hR i hiR
      obtain ⟨A, C, hAC⟩ := List.append_of_mem hiR
      have L' : LsF ops (A ++ i :: (C ++ T)) listed := by rw [hAC] at L; simpa using L
      have hdep : ∀ j oj d, (∃ ed ∈ oi.after, Region.binds .any ed = true ∧ ed.on = j) → ops[j]? = some oj → oj.dst = some d → F j (e d) w.heap := by
        rintro j oj d ⟨ed, hed, hbd, rfl⟩ hoj hd
        exact hF _ oj d (by have := S.dep i oi hoi ed hed hbd; omega) (hall ed hed hbd) hoj hd
      have hg := hop i oi him hoi e w.heap hE hdep he0
      have hg2 : GOp P B st ops oi e w.heap fun e' h' => (∃ v, e' = e.put oi.dst v) ∧ Ext w.heap h' ∧ ∀ d, oi.dst = some d → F i (e' d) h' ∧ ∀ j u, F j u w.heap → D i j (e' d) u ∧ D j i u (e' d) := hg.mono fun v h' hh => ⟨⟨v, rfl⟩, hh⟩
      refine wpOp_of_GOp hoi (S.dst i oi hoi) r hg2 fun e' a' w' r' hs hk => ?_
      obtain ⟨⟨v, rfl⟩, hE', hFi⟩ := hk
      refine ih (A ++ C) _ _ a' w' (fun j hj => hR j (by rw [hAC]; rcases List.mem_append.1 hj with h | h; exact List.mem_append_left _ h; exact List.mem_append_right _ (List.mem_cons_of_mem _ h))) (by rw [hAC] at hlen; simp at hlen ⊢; omega) (by have := L'.step hoi hall; simpa using this) r' (hE.trans hE') ?_ ?_ ?_ (fun e2 a2 w2 r2 s2 k2 => hK _ _ _ r2 (hs.trans s2) k2)
      · intro j oj d hj hjl hoj hd
        by_cases hij : i = j
        · subst hij
          rw [hoi] at hoj; cases hoj
          exact (hFi d hd).1
        · have h2 : listed.getD j false = true := by
            simp only [Array.getD_eq_getD_getElem?] at hjl ⊢; rwa [Array.getElem?_setIfInBounds_ne hij] at hjl
          have h3 := hst _ _ _ _ (hF j oj d hj h2 hoj hd) hE'
          cases hdi : oi.dst with
          | none => exact h3
          | some b =>
            have hne := S.ne j i oj oi d b (fun he => hij he.symm) hj him hoj hoi hd hdi
            show F j (e.set b v d) w'.heap
            rw [Env.set_other _ _ hne]; exact h3
      · have hls : ∀ j, i ≠ j → (listed.setIfInBounds i true).getD j false = true → listed.getD j false = true := fun j hij hjl => by
          simp only [Array.getD_eq_getD_getElem?] at hjl ⊢; rwa [Array.getElem?_setIfInBounds_ne hij] at hjl
        have hsame : ∀ j oj d, j < m → i ≠ j → ops[j]? = some oj → oj.dst = some d → e.put oi.dst v d = e d := fun j oj d hj hij hoj hd => by
          cases hdi : oi.dst with
          | none => rfl
          | some b => exact Env.set_other _ _ (S.ne j i oj oi d b (fun he => hij he.symm) hj him hoj hoi hd hdi)
        intro j k oj ok a b hjk hj hk hjl hkl hoj hok ha hb
        by_cases hij : i = j
        · subst hij
          rw [hoi] at hoj; cases hoj
          rw [hsame k ok b hk hjk hok hb]
          exact ((hFi a ha).2 k _ (hF k ok b hk (hls k hjk hkl) hok hb)).1
        · by_cases hik : i = k
          · subst hik
            rw [hoi] at hok; cases hok
            rw [hsame j oj a hj hij hoj ha]
            exact ((hFi b hb).2 j _ (hF j oj a hj (hls j hij hjl) hoj ha)).2
          · rw [hsame j oj a hj hij hoj ha, hsame k ok b hk hik hok hb]
            exact hD j k oj ok a b hjk hj hk (hls j hij hjl) (hls k hik hkl) hoj hok ha hb
      · intro t ht
        cases hdi : oi.dst with
        | none => exact he0 t ht
        | some b =>
          show e.set b v t = e0 t
          rw [Env.set_other _ _ (fun he => ht i oi him hoi (by rw [hdi, he]))]
          exact he0 t ht
theorem lsF_start (ops : Array Oper) : LsF ops (List.range ops.size) (Array.replicate ops.size false) := by
  refine ⟨List.pairwise_lt_range, by simp, fun j => ?_, fun j oj hj _ => ?_⟩
  · simp only [List.mem_range]
    constructor
    · intro h; exact ⟨h, by simp [h]⟩
    · exact fun h => h.1
  · exfalso
    rcases Nat.lt_or_ge j ops.size with h' | h'
    · simp [h'] at hj
    · simp [h'] at hj
/-! ### code in parts -/
def W2 (P : Program) (n : Nat) (c : Code) (Q : Exit → Env → Heap → Prop) (e : Env) (h : Heap) : Prop :=
  ∀ (a : Act) (w : World) (Q' : Exit → Act → World → Prop), Rep n e a → w.heap = h → (∀ x e' a' w', Rep n e' a' → Same w w' → Q x e' w'.heap → Q' x a' w') → c.wp P Q' a w
theorem w2_of {n : Nat} {c : Code} {Q : Exit → Env → Heap → Prop} {e : Env} {h : Heap} (hmx : P.follows .mixedOrders = true) (hok : okC n c = true) (H : W P c Q e h) : W2 P n c Q e h := by
  intro a w Q' r hw hQ
  subst hw
  exact W.sound hmx hok r H hQ
theorem w2_seq {n : Nat} {x y : Code} {Q : Exit → Env → Heap → Prop} {e : Env} {h : Heap} (H : W2 P n x (thenQ (fun e h => W2 P n y Q e h) Q) e h) : W2 P n (.seq x y) Q e h := by
  intro a w Q' r hw hQ
  refine wp_seq (H a w _ r hw fun ex e' a' w' r' s k => ?_)
  cases ex <;> first | exact hQ _ _ _ _ r' s k | exact k a' w' Q' r' rfl (fun x e2 a2 w2 r2 s2 k2 => hQ _ _ _ _ r2 (s.trans s2) k2)
theorem LI_of_RLf {B : Heap → Prop} {st : Bool} {K : Env → Heap → Prop} : ∀ (I : List Nat) (L : List Oper), I.map (fun i => ops[i]?) = L.map some → ∀ e h, RL P B st ops L e h K → LI P B st ops I e h K := by
  intro I
  induction I with
  | nil => intro L hI e h H; cases L with | nil => exact H | cons o L => cases hI
  | cons i I ih =>
    intro L hI e h H
    cases L with
    | nil => cases hI
    | cons o L =>
      simp only [List.map_cons, List.cons.injEq] at hI
      simp only [LI, hI.1]
      exact GOp.mono (fun v h' hh => ih L hI.2 _ _ hh) H
def depOn (o : Oper) (j : Nat) : Bool := o.after.any fun ed => Region.binds .any ed && Nat.beq ed.on j
def dstOf (ops : Array Oper) (j : Nat) : Option Nat := match ops[j]? with | some o => o.dst | none => none
def notDst (ops : Array Oper) (m t : Nat) : Bool := (List.range m).all fun j => match dstOf ops j with | some d => !Nat.beq d t | none => true
theorem notDst_spec {m t : Nat} (h : notDst ops m t = true) : ∀ j oj, j < m → ops[j]? = some oj → oj.dst ≠ some t := by
  intro j oj hj hoj hd
  have := List.all_eq_true.1 h j (List.mem_range.2 hj)
  simp only [dstOf, hoj, hd] at this
  simp at this
theorem env_setL {e e' : Env} : ∀ (l : List Nat), (∀ t, (l.all fun q => !Nat.beq q t) = true → e' t = e t) → e' = setL (l.map fun t => (t, e' t)) e := by
  intro l
  induction l generalizing e with
  | nil => intro h; funext t; exact h t rfl
  | cons q l ih =>
    intro h
    have h2 : e' = setL (l.map fun t => (t, e' t)) (e.set q (e' q)) := ih fun t ht => by
      by_cases hq : t = q
      · subst hq; rw [Env.set_same]
      · rw [Env.set_other _ _ hq]
        refine h t ?_
        rw [List.all_cons, ht, Bool.and_true]
        cases hb : Nat.beq q t
        · rfl
        · exact absurd (Nat.eq_of_beq_eq_true hb).symm hq
    have h3 : ∀ (l : List Nat) (f : Env), setL (l.map fun t => (t, e' t)) f q = if q ∈ l then e' q else f q := by
      intro l
      induction l with
      | nil => intro f; simp [setL]
      | cons a l ih2 =>
        intro f
        show (setL (l.map fun t => (t, e' t)) f).set a (e' a) q = _
        by_cases ha : q = a
        · subst ha; rw [Env.set_same]; simp
        · rw [Env.set_other _ _ ha, ih2]; simp [ha]
    funext t
    show e' t = (setL (l.map fun t => (t, e' t)) e).set q (e' q) t
    by_cases hq : t = q
    · subst hq; rw [Env.set_same]
    · rw [Env.set_other _ _ hq]
      have h4 : ∀ (l : List Nat) (f g : Env), f t = g t → setL (l.map fun t => (t, e' t)) f t = setL (l.map fun t => (t, e' t)) g t := by
        intro l
        induction l with
        | nil => intro f g hfg; exact hfg
        | cons a l ih2 =>
          intro f g hfg
          show (setL (l.map fun t => (t, e' t)) f).set a (e' a) t = (setL (l.map fun t => (t, e' t)) g).set a (e' a) t
          by_cases ha : t = a
          · subst ha; rw [Env.set_same, Env.set_same]
          · rw [Env.set_other _ _ ha, Env.set_other _ _ ha]; exact ih2 f g hfg
      conv => lhs; rw [h2]
      exact h4 l _ _ (Env.set_other _ _ hq)
/-- The region: each of the first m operations, wherever it comes; then the others. -/
theorem w2_free {B : Heap → Prop} {st : Bool} {n : Nat} (m : Nat) (F : Nat → Value → Heap → Prop) (D : Nat → Nat → Value → Value → Prop) {id : Nat} {Q : Exit → Env → Heap → Prop} {e : Env} {h : Heap} (hmx : P.follows .mixedOrders = true) (hok : freeOk n ops m = true)
    (hst : ∀ j v h h', F j v h → Ext h h' → F j v h')
    (hop : ∀ i oi, i < m → ops[i]? = some oi → ∀ e' h', Ext h h' → (∀ j d, depOn oi j = true → dstOf ops j = some d → F j (e' d) h') → (∀ t, notDst ops m t = true → e' t = e t) → RL P B st ops [oi] e' h' fun e2 h2 => Ext h' h2 ∧ ∀ d, oi.dst = some d → F i (e2 d) h2 ∧ ∀ j u, F j u h' → D i j (e2 d) u ∧ D j i u (e2 d))
    (hend : ∀ e' h', Ext h h' → (∀ j d, j < m → dstOf ops j = some d → F j (e' d) h') → (∀ i j a b, i ≠ j → i < m → j < m → dstOf ops i = some a → dstOf ops j = some b → D i j (e' a) (e' b)) → (∀ t, notDst ops m t = true → e' t = e t) → RL P B st ops (ops.toList.drop m) e' h' (Q .normal)) :
    W2 P n (.region id ops true) Q e h := by
  intro a w Q' r hw hQ
  subst hw
  have S := freeOk_spec hok
  have hs : List.range ops.size = List.range m ++ List.range' m (ops.size - m) := by
    rw [List.range_eq_range', List.range_eq_range', show List.range' m (ops.size - m) = List.range' (0 + m) (ops.size - m) by rw [Nat.zero_add], List.range'_append_1]
    congr 1
    have := S.le
    omega
  have hdst : ∀ j oj d, ops[j]? = some oj → oj.dst = some d → dstOf ops j = some d := fun j oj d h1 h2 => by unfold dstOf; rw [h1]; exact h2
  have hdst2 : ∀ {j d}, dstOf ops j = some d → ∃ oj, ops[j]? = some oj ∧ oj.dst = some d := by
    intro j d hd
    unfold dstOf at hd
    split at hd
    · rename_i oj hoj; exact ⟨oj, hoj, hd⟩
    · cases hd
  refine wp_region_draw fun t => ?_
  simp only [Region.schedule, hmx, Bool.true_or, if_true]
  refine wpAny_sound ops.size t _ a _ (wpAny_free (T := List.range' m (ops.size - m)) (D := D) (F := F) (h0 := w.heap) (e0 := e) (K := Q .normal) S hst (fun j hj => by have := List.mem_range'_1.1 hj; omega) (B := B) (st := st) ?_ ?_ ops.size (List.range m) (Array.replicate ops.size false) e a { w with drawn := w.drawn + 1 } (fun j hj => List.mem_range.1 hj) (by rw [← hs]; simp) (by rw [← hs]; exact lsF_start ops) r (Ext.refl _)
    (fun j oj d hj hl hoj hd => by
      exfalso
      have hs := (Array.getElem?_eq_some_iff.1 hoj).1
      simp [hs] at hl) (fun i j oi oj a b _ hi hj hl _ hoi hoj _ _ => by
      exfalso
      have hs := (Array.getElem?_eq_some_iff.1 hoi).1
      simp [hs] at hl) (fun t _ => rfl) (fun e' a' w' r' hs hk => hQ .normal e' a' w' r' ⟨hs.os, hs.tape, hs.output⟩ hk))
  · intro i oi hi hoi e1 h1 hE hd he
    exact hop i oi hi hoi e1 h1 hE (fun j d hdj hdd => by
      obtain ⟨oj, hoj, hd2⟩ := hdst2 hdd
      unfold depOn at hdj
      obtain ⟨ed, hed, hh⟩ := Array.any_eq_true'.1 hdj
      rw [Bool.and_eq_true] at hh
      exact hd j oj d ⟨ed, hed, hh.1, Nat.eq_of_beq_eq_true hh.2⟩ hoj hd2) (fun t ht => he t (notDst_spec ht))
  · intro e1 h1 hE hF hD he
    refine LI_of_RLf _ (ops.toList.drop m) ?_ _ _ (hend e1 h1 hE (fun j d hj hd => by obtain ⟨oj, hoj, hd2⟩ := hdst2 hd; exact hF j oj d hj hoj hd2) (fun i j a b hij hi hj ha hb => by
      obtain ⟨oi, hoi, ha2⟩ := hdst2 ha
      obtain ⟨oj, hoj, hb2⟩ := hdst2 hb
      exact hD i j oi oj a b hij hi hj hoi hoj ha2 hb2) (fun t ht => he t (notDst_spec ht)))
    refine List.ext_getElem? fun k => ?_
    simp only [List.getElem?_map, List.getElem?_drop]
    by_cases hk : k < ops.size - m
    · rw [List.getElem?_range' hk]
      have h2 : m + k < ops.size := by omega
      simp [h2]
    · rw [List.getElem?_eq_none (by simp; omega), List.getElem?_eq_none (by simp; omega)]
      rfl
theorem calls_of_W2 {f : FuncId} {fn : Func} {c : Code} {rs : List ResultVar} {n : Nat} {l : List Value} {h : Heap} {K : Value → Heap → Prop}
    (hf : P.funcs[f]? = some fn) (hn : (fn.name == "runtime.NumGoroutine") = false) (hb : fn.body = some c) (hr : fn.results = rs.toArray) (hnt : fn.ntmps = n) (hl : Nat.ble l.length n = true)
    (H : W2 P n c (retQ P rs K) (lenv l) h) : CallH P f l.toArray h K := by
  refine ⟨⟨fn, hf, hn, by simp [hb]⟩, fun w hw => ?_⟩
  subst hw
  have hl := Nat.le_of_ble_eq_true hl
  refine calls_of_wp hf hb (H _ _ _ ⟨?_, rfl, fun t => ?_⟩ rfl fun x e' a' w' r s k => ?_)
  · simp [hnt]; omega
  · rw [lenv_get]
    simp only [Array.getD_eq_getD_getElem?]
    rw [Array.getElem?_append]
    split
    · simp
    · rename_i hge
      simp at hge
      simp only [List.size_toArray]
      rw [List.getElem?_eq_none hge]
      rw [Array.getElem?_replicate]
      split <;> rfl
  · cases x with
    | normal => obtain ⟨v, hv, hk⟩ := k; exact ⟨r.defers, v, hv fn _ w' hr r.get rfl, v, rfl, s, hk⟩
    | ret => obtain ⟨v, hv, hk⟩ := k; exact ⟨r.defers, v, hv fn _ w' hr r.get rfl, v, rfl, s, hk⟩
    | exit id => exact k.elim
    | goto t => exact k.elim
    | panic ch => exact k.elim
    | outgrown => exact k.elim
end
end Go.QF


/-
  Evaluation of code at fixed inputs (sanity checks): control flow over any state that stands for an environment and a heap.
-/
namespace Go.QF
open Go
set_option linter.unusedVariables false
variable {P : Program} {Q : Exit → Env → Heap → Prop} {e : Env} {h : Heap}
/-- A machine: states that stand for an environment and a heap, and a step for regions. -/
structure Mach (P : Program) where
  S : Type
  E : S → Env
  H : S → Heap
  reg : Array Oper → Bool → S → Option S
  val : S → Operand → Option Bool
  reg_ok : ∀ ops draw s s', reg ops draw s = some s' → ∀ K : Env → Heap → Prop, K (E s') (H s') → ∃ B, RL P B (stOf ops draw) ops ops.toList (E s) (H s) K
  val_ok : ∀ s c b, val s c = some b → (E s).ev c = .bool b
/-- Runs code on the machine. -/
def Mach.ev (M : Mach P) : Nat → Code → M.S → Option (Exit × M.S)
  | 0, _, _ => none
  | n + 1, .skip, s => some (.normal, s)
  | n + 1, .region _ ops draw, s => match M.reg ops draw s with | some s' => some (.normal, s') | none => none
  | n + 1, .seq a b, s => match M.ev n a s with | some (.normal, s') => M.ev n b s' | r => r
  | n + 1, .cond c x y, s => match M.val s c with | some true => M.ev n x s | some false => M.ev n y s | none => none
  | n + 1, .block id c, s => match M.ev n c s with | some (.exit id', s') => bif Nat.beq id' id then some (.normal, s') else some (.exit id', s') | r => r
  | n + 1, .loop c, s => match M.ev n c s with | some (.normal, s') => M.ev n (.loop c) s' | r => r
  | n + 1, .exit id, s => some (.exit id, s)
  | n + 1, .ret, s => some (.ret, s)
  | n + 1, .scope c, s => match M.ev n c s with | some (.goto _, _) => none | r => r
  | n + 1, .label _, s => some (.normal, s)
  | _ + 1, _, _ => none
end Go.QF


/-
  The evaluator of code at fixed inputs over an unknown heap: its values, its heap, its steps. Definitions alone.
-/
namespace Go.QF
open Go
set_option linter.unusedVariables false
/-- A value whose blocks are numbered by the evaluator. -/
inductive V where
  | u | b (x : Bool) | i (k : IntKind) (n : Int) | p (blk off : Nat) | s (blk off len cap : Nat) | g (blk len : Nat) | sn | fn
  | f (id : FuncId) (c : List V) | a (l : List V) | t (l : List V)
/-- A block: the cells that are known, whether it may be written, and the cells of an element where the block may grow. -/
structure Bk where
  c : List V
  ro : Bool
  sz : Nat
abbrev Hp := List (Option Bk)
abbrev EnvL := List (Nat × V)
def nth {α : Type} : List α → Nat → Option α
  | [], _ => none
  | x :: _, 0 => some x
  | _ :: l, k + 1 => nth l k
def getE : EnvL → Nat → V
  | [], _ => .u
  | (d, v) :: l, t => bif Nat.beq t d then v else getE l t
def putE (l : EnvL) (d : Nat) (v : V) : EnvL := (d, v) :: l
def blkE (bs : Hp) (k : Nat) : Option Bk := match nth bs k with | some (some b) => some b | _ => none
def cellE (bs : Hp) (k o : Nat) : Option V := match blkE bs k with | some b => nth b.c o | none => none
def V.cells : V → List V
  | .a l => l
  | v => [v]
def V.one : V → Bool
  | .a _ => false
  | .t _ => false
  | .u => false
  | _ => true
def lookG : List (Nat × Nat) → Nat → Option Nat
  | [], _ => none
  | (g, k) :: l, x => bif Nat.beq x g then some k else lookG l x
/-! ### types -/
/-! ### pure operations -/
/-- How structs are held against one another. -/
abbrev EqT := TypeId → List V → List V → Option Bool
/-- The cells from off on are replaced. -/
def over {α : Type} : List α → Nat → List α → List α
  | l, 0, [] => l
  | [], _, _ => []
  | _ :: l, 0, v :: vs => v :: over l 0 vs
  | x :: l, k + 1, vs => x :: over l k vs
def cellsE (bs : Hp) (b o : Nat) : Nat → Option (List V)
  | 0 => some []
  | n + 1 => match cellE bs b o, cellsE bs b (o + 1) n with | some v, some vs => some (v :: vs) | _, _ => none
def allOne : List V → Bool
  | [] => true
  | v :: l => v.one && allOne l
/-- Cells of a block are set. -/
def setE (bs : Hp) (k o : Nat) (vs : List V) : Option Hp := match blkE bs k with
  | some b => bif !b.ro && allOne vs && Nat.ble (o + vs.length) b.c.length then some (bs.set k (some ⟨over b.c o vs, b.ro, b.sz⟩)) else none
  | none => none
def Calls' := FuncId → List V → Hp → Option (V × Hp)
def putO (l : EnvL) : Option Nat → V → EnvL
  | some d, v => putE l d v
  | none, _ => l
def ieq : Int → Int → Bool
  | .ofNat a, .ofNat b => Nat.beq a b
  | .negSucc a, .negSucc b => Nat.beq a b
  | _, _ => false
-- mutual
mutual
def veq : V → V → Bool
  | .u, .u => true
  | .b x, .b y => x == y
  | .i k n, .i k' n' => decide (k = k') && ieq n n'
  | .p b o, .p b' o' => Nat.beq b b' && Nat.beq o o'
  | .s b o n c, .s b' o' n' c' => Nat.beq b b' && Nat.beq o o' && Nat.beq n n' && Nat.beq c c'
  | .g b n, .g b' n' => Nat.beq b b' && Nat.beq n n'
  | .sn, .sn => true
  | .fn, .fn => true
  | .f i c, .f i' c' => Nat.beq i i' && veqs c c'
  | .a l, .a l' => veqs l l'
  | .t l, .t l' => veqs l l'
  | _, _ => false
def veqs : List V → List V → Bool
  | [], [] => true
  | x :: l, y :: l' => veq x y && veqs l l'
  | _, _ => false
end
abbrev Cl := List (Nat × Nat × List V)
/-- The cells that a region reads hold what they held. -/
def holdsE (bs : Hp) : Cl → Bool
  | [] => true
  | (b, o, vs) :: L => Nat.ble 1 vs.length && (match cellsE bs b o vs.length with | some ws => veqs ws vs | none => false) && holdsE bs L
end Go.QF

