/-
  A tape of numbers in memory, the matrix that is made of it; natural numbers in operations. No condition.
-/
import Derived.Test.YtccgaemmdikhcaaDoorInvH
namespace Go.QF
open Go
set_option linter.unusedVariables false
set_option linter.unusedSimpArgs false

def TapeH (t : Nat) (h : Heap) (b : Nat) (lv : Value) (at' : Nat) : Prop := h[b]? = some (.cells #[lv, .int .i64 (at' : Int)] t (0, 0))
theorem TapeH.lt {t : Nat} {h : Heap} {b : Nat} {lv : Value} {k : Nat} (H : TapeH t h b lv k) : b < h.size := (Array.getElem?_eq_some_iff.1 H).1
theorem TapeH.c0 {t : Nat} {h : Heap} {b : Nat} {lv : Value} {k : Nat} (H : TapeH t h b lv k) : cellH h ⟨b, 0, none⟩ = some lv := by
  unfold TapeH at H
  simp [cellH, H]
theorem TapeH.c1 {t : Nat} {h : Heap} {b : Nat} {lv : Value} {k : Nat} (H : TapeH t h b lv k) : cellH h ⟨b, 1, none⟩ = some (.int .i64 (k : Int)) := by
  unfold TapeH at H
  simp [cellH, H]
theorem TapeH.free {t : Nat} {h : Heap} {b : Nat} {lv : Value} {k : Nat} (H : TapeH t h b lv k) (i : Nat) : frozenH h ⟨b, i, none⟩ = false := by
  unfold TapeH at H
  simp [frozenH, H]
theorem TapeH.set {t : Nat} {h : Heap} {b : Nat} {lv : Value} {k : Nat} (H : TapeH t h b lv k) (k' : Nat) : TapeH t (setH h ⟨b, 1, none⟩ (.int .i64 (k' : Int))) b lv k' := by
  unfold TapeH at H ⊢
  simp only [setH, Array.getElem?_modify, if_true, H, Option.map_some]
  rfl
theorem TapeH.upd {S : Nat → Prop} {t : Nat} {h h' : Heap} {b : Nat} {lv : Value} {k : Nat} (H : TapeH t h b lv k) (hU : Upd S h h') (hS : ¬ S b) : TapeH t h' b lv k := (hU.2 b H.lt hS).trans H
theorem Sl.blk_lt {h : Heap} {v : Value} {l : List Value} (H : Sl h v l) (hl : l ≠ []) : ∀ g, v.ownBlock = some g → g < h.size := by
  intro g hg
  obtain ⟨a, cap, rfl, hc⟩ := H
  cases l with
  | nil => exact absurd rfl hl
  | cons x l =>
    obtain ⟨b, o, rfl, hx⟩ := hc 0 x rfl
    have hlt : b < h.size := cellH_lt hx
    simp [Value.ownBlock] at hg
    omega
def gridM (R C : Nat) (Z : List Int) : List (List Int) := tab R C fun i j => Z[i * C + j]?.getD 0
theorem tape_min {Z : List Int} {k : Nat} : Z[min k Z.length]?.getD 0 = Z[k]?.getD 0 := by
  rcases Nat.lt_or_ge k Z.length with h | h
  · rw [Nat.min_eq_left (by omega)]
  · rw [Nat.min_eq_right h, List.getElem?_eq_none (Nat.le_refl _), List.getElem?_eq_none h]
theorem min_step {k L : Nat} : min (min k L + 1) L = min (k + 1) L := by omega
section
variable {P : Program} {B : Heap → Prop} {st : Bool} {ops : Array Oper} {rest : List Oper} {e : Env} {h : Heap} {K : Env → Heap → Prop}
variable {d : Nat} {ty : TypeId} {pos : String} {af : Array Edge}
theorem r_remn {x y : Operand} {t t2 : TypeId} {a b : Nat} {k : IntKind} (hx : e.ev x = .int k (a : Int)) (hy : e.ev y = .int k (b : Int)) (hb : 0 < b) (H : RL P B st ops rest (e.set d (.int k ((a % b : Nat) : Int))) h K) :
    RL P B st ops (⟨some d, .binOp .rem t x y t2, ty, pos, af, none⟩ :: rest) e h K := by
  refine r_remp hx hy (by omega) (by omega) ?_
  rw [← Int.natCast_emod]; exact H
/-- A conversion that keeps the number. -/
theorem r_cvk {x : Operand} {t t2 : TypeId} {k k2 : IntKind} {a : Int} (h1 : IntT P t k) (h2 : IntT P t2 k2) (hx : e.ev x = .int k a) (hw : k2.wrap a = a) (H : RL P B st ops rest (e.set d (.int k2 a)) h K) :
    RL P B st ops (⟨some d, .convert t t2 x, ty, pos, af, none⟩ :: rest) e h K := by
  refine r_cv h1 h2 hx ?_
  rw [hw]; exact H
end
section
variable {P : Program} {B : Heap → Prop} {st : Bool} {ops : Array Oper} {rest : List Oper} {e : Env} {h : Heap} {K : Env → Heap → Prop}
variable {d : Nat} {ty : TypeId} {pos : String} {af : Array Edge}
theorem r_boxG {x : Operand} {t : Nat} {v : Value} (hbB : ∀ h', B h') (hx : e.ev x = v) (H : ∀ b h', Ext h h' → h.size ≤ b → b < h'.size → h'[b]? = some (.cells v.cells t (0, 0)) → RL P B st ops rest (e.set d (.pointer (some ⟨b, 0, none⟩))) h' K) :
    RL P B st ops (⟨some d, .box t x, ty, pos, af, none⟩ :: rest) e h K := by
  refine r_box (hbB _) hx ⟨hbB _, ?_⟩
  exact H h.size _ (ext_push _ _) (Nat.le_refl _) (by simp) (by simp)
end
def GridH (t : Nat) (h : Heap) (b : Nat) (gr gc : Int) (sv : Value) : Prop := h[b]? = some (.cells #[.int .u8 gr, .int .u8 gc, sv] t (0, 0))
theorem GridH.lt {t : Nat} {h : Heap} {b : Nat} {gr gc : Int} {sv : Value} (H : GridH t h b gr gc sv) : b < h.size := (Array.getElem?_eq_some_iff.1 H).1
theorem GridH.c0 {t : Nat} {h : Heap} {b : Nat} {gr gc : Int} {sv : Value} (H : GridH t h b gr gc sv) : cellH h ⟨b, 0, none⟩ = some (.int .u8 gr) := by
  unfold GridH at H
  simp [cellH, H]
theorem GridH.c1 {t : Nat} {h : Heap} {b : Nat} {gr gc : Int} {sv : Value} (H : GridH t h b gr gc sv) : cellH h ⟨b, 1, none⟩ = some (.int .u8 gc) := by
  unfold GridH at H
  simp [cellH, H]
theorem GridH.c2 {t : Nat} {h : Heap} {b : Nat} {gr gc : Int} {sv : Value} (H : GridH t h b gr gc sv) : cellH h ⟨b, 2, none⟩ = some sv := by
  unfold GridH at H
  simp [cellH, H]
theorem GridH.free {t : Nat} {h : Heap} {b : Nat} {gr gc : Int} {sv : Value} (H : GridH t h b gr gc sv) (i : Nat) : frozenH h ⟨b, i, none⟩ = false := by
  unfold GridH at H
  simp [frozenH, H]
theorem GridH.set0 {t : Nat} {h : Heap} {b : Nat} {gr gc : Int} {sv : Value} (H : GridH t h b gr gc sv) (x : Int) : GridH t (setH h ⟨b, 0, none⟩ (.int .u8 x)) b x gc sv := by
  unfold GridH at H ⊢
  simp only [setH, Array.getElem?_modify, if_true, H, Option.map_some]
  rfl
theorem GridH.set1 {t : Nat} {h : Heap} {b : Nat} {gr gc : Int} {sv : Value} (H : GridH t h b gr gc sv) (x : Int) : GridH t (setH h ⟨b, 1, none⟩ (.int .u8 x)) b gr x sv := by
  unfold GridH at H ⊢
  simp only [setH, Array.getElem?_modify, if_true, H, Option.map_some]
  rfl
theorem GridH.upd {S : Nat → Prop} {t : Nat} {h h' : Heap} {b : Nat} {gr gc : Int} {sv : Value} (H : GridH t h b gr gc sv) (hU : Upd S h h') (hS : ¬ S b) : GridH t h' b gr gc sv := (hU.2 b H.lt hS).trans H
theorem GridH.ext {t : Nat} {h h' : Heap} {b : Nat} {gr gc : Int} {sv : Value} (H : GridH t h b gr gc sv) (hE : Ext h h') : GridH t h' b gr gc sv := (hE.2 b H.lt).trans H
theorem GridH.agg {t : Nat} {h : Heap} {b : Nat} {gr gc : Int} {sv : Value} (H : GridH t h b gr gc sv) : ∀ i u, ([.int .u8 gr, .int .u8 gc, sv] : List Value)[i]? = some u → cellH h ((⟨b, 0, none⟩ : Addr).add i) = some u := by
  intro i u hu
  match i with
  | 0 => simp at hu; subst hu; exact H.c0
  | 1 => simp at hu; subst hu; exact H.c1
  | 2 => simp at hu; subst hu; exact H.c2
  | i + 3 => simp at hu
theorem wrap_small {a : Int} (h0 : -9223372036854775808 ≤ a) (h1 : a ≤ 9223372036854775807) : IntKind.i64.wrap a = a := by rw [IntKind.wrap_i64]; omega
end Go.QF
