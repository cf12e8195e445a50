/-
  What the rows' proofs share, more: a Grid that came in, a slice of small numbers that came in.
-/
import Derived.Test.YtdlfineibanppaaDoorRowK
import Derived.Test.YtdlfineibanppaaDoorGrid
import Derived.Deep.Strs
namespace Go.Proofs.YtdlfineibanppaaDoor
open Go Go.QF
open Go.ChangeShapes Go.WideShapes Go.ChangeAt Go.RowKit
set_option linter.unusedVariables false
set_option linter.unusedSimpArgs false
set_option maxRecDepth 100000
theorem cells_i8 : Tryd.prog.cellsOf 88 = 1 := by kernel_rfl
theorem cells_u8 : Tryd.prog.cellsOf 5 = 1 := by kernel_rfl
theorem cells_I8 : Tryd.prog.cellsOf 23 = 1 := by kernel_rfl
theorem cells_Grid : Tryd.prog.cellsOf 25 = 3 := by kernel_rfl
theorem wf_i8 {z : Int} (h : (Lit.int .i8 z).wf = true) : -128 ≤ z ∧ z ≤ 127 := by
  simp [Lit.wf, IntKind.min, IntKind.max, IntKind.bits, IntKind.signed] at h
  omega
theorem wf_u8 {z : Int} (h : (Lit.int .u8 z).wf = true) : 0 ≤ z ∧ z ≤ 255 := by
  simp [Lit.wf, IntKind.min, IntKind.max, IntKind.bits, IntKind.signed] at h
  omega
theorem i8s_of {H : Type} {enc : TypeId × Value → H} {W : World} {fuel : Nat} {v : Value} {x : DataW H × List MemPlace} (hf : DataW.trod enc Tryd.prog W 0 (fun _ => true) true fuel 23 [v] = some x) : ∃ Z : List Int, Sl W.heap v (Z.map i8V) ∧ ∀ z ∈ Z, -128 ≤ z ∧ z ≤ 127 := by
  rcases open_ints Tryd.underlying23 Tryd.underlying88 cells_i8 hf with ⟨hcs, _⟩ | ⟨a, len, cap, zs, hcs, _, hl, _, hz, _, hcell, hwz⟩
  · simp at hcs
    subst hcs
    exact ⟨[], sl_nil _, fun z hz => by cases hz⟩
  · simp at hcs
    subst hcs
    simp only [if_true] at hz
    refine ⟨zs.take len, sl_of_cells (by simp; omega) (fun h => by cases h) fun a' ha i x hx => ?_, fun z hz' => wf_i8 (hwz z (List.mem_of_mem_take hz'))⟩
    injection ha with ha; subst ha
    have hi : i < len := by have := (List.getElem?_eq_some_iff.1 hx).1; simp at this; omega
    rw [hcell i (by omega)]
    rw [List.getElem?_map, List.getElem?_take, if_pos hi, List.getElem?_eq_getElem (by omega)] at hx
    simp only [Option.map_some, Option.some.injEq] at hx
    rw [← hx, List.getD_eq_getElem?_getD, List.getElem?_eq_getElem (by omega)]
    rfl
theorem open_i8s {H : Type} {enc : TypeId × Value → H} {W : World} {v : Value} {d : DataW H} {p : List MemPlace} (hv : ∃ a len cap, v = .slice a len cap) (h : DataW.Trod enc Tryd.prog W 0 (fun _ => true) true 23 v d p) : ∃ Z : List Int, Sl W.heap v (Z.map i8V) ∧ ∀ z ∈ Z, -128 ≤ z ∧ z ≤ 127 := by
  obtain ⟨fuel, hf⟩ := h
  obtain ⟨a, len, cap, rfl⟩ := hv
  exact i8s_of hf
theorem open_grid {H : Type} {enc : TypeId × Value → H} {W : World} {r : Reach} {b0 : Nat} {v : Value} {d : DataW H} {p : List MemPlace} (hv : Value.okWide Tryd.prog W r b0 25 v) (h : DataW.Trod enc Tryd.prog W 0 (fun _ => true) true 25 v d p) :
    ∃ (gr gc : Nat) (lv : Value) (Z : List Int), v = .agg #[.int .u8 (gr : Int), .int .u8 (gc : Int), lv] ∧ Sl W.heap lv (Z.map i8V) ∧ gr < 256 ∧ gc < 256 ∧ ∀ z ∈ Z, -128 ≤ z ∧ z ≤ 127 := by
  obtain ⟨cs, rfl, hsz⟩ := okWide_struct Tryd.underlying25 hv
  rw [cells_Grid] at hsz
  obtain ⟨l⟩ := cs
  match l, hsz with
  | [c0, c1, c2], _ =>
    obtain ⟨fuel, hf⟩ := h
    obtain ⟨y0, y1, y2, n, _, _, h0, h1, h2⟩ := Deep.trod_struct3 Tryd.underlying25 hf
    simp [Value.cells, cells_u8, cells_I8] at h0 h1 h2
    obtain ⟨x0, e0, _, w0⟩ := DataW.trod_int Tryd.underlying5 h0
    obtain ⟨x1, e1, _, w1⟩ := DataW.trod_int Tryd.underlying5 h1
    simp at e0 e1
    subst e0; subst e1
    have b0 := wf_u8 w0
    have b1 := wf_u8 w1
    obtain ⟨Z, HZ, hZ⟩ := i8s_of h2
    refine ⟨x0.toNat, x1.toNat, c2, Z, ?_, HZ, by omega, by omega, hZ⟩
    rw [Int.toNat_of_nonneg b0.1, Int.toNat_of_nonneg b1.1]
end Go.Proofs.YtdlfineibanppaaDoor
