/-
  What the rows' proofs share: the table in its variable, a matrix that came in, from a walk over heaps to a call.
-/
import Derived.Test.YtccgaemmdikhcaaDoorCards
import Derived.Test.YtccgaemmdikhcaaDoorTie
import Derived.ProofKit
import Derived.OpenShut
import Derived.ShutString
import Derived.ChangeOld
import Derived.Below
import Derived.Carry
import Derived.Deep.Matrix
import Derived.Deep.DeepHandedRow
import Derived.Lib.LaidTab
import Derived.Test.YtccgaemmdikhcaaDoorTy
namespace Go.Proofs.YtccgaemmdikhcaaDoor
open Go Go.QF
open Go.ChangeShapes Go.WideShapes Go.ChangeAt Go.RowKit
set_option linter.unusedVariables false

theorem own : ownKnob Tryd.prog.godebug = none := by kernel_rfl
theorem laidOut : laidOutB Tryd.prog = true := by kernel_rfl
theorem gTab : Tryd.prog.globalNamed "quadform/prime.offsets" = some 0 := by kernel_rfl
theorem gTabType : (Tryd.prog.globals[0]?).map (·.type) = some 121 := by kernel_rfl
theorem cellsTab : Tryd.prog.cellsOf 121 = 8 := by kernel_rfl
theorem cells_i64 : Tryd.prog.cellsOf 2 = 1 := by kernel_rfl
theorem cells_I64 : Tryd.prog.cellsOf 23 = 1 := by kernel_rfl
theorem off_of_laid {W : World} (h : laidMetH Tryd.prog [("quadform/prime.offsets", Rows.laid_quadform_prime_offsets)] W) : OffH W.heap := by
  have T : Lib.TabIs Tryd.prog W "quadform/prime.offsets" .i64 [7, 11, 13, 17, 19, 23, 29, 31] :=
    Lib.tabIs_of_head (rest := []) gTab gTabType Tryd.underlying121 Tryd.underlying2 cells_i64 cellsTab h
  intro i u hu
  have hu2 : (([7, 11, 13, 17, 19, 23, 29, 31] : List Int).map (Value.int .i64))[i]? = some u := hu
  have hi : i < ([7, 11, 13, 17, 19, 23, 29, 31] : List Int).length := by have := (List.getElem?_eq_some_iff.1 hu2).1; simpa using this
  have hc := T.cell gTab i hi
  rw [List.getElem?_map, List.getElem?_eq_getElem hi] at hu2
  simp only [Option.map_some, Option.some.injEq] at hu2
  rw [← hu2]
  rw [List.getD_eq_getElem?_getD, List.getElem?_eq_getElem hi] at hc
  exact hc
theorem spot_none {W : World} {a : Addr} {v : Value} (h : W.cell? a = some v) : a = ⟨a.block, a.off, none⟩ := by
  obtain ⟨b, o, s⟩ := a
  cases s with
  | none => rfl
  | some s =>
    unfold World.cell? at h
    split at h
    · simp at h
    · cases h
theorem sl_of_cells {W : World} {a : Option Addr} {len cap : Nat} {l : List Value} (hl : l.length = len) (hn : a = none → len = 0) (hc : ∀ a', a = some a' → ∀ i x, l[i]? = some x → W.cell? (a'.add i) = some x) : Sl W.heap (.slice a len cap) l := by
  refine ⟨a, cap, by rw [hl], fun i x hx => ?_⟩
  cases a with
  | none => have := hn rfl; have := (List.getElem?_eq_some_iff.1 hx).1; omega
  | some a' =>
    have h0 : 0 < l.length := by have := (List.getElem?_eq_some_iff.1 hx).1; omega
    have hs := spot_none (hc a' rfl 0 _ (List.getElem?_eq_getElem h0))
    have ha0 : a'.add 0 = a' := by simp [Addr.add]
    rw [ha0] at hs
    refine ⟨a'.block, a'.off, by rw [← hs], ?_⟩
    have := hc a' rfl i x hx
    rw [hs] at this
    rw [show (⟨a'.block, a'.off + i, none⟩ : Addr) = (⟨a'.block, a'.off, none⟩ : Addr).add i by rw [addr_add]]
    exact this
/-- A matrix that came in. -/
theorem open_mm {H : Type} {enc : TypeId × Value → H} {W : World} {v : Value} {d : DataW H} {p : List MemPlace} (hv : ∃ a len cap, v = .slice a len cap) (h : DataW.Trod enc Tryd.prog W 0 (fun _ => true) true 22 v d p) : ∃ M, Mat W.heap v M := by
  obtain ⟨fuel, hf⟩ := h
  obtain ⟨a, len, cap, rfl⟩ := hv
  rcases Deep.open_int_rows Tryd.underlying22 Tryd.underlying23 Tryd.underlying2 cells_I64 cells_i64 hf with ⟨hcs, _⟩ | ⟨a', len', cap', A, L, C, Z, hcs, _, hl, _, _, hrow⟩
  · simp [Value.cells] at hcs
    obtain ⟨rfl, rfl, rfl⟩ := hcs
    exact ⟨[], mat_nil _⟩
  · simp [Value.cells] at hcs
    obtain ⟨rfl, rfl, rfl⟩ := hcs
    refine ⟨(List.range len).map fun r => (Z r).take (L r), (List.range len).map fun r => .slice (A r) (L r) (C r), ?_, by simp, fun i r z hr hz => ?_⟩
    · refine sl_of_cells (by simp) (fun h => by cases h) fun a'' ha i x hx => ?_
      injection ha with ha; subst ha
      have hi : i < len := by have := (List.getElem?_eq_some_iff.1 hx).1; simpa using this
      simp [hi] at hx
      subst hx
      exact (hrow i (by omega)).1
    · have hi : i < len := by have := (List.getElem?_eq_some_iff.1 hr).1; simpa using this
      simp [hi] at hr hz
      subst hr; subst hz
      obtain ⟨_, hLC, _, hZ, _, hnone, hcell⟩ := hrow i (by omega)
      refine sl_of_cells (by simp; omega) (fun h => by have := hnone h; omega) fun a'' ha c x hx => ?_
      have hc : c < L i := by have := (List.getElem?_eq_some_iff.1 hx).1; simp at this; omega
      have := (hcell a'' ha).2 c (by omega)
      rw [this]
      rw [List.getElem?_map, List.getElem?_take, if_pos hc, List.getElem?_eq_getElem (by omega)] at hx
      simp only [Option.map_some, Option.some.injEq] at hx
      rw [← hx, List.getD_eq_getElem?_getD, List.getElem?_eq_getElem (by omega)]
      rfl
theorem calls_true {f : FuncId} {args : Array Value} {W : World} (H : CallH Tryd.prog f args W.heap fun x h' => Ext W.heap h' ∧ x = .bool true) : Calls Tryd.prog f args W fun e W' => e = .returned (.bool true) ∧ Below W.heap.size W W' := by
  refine Calls.mono (H.2 W rfl) fun e W' hk => ?_
  obtain ⟨v, rfl, hs, hE, rfl⟩ := hk
  exact ⟨rfl, ⟨hs.os, hs.tape, hs.output, hE.1, hE.2⟩⟩
/-- A WORLD FOR THE WITNESS: the settled one, the table holding what its initialiser lays. -/
noncomputable def laidWorld (os : Os) : World :=
  { World.holding Tryd.prog os ⟨#[], #[], []⟩ with heap := (World.holding Tryd.prog os ⟨#[], #[], []⟩).heap.modify 0 fun
      | .cells _ t frozen => .cells #[.int .i64 7, .int .i64 11, .int .i64 13, .int .i64 17, .int .i64 19, .int .i64 23, .int .i64 29, .int .i64 31] t frozen
      | o => o }
end Go.Proofs.YtccgaemmdikhcaaDoor
