/-
  What the rows' proofs share, more: slices of structs and decompositions that came in.
-/
import Derived.Test.YtccgaemmdikhcaaDoorRowK
import Derived.Test.YtccgaemmdikhcaaDoorDyR
import Derived.Deep.Slices
import Derived.Deep.Strs
namespace Go.Proofs.YtccgaemmdikhcaaDoor
open Go Go.QF
open Go.ChangeShapes Go.WideShapes Go.ChangeAt Go.RowKit
set_option linter.unusedVariables false
set_option linter.unusedSimpArgs false
set_option maxRecDepth 100000
theorem wf_u8 {z : Int} (h : (Lit.int .u8 z).wf = true) : 0 ≤ z ∧ z ≤ 255 := by
  simp [Lit.wf, IntKind.min, IntKind.max, IntKind.bits, IntKind.signed] at h
  omega
theorem cells_u8 : Tryd.prog.cellsOf 5 = 1 := by kernel_rfl
theorem cells_int : Tryd.prog.cellsOf 3 = 1 := by kernel_rfl
theorem cells_A5 : Tryd.prog.cellsOf 65 = 5 := by kernel_rfl
theorem cells_Blk : Tryd.prog.cellsOf 41 = 5 := by kernel_rfl
theorem cells_BL : Tryd.prog.cellsOf 29 = 1 := by kernel_rfl
theorem cells_MM : Tryd.prog.cellsOf 22 = 1 := by kernel_rfl
theorem cells_Jor : Tryd.prog.cellsOf 31 = 3 := by kernel_rfl
/-- A slice of structs, from what each element's cells are. -/
theorem slK_of {α : Type} {f : α → List Value} {good : α → Prop} {W : World} {a : Addr} {len cap k : Nat} (hk : 0 < k) (h : ∀ i, i < len → ∃ x, good x ∧ (f x).length = k ∧ W.cells? 0 (a.add (i * k)) k = some (f x)) :
    ∃ Xs : List α, SlK W.heap k (.slice (some a) len cap) (Xs.map f) ∧ (∀ x ∈ Xs, good x) ∧ Xs.length = len := by
  have key : ∀ n, n ≤ len → ∃ Xs : List α, Xs.length = n ∧ ∀ (i : Nat) (x : α), Xs[i]? = some x → good x ∧ (f x).length = k ∧ W.cells? 0 (a.add (i * k)) k = some (f x) := by
    intro n
    induction n with
    | zero => intro _; exact ⟨[], rfl, fun i x hx => by simp at hx⟩
    | succ n ih =>
      intro hn
      obtain ⟨Xs, hl, hX⟩ := ih (by omega)
      obtain ⟨x, hx⟩ := h n (by omega)
      refine ⟨Xs ++ [x], by simp [hl], fun i y hy => ?_⟩
      rcases Nat.lt_or_ge i Xs.length with hi | hi
      · rw [List.getElem?_append_left hi] at hy; exact hX i y hy
      · have := (List.getElem?_eq_some_iff.1 hy).1
        simp at this
        have hi2 : i = Xs.length := by omega
        subst hi2
        simp at hy
        subst hy
        rw [hl]; exact hx
  obtain ⟨Xs, hl, hX⟩ := key len (Nat.le_refl _)
  refine ⟨Xs, ⟨some a, cap, by rw [List.length_map, hl], fun i row hrow => ?_⟩, fun x hx => ?_, hl⟩
  · rw [List.getElem?_map] at hrow
    cases hxi : Xs[i]? with
    | none => rw [hxi] at hrow; cases hrow
    | some x =>
      rw [hxi] at hrow
      simp only [Option.map_some, Option.some.injEq] at hrow
      subst hrow
      obtain ⟨_, hfl, hc⟩ := hX i x hxi
      obtain ⟨_, _, hcell⟩ := World.cells?_some hc
      have hi : i < len := by rw [← hl]; exact (List.getElem?_eq_some_iff.1 hxi).1
      have hsp : a.spot = none := by
        obtain ⟨x0, _, hf0, hc0⟩ := h 0 (by omega)
        obtain ⟨_, _, hcell0⟩ := World.cells?_some hc0
        have h0 := hcell0 0 hk
        rw [List.getElem?_eq_getElem (by omega)] at h0
        have ha : (a.add (0 * k)).add 0 = a := by simp [Addr.add]
        rw [ha] at h0
        exact congrArg Addr.spot (spot_none h0)
      obtain ⟨ab, ao, asp⟩ := a
      simp only at hsp
      subst hsp
      refine ⟨ab, ao, rfl, fun j y hj => ?_⟩
      have hjl := (List.getElem?_eq_some_iff.1 hj).1
      have := hcell j (by omega)
      rw [addr_add, addr_add, hj] at this
      exact this
  · obtain ⟨i, hi⟩ := List.getElem?_of_mem hx
    exact (hX i x hi).1
theorem trod_array5 {H : Type} {enc : TypeId × Value → H} {P : Program} {w : World} {base : Nat} {spare : Nat → Bool} {held : Bool} {t e : TypeId} {fuel : Nat} {c0 c1 c2 c3 c4 : Value} {x : DataW H × List MemPlace} (ht : P.underlying t = some (.array 5 e)) (hce : P.cellsOf e = 1)
    (h : DataW.trod enc P w base spare held fuel t [c0, c1, c2, c3, c4] = some x) : ∃ y0 y1 y2 y3 y4 n, DataW.trod enc P w base spare held n e [c0] = some y0 ∧ DataW.trod enc P w base spare held n e [c1] = some y1 ∧ DataW.trod enc P w base spare held n e [c2] = some y2 ∧ DataW.trod enc P w base spare held n e [c3] = some y3 ∧ DataW.trod enc P w base spare held n e [c4] = some y4 := by
  cases fuel with
  | zero => simp [DataW.trod] at h
  | succ n =>
    unfold DataW.trod at h
    rw [ht] at h
    have r5 : List.range 5 = [0, 1, 2, 3, 4] := rfl
    simp [r5, hce] at h
    obtain ⟨_, h⟩ := h
    cases h0 : DataW.trod enc P w base spare held n e [c0] with
    | none => simp [h0] at h
    | some y0 =>
      cases h1 : DataW.trod enc P w base spare held n e [c1] with
      | none => simp [h0, h1] at h
      | some y1 =>
        cases h2 : DataW.trod enc P w base spare held n e [c2] with
        | none => simp [h0, h1, h2] at h
        | some y2 =>
          cases h3 : DataW.trod enc P w base spare held n e [c3] with
          | none => simp [h0, h1, h2, h3] at h
          | some y3 =>
            cases h4 : DataW.trod enc P w base spare held n e [c4] with
            | none => simp [h0, h1, h2, h3, h4] at h
            | some y4 => exact ⟨y0, y1, y2, y3, y4, n, h0, h1, h2, h3, h4⟩
section
variable {H : Type} {enc : TypeId × Value → H} {W : World}
theorem list5 {α : Type} {l : List α} (h : l.length = 5) : ∃ a b c d e, l = [a, b, c, d, e] := by
  match l, h with
  | [a, b, c, d, e], _ => exact ⟨a, b, c, d, e, rfl⟩
theorem a5l_of {fuel : Nat} {v : Value} {x : DataW H × List MemPlace} (hf : DataW.trod enc Tryd.prog W 0 (fun _ => true) true fuel 32 [v] = some x) : ∃ Xs : List Q5, SlK W.heap 5 v (Xs.map q5V) ∧ (∀ q ∈ Xs, q.I) ∧ Xs.length ≤ 9223372036854775807 := by
  rcases Deep.open_slice Tryd.underlying32 hf with ⟨hcs, _⟩ | ⟨a, len, cap, m, n, D, Pl, hcs, _, hl, hcap, hm, _, hel⟩
  · simp at hcs
    subst hcs
    exact ⟨[], slK_nil _ _, (fun z hz => by cases hz), by simp⟩
  · simp at hcs
    subst hcs
    suffices hh : ∃ Xs : List Q5, SlK W.heap 5 (.slice (some a) len cap) (Xs.map q5V) ∧ (∀ q ∈ Xs, q.I) ∧ Xs.length = len by
      obtain ⟨Xs, q1, q2, q3⟩ := hh
      exact ⟨Xs, q1, q2, by unfold maxLen at hcap; omega⟩
    refine slK_of (by decide) fun i hi => ?_
    obtain ⟨cs', h1, h2⟩ := hel i (by rw [hm]; split <;> omega)
    rw [cells_A5] at h1
    obtain ⟨_, hcl, _⟩ := World.cells?_some h1
    obtain ⟨c0, c1, c2, c3, c4, rfl⟩ := list5 hcl
    obtain ⟨y0, y1, y2, y3, y4, n', g0, g1, g2, g3, g4⟩ := trod_array5 Tryd.underlying65 cells_u8 h2
    obtain ⟨x0, e0, _, w0⟩ := DataW.trod_int Tryd.underlying5 g0
    obtain ⟨x1, e1, _, w1⟩ := DataW.trod_int Tryd.underlying5 g1
    obtain ⟨x2, e2, _, w2⟩ := DataW.trod_int Tryd.underlying5 g2
    obtain ⟨x3, e3, _, w3⟩ := DataW.trod_int Tryd.underlying5 g3
    obtain ⟨x4, e4, _, w4⟩ := DataW.trod_int Tryd.underlying5 g4
    simp at e0 e1 e2 e3 e4
    subst e0; subst e1; subst e2; subst e3; subst e4
    have b0 := wf_u8 w0
    have b1 := wf_u8 w1
    have b2 := wf_u8 w2
    have b3 := wf_u8 w3
    have b4 := wf_u8 w4
    refine ⟨⟨x0.toNat, x1.toNat, x2.toNat, x3.toNat, x4.toNat⟩, ⟨by simp only; omega, by simp only; omega, by simp only; omega, by simp only; omega, by simp only; omega⟩, rfl, ?_⟩
    unfold q5V
    simp only
    rw [Int.toNat_of_nonneg b0.1, Int.toNat_of_nonneg b1.1, Int.toNat_of_nonneg b2.1, Int.toNat_of_nonneg b3.1, Int.toNat_of_nonneg b4.1]
    exact h1
theorem open_a5l {v : Value} {d : DataW H} {p : List MemPlace} (hv : ∃ a len cap, v = .slice a len cap) (h : DataW.Trod enc Tryd.prog W 0 (fun _ => true) true 32 v d p) : ∃ Xs : List Q5, SlK W.heap 5 v (Xs.map q5V) ∧ (∀ q ∈ Xs, q.I) ∧ Xs.length ≤ 9223372036854775807 := by
  obtain ⟨fuel, hf⟩ := h
  obtain ⟨a, len, cap, rfl⟩ := hv
  exact a5l_of hf
theorem bl_of {fuel : Nat} {v : Value} {x : DataW H × List MemPlace} (hf : DataW.trod enc Tryd.prog W 0 (fun _ => true) true fuel 29 [v] = some x) : ∃ Bs : List Blk, SlK W.heap 5 v (Bs.map blkV) ∧ ∀ b ∈ Bs, b.I := by
  rcases Deep.open_slice Tryd.underlying29 hf with ⟨hcs, _⟩ | ⟨a, len, cap, m, n, D, Pl, hcs, _, hl, _, hm, _, hel⟩
  · simp at hcs
    subst hcs
    exact ⟨[], slK_nil _ _, fun z hz => by cases hz⟩
  · simp at hcs
    subst hcs
    suffices hh : ∃ Bs : List Blk, SlK W.heap 5 (.slice (some a) len cap) (Bs.map blkV) ∧ (∀ b ∈ Bs, b.I) ∧ Bs.length = len by
      obtain ⟨Bs, q1, q2, q3⟩ := hh
      exact ⟨Bs, q1, q2⟩
    refine slK_of (by decide) fun i hi => ?_
    obtain ⟨cs', h1, h2⟩ := hel i (by rw [hm]; split <;> omega)
    rw [cells_Blk] at h1
    obtain ⟨_, hcl, _⟩ := World.cells?_some h1
    obtain ⟨c0, c1, c2, c3, c4, rfl⟩ := list5 hcl
    obtain ⟨xs, n', _, _, _, hlen, hfld⟩ := DataW.trod_struct Tryd.underlying41 h2
    have rd : ∀ (t : TypeId) (c : Value), (∃ y, DataW.trod enc Tryd.prog W 0 (fun _ => true) true n' t [c] = some y) → Tryd.prog.underlying t = some (.int .i64) → ∃ z : Int, c = .int .i64 z ∧ I64 z := by
      intro t c hy ht
      obtain ⟨y, hy⟩ := hy
      obtain ⟨z, e0, _, w0⟩ := DataW.trod_int ht hy
      simp at e0
      refine ⟨z, e0, ?_⟩
      simp [Lit.wf, IntKind.min, IntKind.max, IntKind.bits, IntKind.signed] at w0
      unfold I64
      omega
    match xs, hlen with
    | [y0, y1, y2, y3, y4], _ =>
      have f0 := hfld 0 _ rfl
      have f1 := hfld 1 _ rfl
      have f2 := hfld 2 _ rfl
      have f3 := hfld 3 _ rfl
      have f4 := hfld 4 _ rfl
      simp [cells_int, cells_i64] at f0 f1 f2 f3 f4
      obtain ⟨z0, rfl, i0⟩ := rd 3 c0 ⟨_, f0⟩ Tryd.underlying3
      obtain ⟨z1, rfl, i1⟩ := rd 3 c1 ⟨_, f1⟩ Tryd.underlying3
      obtain ⟨z2, rfl, i2⟩ := rd 2 c2 ⟨_, f2⟩ Tryd.underlying2
      obtain ⟨z3, rfl, i3⟩ := rd 2 c3 ⟨_, f3⟩ Tryd.underlying2
      obtain ⟨z4, rfl, i4⟩ := rd 2 c4 ⟨_, f4⟩ Tryd.underlying2
      exact ⟨⟨z0, z1, z2, z3, z4⟩, ⟨i0, i1, i2, i3, i4⟩, rfl, h1⟩
theorem open_jor {r : Reach} {b0 : Nat} {v : Value} {d : DataW H} {p : List MemPlace} (hv : Value.okWide Tryd.prog W r b0 31 v) (h : DataW.Trod enc Tryd.prog W 0 (fun _ => true) true 31 v d p) :
    ∃ (q : Int) (vT vB : Value) (Bs : List Blk), v = .agg #[.int .i64 q, vT, vB] ∧ SlK W.heap 5 vB (Bs.map blkV) ∧ ∀ b ∈ Bs, b.I := by
  obtain ⟨cs, rfl, hsz⟩ := okWide_struct Tryd.underlying31 hv
  rw [cells_Jor] at hsz
  obtain ⟨l⟩ := cs
  match l, hsz with
  | [c0, c1, c2], _ =>
    obtain ⟨fuel, hf⟩ := h
    obtain ⟨y0, y1, y2, n, _, _, h0, h1, h2⟩ := Deep.trod_struct3 Tryd.underlying31 hf
    simp [Value.cells, cells_i64, cells_MM, cells_BL] at h0 h1 h2
    obtain ⟨x0, e0, _, w0⟩ := DataW.trod_int Tryd.underlying2 h0
    simp at e0
    subst e0
    obtain ⟨Bs, HB, hB⟩ := bl_of h2
    exact ⟨x0, c1, c2, Bs, rfl, HB, hB⟩
end
end Go.Proofs.YtccgaemmdikhcaaDoor
