/-
  'append(s, make([]T, n)...)': n zeros behind an owned slice. No condition.
-/
import Derived.Test.YtccgaemmdikhcaaDoorMat
namespace Go.QF
open Go
set_option linter.unusedVariables false
set_option linter.unusedSimpArgs false

theorem zeroCells_one {z : Value} (h1 : isOne z = true) (n : Nat) : Builtin.zeroCells z.cells n = (List.replicate n z).toArray := by
  have hc := cells_one h1
  have hsz := size_zeroCells z.cells n
  refine Array.ext (by rw [hsz, hc]; simp) fun i h2 h3 => ?_
  have hm : i % 1 = 0 := Nat.mod_one i
  simp [Builtin.zeroCells, hc, hm]
section
variable {P : Program} {B : Heap → Prop} {st : Bool} {ops : Array Oper} {rest : List Oper} {e : Env} {h : Heap} {K : Env → Heap → Prop}
variable {d : Nat} {ty : TypeId} {pos : String} {af : Array Edge}
theorem r_appZ {s x : Operand} {t tn el g bytes n : Nat} {z v : Value} {l : List Value} {k kn : IntKind} (hT : SlT P t el 1) (hN : IntT P tn kn) (hz : ZeT P el z bytes) (h1 : isOne z = true) (hb : B h) (hs : e.ev s = v) (HO : OwnA h el g v l) (hx : e.ev x = .int k (n : Int))
    (hn0 : 0 < n) (hlen : (l.length + n) * bytes ≤ 140737488355328) (hlen2 : l.length + n ≤ 140737488355328)
    (H : ∀ v' g' h', OwnA h' el g' v' (l ++ List.replicate n z) → (g' = g ∨ g' = h.size) → Upd (· = g) h h' → B h' ∧ RL P B st ops rest (e.set d v') h' K) :
    RL P B st ops (⟨some d, .call ⟨.builtin .append, #[s, x], #[t, tn]⟩, ty, pos, af, none⟩ :: rest) e h K := by
  refine r_eff rfl rfl hb fun w hw => ?_
  subst hw
  obtain ⟨hu, i0, hi0, hs0⟩ := hT
  obtain ⟨i, hi, hzz, hsz, hby⟩ := hz
  rw [hi] at hi0; injection hi0 with hi0; subst hi0
  have HO' := HO
  obtain ⟨cap, cur, rfl, hg, hlc, hcm, hcs, ht⟩ := HO
  have hnn : n ≠ 0 := by omega
  have hw : IntKind.i64.wrap (n : Int) = n := by rw [IntKind.wrap_i64]; omega
  have hneg : ¬ ((n : Int) < 0) := by omega
  have hnb : n * i.bytes ≤ 140737488355328 := by rw [hby]; rw [Nat.add_mul] at hlen; omega
  have h48i : ¬ (281474976710656 < (n : Int) * (i.bytes : Int)) := by
    rw [← Int.natCast_mul]
    omega
  have hzc := zeroCells_one h1 n
  have hone' : ∀ u ∈ List.replicate n z, u.oneCell' = true := fun u hu' => by
    have := (List.mem_replicate.1 hu').2
    subst this
    cases u <;> first | rfl | cases h1
  by_cases hroom : l.length + n ≤ cap
  · have hst := run_storeCells_at P g (l.length * i.size) el (List.replicate n z) 0 cur w hg (by simp [hs0, hcs]; omega) hone'
    simp only [Nat.add_zero] at hst
    have hr : (Builtin.append_ #[t, tn] ty #[.slice (some ⟨g, 0, none⟩) l.length cap, .int k (n : Int)]).run P w = .ok (.slice (some ⟨g, 0, none⟩) (l.length + n) cap) (w.setRow g (cur.toList.take (l.length * i.size) ++ List.replicate n z ++ cur.toList.drop (l.length * i.size + (List.replicate n z).length)).toArray) := by
      simp [Builtin.append_, u_run hu, u_run hN, run_underlying hu, run_underlying hN, sizeOf, typeInfo, hi, asInt, asIntOf, hw, hneg, h48i, hroom, hs0, hnn, zeroValue, hzz, hzc, Addr.add_lit]
      have hst' := hst
      simp [hs0] at hst'
      simp [Addr.add, hst']
    have hrun : (execOp e.ev ⟨some d, .call ⟨.builtin .append, #[s, x], #[t, tn]⟩, ty, pos, af, none⟩).run P w = .ok (.value (.slice (some ⟨g, 0, none⟩) (l.length + n) cap)) (w.setRow g (cur.toList.take (l.length * i.size) ++ List.replicate n z ++ cur.toList.drop (l.length * i.size + (List.replicate n z).length)).toArray) := by
      simp only [execOp, resolve, invoke, builtin]
      simp [hs, hx, hr]
    rw [hrun]
    refine ⟨⟨rfl, rfl, rfl⟩, H _ g _ ?_ (.inl rfl) ?_⟩
    · refine ⟨cap, _, by simp, setRow_heap w g cur _ el (0, 0) hg, by simpa using hroom, hcm, ?_, ?_⟩
      · simp only [hs0, Nat.mul_one, List.size_toArray, List.length_append, List.length_take, List.length_drop, Array.length_toList, hcs, List.length_replicate]
        omega
      · simp only [hs0, Nat.mul_one, ht]
        exact List.take_left
    · exact ⟨by simp [World.setRow], fun k hk hne => setRow_other w g k _ (fun he => hne he)⟩
  · have hfit : Builtin.nextslicecap (l.length + n) cap * i.bytes ≤ 281474976710656 := by rw [hby]; exact growslice_fits (by omega) hlen
    have hn : ¬ (l.length + n ≤ cap) := hroom
    have h63' : ¬ (9223372036854775807 < ((l.length : Int) + (n : Int))) := by omega
    have h48' : ¬ (281474976710656 < Builtin.nextslicecap (l.length + n) cap * i.bytes) := by omega
    have hfo := run_firstCells_some (P := P) w.drew i.size l.length ⟨g, 0, none⟩ l.length cap l (by simp [hs0]) (fun j u hu' => by
      rw [addr_add, Nat.zero_add]; exact HO'.cell hu')
    rw [hs0] at hfo
    have hr : (Builtin.append_ #[t, tn] ty #[.slice (some ⟨g, 0, none⟩) l.length cap, .int k (n : Int)]).run P w = .ok (.slice (some ⟨w.heap.size, 0, none⟩) (l.length + n) (grownCap w (l.length + n) cap el))
        (w.drew.alloc (.cells (l.toArray ++ (List.replicate n z).toArray ++ Builtin.zeroCells z.cells (grownCap w (l.length + n) cap el - (l.length + n))) el)) := by
      simp [Builtin.append_, u_run hu, u_run hN, run_underlying hu, run_underlying hN, sizeOf, typeInfo, zeroValue, hi, hzz, asInt, asIntOf, hw, hneg, h48i, hn, h63', h48', Question.forced, hfo, newRow, grownCap, hs0, hnn, hzc]
    have hrun : (execOp e.ev ⟨some d, .call ⟨.builtin .append, #[s, x], #[t, tn]⟩, ty, pos, af, none⟩).run P w = .ok (.value (.slice (some ⟨w.heap.size, 0, none⟩) (l.length + n) (grownCap w (l.length + n) cap el)))
        (w.drew.alloc (.cells (l.toArray ++ (List.replicate n z).toArray ++ Builtin.zeroCells z.cells (grownCap w (l.length + n) cap el - (l.length + n))) el)) := by
      simp only [execOp, resolve, invoke, builtin]
      simp [hs, hx, hr]
    rw [hrun]
    have hzs : z.cells.size = 1 := by cases z <;> first | rfl | cases h1
    have hge := grownCap_ge w (l.length + n) cap el
    have hcm' : grownCap w (l.length + n) cap el ≤ maxLen := grownCap_le_maxLen w _ _ el (by unfold maxLen; omega)
    refine ⟨⟨rfl, rfl, rfl⟩, H _ w.heap.size _ ?_ (.inr rfl) ?_⟩
    · refine ⟨_, _, by simp, heap_alloc_new w.drew _, by simpa using hge, hcm', ?_, ?_⟩
      · simp [size_zeroCells, hzs]; omega
      · simp only [Array.toList_append, List.append_assoc]
        rw [← List.append_assoc]
        exact List.take_left
    · exact (Ext.upd ⟨by simp, fun k hk => heap_alloc_old w.drew _ k hk⟩)
end
end Go.QF
