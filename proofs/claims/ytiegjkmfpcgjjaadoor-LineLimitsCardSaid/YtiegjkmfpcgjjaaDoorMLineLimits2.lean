/-
  Texts of a proof, joined. Conditions stand in each statement.
-/
import Derived.ArgAppend
import Derived.Test.YtiegjkmfpcgjjaaDoorMLineLimits1
set_option linter.unusedVariables false
set_option linter.unusedSimpArgs false
/-
  Rules for data in memory by codecs. No condition.
-/
namespace Go.QF
open Go
set_option linter.unusedVariables false
set_option linter.unusedSimpArgs false
theorem ownK_of {h : Heap} {el g : Nat} {v : Value} {l : List Value} (H : OwnA h el g v l) : OwnK h el 1 g v (l.map fun x => [x]) := by
  obtain ⟨cap, cur, h1, h2, h3, h4, h5, h6⟩ := H
  have hf : ∀ l : List Value, (l.map fun x => [x]).flatten = l := fun l => by induction l <;> simp_all
  exact ⟨cap, cur, by rw [List.length_map]; exact h1, h2, by rw [List.length_map]; exact h3, h4, by omega, fun r hr => by obtain ⟨x, _, rfl⟩ := List.mem_map.1 hr; rfl, by rw [List.length_map, Nat.mul_one, hf]; exact h6⟩
section
variable {P : Program} {B : Heap → Prop} {st : Bool} {ops : Array Oper} {rest : List Oper} {e : Env} {h : Heap} {K : Env → Heap → Prop}
variable {d d' : Nat} {ty ty' : TypeId} {pos pos' : String} {af af' : Array Edge}
theorem r_bsV {t el bytes s : Nat} {z w0 : Value} {y : Operand} (l : List Value) (hT : SlT P t el s) (hz : ZeT P el z bytes) (hb : B h) (hy : e.ev y = w0) (hw0 : w0.cells = l.toArray) (hl : l.length = s) (hs1 : 0 < s) (hs2 : s ≤ 1000)
    (H : B (h.push (.cells l.toArray el (0, 0))) ∧ RL P B st ops rest (e.set d (.slice (some ⟨h.size, 0, none⟩) 1 1)) (h.push (.cells l.toArray el (0, 0))) K) :
    RL P B st ops (⟨some d, .buildSlice t 1 #[(0, y)], ty, pos, af, none⟩ :: rest) e h K := by
  refine r_eff rfl rfl hb fun w hw => ?_
  subst hw
  obtain ⟨hu, i0, hi0, hs0⟩ := hT
  obtain ⟨i, hi, hzz, hsz, hby⟩ := hz
  rw [hi] at hi0; injection hi0 with hi0; subst hi0
  have h3 : ¬ (1 * i.size > 2 ^ 24) := by rw [hs0]; omega
  have h4 : ¬ (1 * i.size = 0) := by rw [hs0]; omega
  have hfill : Instr.fill (fun j => some (j * i.size, i.size)) ((Array.range (1 * i.size)).map (z.cells[· % z.cells.size]!)) [(0, w0)] = some l.toArray := by
    generalize z.cells = zc
    simp only [Instr.fill, hw0, List.size_toArray, hl, hs0]
    rw [if_neg (by simp)]
    congr 1
    obtain ⟨old, ho⟩ : ∃ old : List Value, ((Array.range (1 * s)).map (zc[· % zc.size]!)) = old.toArray := ⟨_, (Array.toArray_toList).symm⟩
    have hol : old.length = l.length := by have := congrArg Array.size ho; simp at this; omega
    rw [ho]
    have := fill_fold l [] old hol
    simp only [List.nil_append, List.length_nil] at this
    simp only [Nat.zero_mul]
    rw [← Array.foldl_toList]
    simp only [Array.toList_zipIdx]
    exact this
  have : (execOp e.ev ⟨some d, .buildSlice t 1 #[(0, y)], ty, pos, af, none⟩).run P w = .ok (.value (.slice (some ⟨w.heap.size, 0, none⟩) 1 1)) (w.alloc (.cells l.toArray el)) := by
    simp only [execOp, List.map_toArray, List.map, hy]
    simp only [Instr.buildSlice, Sem.run_bind, u_run hu, Result.andThen, s_run hi, if_neg h3, if_neg h4, z_run hi hzz]
    have hp1 : Sem.run P (pure z.cells : Sem (Array Value)) w = .ok z.cells w := rfl
    simp only [hp1]
    rw [hfill]
    simp [newRow]
  rw [this]
  exact ⟨⟨rfl, rfl, rfl⟩, H⟩
/-- What 'append' does to the heap. -/
def PU (el : Nat) (v : Value) (h h' : Heap) : Prop := Upd (fun k => v.ownBlock = some k) h h' ∧ ∀ g, v.ownBlock = some g → ∃ cur, h'[g]? = some (.cells cur el (0, 0))
theorem pu_ext {h h' : Heap} {el k lo : Nat} {v : Value} {L : List (List Value)} (H : GroK h el k lo v L) (E : Ext h h') : PU el v h h' := by
  refine ⟨E.upd, fun g hg => ?_⟩
  rcases H with ⟨_, rfl⟩ | ⟨g', _, HO⟩
  · cases hg
  · rw [HO.blk] at hg
    injection hg with hg; subst hg
    obtain ⟨cap, cur, _, hgg, _⟩ := HO.ext E
    exact ⟨cur, hgg⟩
theorem r_pushV {s y : Operand} {t el bytes lo k : Nat} {z v w0 : Value} {L : List (List Value)} (u : List Value) (hT : SlT P t el k) (hz : ZeT P el z bytes) (hzk : z.cells.size = k) (hb0 : B h) (hbB : ∀ h', PU el v h h' → B h') (hs : ∀ p, (e.set d p).ev s = v) (hy : e.ev y = w0) (hw0 : w0.cells = u.toArray) (hu : u.length = k) (hone : ∀ x ∈ u, isOne x = true) (hk1 : 0 < k) (hk2 : k ≤ 1000) (HG : GroK h el k lo v L) (hlo : lo ≤ h.size) (hby : bytes ≤ 1000)
    (hl : L.length ≤ 100000000)
    (H : ∀ p v' h', GroK h' el k lo v' (L ++ [u]) → PU el v h h' → (v'.ownBlock = v.ownBlock ∨ ∃ g, v'.ownBlock = some g ∧ h.size ≤ g) → RL P B st ops rest ((e.set d p).set d' v') h' K) :
    RL P B st ops (⟨some d, .buildSlice t 1 #[(0, y)], ty, pos, af, none⟩ :: ⟨some d', .call ⟨.builtin .append, #[s, .tmp d], #[t, t]⟩, ty', pos', af', none⟩ :: rest) e h K := by
  have hsz : L.length * bytes ≤ 100000000 * 1000 := Nat.mul_le_mul hl hby
  have hb2 : (L.length + 1) * bytes ≤ 140737488355328 := by rw [Nat.add_mul]; omega
  refine r_bsV u hT hz hb0 hy hw0 hu hk1 hk2 ⟨hbB _ (pu_ext HG (ext_push _ _)), ?_⟩
  have hnew := ownK_lit h el k u hu
  have hE := ext_push h (.cells u.toArray el (0, 0))
  have hsz2 : (h.push (.cells u.toArray el (0, 0))).size = h.size + 1 := by simp
  have hone' : ∀ x ∈ u, x.oneCell' = true := fun x hx' => by have := hone x hx'; cases x <;> first | rfl | cases this
  refine r_eff rfl rfl (hbB _ (pu_ext HG (ext_push _ _))) fun w hw => ?_
  have hws : w.heap.size = h.size + 1 := by rw [hw]; exact hsz2
  have hEw : Ext h w.heap := by rw [hw]; exact hE
  obtain ⟨hut, i0, hi0, hs0⟩ := hT
  obtain ⟨i, hi, hzz, hszz, hbyy⟩ := hz
  rw [hi] at hi0; injection hi0 with hi0; subst hi0
  have hnews : ∀ j x, u[j]? = some x → w.cell? ((⟨h.size, 0, none⟩ : Addr).add j) = some x := fun j x hx => by
    rw [addr_add, Nat.zero_add]
    have := hnew.cell (i := 0) rfl hx
    rw [Nat.zero_mul, Nat.zero_add] at this
    rw [cell?_eq, hw]; exact this
  rcases HG with ⟨rfl, rfl⟩ | ⟨g, hg, HO⟩
  · have hr := run_append_nil (P := P) w t ty' el i z hut hi hzz ⟨h.size, 0, none⟩ 1 1 u (by rw [hu, hs0]; omega) hnews (by omega) (by omega) (by rw [hbyy]; omega)
    have hrun : (execOp (e.set d (.slice (some ⟨h.size, 0, none⟩) 1 1)).ev ⟨some d', .call ⟨.builtin .append, #[s, .tmp d], #[t, t]⟩, ty', pos', af', none⟩).run P w = .ok (.value (.slice (some ⟨w.heap.size, 0, none⟩) 1 (grownCap w 1 0 el)))
        (w.drew.alloc (.cells (u.toArray ++ Builtin.zeroCells z.cells (grownCap w 1 0 el - 1)) el)) := by
      have hd : (e.set d (.slice (some ⟨h.size, 0, none⟩) 1 1)).ev (.tmp d) = .slice (some ⟨h.size, 0, none⟩) 1 1 := Env.set_same _ _ _
      simp [execOp, resolve, invoke, builtin, hs, hd, hr]
    rw [hrun]
    have hge := grownCap_ge w 1 0 el
    have hcm' : grownCap w 1 0 el ≤ maxLen := grownCap_le_maxLen w _ _ el (by unfold maxLen; omega)
    refine ⟨⟨rfl, rfl, rfl⟩, hbB _ ?hU1, H _ _ _ (.inr ⟨w.heap.size, by omega, ?_⟩) ?hU1 (.inr ⟨w.heap.size, rfl, by omega⟩)⟩
    rotate_left
    · refine ⟨_, _, rfl, heap_alloc_new w.drew _, hge, hcm', ?_, by simpa using hu, ?_⟩
      · rw [Array.size_append, size_zeroCells, hzk, List.size_toArray, hu, Nat.sub_mul]
        have : 1 * k ≤ grownCap w 1 0 el * k := Nat.mul_le_mul_right k hge
        omega
      · simp only [Array.toList_append]
        simp only [List.nil_append, List.length_cons, List.length_nil, Nat.zero_add, Nat.one_mul, List.flatten_cons, List.flatten_nil, List.append_nil]
        rw [← hu]
        exact List.take_left
    · exact ⟨(hEw.trans ⟨by simp, fun k hk => heap_alloc_old w.drew _ k hk⟩).upd, fun g hg => by cases hg⟩
  · have HO2 := HO.ext hE
    rw [← hw] at HO2
    have hcell : ∀ j x, L.flatten[j]? = some x → w.cell? ((⟨g, 0, none⟩ : Addr).add j) = some x := fun j x hx => by
      obtain ⟨cap, cur, _, hgg, _, _, _, hkk, ht⟩ := HO2
      rw [addr_add, Nat.zero_add, cell?_eq]
      have hj := (List.getElem?_eq_some_iff.1 hx).1
      rw [flat_len hkk] at hj
      rw [← ht, List.getElem?_take, if_pos hj] at hx
      simp only [cellH, hgg]
      simpa using hx
    have HO3 := HO2
    obtain ⟨cap, cur, rfl, hgg, hlc, hcm, hcs, hkk, ht⟩ := HO2
    have hd : (e.set d (.slice (some ⟨h.size, 0, none⟩) 1 1)).ev (.tmp d) = .slice (some ⟨h.size, 0, none⟩) 1 1 := Env.set_same _ _ _
    have hlu : (L ++ [u]).length = L.length + 1 := by simp
    have hkk' : ∀ r ∈ L ++ [u], r.length = k := by
      intro r hr
      rcases List.mem_append.1 hr with h1 | h1
      · exact hkk r h1
      · rw [List.mem_singleton.1 h1]; exact hu
    by_cases hroom : L.length + 1 ≤ cap
    · have hmul : (L.length + 1) * k ≤ cap * k := Nat.mul_le_mul_right k hroom
      rw [Nat.add_mul, Nat.one_mul] at hmul
      have hr := run_append_room (P := P) w t ty' el i hut hi g L.length cap cur hgg ⟨h.size, 0, none⟩ 1 1 u (by rw [hu, hs0]; omega) hnews hone' hroom (by rw [hs0, hu, hcs]; exact hmul)
      have hrun : (execOp (e.set d (.slice (some ⟨h.size, 0, none⟩) 1 1)).ev ⟨some d', .call ⟨.builtin .append, #[s, .tmp d], #[t, t]⟩, ty', pos', af', none⟩).run P w = .ok (.value (.slice (some ⟨g, 0, none⟩) (L.length + 1) cap)) (w.setRow g (cur.toList.take (L.length * i.size) ++ u ++ cur.toList.drop (L.length * i.size + u.length)).toArray) := by
        simp [execOp, resolve, invoke, builtin, hs, hd, hr]
      rw [hrun]
      refine ⟨⟨rfl, rfl, rfl⟩, hbB _ ?hU2, H _ _ _ (.inr ⟨g, hg, ?_⟩) ?hU2 (.inl rfl)⟩
      rotate_left
      · refine ⟨cap, _, by rw [hlu], setRow_heap w g cur _ el (0, 0) hgg, by rw [hlu]; exact hroom, hcm, ?_, hkk', ?_⟩
        · simp only [hs0, List.size_toArray, List.length_append, List.length_take, List.length_drop, Array.length_toList, hcs, hu]
          omega
        · simp only [hs0, ht, hlu]
          rw [List.flatten_append, List.flatten_cons, List.flatten_nil, List.append_nil]
          have : (L.length + 1) * k = (L.flatten ++ u).length := by rw [List.length_append, flat_len hkk, hu, Nat.add_mul, Nat.one_mul]
          rw [this]
          exact List.take_left
      · exact ⟨hEw.upd.trans ⟨by simp [World.setRow], fun q hq hne => setRow_other w g q _ (fun he => hne (by rw [he]; rfl))⟩, fun g' hg' => by injection hg' with hg'; subst hg'; exact ⟨_, setRow_heap w g cur _ el (0, 0) hgg⟩⟩
    · have hr := run_append_grow (P := P) w t ty' el i z hut hi hzz ⟨g, 0, none⟩ L.length cap L.flatten (by rw [flat_len hkk, hs0]) hcell ⟨h.size, 0, none⟩ 1 1 u (by rw [hu, hs0]; omega) hnews (by omega)
        (by omega) (by rw [hbyy]; exact growslice_fits (by omega) hb2)
      have hrun : (execOp (e.set d (.slice (some ⟨h.size, 0, none⟩) 1 1)).ev ⟨some d', .call ⟨.builtin .append, #[s, .tmp d], #[t, t]⟩, ty', pos', af', none⟩).run P w = .ok (.value (.slice (some ⟨w.heap.size, 0, none⟩) (L.length + 1) (grownCap w (L.length + 1) cap el)))
          (w.drew.alloc (.cells (L.flatten.toArray ++ u.toArray ++ Builtin.zeroCells z.cells (grownCap w (L.length + 1) cap el - (L.length + 1))) el)) := by
        simp [execOp, resolve, invoke, builtin, hs, hd, hr]
      rw [hrun]
      have hge := grownCap_ge w (L.length + 1) cap el
      have hcm' : grownCap w (L.length + 1) cap el ≤ maxLen := grownCap_le_maxLen w _ _ el (by unfold maxLen; omega)
      refine ⟨⟨rfl, rfl, rfl⟩, hbB _ ?hU3, H _ _ _ (.inr ⟨w.heap.size, by omega, ?_⟩) ?hU3 (.inr ⟨w.heap.size, rfl, by omega⟩)⟩
      rotate_left
      · refine ⟨_, _, by rw [hlu], heap_alloc_new w.drew _, by rw [hlu]; exact hge, hcm', ?_, hkk', ?_⟩
        · have hmm : (L.length + 1) * k ≤ grownCap w (L.length + 1) cap el * k := Nat.mul_le_mul_right k hge
          rw [Nat.add_mul] at hmm
          rw [Array.size_append, Array.size_append, size_zeroCells, hzk, List.size_toArray, List.size_toArray, hu, flat_len hkk, Nat.sub_mul, Nat.add_mul]
          omega
        · simp only [Array.toList_append, hlu]
          rw [List.flatten_append, List.flatten_cons, List.flatten_nil, List.append_nil]
          have : (L.length + 1) * k = (L.flatten ++ u).length := by rw [List.length_append, flat_len hkk, hu, Nat.add_mul, Nat.one_mul]
          rw [this]
          exact List.take_left
      · exact ⟨(hEw.trans ⟨by simp, fun k hk => heap_alloc_old w.drew _ k hk⟩).upd, fun g' hg' => by injection hg' with hg'; subst hg'; exact ⟨_, (heap_alloc_old w.drew _ g (Array.getElem?_eq_some_iff.1 hgg).1).trans hgg⟩⟩
/-! indexes -/
theorem r_ixKo' {x i : Operand} {t el er s g : Nat} {v : Value} {L : List (List Value)} {k : IntKind} {n : Nat} {h0 : Heap} (hT : SlT P t el s) (hx : e.ev x = v) (HO : OwnK h0 er s g v L) (hi : e.ev i = .int k (n : Int)) (hn : n < L.length)
    (H : RL P B st ops rest (e.set d (.pointer (some ⟨g, n * s, none⟩))) h K) : RL P B st ops (⟨some d, .indexAddr t x i, ty, pos, af, none⟩ :: rest) e h K := by
  obtain ⟨cap, cur, rfl, _⟩ := HO
  refine r_ix hT hx hi (by omega) (by omega) ?_
  have he : (⟨g, 0, none⟩ : Addr).add ((n : Int).toNat * s) = ⟨g, n * s, none⟩ := by rw [addr_add]; simp
  rw [he]
  exact H
theorem r_ixC {α : Type} {c : Cod α} {x i : Operand} {t el : Nat} {v : Value} {L : List α} {κ : IntKind} {n : Int} {a : α} {h0 : Heap} (hT : SlT P t el c.k) (hx : e.ev x = v) (HS : SlC c h0 v L) (hi : e.ev i = .int κ n) (ha : gI L n = some a)
    (H : ∀ b o cs, c.rep h0 a cs → (∀ j u, cs[j]? = some u → cellH h0 ⟨b, o + j, none⟩ = some u) → RL P B st ops rest (e.set d (.pointer (some ⟨b, o, none⟩))) h K) : RL P B st ops (⟨some d, .indexAddr t x i, ty, pos, af, none⟩ :: rest) e h K := by
  obtain ⟨m, rfl, hm0⟩ := gI_some ha
  clear ha
  have ha := hm0
  obtain ⟨Ls, ⟨ad, cap, rfl, hc⟩, HA⟩ := HS
  obtain ⟨cs, hcs, hrep⟩ := HA.get ha
  obtain ⟨b, o, rfl, hcu⟩ := hc m cs hcs
  have hn := (List.getElem?_eq_some_iff.1 hcs).1
  refine r_ix hT hx hi (by omega) (by omega) ?_
  have he : (⟨b, o, none⟩ : Addr).add ((m : Int).toNat * c.k) = ⟨b, o + m * c.k, none⟩ := by rw [addr_add]; simp
  rw [he]
  exact H b _ cs hrep hcu
theorem r_ixR {α : Type} {c : Cod α} {x i : Operand} {t el : Nat} {v : Value} {M : List (List α)} {κ : IntKind} {n : Int} {L : List α} {h0 : Heap} (hT : SlT P t el 1) (hx : e.ev x = v) (HS : SlC2 c h0 v M) (hi : e.ev i = .int κ n) (ha : gI M n = some L)
    (H : ∀ b o r, cellH h0 ⟨b, o, none⟩ = some r → SlC c h0 r L → RL P B st ops rest (e.set d (.pointer (some ⟨b, o, none⟩))) h K) : RL P B st ops (⟨some d, .indexAddr t x i, ty, pos, af, none⟩ :: rest) e h K := by
  obtain ⟨m, rfl, hm0⟩ := gI_some ha
  clear ha
  have ha := hm0
  obtain ⟨_, rs, ⟨ad, cap, rfl, hc⟩, hl, HA⟩ := HS
  have hm := (List.getElem?_eq_some_iff.1 ha).1
  obtain ⟨r, hr⟩ : ∃ r, rs[m]? = some r := ⟨rs[m]'(by omega), List.getElem?_eq_getElem _⟩
  obtain ⟨b, o, rfl, hcu⟩ := hc m [r] (by simp [hr])
  refine r_ix hT hx hi (by omega) (by simp; omega) ?_
  have he : (⟨b, o, none⟩ : Addr).add ((m : Int).toNat * 1) = ⟨b, o + m * 1, none⟩ := by rw [addr_add]; simp
  rw [he]
  exact H b _ r (hcu 0 r rfl) (HA m r L hr ha)
theorem ow2_top {α : Type} {c : Cod α} {er el : Nat} {h0 : Heap} {F : List Nat} {Gs : List (List Nat)} {rs : List Value} {v : Value} {M : List (List α)} {n : Nat} {L : List α} (HO : OwC2 c er el h0 F Gs rs v M) (ha : M[n]? = some L) : ∃ b r, F = b :: Gs.flatten ∧ OwnK h0 er 1 b v (rs.map fun r => [r]) ∧ rs[n]? = some r ∧ n < rs.length := by
  rcases HO with ⟨rfl, _⟩ | ⟨b, hF, hn, h2, h3, h4, h5, h6⟩
  · simp at ha
  · have hm := (List.getElem?_eq_some_iff.1 ha).1
    exact ⟨b, rs[n]'(by omega), hF, h2, List.getElem?_eq_getElem _, by omega⟩
/-- A row of an owned matrix: its address, and what lies there. -/
theorem r_ixR2 {α : Type} {c : Cod α} {x i : Operand} {t el0 er el : Nat} {F : List Nat} {Gs : List (List Nat)} {rs : List Value} {v : Value} {M : List (List α)} {κ : IntKind} {n : Int} {L : List α} {h0 : Heap} (hT : SlT P t el0 1) (hx : e.ev x = v) (HO : OwC2 c er el h0 F Gs rs v M) (hi : e.ev i = .int κ n) (ha : gI M n = some L)
    (H : ∀ b r, F = b :: Gs.flatten → rs[n.toNat]? = some r → cellH h0 ⟨b, n.toNat, none⟩ = some r → RL P B st ops rest (e.set d (.pointer (some ⟨b, n.toNat, none⟩))) h K) : RL P B st ops (⟨some d, .indexAddr t x i, ty, pos, af, none⟩ :: rest) e h K := by
  obtain ⟨m, rfl, hm0⟩ := gI_some ha
  clear ha
  have ha := hm0
  obtain ⟨b, r, hF, h2, hr, hm⟩ := ow2_top HO ha
  have hcell := h2.cell (i := m) (j := 0) (r := [r]) (x := r) (by simp [hr]) rfl
  refine r_ixKo' (er := er) (n := m) hT hx h2 hi (by simpa using hm) ?_
  rw [Nat.mul_one]
  rw [Nat.mul_one, Nat.add_zero] at hcell
  exact H b r hF hr hcell
/-- An entry of an owned list. -/
theorem r_ixO {α : Type} {c : Cod α} {x i : Operand} {t el0 el : Nat} {F : List Nat} {v : Value} {L : List α} {κ : IntKind} {n : Int} {a : α} {h0 : Heap} (hT : SlT P t el0 c.k) (hx : e.ev x = v) (HO : OwC c el h0 F v L) (hi : e.ev i = .int κ n) (ha : gI L n = some a)
    (H : ∀ g, F = [g] → RL P B st ops rest (e.set d (.pointer (some ⟨g, n.toNat * c.k, none⟩))) h K) : RL P B st ops (⟨some d, .indexAddr t x i, ty, pos, af, none⟩ :: rest) e h K := by
  obtain ⟨m, rfl, hm0⟩ := gI_some ha
  clear ha
  have ha := hm0
  rcases HO with ⟨rfl, _⟩ | ⟨g, Ls, hF, h2, h3, _⟩
  · simp at ha
  · have hm := (List.getElem?_eq_some_iff.1 ha).1
    exact r_ixKo' (er := el) (n := m) hT hx h2 hi (by rw [h3.1]; exact hm) (H g hF)
theorem OwC.cells {α : Type} {c : Cod α} {el : Nat} {g : Nat} {v : Value} {L : List α} {n : Int} {a : α} {h0 : Heap} {F : List Nat} (HO : OwC c el h0 F v L) (hF : F = [g]) (ha : gI L n = some a) : ∃ cs, c.rep h0 a cs ∧ ∀ j u, cs[j]? = some u → cellH h0 ⟨g, n.toNat * c.k + j, none⟩ = some u := by
  obtain ⟨m, rfl, hm0⟩ := gI_some ha
  clear ha
  have ha := hm0
  rcases HO with ⟨rfl, _⟩ | ⟨g', Ls, hF', h2, h3, _⟩
  · simp at ha
  · rw [hF] at hF'; injection hF' with hg; subst hg
    obtain ⟨cs, hcs, hrep⟩ := h3.get ha
    exact ⟨cs, hrep, fun j u hu => h2.cell hcs hu⟩
/-- An entry of an owned matrix, by its row. -/
theorem r_ixO2 {α : Type} {c : Cod α} {x i : Operand} {t el0 er el : Nat} {F : List Nat} {Gs : List (List Nat)} {rs : List Value} {v r : Value} {M : List (List α)} {κ : IntKind} {m n : Int} {L : List α} {a : α} {h0 : Heap} (hT : SlT P t el0 c.k) (hx : e.ev x = r) (HO : OwC2 c er el h0 F Gs rs v M) (hr : rs[m.toNat]? = some r) (hL : gI M m = some L) (hi : e.ev i = .int κ n) (ha : gI L n = some a)
    (H : ∀ g, Gs[m.toNat]? = some [g] → RL P B st ops rest (e.set d (.pointer (some ⟨g, n.toNat * c.k, none⟩))) h K) : RL P B st ops (⟨some d, .indexAddr t x i, ty, pos, af, none⟩ :: rest) e h K := by
  obtain ⟨q, rfl, hm0⟩ := gI_some hL
  clear hL
  have hL := hm0
  obtain ⟨G, hG, HR, _⟩ := HO.row hr hL
  exact r_ixO hT hx HR hi ha fun g hg => H g (hg ▸ hG)
theorem OwC2.cells {α : Type} {c : Cod α} {er el : Nat} {g : Nat} {F : List Nat} {Gs : List (List Nat)} {rs : List Value} {v : Value} {M : List (List α)} {m n : Int} {L : List α} {a : α} {h0 : Heap} (HO : OwC2 c er el h0 F Gs rs v M) (hG : Gs[m.toNat]? = some [g]) (hL : gI M m = some L) (ha : gI L n = some a) : ∃ cs, c.rep h0 a cs ∧ ∀ j u, cs[j]? = some u → cellH h0 ⟨g, n.toNat * c.k + j, none⟩ = some u := by
  obtain ⟨q, rfl, hm0⟩ := gI_some hL
  clear hL
  have hL := hm0
  obtain ⟨b, r, hF, h2, hr, hm⟩ := ow2_top HO hL
  obtain ⟨G, hG', HR, _⟩ := HO.row hr hL
  rw [Int.toNat_natCast, hG'] at hG
  injection hG with hG; subst hG
  exact HR.cells rfl ha
/-! loads of structs -/
/-! lengths -/
theorem r_lenC {α : Type} {c : Cod α} {x : Operand} {t el s : Nat} {v : Value} {L : List α} {h0 : Heap} (hT : SlT P t el s) (hx : e.ev x = v) (HI : SlC c h0 v L) (H : RL P B st ops rest (e.set d (.int .i64 (L.length : Int))) h K) :
    RL P B st ops (⟨some d, .call ⟨.builtin .len, #[x], #[t]⟩, ty, pos, af, none⟩ :: rest) e h K := by
  obtain ⟨Ls, ⟨a, cap, rfl, _⟩, HA⟩ := HI
  rw [HA.1] at hx
  exact r_len hT hx H
theorem r_lenR {α : Type} {c : Cod α} {x : Operand} {t el s : Nat} {v : Value} {M : List (List α)} {h0 : Heap} (hT : SlT P t el s) (hx : e.ev x = v) (HI : SlC2 c h0 v M) (H : RL P B st ops rest (e.set d (.int .i64 (M.length : Int))) h K) :
    RL P B st ops (⟨some d, .call ⟨.builtin .len, #[x], #[t]⟩, ty, pos, af, none⟩ :: rest) e h K := by
  obtain ⟨_, rs, ⟨a, cap, rfl, _⟩, hl, _⟩ := HI
  rw [List.length_map, hl] at hx
  exact r_len hT hx H
/-! stores -/
/-- What a store of one element does, whatever it is. -/
def StEl (P : Program) (B : Heap → Prop) (st : Bool) (ops : Array Oper) (rest : List Oper) (e : Env) (h : Heap) (K : Env → Heap → Prop) (o : Oper) (el k g n : Nat) (row : List Value) : Prop :=
  ∀ (v : Value) (L : List (List Value)), OwnK h el k g v L → n < L.length → (∀ h', (∀ v' L', OwnK h el k g v' L' → n < L'.length → OwnK h' el k g v' (L'.set n row)) → Upd (· = g) h h' → RL P B st ops rest e h' K) → RL P B st ops (o :: rest) e h K
theorem stEl_na {x y : Operand} {t el g n : Nat} {u : Value} (ht : NaT P t) (hx : e.ev x = .pointer (some ⟨g, n * 1, none⟩)) (hy : e.ev y = u) (h1 : isOne u = true) : StEl P B st ops rest e h K ⟨none, .store t x y, ty, pos, af, none⟩ el 1 g n [u] := by
  intro v L HO hn H
  rw [Nat.mul_one] at hx
  have hl : ∀ v' L', OwnK h el 1 g v' L' → n < L'.length → ∃ x0, L'[n]? = some [x0] := fun v' L' HO' hn' => by
    obtain ⟨_, _, _, _, _, _, _, hk, _⟩ := HO'
    have := hk (L'[n]'hn') (List.getElem_mem _)
    obtain ⟨x0, hx0⟩ := List.length_eq_one_iff.1 this
    exact ⟨x0, by rw [List.getElem?_eq_getElem hn', hx0]⟩
  obtain ⟨x0, hx0⟩ := hl v L HO hn
  have hc := HO.cell hx0 (j := 0) (x := x0) rfl
  rw [Nat.mul_one, Nat.add_zero] at hc
  refine r_st ht hx hy h1 hc (HO.free _) (H _ (fun v' L' HO' hn' => ?_) (upd_set _ _ _))
  obtain ⟨x1, hx1⟩ := hl v' L' HO' hn'
  have := HO'.set (j := 0) u hx1 (by decide)
  rw [Nat.mul_one, Nat.add_zero] at this
  exact this
theorem r_stO {α : Type} {c : Cod α} {o : Oper} {el : Nat} {g : Nat} {F : List Nat} {v : Value} {L : List α} {n : Int} {a a' : α} {cs : List Value} (HS : StEl P B st ops rest e h K o el c.k g n.toNat cs) (HO : OwC c el h F v L) (hF : F = [g]) (ha : gI L n = some a) (hrep : c.rep h a' cs)
    (H : ∀ h', OwC c el h' F v (sI L n a') → UpT F h h' → RL P B st ops rest e h' K) : RL P B st ops (o :: rest) e h K := by
  obtain ⟨m, rfl, hm0⟩ := gI_some ha
  clear ha
  have ha := hm0
  rw [Int.toNat_natCast] at HS
  have hnd := HO.notD
  rcases HO with ⟨rfl, _⟩ | ⟨g', Ls, hF', h2, h3, h4⟩
  · simp at ha
  · rw [hF] at hF'; injection hF' with hg; subst hg
    have hm := (List.getElem?_eq_some_iff.1 ha).1
    refine HS v Ls h2 (by rw [h3.1]; exact hm) fun h' hS hU => ?_
    have h2' := hS v Ls h2 (by rw [h3.1]; exact hm)
    have U : UpT F h h' := upT_of hU (by simp [hF]) (fun b hb _ => hnd b hb) (h2'.notD h4)
    exact H h' (.inr ⟨g, _, hF, h2', (h3.set m hrep).upT U, h4⟩) U
theorem nodup_flat_inj {Gs : List (List Nat)} (hn : Gs.flatten.Nodup) {i j g : Nat} {G : List Nat} (hi : Gs[i]? = some [g]) (hj : Gs[j]? = some G) (hg : g ∈ G) : i = j := by
  by_cases hij : i = j
  · exact hij
  · exact absurd hg (dj_of hn hi hj hij g (by simp))
theorem r_stO2 {α : Type} {c : Cod α} {o : Oper} {er el : Nat} {g : Nat} {F : List Nat} {Gs : List (List Nat)} {rs : List Value} {v : Value} {M : List (List α)} {m n : Int} {L : List α} {a a' : α} {cs : List Value} (HS : StEl P B st ops rest e h K o el c.k g n.toNat cs) (HO : OwC2 c er el h F Gs rs v M) (hG : Gs[m.toNat]? = some [g]) (hL : gI M m = some L) (ha : gI L n = some a) (hrep : c.rep h a' cs)
    (H : ∀ h', OwC2 c er el h' F Gs rs v (sI M m (sI L n a')) → UpT F h h' → RL P B st ops rest e h' K) : RL P B st ops (o :: rest) e h K := by
  obtain ⟨i, rfl, hm0⟩ := gI_some hL
  clear hL
  have hL := hm0
  rw [Int.toNat_natCast] at hG
  have hnd := HO.notD
  obtain ⟨b, r, hFb, hb2, hr, hi⟩ := ow2_top HO hL
  obtain ⟨G, hG', HR, hGF⟩ := HO.row hr hL
  rw [hG] at hG'; injection hG' with hG'; subst hG'
  obtain ⟨j, rfl, ha'⟩ := gI_some ha
  rcases HO with ⟨rfl, _⟩ | ⟨b', hF', hn, h2, h3, h4, h5, h6⟩
  · simp at hL
  rcases HR with ⟨_, _, hF0⟩ | ⟨g', Ls, hF0, hk2, hk3, hk4⟩
  · cases hF0
  injection hF0 with hF0; subst hF0
  have hj := (List.getElem?_eq_some_iff.1 ha').1
  rw [Int.toNat_natCast] at HS
  refine HS r Ls hk2 (by rw [hk3.1]; exact hj) fun h' hS hU => ?_
  have hk2' := hS r Ls hk2 (by rw [hk3.1]; exact hj)
  have U : UpT F h h' := upT_of hU (hGF g (by simp)) (fun b hb _ => hnd b hb) (hk2'.notD hk4)
  have hbg : b' ≠ g := fun he => by
    rw [hF'] at hn
    exact (List.nodup_cons.1 hn).1 (he ▸ mem_flat hG (by simp))
  refine H h' (.inr ⟨b', hF', hn, h2.upd hU hbg, h3, by simp [sI, h4], by simp [sI, h5], fun i' G' r' L' hGi hri hLi => ?_⟩) U
  by_cases hii : i' = i
  · subst hii
    rw [hG] at hGi; injection hGi with hGi; subst hGi
    rw [hr] at hri; injection hri with hri; subst hri
    have : L' = sI L (j : Int) a' := by
      simp only [sI, Int.toNat_natCast] at hLi ⊢
      rw [List.getElem?_set_self (List.getElem?_eq_some_iff.1 hL).1] at hLi
      exact (Option.some.inj hLi).symm
    subst this
    refine .inr ⟨g, _, rfl, hk2', ?_, hk4⟩
    simp only [sI, Int.toNat_natCast]
    exact (hk3.set j hrep).upT U
  · have hLi' : M[i']? = some L' := by
      simp only [sI, Int.toNat_natCast] at hLi
      rwa [List.getElem?_set_ne (fun he => hii he.symm)] at hLi
    have U1 : UpT [g] h h' := upT_of hU (by simp) (fun b hb _ => hnd b (hGF b hb)) (hk2'.notD hk4)
    exact (h6 i' G' r' L' hGi hri hLi').upT U1 fun x hx hxg => by
      rw [List.mem_singleton.1 hxg] at hx
      rw [hF'] at hn
      exact hii (nodup_flat_inj (List.nodup_cons.1 hn).2 hG hGi hx).symm
/-- A row is set: the row is an owned list of its own. -/
theorem r_stR {α : Type} {c : Cod α} {x y : Operand} {t er el : Nat} {F F' : List Nat} {Gs : List (List Nat)} {rs : List Value} {v r' : Value} {M : List (List α)} {n : Int} {L L' : List α} (ht : NaT P t) (HO : OwC2 c er el h F Gs rs v M) (hL : gI M n = some L) {b : Nat} (hF : F = b :: Gs.flatten) (hx : e.ev x = .pointer (some ⟨b, n.toNat, none⟩)) (hy : e.ev y = r') (HR : OwC c el h F' r' L') (hd : ∀ z ∈ F', z ∉ F)
    (H : ∀ h', OwC2 c er el h' (b :: (Gs.set n.toNat F').flatten) (Gs.set n.toNat F') (rs.set n.toNat r') v (sI M n L') → UpT F h h' → (∀ z ∈ b :: (Gs.set n.toNat F').flatten, z ∈ F ++ F') → RL P B st ops rest e h' K) : RL P B st ops (⟨none, .store t x y, ty, pos, af, none⟩ :: rest) e h K := by
  obtain ⟨i, rfl, hm0⟩ := gI_some hL
  clear hL
  have hL := hm0
  simp only [Int.toNat_natCast, sI] at hx H ⊢
  have hnd := HO.notD
  have hlt := HR.lt
  have hi := (List.getElem?_eq_some_iff.1 hL).1
  rcases HO with ⟨rfl, _⟩ | ⟨b', hF', hn, h2, h3, h4, h5, h6⟩
  · simp at hL
  rw [hF] at hF'; injection hF' with hF'; subst hF'
  have hsub : ∀ z ∈ b :: (Gs.set i F').flatten, z ∈ F ++ F' := by
    intro z hz
    rcases List.mem_cons.1 hz with rfl | hz
    · simp [hF]
    · rcases mem_set_flat hz with h7 | ⟨j, G, _, hG, hz⟩
      · simp [h7]
      · rw [hF]; simp only [List.cons_append, List.mem_cons, List.mem_append]; exact .inr (.inl (mem_flat hG hz))
  rw [hF] at hn
  have hnf := List.nodup_cons.1 hn
  refine (stEl_na (n := i) (el := er) (g := b) ht (by rw [Nat.mul_one]; exact hx) hy HR.isOne) v _ h2 (by simpa using (by omega : i < rs.length)) fun h' hS hU => ?_
  have h2' := hS v _ h2 (by simpa using (by omega : i < rs.length))
  have U : UpT F h h' := upT_of hU (by simp [hF]) (fun b hb _ => hnd b hb) (h2'.notD h3)
  have U1 : UpT [b] h h' := upT_of hU (by simp) (fun x hx _ => hnd x (by rw [List.mem_singleton.1 hx, hF]; simp)) (h2'.notD h3)
  refine H h' (.inr ⟨b, rfl, ?_, by rw [List.map_set]; exact h2', h3, by simp [h4], by simp [h5], fun i' G' r2 L2 hGi hri hLi => ?_⟩) U hsub
  · refine List.nodup_cons.2 ⟨fun hz => ?_, nodup_set_flat hnf.2 HR.nodup fun z hz j G _ hG hzG => ?_⟩
    · rcases mem_set_flat hz with h7 | ⟨j, G, _, hG, hz⟩
      · exact hd b h7 (by rw [hF]; simp)
      · exact hnf.1 (mem_flat hG hz)
    · exact hd z hz (by rw [hF]; exact List.mem_cons_of_mem _ (mem_flat hG hzG))
  · by_cases hii : i' = i
    · subst hii
      rw [List.getElem?_set_self (by omega)] at hGi hri hLi
      injection hGi with hGi; injection hri with hri; injection hLi with hLi
      subst hGi; subst hri; subst hLi
      exact HR.upT U hd
    · rw [List.getElem?_set_ne (fun he => hii he.symm)] at hGi hri hLi
      exact (h6 i' G' r2 L2 hGi hri hLi).upT U1 fun z hz hzb => by
        rw [List.mem_singleton.1 hzb] at hz
        exact hnf.1 (mem_flat hGi hz)
/-! new lists -/
theorem r_mkC1 {α : Type} {c : Cod α} {x y : Operand} {t el bytes : Nat} {n : Int} {z : Value} {a : α} (hT : SlT P t el 1) (hz : ZeT P el z bytes) (h1 : isOne z = true) (hk : c.k = 1) (hrep : ∀ h, c.rep h a [z]) (hel : Nat.beq el 69 = false) (hb : B h) (hBE : ∀ h', Ext h h' → B h') (hx : e.ev x = .int .i64 n) (hy : e.ev y = .int .i64 n) (hby : bytes ≤ 1000) (hn : 0 ≤ n ∧ n ≤ 100000000)
    (H : ∀ b v h', OwC c el h' [b] v (List.replicate n.toNat a) → Ext h h' → h.size ≤ b → b < h'.size → RL P B st ops rest (e.set d v) h' K) :
    RL P B st ops (⟨some d, .makeSlice t x y, ty, pos, af, none⟩ :: rest) e h K := by
  obtain ⟨m, rfl⟩ : ∃ m : Nat, n = m := ⟨n.toNat, by omega⟩
  have h2 : bytes * m ≤ 1000 * 100000000 := Nat.mul_le_mul hby (by omega)
  refine r_mk hT hz h1 hb hx hy (by omega) (by omega) ⟨hBE _ (ext_push _ _), ?_⟩
  rw [Int.toNat_natCast] at H
  refine H h.size _ _ (.inr ⟨h.size, _, rfl, by rw [hk]; exact ownK_of (ownA_new h el m z (by unfold maxLen; omega)), ?_, hel⟩) (ext_push _ _) (Nat.le_refl _) (by simp)
  rw [List.map_replicate]; exact al_rep (hrep _) m
theorem r_mkR {α : Type} (c : Cod α) (el : Nat) {x y : Operand} {t er bytes : Nat} {n : Int} (hT : SlT P t er 1) (hz : ZeT P er (.slice none 0 0) bytes) (her : Nat.beq er 69 = false) (hb : B h) (hBE : ∀ h', Ext h h' → B h') (hx : e.ev x = .int .i64 n) (hy : e.ev y = .int .i64 n) (hby : bytes ≤ 1000) (hn : 0 ≤ n ∧ n ≤ 100000000)
    (H : ∀ F Gs rs v h', OwC2 c er el h' F Gs rs v (List.replicate n.toNat []) → Ext h h' → Sp h' h.size [F] → RL P B st ops rest (e.set d v) h' K) :
    RL P B st ops (⟨some d, .makeSlice t x y, ty, pos, af, none⟩ :: rest) e h K := by
  obtain ⟨m, rfl⟩ : ∃ m : Nat, n = m := ⟨n.toNat, by omega⟩
  rw [Int.toNat_natCast] at H
  have h2 : bytes * m ≤ 1000 * 100000000 := Nat.mul_le_mul hby (by omega)
  refine r_mk hT hz rfl hb hx hy (by omega) (by omega) ⟨hBE _ (ext_push _ _), ?_⟩
  have hf : (List.replicate m ([] : List Nat)).flatten = [] := by induction m <;> simp_all [List.replicate_succ]
  refine H [h.size] (List.replicate m []) (List.replicate m (.slice none 0 0)) _ _ (.inr ⟨h.size, by rw [hf], by simp, ownK_of (ownA_new h er m _ (by unfold maxLen; omega)), her, by simp, by simp, fun i G r L hG hr hL => .inl ⟨?_, ?_, ?_⟩⟩) (ext_push _ _) (sp_one (Nat.le_refl _) (by simp))
  · exact List.eq_of_mem_replicate (List.mem_of_getElem? hL)
  · exact List.eq_of_mem_replicate (List.mem_of_getElem? hr)
  · exact List.eq_of_mem_replicate (List.mem_of_getElem? hG)
/-! lists that grow -/
/-- 'out = append(out, row)': the row is an owned list of its own and becomes part of the matrix. -/
theorem r_pushR {α : Type} {c : Cod α} {s y : Operand} {t er el bytes : Nat} {z v r : Value} {F F0 : List Nat} {Gs : List (List Nat)} {rs : List Value} {M : List (List α)} {L : List α} (hT : SlT P t er 1) (hz : ZeT P er z bytes) (hzk : z.cells.size = 1) (her : Nat.beq er 69 = false) (hb0 : B h) (hbB : ∀ h', UpT F h h' → B h') (hs : ∀ p, (e.set d p).ev s = v) (hy : e.ev y = r) (HR : OwC c el h F0 r L) (HO : OwC2 c er el h F Gs rs v M) (hdj : ∀ x ∈ F0, x ∉ F) (hby : bytes ≤ 1000) (hl : M.length ≤ 100000000)
    (H : ∀ p F' v' h', OwC2 c er el h' F' (Gs ++ [F0]) (rs ++ [r]) v' (M ++ [L]) → UpT F h h' → (∀ x ∈ F', x ∈ F ++ F0 ∨ h.size ≤ x) → RL P B st ops rest ((e.set d p).set d' v') h' K) :
    RL P B st ops (⟨some d, .buildSlice t 1 #[(0, y)], ty, pos, af, none⟩ :: ⟨some d', .call ⟨.builtin .append, #[s, .tmp d], #[t, t]⟩, ty', pos', af', none⟩ :: rest) e h K := by
  have hnd := HO.notD
  have hnd0 := HR.notD
  have hlt0 := HR.lt
  have hlt := HO.lt
  have hG : ∃ bs : List Nat, GroK h er 1 0 v (rs.map fun r => [r]) ∧ F = bs ++ Gs.flatten ∧ (∀ x, v.ownBlock = some x → bs = [x]) ∧ (∀ x ∈ bs, v.ownBlock = some x) ∧ rs.length = M.length ∧ Gs.length = M.length ∧ F.Nodup ∧ ∀ (i : Nat) (G : List Nat) (r : Value) (L : List α), Gs[i]? = some G → rs[i]? = some r → M[i]? = some L → OwC c el h G r L := by
    rcases HO with ⟨rfl, rfl, rfl, rfl, rfl⟩ | ⟨b, rfl, hn, h2, h3, h4, h5, h6⟩
    · exact ⟨[], .inl ⟨rfl, rfl⟩, rfl, (fun x hx => by cases hx), (fun x hx => by simp at hx), rfl, rfl, by simp, (fun i G r L hG => by simp at hG)⟩
    · exact ⟨[b], .inr ⟨b, Nat.zero_le _, h2⟩, rfl, fun x hx => by rw [h2.blk] at hx; injection hx with hx; rw [hx], fun x hx => by rw [List.mem_singleton.1 hx]; exact h2.blk, h4, h5, hn, h6⟩
  obtain ⟨bs, HG, hF, hFb, hbF, h4, h5, hn, h6⟩ := hG
  have key : ∀ h', PU er v h h' → UpT bs h h' := fun h' U => ⟨⟨U.1.1, fun k hk hkF => U.1.2 k hk fun hv => hkF (by rw [hFb k hv]; simp)⟩, fun x hx hl => ⟨hnd x (by rw [hF]; simp [hx]), by
    obtain ⟨cur, hc⟩ := U.2 x (hbF x hx)
    exact ⟨_, hc, her⟩⟩⟩
  have keyF : ∀ h', UpT bs h h' → UpT F h h' := fun h' U => U.mono (fun x hx => by rw [hF]; simp [hx]) fun x hx _ => hnd x hx
  have hone := HR.isOne
  have hvc : r.cells = [r].toArray := by cases r <;> first | rfl | cases hone
  refine r_pushV (B := B) (lo := 0) [r] hT hz hzk hb0 (fun h' U => hbB h' (keyF h' (key h' U))) hs hy hvc rfl (fun x hx => by rw [List.mem_singleton.1 hx]; exact hone) (by decide) (by decide) HG (Nat.zero_le _) hby (by rw [List.length_map, h4]; exact hl) fun p v' h' HG' U hv' => ?_
  have UT := key h' U
  rcases HG' with ⟨h1, _⟩ | ⟨b', _, HO'⟩
  · simp at h1
  have hsub : b' ∈ F ∨ h.size ≤ b' := by
    rcases hv' with h1 | ⟨g2, h1, h2⟩
    · have := hFb b' (h1 ▸ HO'.blk)
      rw [this] at hF
      exact .inl (by rw [hF]; simp)
    · rw [HO'.blk] at h1
      injection h1 with h1
      exact .inr (by omega)
  have hbG : b' ∉ Gs.flatten := fun hm => by
    rcases hv' with h1 | ⟨g2, h1, h2⟩
    · have := hFb b' (h1 ▸ HO'.blk)
      rw [hF, this] at hn
      exact (List.nodup_cons.1 hn).1 hm
    · rw [HO'.blk] at h1
      injection h1 with h1
      have := hlt b' (by rw [hF]; simp [hm])
      omega
  have hbF0 : b' ∉ F0 := fun hm => by
    rcases hsub with h1 | h1
    · exact hdj b' hm h1
    · have := hlt0 b' hm; omega
  have hnG : Gs.flatten.Nodup := by rw [hF] at hn; exact (List.nodup_append.1 hn).2.1
  refine H p (b' :: (Gs ++ [F0]).flatten) v' h' (.inr ⟨b', rfl, ?_, by rw [List.map_append]; exact HO', her, by simp [h4], by simp [h5], fun i G r2 L2 hGi hri hLi => ?_⟩) (keyF h' UT) fun x hx => ?_
  · refine List.nodup_cons.2 ⟨by simp [hbG, hbF0], ?_⟩
    simp only [List.flatten_append, List.flatten_cons, List.flatten_nil, List.append_nil]
    exact List.nodup_append.2 ⟨hnG, HR.nodup, fun x hx y hy he => hdj y hy (by rw [hF]; simp [he ▸ hx])⟩
  · rcases Nat.lt_or_ge i M.length with hi | hi
    · rw [List.getElem?_append_left (by omega)] at hGi hri hLi
      exact (h6 i G r2 L2 hGi hri hLi).upT UT fun x hx hxb => by
        have hxo := hbF x hxb
        have hb1 := hFb x hxo
        rw [hF, hb1] at hn
        exact (List.nodup_cons.1 hn).1 (mem_flat hGi hx)
    · rw [List.getElem?_append_right (by omega)] at hGi hri hLi
      have : i - M.length = 0 := by have := (List.getElem?_eq_some_iff.1 hLi).1; simp at this; omega
      rw [show i - Gs.length = 0 by omega] at hGi
      rw [show i - rs.length = 0 by omega] at hri
      rw [this] at hLi
      injection hGi with hGi; injection hri with hri; injection hLi with hLi
      subst hGi; subst hri; subst hLi
      exact HR.upT UT fun x hx hxb => hdj x hx (by rw [hF]; simp [hxb])
  · simp only [List.flatten_append, List.flatten_cons, List.flatten_nil, List.append_nil, List.mem_cons, List.mem_append] at hx
    rcases hx with rfl | hx | hx
    · rcases hsub with h1 | h1
      · exact .inl (by simp [h1])
      · exact .inr h1
    · exact .inl (by rw [hF]; simp [hx])
    · exact .inl (by simp [hx])
/-! new variables -/
theorem r_boxE {x : Operand} {t : Nat} {v : Value} (l : List Value) (hb : B h) (hBE : ∀ h', Ext h h' → B h') (hx : e.ev x = v) (hl : v.cells = l.toArray) (H : ∀ b h', BoxH t h' b l → Ext h h' → Sp h' h.size [[b]] → RL P B st ops rest (e.set d (.pointer (some ⟨b, 0, none⟩))) h' K) :
    RL P B st ops (⟨some d, .box t x, ty, pos, af, none⟩ :: rest) e h K := by
  refine r_box hb hx ⟨hBE _ (ext_push _ _), ?_⟩
  exact H h.size _ (by unfold BoxH; rw [hl]; simp) (ext_push _ _) (sp_one (Nat.le_refl _) (by simp))
theorem r_allocE {t bytes : Nat} {z : Value} (l : List Value) (hz : ZeT P t z bytes) (hl : z.cells = l.toArray) (hb : B h) (hBE : ∀ h', Ext h h' → B h') (H : ∀ b h', BoxH t h' b l → Ext h h' → Sp h' h.size [[b]] → RL P B st ops rest (e.set d (.pointer (some ⟨b, 0, none⟩))) h' K) :
    RL P B st ops (⟨some d, .alloc t, ty, pos, af, none⟩ :: rest) e h K := by
  refine r_alloc hz hb ⟨hBE _ (ext_push _ _), ?_⟩
  exact H h.size _ (by unfold BoxH; rw [hl]; simp) (ext_push _ _) (sp_one (Nat.le_refl _) (by simp))
/-- A call, whatever the family of heaps. -/
theorem r_callE {f : FuncId} {xs : List Operand} {ts : Array TypeId} {l : List Value} {K' : Value → Heap → Prop} (hb : B h) (hBE : ∀ h', Ext h h' → B h') (hxs : xs.map e.ev = l) (HC : CallH P f l.toArray h fun x h' => Ext h h' ∧ K' x h')
    (H : ∀ v h', Ext h h' → K' v h' → RL P B st ops rest (e.set d v) h' K) : RL P B st ops (⟨some d, .call ⟨.value (.func f), xs.toArray, ts⟩, ty, pos, af, none⟩ :: rest) e h K :=
  r_call hb hxs HC fun v h' hk => ⟨hBE _ hk.1, H v h' hk.1 hk.2⟩
end
end Go.QF
/-
  More types of this program, as the rules ask of them: closed facts. No condition.
-/
namespace Go.Proofs.YtiegjkmfpcgjjaaDoor
open Go Go.QF
theorem na_MM : NaT Tryd.prog 22 := naT_mk Tryd.underlying22 rfl (by kernel_rfl)
theorem un_bool : Tryd.prog.underlying 4 = some .bool := Tryd.underlying4
end Go.Proofs.YtiegjkmfpcgjjaaDoor
/-
  Small rules for the automatic walks. No condition.
-/
namespace Go.QF
open Go
theorem cmp_lss (a b : Int) : cmpI .lss a b = some (decide (a < b)) := rfl
theorem cmp_leq (a b : Int) : cmpI .leq a b = some (decide (a ≤ b)) := rfl
theorem cmp_gtr (a b : Int) : cmpI .gtr a b = some (decide (b < a)) := rfl
theorem cmp_geq (a b : Int) : cmpI .geq a b = some (decide (b ≤ a)) := rfl
theorem cmp_eql (a b : Int) : cmpI .eql a b = some (decide (a = b)) := by
  show some _ = some _
  rw [show (a == b) = decide (a = b) from by rw [Bool.eq_iff_iff]; simp]
theorem cmp_neq (a b : Int) : cmpI .neq a b = some (decide (¬ a = b)) := by
  show some (a != b) = some _
  rw [show (a != b) = decide (¬ a = b) from by rw [Bool.eq_iff_iff]; simp]
def swp (i j k : Nat) : Nat := if k = i then j else if k = j then i else k
theorem swp_inj {i j k l : Nat} (h : swp i j k = swp i j l) : k = l := by
  unfold swp at h
  split at h <;> split at h <;> (try split at h) <;> (try split at h) <;> omega
theorem get_swap {β : Type} {L : List β} {i j : Nat} {a b : β} (ha : L[i]? = some a) (hb : L[j]? = some b) (k : Nat) : ((L.set i b).set j a)[k]? = L[swp i j k]? := by
  have hi := (List.getElem?_eq_some_iff.1 ha).1
  have hj := (List.getElem?_eq_some_iff.1 hb).1
  unfold swp
  by_cases h1 : k = j
  · subst h1
    rw [List.getElem?_set_self (by rw [List.length_set]; exact hj)]
    by_cases h2 : k = i
    · subst h2; rw [if_pos rfl]; rw [← ha]
    · rw [if_neg h2, if_pos rfl, ha]
  · rw [List.getElem?_set_ne (fun h => h1 h.symm)]
    by_cases h2 : k = i
    · subst h2; rw [List.getElem?_set_self hi, if_pos rfl, hb]
    · rw [List.getElem?_set_ne (fun h => h2 h.symm), if_neg h2, if_neg h1]
theorem nodup_of_dj : ∀ {Gs : List (List Nat)}, (∀ (i : Nat) (G : List Nat), Gs[i]? = some G → G.Nodup) → (∀ (i j : Nat) (G H : List Nat), i ≠ j → Gs[i]? = some G → Gs[j]? = some H → ∀ x ∈ G, x ∉ H) → Gs.flatten.Nodup := by
  intro Gs
  induction Gs with
  | nil => intro _ _; simp
  | cons G Gs ih =>
    intro h1 h2
    rw [List.flatten_cons]
    refine List.nodup_append.2 ⟨h1 0 G rfl, ih (fun i H hi => h1 (i + 1) H (by simpa using hi)) (fun i j A B hij hA hB => h2 (i + 1) (j + 1) A B (by omega) (by simpa using hA) (by simpa using hB)), fun x hx y hy he => ?_⟩
    obtain ⟨H, hH, hyH⟩ := List.mem_flatten.1 hy
    obtain ⟨j, hj⟩ := List.getElem?_of_mem hH
    exact h2 0 (j + 1) G H (by omega) rfl (by simpa using hj) x hx (he ▸ hyH)
section
variable {P : Program} {B : Heap → Prop} {st : Bool} {ops : Array Oper} {rest : List Oper} {e : Env} {h : Heap} {K : Env → Heap → Prop}
variable {d d' d2 : Nat} {ty ty' ty2 ty3 : TypeId} {pos pos' pos2 pos3 : String} {af af' af2 af3 : Array Edge}
/-- Two rows change places: 'm[i], m[j] = m[j], m[i]'. -/
theorem r_swapRows {α : Type} {c : Cod α} {x1 x2 y1 y2 i1 i2 : Operand} {er er0 el tr tl : Nat} {v r1 r2 : Value} {κ1 κ2 : IntKind} {n1 n2 : Int} {F : List Nat} {Gs : List (List Nat)} {rs : List Value} {M : List (List α)} {L1 L2 : List α} (hTr : SlT P tr er0 1) (htl : NaT P tl) (HO : OwC2 c er el h F Gs rs v M) (hr1 : rs[n1.toNat]? = some r1) (hr2 : rs[n2.toNat]? = some r2) (hL1 : gI M n1 = some L1) (hL2 : gI M n2 = some L2)
    (hx1 : e.ev x1 = v) (hi1 : e.ev i1 = .int κ1 n1) (hy1 : ∀ p, (e.set d p).ev y1 = r2) (hx2 : ∀ p, (e.set d p).ev x2 = v) (hi2 : ∀ p, (e.set d p).ev i2 = .int κ2 n2) (hy2 : ∀ p q, ((e.set d p).set d' q).ev y2 = r1)
    (H : ∀ p q F' Gs' rs' h', OwC2 c er el h' F' Gs' rs' v (sI (sI M n1 L2) n2 L1) → UpT F h h' → (∀ x ∈ F', x ∈ F ∨ h.size ≤ x) → RL P B st ops rest ((e.set d p).set d' q) h' K) :
    RL P B st ops (⟨some d, .indexAddr tr x1 i1, ty, pos, af, none⟩ :: ⟨none, .store tl (.tmp d) y1, ty', pos', af', none⟩ :: ⟨some d', .indexAddr tr x2 i2, ty2, pos2, af2, none⟩ :: ⟨none, .store tl (.tmp d') y2, ty3, pos3, af3, none⟩ :: rest) e h K := by
  obtain ⟨m1, rfl, hM1⟩ := gI_some hL1
  obtain ⟨m2, rfl, hM2⟩ := gI_some hL2
  rw [Int.toNat_natCast] at hr1 hr2
  have hnd := HO.notD
  have hlt := HO.lt
  have hn := HO.nodup
  have hm1 := (List.getElem?_eq_some_iff.1 hM1).1
  have hm2 := (List.getElem?_eq_some_iff.1 hM2).1
  obtain ⟨G1, hG1, HR1, hGF1⟩ := HO.row hr1 hM1
  obtain ⟨G2, hG2, HR2, hGF2⟩ := HO.row hr2 hM2
  rcases HO with ⟨rfl, _⟩ | ⟨b, hF, _, h2, h3, h4, h5, h6⟩
  · simp at hM1
  rw [hF] at hn
  have hnf := List.nodup_cons.1 hn
  refine r_ixKo' (er := er) (n := m1) hTr hx1 h2 hi1 (by rw [List.length_map]; omega) ?_
  rw [Nat.mul_one]
  refine (stEl_na (n := m1) (el := er) (g := b) htl (by rw [Nat.mul_one]; exact Env.set_same _ _ _) (hy1 _) HR2.isOne) v _ h2 (by rw [List.length_map]; omega) fun h1 hS1 hU1 => ?_
  have h21 := hS1 v _ h2 (by rw [List.length_map]; omega)
  refine r_ixKo' (er := er) (n := m2) hTr (hx2 _) h21 (hi2 _) (by rw [List.length_set, List.length_map]; omega) ?_
  rw [Nat.mul_one]
  refine (stEl_na (n := m2) (el := er) (g := b) htl (by rw [Nat.mul_one]; exact Env.set_same _ _ _) (hy2 _ _) HR1.isOne) v _ h21 (by rw [List.length_set, List.length_map]; omega) fun h' hS2 hU2 => ?_
  have h22 := hS2 v _ h21 (by rw [List.length_set, List.length_map]; omega)
  have N1 : UpT [b] h h1 := upT_of hU1 (by simp) (fun x hx _ => hnd x (by rw [List.mem_singleton.1 hx, hF]; simp)) (h21.notD h3)
  have N2 : UpT [b] h1 h' := upT_of hU2 (by simp) (fun x hx hl => ((hnd x (by rw [List.mem_singleton.1 hx, hF]; simp))).of N1) (h22.notD h3)
  have N : UpT [b] h h' := N1.then N2 fun x hx => .inl hx
  have UF : UpT F h h' := N.mono (fun x hx => by rw [List.mem_singleton.1 hx, hF]; simp) fun x hx _ => hnd x hx
  have gG := fun k => get_swap (L := Gs) hG1 hG2 k
  have gR := fun k => get_swap (L := rs) hr1 hr2 k
  have gM := fun k => get_swap (L := M) hM1 hM2 k
  have hsub : ∀ x ∈ b :: ((Gs.set m1 G2).set m2 G1).flatten, x ∈ F := by
    intro z hz
    rw [hF]
    rcases List.mem_cons.1 hz with rfl | hz
    · simp
    · obtain ⟨G, hG, hzG⟩ := List.mem_flatten.1 hz
      obtain ⟨k, hk⟩ := List.getElem?_of_mem hG
      rw [gG] at hk
      exact List.mem_cons_of_mem _ (mem_flat hk hzG)
  refine H _ _ (b :: ((Gs.set m1 G2).set m2 G1).flatten) ((Gs.set m1 G2).set m2 G1) ((rs.set m1 r2).set m2 r1) h' (.inr ⟨b, rfl, ?_, ?_, h3, by simp [sI, h4], by simp [sI, h5], fun k G r L hG hr hL => ?_⟩) UF fun x hx => .inl (hsub x hx)
  · refine List.nodup_cons.2 ⟨fun hz => ?_, nodup_of_dj (fun k G hk => ?_) fun k l G G' hkl hk hl x hx hx' => ?_⟩
    · obtain ⟨G, hG, hzG⟩ := List.mem_flatten.1 hz
      obtain ⟨k, hk⟩ := List.getElem?_of_mem hG
      rw [gG] at hk
      exact hnf.1 (mem_flat hk hzG)
    · rw [gG] at hk
      have hkl := (List.getElem?_eq_some_iff.1 hk).1
      exact (h6 _ G (rs[swp m1 m2 k]'(by omega)) (M[swp m1 m2 k]'(by omega)) hk (List.getElem?_eq_getElem _) (List.getElem?_eq_getElem _)).nodup
    · rw [gG] at hk hl
      exact dj_of hnf.2 hk hl (fun he => hkl (swp_inj he)) x hx hx'
  · have : (((rs.set m1 r2).set m2 r1).map fun r => [r]) = ((rs.map fun r => [r]).set m1 [r2]).set m2 [r1] := by rw [List.map_set, List.map_set]
    rw [this]; exact h22
  · simp only [sI, Int.toNat_natCast] at hL
    rw [gG] at hG
    rw [gR] at hr
    rw [gM] at hL
    exact (h6 _ G r L hG hr hL).upT N fun x hx hxb => by
      rw [List.mem_singleton.1 hxb] at hx
      exact hnf.1 (mem_flat hG hx)
end
/-- Ints of at most 99 digits. -/
def bigZ : Nat := 4294967296 ^ 99
end Go.QF
/-
  More rules by codecs: rows that are copied, lists written out, boxes of slices. No condition.
-/
namespace Go.QF
open Go
set_option linter.unusedVariables false
set_option linter.unusedSimpArgs false
section
variable {P : Program} {B : Heap → Prop} {st : Bool} {ops : Array Oper} {rest : List Oper} {e : Env} {h : Heap} {K : Env → Heap → Prop} {d : Nat} {ty : TypeId} {pos : String} {af : Array Edge}
theorem r_litI {κ : IntKind} {t el bytes n : Nat} {z : Value} {parts : List (Nat × Operand)} (L : List Int) (hT : SlT P t el 1) (hz : ZeT P el z bytes) (h1 : isOne z = true) (hel : Nat.beq el 69 = false) (hb : B h) (hBE : ∀ h', Ext h h' → B h') (hn : L.length = n) (hn2 : Nat.ble n 16777216 = true) (hpos : Nat.ble 1 n = true) (hp : (parts.map fun (i, x) => (i, e.ev x)) = partsOf 0 (L.map (.int κ)))
    (H : ∀ b v h', OwC (cI κ) el h' [b] v L → Ext h h' → h.size ≤ b → b < h'.size → RL P B st ops rest (e.set d v) h' K) : RL P B st ops (⟨some d, .buildSlice t n parts.toArray, ty, pos, af, none⟩ :: rest) e h K := by
  have hn2 := Nat.le_of_ble_eq_true hn2
  have E : Ext h (h.push (.cells (L.map (Value.int κ)).toArray el (0, 0))) := ext_push _ _
  refine r_bs (L.map (.int κ)) hT hz h1 hb (by rw [List.length_map]; exact hn) hn2 (Nat.le_of_ble_eq_true hpos) hp (fun u hu => ?_) ⟨hBE _ E, H h.size _ _ (.inr ⟨h.size, L.map fun a => [.int κ a], rfl, ⟨n, (L.map (Value.int κ)).toArray, by rw [List.length_map, hn], by simp, by simp [hn], by unfold maxLen; omega, by show _ = n * 1; simp [hn], fun r hr => ?_, ?_⟩, ⟨by simp, fun i cs a h1 h2 => ?_⟩, hel⟩) E (Nat.le_refl _) (by simp)⟩
  · obtain ⟨a, _, rfl⟩ := List.mem_map.1 hu; rfl
  · obtain ⟨a, _, rfl⟩ := List.mem_map.1 hr; rfl
  · have : (L.map fun a => [Value.int κ a]).flatten = L.map (Value.int κ) := by
      clear H E hp hn hn2
      induction L with
      | nil => rfl
      | cons a L ih => simp [ih]
    rw [this, List.take_of_length_le (by show _ ≤ _ * 1; simp)]
  · rw [List.getElem?_map, h2] at h1
    injection h1 with h1
    exact h1.symm
end
end Go.QF
/-
  Regions in which new variables float: the rules. No condition.
-/
namespace Go.QF
open Go
set_option linter.unusedVariables false
set_option linter.unusedSimpArgs false
section
variable {P : Program} {ops : Array Oper} {B : Heap → Prop}
variable {Q : Exit → Env → Heap → Prop} {e : Env} {h : Heap}
/-! ### rules -/
variable {K : Env → Heap → (Nat → Prop) → Prop} {N : Nat → Prop}
theorem sp_two {h h' : Heap} {b d : Nat} (h1 : h.size ≤ b) (h2 : h.size ≤ d) (h3 : b < h'.size) (h4 : d < h'.size) (hne : b ≠ d) : Sp h' h.size [[b], [d]] := ⟨by simp [hne], fun x hx => by simp at hx; omega⟩
end
end Go.QF
/-
  What holds of the heap in one fact: the later heap, the variables and lists that the call owns, what they hold, and the numbers that were read. No condition.
-/
namespace Go.Proofs.YtiegjkmfpcgjjaaDoor
open Go Go.QF
set_option linter.unusedVariables false
set_option linter.unusedSimpArgs false
set_option maxRecDepth 100000
/-- a fact of the heap that lasts while its blocks are not written to -/
structure Asr where
  F : List Nat
  P : Heap → Prop
  up : ∀ {G : List Nat} {h h' : Heap}, UpT G h h' → (∀ b ∈ F, b ∉ G) → P h → P h'
def aB (t b : Nat) (l : List Value) : Asr := ⟨[b], fun h => BoxH t h b l, fun U d H => H.upT U d⟩
def aO {α : Type} (c : Cod α) (el : Nat) (F : List Nat) (v : Value) (x : List α) : Asr := ⟨F, fun h => OwC c el h F v x, fun U d H => H.upT U d⟩
def aO2 {α : Type} (c : Cod α) (er el : Nat) (F : List Nat) (Gs : List (List Nat)) (rs : List Value) (v : Value) (x : List (List α)) : Asr := ⟨F, fun h => OwC2 c er el h F Gs rs v x, fun U d H => H.upT U d⟩
def aC (p : Prop) : Asr := ⟨[], fun _ => p, fun _ _ H => H⟩
def allP (h : Heap) : List Asr → Prop
  | [] => True
  | a :: l => a.P h ∧ allP h l
def fps : List Asr → List (List Nat)
  | [] => []
  | a :: l => a.F :: fps l
def nthA : List Asr → Nat → Asr
  | [], _ => aC True
  | a :: _, 0 => a
  | _ :: l, i + 1 => nthA l i
def selA (l : List Asr) : List Nat → List Asr
  | [] => []
  | i :: is => nthA l i :: selA l is
theorem fps_app (l m : List Asr) : fps (l ++ m) = fps l ++ fps m := by
  induction l with
  | nil => rfl
  | cons a l ih => simp [fps, ih]
theorem fps_get {l : List Asr} {i : Nat} {a : Asr} (h : l[i]? = some a) : (fps l)[i]? = some a.F := by
  induction l generalizing i with
  | nil => simp at h
  | cons b l ih =>
    cases i with
    | zero => simp at h; subst h; rfl
    | succ i => exact ih (by simpa using h)
theorem fps_set {l : List Asr} {i : Nat} {a : Asr} : fps (l.set i a) = (fps l).set i a.F := by
  induction l generalizing i with
  | nil => rfl
  | cons b l ih =>
    cases i with
    | zero => rfl
    | succ i => simp [fps, ih]
theorem fps_nth (l : List Asr) (i : Nat) : (nthA l i).F = ((fps l)[i]?).getD [] := by
  induction l generalizing i with
  | nil => rfl
  | cons a l ih =>
    cases i with
    | zero => rfl
    | succ i => exact ih i
theorem fps_sel (l : List Asr) (is : List Nat) : fps (selA l is) = is.map fun i => ((fps l)[i]?).getD [] := by
  induction is with
  | nil => rfl
  | cons i is ih => simp [selA, fps, ih, fps_nth]
theorem allP_get {h : Heap} {l : List Asr} (H : allP h l) {i : Nat} {a : Asr} (e : l[i]? = some a) : a.P h := by
  induction l generalizing i with
  | nil => simp at e
  | cons b l ih =>
    cases i with
    | zero => simp at e; subst e; exact H.1
    | succ i => exact ih H.2 (by simpa using e)
theorem allP_nth {h : Heap} {l : List Asr} (H : allP h l) (i : Nat) : (nthA l i).P h := by
  induction l generalizing i with
  | nil => exact trivial
  | cons b l ih =>
    cases i with
    | zero => exact H.1
    | succ i => exact ih H.2 i
theorem allP_app {h : Heap} {l m : List Asr} (H : allP h l) (K : allP h m) : allP h (l ++ m) := by
  induction l with
  | nil => exact K
  | cons b l ih => exact ⟨H.1, ih H.2⟩
theorem allP_up {h h' : Heap} {l : List Asr} {G : List Nat} (H : allP h l) (U : UpT G h h') (d : ∀ F ∈ fps l, ∀ b ∈ F, b ∉ G) : allP h' l := by
  induction l with
  | nil => exact trivial
  | cons b l ih => exact ⟨b.up U (d _ (by simp [fps])) H.1, ih H.2 fun F hF => d F (by simp [fps, hF])⟩
theorem allP_set {h h' : Heap} {l : List Asr} {i : Nat} {a a' : Asr} {lo : Nat} (H : allP h l) (S : Sp h lo (fps l)) (e : l[i]? = some a) (U : UpT a.F h h') (Ha : a'.P h') : allP h' (l.set i a') := by
  have key : ∀ (m : List Asr) (q : Nat), (∀ j x, m[j]? = some x → j ≠ q → ∀ b ∈ x.F, b ∉ a.F) → allP h m → allP h' (m.set q a') := by
    intro m
    induction m with
    | nil => intro q _ _; exact trivial
    | cons x m ih =>
      intro q hd hm
      cases q with
      | zero =>
        refine ⟨Ha, allP_up hm.2 U fun F hF b hb => ?_⟩
        have : ∃ (j : Nat) (y : Asr), m[j]? = some y ∧ y.F = F := by
          clear ih hd hm e
          induction m with
          | nil => simp [fps] at hF
          | cons y m ih =>
            simp only [fps, List.mem_cons] at hF
            rcases hF with rfl | hF
            · exact ⟨0, y, rfl, rfl⟩
            · obtain ⟨j, z, h1, h2⟩ := ih hF
              exact ⟨j + 1, z, by simpa using h1, h2⟩
        obtain ⟨j, y, h1, rfl⟩ := this
        exact hd (j + 1) y (by simpa using h1) (by omega) b hb
      | succ q =>
        refine ⟨x.up U (hd 0 x rfl (by omega)) hm.1, ih q (fun j y hj hn => hd (j + 1) y (by simpa using hj) (by omega)) hm.2⟩
  exact key l i (fun j x hj hn => S.dj j i (fps_get hj) (fps_get e) hn) H
theorem allP_triv {h : Heap} {l : List Asr} (H : allP h l) (j : Nat) : allP h (l.set j (aC True)) := by
  induction l generalizing j with
  | nil => exact trivial
  | cons a l ih =>
    cases j with
    | zero => exact ⟨trivial, H.2⟩
    | succ j => exact ⟨H.1, ih H.2 j⟩
theorem _root_.Go.QF.Sp.appF {h h' : Heap} {lo : Nat} {Fs Ks : List (List Nat)} (S : Sp h lo Fs) (S' : Sp h' h.size Ks) (hs : h.size ≤ h'.size) (hl : lo ≤ h.size) : Sp h' lo (Ks ++ Fs) := by
  have A := S.app S' hs hl
  refine ⟨?_, fun b hb => A.2 b (by simp only [List.flatten_append, List.mem_append] at hb ⊢; exact hb.symm)⟩
  have := A.1
  simp only [List.flatten_append] at this ⊢
  exact (List.perm_append_comm.nodup_iff).1 this
theorem _root_.Go.QF.Sp.put2 {h h' : Heap} {lo : Nat} {Fs : List (List Nat)} (S : Sp h lo Fs) (i j : Nat) {F R F' : List Nat} (hi : Fs[i]? = some F) (hj : Fs[j]? = some R) (hij : i ≠ j) (hn : F'.Nodup) (hs : h.size ≤ h'.size) (hl : lo ≤ h.size) (hF : ∀ x ∈ F', x < h'.size) (hsub : ∀ x ∈ F', x ∈ F ∨ x ∈ R ∨ h.size ≤ x) : Sp h' lo ((Fs.set j []).set i F') := by
  have S1 : Sp h lo (Fs.set j []) := S.put j hj List.nodup_nil (Nat.le_refl _) hl (fun x hx => by simp at hx) (fun x hx => by simp at hx)
  have at' : ∀ {k : Nat} {G : List Nat} {x : Nat}, (Fs.set j [])[k]? = some G → x ∈ G → k ≠ j ∧ Fs[k]? = some G := fun {k G x} hG hx => by
    by_cases hk : k = j
    · subst hk
      have h1 := (List.getElem?_eq_some_iff.1 hj).1
      rw [List.getElem?_set_self h1] at hG
      cases hG; simp at hx
    · rw [List.getElem?_set_ne (Ne.symm hk)] at hG; exact ⟨hk, hG⟩
  refine ⟨nodup_set_flat S1.1 hn fun x hx k G hk hG hxG => ?_, fun b hb => ?_⟩
  · obtain ⟨hkj, hG⟩ := at' hG hxG
    rcases hsub x hx with h1 | h1 | h1
    · exact S.dj i k hi hG (fun he => hk he.symm) x h1 hxG
    · exact S.dj j k hj hG (fun he => hkj he.symm) x h1 hxG
    · have := (S.lo k hG x hxG).2; omega
  · rcases mem_set_flat hb with h1 | ⟨k, G, hk, hG, hb⟩
    · refine ⟨?_, hF b h1⟩
      rcases hsub b h1 with h2 | h2 | h2
      · exact (S.lo i hi b h2).1
      · exact (S.lo j hj b h2).1
      · omega
    · obtain ⟨_, hG⟩ := at' hG hb
      have := S.lo k hG b hb
      exact ⟨this.1, by omega⟩
/-- at the place i of l stands a; with a' in its place it is l' -/
def Rep (i : Nat) (l : List Asr) (a a' : Asr) (l' : List Asr) : Prop := l[i]? = some a ∧ l' = l.set i a'
theorem p0 {a a' : Asr} {l : List Asr} : Rep 0 (a :: l) a a' (a' :: l) := ⟨rfl, rfl⟩
theorem p1 {x0 a a' : Asr} {l : List Asr} : Rep 1 (x0 :: a :: l) a a' (x0 :: a' :: l) := ⟨rfl, rfl⟩
theorem p2 {x0 x1 a a' : Asr} {l : List Asr} : Rep 2 (x0 :: x1 :: a :: l) a a' (x0 :: x1 :: a' :: l) := ⟨rfl, rfl⟩
theorem p3 {x0 x1 x2 a a' : Asr} {l : List Asr} : Rep 3 (x0 :: x1 :: x2 :: a :: l) a a' (x0 :: x1 :: x2 :: a' :: l) := ⟨rfl, rfl⟩
theorem p4 {x0 x1 x2 x3 a a' : Asr} {l : List Asr} : Rep 4 (x0 :: x1 :: x2 :: x3 :: a :: l) a a' (x0 :: x1 :: x2 :: x3 :: a' :: l) := ⟨rfl, rfl⟩
theorem p5 {x0 x1 x2 x3 x4 a a' : Asr} {l : List Asr} : Rep 5 (x0 :: x1 :: x2 :: x3 :: x4 :: a :: l) a a' (x0 :: x1 :: x2 :: x3 :: x4 :: a' :: l) := ⟨rfl, rfl⟩
theorem p6 {x0 x1 x2 x3 x4 x5 a a' : Asr} {l : List Asr} : Rep 6 (x0 :: x1 :: x2 :: x3 :: x4 :: x5 :: a :: l) a a' (x0 :: x1 :: x2 :: x3 :: x4 :: x5 :: a' :: l) := ⟨rfl, rfl⟩
theorem p7 {x0 x1 x2 x3 x4 x5 x6 a a' : Asr} {l : List Asr} : Rep 7 (x0 :: x1 :: x2 :: x3 :: x4 :: x5 :: x6 :: a :: l) a a' (x0 :: x1 :: x2 :: x3 :: x4 :: x5 :: x6 :: a' :: l) := ⟨rfl, rfl⟩
theorem p8 {x0 x1 x2 x3 x4 x5 x6 x7 a a' : Asr} {l : List Asr} : Rep 8 (x0 :: x1 :: x2 :: x3 :: x4 :: x5 :: x6 :: x7 :: a :: l) a a' (x0 :: x1 :: x2 :: x3 :: x4 :: x5 :: x6 :: x7 :: a' :: l) := ⟨rfl, rfl⟩
theorem p9 {x0 x1 x2 x3 x4 x5 x6 x7 x8 a a' : Asr} {l : List Asr} : Rep 9 (x0 :: x1 :: x2 :: x3 :: x4 :: x5 :: x6 :: x7 :: x8 :: a :: l) a a' (x0 :: x1 :: x2 :: x3 :: x4 :: x5 :: x6 :: x7 :: x8 :: a' :: l) := ⟨rfl, rfl⟩
/-- the state: h0 is the heap at the call's start -/
structure Kst (h0 h : Heap) (l : List Asr) : Prop where
  x : Ext h0 h
  s : Sp h h0.size (fps l)
  p : allP h l
namespace Kst
variable {h0 h h' : Heap} {l l' : List Asr}
abbrev L (_ : Kst h0 h l) : List Asr := l
theorem k0 (h : Heap) : Kst h h [] := ⟨Ext.refl h, sp_nil _ _, trivial⟩
theorem b (k : Kst h0 h l) {i t b : Nat} {c : List Value} (e : Rep i l (aB t b c) (aB t b c) l') : BoxH t h b c := allP_get k.p e.1
theorem o {α : Type} {c : Cod α} (k : Kst h0 h l) {i el : Nat} {F : List Nat} {v : Value} {x : List α} (e : Rep i l (aO c el F v x) (aO c el F v x) l') : OwC c el h F v x := allP_get k.p e.1
theorem o2 {α : Type} {c : Cod α} (k : Kst h0 h l) {i er el : Nat} {F : List Nat} {Gs : List (List Nat)} {rs : List Value} {v : Value} {x : List (List α)} (e : Rep i l (aO2 c er el F Gs rs v x) (aO2 c er el F Gs rs v x) l') : OwC2 c er el h F Gs rs v x := allP_get k.p e.1
theorem c (k : Kst h0 h l) {i : Nat} {p : Prop} (e : Rep i l (aC p) (aC p) l') : p := allP_get k.p e.1
theorem lo (k : Kst h0 h l) {i : Nat} {a : Asr} (e : Rep i l a a l') : ∀ b ∈ a.F, h0.size ≤ b := k.s.loAll i (fps_get e.1)
theorem dj {l2 : List Asr} (k : Kst h0 h l) {i j : Nat} {a b : Asr} (e : Rep i l a a l') (f : Rep j l b b l2) (hij : i ≠ j) : ∀ x ∈ a.F, x ∉ b.F := k.s.dj i j (fps_get e.1) (fps_get f.1) hij
theorem e (k : Kst h0 h l) (E : Ext h h') : Kst h0 h' l := ⟨k.x.trans E, k.s.keep E.1, allP_up k.p E.upT fun _ _ _ _ => by simp⟩
theorem n (k : Kst h0 h l) (E : Ext h h') (m : List Asr) (S : Sp h' h.size (fps m)) (P : allP h' m) : Kst h0 h' (m ++ l) := ⟨k.x.trans E, by rw [fps_app]; exact k.s.appF S E.1 k.x.1, allP_app P (k.e E).p⟩
theorem nb (k : Kst h0 h l) (E : Ext h h') {t b : Nat} {c : List Value} (S : Sp h' h.size [[b]]) (V : BoxH t h' b c) : Kst h0 h' (aB t b c :: l) := k.n E [aB t b c] S ⟨V, trivial⟩
theorem no {α : Type} {c : Cod α} (k : Kst h0 h l) (E : Ext h h') {el : Nat} {F : List Nat} {v : Value} {x : List α} (S : Sp h' h.size [F]) (V : OwC c el h' F v x) : Kst h0 h' (aO c el F v x :: l) := k.n E [aO c el F v x] S ⟨V, trivial⟩
theorem no2 {α : Type} {c : Cod α} (k : Kst h0 h l) (E : Ext h h') {er el : Nat} {F : List Nat} {Gs : List (List Nat)} {rs : List Value} {v : Value} {x : List (List α)} (S : Sp h' h.size [F]) (V : OwC2 c er el h' F Gs rs v x) : Kst h0 h' (aO2 c er el F Gs rs v x :: l) := k.n E [aO2 c er el F Gs rs v x] S ⟨V, trivial⟩
theorem anil {α : Type} (c : Cod α) (el : Nat) (k : Kst h0 h l) : Kst h0 h (aO c el [] (.slice none 0 0) [] :: l) := k.n (Ext.refl h) [aO c el [] (.slice none 0 0) []] (by exact ⟨by simp [fps, aO], fun b hb => by simp [fps, aO] at hb⟩) ⟨owC_nil c el h, trivial⟩
theorem anil2 {α : Type} (c : Cod α) (er el : Nat) (k : Kst h0 h l) : Kst h0 h (aO2 c er el [] [] [] (.slice none 0 0) [] :: l) := k.n (Ext.refl h) [aO2 c er el [] [] [] (.slice none 0 0) []] (by exact ⟨by simp [fps, aO2], fun b hb => by simp [fps, aO2] at hb⟩) ⟨owC2_nil c er el h, trivial⟩
theorem u (k : Kst h0 h l) {i : Nat} {a a' : Asr} (e : Rep i l a a' l') (U : UpT a.F h h') (Ha : a'.P h') (hn : a'.F.Nodup) (hF : ∀ x ∈ a'.F, x < h'.size) (hs : ∀ x ∈ a'.F, x ∈ a.F ∨ h.size ≤ x) : Kst h0 h' l' := by
  obtain ⟨e, rfl⟩ := e
  exact ⟨k.x.thenT U (k.s.loAll i (fps_get e)), by rw [fps_set]; exact k.s.put i (fps_get e) hn U.size k.x.1 hF hs, allP_set k.p k.s e U Ha⟩
theorem ub (k : Kst h0 h l) {i t b : Nat} {c c' : List Value} (e : Rep i l (aB t b c) (aB t b c') l') (U : UpT [b] h h') (V : BoxH t h' b c') : Kst h0 h' l' := k.u e U V (by simp [aB]) (fun x hx => by simp [aB] at hx; subst hx; exact V.lt) fun x hx => .inl hx
theorem sb (k : Kst h0 h l) {i t b : Nat} {c c' : List Value} (e : Rep i l (aB t b c) (aB t b c') l') (U : Upd (· = b) h h') (V : BoxH t h' b c') (ht : Nat.beq t 69 = false) : Kst h0 h' l' := k.ub e (V.stA U (boxAll (allP_get k.p e.1) ht) ht) V
theorem uo {α : Type} {c : Cod α} (k : Kst h0 h l) {i el : Nat} {F F' : List Nat} {v v' : Value} {x x' : List α} (e : Rep i l (aO c el F v x) (aO c el F' v' x') l') (U : UpT F h h') (V : OwC c el h' F' v' x') (hs : ∀ z ∈ F', z ∈ F ∨ h.size ≤ z) : Kst h0 h' l' := k.u e U V V.nodup V.lt hs
theorem uO {α : Type} {c : Cod α} (k : Kst h0 h l) {i el : Nat} {F : List Nat} {v v' : Value} {x x' : List α} (e : Rep i l (aO c el F v x) (aO c el F v' x') l') (U : UpT F h h') (V : OwC c el h' F v' x') : Kst h0 h' l' := k.uo e U V fun _ h => .inl h
theorem uo2 {α : Type} {c : Cod α} (k : Kst h0 h l) {i er el : Nat} {F F' : List Nat} {Gs Gs' : List (List Nat)} {rs rs' : List Value} {v v' : Value} {x x' : List (List α)} (e : Rep i l (aO2 c er el F Gs rs v x) (aO2 c er el F' Gs' rs' v' x') l') (U : UpT F h h') (V : OwC2 c er el h' F' Gs' rs' v' x') (hs : ∀ z ∈ F', z ∈ F ∨ h.size ≤ z) : Kst h0 h' l' := k.u e U V V.nodup V.lt hs
theorem uO2 {α : Type} {c : Cod α} (k : Kst h0 h l) {i er el : Nat} {F : List Nat} {Gs Gs' : List (List Nat)} {rs rs' : List Value} {v v' : Value} {x x' : List (List α)} (e : Rep i l (aO2 c er el F Gs rs v x) (aO2 c er el F Gs' rs' v' x') l') (U : UpT F h h') (V : OwC2 c er el h' F Gs' rs' v' x') : Kst h0 h' l' := k.uo2 e U V fun _ h => .inl h
theorem sel (k : Kst h0 h l) (is : List Nat) (hn : is.Nodup) : Kst h0 h (selA l is) :=
  ⟨k.x, by rw [fps_sel]; exact k.s.sel is hn, by
    have : ∀ is : List Nat, allP h (selA l is) := fun is => by
      induction is with
      | nil => exact trivial
      | cons i is ih => exact ⟨allP_nth k.p i, ih⟩
    exact this is⟩
/-- one list of two becomes a part of the other -/
theorem m (k : Kst h0 h l) {i j : Nat} {l1 : List Asr} {a a' r : Asr} (er : Rep j l r (aC True) l1) (e : Rep i l1 a a' l') (hij : i ≠ j) (U : UpT a.F h h') (Ha : a'.P h') (hn : a'.F.Nodup) (hF : ∀ x ∈ a'.F, x < h'.size) (hs : ∀ x ∈ a'.F, x ∈ a.F ++ r.F ∨ h.size ≤ x) : Kst h0 h' l' := by
  obtain ⟨er, rfl⟩ := er
  obtain ⟨e', rfl⟩ := e
  have e : l[i]? = some a := by rw [List.getElem?_set_ne (Ne.symm hij)] at e'; exact e'
  have S1 : Sp h h0.size (fps (l.set j (aC True))) := by
    rw [fps_set]
    exact k.s.put j (fps_get er) List.nodup_nil (Nat.le_refl _) k.x.1 (fun x hx => by simp [aC] at hx) (fun x hx => by simp [aC] at hx)
  refine ⟨k.x.thenT U (k.s.loAll i (fps_get e)), ?_, allP_set (allP_triv k.p j) S1 e' U Ha⟩
  rw [fps_set, fps_set]
  exact k.s.put2 i j (fps_get e) (fps_get er) hij hn U.size k.x.1 hF fun x hx => (hs x hx).elim (fun h => (List.mem_append.1 h).elim .inl fun h => .inr (.inl h)) fun h => .inr (.inr h)
theorem m2 {α : Type} {c : Cod α} (k : Kst h0 h l) {i j : Nat} {l1 : List Asr} {er el : Nat} {F F' R : List Nat} {Gs Gs' : List (List Nat)} {rs rs' : List Value} {v v' w : Value} {x x' : List (List α)} {y : List α} (er' : Rep j l (aO c el R w y) (aC True) l1) (e : Rep i l1 (aO2 c er el F Gs rs v x) (aO2 c er el F' Gs' rs' v' x') l') (hij : i ≠ j) (U : UpT F h h') (V : OwC2 c er el h' F' Gs' rs' v' x') (hs : ∀ z ∈ F', z ∈ F ++ R ∨ h.size ≤ z) : Kst h0 h' l' := k.m er' e hij U V V.nodup V.lt hs
end Kst
end Go.Proofs.YtiegjkmfpcgjjaaDoor
/-
  Plain: what the walked functions answer, by rules of their own. No condition.
-/
namespace Go.QF
open Go
set_option linter.unusedVariables false
/-- The answer is there, and is so. -/
def Ok {α : Type} (o : Option α) (Q : α → Prop) : Prop := ∃ r, o = some r ∧ Q r
theorem ok_some {α : Type} {a : α} {Q : α → Prop} (h : Q a) : Ok (some a) Q := ⟨a, rfl, h⟩
theorem ok_bind {α β : Type} {o : Option α} {f : α → Option β} {Q : α → Prop} {R : β → Prop} (h : Ok o Q) (k : ∀ x, Q x → Ok (f x) R) : Ok (o.bind f) R := by
  obtain ⟨x, rfl, hx⟩ := h
  exact k x hx
theorem ok_if {c : Prop} [Decidable c] {α : Type} {a b : Option α} {R : α → Prop} (ht : c → Ok a R) (hf : ¬ c → Ok b R) : Ok (if c then a else b) R := by
  by_cases h : c
  · rw [if_pos h]; exact ht h
  · rw [if_neg h]; exact hf h
theorem ok_need {c : Prop} [Decidable c] {α : Type} {a : Option α} {R : α → Prop} (hc : c) (h : Ok a R) : Ok (if c then a else none) R := by rw [if_pos hc]; exact h
theorem ok_eq {α : Type} {o : Option α} {a : α} (h : Ok o (· = a)) : o = some a := by obtain ⟨x, h1, rfl⟩ := h; exact h1
theorem ok_get {α β : Type} {L : List α} {i : Int} {n : Nat} {x : α} {f : α → Option β} {R : β → Prop} (hx : L[n]? = some x) (hi : i = n) (k : Ok (f x) R) : Ok ((gI L i).bind f) R := by
  subst hi
  unfold gI
  rw [if_pos (by omega), Int.toNat_natCast, hx]
  exact k
/-- A loop: I holds ahead of round i, at most n rounds. -/
theorem ok_iter {S E : Type} {body : S → Option (S ⊕ E)} {fuel : Nat} {s0 : S} (I : Nat → S → Prop) (n : Nat) {Q : E → Prop} (h0 : I 0 s0) (hf : n < fuel) (hs : ∀ i s, i ≤ n → I i s → Ok (body s) fun r => match r with | .inl s' => i < n ∧ I (i + 1) s' | .inr e => Q e) : Ok (iter body fuel s0) Q := by
  have key : ∀ k fuel i s, n - i = k → k < fuel → i ≤ n → I i s → Ok (iter body fuel s) Q := by
    intro k
    induction k with
    | zero =>
      intro fuel i s hk hf hi hI
      obtain ⟨r, hr, hq⟩ := hs i s hi hI
      cases fuel with
      | zero => omega
      | succ f =>
        cases r with
        | inl s' => simp at hq; omega
        | inr e => exact ⟨e, by simp [iter, hr], hq⟩
    | succ k ih =>
      intro fuel i s hk hf hi hI
      obtain ⟨r, hr, hq⟩ := hs i s hi hI
      cases fuel with
      | zero => omega
      | succ f =>
        cases r with
        | inl s' =>
          obtain ⟨e, he, hQ⟩ := ih f (i + 1) s' (by omega) (by omega) (by omega) hq.2
          exact ⟨e, by simp [iter, hr, he], hQ⟩
        | inr e => exact ⟨e, by simp [iter, hr], hq⟩
  exact key n fuel 0 s0 (by omega) hf (by omega) h0
theorem wrap_ok {x : Int} (h1 : -9223372036854775808 ≤ x) (h2 : x ≤ 9223372036854775807) : w64 x = x := by
  show IntKind.i64.wrap x = x
  rw [IntKind.wrap_i64]; omega
theorem wk {x : Int} (h : -9223372036854775808 ≤ x ∧ x ≤ 9223372036854775807) : w64 x = x := wrap_ok h.1 h.2
/-- A row, a list of n values. -/
def rowL {α : Type} (m : Nat) (f : Nat → α) : List α := (List.range m).map f
theorem rowL_len {α : Type} (m : Nat) (f : Nat → α) : (rowL m f).length = m := by simp [rowL]
theorem rowL_get {α : Type} {m : Nat} {f : Nat → α} {j : Nat} (h : j < m) : (rowL m f)[j]? = some (f j) := by simp [rowL, h]
theorem rowL_congr {α : Type} {m : Nat} {f g : Nat → α} (h : ∀ j, j < m → f j = g j) : rowL m f = rowL m g := by
  unfold rowL
  exact List.map_congr_left fun j hj => h j (List.mem_range.1 hj)
theorem rowL_set {α : Type} {m j : Nat} {f : Nat → α} {x : α} : (rowL m f).set j x = rowL m fun c => if c = j then x else f c := by
  apply List.ext_getElem?
  intro i
  rw [List.getElem?_set]
  by_cases h : j = i
  · subst h
    simp only [if_true, rowL_len]
    by_cases hj : j < m
    · simp [hj, rowL_get hj]
    · simp [hj, rowL]
  · rw [if_neg h]
    by_cases hi : i < m
    · rw [rowL_get hi, rowL_get hi, if_neg (fun he => h he.symm)]
    · simp [rowL, hi]
theorem rowL_rep {α : Type} (m : Nat) (a : α) : List.replicate m a = rowL m fun _ => a := by
  apply List.ext_getElem?
  intro i
  by_cases h : i < m
  · rw [rowL_get h]; simp [h]
  · simp [rowL, h]
theorem tab_rowL (r c : Nat) (F : Nat → Nat → Int) : tab r c F = rowL r fun i => rowL c (F i) := rfl
theorem tab_get {r c : Nat} {F : Nat → Nat → Int} {i : Nat} (h : i < r) : (tab r c F)[i]? = some (rowL c (F i)) := rowL_get (f := fun i => rowL c (F i)) h
theorem sI_nat {α : Type} (L : List α) (n : Nat) (x : α) : sI L (n : Int) x = L.set n x := by simp [sI]
end Go.QF
/-
  Plain: the reference's way to the echelon form is the program's. No condition.
-/
namespace Go.QF
set_option linter.unusedVariables false
theorem setF_setF (F : Nat → Nat → Int) (i : Nat) (f g : Nat → Int) : setF (setF F i f) i g = setF F i g := by
  funext k
  by_cases h : k = i
  · subst h; rw [setF_same, setF_same]
  · rw [setF_ne _ _ h, setF_ne _ _ h, setF_ne _ _ h]
theorem setF_self (F : Nat → Nat → Int) (i : Nat) : setF F i (F i) = F := by
  funext k
  by_cases h : k = i
  · subst h; rw [setF_same]
  · rw [setF_ne _ _ h]
end Go.QF
/-
  Plain: combinations of rows modulo a number, and that row operations keep them. No condition.
-/
namespace Go.QF
set_option linter.unusedVariables false
/-! ### sums -/
theorem psum_add (f g : Nat → Int) (n : Nat) : psum (fun i => f i + g i) n = psum f n + psum g n := by
  induction n with
  | zero => rfl
  | succ n ih => simp only [psum]; rw [ih]; omega
theorem psum_mul (c : Int) (f : Nat → Int) (n : Nat) : psum (fun i => c * f i) n = c * psum f n := by
  induction n with
  | zero => simp [psum]
  | succ n ih => simp only [psum]; rw [ih, Int.mul_add]
theorem psum_zero (n : Nat) : psum (fun _ => 0) n = 0 := by
  induction n with
  | zero => rfl
  | succ n ih => simp only [psum]; rw [ih]; rfl
theorem psum_comm (f : Nat → Nat → Int) (n m : Nat) : psum (fun i => psum (fun j => f i j) m) n = psum (fun j => psum (fun i => f i j) n) m := by
  induction n with
  | zero => simp only [psum]; exact (psum_zero m).symm
  | succ n ih =>
    simp only [psum]
    rw [ih, ← psum_add]
/-- One term is another. -/
theorem psum_upd {f g : Nat → Int} {n a : Nat} (ha : a < n) (h : ∀ i, i ≠ a → g i = f i) : psum g n = psum f n + (g a - f a) := by
  induction n with
  | zero => omega
  | succ n ih =>
    simp only [psum]
    by_cases hn : a = n
    · subst hn
      rw [psum_congr (f := g) (g := f) (fun k hk => h k (by omega))]; omega
    · rw [ih (by omega), h n (fun he => hn he.symm)]; omega
theorem psum_one {f : Nat → Int} {n a : Nat} (ha : a < n) (h : ∀ i, i ≠ a → f i = 0) : psum f n = f a := by
  rw [psum_upd (f := fun _ => 0) ha h, psum_zero]; omega
/-! ### congruence -/
def Eqm (m a b : Int) : Prop := a % m = b % m
theorem Eqm.refl (m a : Int) : Eqm m a a := rfl
theorem Eqm.of_eq {m a b : Int} (h : a = b) : Eqm m a b := h ▸ rfl
theorem Eqm.symm {m a b : Int} (h : Eqm m a b) : Eqm m b a := Eq.symm h
theorem Eqm.trans {m a b c : Int} (h : Eqm m a b) (k : Eqm m b c) : Eqm m a c := Eq.trans h k
theorem Eqm.add {m a b c d : Int} (h : Eqm m a b) (k : Eqm m c d) : Eqm m (a + c) (b + d) := by
  unfold Eqm at *; rw [Int.add_emod, h, k, ← Int.add_emod]
theorem Eqm.sub {m a b c d : Int} (h : Eqm m a b) (k : Eqm m c d) : Eqm m (a - c) (b - d) := by
  unfold Eqm at *; rw [Int.sub_emod, h, k, ← Int.sub_emod]
theorem Eqm.mul {m a b c d : Int} (h : Eqm m a b) (k : Eqm m c d) : Eqm m (a * c) (b * d) := by
  unfold Eqm at *; rw [Int.mul_emod, h, k, ← Int.mul_emod]
theorem Eqm.mod (m a : Int) : Eqm m (a % m) a := Int.emod_emod_of_dvd a (Int.dvd_refl m)
theorem Eqm.psum {m : Int} {f g : Nat → Int} {n : Nat} (h : ∀ i, i < n → Eqm m (f i) (g i)) : Eqm m (psum f n) (psum g n) := by
  induction n with
  | zero => rfl
  | succ n ih => exact (ih fun i hi => h i (by omega)).add (h n (by omega))
/-! ### combinations of rows -/
def comb (r : Nat) (y : Nat → Int) (F : Nat → Nat → Int) (q : Nat) : Int := psum (fun i => y i * F i q) r
def updY (y : Nat → Int) (a : Nat) (t : Int) : Nat → Int := fun i => if i = a then t else y i
theorem updY_same (y : Nat → Int) (a : Nat) (t : Int) : updY y a t a = t := if_pos rfl
theorem updY_ne (y : Nat → Int) {a i : Nat} (t : Int) (h : i ≠ a) : updY y a t i = y i := if_neg h
theorem comb_setF {r a : Nat} {y : Nat → Int} {F : Nat → Nat → Int} {g : Nat → Int} {q : Nat} (ha : a < r) : comb r y (setF F a g) q = comb r y F q + y a * (g q - F a q) := by
  unfold comb
  rw [psum_upd (f := fun i => y i * F i q) ha (fun i hi => by rw [setF_ne _ _ hi]), setF_same, Int.mul_sub]
theorem comb_updY {r a : Nat} {y : Nat → Int} {t : Int} {F : Nat → Nat → Int} {q : Nat} (ha : a < r) : comb r (updY y a t) F q = comb r y F q + (t - y a) * F a q := by
  unfold comb
  rw [psum_upd (f := fun i => y i * F i q) ha (fun i hi => by rw [updY_ne _ _ hi]), updY_same, Int.sub_mul]
theorem comb_eqm {r : Nat} {m : Int} {y y' : Nat → Int} {F : Nat → Nat → Int} {q : Nat} (h : ∀ i, i < r → Eqm m (y i) (y' i)) : Eqm m (comb r y F q) (comb r y' F q) :=
  Eqm.psum fun i hi => (h i hi).mul (Eqm.refl _ _)
theorem comb_unit {r a : Nat} {F : Nat → Nat → Int} {q : Nat} (ha : a < r) : comb r (updY (fun _ => 0) a 1) F q = F a q := by
  unfold comb
  rw [psum_one ha (fun i hi => by rw [updY_ne _ _ hi]; simp), updY_same]; simp
/-- The same combinations, and none of F' that vanishes unless one of F does. -/
def RowEq (r c : Nat) (m : Int) (F F' : Nat → Nat → Int) : Prop :=
  (∀ y', ∃ y, (∀ q, q < c → Eqm m (comb r y' F' q) (comb r y F q)) ∧ ((∀ i, i < r → Eqm m (y i) 0) → ∀ i, i < r → Eqm m (y' i) 0)) ∧
  (∀ y, ∃ y', ∀ q, q < c → Eqm m (comb r y F q) (comb r y' F' q))
theorem RowEq.refl (r c : Nat) (m : Int) (F : Nat → Nat → Int) : RowEq r c m F F := ⟨fun y => ⟨y, fun _ _ => rfl, fun h => h⟩, fun y => ⟨y, fun _ _ => rfl⟩⟩
theorem RowEq.trans {r c : Nat} {m : Int} {F G H : Nat → Nat → Int} (h : RowEq r c m F G) (k : RowEq r c m G H) : RowEq r c m F H := by
  refine ⟨fun y2 => ?_, fun y0 => ?_⟩
  · obtain ⟨y1, e1, z1⟩ := k.1 y2
    obtain ⟨y0, e0, z0⟩ := h.1 y1
    exact ⟨y0, fun q hq => (e1 q hq).trans (e0 q hq), fun hz => z1 (z0 hz)⟩
  · obtain ⟨y1, e1⟩ := h.2 y0
    obtain ⟨y2, e2⟩ := k.2 y1
    exact ⟨y2, fun q hq => (e1 q hq).trans (e2 q hq)⟩
theorem rowEq_swap {r c a b : Nat} {m : Int} {F : Nat → Nat → Int} (ha : a < r) (hb : b < r) : RowEq r c m F (swapF F a b) := by
  by_cases hab : a = b
  · subst hab
    have : swapF F a a = F := by
      funext k
      by_cases hk : k = a
      · subst hk; rw [swapF_at]
      · rw [swapF_ne _ hk hk]
    rw [this]; exact RowEq.refl _ _ _ _
  · have key : ∀ y q, comb r y (swapF F a b) q = comb r (updY (updY y a (y b)) b (y a)) F q := by
      intro y q
      unfold swapF
      rw [comb_setF hb, comb_setF ha, setF_ne _ _ (Ne.symm hab), comb_updY hb, comb_updY ha, updY_ne _ _ (Ne.symm hab)]
      grind
    refine ⟨fun y' => ⟨_, fun q _ => Eqm.of_eq (key y' q), fun hz i hi => ?_⟩, fun y => ⟨updY (updY y a (y b)) b (y a), fun q _ => Eqm.of_eq ?_⟩⟩
    · by_cases h1 : i = a
      · subst h1; have := hz b hb; rw [updY_same] at this; exact this
      · by_cases h2 : i = b
        · subst h2; have := hz a ha; rw [updY_ne _ _ hab, updY_same] at this; exact this
        · have := hz i hi; rw [updY_ne _ _ h2, updY_ne _ _ h1] at this; exact this
    · rw [key]
      congr 1
      funext i
      by_cases h1 : i = b
      · subst h1; rw [updY_same, updY_ne _ _ hab, updY_same]
      · rw [updY_ne _ _ h1]
        by_cases h2 : i = a
        · subst h2; rw [updY_same, updY_same]
        · rw [updY_ne _ _ h2, updY_ne _ _ h1, updY_ne _ _ h2]
theorem rowEq_scale {r c a : Nat} {m f g : Int} {F : Nat → Nat → Int} (ha : a < r) (hf : Eqm m (f * g) 1) : RowEq r c m F (scaleF F a f m) := by
  have key : ∀ y q, Eqm m (comb r y (scaleF F a f m) q) (comb r (updY y a (y a * f)) F q) := by
    intro y q
    unfold scaleF
    rw [comb_setF ha, comb_updY ha]
    refine (Eqm.refl _ _).add ?_
    refine ((Eqm.refl m (y a)).mul ((Eqm.mod m _).sub (Eqm.refl _ _))).trans (Eqm.of_eq ?_)
    grind
  refine ⟨fun y' => ⟨_, fun q _ => key y' q, fun hz i hi => ?_⟩, fun y => ⟨updY y a (y a * g), fun q _ => ((key _ q).trans (comb_eqm fun i hi => ?_)).symm⟩⟩
  · by_cases h1 : i = a
    · subst h1
      have := hz i ha
      rw [updY_same] at this
      have h2 := this.mul (Eqm.refl m g)
      refine Eqm.trans ?_ (h2.trans (Eqm.of_eq (by omega)))
      refine Eqm.trans (Eqm.of_eq (show y' i = y' i * 1 by omega)) (((Eqm.refl m (y' i)).mul hf.symm).trans (Eqm.of_eq ?_))
      rw [Int.mul_assoc]
    · have := hz i hi; rw [updY_ne _ _ h1] at this; exact this
  · by_cases h1 : i = a
    · subst h1
      rw [updY_same, updY_same, Int.mul_assoc, Int.mul_comm g f]
      exact ((Eqm.refl m (y i)).mul hf).trans (Eqm.of_eq (by omega))
    · rw [updY_ne _ _ h1, updY_ne _ _ h1]; exact Eqm.refl _ _
theorem rowEq_add {r c k top : Nat} {m e : Int} {F : Nat → Nat → Int} (hk : k < r) (ht : top < r) (hne : k ≠ top) : RowEq r c m F (setF F k fun q => (F k q + e * F top q) % m) := by
  have key : ∀ y q, Eqm m (comb r y (setF F k fun q => (F k q + e * F top q) % m) q) (comb r (updY y top (y top + y k * e)) F q) := by
    intro y q
    rw [comb_setF hk, comb_updY ht]
    refine (Eqm.refl _ _).add ?_
    refine ((Eqm.refl m (y k)).mul ((Eqm.mod m _).sub (Eqm.refl _ _))).trans (Eqm.of_eq ?_)
    grind
  refine ⟨fun y' => ⟨_, fun q _ => key y' q, fun hz i hi => ?_⟩, fun y => ⟨updY y top (y top - y k * e), fun q _ => ((key _ q).trans (comb_eqm fun i hi => ?_)).symm⟩⟩
  · by_cases h1 : i = top
    · subst h1
      have h2 := hz i ht
      have h3 := hz k hk
      rw [updY_same] at h2
      rw [updY_ne _ _ hne] at h3
      have h4 := h2.sub (h3.mul (Eqm.refl m e))
      refine Eqm.trans (Eqm.of_eq ?_) (h4.trans (Eqm.of_eq ?_))
      · omega
      · simp
    · have := hz i hi; rw [updY_ne _ _ h1] at this; exact this
  · by_cases h1 : i = top
    · subst h1
      rw [updY_same, updY_same, updY_ne _ _ hne]
      exact Eqm.of_eq (by omega)
    · rw [updY_ne _ _ h1, updY_ne _ _ h1]; exact Eqm.refl _ _
/-! ### the elimination keeps the combinations -/
theorem rowEq_elim {r c top j : Nat} {m : Int} {F : Nat → Nat → Int} (ht : top < r) : ∀ k, k ≤ r → RowEq r c m F (elimF F top j m k) := by
  intro k
  induction k with
  | zero => intro _; rw [elimF_zero]; exact RowEq.refl _ _ _ _
  | succ k ih =>
    intro hk
    refine (ih (by omega)).trans ?_
    by_cases h : k = top
    · subst h; rw [elimF_skip]; exact RowEq.refl _ _ _ _
    · rw [← elimF_step h]
      have := rowEq_add (c := c) (m := m) (e := m - F k j) (F := elimF F top j m k) (k := k) (top := top) (by omega) ht h
      rw [elimF_at, elimF_top] at this
      exact this
end Go.QF
/-
  Plain: the reduced echelon form and its rank. No condition.
-/
namespace Go.QF
set_option linter.unusedVariables false
theorem elimF_else {F : Nat → Nat → Int} {top j : Nat} {m : Int} {k i : Nat} (hi : i < k) (hne : i ≠ top) (q : Nat) : elimF F top j m k i q = (F i q + (m - F i j) * F top q) % m := by
  unfold elimF; rw [if_pos ⟨hi, hne⟩]
/-! ### solutions -/
end Go.QF
/-
  Plain: the reduced echelon form is unique. No condition.
-/
namespace Go.QF
set_option linter.unusedVariables false
theorem psum_cut {f : Nat → Int} {k r : Nat} (hk : k ≤ r) (h : ∀ i, k ≤ i → i < r → f i = 0) : psum f r = psum f k := by
  induction r with
  | zero => rw [Nat.le_zero.1 hk]
  | succ r ih =>
    rcases Nat.lt_or_ge k (r + 1) with h1 | h1
    · simp only [psum]
      rw [ih (by omega) (fun i h2 h3 => h i h2 (by omega)), h r (by omega) (by omega)]; omega
    · obtain rfl : k = r + 1 := by omega
      rfl
end Go.QF
/-
  Plain: products of elementary column operations have inverses; they keep the echelon form. No condition.
-/
namespace Go.QF
set_option linter.unusedVariables false
def dl (a b : Nat) : Int := if a = b then 1 else 0
end Go.QF
/-
  Plain: determinants by expansion along the first column; row steps, products, transposes. No condition.
-/
namespace Go.QF
set_option linter.unusedVariables false
def skp (i a : Nat) : Nat := if a < i then a else a + 1
def usk (i r : Nat) : Nat := if r < i then r else r - 1
def sg (i : Nat) : Int := if i % 2 = 0 then 1 else -1
theorem sg_succ (i : Nat) : sg (i + 1) = -sg i := by unfold sg; split <;> split <;> first | omega | rfl
theorem skp_ne (i a : Nat) : skp i a ≠ i := by unfold skp; split <;> omega
theorem skp_lt {i a n : Nat} (ha : a < n) : skp i a < n + 1 := by unfold skp; split <;> omega
theorem skp_usk {i r : Nat} (h : r ≠ i) : skp i (usk i r) = r := by
  unfold usk
  split <;> (unfold skp; split <;> omega)
theorem skp_inj {i a r : Nat} (h : skp i a = r) : a = usk i r := by unfold skp at h; unfold usk; split at h <;> split <;> omega
theorem usk_lt {i r n : Nat} (h : r ≠ i) (hi : i < n + 1) (hr : r < n + 1) : usk i r < n := by unfold usk; split <;> omega
theorem setF_app (F : Nat → Nat → Int) (a : Nat) (g : Nat → Int) (i j : Nat) : setF F a g i j = if i = a then g j else F i j := by
  unfold setF; split <;> rfl
theorem swapF_app (F : Nat → Nat → Int) (a b i j : Nat) : swapF F a b i j = if i = b then F a j else if i = a then F b j else F i j := by
  unfold swapF; rw [setF_app, setF_app]
def minor0 (i : Nat) (F : Nat → Nat → Int) : Nat → Nat → Int := fun a b => F (skp i a) (b + 1)
def det : Nat → (Nat → Nat → Int) → Int
  | 0, _ => 1
  | n + 1, F => psum (fun i => sg i * F i 0 * det n (minor0 i F)) (n + 1)
theorem det_congr : ∀ {n : Nat} {F G : Nat → Nat → Int}, (∀ i j, i < n → j < n → F i j = G i j) → det n F = det n G := by
  intro n
  induction n with
  | zero => intro _ _ _; rfl
  | succ n ih =>
    intro F G h
    refine psum_congr fun i hi => ?_
    rw [h i 0 hi (by omega), ih (F := minor0 i F) (G := minor0 i G) fun a b ha hb => h _ _ (skp_lt ha) (by omega)]
theorem minor0_set {i r : Nat} {F : Nat → Nat → Int} {g : Nat → Int} (h : r ≠ i) : minor0 i (setF F r g) = setF (minor0 i F) (usk i r) (fun b => g (b + 1)) := by
  funext a b
  unfold minor0 setF
  by_cases ha : skp i a = r
  · rw [if_pos ha, if_pos (skp_inj ha)]
  · rw [if_neg ha, if_neg (fun he => ha (by rw [he, skp_usk h]))]
theorem minor0_set_self {i : Nat} {F : Nat → Nat → Int} {g : Nat → Int} : minor0 i (setF F i g) = minor0 i F := by
  funext a b
  unfold minor0
  rw [setF_ne _ _ (skp_ne i a)]
theorem det_lin : ∀ {n : Nat} {F : Nat → Nat → Int} {r : Nat} (u v : Nat → Int) (c d : Int), r < n → det n (setF F r fun q => c * u q + d * v q) = c * det n (setF F r u) + d * det n (setF F r v) := by
  intro n
  induction n with
  | zero => intro _ _ _ _ _ _ h; omega
  | succ n ih =>
    intro F r u v c d hr
    simp only [det]
    rw [← psum_mul, ← psum_mul, ← psum_add]
    refine psum_congr fun i hi => ?_
    by_cases h : r = i
    · subst h
      simp only [minor0_set_self, setF_same]
      grind
    · rw [minor0_set h, minor0_set h, minor0_set h, setF_ne _ _ (Ne.symm h), setF_ne _ _ (Ne.symm h), setF_ne _ _ (Ne.symm h), ih (fun b => u (b + 1)) (fun b => v (b + 1)) c d (usk_lt h hi hr)]
      grind
theorem psum_two {f : Nat → Int} {n r s : Nat} (hr : r < n) (hs : s < n) (hrs : r ≠ s) (h : ∀ i, i < n → i ≠ r → i ≠ s → f i = 0) : psum f n = f r + f s := by
  have h1 : psum f n = psum (fun i => (if i = r then f r else 0) + (if i = s then f s else 0)) n := psum_congr fun i hi => by
    by_cases h1 : i = r
    · subst h1; rw [if_pos rfl, if_neg hrs]; omega
    · rw [if_neg h1]
      by_cases h2 : i = s
      · subst h2; rw [if_pos rfl]; omega
      · rw [if_neg h2, h i hi h1 h2]; rfl
  rw [h1, psum_add, psum_one (f := fun i => if i = r then f r else 0) hr (fun i hi => if_neg hi), psum_one (f := fun i => if i = s then f s else 0) hs (fun i hi => if_neg hi), if_pos rfl, if_pos rfl]
theorem det_adj : ∀ {n : Nat} {F : Nat → Nat → Int} {r : Nat}, r + 1 < n → (∀ q, q < n → F r q = F (r + 1) q) → det n F = 0 := by
  intro n
  induction n with
  | zero => intro _ _ h; omega
  | succ n ih =>
    intro F r hr h
    simp only [det]
    rw [psum_two (r := r) (s := r + 1) (by omega) (by omega) (by omega)]
    · have : det n (minor0 r F) = det n (minor0 (r + 1) F) := det_congr fun a b ha hb => by
        unfold minor0 skp
        by_cases h1 : a < r
        · rw [if_pos h1, if_pos (by omega)]
        · rw [if_neg h1]
          by_cases h2 : a < r + 1
          · rw [if_pos h2]
            obtain rfl : a = r := by omega
            exact (h (b + 1) (by omega)).symm
          · rw [if_neg h2]
      rw [this, sg_succ, h 0 (by omega)]
      grind
    · intro i hi h1 h2
      rcases Nat.lt_or_ge i r with hlt | hge
      · rw [ih (F := minor0 i F) (r := r - 1) (by omega)]
        · simp
        · intro q hq
          unfold minor0 skp
          rw [if_neg (by omega), if_neg (by omega), show r - 1 + 1 = r by omega]
          exact h (q + 1) (by omega)
      · rw [ih (F := minor0 i F) (r := r) (by omega)]
        · simp
        · intro q hq
          unfold minor0 skp
          rw [if_pos (by omega), if_pos (by omega)]
          exact h (q + 1) (by omega)
theorem setF_comm {F : Nat → Nat → Int} {a b : Nat} (h : a ≠ b) (u v : Nat → Int) : setF (setF F a u) b v = setF (setF F b v) a u := by
  funext k
  unfold setF
  by_cases h1 : k = a <;> by_cases h2 : k = b
  · omega
  · simp [h1, h]
  · simp [h2, Ne.symm h]
  · simp [h1, h2]
/-- An alternating function changes its sign. -/
theorem alt_swap {n : Nat} {F : Nat → Nat → Int} {a b : Nat} (ha : a < n) (hb : b < n) (hab : a ≠ b) (h0 : ∀ G : Nat → Nat → Int, G a = G b → det n G = 0) : det n (swapF F a b) = -det n F := by
  have key : ∀ u v : Nat → Int, det n (setF (setF F a u) b v) = -det n (setF (setF F a v) b u) := by
    intro u v
    have h1 := h0 (setF (setF F a fun q => 1 * u q + 1 * v q) b fun q => 1 * u q + 1 * v q) (by rw [setF_same, setF_ne _ _ hab, setF_same])
    rw [det_lin u v 1 1 hb, setF_comm hab, setF_comm hab, det_lin u v 1 1 ha, det_lin u v 1 1 ha, setF_comm (Ne.symm hab), setF_comm (Ne.symm hab), setF_comm (Ne.symm hab), setF_comm (Ne.symm hab)] at h1
    have h2 := h0 (setF (setF F a u) b u) (by rw [setF_same, setF_ne _ _ hab, setF_same])
    have h3 := h0 (setF (setF F a v) b v) (by rw [setF_same, setF_ne _ _ hab, setF_same])
    omega
  unfold swapF
  rw [key (F b) (F a), setF_self]
  rw [show setF F b (F b) = F from setF_self F b]
theorem det_eqr : ∀ {d n : Nat} {F : Nat → Nat → Int} {a : Nat}, a + d + 1 < n → F a = F (a + d + 1) → det n F = 0 := by
  intro d
  induction d with
  | zero => intro n F a hn h; exact det_adj hn fun q _ => by rw [h]
  | succ d ih =>
    intro n F a hn h
    have h1 := alt_swap (n := n) (F := F) (a := a + d + 1) (b := a + d + 1 + 1) (by omega) (by omega) (by omega) fun G hG => det_adj (r := a + d + 1) (by omega) fun q _ => congrFun hG q
    have h2 := ih (n := n) (F := swapF F (a + d + 1) (a + d + 1 + 1)) (a := a) (by omega) (by rw [swapF_at2, swapF_ne _ (by omega) (by omega), h]; rfl)
    omega
theorem det_eq_rows {n : Nat} {F : Nat → Nat → Int} {a b : Nat} (ha : a < n) (hb : b < n) (hab : a ≠ b) (h : F a = F b) : det n F = 0 := by
  rcases Nat.lt_or_ge a b with hlt | hge
  · exact det_eqr (d := b - a - 1) (a := a) (by omega) (by rw [h]; congr 1; omega)
  · exact det_eqr (d := a - b - 1) (a := b) (by omega) (by rw [← h]; congr 1; omega)
theorem det_swap {n : Nat} {F : Nat → Nat → Int} {a b : Nat} (ha : a < n) (hb : b < n) (hab : a ≠ b) : det n (swapF F a b) = -det n F :=
  alt_swap ha hb hab fun _ h => det_eq_rows ha hb hab h
theorem det_scale {n : Nat} {F : Nat → Nat → Int} {r : Nat} (u : Nat → Int) (c : Int) (hr : r < n) : det n (setF F r fun q => c * u q) = c * det n (setF F r u) := by
  have := det_lin (F := F) u (fun _ => 0) c 0 hr
  rw [show (fun q => c * u q + 0 * (fun _ : Nat => (0 : Int)) q) = fun q => c * u q from by funext q; omega] at this
  rw [this]; omega
theorem det_zero_row {n : Nat} {F : Nat → Nat → Int} {r : Nat} (hr : r < n) (h : ∀ q, q < n → F r q = 0) : det n F = 0 := by
  have := det_scale (F := F) (F r) 0 hr
  rw [Int.zero_mul] at this
  rw [← this]
  exact det_congr fun i j hi hj => by
    unfold setF
    split
    · rename_i he; subst he; rw [h j hj]; simp
    · rfl
theorem det_add_row {n : Nat} {F : Nat → Nat → Int} {a b : Nat} (ha : a < n) (hb : b < n) (hab : a ≠ b) (q : Int) : det n (setF F a fun x => F a x + q * F b x) = det n F := by
  have := det_lin (F := F) (F a) (F b) 1 q ha
  rw [setF_self, det_eq_rows (F := setF F a (F b)) ha hb hab (by rw [setF_same, setF_ne _ _ (Ne.symm hab)])] at this
  rw [show (fun x => F a x + q * F b x) = fun x => 1 * F a x + q * F b x from by funext x; omega, this]; omega
theorem det_psum {n : Nat} {F : Nat → Nat → Int} {r : Nat} (hr : r < n) (y : Nat → Int) (u : Nat → Nat → Int) : ∀ t, det n (setF F r fun q => psum (fun k => y k * u k q) t) = psum (fun k => y k * det n (setF F r (u k))) t := by
  intro t
  induction t with
  | zero => exact det_zero_row hr fun q _ => by rw [setF_same]; rfl
  | succ t ih =>
    have := det_lin (F := F) (fun q => psum (fun k => y k * u k q) t) (u t) 1 (y t) hr
    simp only [psum]
    rw [← ih, show (fun q => psum (fun k => y k * u k q) t + y t * u t q) = fun q => 1 * psum (fun k => y k * u k q) t + y t * u t q from by funext q; omega, this]; omega
/-- A row that is a combination of the rows. -/
theorem det_comb {n : Nat} {F : Nat → Nat → Int} {r : Nat} (hr : r < n) (y : Nat → Int) : det n (setF F r fun q => psum (fun k => y k * F k q) n) = y r * det n F := by
  rw [det_psum hr y F n, psum_congr (g := fun k => if k = r then y r * det n F else 0), psum_one hr (fun i hi => if_neg hi), if_pos rfl]
  intro k hk
  by_cases h : k = r
  · subst h; rw [if_pos rfl, setF_self]
  · rw [if_neg h, det_eq_rows (F := setF F r (F k)) hr hk (Ne.symm h) (by rw [setF_same, setF_ne _ _ h])]; simp
/-! ### triangular matrices, row steps -/
def dprod (f : Nat → Int) : Nat → Int
  | 0 => 1
  | n + 1 => dprod f n * f n
theorem dprod_shift (f : Nat → Int) (n : Nat) : dprod f (n + 1) = f 0 * dprod (fun i => f (i + 1)) n := by
  induction n with
  | zero => simp [dprod]
  | succ n ih => rw [dprod, ih, dprod]; grind
theorem dprod_congr {f g : Nat → Int} {n : Nat} (h : ∀ i, i < n → f i = g i) : dprod f n = dprod g n := by
  induction n with
  | zero => rfl
  | succ n ih => rw [dprod, dprod, ih (fun i hi => h i (by omega)), h n (by omega)]
theorem det_upper : ∀ {n : Nat} {F : Nat → Nat → Int}, Zc n F n → det n F = dprod (fun i => F i i) n := by
  intro n
  induction n with
  | zero => intro _ _; rfl
  | succ n ih =>
    intro F h
    rw [dprod_shift, det, psum_congr (g := fun i => if i = 0 then F 0 0 * det n (minor0 0 F) else 0), psum_one (a := 0) (by omega) (fun i hi => if_neg hi), if_pos rfl]
    · rw [ih (F := minor0 0 F) (fun c' i h1 h2 h3 => by unfold minor0 skp; rw [if_neg (by omega)]; exact h (c' + 1) (i + 1) (by omega) (by omega) (by omega))]
      rfl
    · intro i hi
      by_cases h0 : i = 0
      · subst h0; simp [sg]
      · rw [if_neg h0, h 0 i (by omega) (by omega) hi]; simp
theorem det_lower : ∀ {n : Nat} {F : Nat → Nat → Int}, (∀ i j, i < j → j < n → F i j = 0) → det n F = dprod (fun i => F i i) n := by
  intro n
  induction n with
  | zero => intro _ _; rfl
  | succ n ih =>
    intro F h
    rw [dprod_shift, det, psum_congr (g := fun i => if i = 0 then F 0 0 * det n (minor0 0 F) else 0), psum_one (a := 0) (by omega) (fun i hi => if_neg hi), if_pos rfl]
    · rw [ih (F := minor0 0 F) (fun i j h1 h2 => by unfold minor0 skp; rw [if_neg (by omega)]; exact h (i + 1) (j + 1) (by omega) (by omega))]
      rfl
    · intro i hi
      by_cases h0 : i = 0
      · subst h0; simp [sg]
      · rw [if_neg h0, det_zero_row (F := minor0 i F) (r := 0) (by omega) (fun q hq => by unfold minor0 skp; rw [if_pos (by omega)]; exact h 0 (q + 1) (by omega) (by omega))]; simp
def estep (F : Nat → Nat → Int) (c i : Nat) (q : Int) : Nat → Nat → Int := swapF (setF F c fun x => F c x + -q * F i x) c i
theorem estep_i (F : Nat → Nat → Int) {c i : Nat} (q : Int) : estep F c i q i = fun x => F c x + -q * F i x := by
  unfold estep; rw [swapF_at, setF_same]
theorem estep_c (F : Nat → Nat → Int) {c i : Nat} (h : c ≠ i) (q : Int) : estep F c i q c = F i := by
  unfold estep; rw [swapF_at2, setF_ne _ _ (Ne.symm h)]
theorem estep_ne (F : Nat → Nat → Int) {c i k : Nat} (hc : k ≠ c) (hi : k ≠ i) (q : Int) : estep F c i q k = F k := by
  unfold estep; rw [swapF_ne _ hc hi, setF_ne _ _ hc]
theorem zc_estep {n : Nat} {F : Nat → Nat → Int} {c i : Nat} {q : Int} (H : Zc n F c) (hci : c < i) (hi : i < n) : Zc n (estep F c i q) c := by
  intro c' k h1 h2 h3
  by_cases hk : k = i
  · subst hk
    rw [estep_i]
    simp [H c' c h1 h1 (by omega), H c' k h1 h2 h3]
  · by_cases hk2 : k = c
    · subst hk2
      rw [estep_c F hk]; exact H c' i h1 (by omega) hi
    · rw [estep_ne F hk2 hk]; exact H c' k h1 h2 h3
theorem zi_estep {F : Nat → Nat → Int} {c i : Nat} {q : Int} (H : Zi F c i) : Zi (estep F c i q) c i := by
  intro k h1 h2
  rw [estep_ne F (by omega) (by omega)]; exact H k h1 h2
/-- Every matrix becomes triangular by row steps. -/
theorem row_ind {n : Nat} {P : (Nat → Nat → Int) → Prop} (hadd : ∀ F a b q, a < n → b < n → a ≠ b → P (setF F a fun x => F a x + q * F b x) → P F) (hswap : ∀ F a b, a < n → b < n → a ≠ b → P (swapF F a b) → P F) (htri : ∀ F, Zc n F n → P F) : ∀ F, P F := by
  have key : ∀ d c, c + d = n → ∀ F, Zc n F c → P F := by
    intro d
    induction d with
    | zero => intro c hc F hF; obtain rfl : c = n := by omega
              exact htri F hF
    | succ d ih =>
      intro c hc
      have inner : ∀ e i, i + e = n → c < i → ∀ F, Zc n F c → Zi F c i → P F := by
        intro e
        induction e with
        | zero => intro i hi hci F hF hz; obtain rfl : i = n := by omega
                  exact ih (c + 1) (by omega) F (zc_succ hF hz)
        | succ e ihe =>
          intro i hi hci
          have strong : ∀ k F, (F i c).natAbs = k → Zc n F c → Zi F c i → P F := by
            intro k
            induction k using Nat.strongRecOn with
            | _ k ihk =>
              intro F hk hF hz
              by_cases h0 : F i c = 0
              · exact ihe (i + 1) (by omega) (by omega) F hF (zi_succ hz h0)
              · refine hadd F c i (-(F c c / F i c)) (by omega) (by omega) (by omega) (hswap _ c i (by omega) (by omega) (by omega) ?_)
                refine ihk ((estep F c i (F c c / F i c)) i c).natAbs ?_ (estep F c i (F c c / F i c)) rfl (zc_estep hF hci (by omega)) (zi_estep hz)
                rw [estep_i, ← hk]
                show (F c c + -(F c c / F i c) * F i c).natAbs < _
                have h1 := Int.mul_ediv_add_emod (F c c) (F i c)
                have h2 : F c c + -(F c c / F i c) * F i c = F c c % F i c := by grind
                rw [h2]
                have h3 := Int.emod_nonneg (F c c) h0
                have h4 := Int.emod_lt (F c c) h0
                omega
          exact fun F => strong _ F rfl
      exact fun F hF => inner (n - (c + 1)) (c + 1) (by omega) (by omega) F hF fun k h1 h2 => by omega
  exact fun F => key n 0 (by omega) F fun c' i h => by omega
/-! ### products -/
def mulF (n : Nat) (A B : Nat → Nat → Int) : Nat → Nat → Int := fun i j => psum (fun k => A i k * B k j) n
theorem mulF_add {n : Nat} {A B : Nat → Nat → Int} {a b : Nat} {q : Int} : mulF n (setF A a fun x => A a x + q * A b x) B = setF (mulF n A B) a fun x => mulF n A B a x + q * mulF n A B b x := by
  funext i j
  unfold mulF setF
  by_cases h : i = a
  · simp only [if_pos h]
    rw [← psum_mul, ← psum_add]
    exact psum_congr fun k _ => by grind
  · simp only [if_neg h]
theorem mulF_set {n : Nat} {A B : Nat → Nat → Int} {a : Nat} {u : Nat → Int} : mulF n (setF A a u) B = setF (mulF n A B) a fun x => psum (fun k => u k * B k x) n := by
  funext i j
  unfold mulF setF
  by_cases h : i = a
  · simp only [if_pos h]
  · simp only [if_neg h]
theorem mulF_swap {n : Nat} {A B : Nat → Nat → Int} {a b : Nat} : mulF n (swapF A a b) B = swapF (mulF n A B) a b := by
  unfold swapF
  rw [mulF_set, mulF_set]
  rfl
theorem det_mul {n : Nat} (A B : Nat → Nat → Int) : det n (mulF n A B) = det n A * det n B := by
  refine row_ind (n := n) (P := fun A => det n (mulF n A B) = det n A * det n B) (fun F a b q ha hb hab h => ?_) (fun F a b ha hb hab h => ?_) (fun F hF => ?_) A
  · rw [mulF_add, det_add_row ha hb hab, det_add_row ha hb hab] at h; exact h
  · rw [mulF_swap, det_swap ha hb hab, det_swap ha hb hab] at h
    rw [Int.neg_mul] at h; omega
  · rw [det_upper hF]
    have key : ∀ j, j ≤ n → det n (fun i => if i < j then mulF n F B i else B i) = dprod (fun i => F i i) j * det n B := by
      intro j
      induction j with
      | zero => intro _; simp [dprod]
      | succ j ih =>
        intro hj
        rw [dprod, Int.mul_assoc, Int.mul_comm (F j j), ← Int.mul_assoc, ← ih (by omega), Int.mul_comm]
        rw [← det_comb (F := fun i => if i < j then mulF n F B i else B i) (r := j) (by omega) (F j)]
        refine det_congr fun i q hi hq => ?_
        unfold setF
        by_cases h : i = j
        · subst h
          simp only [if_pos (Nat.lt_succ_self i), if_pos]
          unfold mulF
          refine psum_congr fun k hk => ?_
          by_cases hlt : k < i
          · rw [hF k i (by omega) hlt hi]; simp
          · rw [if_neg hlt]
        · simp only [if_neg h]
          by_cases hlt : i < j
          · rw [if_pos hlt, if_pos (by omega)]
          · rw [if_neg hlt, if_neg (by omega)]
    rw [← key n (Nat.le_refl _)]
    exact det_congr fun i j hi hj => by rw [if_pos hi]
def trF (F : Nat → Nat → Int) : Nat → Nat → Int := fun i j => F j i
theorem det_id (n : Nat) : det n dl = 1 := by
  rw [det_upper (fun c' i h1 h2 h3 => by unfold dl; rw [if_neg (by omega)])]
  have : ∀ k, dprod (fun i => dl i i) k = 1 := by
    intro k
    induction k with
    | zero => rfl
    | succ k ih => rw [dprod, ih]; simp [dl]
  exact this n
theorem mul_dl {n : Nat} {F : Nat → Nat → Int} {i j : Nat} (hj : j < n) : psum (fun k => F i k * dl k j) n = F i j := by
  rw [psum_one hj (fun k hk => by unfold dl; rw [if_neg hk]; simp)]; simp [dl]
/-- A column step is a product with a changed unit matrix. -/
theorem det_tr_set {n : Nat} {F : Nat → Nat → Int} {a : Nat} (y : Nat → Int) (ha : a < n) : det n (trF (setF F a fun x => psum (fun k => y k * F k x) n)) = det n (trF F) * det n (trF (setF dl a y)) := by
  rw [← det_mul]
  refine det_congr fun i j hi hj => ?_
  unfold mulF trF setF
  by_cases h : j = a
  · simp only [if_pos h]
    exact psum_congr fun k _ => by grind
  · simp only [if_neg h]
    rw [psum_one hj (fun k hk => by unfold dl; rw [if_neg (Ne.symm hk)]; simp)]
    simp [dl]
theorem det_tr {n : Nat} (F : Nat → Nat → Int) : det n (trF F) = det n F := by
  refine row_ind (n := n) (P := fun F => det n (trF F) = det n F) (fun F a b q ha hb hab h => ?_) (fun F a b ha hb hab h => ?_) (fun F hF => ?_) F
  · rw [det_add_row ha hb hab] at h
    rw [← h]
    have h1 := det_tr_set (n := n) (F := F) (a := a) (fun k => dl k a + q * dl k b) ha
    have h2 : det n (trF (setF dl a fun k => dl k a + q * dl k b)) = 1 := by
      rw [← det_id n, ← det_add_row (F := dl) hb ha (Ne.symm hab) q]
      refine det_congr fun i j hi hj => ?_
      clear h1 h
      simp only [trF, setF_app, dl]
      grind
    rw [h2, Int.mul_one] at h1
    rw [← h1]
    refine det_congr fun i j hi hj => ?_
    unfold trF setF
    by_cases hja : j = a
    · simp only [if_pos hja]
      rw [psum_congr (g := fun k => F k i * dl k a + q * (F k i * dl k b)) (fun k _ => by grind), psum_add, psum_mul]
      rw [psum_one (a := a) ha (fun k hk => by unfold dl; rw [if_neg hk]; simp), psum_one (a := b) hb (fun k hk => by unfold dl; rw [if_neg hk]; simp)]
      simp [dl]
    · simp only [if_neg hja]
  · rw [det_swap ha hb hab] at h
    have h1 : det n (trF (swapF F a b)) = det n (trF F) * det n (swapF dl a b) := by
      rw [← det_mul]
      refine det_congr fun i j hi hj => ?_
      unfold mulF trF
      have hsym : ∀ k, swapF dl a b k j = if j = a then dl k b else if j = b then dl k a else dl k j := by
        intro k
        simp only [swapF_app, dl]
        grind
      rw [psum_congr (g := fun k => F k i * dl k (if j = a then b else if j = b then a else j)) (fun k _ => by rw [hsym]; grind)]
      rw [psum_one (a := if j = a then b else if j = b then a else j) (by grind) (fun k hk => by unfold dl; rw [if_neg hk]; simp)]
      simp only [dl, if_pos, Int.mul_one]
      by_cases h3 : j = a
      · subst h3; rw [swapF_at2, if_pos rfl]
      · rw [if_neg h3]
        by_cases h4 : j = b
        · subst h4; rw [swapF_at, if_pos rfl]
        · rw [swapF_ne _ h3 h4, if_neg h4]
    rw [det_swap ha hb hab, det_id] at h1
    omega
  · rw [det_upper hF, det_lower (F := trF F) (fun i j h1 h2 => hF i j (by omega) h1 h2)]
    rfl
end Go.QF
/-
  Plain: elimination without fractions (Bareiss): its entries are minors, its quotients are exact, its last pivot is the determinant up to the sign of the exchanges. No condition.
-/
namespace Go.QF
set_option linter.unusedVariables false
/-- The lower right part from k on. -/
def shF (k : Nat) (F : Nat → Nat → Int) : Nat → Nat → Int := fun i j => F (k + i) (k + j)
theorem skp_shift {i k a : Nat} (h : i < k + 1) : skp i (k + a) = k + 1 + a := by unfold skp; rw [if_neg (by omega)]; omega
/-- A block of zeros at the lower left. -/
theorem det_block : ∀ {k m : Nat} {T : Nat → Nat → Int}, (∀ i j, k ≤ i → i < k + m → j < k → T i j = 0) → det (k + m) T = det k T * det m (shF k T) := by
  intro k
  induction k with
  | zero =>
    intro m T _
    have e : shF 0 T = T := by funext i j; simp [shF]
    rw [e, Nat.zero_add]
    simp [det]
  | succ k ih =>
    intro m T h
    rw [show k + 1 + m = (k + m) + 1 by omega]
    simp only [det]
    rw [psum_cut (k := k + 1) (by omega) (fun i h1 h2 => by rw [h i 0 h1 (by omega) (by omega)]; simp)]
    rw [Int.mul_comm, ← psum_mul]
    refine psum_congr fun i hi => ?_
    rw [ih (T := minor0 i T) (m := m) (fun a b ha ha2 hb => by
      obtain ⟨c, rfl⟩ : ∃ c, a = k + c := ⟨a - k, by omega⟩
      unfold minor0; rw [skp_shift hi]; exact h _ _ (by omega) (by omega) (by omega))]
    have e : shF k (minor0 i T) = shF (k + 1) T := by
      funext a b
      unfold shF minor0
      rw [skp_shift hi, show k + b + 1 = k + 1 + b by omega]
    rw [e]
    grind
theorem det_eq_cols {n : Nat} {F : Nat → Nat → Int} {a b : Nat} (ha : a < n) (hb : b < n) (hab : a ≠ b) (h : ∀ i, F i a = F i b) : det n F = 0 := by
  rw [← det_tr]
  exact det_eq_rows ha hb hab (by funext i; exact h i)
theorem det_two (F : Nat → Nat → Int) : det 2 F = F 0 0 * F 1 1 - F 1 0 * F 0 1 := by
  simp [det, psum, minor0, skp, sg]
  grind
/-- Row k is i's, the others are their own. -/
def bro (k i r : Nat) : Nat := if r < k then r else i
/-- The minor of the rows 0 .. k-1, i and the columns 0 .. k-1, j. -/
def Mn (k : Nat) (A : Nat → Nat → Int) (i j : Nat) : Int := det (k + 1) fun r c => A (bro k i r) (bro k j c)
theorem mn_zero (A : Nat → Nat → Int) (i j : Nat) : Mn 0 A i j = A i j := by
  simp [Mn, det, psum, bro, sg]
theorem mn_lead (k : Nat) (A : Nat → Nat → Int) : Mn k A k k = det (k + 1) A := by
  refine det_congr fun r c hr hc => ?_
  have e : ∀ r, r < k + 1 → bro k k r = r := fun r hr => by unfold bro; split <;> omega
  rw [e r hr, e c hc]
theorem mn_eq {k : Nat} (A : Nat → Nat → Int) (i : Nat) {j : Nat} (hj : j < k) : Mn k A i j = 0 := by
  refine det_eq_cols (a := j) (b := k) (by omega) (by omega) (by omega) fun r => ?_
  unfold bro
  simp [hj]
/-- The factors of the rows in a minor. -/
def cof (k : Nat) (A : Nat → Nat → Int) (i s : Nat) : Int := det (k + 1) (setF (fun c r => A (bro k i r) c) k (dl s))
theorem psum_dl {n : Nat} (f : Nat → Int) {q : Nat} (hq : q < n) : psum (fun s => f s * dl s q) n = f q := by
  rw [psum_one hq (fun i hi => by unfold dl; rw [if_neg hi, Int.mul_zero])]
  simp [dl]
theorem mn_exp (k : Nat) (A : Nat → Nat → Int) (i j : Nat) : Mn k A i j = psum (fun s => cof k A i s * A s j) k + det k A * A i j := by
  have h1 : Mn k A i j = det (k + 1) (setF (fun c r => A (bro k i r) c) k fun q => psum (fun s => A (bro k i s) j * dl s q) (k + 1)) := by
    unfold Mn
    rw [← det_tr]
    refine det_congr fun c r hc hr => ?_
    rw [setF_app, psum_dl _ hr]
    unfold trF
    split
    · subst_vars; simp [bro]
    · have : c < k := by omega
      simp [bro, this]
  rw [h1, det_psum (by omega)]
  have hk : det (k + 1) (setF (fun c r => A (bro k i r) c) k (dl k)) = det k A := by
    rw [det_block (k := k) (m := 1) (T := setF (fun c r => A (bro k i r) c) k (dl k)) (fun a b h1 h2 h3 => by
      obtain rfl : a = k := by omega
      rw [setF_app, if_pos rfl]; unfold dl; rw [if_neg (by omega)])]
    have e1 : det k (setF (fun c r => A (bro k i r) c) k (dl k)) = det k A := by
      rw [← det_tr]
      refine det_congr fun r c hr hc => ?_
      unfold trF
      rw [setF_app, if_neg (by omega)]
      simp [bro, hr]
    have e2 : det 1 (shF k (setF (fun c r => A (bro k i r) c) k (dl k))) = 1 := by
      simp [det, psum, shF, sg, setF_app, dl]
    rw [e1, e2, Int.mul_one]
  show psum (fun s => A (bro k i s) j * det (k + 1) (setF (fun c r => A (bro k i r) c) k (dl s))) k + A (bro k i k) j * det (k + 1) (setF (fun c r => A (bro k i r) c) k (dl k)) = _
  rw [hk]
  congr 1
  · refine psum_congr fun s hs => ?_
    show _ = cof k A i s * A s j
    unfold cof
    rw [Int.mul_comm]
    simp [bro, hs]
  · simp [bro, Int.mul_comm]
theorem dprod_split (f : Nat → Int) (k m : Nat) : dprod f (k + m) = dprod f k * dprod (fun i => f (k + i)) m := by
  induction m with
  | zero => simp [dprod]
  | succ m ih => rw [← Nat.add_assoc]; simp only [dprod]; rw [ih]; grind
theorem dprod_one {f : Nat → Int} : ∀ {n : Nat}, (∀ i, i < n → f i = 1) → dprod f n = 1
  | 0, _ => rfl
  | n + 1, h => by rw [dprod, dprod_one fun i hi => h i (by omega), h n (by omega)]; rfl
/-- Row r of the lower factor: from row k on, the factors of the minor of row ρ r. -/
def lowF (k : Nat) (A : Nat → Nat → Int) (ρ : Nat → Nat) : Nat → Nat → Int := fun r s => if r < k then dl r s else if s < k then cof k A (ρ r) s else if s = r then det k A else 0
theorem lowF_mul {k n : Nat} {A B : Nat → Nat → Int} {ρ γ : Nat → Nat} (hkn : k ≤ n) (hρ : ∀ r, r < k → ρ r = r) (hB : ∀ r c, B r c = A (ρ r) (γ c)) {r c : Nat} (hr : r < n) : mulF n (lowF k A ρ) B r c = if r < k then B r c else Mn k A (ρ r) (γ c) := by
  unfold mulF
  by_cases h : r < k
  · rw [if_pos h, psum_one hr (fun i hi => by unfold lowF; rw [if_pos h]; unfold dl; rw [if_neg (fun e => hi e.symm), Int.zero_mul])]
    unfold lowF; rw [if_pos h]; simp [dl]
  · rw [if_neg h, mn_exp]
    obtain ⟨m, rfl⟩ : ∃ m, n = k + m := ⟨n - k, by omega⟩
    have hs : ∀ t, psum (fun s => lowF k A ρ r s * B s c) (k + t) = psum (fun s => cof k A (ρ r) s * A s (γ c)) k + (if r < k + t then det k A * A (ρ r) (γ c) else 0) := by
      intro t
      induction t with
      | zero =>
        rw [if_neg (by omega), Int.add_zero, Nat.add_zero]
        refine psum_congr fun s hs => ?_
        unfold lowF
        rw [if_neg h, if_pos hs, hB, hρ s hs]
      | succ t ih =>
        show psum (fun s => lowF k A ρ r s * B s c) (k + t) + lowF k A ρ r (k + t) * B (k + t) c = _
        rw [ih]
        have e : lowF k A ρ r (k + t) = if k + t = r then det k A else 0 := by unfold lowF; rw [if_neg h, if_neg (by omega)]
        rw [e, hB]
        rcases Nat.lt_trichotomy r (k + t) with h1 | h1 | h1
        · rw [if_pos h1, if_neg (by omega), if_pos (by omega)]; simp
        · subst h1; rw [if_neg (by omega), if_pos rfl, if_pos (by omega)]; omega
        · rw [if_neg (by omega), if_neg (by omega), if_neg (by omega)]; simp
    rw [hs, if_pos hr]
theorem lowF_det {k m : Nat} {A : Nat → Nat → Int} {ρ : Nat → Nat} : det (k + m) (lowF k A ρ) = dprod (fun _ => det k A) m := by
  rw [det_lower (fun i j hij hj => by
    unfold lowF
    split
    · unfold dl; rw [if_neg (by omega)]
    · rw [if_neg (by omega), if_neg (by omega)]), dprod_split, dprod_one, Int.one_mul]
  · refine dprod_congr fun i hi => ?_
    unfold lowF; rw [if_neg (by omega), if_neg (by omega), if_pos rfl]
  · intro i hi
    unfold lowF; rw [if_pos hi]; simp [dl]
/-- The step's quotient is exact: it is the next minor. -/
theorem mn_step {k : Nat} {A : Nat → Nat → Int} (h0 : det k A ≠ 0) (i j : Nat) : Mn k A k k * Mn k A i j - Mn k A i k * Mn k A k j = det k A * Mn (k + 1) A i j := by
  have h1 := det_mul (n := k + 2) (lowF k A (bro (k + 1) i)) fun r c => A (bro (k + 1) i r) (bro (k + 1) j c)
  have hm : ∀ r c, r < k + 2 → mulF (k + 2) (lowF k A (bro (k + 1) i)) (fun r c => A (bro (k + 1) i r) (bro (k + 1) j c)) r c = if r < k then A (bro (k + 1) i r) (bro (k + 1) j c) else Mn k A (bro (k + 1) i r) (bro (k + 1) j c) := fun r c hr =>
    lowF_mul (k := k) (n := k + 2) (A := A) (B := fun r c => A (bro (k + 1) i r) (bro (k + 1) j c)) (ρ := bro (k + 1) i) (γ := bro (k + 1) j) (by omega) (fun r hr => by unfold bro; rw [if_pos (by omega)]) (fun r c => rfl) hr
  rw [lowF_det, det_block (k := k) (m := 2) (fun a b ha ha2 hb => by
    rw [hm a b ha2, if_neg (by omega), show bro (k + 1) j b = b by unfold bro; rw [if_pos (by omega)]]
    exact mn_eq _ _ hb)] at h1
  have e1 : det k (mulF (k + 2) (lowF k A (bro (k + 1) i)) fun r c => A (bro (k + 1) i r) (bro (k + 1) j c)) = det k A := by
    refine det_congr fun r c hr hc => ?_
    rw [hm r c (by omega), if_pos hr]
    simp only [bro]
    rw [if_pos (by omega), if_pos (by omega)]
  have b0 : ∀ q, bro (k + 1) q (k + 0) = k := fun q => by unfold bro; rw [if_pos (by omega)]; rfl
  have b1 : ∀ q, bro (k + 1) q (k + 1) = q := fun q => by unfold bro; rw [if_neg (by omega)]
  rw [e1, det_two] at h1
  simp only [shF] at h1
  rw [hm _ _ (by omega), hm _ _ (by omega), hm _ _ (by omega), hm _ _ (by omega), if_neg (by omega), if_neg (by omega), if_neg (by omega), if_neg (by omega), b0, b0, b1, b1] at h1
  have e2 : dprod (fun _ => det k A) 2 = det k A * det k A := by simp [dprod]
  have e3 : (det (k + 2) fun r c => A (bro (k + 1) i r) (bro (k + 1) j c)) = Mn (k + 1) A i j := rfl
  rw [e2, e3, Int.mul_assoc] at h1
  exact Int.eq_of_mul_eq_mul_left h0 h1
/-! sizes -/
/-! the algorithm -/
end Go.QF
/-
  From the older words for matrices in memory to codecs, and back. No condition.
-/
namespace Go.QF
open Go
theorem slK_of_sl {h : Heap} {v : Value} {l : List Value} (H : Sl h v l) : SlK h 1 v (l.map fun x => [x]) := by
  obtain ⟨a, cap, hv, hc⟩ := H
  refine ⟨a, cap, by rw [List.length_map]; exact hv, fun i row hr => ?_⟩
  rw [List.getElem?_map] at hr
  obtain ⟨x, hx, rfl⟩ := Option.map_eq_some_iff.1 hr
  obtain ⟨b, o, ha, hb⟩ := hc i x hx
  refine ⟨b, o, ha, fun j y hy => ?_⟩
  cases j with
  | zero => injection hy with hy; subst hy; rw [Nat.mul_one, Nat.add_zero]; exact hb
  | succ j => simp at hy
theorem sl_of_slK {h : Heap} {v : Value} {l : List Value} (H : SlK h 1 v (l.map fun x => [x])) : Sl h v l := by
  obtain ⟨a, cap, hv, hc⟩ := H
  refine ⟨a, cap, by rw [List.length_map] at hv; exact hv, fun i x hx => ?_⟩
  obtain ⟨b, o, ha, hb⟩ := hc i [x] (by simp [hx])
  refine ⟨b, o, ha, ?_⟩
  have := hb 0 x rfl
  rwa [Nat.mul_one, Nat.add_zero] at this
theorem slC_of {κ : IntKind} {h : Heap} {v : Value} {L : List Int} (H : Sl h v (L.map (.int κ))) : SlC (cI κ) h v L := by
  refine ⟨L.map fun a => [.int κ a], ?_, by simp, fun i cs a h1 h2 => ?_⟩
  · have := slK_of_sl H
    rwa [List.map_map] at this
  · rw [List.getElem?_map, h2] at h1
    injection h1 with h1
    exact h1.symm
theorem sl_of {κ : IntKind} {h : Heap} {v : Value} {L : List Int} (H : SlC (cI κ) h v L) : Sl h v (L.map (.int κ)) := by
  obtain ⟨Ls, h1, h2, h3⟩ := H
  have : Ls = (L.map (Value.int κ)).map fun x => [x] := by
    apply List.ext_getElem?
    intro i
    by_cases hi : i < L.length
    · obtain ⟨a, ha⟩ : ∃ a, L[i]? = some a := ⟨L[i], List.getElem?_eq_getElem hi⟩
      obtain ⟨cs, hcs⟩ : ∃ cs, Ls[i]? = some cs := ⟨Ls[i]'(by omega), List.getElem?_eq_getElem _⟩
      have := h3 i cs a hcs ha
      rw [hcs, List.map_map, List.getElem?_map, ha]
      exact congrArg some this
    · rw [List.getElem?_eq_none (by omega), List.getElem?_eq_none (by simp; omega)]
  subst this
  exact sl_of_slK h1
theorem mat_of {h : Heap} {v : Value} {M : List (List Int)} (H : SlC2 (cI .i64) h v M) : Mat h v M := by
  obtain ⟨_, rs, h1, h2, h3⟩ := H
  exact ⟨rs, sl_of_slK h1, h2, fun i r z hr hz => sl_of (h3 i r z hr hz)⟩
theorem slC2_of {h : Heap} {v : Value} {M : List (List Int)} (H : Mat h v M) (hc : CapOk v) : SlC2 (cI .i64) h v M := by
  obtain ⟨rs, h1, h2, h3⟩ := H
  exact ⟨hc, rs, slK_of_sl h1, h2, fun i r z hr hz => slC_of (h3 i r z hr hz)⟩
end Go.QF
/-
  Plain: what lll.IsReduced computes, and that no number of it leaves 64 bits. No condition.
-/
namespace Go.QF
set_option linter.unusedVariables false
def Abs (x b : Int) : Prop := -b ≤ x ∧ x ≤ b
theorem abs_mul {x y a b : Int} (hx : Abs x a) (hy : Abs y b) : Abs (x * y) (a * b) := by
  unfold Abs at *
  have ha : 0 ≤ a := by omega
  have hb : 0 ≤ b := by omega
  have h1 : 0 ≤ (a - x) * (b - y) := Int.mul_nonneg (by omega) (by omega)
  have h2 : 0 ≤ (a - x) * (b + y) := Int.mul_nonneg (by omega) (by omega)
  have h3 : 0 ≤ (a + x) * (b - y) := Int.mul_nonneg (by omega) (by omega)
  have h4 : 0 ≤ (a + x) * (b + y) := Int.mul_nonneg (by omega) (by omega)
  constructor <;> grind
theorem tdiv_abs {x b y : Int} (hb : 0 < b) (hx : Abs x (b * y)) : Abs (x.tdiv b) y := by
  unfold Abs at *
  rcases lt_ge x 0 with h | h
  · have h1 : x.tdiv b = -((-x).tdiv b) := by rw [Int.neg_tdiv, Int.neg_neg]
    have h2 : (-x).tdiv b = (-x) / b := Int.tdiv_eq_ediv_of_nonneg (by omega)
    have h3 : (-x) / b ≤ y := by
      have : (-x) / b ≤ (b * y) / b := Int.ediv_le_ediv hb (by omega)
      rwa [Int.mul_ediv_cancel_left _ (by omega)] at this
    have h4 : 0 ≤ (-x) / b := Int.ediv_nonneg (by omega) (by omega)
    omega
  · have h2 : x.tdiv b = x / b := Int.tdiv_eq_ediv_of_nonneg h
    have h3 : x / b ≤ y := by
      have : x / b ≤ (b * y) / b := Int.ediv_le_ediv hb (by omega)
      rwa [Int.mul_ediv_cancel_left _ (by omega)] at this
    have h4 : 0 ≤ x / b := Int.ediv_nonneg h (by omega)
    omega
def SmallM (M : List (List Int)) : Prop := (1 ≤ M.length ∧ M.length ≤ 8) ∧ (∀ z ∈ M, z.length = M.length) ∧ ∀ i j, i < M.length → j < M.length → ent M i j = ent M j i ∧ -262144 < ent M i j ∧ ent M i j < 262144
open Classical in
noncomputable def smallMB (M : List (List Int)) : Bool := decide (SmallM M)
theorem smallMB_t {M : List (List Int)} (h : SmallM M) : true = smallMB M := by simp [smallMB, h]
theorem smallMB_f {M : List (List Int)} (h : ¬ SmallM M) : false = smallMB M := by simp [smallMB, h]
theorem of_smallMB {M : List (List Int)} (h : smallMB M = true) : SmallM M := by simpa [smallMB] using h
/-- The first entry of a stage is in range, and at least twice each entry below it. -/
def ShortF (m : Nat) (F : Nat → Nat → Int) : Prop := (0 < F 0 0 ∧ F 0 0 < 65536) ∧ ∀ i, 1 ≤ i → i < m → 2 * F i 0 ≤ F 0 0 ∧ -2 * F i 0 ≤ F 0 0
instance (m : Nat) (F : Nat → Nat → Int) : Decidable (ShortF m F) := by
  unfold ShortF
  have : Decidable (∀ i, 1 ≤ i → i < m → 2 * F i 0 ≤ F 0 0 ∧ -2 * F i 0 ≤ F 0 0) :=
    decidable_of_iff (∀ i, i < m → 1 ≤ i → 2 * F i 0 ≤ F 0 0 ∧ -2 * F i 0 ≤ F 0 0) ⟨fun h i a b => h i b a, fun h i a b => h i b a⟩
  infer_instance
def nxtF (F : Nat → Nat → Int) (last : Int) : Nat → Nat → Int := fun i j => (F 0 0 * F (i + 1) (j + 1) - F (i + 1) 0 * F 0 (j + 1)).tdiv last
/-- Lovasz's condition of the first two vectors of a stage. -/
def LovF (F : Nat → Nat → Int) (last : Int) : Prop := 3 * F 0 0 * F 0 0 ≤ 4 * (last * nxtF F last 0 0 + F 1 0 * F 1 0)
instance (F : Nat → Nat → Int) (last : Int) : Decidable (LovF F last) := by unfold LovF; infer_instance
def redB : Nat → (Nat → Nat → Int) → Int → Bool
  | 0, _, _ => false
  | 1, F, _ => decide (0 < F 0 0 ∧ F 0 0 ≤ 10000)
  | m + 2, F, last => decide (ShortF (m + 2) F) && (decide (LovF F last) && redB (m + 1) (nxtF F last) (F 0 0))
noncomputable def isRed (M : List (List Int)) : Bool := smallMB M && redB M.length (ent M) 1
/-- A stage: symmetric, its entries bounded. -/
structure Stg (m : Nat) (F : Nat → Nat → Int) (last : Int) (K : Int) : Prop where
  sym : ∀ i j, i < m → j < m → F i j = F j i
  bd : ∀ i j, i < m → j < m → Abs (F i j) (last * K)
  l1 : 1 ≤ last
  l2 : last ≤ 65535
theorem stg_next {m : Nat} {F : Nat → Nat → Int} {last K : Int} (H : Stg (m + 1) F last K) (hK : 0 ≤ K) (hs : ShortF (m + 1) F) : Stg m (nxtF F last) (F 0 0) (K + 16384) := by
  have hd := hs.1
  have hcol : ∀ i, i < m → Abs (2 * F (i + 1) 0) (F 0 0) := fun i hi => by
    have := hs.2 (i + 1) (by omega) (by omega)
    exact ⟨by omega, by omega⟩
  refine ⟨fun i j hi hj => ?_, fun i j hi hj => ?_, by omega, by omega⟩
  · unfold nxtF
    rw [H.sym (i + 1) (j + 1) (by omega) (by omega), H.sym (i + 1) 0 (by omega) (by omega), H.sym 0 (j + 1) (by omega) (by omega), Int.mul_comm (F 0 (i + 1))]
  · unfold nxtF
    refine tdiv_abs (by have := H.l1; omega) ?_
    have h1 : Abs (F 0 0 * F (i + 1) (j + 1)) (F 0 0 * (last * K)) := abs_mul ⟨by omega, by omega⟩ (H.bd _ _ (by omega) (by omega))
    have h2 : Abs (2 * F (i + 1) 0 * (2 * F 0 (j + 1))) (F 0 0 * F 0 0) := by
      refine abs_mul (hcol i hi) ?_
      rw [H.sym 0 (j + 1) (by omega) (by omega)]; exact hcol j hj
    have h3 : 0 ≤ F 0 0 * (65536 - F 0 0) := Int.mul_nonneg (by omega) (by omega)
    have h4 : 0 ≤ F 0 0 * (last - 1) := Int.mul_nonneg (by omega) (by have := H.l1; omega)
    unfold Abs at *
    have e1 : 2 * F (i + 1) 0 * (2 * F 0 (j + 1)) = 4 * (F (i + 1) 0 * F 0 (j + 1)) := by grind
    rw [e1] at h2
    have e2 : last * (F 0 0 * (K + 16384)) = F 0 0 * (last * K) + 16384 * (F 0 0 * last) := by grind
    rw [e2]
    have e3 : F 0 0 * (65536 - F 0 0) = 65536 * F 0 0 - F 0 0 * F 0 0 := by grind
    have e4 : F 0 0 * (last - 1) = F 0 0 * last - F 0 0 := by grind
    rw [e3] at h3
    rw [e4] at h4
    omega
theorem stg_start {M : List (List Int)} (h : SmallM M) : Stg M.length (ent M) 1 262144 := by
  refine ⟨fun i j hi hj => (h.2.2 i j hi hj).1, fun i j hi hj => ?_, by omega, by omega⟩
  have := h.2.2 i j hi hj
  unfold Abs; omega
theorem redB_short {m : Nat} {F : Nat → Nat → Int} {last : Int} (h : 2 ≤ m) (hs : ¬ ShortF m F) : redB m F last = false := by
  obtain ⟨n, rfl⟩ : ∃ n, m = n + 2 := ⟨m - 2, by omega⟩
  unfold redB
  rw [decide_eq_false hs]; rfl
theorem redB_lov {m : Nat} {F : Nat → Nat → Int} {last : Int} (h : 2 ≤ m) (hs : ¬ LovF F last) : redB m F last = false := by
  obtain ⟨n, rfl⟩ : ∃ n, m = n + 2 := ⟨m - 2, by omega⟩
  unfold redB
  rw [decide_eq_false hs, Bool.false_and, Bool.and_false]
theorem redB_next {m : Nat} {F : Nat → Nat → Int} {last : Int} (h : 2 ≤ m) (hs : ShortF m F) (hl : LovF F last) : redB m F last = redB (m - 1) (nxtF F last) (F 0 0) := by
  obtain ⟨n, rfl⟩ : ∃ n, m = n + 2 := ⟨m - 2, by omega⟩
  rw [redB, decide_eq_true hs, decide_eq_true hl]; rfl
/-- All entries fit. -/
theorem stg_fit {m : Nat} {F : Nat → Nat → Int} {last K : Int} (H : Stg m F last K) (hK0 : 0 ≤ K) (hK : K ≤ 393216) {i j : Nat} (hi : i < m) (hj : j < m) : Abs (F i j) 34359738368 := by
  have h1 := H.bd i j hi hj
  have h2 := (mul_bd (a := last) (b := K) (A := 65535) (B := 393216) (by have := H.l1; omega) H.l2 hK0 hK).2
  unfold Abs at *; omega
end Go.QF
/-
  Contracts of the row operations of package modular: scale, eliminator and the function that it returns. Conditions stand in each statement.
-/
namespace Go.Proofs.YtiegjkmfpcgjjaaDoor
open Go Go.QF
set_option linter.unusedVariables false
set_option maxRecDepth 100000
/-- A row by its index. -/
def zf (z : List Int) (c : Nat) : Int := z[c]?.getD 0
theorem range_zf (z : List Int) : (List.range z.length).map (zf z) = z := by
  refine List.ext_getElem (by simp) fun i h1 h2 => ?_
  simp [zf, h2]
theorem zf_bd {z : List Int} {m : Int} (hm : 0 < m) (h : ∀ x ∈ z, 0 ≤ x ∧ x < m) (c : Nat) : 0 ≤ zf z c ∧ zf z c < m := by
  unfold zf
  rcases Nat.lt_or_ge c z.length with hc | hc
  · simp [hc]; exact h _ (List.getElem_mem _)
  · simp [List.getElem?_eq_none hc, hm]
theorem scale_ok {h : Heap} {g : Nat} {v : Value} {z : List Int} (HO : OwnA h tI g v (z.map (.int .i64))) {f m : Int} (hz : ∀ x ∈ z, 0 ≤ x ∧ x < m) (hf : 0 ≤ f) (hfm : f < m) (hm : 2 ≤ m) (hm2 : m ≤ 2147483647) (hl : z.length ≤ 1000000) :
    CallH Tryd.prog 33 #[v, .int .i64 f, .int .i64 m] h fun r h' => Upd (· = g) h h' ∧ OwnA h' tI g v (((List.range z.length).map fun c => zf z c * f % m).map (.int .i64)) := by
  refine calls_of_W (l := [_, _, _]) mx Tryd.func33 rfl rfl rfl rfl rfl (by kernel_rfl) ?_
  refine w_seq ?_
  refine w_reg ?_
  refine r_mv (r_leni sl_I64 rfl HO.sl (r_mv (r_nil (q_t ?_))))
  refine w_block ?_
  refine w_loop 16776384 (fun j : Nat => [(10, .int .i64 (j : Int))]) (fun k j h' => Upd (· = g) h h' ∧ k = z.length - j ∧ j ≤ z.length ∧ OwnA h' tI g v ((mixR z.length (fun c => zf z c * f % m) (zf z) j).map (.int .i64))) (by kernel_rfl) z.length 0 ?_ ⟨rfl, trivial⟩ ?_
  · exact ⟨Upd.refl _ _, by omega, by omega, by rw [mixR_zero, range_zf]; exact HO⟩
  rintro k j s h1 ⟨hU, rfl, hj, HQ⟩
  refine w_seq ?_
  refine w_reg ?_
  refine r_lss rfl rfl (fun hc1 => ?_) (fun hc1 => ?_)   -- t11 := binOp lss 3 t10 t9 3
  · skip
    refine r_nil (q_t ?_)
    refine w_seq ?_
    refine w_true rfl ?_
    refine w_skip (q_t ?_)
    refine w_seq ?_
    refine w_block ?_
    refine w_seq ?_
    refine w_reg ?_
    refine r_mv (r_ixi sl_I64 rfl HQ.sl rfl (mixR_at (by omega)) fun aX haX => ?_)
    refine r_ld na_i64 rfl haX (r_as (r_as (r_nil (q_t ?_))))
    have hxb := zf_bd (by omega) hz j
    have hxf := mul_bd (a := zf z j) (b := f) (A := 2147483647) (B := 2147483647) (by omega) (by omega) (by omega) (by omega)
    refine w_reg ?_
    refine r_mv (r_mv (r_mv (r_mv (r_mulb rfl rfl (by omega) (by omega) (r_mv (r_remp rfl rfl (by omega) (by omega) (r_ixo sl_I64 rfl HQ rfl (by rw [List.length_map, mixR_len]; omega) ?_)))))))
    refine r_sto na_i64 rfl rfl rfl HQ (by rw [List.length_map, mixR_len]; omega) ?_
    have HQ2 := HQ.setI (j := j) (by rw [mixR_len]; omega) (zf z j * f % m)
    rw [mixR_set (by omega) rfl] at HQ2
    refine r_nil (q_b (q_t ?_))
    refine w_reg ?_
    refine r_inc rfl (by omega) (r_mv (r_nil (q_t ?_)))
    exact ⟨z.length - (j + 1), j + 1, by omega, ⟨hU.trans (upd_set _ _ _), rfl, by omega, HQ2⟩, rfl, trivial⟩
  · skip
    refine r_nil (q_t ?_)
    refine w_seq ?_
    refine w_false rfl ?_
    refine w_exit (q_tx (q_tx (q_bx ?_)))
    refine ⟨_, retV_none, ?_⟩
    rw [mixR_all _ _ (by omega)] at HQ
    exact ⟨hU, HQ⟩
theorem eliminate_ok {h : Heap} {g gr : Nat} {vt vr : Value} {t r : List Int} {a : Addr} (HT : OwnA h tI g vt (t.map (.int .i64))) (HR : OwnA h tI gr vr (r.map (.int .i64))) (hne : g ≠ gr) (htr : t.length = r.length) {f m : Int} (hb : cellH h a = some (.int .i64 m)) (hab : a.block ≠ g)
    (ht : ∀ x ∈ t, 0 ≤ x ∧ x < m) (hr : ∀ x ∈ r, 0 ≤ x ∧ x < m) (hf : 0 ≤ f) (hfm : f < m) (hm : 2 ≤ m) (hm2 : m ≤ 2147483647) (hl : r.length ≤ 1000000) :
    CallH Tryd.prog 37 #[vt, vr, .int .i64 f, .pointer (some a)] h fun _ h' => Upd (· = g) h h' ∧ OwnA h' tI g vt (((List.range r.length).map fun c => (zf t c + (m - f) * zf r c) % m).map (.int .i64)) := by
  refine calls_of_W (l := [_, _, _, _]) mx Tryd.func37 rfl rfl rfl rfl rfl (by kernel_rfl) ?_
  refine w_seq ?_
  refine w_reg ?_
  refine r_mv (r_leni sl_I64 rfl HR.sl (r_mv (r_nil (q_t ?_))))
  refine w_block ?_
  refine w_loop 4294965632 (fun j : Nat => [(11, .int .i64 (j : Int))]) (fun k j h' => Upd (· = g) h h' ∧ k = r.length - j ∧ j ≤ r.length ∧ OwnA h' tI g vt ((mixR r.length (fun c => (zf t c + (m - f) * zf r c) % m) (zf t) j).map (.int .i64))) (by kernel_rfl) r.length 0 ?_ ⟨rfl, trivial⟩ ?_
  · exact ⟨Upd.refl _ _, by omega, by omega, by rw [mixR_zero, ← htr, range_zf]; exact HT⟩
  rintro k j s h1 ⟨hU, rfl, hj, HQ⟩
  have HRc := HR.upd hU (fun he => hne he.symm)
  have hbx := cellH_upd hb hU (fun he => hab he)
  refine w_seq ?_
  refine w_reg ?_
  refine r_lss rfl rfl (fun hc1 => ?_) (fun hc1 => ?_)   -- t12 := binOp lss 3 t11 t10 3
  · skip
    refine r_nil (q_t ?_)
    refine w_seq ?_
    refine w_true rfl ?_
    refine w_skip (q_t ?_)
    refine w_seq ?_
    refine w_block ?_
    refine w_seq ?_
    refine w_reg ?_
    refine r_mv (r_ixi sl_I64 rfl HRc.sl rfl (show r[j]? = some (zf r j) by rw [zf, List.getElem?_eq_getElem (by omega)]; rfl) fun aX haX => ?_)
    refine r_ld na_i64 rfl haX (r_as (r_as (r_nil (q_t ?_))))
    have hxb := zf_bd (by omega) hr j
    have htb := zf_bd (by omega) ht j
    have hxf := mul_bd (a := m - f) (b := zf r j) (A := 2147483647) (B := 2147483647) (by omega) (by omega) (by omega) (by omega)
    refine w_draw (by kernel_rfl) ?_
    refine r_mv (r_mv (r_mv (r_mv (r_ixi sl_I64 rfl HQ.sl rfl (mixR_at (by omega)) fun aT haT => ?_))))
    refine r_ld na_i64 rfl haT (r_ld na_i64 rfl hbx (r_mv (r_subb rfl rfl (by omega) (by omega) (r_mv (r_mulb rfl rfl (by omega) (by omega) (r_addb rfl rfl (by omega) (by omega) (r_ld na_i64 rfl hbx (r_remp rfl rfl (by omega) (by omega) (r_ixo sl_I64 rfl HQ rfl (by rw [List.length_map, mixR_len]; omega) ?_)))))))))
    refine r_sto na_i64 rfl rfl rfl HQ (by rw [List.length_map, mixR_len]; omega) ?_
    have HQ2 := HQ.setI (j := j) (by rw [mixR_len]; omega) ((zf t j + (m - f) * zf r j) % m)
    rw [mixR_set (by omega) rfl] at HQ2
    refine r_nil (q_b (q_t ?_))
    refine w_reg ?_
    refine r_inc rfl (by omega) (r_mv (r_nil (q_t ?_)))
    exact ⟨r.length - (j + 1), j + 1, by omega, ⟨hU.trans (upd_set _ _ _), rfl, by omega, HQ2⟩, rfl, trivial⟩
  · skip
    refine r_nil (q_t ?_)
    refine w_seq ?_
    refine w_false rfl ?_
    refine w_exit (q_tx (q_tx (q_bx ?_)))
    refine ⟨_, retV_none, ?_⟩
    rw [mixR_all _ _ (by omega)] at HQ
    exact ⟨hU, HQ⟩
theorem eliminator_ok (m : Int) (h : Heap) : CallH Tryd.prog 30 #[.int .i64 m] h fun v h' => h' = h.push (.cells #[.int .i64 m] tI (0, 0)) ∧ v = .func (.func 37) #[] #[.pointer (some ⟨h.size, 0, none⟩)] := by
  refine calls_of_W (l := [_]) mx Tryd.func30 rfl rfl rfl rfl rfl (by kernel_rfl) ?_
  refine w_seq ?_
  refine w_reg ?_
  refine r_box trivial rfl ⟨trivial, ?_⟩
  refine r_as (r_nil (q_t ?_))
  refine w_seq ?_
  refine w_reg ?_
  refine r_mf (l := [.pointer (some ⟨h.size, 0, none⟩)]) rfl ?_
  refine r_as (r_nil (q_t ?_))
  refine w_ret ?_
  refine ⟨_, retV_1, ?_⟩
  exact ⟨rfl, rfl⟩
end Go.Proofs.YtiegjkmfpcgjjaaDoor
/-
  Contracts of echelon, Echelon, Rank of package modular. Conditions stand in each statement.
-/
namespace Go.Proofs.YtiegjkmfpcgjjaaDoor
open Go Go.QF
set_option linter.unusedVariables false
set_option maxRecDepth 100000
theorem zf_range {c : Nat} {g : Nat → Int} {q : Nat} (hq : q < c) : zf ((List.range c).map g) q = g q := by simp [zf, hq]
theorem range_at {α : Type} {c : Nat} {g : Nat → α} {q : Nat} (hq : q < c) : ((List.range c).map g)[q]? = some (g q) := by simp [hq]
theorem range_congr {α : Type} {c : Nat} {f g : Nat → α} (h : ∀ q, q < c → f q = g q) : (List.range c).map f = (List.range c).map g := List.map_congr_left fun q hq => h q (by simpa using hq)
theorem scale_row {c : Nat} {g : Nat → Int} {f m : Int} : (List.range ((List.range c).map g).length).map (fun q => zf ((List.range c).map g) q * f % m) = (List.range c).map fun q => g q * f % m := by
  rw [List.length_map, List.length_range]
  exact range_congr fun q hq => by rw [zf_range hq]
theorem elim_row {c : Nat} {g k : Nat → Int} {f m : Int} : (List.range ((List.range c).map g).length).map (fun q => (zf ((List.range c).map k) q + (m - f) * zf ((List.range c).map g) q) % m) = (List.range c).map fun q => (k q + (m - f) * g q) % m := by
  rw [List.length_map, List.length_range]
  exact range_congr fun q hq => by rw [zf_range hq, zf_range hq]
def natV (x : Nat) : Value := .int .i64 (x : Int)
/-- What holds in the elimination: the matrix, the pivots, the number in the closure's box; nothing else of old memory has turned. -/
def EchI (h h' : Heap) (b : Nat) (gs : List Nat) (v : Value) (r c : Nat) (p : Int) (F : Nat → Nat → Int) (pv : Value) (piv : List Nat) (gs' : List Nat) : Prop :=
  Upd (· ∈ b :: gs) h h' ∧ PartM h' tR tI b gs' v r (tab r c F) ∧ (∀ g ∈ gs', g ∈ gs) ∧ Gro h' 3 (h.size + 1) pv (piv.map natV) ∧ cellH h' ⟨h.size, 0, none⟩ = some (.int .i64 p) ∧ h.size + 1 ≤ h'.size
theorem EchI.turn {h h1 h2 : Heap} {b : Nat} {gs gs1 gs2 : List Nat} {v pv : Value} {r c : Nat} {p : Int} {F F2 : Nat → Nat → Int} {piv : List Nat} (H : EchI h h1 b gs v r c p F pv piv gs1) (hlt : ∀ g ∈ b :: gs, g < h.size) {g : Nat} (hU : Upd (· = g) h1 h2) (hg : g ∈ b :: gs)
    (HP : PartM h2 tR tI b gs2 v r (tab r c F2)) (hs : ∀ g ∈ gs2, g ∈ gs) : EchI h h2 b gs v r c p F2 pv piv gs2 := by
  obtain ⟨h3, h4, h5, h6, h7, h8⟩ := H
  have hgl := hlt g hg
  refine ⟨h3.trans (hU.mono fun k _ hk => by have hk2 : k = g := hk; rw [hk2]; exact hg), HP, hs, h6.upd hU (fun k hk he => by have he2 : k = g := he; have := (h6.blk k hk).1; omega), cellH_upd h7 hU (fun he => by have he2 : h.size = g := he; omega), Nat.le_trans h8 hU.1⟩
section
variable {P : Program} {B : Heap → Prop} {st : Bool} {ops : Array Oper} {rest : List Oper} {e : Env} {h : Heap} {K : Env → Heap → Prop}
variable {d : Nat} {ty : TypeId} {pos : String} {af : Array Edge}
end
theorem PartM.nodup {h : Heap} {er ei b n : Nat} {gs : List Nat} {v : Value} {M : List (List Int)} (H : PartM h er ei b gs v n M) : (b :: gs).Nodup := let ⟨_, _, _, _, _, _, h⟩ := H; h
end Go.Proofs.YtiegjkmfpcgjjaaDoor
/-
  Contracts of triangular of package modular: what every row step keeps, the result has. Conditions stand in each statement.
-/
namespace Go.Proofs.YtiegjkmfpcgjjaaDoor
open Go Go.QF
set_option linter.unusedVariables false
set_option maxRecDepth 100000
/-- What every step keeps. -/
def Keeps (n C : Nat) (m : Int) (Q : (Nat → Nat → Int) → Int → Prop) : Prop := ∀ F s c i q, c < n → i < n → c ≠ i → 0 ≤ q → q < m → Bd n C m F → Q F s → Q (stepF F c i q m) (-s)
theorem triangular_ok {h : Heap} {b : Nat} {gs : List Nat} {v : Value} {n C : Nat} {F : Nat → Nat → Int} {m : Int} (HP0 : PartM h tR tI b gs v n (tab n C F)) (hnC : n ≤ C) (hC : C ≤ 1000000) (hm : 2 ≤ m) (hm2 : m ≤ 2147483647) (hbd : Bd n C m F) (Q : (Nat → Nat → Int) → Int → Prop) (hQ0 : Q F 1) (hQ : Keeps n C m Q) :
    CallH Tryd.prog 17 #[v, .int .i64 m] h fun x h' => Upd (· ∈ b :: gs) h h' ∧ ∃ F1 s gs1, x = .int .i64 s ∧ (s = 1 ∨ s = -1) ∧ PartM h' tR tI b gs1 v n (tab n C F1) ∧ (∀ g ∈ gs1, g ∈ gs) ∧ Q F1 s ∧ Bd n C m F1 ∧ Zc n F1 n := by
  have HP := HP0
  refine calls_of_W (l := [_, _]) mx Tryd.func17 rfl rfl rfl rfl rfl (by kernel_rfl) ?_
  refine w_seq ?_
  refine w_reg ?_
  refine r_as (r_nil (q_t ?_))
  refine w_seq ?_
  refine w_reg ?_
  refine r_mv (r_call trivial rfl (eliminator_ok m h) fun fv h1 hk => ?_)
  obtain ⟨rfl, rfl⟩ := hk
  refine ⟨trivial, ?_⟩
  have hpush := ext_push h (.cells #[.int .i64 m] tI (0, 0))
  have HP := PartM.ext HP0 hpush
  have hlt := PartM.lt HP0
  refine r_as (r_nil (q_t ?_))
  refine w_seq ?_
  refine w_reg ?_
  refine r_as (r_nil (q_t ?_))
  refine w_seq ?_
  refine w_seq ?_
  refine w_reg ?_
  refine r_mv (r_lenp sl_MM rfl HP (r_mv (r_nil (q_t ?_))))
  refine w_block ?_
  refine w_loop 18889465931478580847040 (fun y : Nat × Int => [(13, .int .i64 (y.1 : Int)), (6, .int .i64 y.2)]) (fun k y h' => k = n - y.1 ∧ y.1 ≤ n ∧ (y.2 = 1 ∨ y.2 = -1) ∧ ∃ F1 gs1, EchI h h' b gs v n C m F1 (.slice none 0 0) [] gs1 ∧ Q F1 y.2 ∧ Bd n C m F1 ∧ Zc n F1 y.1) (by kernel_rfl) n (0, 1) ?_ ⟨rfl, rfl, trivial⟩ ?_
  · refine ⟨rfl, by omega, .inl rfl, F, gs, ⟨hpush.upd, HP, fun g hg => hg, gro_nil _ _ _, ?_, by simp⟩, hQ0, hbd, fun c' i h1 => by omega⟩
    simp [cellH]
  rintro k ⟨c, s1⟩ sx h1 ⟨rfl, hc, hs1, F1, gs1, HI1, hQ1, hbd1, hz1⟩
  dsimp only at hc hs1 hQ1 hz1 ⊢
  have HP1 := HI1.2.1
  refine w_seq ?_
  refine w_reg ?_
  refine r_lss rfl rfl (fun hc1 => ?_) (fun hc1 => ?_)   -- t14 := binOp lss 3 t13 t12 3
  · skip
    refine r_nil (q_t ?_)
    refine w_seq ?_
    refine w_true rfl ?_
    refine w_skip (q_t ?_)
    refine w_seq ?_
    refine w_block ?_
    refine w_seq ?_
    refine w_reg ?_
    refine r_mv (r_as (r_nil (q_t ?_)))
    refine w_seq ?_
    refine w_reg ?_
    refine r_mv (r_inc rfl (by omega) (r_as (r_nil (q_t ?_))))
    refine w_block ?_
    refine w_loop 9444732965739290165568 (fun y : Nat × Int => [(8, .int .i64 (y.1 : Int)), (6, .int .i64 y.2)]) (fun k y h' => k = n - y.1 ∧ c < y.1 ∧ y.1 ≤ n ∧ (y.2 = 1 ∨ y.2 = -1) ∧ ∃ F2 gs2, EchI h h' b gs v n C m F2 (.slice none 0 0) [] gs2 ∧ Q F2 y.2 ∧ Bd n C m F2 ∧ Zc n F2 c ∧ Zi F2 c y.1) (by kernel_rfl) (n - (c + 1)) (c + 1, s1) ?_ ⟨rfl, rfl, trivial⟩ ?_
    · exact ⟨rfl, by first | omega | (dsimp only; omega), by first | omega | (dsimp only; omega), hs1, F1, gs1, HI1, hQ1, hbd1, hz1, fun k h1 h2 => by omega⟩
    rintro k ⟨i, s2⟩ sy h2 ⟨rfl, hci, hi, hs2, F2, gs2, HI2, hQ2, hbd2, hz2, hzi2⟩
    dsimp only at hci hi hs2 hQ2 hzi2 ⊢
    have HP2 := HI2.2.1
    refine w_seq ?_
    refine w_seq ?_
    refine w_reg ?_
    refine r_mv (r_mv (r_lenp sl_MM rfl HP2 (r_lss rfl rfl (fun hc2 => ?_) (fun hc2 => ?_))))   -- t21 := binOp lss 3 t18 t20 3
    · skip
      refine r_nil (q_t ?_)
      refine w_true rfl ?_
      refine w_skip (q_t ?_)
      refine w_seq ?_
      refine w_block ?_
      refine w_block ?_
      refine w_loop 9444732965739273650240 (fun s3 : Int => [(6, .int .i64 s3)]) (fun k s3 h' => (s3 = 1 ∨ s3 = -1) ∧ ∃ F3 gs3, k = (F3 i c).toNat ∧ EchI h h' b gs v n C m F3 (.slice none 0 0) [] gs3 ∧ Q F3 s3 ∧ Bd n C m F3 ∧ Zc n F3 c ∧ Zi F3 c i) (by kernel_rfl) (F2 i c).toNat s2 ?_ ⟨rfl, trivial⟩ ?_
      · exact ⟨hs2, F2, gs2, rfl, HI2, hQ2, hbd2, hz2, hzi2⟩
      rintro k s3 sz h3 ⟨hs3, F3, gs3, rfl, HI3, hQ3, hbd3, hz3, hzi3⟩
      have HP3 := HI3.2.1
      refine w_seq ?_
      refine w_seq ?_
      refine w_reg ?_
      refine r_mv (r_mv (r_ixp sl_MM rfl HP3 rfl (tab_row (by omega)) fun aA rA gA haA hgA hrA => ?_))
      refine r_ld na_I64 rfl haA (r_mv (r_ixi sl_I64 rfl hrA.sl rfl (range_at (by omega)) fun aB haB => ?_))
      refine r_ld na_i64 rfl haB (r_neq rfl rfl (fun hc3 => ?_) (fun hc3 => ?_))   -- t31 := binOp neq 2 t30 0:i64 2
      · skip
        refine r_nil (q_t ?_)
        refine w_true rfl ?_
        refine w_skip (q_t ?_)
        refine w_block ?_
        refine w_seq ?_
        have hcc := hbd3 c c (by omega) (by omega)
        have hic := hbd3 i c (by omega) (by omega)
        have hq := quo_bd hcc.1 hcc.2 (b := F3 i c) (by omega)
        refine w_draw (by kernel_rfl) ?_
        refine r_mv (r_mv (r_mv (r_ixp sl_MM rfl HP3 rfl (tab_row (by omega)) fun aK rK gK haK hgK hrK => ?_)))
        refine r_ld na_I64 rfl haK (r_mv (r_mv (r_ixp sl_MM rfl HP3 rfl (tab_row (by omega)) fun aL rL gL haL hgL hrL => ?_)))
        refine r_ld na_I64 rfl haL ?_
        have hgKm : gK ∈ b :: gs := List.mem_cons_of_mem _ (HI3.2.2.1 _ (List.mem_of_getElem? hgK))
        have hneKL : gK ≠ gL := fun he => absurd (nodup_getElem?_inj (List.nodup_cons.1 (PartM.nodup HI3.2.1)).2 hgK (he ▸ hgL)) (by omega)
        refine r_mv ?_
        refine r_mv (r_ixp sl_MM rfl HP3 rfl (tab_row (by omega)) fun aN rN gN haN hgN hrN => ?_)
        refine r_ld na_I64 rfl haN (r_mv (r_ixi sl_I64 rfl hrN.sl rfl (range_at (by omega)) fun aU haU => ?_))
        refine r_ld na_i64 rfl haU (r_mv (r_mv (r_ixp sl_MM rfl HP3 rfl (tab_row (by omega)) fun aO rO gO haO hgO hrO => ?_)))
        refine r_ld na_I64 rfl haO (r_mv (r_ixi sl_I64 rfl hrO.sl rfl (range_at (by omega)) fun aV haV => ?_))
        refine r_ld na_i64 rfl haV (r_quop rfl rfl (by omega) (by omega) (by omega) (r_callc trivial rfl rfl (eliminate_ok (a := ⟨h.size, 0, none⟩) hrK hrL hneKL (by simp) HI3.2.2.2.2.1 (by have := hlt _ hgKm; dsimp only; omega) (row_bd hbd3 (by omega)) (row_bd hbd3 (by omega)) hq.1 hq.2 hm hm2 (by simp; omega)) fun ev h7 hk => ?_))
        obtain ⟨hU7, HO7⟩ := hk
        refine ⟨trivial, ?_⟩
        rw [elim_row] at HO7
        have HP7 := PartM.setRow' HI3.2.1 hgK hU7 (tab_row (by omega)) hrK HO7
        rw [tab_setF] at HP7
        have HI7 := HI3.turn hlt hU7 hgKm HP7 HI3.2.2.1
        have HP3 := HP7
        refine r_nil (q_t ?_)
        refine w_seq ?_
        refine w_draw (by kernel_rfl) ?_
        refine r_mv (r_mv (r_mv (r_mv (r_mv (r_mv (r_ixp sl_MM rfl HP3 rfl (tab_row (by omega)) fun aI rI gI haI hgI hrI => ?_))))))
        refine r_ld na_I64 rfl haI (r_mv (r_mv (r_ixp sl_MM rfl HP3 rfl (tab_row (by omega)) fun aT rT gT haT hgT hrT => ?_)))
        refine r_ld na_I64 rfl haT ?_
        obtain ⟨rs, HT, hrl⟩ := PartM.top HP3
        refine r_ixo sl_MM rfl HT rfl (by omega) ?_
        refine r_sto na_I64 rfl rfl hrI.one HT (by omega) ?_
        have HT2 := HT.set c rI (by omega)
        refine r_ixo sl_MM rfl HT2 rfl (by simp; omega) ?_
        refine r_sto na_I64 rfl rfl hrT.one HT2 (by simp; omega) ?_
        have HP8 := PartM.swap HP3 hgT hgI (tab_row (by omega)) (tab_row (by omega)) hrT hrI
        rw [tab_setF, tab_setF] at HP8
        have HI8 := HI7.turn hlt ((upd_set _ ⟨b, c, none⟩ rI).trans (upd_set _ ⟨b, i, none⟩ rT)) (List.mem_cons_self ..) (F2 := stepF F3 c i (F3 c c / F3 i c) m) HP8 (fun g hg => HI7.2.2.1 g (mem_swap hgT hgI hg))
        refine r_nil (q_t ?_)
        refine w_reg ?_
        refine r_mv (r_neg rfl ?_)
        have hws : IntKind.i64.wrap (0 - s3) = -s3 := by rw [IntKind.wrap_i64]; omega
        rw [hws]
        refine r_as (r_nil (q_b (q_t ?_)))
        have hv3 : stepF F3 c i (F3 c c / F3 i c) m i c = F3 c c % F3 i c := by rw [stepF_i]; exact step_lt hcc.1 hcc.2 (by omega) hic.2
        have hl3 := Int.emod_lt_of_pos (F3 c c) (b := F3 i c) (by omega)
        exact ⟨_, -s3, by rw [hv3]; omega, ⟨by omega, _, _, rfl, HI8, hQ _ _ _ _ _ (by omega) (by omega) (by omega) hq.1 hq.2 hbd3 hQ3, bd_step (by omega) hbd3 (by omega) (by omega), zc_step hz3 (by omega) (by omega), zi_step hzi3⟩, rfl, trivial⟩
      · skip
        refine r_nil (q_t ?_)
        refine w_false rfl ?_
        refine w_exit (q_tx (q_tx (q_bx (q_b (q_t ?_)))))
        refine w_reg ?_
        refine r_mv (r_inc rfl (by omega) (r_as (r_nil (q_t ?_))))
        exact ⟨n - (i + 1), (i + 1, s3), by first | omega | (dsimp only; omega), ⟨rfl, by first | omega | (dsimp only; omega), by first | omega | (dsimp only; omega), hs3, F3, gs3, HI3, hQ3, hbd3, hz3, zi_succ hzi3 hc3⟩, rfl, rfl, trivial⟩
    · skip
      refine r_nil (q_t ?_)
      refine w_false rfl ?_
      refine w_exit (q_tx (q_tx (q_bx (q_b (q_t ?_)))))
      refine w_reg ?_
      refine r_inc rfl (by omega) (r_mv (r_nil (q_t ?_)))
      obtain rfl : i = n := by omega
      exact ⟨i - (c + 1), (c + 1, s2), by first | omega | (dsimp only; omega), ⟨rfl, by first | omega | (dsimp only; omega), hs2, F2, gs2, HI2, hQ2, hbd2, zc_succ hz2 hzi2⟩, rfl, rfl, trivial⟩
  · skip
    refine r_nil (q_t ?_)
    refine w_seq ?_
    refine w_false rfl ?_
    refine w_exit (q_tx (q_tx (q_bx (q_t ?_))))
    refine w_seq ?_
    refine w_reg ?_
    refine r_mv (r_as (r_nil (q_t ?_)))
    refine w_ret ?_
    refine ⟨_, retV_1, ?_⟩
    obtain rfl : c = n := by omega
    exact ⟨HI1.1, F1, s1, gs1, rfl, hs1, HI1.2.1, HI1.2.2.1, hQ1, hbd1, hz1⟩
end Go.Proofs.YtiegjkmfpcgjjaaDoor
/-
  Contracts of lll.IsReduced and its parts. Conditions stand in each statement.
-/
namespace Go.Proofs.YtiegjkmfpcgjjaaDoor
open Go Go.QF
set_option linter.unusedVariables false
set_option linter.unusedSimpArgs false
set_option maxRecDepth 100000
theorem isSmall_ok {h : Heap} {v : Value} {M : List (List Int)} (HM : Mat h v M) : CallH Tryd.prog 34 #[v] h fun x h' => h' = h ∧ x = .bool (smallMB M) := by
  refine calls_of_W (l := [_]) mx Tryd.func34 rfl rfl rfl rfl rfl (by kernel_rfl) ?_
  refine w_seq ?_
  refine w_reg ?_
  refine r_as (r_nil (q_t ?_))
  refine w_seq ?_
  refine w_reg ?_
  refine r_mv (r_lenm sl_MM rfl HM (r_as (r_nil (q_t ?_))))
  refine w_seq ?_
  refine w_seq ?_
  refine w_reg ?_
  refine r_mv (r_lss rfl rfl (fun hc1 => ?_) (fun hc1 => ?_))   -- t13 := binOp lss 3 t12 1:i64 3
  · skip
    refine r_mv (r_skip 14 true (by kernel_rfl) rfl rfl (r_skip 14 true (by kernel_rfl) rfl rfl (r_pickT rfl (r_nil (q_t ?_)))))
    refine w_true rfl ?_
    refine w_seq ?_
    refine w_reg ?_
    refine r_as (r_nil (q_t ?_))
    refine w_ret (q_tr ?_)
    refine ⟨_, retV_1, ?_⟩
    first
      | exact ⟨rfl, congrArg Value.bool (smallMB_f fun hh => by have := hh.1; omega)⟩
      | exact ⟨rfl, congrArg Value.bool (smallMB_f fun hh => by have := hh.2.1 M[i] (List.getElem_mem _); omega)⟩
      | exact ⟨rfl, congrArg Value.bool (smallMB_f fun hh => by have := hh.2.2 a b (by omega) (by omega); omega)⟩
      | exact ⟨rfl, congrArg Value.bool (smallMB_t ⟨⟨by omega, by omega⟩, hrows, fun x y hx hy => hall x y (by omega) hy⟩)⟩
  · skip
    refine r_mv (r_want 14 false (by kernel_rfl) rfl rfl (r_mv (r_want 14 false (by kernel_rfl) rfl rfl (r_gtr rfl rfl (fun hc2 => ?_) (fun hc2 => ?_)))))   -- t16 := binOp gtr 3 t15 8:i64 3   [guard op2 false]
    · skip
      refine r_pickF rfl (r_nil (q_t ?_))
      refine w_true rfl ?_
      refine w_seq ?_
      refine w_reg ?_
      refine r_as (r_nil (q_t ?_))
      refine w_ret (q_tr ?_)
      refine ⟨_, retV_1, ?_⟩
      first
        | exact ⟨rfl, congrArg Value.bool (smallMB_f fun hh => by have := hh.1; omega)⟩
        | exact ⟨rfl, congrArg Value.bool (smallMB_f fun hh => by have := hh.2.1 M[i] (List.getElem_mem _); omega)⟩
        | exact ⟨rfl, congrArg Value.bool (smallMB_f fun hh => by have := hh.2.2 a b (by omega) (by omega); omega)⟩
        | exact ⟨rfl, congrArg Value.bool (smallMB_t ⟨⟨by omega, by omega⟩, hrows, fun x y hx hy => hall x y (by omega) hy⟩)⟩
    · skip
      refine r_pickF rfl (r_nil (q_t ?_))
      refine w_false rfl ?_
      refine w_skip (q_t ?_)
      refine w_seq ?_
      refine w_seq ?_
      refine w_reg ?_
      refine r_mv (r_lenm sl_MM rfl HM (r_mv (r_nil (q_t ?_))))
      refine w_block ?_
      refine w_loop 535822372 (fun i : Nat => [(20, .int .i64 (i : Int))]) (fun k i h' => h' = h ∧ k = M.length - i ∧ i ≤ M.length ∧ ∀ j (hj : j < M.length), j < i → M[j].length = M.length) (by kernel_rfl) M.length 0 ?_ ⟨rfl, trivial⟩ ?_
      · exact ⟨rfl, rfl, Nat.zero_le _, fun j _ hj => by omega⟩
      rintro k i s1 h ⟨rfl, rfl, hi, hrow⟩
      refine w_seq ?_
      refine w_reg ?_
      refine r_lss rfl rfl (fun hc3 => ?_) (fun hc3 => ?_)   -- t21 := binOp lss 3 t20 t19 3
      · skip
        refine r_nil (q_t ?_)
        refine w_seq ?_
        refine w_true rfl ?_
        refine w_skip (q_t ?_)
        refine w_seq ?_
        refine w_block ?_
        refine w_seq ?_
        refine w_reg ?_
        refine r_ixm sl_MM rfl HM rfl (List.getElem?_eq_getElem (by omega)) fun aR rR haR hrR => ?_
        refine r_ld na_I64 rfl haR (r_as (r_nil (q_t ?_)))
        refine w_seq ?_
        refine w_reg ?_
        refine r_mv (r_leni sl_I64 rfl hrR (r_mv (r_neq rfl rfl (fun hc4 => ?_) (fun hc4 => ?_))))   -- t27 := binOp neq 3 t25 t26 3
        · skip
          refine r_nil (q_t ?_)
          refine w_true rfl ?_
          refine w_seq ?_
          refine w_reg ?_
          refine r_as (r_nil (q_t ?_))
          refine w_ret (q_br (q_tr (q_tr (q_br (q_tr ?_)))))
          refine ⟨_, retV_1, ?_⟩
          first
            | exact ⟨rfl, congrArg Value.bool (smallMB_f fun hh => by have := hh.1; omega)⟩
            | exact ⟨rfl, congrArg Value.bool (smallMB_f fun hh => by have := hh.2.1 M[i] (List.getElem_mem _); omega)⟩
            | exact ⟨rfl, congrArg Value.bool (smallMB_f fun hh => by have := hh.2.2 a b (by omega) (by omega); omega)⟩
            | exact ⟨rfl, congrArg Value.bool (smallMB_t ⟨⟨by omega, by omega⟩, hrows, fun x y hx hy => hall x y (by omega) hy⟩)⟩
        · skip
          refine r_nil (q_t ?_)
          refine w_false rfl ?_
          refine w_skip (q_b (q_t ?_))
          refine w_reg ?_
          refine r_inc rfl (by omega) (r_mv (r_nil (q_t ?_)))
          exact ⟨M.length - (i + 1), i + 1, by omega, ⟨rfl, rfl, by omega, fun j hj hj2 => by rcases Nat.lt_succ_iff_lt_or_eq.1 hj2 with q | rfl; exact hrow j hj q; omega⟩, rfl, trivial⟩
      · skip
        refine r_nil (q_t ?_)
        refine w_seq ?_
        refine w_false rfl ?_
        refine w_exit (q_tx (q_tx (q_bx (q_t ?_))))
        refine w_seq ?_
        refine w_seq ?_
        have hrows : ∀ z ∈ M, z.length = M.length := fun z hz => by obtain ⟨j, hj, rfl⟩ := List.getElem_of_mem hz; exact hrow j hj (by omega)
        have HM2 : Mat h v (tab M.length M.length (ent M)) := (tab_eq hrows) ▸ HM
        refine w_reg ?_
        refine r_mv (r_lenm sl_MM rfl HM2 ?_)
        rw [tab_len]
        refine r_mv (r_nil (q_t ?_))
        refine w_block ?_
        refine w_loop 4611686016279905220 (fun a : Nat => [(31, .int .i64 (a : Int))]) (fun k a h' => h' = h ∧ k = M.length - a ∧ a ≤ M.length ∧ ∀ x y, x < a → y < M.length → ent M x y = ent M y x ∧ -262144 < ent M x y ∧ ent M x y < 262144) (by kernel_rfl) M.length 0 ?_ ⟨rfl, trivial⟩ ?_
        · exact ⟨rfl, rfl, Nat.zero_le _, fun x y hx => by omega⟩
        rintro k a s2 h ⟨rfl, rfl, ha, hall⟩
        refine w_seq ?_
        refine w_reg ?_
        refine r_lss rfl rfl (fun hc5 => ?_) (fun hc5 => ?_)   -- t32 := binOp lss 3 t31 t30 3
        · skip
          refine r_nil (q_t ?_)
          refine w_seq ?_
          refine w_true rfl ?_
          refine w_skip (q_t ?_)
          refine w_seq ?_
          refine w_block ?_
          refine w_seq ?_
          refine w_reg ?_
          refine r_mv (r_ixm sl_MM rfl HM2 rfl (tab_row (by omega)) fun aS rS haS hrS => ?_)
          refine r_ld na_I64 rfl haS (r_as (r_as (r_nil (q_t ?_))))
          refine w_seq ?_
          refine w_reg ?_
          refine r_mv (r_leni sl_I64 rfl hrS ?_)
          rw [List.length_map, List.length_range]
          refine r_mv (r_nil (q_t ?_))
          refine w_block ?_
          refine w_loop 2305842734335787780 (fun b : Nat => [(38, .int .i64 (b : Int))]) (fun k b h' => h' = h ∧ k = M.length - b ∧ b ≤ M.length ∧ ∀ y, y < b → ent M a y = ent M y a ∧ -262144 < ent M a y ∧ ent M a y < 262144) (by kernel_rfl) M.length 0 ?_ ⟨rfl, trivial⟩ ?_
          · exact ⟨rfl, rfl, Nat.zero_le _, fun y hy => by omega⟩
          rintro k b s3 h ⟨rfl, rfl, hb, hrw⟩
          refine w_seq ?_
          refine w_reg ?_
          refine r_lss rfl rfl (fun hc6 => ?_) (fun hc6 => ?_)   -- t39 := binOp lss 3 t38 t37 3
          · skip
            refine r_nil (q_t ?_)
            refine w_seq ?_
            refine w_true rfl ?_
            refine w_skip (q_t ?_)
            refine w_seq ?_
            refine w_block ?_
            refine w_seq ?_
            refine w_reg ?_
            refine r_mv (r_ixi sl_I64 rfl hrS rfl (range_at (by omega)) fun aq1 haq1 => ?_)
            refine r_ld na_i64 rfl haq1 (r_as (r_as (r_nil (q_t ?_))))
            refine w_seq ?_
            refine w_reg ?_
            refine r_mv (r_mv (r_mv (r_ixm sl_MM rfl HM2 rfl (tab_row (by omega)) fun aT rT haT hrT => ?_)))
            refine r_ld na_I64 rfl haT (r_mv (r_ixi sl_I64 rfl hrT rfl (range_at (by omega)) fun aq2 haq2 => ?_))
            refine r_ld na_i64 rfl haq2 (r_neq rfl rfl (fun hc7 => ?_) (fun hc7 => ?_))   -- t51 := binOp neq 2 t43 t50 2
            · skip
              refine r_mv (r_skip 52 true (by kernel_rfl) rfl rfl (r_skip 52 true (by kernel_rfl) rfl rfl (r_pickT rfl (r_mv (r_skip 56 true (by kernel_rfl) rfl rfl (r_skip 56 true (by kernel_rfl) rfl rfl (r_pickT rfl (r_nil (q_t ?_)))))))))
              refine w_true rfl ?_
              refine w_seq ?_
              refine w_reg ?_
              refine r_as (r_nil (q_t ?_))
              refine w_ret (q_br (q_tr (q_tr (q_br (q_br (q_tr (q_tr (q_br (q_tr ?_)))))))))
              refine ⟨_, retV_1, ?_⟩
              first
                | exact ⟨rfl, congrArg Value.bool (smallMB_f fun hh => by have := hh.1; omega)⟩
                | exact ⟨rfl, congrArg Value.bool (smallMB_f fun hh => by have := hh.2.1 M[i] (List.getElem_mem _); omega)⟩
                | exact ⟨rfl, congrArg Value.bool (smallMB_f fun hh => by have := hh.2.2 a b (by omega) (by omega); omega)⟩
                | exact ⟨rfl, congrArg Value.bool (smallMB_t ⟨⟨by omega, by omega⟩, hrows, fun x y hx hy => hall x y (by omega) hy⟩)⟩
            · skip
              refine r_mv (r_want 52 false (by kernel_rfl) rfl rfl (r_mv (r_want 52 false (by kernel_rfl) rfl rfl (r_leq rfl rfl (fun hc8 => ?_) (fun hc8 => ?_)))))   -- t54 := binOp leq 2 t53 -262144:i64 2   [guard op9 false]
              · skip
                refine r_pickF rfl (r_mv (r_skip 56 true (by kernel_rfl) rfl rfl (r_skip 56 true (by kernel_rfl) rfl rfl (r_pickT rfl (r_nil (q_t ?_))))))
                refine w_true rfl ?_
                refine w_seq ?_
                refine w_reg ?_
                refine r_as (r_nil (q_t ?_))
                refine w_ret (q_br (q_tr (q_tr (q_br (q_br (q_tr (q_tr (q_br (q_tr ?_)))))))))
                refine ⟨_, retV_1, ?_⟩
                first
                  | exact ⟨rfl, congrArg Value.bool (smallMB_f fun hh => by have := hh.1; omega)⟩
                  | exact ⟨rfl, congrArg Value.bool (smallMB_f fun hh => by have := hh.2.1 M[i] (List.getElem_mem _); omega)⟩
                  | exact ⟨rfl, congrArg Value.bool (smallMB_f fun hh => by have := hh.2.2 a b (by omega) (by omega); omega)⟩
                  | exact ⟨rfl, congrArg Value.bool (smallMB_t ⟨⟨by omega, by omega⟩, hrows, fun x y hx hy => hall x y (by omega) hy⟩)⟩
              · skip
                refine r_pickF rfl (r_mv (r_want 56 false (by kernel_rfl) rfl rfl (r_mv (r_want 56 false (by kernel_rfl) rfl rfl (r_geq rfl rfl (fun hc9 => ?_) (fun hc9 => ?_))))))   -- t58 := binOp geq 2 t57 262144:i64 2   [guard op13 false]
                · skip
                  refine r_pickF rfl (r_nil (q_t ?_))
                  refine w_true rfl ?_
                  refine w_seq ?_
                  refine w_reg ?_
                  refine r_as (r_nil (q_t ?_))
                  refine w_ret (q_br (q_tr (q_tr (q_br (q_br (q_tr (q_tr (q_br (q_tr ?_)))))))))
                  refine ⟨_, retV_1, ?_⟩
                  first
                    | exact ⟨rfl, congrArg Value.bool (smallMB_f fun hh => by have := hh.1; omega)⟩
                    | exact ⟨rfl, congrArg Value.bool (smallMB_f fun hh => by have := hh.2.1 M[i] (List.getElem_mem _); omega)⟩
                    | exact ⟨rfl, congrArg Value.bool (smallMB_f fun hh => by have := hh.2.2 a b (by omega) (by omega); omega)⟩
                    | exact ⟨rfl, congrArg Value.bool (smallMB_t ⟨⟨by omega, by omega⟩, hrows, fun x y hx hy => hall x y (by omega) hy⟩)⟩
                · skip
                  refine r_pickF rfl (r_nil (q_t ?_))
                  refine w_false rfl ?_
                  refine w_skip (q_b (q_t ?_))
                  refine w_reg ?_
                  refine r_inc rfl (by omega) (r_mv (r_nil (q_t ?_)))
                  exact ⟨M.length - (b + 1), b + 1, by omega, ⟨rfl, rfl, by omega, fun y hy => by rcases Nat.lt_succ_iff_lt_or_eq.1 hy with q | rfl; exact hrw y q; exact ⟨by omega, by omega, by omega⟩⟩, rfl, trivial⟩
          · skip
            refine r_nil (q_t ?_)
            refine w_seq ?_
            refine w_false rfl ?_
            refine w_exit (q_tx (q_tx (q_bx (q_b (q_t ?_)))))
            refine w_reg ?_
            refine r_inc rfl (by omega) (r_mv (r_nil (q_t ?_)))
            exact ⟨M.length - (a + 1), a + 1, by omega, ⟨rfl, rfl, by omega, fun x y hx hy => by rcases Nat.lt_succ_iff_lt_or_eq.1 hx with q | rfl; exact hall x y q hy; exact hrw y (by omega)⟩, rfl, trivial⟩
        · skip
          refine r_nil (q_t ?_)
          refine w_seq ?_
          refine w_false rfl ?_
          refine w_exit (q_tx (q_tx (q_bx (q_t ?_))))
          refine w_seq ?_
          refine w_reg ?_
          refine r_as (r_nil (q_t ?_))
          refine w_ret ?_
          refine ⟨_, retV_1, ?_⟩
          first
            | exact ⟨rfl, congrArg Value.bool (smallMB_f fun hh => by have := hh.1; omega)⟩
            | exact ⟨rfl, congrArg Value.bool (smallMB_f fun hh => by have := hh.2.1 M[i] (List.getElem_mem _); omega)⟩
            | exact ⟨rfl, congrArg Value.bool (smallMB_f fun hh => by have := hh.2.2 a b (by omega) (by omega); omega)⟩
            | exact ⟨rfl, congrArg Value.bool (smallMB_t ⟨⟨by omega, by omega⟩, hrows, fun x y hx hy => hall x y (by omega) hy⟩)⟩
theorem drop_tab {m : Nat} {F : Nat → Nat → Int} : (tab m m F).drop 1 = tab (m - 1) m fun i j => F (i + 1) j := by
  refine List.ext_getElem (by simp [tab]) fun i h1 h2 => ?_
  simp [tab, Nat.add_comm]
theorem isShortened_ok {h : Heap} {v : Value} {m : Nat} {F : Nat → Nat → Int} (HM : Mat h v (tab m m F)) (hcap : CapOk v) (hm : 1 ≤ m) (hm8 : m ≤ 8) (hfit : ∀ i, i < m → Abs (F i 0) 34359738368) : CallH Tryd.prog 35 #[v] h fun x h' => h' = h ∧ x = .bool (decide (ShortF m F)) := by
  refine calls_of_W (l := [_]) mx Tryd.func35 rfl rfl rfl rfl rfl (by kernel_rfl) ?_
  refine w_seq ?_
  refine w_reg ?_
  refine r_as (r_nil (q_t ?_))
  refine w_seq ?_
  refine w_reg ?_
  refine r_mv (r_ixm (n := 0) sl_MM rfl HM rfl (tab_row (by omega)) fun aq1 rq1 haq1 hrq1 => ?_)
  refine r_ld na_I64 rfl haq1 (r_ixi (n := 0) sl_I64 rfl hrq1 rfl (range_at (by omega)) fun aq2 haq2 => ?_)
  refine r_ld na_i64 rfl haq2 (r_as (r_nil (q_t ?_)))
  refine w_seq ?_
  refine w_seq ?_
  refine w_reg ?_
  refine r_mv (r_leq rfl rfl (fun hc1 => ?_) (fun hc1 => ?_))   -- t12 := binOp leq 2 t11 0:i64 2
  · skip
    refine r_mv (r_skip 13 true (by kernel_rfl) rfl rfl (r_skip 13 true (by kernel_rfl) rfl rfl (r_pickT rfl (r_nil (q_t ?_)))))
    refine w_true rfl ?_
    refine w_seq ?_
    refine w_reg ?_
    refine r_as (r_nil (q_t ?_))
    refine w_ret (q_tr ?_)
    refine ⟨_, retV_1, ?_⟩
    first
      | exact ⟨rfl, congrArg Value.bool (decide_eq_false (fun hh => by have := hh.1; omega)).symm⟩
      | exact ⟨rfl, congrArg Value.bool (decide_eq_false (fun hh => by have := hh.2 (i + 1) (by omega) (by omega); omega)).symm⟩
      | exact ⟨rfl, congrArg Value.bool (decide_eq_true ⟨⟨by omega, by omega⟩, fun j h1 h2 => hall j h1 (by omega)⟩).symm⟩
  · skip
    refine r_mv (r_want 13 false (by kernel_rfl) rfl rfl (r_mv (r_want 13 false (by kernel_rfl) rfl rfl (r_geq rfl rfl (fun hc2 => ?_) (fun hc2 => ?_)))))   -- t15 := binOp geq 2 t14 65536:i64 2   [guard op2 false]
    · skip
      refine r_pickF rfl (r_nil (q_t ?_))
      refine w_true rfl ?_
      refine w_seq ?_
      refine w_reg ?_
      refine r_as (r_nil (q_t ?_))
      refine w_ret (q_tr ?_)
      refine ⟨_, retV_1, ?_⟩
      first
        | exact ⟨rfl, congrArg Value.bool (decide_eq_false (fun hh => by have := hh.1; omega)).symm⟩
        | exact ⟨rfl, congrArg Value.bool (decide_eq_false (fun hh => by have := hh.2 (i + 1) (by omega) (by omega); omega)).symm⟩
        | exact ⟨rfl, congrArg Value.bool (decide_eq_true ⟨⟨by omega, by omega⟩, fun j h1 h2 => hall j h1 (by omega)⟩).symm⟩
    · skip
      refine r_pickF rfl (r_nil (q_t ?_))
      refine w_false rfl ?_
      refine w_skip (q_t ?_)
      refine w_seq ?_
      refine w_seq ?_
      refine w_reg ?_
      refine r_mv (r_slFromM (k := 1) sl_MM rfl HM hcap rfl (by rw [tab_len]; omega) fun v1 HD0 hcap1 => ?_)
      have HD : Mat h v1 (tab (m - 1) m fun i j => F (i + 1) j) := drop_tab (m := m) ▸ HD0
      refine r_lenm sl_MM rfl HD ?_
      rw [tab_len]
      refine r_mv (r_nil (q_t ?_))
      refine w_block ?_
      refine w_loop 549754765348 (fun i : Nat => [(20, .int .i64 (i : Int))]) (fun k i h' => h' = h ∧ k = m - 1 - i ∧ i ≤ m - 1 ∧ ∀ j, 1 ≤ j → j < i + 1 → 2 * F j 0 ≤ F 0 0 ∧ -2 * F j 0 ≤ F 0 0) (by kernel_rfl) (m - 1) 0 ?_ ⟨rfl, trivial⟩ ?_
      · exact ⟨rfl, rfl, Nat.zero_le _, fun j h1 h2 => by omega⟩
      rintro k i s1 h ⟨rfl, rfl, hi, hall⟩
      refine w_seq ?_
      refine w_reg ?_
      refine r_lss rfl rfl (fun hc3 => ?_) (fun hc3 => ?_)   -- t21 := binOp lss 3 t20 t19 3
      · skip
        refine r_nil (q_t ?_)
        refine w_seq ?_
        refine w_true rfl ?_
        refine w_skip (q_t ?_)
        refine w_seq ?_
        refine w_block ?_
        refine w_seq ?_
        refine w_reg ?_
        refine r_ixm sl_MM rfl HD rfl (tab_row (by omega)) fun aq3 rq3 haq3 hrq3 => ?_
        refine r_ld na_I64 rfl haq3 (r_as (r_nil (q_t ?_)))
        refine w_seq ?_
        have hb1 := hfit (i + 1) (by omega)
        unfold Abs at hb1
        refine w_reg ?_
        refine r_mv (r_ixi (n := 0) sl_I64 rfl hrq3 rfl (range_at (by omega)) fun aq4 haq4 => ?_)
        refine r_ld na_i64 rfl haq4 (r_mulb rfl rfl (by omega) (by omega) (r_mv (r_gtr rfl rfl (fun hc4 => ?_) (fun hc4 => ?_))))   -- t29 := binOp gtr 2 t27 t28 2
        · skip
          refine r_mv (r_skip 30 true (by kernel_rfl) rfl rfl (r_skip 30 true (by kernel_rfl) rfl rfl (r_skip 30 true (by kernel_rfl) rfl rfl (r_skip 30 true (by kernel_rfl) rfl rfl (r_skip 30 true (by kernel_rfl) rfl rfl (r_skip 30 true (by kernel_rfl) rfl rfl (r_pickT rfl (r_nil (q_t ?_)))))))))
          refine w_true rfl ?_
          refine w_seq ?_
          refine w_reg ?_
          refine r_as (r_nil (q_t ?_))
          refine w_ret (q_br (q_tr (q_tr (q_br (q_tr ?_)))))
          refine ⟨_, retV_1, ?_⟩
          first
            | exact ⟨rfl, congrArg Value.bool (decide_eq_false (fun hh => by have := hh.1; omega)).symm⟩
            | exact ⟨rfl, congrArg Value.bool (decide_eq_false (fun hh => by have := hh.2 (i + 1) (by omega) (by omega); omega)).symm⟩
            | exact ⟨rfl, congrArg Value.bool (decide_eq_true ⟨⟨by omega, by omega⟩, fun j h1 h2 => hall j h1 (by omega)⟩).symm⟩
        · skip
          refine r_mv (r_want 30 false (by kernel_rfl) rfl rfl (r_mv (r_want 30 false (by kernel_rfl) rfl rfl (r_ixi (n := 0) sl_I64 rfl hrq3 rfl (range_at (by omega)) fun aq5 haq5 => ?_))))
          refine r_want 30 false (by kernel_rfl) rfl rfl (r_ld na_i64 rfl haq5 (r_want 30 false (by kernel_rfl) rfl rfl (r_mulb rfl rfl (by omega) (by omega) (r_want 30 false (by kernel_rfl) rfl rfl (r_mv (r_want 30 false (by kernel_rfl) rfl rfl (r_gtr rfl rfl (fun hc5 => ?_) (fun hc5 => ?_))))))))   -- t36 := binOp gtr 2 t34 t35 2   [guard op6 false]
          · skip
            refine r_pickF rfl (r_nil (q_t ?_))
            refine w_true rfl ?_
            refine w_seq ?_
            refine w_reg ?_
            refine r_as (r_nil (q_t ?_))
            refine w_ret (q_br (q_tr (q_tr (q_br (q_tr ?_)))))
            refine ⟨_, retV_1, ?_⟩
            first
              | exact ⟨rfl, congrArg Value.bool (decide_eq_false (fun hh => by have := hh.1; omega)).symm⟩
              | exact ⟨rfl, congrArg Value.bool (decide_eq_false (fun hh => by have := hh.2 (i + 1) (by omega) (by omega); omega)).symm⟩
              | exact ⟨rfl, congrArg Value.bool (decide_eq_true ⟨⟨by omega, by omega⟩, fun j h1 h2 => hall j h1 (by omega)⟩).symm⟩
          · skip
            refine r_pickF rfl (r_nil (q_t ?_))
            refine w_false rfl ?_
            refine w_skip (q_b (q_t ?_))
            refine w_reg ?_
            refine r_inc rfl (by omega) (r_mv (r_nil (q_t ?_)))
            exact ⟨m - 1 - (i + 1), i + 1, by omega, ⟨rfl, rfl, by omega, fun j h1 h2 => by rcases Nat.lt_succ_iff_lt_or_eq.1 h2 with q | rfl; exact hall j h1 q; exact ⟨by omega, by omega⟩⟩, rfl, trivial⟩
      · skip
        refine r_nil (q_t ?_)
        refine w_seq ?_
        refine w_false rfl ?_
        refine w_exit (q_tx (q_tx (q_bx (q_t ?_))))
        refine w_seq ?_
        refine w_reg ?_
        refine r_as (r_nil (q_t ?_))
        refine w_ret ?_
        refine ⟨_, retV_1, ?_⟩
        first
          | exact ⟨rfl, congrArg Value.bool (decide_eq_false (fun hh => by have := hh.1; omega)).symm⟩
          | exact ⟨rfl, congrArg Value.bool (decide_eq_false (fun hh => by have := hh.2 (i + 1) (by omega) (by omega); omega)).symm⟩
          | exact ⟨rfl, congrArg Value.bool (decide_eq_true ⟨⟨by omega, by omega⟩, fun j h1 h2 => hall j h1 (by omega)⟩).symm⟩
theorem IsReduced_ok {h : Heap} {v : Value} {M : List (List Int)} (HM : Mat h v M) (hcap : CapOk v) : CallH Tryd.prog 27 #[v] h fun x h' => Ext h h' ∧ x = .bool (isRed M) := by
  refine calls_of_W (l := [_]) mx Tryd.func27 rfl rfl rfl rfl rfl (by kernel_rfl) ?_
  refine w_seq ?_
  refine w_reg ?_
  refine r_as (r_nil (q_t ?_))
  refine w_seq ?_
  refine w_seq ?_
  refine w_reg ?_
  refine r_mv (r_call trivial rfl (isSmall_ok HM) fun x1 h hk => ?_)
  obtain ⟨rfl, rfl⟩ := hk
  refine ⟨trivial, ?_⟩
  cases hc1 : smallMB M
  · skip
    refine r_not rfl (r_nil (q_t ?_))
    refine w_true rfl ?_
    refine w_seq ?_
    refine w_reg ?_
    refine r_as (r_nil (q_t ?_))
    refine w_ret (q_tr ?_)
    refine ⟨_, retV_1, ?_⟩
    first
      | exact ⟨(Ext.refl _), congrArg Value.bool (show false = isRed M by unfold isRed; rw [show smallMB M = false by assumption]; rfl)⟩
      | exact ⟨(Ext.refl _), congrArg Value.bool (show false = isRed M by unfold isRed; rw [hred, redB_short (by omega) (of_decide_eq_false (by assumption)), Bool.and_false])⟩
      | exact ⟨(Ext.refl _), congrArg Value.bool (show false = isRed M by unfold isRed; rw [hred, redB_lov (by omega) (by unfold LovF; omega), Bool.and_false])⟩
      | (obtain rfl : m = 1 := by omega
         first
         | exact ⟨(Ext.refl _), congrArg Value.bool (show true = isRed M by unfold isRed; rw [hred, ← smallMB_t hsm, redB, decide_eq_true ⟨by omega, by omega⟩]; rfl)⟩
         | exact ⟨(Ext.refl _), congrArg Value.bool (show false = isRed M by unfold isRed; rw [hred, redB, decide_eq_false (by omega), Bool.and_false])⟩)
  · skip
    refine r_not rfl (r_nil (q_t ?_))
    refine w_false rfl ?_
    refine w_skip (q_t ?_)
    refine w_seq ?_
    refine w_reg ?_
    refine r_mv (r_as (r_nil (q_t ?_)))
    refine w_seq ?_
    refine w_reg ?_
    refine r_as (r_nil (q_t ?_))
    refine w_seq ?_
    refine w_block ?_
    have hsm := of_smallMB hc1
    have hst0 := stg_start hsm
    have HM2 : Mat h v (tab M.length M.length (ent M)) := (tab_eq hsm.2.1) ▸ HM
    refine w_loop 20282409603651670423947251255292 (fun y : Nat × Value × Int × (Nat → Nat → Int) => [(3, y.2.1), (4, .int .i64 y.2.2.1)]) (fun k y h' => y.1 = k ∧ Ext h h' ∧ 1 ≤ y.1 ∧ y.1 ≤ M.length ∧ Mat h' y.2.1 (tab y.1 y.1 y.2.2.2) ∧ CapOk y.2.1 ∧ Stg y.1 y.2.2.2 y.2.2.1 (262144 + 16384 * (M.length - y.1)) ∧ redB M.length (ent M) 1 = redB y.1 y.2.2.2 y.2.2.1) (by kernel_rfl) M.length (M.length, v, 1, ent M) ?_ ⟨rfl, rfl, trivial⟩ ?_
    · exact ⟨rfl, Ext.refl _, hsm.1.1, Nat.le_refl _, HM2, hcap, by have e0 : (262144 + 16384 * ((M.length : Int) - (M.length : Int))) = 262144 := (by omega); rw [e0]; exact hst0, rfl⟩
    rintro k ⟨m, vs, last, F⟩ s1 hq ⟨rfl, XQ, hm1, hmn, HS, hcap2, hstg, hred⟩
    dsimp only at hm1 hmn HS hcap2 hstg hred ⊢
    have h8 := hsm.1.2
    have hl1 := hstg.l1
    have hl2 := hstg.l2
    have szq := XQ.1
    refine w_seq ?_
    refine w_seq ?_
    refine w_reg ?_
    refine r_mv (r_lenm sl_MM rfl HS ?_)
    rw [tab_len]
    refine r_gtr rfl rfl (fun hc2 => ?_) (fun hc2 => ?_)   -- t17 := binOp gtr 3 t16 1:i64 3
    · skip
      refine r_nil (q_t ?_)
      refine w_true rfl ?_
      refine w_skip (q_t ?_)
      refine w_block ?_
      refine w_seq ?_
      refine w_reg ?_
      refine r_mv (r_ixm (n := 0) sl_MM rfl HS rfl (tab_row (by omega)) fun aq2 rq2 haq2 hrq2 => ?_)
      refine r_ld na_I64 rfl haq2 (r_ixi (n := 0) sl_I64 rfl hrq2 rfl (range_at (by omega)) fun aq3 haq3 => ?_)
      refine r_ld na_i64 rfl haq3 (r_as (r_nil (q_t ?_)))
      refine w_seq ?_
      refine w_seq ?_
      refine w_reg ?_
      refine r_mv (r_call trivial rfl (isShortened_ok HS hcap2 (by omega) (by omega) (fun i hi => stg_fit hstg (by omega) (by omega) hi (by omega))) fun x4 hq hk => ?_)
      obtain ⟨rfl, rfl⟩ := hk
      refine ⟨trivial, ?_⟩
      cases hc3 : decide (ShortF m F)
      · skip
        refine r_not rfl (r_nil (q_t ?_))
        refine w_true rfl ?_
        refine w_seq ?_
        refine w_reg ?_
        refine r_as (r_nil (q_t ?_))
        refine w_ret (q_tr (q_br (q_tr (q_br (q_tr ?_)))))
        refine ⟨_, retV_1, ?_⟩
        first
          | exact ⟨XQ, congrArg Value.bool (show false = isRed M by unfold isRed; rw [show smallMB M = false by assumption]; rfl)⟩
          | exact ⟨XQ, congrArg Value.bool (show false = isRed M by unfold isRed; rw [hred, redB_short (by omega) (of_decide_eq_false (by assumption)), Bool.and_false])⟩
          | exact ⟨XQ, congrArg Value.bool (show false = isRed M by unfold isRed; rw [hred, redB_lov (by omega) (by unfold LovF; omega), Bool.and_false])⟩
          | (obtain rfl : m = 1 := by omega
             first
             | exact ⟨XQ, congrArg Value.bool (show true = isRed M by unfold isRed; rw [hred, ← smallMB_t hsm, redB, decide_eq_true ⟨by omega, by omega⟩]; rfl)⟩
             | exact ⟨XQ, congrArg Value.bool (show false = isRed M by unfold isRed; rw [hred, redB, decide_eq_false (by omega), Bool.and_false])⟩)
      · skip
        refine r_not rfl (r_nil (q_t ?_))
        refine w_false rfl ?_
        refine w_skip (q_t ?_)
        refine w_seq ?_
        refine w_reg ?_
        refine r_mv (r_lenm sl_MM rfl HS ?_)
        rw [tab_len]
        have hsh : ShortF m F := of_decide_eq_true (by assumption)
        refine r_subb rfl rfl (by omega) (by omega) ?_
        rw [show ((m : Nat) : Int) - 1 = ((m - 1 : Nat) : Int) by omega]
        refine r_mkM (ei := tI) sl_MM ze_I64 (fun _ => trivial) rfl rfl (by decide) (by omega) fun b2 v2 h2 HP0 E2 hb2 hl2b => ?_
        have sz5 := E2.1
        have Z6 := (Ext.refl hq).trans E2
        have X7 := XQ.trans E2
        have HS_8 := HS.ext E2
        refine r_as (r_nil (q_t ?_))
        refine w_seq ?_
        refine w_seq ?_
        refine w_reg ?_
        refine r_mv (r_lenp sl_MM rfl HP0.1 ?_)
        refine r_mv (r_nil (q_t ?_))
        refine w_block ?_
        refine w_loop 1208925819614624879739776 (fun i : Nat => [(32, .int .i64 (i : Int))]) (fun k i h' => k = m - 1 - i ∧ i ≤ m - 1 ∧ Ext hq h' ∧ ∃ gs, PartL h' tR tI (Array.size hq) b2 gs v2 (m - 1) ((List.range i).map (fun i => (List.range (m - 1)).map fun j => nxtF F last i j))) (by kernel_rfl) (m - 1) 0 ?_ ⟨rfl, trivial⟩ ?_
        · exact ⟨rfl, Nat.zero_le _, E2, [], HP0⟩
        rintro k i s2 h3 ⟨rfl, hi, E3, gs, HP⟩
        have X9 := XQ.trans E3
        have sz10 := E3.1
        have HS_11 := HS.ext E3
        refine w_seq ?_
        refine w_reg ?_
        refine r_lss rfl rfl (fun hc4 => ?_) (fun hc4 => ?_)   -- t33 := binOp lss 3 t32 t31 3
        · skip
          refine r_nil (q_t ?_)
          refine w_seq ?_
          refine w_true rfl ?_
          refine w_skip (q_t ?_)
          refine w_seq ?_
          refine w_block ?_
          refine w_seq ?_
          refine w_reg ?_
          refine r_mv (r_as (r_nil (q_t ?_)))
          refine w_seq ?_
          refine w_reg ?_
          refine r_mv (r_mv (r_inc rfl (by omega) (r_ixmE sl_MM rfl HS E3 rfl (tab_row (by omega)) fun aR rR haR hrR => ?_)))
          refine r_ld na_I64 rfl haR (r_as (r_nil (q_t ?_)))
          refine w_seq ?_
          refine w_reg ?_
          refine r_mv (r_mv (r_mv (r_lenp sl_MM rfl HP.1 ?_)))
          refine r_mkI sl_I64 ze_i64 (fun _ => trivial) rfl rfl (by decide) (by omega) fun g4 v4 h4 HN4 E4 hg4 hl4 => ?_
          have sz12 := E4.1
          have Z13 := E3.trans E4
          have X14 := X9.trans E4
          have HS_15 := HS_11.ext E4
          have HP_16 := HP.ext E4
          refine r_ixTop sl_MM rfl HP_16 rfl (by omega) ?_
          have hglt := HP.1.lt
          have hblo := HP.2 b2 (List.mem_cons_self ..)
          refine r_stTop na_I64 rfl rfl HP_16 (by simp) (by omega) HN4 (fun hc => by have := hglt _ hc; omega) (by omega) fun h4b HPb U4 => ?_
          have sz17 := U4.1
          have X18 := X14.thenUpd U4 (fun k hk => by have hk2 : k = b2 := hk; omega)
          have Z19 := Z13.thenUpd U4 (fun k hk => by have hk2 : k = b2 := hk; omega)
          have HS_20 := HS.ext Z19
          refine r_nil (q_t ?_)
          refine w_seq ?_
          refine w_reg ?_
          refine r_mv (r_lenp sl_MM rfl HPb.1 ?_)
          refine r_mv (r_nil (q_t ?_))
          refine w_block ?_
          refine w_loop 604462909525839610642944 (fun j : Nat => [(48, .int .i64 (j : Int))]) (fun k j h' => k = m - 1 - j ∧ j ≤ m - 1 ∧ Ext hq h' ∧ PartL h' tR tI (Array.size hq) b2 (gs ++ [g4]) v2 (m - 1) ((List.range i).map (fun i => (List.range (m - 1)).map fun j => nxtF F last i j) ++ [mixR (m - 1) (nxtF F last i) (fun _ => 0) j])) (by kernel_rfl) (m - 1) 0 ?_ ⟨rfl, trivial⟩ ?_
          · exact ⟨rfl, Nat.zero_le _, Z19, by rw [mixR_zero, range_rep]; exact HPb⟩
          rintro k j s3 h5 ⟨rfl, hj, E5, HQ⟩
          have X21 := XQ.trans E5
          have sz22 := E5.1
          have HS_23 := HS.ext E5
          refine w_seq ?_
          refine w_reg ?_
          refine r_lss rfl rfl (fun hc5 => ?_) (fun hc5 => ?_)   -- t49 := binOp lss 3 t48 t47 3
          · skip
            refine r_nil (q_t ?_)
            refine w_seq ?_
            refine w_true rfl ?_
            refine w_skip (q_t ?_)
            refine w_seq ?_
            refine w_block ?_
            refine w_seq ?_
            refine w_reg ?_
            refine r_mv (r_as (r_nil (q_t ?_)))
            have hd := hsh.1
            have hfit := fun i j hi hj => stg_fit hstg (by omega) (by omega) (i := i) (j := j) hi hj
            have q1 := abs_mul (a := 65535) (b := 34359738368) (x := F 0 0) (y := F (i + 1) (j + 1)) ⟨by omega, by omega⟩ (hfit _ _ (by omega) (by omega))
            have q2 := hsh.2 (i + 1) (by omega) (by omega)
            have q3 := hsh.2 (j + 1) (by omega) (by omega)
            rw [← hstg.sym 0 (j + 1) (by omega) (by omega)] at q3
            have q4 := abs_mul (a := 32768) (b := 32768) (x := F (i + 1) 0) (y := F 0 (j + 1)) ⟨by omega, by omega⟩ ⟨by omega, by omega⟩
            unfold Abs at q1 q4
            refine w_draw (by kernel_rfl) ?_
            refine r_mv (r_mv (r_ixL sl_MM rfl HQ rfl (get_snoc (by simp)) fun aQ rQ gQ haQ hgQ hrQ => ?_))
            refine r_ld na_I64 rfl haQ (r_mv (r_mv (r_mv (r_mv (r_inc rfl (by omega) (r_ixi sl_I64 rfl (hrR.ext E5) rfl (range_at (by omega)) fun aq24 haq24 => ?_))))))
            refine r_ld na_i64 rfl haq24 (r_mulb rfl rfl (by omega) (by omega) (r_mv (r_ixi (n := 0) sl_I64 rfl (hrR.ext E5) rfl (range_at (by omega)) fun aq25 haq25 => ?_)))
            refine r_ld na_i64 rfl haq25 (r_mv (r_ixm (n := 0) sl_MM rfl HS_23 rfl (tab_row (by omega)) fun aZ rZ haZ hrZ => ?_))
            refine r_ld na_I64 rfl haZ (r_mv (r_inc rfl (by omega) (r_ixi sl_I64 rfl hrZ rfl (range_at (by omega)) fun aq26 haq26 => ?_)))
            refine r_ld na_i64 rfl haq26 (r_mulb rfl rfl (by omega) (by omega) (r_subb rfl rfl (by omega) (by omega) (r_mv (r_quo rfl rfl (by omega) ?_))))
            have hnf := stg_fit (stg_next (m := m - 1) (by rw [show m - 1 + 1 = m by omega]; exact hstg) (by omega) (by rw [show m - 1 + 1 = m by omega]; exact hsh)) (by omega) (by omega) (i := i) (j := j) (by omega) (by omega)
            unfold Abs at hnf
            rw [show IntKind.i64.wrap ((F 0 0 * F (i + 1) (j + 1) - F (i + 1) 0 * F 0 (j + 1)).tdiv last) = nxtF F last i j from wrap_small (by have : (F 0 0 * F (i + 1) (j + 1) - F (i + 1) 0 * F 0 (j + 1)).tdiv last = nxtF F last i j := rfl; omega) (by have : (F 0 0 * F (i + 1) (j + 1) - F (i + 1) 0 * F 0 (j + 1)).tdiv last = nxtF F last i j := rfl; omega)]
            refine r_ixo sl_I64 rfl hrQ rfl (by rw [List.length_map, mixR_len]; omega) ?_
            refine r_stEnt (mixR (m - 1) (nxtF F last i) (fun _ => 0) (j + 1)) na_i64 rfl rfl HQ hgQ (get_snoc (by simp)) hrQ (by rw [mixR_len]; omega) (mixR_set (by omega) rfl) fun h6 HQ1 U6 hg6 => ?_
            have sz27 := U6.1
            have X28 := X21.thenUpd U6 (fun k hk => by have hk2 : k = gQ := hk; omega)
            have Z29 := E5.thenUpd U6 (fun k hk => by have hk2 : k = gQ := hk; omega)
            have HS_30 := HS.ext Z29
            have HQ2 := HQ1
            rw [set_snoc (by simp)] at HQ2
            refine r_nil (q_b (q_t ?_))
            refine w_reg ?_
            refine r_inc rfl (by omega) (r_mv (r_nil (q_t ?_)))
            exact ⟨m - 1 - (j + 1), j + 1, by omega, ⟨rfl, by omega, Z29, HQ2⟩, rfl, trivial⟩
          · skip
            refine r_nil (q_t ?_)
            refine w_seq ?_
            refine w_false rfl ?_
            refine w_exit (q_tx (q_tx (q_bx (q_b (q_t ?_)))))
            refine w_reg ?_
            refine r_inc rfl (by omega) (r_mv (r_nil (q_t ?_)))
            exact ⟨m - 1 - (i + 1), i + 1, by omega, ⟨rfl, by omega, E5, gs ++ [g4], by rw [mixR_all _ _ (by omega)] at HQ; rw [← range_snoc]; exact HQ⟩, rfl, trivial⟩
        · skip
          refine r_nil (q_t ?_)
          refine w_seq ?_
          refine w_false rfl ?_
          refine w_exit (q_tx (q_tx (q_bx (q_t ?_))))
          refine w_seq ?_
          obtain rfl : i = m - 1 := by omega
          have HN0 : PartL h3 tR tI (Array.size hq) b2 gs v2 (tab (m - 1) (m - 1) (nxtF F last)).length (tab (m - 1) (m - 1) (nxtF F last)) := by rw [tab_len]; exact HP
          have HN := HN0.mat
          have hcapn := HN0.cap
          have hnx0 := stg_next (m := m - 1) (by rw [show m - 1 + 1 = m by omega]; exact hstg) (by omega) (by rw [show m - 1 + 1 = m by omega]; exact hsh)
          have hnx : Stg (m - 1) (nxtF F last) (F 0 0) (262144 + 16384 * (M.length - ((m - 1 : Nat) : Int))) := by rw [show (262144 + 16384 * ((M.length : Int) - ((m - 1 : Nat) : Int))) = 262144 + 16384 * ((M.length : Int) - (m : Int)) + 16384 by omega]; exact hnx0
          refine w_reg ?_
          refine r_mv (r_ixm (n := 1) sl_MM rfl HS_11 rfl (tab_row (by omega)) fun aq31 rq31 haq31 hrq31 => ?_)
          refine r_ld na_I64 rfl haq31 (r_ixi (n := 0) sl_I64 rfl hrq31 rfl (range_at (by omega)) fun aq32 haq32 => ?_)
          refine r_ld na_i64 rfl haq32 (r_as (r_nil (q_t ?_)))
          refine w_seq ?_
          refine w_seq ?_
          have hd := hsh.1
          have hnf := stg_fit hnx (by omega) (by omega) (i := 0) (j := 0) (by omega) (by omega)
          have q5 := abs_mul (a := 65535) (b := 34359738368) (x := last) (y := nxtF F last 0 0) ⟨by omega, by omega⟩ hnf
          have q2 := hsh.2 1 (by omega) (by omega)
          have q6 := abs_mul (a := 32768) (b := 32768) (x := F 1 0) (y := F 1 0) ⟨by omega, by omega⟩ ⟨by omega, by omega⟩
          have q7 := mul_bd (a := 3 * F 0 0) (b := F 0 0) (A := 196605) (B := 65535) (by omega) (by omega) (by omega) (by omega)
          unfold Abs at q5 q6
          refine w_reg ?_
          refine r_mv (r_mv ?_)
          refine r_ixm (n := 0) sl_MM rfl HN rfl (tab_row (by omega)) fun aN rN haN hrN => ?_
          refine r_ld na_I64 rfl haN (r_ixi (n := 0) sl_I64 rfl hrN rfl (range_at (by omega)) fun aO haO => ?_)
          refine r_ld na_i64 rfl haO (r_mulb rfl rfl (by omega) (by omega) (r_mv (r_mv (r_mulb rfl rfl (by omega) (by omega) (r_addb rfl rfl (by omega) (by omega) (r_mulb rfl rfl (by omega) (by omega) (r_mv (r_mulb rfl rfl (by omega) (by omega) (r_mv (r_mulb rfl rfl (by omega) (by omega) (r_lss rfl rfl (fun hc6 => ?_) (fun hc6 => ?_))))))))))))   -- t101 := binOp lss 2 t96 t100 2
          · skip
            refine r_nil (q_t ?_)
            refine w_true rfl ?_
            refine w_seq ?_
            refine w_reg ?_
            refine r_as (r_nil (q_t ?_))
            refine w_ret (q_tr (q_br (q_tr (q_br (q_tr ?_)))))
            refine ⟨_, retV_1, ?_⟩
            first
              | exact ⟨X9, congrArg Value.bool (show false = isRed M by unfold isRed; rw [show smallMB M = false by assumption]; rfl)⟩
              | exact ⟨X9, congrArg Value.bool (show false = isRed M by unfold isRed; rw [hred, redB_short (by omega) (of_decide_eq_false (by assumption)), Bool.and_false])⟩
              | exact ⟨X9, congrArg Value.bool (show false = isRed M by unfold isRed; rw [hred, redB_lov (by omega) (by unfold LovF; omega), Bool.and_false])⟩
              | (obtain rfl : m = 1 := by omega
                 first
                 | exact ⟨X9, congrArg Value.bool (show true = isRed M by unfold isRed; rw [hred, ← smallMB_t hsm, redB, decide_eq_true ⟨by omega, by omega⟩]; rfl)⟩
                 | exact ⟨X9, congrArg Value.bool (show false = isRed M by unfold isRed; rw [hred, redB, decide_eq_false (by omega), Bool.and_false])⟩)
          · skip
            refine r_nil (q_t ?_)
            refine w_false rfl ?_
            refine w_skip (q_t ?_)
            have hlov : LovF F last := by unfold LovF; omega
            have hredn := redB_next (last := last) (by omega) hsh hlov
            refine w_reg ?_
            refine r_mv (r_mv (r_as (r_as (r_nil (q_b (q_t ?_))))))
            exact ⟨m - 1, (m - 1, v2, F 0 0, nxtF F last), by first | omega | (dsimp only; omega), ⟨rfl, X9, by first | omega | (dsimp only; omega), by first | omega | (dsimp only; omega), HN, hcapn, hnx, by rw [hred, hredn]⟩, rfl, rfl, trivial⟩
    · skip
      refine r_nil (q_t ?_)
      refine w_false rfl ?_
      refine w_exit (q_tx (q_tx (q_bx (q_t ?_))))
      refine w_seq ?_
      refine w_reg ?_
      refine r_mv (r_ixm (n := 0) sl_MM rfl HS rfl (tab_row (by omega)) fun aq33 rq33 haq33 hrq33 => ?_)
      refine r_ld na_I64 rfl haq33 (r_ixi (n := 0) sl_I64 rfl hrq33 rfl (range_at (by omega)) fun aq34 haq34 => ?_)
      refine r_ld na_i64 rfl haq34 (r_gtr rfl rfl (fun hc7 => ?_) (fun hc7 => ?_))   -- t109 := binOp gtr 2 t108 0:i64 2
      · skip
        refine r_mv (r_want 110 true (by kernel_rfl) rfl rfl (r_mv (r_want 110 true (by kernel_rfl) rfl rfl (r_ixm (n := 0) sl_MM rfl HS rfl (tab_row (by omega)) fun aq35 rq35 haq35 hrq35 => ?_))))
        refine r_want 110 true (by kernel_rfl) rfl rfl (r_ld na_I64 rfl haq35 (r_want 110 true (by kernel_rfl) rfl rfl (r_ixi (n := 0) sl_I64 rfl hrq35 rfl (range_at (by omega)) fun aq36 haq36 => ?_)))
        refine r_want 110 true (by kernel_rfl) rfl rfl (r_ld na_i64 rfl haq36 (r_want 110 true (by kernel_rfl) rfl rfl (r_leq rfl rfl (fun hc8 => ?_) (fun hc8 => ?_))))   -- t116 := binOp leq 2 t115 10000:i64 2   [guard op6 true]
        · skip
          refine r_pickT rfl (r_as (r_nil (q_t ?_)))
          refine w_ret ?_
          refine ⟨_, retV_1, ?_⟩
          first
            | exact ⟨XQ, congrArg Value.bool (show false = isRed M by unfold isRed; rw [show smallMB M = false by assumption]; rfl)⟩
            | exact ⟨XQ, congrArg Value.bool (show false = isRed M by unfold isRed; rw [hred, redB_short (by omega) (of_decide_eq_false (by assumption)), Bool.and_false])⟩
            | exact ⟨XQ, congrArg Value.bool (show false = isRed M by unfold isRed; rw [hred, redB_lov (by omega) (by unfold LovF; omega), Bool.and_false])⟩
            | (obtain rfl : m = 1 := by omega
               first
               | exact ⟨XQ, congrArg Value.bool (show true = isRed M by unfold isRed; rw [hred, ← smallMB_t hsm, redB, decide_eq_true ⟨by omega, by omega⟩]; rfl)⟩
               | exact ⟨XQ, congrArg Value.bool (show false = isRed M by unfold isRed; rw [hred, redB, decide_eq_false (by omega), Bool.and_false])⟩)
        · skip
          refine r_pickT rfl (r_as (r_nil (q_t ?_)))
          refine w_ret ?_
          refine ⟨_, retV_1, ?_⟩
          first
            | exact ⟨XQ, congrArg Value.bool (show false = isRed M by unfold isRed; rw [show smallMB M = false by assumption]; rfl)⟩
            | exact ⟨XQ, congrArg Value.bool (show false = isRed M by unfold isRed; rw [hred, redB_short (by omega) (of_decide_eq_false (by assumption)), Bool.and_false])⟩
            | exact ⟨XQ, congrArg Value.bool (show false = isRed M by unfold isRed; rw [hred, redB_lov (by omega) (by unfold LovF; omega), Bool.and_false])⟩
            | (obtain rfl : m = 1 := by omega
               first
               | exact ⟨XQ, congrArg Value.bool (show true = isRed M by unfold isRed; rw [hred, ← smallMB_t hsm, redB, decide_eq_true ⟨by omega, by omega⟩]; rfl)⟩
               | exact ⟨XQ, congrArg Value.bool (show false = isRed M by unfold isRed; rw [hred, redB, decide_eq_false (by omega), Bool.and_false])⟩)
      · skip
        refine r_mv (r_skip 110 false (by kernel_rfl) rfl rfl (r_skip 110 false (by kernel_rfl) rfl rfl (r_skip 110 false (by kernel_rfl) rfl rfl (r_skip 110 false (by kernel_rfl) rfl rfl (r_skip 110 false (by kernel_rfl) rfl rfl (r_skip 110 false (by kernel_rfl) rfl rfl (r_pickF rfl (r_as (r_nil (q_t ?_))))))))))
        refine w_ret ?_
        refine ⟨_, retV_1, ?_⟩
        first
          | exact ⟨XQ, congrArg Value.bool (show false = isRed M by unfold isRed; rw [show smallMB M = false by assumption]; rfl)⟩
          | exact ⟨XQ, congrArg Value.bool (show false = isRed M by unfold isRed; rw [hred, redB_short (by omega) (of_decide_eq_false (by assumption)), Bool.and_false])⟩
          | exact ⟨XQ, congrArg Value.bool (show false = isRed M by unfold isRed; rw [hred, redB_lov (by omega) (by unfold LovF; omega), Bool.and_false])⟩
          | (obtain rfl : m = 1 := by omega
             first
             | exact ⟨XQ, congrArg Value.bool (show true = isRed M by unfold isRed; rw [hred, ← smallMB_t hsm, redB, decide_eq_true ⟨by omega, by omega⟩]; rfl)⟩
             | exact ⟨XQ, congrArg Value.bool (show false = isRed M by unfold isRed; rw [hred, redB, decide_eq_false (by omega), Bool.and_false])⟩)
end Go.Proofs.YtiegjkmfpcgjjaaDoor
/-
  Symbols at an odd prime: the walks of prime.residue, jacobi, Kronecker, of the reference's Legendre, of the tests of odd primes. Conditions stand in each statement.
-/
namespace Go.Proofs.YtiegjkmfpcgjjaaDoor
open Go Go.QF
set_option linter.unusedVariables false
set_option linter.unusedSimpArgs false
set_option maxRecDepth 100000
open Classical in
noncomputable def oddB (p : Int) : Bool := decide (2 < p ∧ p ≤ 9973 ∧ Pr p)
theorem oddB_t {p : Int} (h : 2 < p ∧ p ≤ 9973 ∧ Pr p) : true = oddB p := by simp [oddB, h]
theorem oddB_f {p : Int} (h : ¬ (2 < p ∧ p ≤ 9973 ∧ Pr p)) : false = oddB p := by simp [oddB, h]
theorem of_oddB {p : Int} (h : oddB p = true) : 2 < p ∧ p ≤ 9973 ∧ Pr p := by simpa [oddB] using h
end Go.Proofs.YtiegjkmfpcgjjaaDoor
/-
  Contracts of older make in the form that the automatic walks use. Conditions stand in the statements.
-/
namespace Go.Proofs.YtiegjkmfpcgjjaaDoor
open Go Go.QF
set_option linter.unusedVariables false
noncomputable def lllIsRedP (fuel : Nat) (M : List (List Int)) : Option Bool := some (isRed M)
theorem lllIsRed_P {fuel : Nat} {h : Heap} {v : Value} {M : List (List Int)} {r : Bool} (H : SlC2 (cI .i64) h v M) (hp : lllIsRedP fuel M = some r) : CallH Tryd.prog 27 #[v] h (fun x h' => Ext h h' ∧ x = .bool r) := by
  cases hp
  exact IsReduced_ok (mat_of H) H.1
noncomputable def primeIsP (fuel : Nat) (n : Int) : Option Bool := some (primeB n)
theorem primeIs_P {fuel : Nat} {h : Heap} {n : Int} {r : Bool} (HO : OffH h) (hp : primeIsP fuel n = some r) : CallH Tryd.prog 28 #[.int .i64 n] h (fun x h' => Ext h h' ∧ x = .bool r) := by
  cases hp
  exact (Is_ok n HO).mono fun x h' ⟨he, hx⟩ => ⟨he ▸ Ext.refl _, hx⟩
end Go.Proofs.YtiegjkmfpcgjjaaDoor
/-
  the references of chapters 22 and 23, walked.
-/
namespace Go.Proofs.YtiegjkmfpcgjjaaDoor
open Go Go.QF
set_option linter.unusedVariables false
set_option linter.unusedSimpArgs false
set_option maxRecDepth 100000
set_option maxHeartbeats 4000000
def P_quadformref23_Valid_b2 (fuel : Nat) (a3 : (List (List Int))) (s45 : Int) : Option ((Int) ⊕ ((Bool) ⊕ (Unit))) :=
  (if s45 < (a3.length : Int) then ((gI a3 s45).bind fun x48 => ((gI a3 0).bind fun x55 => (if ¬ (x48.length : Int) = (x55.length : Int) then (some (Sum.inr<| Sum.inl <| false)) else (if (x48.length : Int) < 1 then (some (Sum.inr<| Sum.inl <| false)) else (if 16 < (x48.length : Int) then (some (Sum.inr<| Sum.inl <| false)) else (some (Sum.inl (w64 (s45 + 1))))))))) else (some (Sum.inr<| Sum.inr <|  ())))
def P_quadformref23_Valid (fuel : Nat) (a3 : (List (List Int))) : Option Bool :=
  (((if (a3.length : Int) < 1 then (some (Sum.inl <| false)) else (if 16 < (a3.length : Int) then (some (Sum.inl <| false)) else (some (Sum.inr <|  ())))) : Option ((Bool) ⊕ (Unit))).bind (fun ex => match ex with | Sum.inl e17 => (some e17) | Sum.inr (_) => ((iter (fun s => P_quadformref23_Valid_b2 fuel a3 s) fuel 0).bind (fun ex => match ex with | Sum.inl e72 => (some e72) | Sum.inr (_) => (some true)))))
def P_quadformref23_Same_b2 (fuel : Nat) (a3 : (List (List Int))) (a7 : (List (List Int))) (s106 : Int) (x109 : (List Int)) (s165 : Int) : Option ((Int) ⊕ ((Bool) ⊕ (Unit))) :=
  (if s165 < (x109.length : Int) then ((gI a3 s106).bind fun x168 => ((gI x168 s165).bind fun x175 => ((gI a7 s106).bind fun x181 => ((gI x181 s165).bind fun x188 => (if ¬ x175 = x188 then (some (Sum.inr<| Sum.inl <| false)) else (some (Sum.inl (w64 (s165 + 1))))))))) else (some (Sum.inr<| Sum.inr <|  ())))
def P_quadformref23_Same_b1 (fuel : Nat) (a3 : (List (List Int))) (a7 : (List (List Int))) (s106 : Int) : Option ((Int) ⊕ ((Bool) ⊕ (Unit))) :=
  (if s106 < (a3.length : Int) then ((gI a3 s106).bind fun x109 => ((gI a7 s106).bind fun x116 => (if ¬ (x109.length : Int) = (x116.length : Int) then (some (Sum.inr<| Sum.inl <| false)) else ((iter (fun s => P_quadformref23_Same_b2 fuel a3 a7 s106 x109 s) fuel 0).bind (fun ex => match ex with | Sum.inl e198 => (some (Sum.inr<| Sum.inl <| e198)) | Sum.inr (_) => (some (Sum.inl (w64 (s106 + 1))))))))) else (some (Sum.inr<| Sum.inr <|  ())))
def P_quadformref23_Same (fuel : Nat) (a3 : (List (List Int))) (a7 : (List (List Int))) : Option Bool :=
  (if ¬ (a3.length : Int) = (a7.length : Int) then (some false) else ((iter (fun s => P_quadformref23_Same_b1 fuel a3 a7 s) fuel 0).bind (fun ex => match ex with | Sum.inl e200 => (some e200) | Sum.inr (_) => (some true))))
theorem P_quadformref23_Same_ok {fuel : Nat} {h : Heap} {pv1 : Value} {a3 : (List (List Int))} {pv5 : Value} {a7 : (List (List Int))} {r : Bool} (H2 : SlC2 (cI .i64) h pv1 a3) (H6 : SlC2 (cI .i64) h pv5 a7) (hp : P_quadformref23_Same fuel a3 a7 = some r) : CallH Tryd.prog 12 #[pv1, pv5] h (fun x h' => Ext h h' ∧ x = .bool r) := by
  unfold P_quadformref23_Same at hp
  have K0 := Kst.k0 h
  refine calls_of_W (l := [_, _]) mx Tryd.func12 rfl rfl rfl rfl rfl (by kernel_rfl) ?_
  refine w_seq ?_
  refine w_reg ?_
  refine r_as (r_nil (q_t ?_))
  refine w_seq ?_
  refine w_seq ?_
  refine w_reg ?_
  refine r_mv ?_
  refine r_lenR sl_MM rfl H2 (r_mv ?_)
  refine r_lenR sl_MM rfl H6 (r_cmp rfl rfl (cmp_neq _ _) (r_nil (q_t ?_)))
  refine ⟨_, rfl, fun hc9 => ?_, fun hc9 => ?_⟩
  · skip
    have hp10 := ifTd hp hc9
    clear hp
    refine w_seq ?_
    refine w_reg ?_
    refine r_as (r_nil (q_t ?_))
    refine w_ret (q_tr ?_)
    have hq11 := Option.some.inj hp10
    subst hq11
    exact ⟨_, retV_1, K0.x, rfl⟩
  · skip
    have hp12 := ifFd hp hc9
    clear hp
    refine w_skip (q_t ?_)
    refine w_seq ?_
    refine w_seq ?_
    refine w_reg ?_
    refine r_mv ?_
    refine r_lenR sl_MM rfl H2 (r_mv (r_nil (q_t ?_)))
    refine w_block ?_
    obtain ⟨ex13, hL14, hp15⟩ := obind hp12
    clear hp12
    obtain ⟨bd16, hbd17, hL18⟩ := iter_gen hL14
    clear hL14
    refine w_loop 9007199254724720 (fun x : (Int) => [(14, (.int .i64 x))]) (fun (k : Nat) (x : (Int)) (h' : Heap) => iter bd16 k x = some ex13 ∧ Kst h h' (K0.L)) (by kernel_rfl) fuel (0 : (Int)) ?_ ⟨rfl, trivial⟩ ?_
    · exact ⟨hL18, K0⟩
    rintro k19 u24 sv22 h21 ⟨hk20, K23⟩
    try dsimp only [Kst.L, List.set, selA, nthA] at K23
    refine (show W _ _ _ (setL [(14, (.int .i64 u24))] (mix _ sv22 _)) h21 from ?_)
    obtain ⟨k25, rr26, rfl, hb27, hr28⟩ := iter_step hk20
    clear hk20
    rw [hbd17] at hb27
    dsimp only at hb27
    unfold P_quadformref23_Same_b1 at hb27
    refine w_seq ?_
    refine w_reg ?_
    refine r_cmp rfl rfl (cmp_lss _ _) (r_nil (q_t ?_))
    refine w_seq ?_
    refine ⟨_, rfl, fun hc29 => ?_, fun hc29 => ?_⟩
    · skip
      have hp30 := ifTd hb27 hc29
      clear hb27
      refine w_skip (q_t ?_)
      refine w_seq ?_
      refine w_block ?_
      refine w_seq ?_
      refine w_reg ?_
      refine r_mv (r_as (r_nil (q_t ?_)))
      refine w_seq ?_
      refine w_seq ?_
      refine w_draw (by kernel_rfl) ?_
      refine r_mv (r_mv ?_)
      obtain ⟨x31, hx32, hp33⟩ := obind hp30
      clear hp30
      refine r_ixR sl_MM rfl H2 rfl hx32 fun b34 o35 r36 hc37 H38 => ?_
      refine r_ld na_I64 rfl (cellH_ext hc37 K23.x) ?_
      refine r_lenC sl_I64 rfl H38 (r_mv (r_mv ?_))
      obtain ⟨x40, hx41, hp42⟩ := obind hp33
      clear hp33
      refine r_ixR sl_MM rfl H6 rfl hx41 fun b43 o44 r45 hc46 H47 => ?_
      refine r_ld na_I64 rfl (cellH_ext hc46 K23.x) ?_
      refine r_lenC sl_I64 rfl H47 (r_cmp rfl rfl (cmp_neq _ _) (r_nil (q_t ?_)))
      refine ⟨_, rfl, fun hc49 => ?_, fun hc49 => ?_⟩
      · skip
        have hp50 := ifTd hp42 hc49
        clear hp42
        refine w_seq ?_
        refine w_reg ?_
        refine r_as (r_nil (q_t ?_))
        have hq51 := Option.some.inj hp50
        subst hq51
        have hp52 := hr28
        change _ = ex13 at hp52
        subst hp52
        have hp53 := hp15
        try dsimp only at hp53
        refine w_ret (q_tr (q_br (q_tr (q_tr (q_br (q_tr ?_))))))
        have hq54 := Option.some.inj hp53
        subst hq54
        exact ⟨_, retV_1, K23.x, rfl⟩
      · skip
        have hp55 := ifFd hp42 hc49
        clear hp42
        refine w_skip (q_t ?_)
        refine w_seq ?_
        refine w_reg ?_
        refine r_mv (r_mv (r_ixR sl_MM rfl H2 rfl hx32 fun b56 o57 r58 hc59 H60 => ?_))
        refine r_ld na_I64 rfl (cellH_ext hc59 K23.x) ?_
        refine r_lenC sl_I64 rfl H60 (r_mv (r_nil (q_t ?_)))
        refine w_block ?_
        obtain ⟨ex62, hL63, hp64⟩ := obind hp55
        clear hp55
        obtain ⟨bd65, hbd66, hL67⟩ := iter_gen hL63
        clear hL63
        refine w_loop 4503591037435984 (fun x : (Int) => [(33, (.int .i64 x))]) (fun (k : Nat) (x : (Int)) (h' : Heap) => iter bd65 k x = some ex62 ∧ Kst h h' (K23.L)) (by kernel_rfl) fuel (0 : (Int)) ?_ ⟨rfl, trivial⟩ ?_
        · exact ⟨hL67, K23⟩
        rintro k68 u73 sv71 h70 ⟨hk69, K72⟩
        try dsimp only [Kst.L, List.set, selA, nthA] at K72
        refine (show W _ _ _ (setL [(33, (.int .i64 u73))] (mix _ sv71 _)) h70 from ?_)
        obtain ⟨k74, rr75, rfl, hb76, hr77⟩ := iter_step hk69
        clear hk69
        rw [hbd66] at hb76
        dsimp only at hb76
        unfold P_quadformref23_Same_b2 at hb76
        refine w_seq ?_
        refine w_reg ?_
        refine r_cmp rfl rfl (cmp_lss _ _) (r_nil (q_t ?_))
        refine w_seq ?_
        refine ⟨_, rfl, fun hc78 => ?_, fun hc78 => ?_⟩
        · skip
          have hp79 := ifTd hb76 hc78
          clear hb76
          refine w_skip (q_t ?_)
          refine w_seq ?_
          refine w_block ?_
          refine w_seq ?_
          refine w_reg ?_
          refine r_mv (r_as (r_nil (q_t ?_)))
          refine w_seq ?_
          refine w_draw (by kernel_rfl) ?_
          refine r_mv (r_mv ?_)
          obtain ⟨x80, hx81, hp82⟩ := obind hp79
          clear hp79
          refine r_ixR sl_MM rfl H2 rfl hx81 fun b83 o84 r85 hc86 H87 => ?_
          refine r_ld na_I64 rfl (cellH_ext hc86 K72.x) (r_mv ?_)
          obtain ⟨x89, hx90, hp91⟩ := obind hp82
          clear hp82
          refine r_ixC (c := (cI .i64)) sl_I64 rfl H87 rfl hx90 fun b92 o93 cs94 hr95 hc96 => ?_
          obtain rfl := hr95
          refine r_ld na_i64 rfl (cellH_ext (hc96 0 _ rfl) K72.x) (r_mv (r_mv ?_))
          obtain ⟨x97, hx98, hp99⟩ := obind hp91
          clear hp91
          refine r_ixR sl_MM rfl H6 rfl hx98 fun b100 o101 r102 hc103 H104 => ?_
          refine r_ld na_I64 rfl (cellH_ext hc103 K72.x) (r_mv ?_)
          obtain ⟨x106, hx107, hp108⟩ := obind hp99
          clear hp99
          refine r_ixC (c := (cI .i64)) sl_I64 rfl H104 rfl hx107 fun b109 o110 cs111 hr112 hc113 => ?_
          obtain rfl := hr112
          refine r_ld na_i64 rfl (cellH_ext (hc113 0 _ rfl) K72.x) (r_cmp rfl rfl (cmp_neq _ _) (r_nil (q_t ?_)))
          refine ⟨_, rfl, fun hc114 => ?_, fun hc114 => ?_⟩
          · skip
            have hp115 := ifTd hp108 hc114
            clear hp108
            refine w_seq ?_
            refine w_reg ?_
            refine r_as (r_nil (q_t ?_))
            have hq116 := Option.some.inj hp115
            subst hq116
            have hp117 := hr77
            change _ = ex62 at hp117
            subst hp117
            have hp118 := hp64
            try dsimp only at hp118
            have hq119 := Option.some.inj hp118
            subst hq119
            have hp120 := hr28
            change _ = ex13 at hp120
            subst hp120
            have hp121 := hp15
            try dsimp only at hp121
            refine w_ret (q_br (q_tr (q_tr (q_br (q_br (q_tr (q_tr (q_br (q_tr ?_)))))))))
            have hq122 := Option.some.inj hp121
            subst hq122
            exact ⟨_, retV_1, K72.x, rfl⟩
          · skip
            have hp123 := ifFd hp108 hc114
            clear hp108
            refine w_skip (q_b (q_t ?_))
            refine w_reg ?_
            refine r_add rfl rfl (r_mv (r_nil (q_t ?_)))
            have hq124 := Option.some.inj hp123
            subst hq124
            exact ⟨k74, ((w64 (u73 + 1)) : (Int)), Nat.lt_succ_self _, ⟨hr77, K72⟩, rfl, trivial⟩
        · skip
          have hp125 := ifFd hb76 hc78
          clear hb76
          have hq126 := Option.some.inj hp125
          subst hq126
          have hp127 := hr77
          change _ = ex62 at hp127
          subst hp127
          have hp128 := hp64
          try dsimp only at hp128
          refine w_exit (q_tx (q_tx (q_bx (q_b (q_t ?_)))))
          refine w_reg ?_
          refine r_add rfl rfl (r_mv (r_nil (q_t ?_)))
          have hq129 := Option.some.inj hp128
          subst hq129
          exact ⟨k25, ((w64 (u24 + 1)) : (Int)), Nat.lt_succ_self _, ⟨hr28, K72⟩, rfl, trivial⟩
    · skip
      have hp130 := ifFd hb27 hc29
      clear hb27
      have hq131 := Option.some.inj hp130
      subst hq131
      have hp132 := hr28
      change _ = ex13 at hp132
      subst hp132
      have hp133 := hp15
      try dsimp only at hp133
      refine w_exit (q_tx (q_tx (q_bx (q_t ?_))))
      refine w_seq ?_
      refine w_reg ?_
      refine r_as (r_nil (q_t ?_))
      refine w_ret ?_
      have hq134 := Option.some.inj hp133
      subst hq134
      exact ⟨_, retV_1, K23.x, rfl⟩
end Go.Proofs.YtiegjkmfpcgjjaaDoor
/-
  Contracts of Det and Inverse of package modular: by what every row step keeps.
-/
namespace Go.Proofs.YtiegjkmfpcgjjaaDoor
open Go Go.QF
set_option linter.unusedVariables false
set_option maxRecDepth 100000
theorem residues_tab {h h2 : Heap} {r1 : Value} {M : List (List Int)} {m : Int} {b : Nat} {gs : List Nat} {c : Nat} (HO1 : OwnM h2 tR tI b gs r1 (M.map (·.map (· % m)))) (hr : ∀ z ∈ M, z.length = c) : PartM h2 tR tI b gs r1 M.length (tab M.length c (ent (redM M m))) := by
  have ht := tab_eq (A := redM M m) (c := c) (red_rows hr)
  rw [red_len] at ht
  rw [← ht]
  have : OwnM h2 tR tI b gs r1 (redM M m) := HO1
  unfold OwnM at this
  rw [red_len] at this
  exact this
theorem bd_red {M : List (List Int)} {c : Nat} {m : Int} (hm : 0 < m) : Bd M.length c m (ent (redM M m)) := by
  have := bd_ent (c := c) hm (rem_red hm M)
  rw [red_len] at this
  exact this
def PostI (M : List (List Int)) (m : Int) (Q : (Nat → Nat → Int) → Int → Prop) (h : Heap) (x : Value) (h' : Heap) : Prop := Ext h h' ∧ ∃ r e, x = .tuple #[r, .int .i64 e] ∧
  ((squareB M = false ∧ e = 3 ∧ Mat h' r []) ∨ (squareB M = true ∧ modB m = false ∧ e = 1 ∧ Mat h' r []) ∨
   (squareB M = true ∧ modB m = true ∧ ∃ F1 s, (s = 1 ∨ s = -1) ∧ Q F1 s ∧ Bd M.length (M.length + M.length) m F1 ∧ Zc M.length F1 M.length ∧
     ((e = 8 ∧ Mat h' r [] ∧ ∃ c, c < M.length ∧ ¬ ∃ y, IsInv m (F1 c c) y) ∨
      (e = 0 ∧ (∀ c, c < M.length → ∃ y, IsInv m (F1 c c) y) ∧ Mat h' r (tab M.length M.length fun i j => backTo m M.length F1 M.length i (M.length + j))))))
theorem tup_inj {a b c d : Value} (h : Value.tuple #[a, b] = .tuple #[c, d]) : a = c ∧ b = d := by
  injection h with h
  have := congrArg Array.toList h
  simpa using this
theorem Inverse_okC {h : Heap} {v : Value} {M : List (List Int)} (HM : Mat h v M) (m : Int) (Q : (Nat → Nat → Int) → Int → Prop) (hQ0 : squareB M = true → modB m = true → Q (augF M.length (ent (redM M m))) 1) (hQ : Keeps M.length (M.length + M.length) m Q) : CallH Tryd.prog 26 #[v, .int .i64 m] h (fun x h' => PostI M m Q h x h' ∧ ∀ r e, x = .tuple #[r, e] → CapOk r) := by
  refine calls_of_W (l := [_, _]) mx Tryd.func26 rfl rfl rfl rfl rfl (by kernel_rfl) ?_
  refine w_seq ?_
  refine w_reg ?_
  refine r_as (r_as (r_nil (q_t ?_)))
  refine w_seq ?_
  refine w_seq ?_
  have hE0 := Ext.refl h
  refine w_reg ?_
  refine r_mv (r_call trivial rfl (small_ok HM) fun v' h hk => ?_)
  obtain ⟨rfl, rfl⟩ := hk
  refine ⟨trivial, ?_⟩
  cases hc1 : squareB M
  · skip
    refine r_not rfl (r_nil (q_t ?_))
    refine w_true rfl ?_
    refine w_seq ?_
    refine w_reg ?_
    refine r_as (r_as (r_nil (q_t ?_)))
    refine w_ret (q_tr ?_)
    refine ⟨_, retV_2, ?_⟩
    exact ⟨⟨Ext.refl _, _, _, rfl, .inl ⟨hc1, rfl, mat_nil _⟩⟩, fun r e he => (tup_inj he).1 ▸ capOk_nil⟩
  · skip
    refine r_not rfl (r_nil (q_t ?_))
    refine w_false rfl ?_
    refine w_skip (q_t ?_)
    refine w_seq ?_
    refine w_seq ?_
    refine w_reg ?_
    refine r_mv (r_call trivial rfl (checkModulus_ok m h) fun v' h hk => ?_)
    obtain ⟨rfl, rfl⟩ := hk
    refine ⟨trivial, ?_⟩
    refine r_as (r_nil (q_t ?_))
    refine w_seq ?_
    refine w_reg ?_
    refine r_mv (r_neq rfl rfl (fun hc2 => ?_) (fun hc2 => ?_))   -- t22 := binOp neq 30 t21 0:i64 30
    · skip
      refine r_nil (q_t ?_)
      refine w_true rfl ?_
      refine w_seq ?_
      refine w_reg ?_
      refine r_mv (r_as (r_as (r_nil (q_t ?_))))
      refine w_ret (q_tr ?_)
      refine ⟨_, retV_2, ?_⟩
      have hmB : modB m = false := by cases hb : modB m <;> simp [hb] at hc2 ⊢
      exact ⟨⟨Ext.refl _, _, _, rfl, .inr (.inl ⟨hc1, hmB, by simp [hmB], mat_nil _⟩)⟩, fun r e he => (tup_inj he).1 ▸ capOk_nil⟩
    · skip
      refine r_nil (q_t ?_)
      refine w_false rfl ?_
      refine w_skip (q_t ?_)
      refine w_seq ?_
      have hmB : modB m = true := by cases hb : modB m <;> simp [hb] at hc2 ⊢
      have hm := mod_of_modB hmB
      obtain ⟨hv, hsq, h8⟩ := square_of hc1
      have hv1 := hv.1
      have hv2 := hv.2.1
      refine w_reg ?_
      refine r_mv (r_lenm sl_MM rfl (HM.ext hE0) (r_as (r_nil (q_t ?_))))
      refine w_seq ?_
      refine w_reg ?_
      refine r_mv (r_mv ?_)
      have hmB : modB m = true := by cases hb : modB m <;> simp [hb] at hc2 ⊢
      have hm := mod_of_modB hmB
      obtain ⟨hv, hsq, h8⟩ := square_of hc1
      have hv1 := hv.1
      have hv2 := hv.2.1
      refine r_call trivial rfl (residues_ok HM hm.1 hm.2 (by omega) (valid_le hv)) fun r1 h2 hk => ?_
      obtain ⟨hE1, b, gs, HO1, hb⟩ := hk
      refine ⟨trivial, ?_⟩
      have HO2 := residues_tab (c := M.length) (h := h) HO1 (fun z hz => by rw [hv.2.2.2.2 z hz]; omega)
      have hbd0 := bd_red (M := M) (c := M.length) (m := m) (by omega)
      refine r_as (r_nil (q_t ?_))
      refine w_seq ?_
      refine w_seq ?_
      refine w_reg ?_
      refine r_mv (r_lenp sl_MM rfl HO2 (r_mv (r_nil (q_t ?_))))
      refine w_block ?_
      refine w_loop 4503597479887360 (fun i : Nat => [(31, .int .i64 (i : Int))]) (fun k i h' => Ext h h' ∧ k = M.length - i ∧ i ≤ M.length ∧ ∃ gs', PartM h' tR tI b gs' r1 M.length (mixM M.length i (fun k => (List.range (M.length + M.length)).map (augF M.length (ent (redM M m)) k)) (fun k => (List.range M.length).map (ent (redM M m) k))) ∧ ∀ g ∈ b :: gs', h.size ≤ g) (by kernel_rfl) M.length 0 ?_ ⟨rfl, trivial⟩ ?_
      · exact ⟨hE1, by omega, by omega, gs, by rw [mixM_zero]; exact HO2, hb⟩
      rintro k i sx h3 ⟨hEA, rfl, hi, gsA, HPA, hgA⟩
      refine w_seq ?_
      refine w_reg ?_
      refine r_lss rfl rfl (fun hc3 => ?_) (fun hc3 => ?_)   -- t32 := binOp lss 3 t31 t30 3
      · skip
        refine r_nil (q_t ?_)
        refine w_seq ?_
        refine w_true rfl ?_
        refine w_skip (q_t ?_)
        refine w_seq ?_
        refine w_block ?_
        refine w_seq ?_
        refine w_reg ?_
        refine r_mv (r_as (r_nil (q_t ?_)))
        refine w_seq ?_
        refine w_reg ?_
        refine r_mv (r_mv (r_mv (r_mv (r_ixp sl_MM rfl HPA rfl (mixM_at (by omega)) fun aK rK gK haK hgK hrK => ?_))))
        refine r_ld na_I64 rfl haK (r_mv (r_appZ (n := M.length) sl_I64 it_int ze_i64 rfl trivial rfl hrK rfl (by omega) (by simp; omega) (by simp; omega) fun r4 g4 h4 HO4 hg4 hU4 => ⟨trivial, ?_⟩))
        obtain ⟨rs, HT, hrl⟩ := PartM.top HPA
        have hKb := PartM.ne HPA hgK
        have HT4 := HT.upd hU4 (fun he => hKb (Eq.symm he))
        have HO4b : OwnA h4 tI g4 r4 (((List.range M.length).map (ent (redM M m) i) ++ List.replicate M.length 0).map (.int .i64)) := by
          rw [List.map_append, List.map_replicate]; exact HO4
        refine r_ixo sl_MM rfl HT4 rfl (by omega) ?_
        refine r_sto na_I64 rfl rfl HO4.one HT4 (by omega) ?_
        have hg4s : g4 = gK ∨ h3.size ≤ g4 := by
          rcases hg4 with h | h
          · exact .inl h
          · exact .inr (by omega)
        have HPB := PartM.replace HPA hgK hU4 HO4b hg4s
        have hgKm := hgA gK (List.mem_cons_of_mem _ (List.mem_of_getElem? hgK))
        have hb0 := hgA b (List.mem_cons_self ..)
        have hg4m : h.size ≤ g4 := by
          rcases hg4s with h | h
          · omega
          · have := hEA.1; omega
        have hgB : ∀ g ∈ b :: gsA.set i g4, h.size ≤ g := fun g hg => by
          rcases List.mem_cons.1 hg with rfl | hg
          · exact hb0
          · exact mem_set_ge (fun g hg => hgA g (List.mem_cons_of_mem _ hg)) hg4m g hg
        have hEB := (hEA.thenUpd hU4 (fun k hk => by have hk2 : k = gK := hk; omega)).thenUpd (upd_set h4 ⟨b, i, none⟩ r4) (fun k hk => by have hk2 : k = b := hk; omega)
        have hgl : gsA.length = M.length := by have := PartM.glen HPA; rw [mixM_len] at this; exact this
        refine r_nil (q_t ?_)
        refine w_reg ?_
        refine r_mv (r_mv (r_ixp sl_MM rfl HPB rfl (List.getElem?_set_self (by rw [mixM_len]; omega)) fun aQ rQ gQ haQ hgQ hrQ => ?_))
        refine r_ld na_I64 rfl haQ (r_mv (r_mv (r_addn rfl rfl (by omega) ?_)))
        refine r_ixo (n := M.length + i) sl_I64 rfl hrQ rfl (by simp; omega) ?_
        refine r_sto na_i64 rfl rfl rfl hrQ (by simp; omega) ?_
        have HPC := PartM.setElem HPB hgQ (List.getElem?_set_self (by rw [mixM_len]; omega)) (j := M.length + i) (by simp; omega) 1
        rw [List.set_set, aug_row _ (by omega), mixM_set rfl] at HPC
        have hEC := hEB.thenUpd (upd_set _ ⟨gQ, M.length + i, none⟩ (.int .i64 1)) (fun k hk => by have hk2 : k = gQ := hk; have := hgB gQ (List.mem_cons_of_mem _ (List.mem_of_getElem? hgQ)); omega)
        refine r_nil (q_b (q_t ?_))
        refine w_reg ?_
        refine r_inc rfl (by omega) (r_mv (r_nil (q_t ?_)))
        exact ⟨M.length - (i + 1), i + 1, by omega, ⟨hEC, rfl, by omega, _, HPC, hgB⟩, rfl, trivial⟩
      · skip
        refine r_nil (q_t ?_)
        refine w_seq ?_
        refine w_false rfl ?_
        refine w_exit (q_tx (q_tx (q_bx (q_t ?_))))
        refine w_seq ?_
        refine w_reg ?_
        refine r_mv (r_mv ?_)
        rw [mixM_all _ _ (by omega)] at HPA
        refine r_call trivial rfl (triangular_ok HPA (by omega) (by omega) hm.1 hm.2 (bd_aug hm.1 hbd0) Q (hQ0 hc1 hmB) hQ) fun x3 h5 hk => ?_
        obtain ⟨hU5, F1, s, gs1, rfl, hs, HP5, hgs1, hQ1, hbd1, hz1⟩ := hk
        refine ⟨trivial, ?_⟩
        have hE5 := hEA.thenUpd hU5 (fun k hk => hgA k hk)
        have hlt := PartM.lt HP5
        have hge : ∀ g ∈ b :: gs1, h.size ≤ g := fun g hg => hgA g (by
          rcases List.mem_cons.1 hg with rfl | hg
          · exact List.mem_cons_self ..
          · exact List.mem_cons_of_mem _ (hgs1 g hg))
        refine r_nil (q_t ?_)
        refine w_seq ?_
        refine w_reg ?_
        refine r_mv (r_call trivial rfl (eliminator_ok m h5) fun fv h6 hk => ?_)
        obtain ⟨rfl, rfl⟩ := hk
        refine ⟨trivial, ?_⟩
        have hpush := ext_push h5 (.cells #[.int .i64 m] tI (0, 0))
        refine r_as (r_nil (q_t ?_))
        refine w_seq ?_
        refine w_seq ?_
        refine w_reg ?_
        refine r_mv (r_subb rfl rfl (by omega) (by omega) (r_as (r_nil (q_t ?_))))
        refine w_block ?_
        refine w_loop 81129638414606105235036701751344 (fun y : Nat × Int => [(11, .int .i64 y.2)]) (fun k y h' => k = M.length - y.1 ∧ y.1 ≤ M.length ∧ y.2 = (M.length : Int) - 1 - (y.1 : Int) ∧ EchI h5 h' b gs1 r1 M.length (M.length + M.length) m (backTo m M.length F1 y.1) (.slice none 0 0) [] gs1 ∧ ∀ c, M.length - y.1 ≤ c → c < M.length → ∃ z, IsInv m (F1 c c) z) (by kernel_rfl) M.length (0, (M.length : Int) - 1) ?_ ⟨rfl, trivial⟩ ?_
        · refine ⟨rfl, by omega, by simp, ⟨hpush.upd, PartM.ext HP5 hpush, fun g hg => hg, gro_nil _ _ _, ?_, by simp⟩, fun c h1 h2 => absurd h1 (by simp; omega)⟩
          simp [cellH]
        rintro k ⟨j, xv⟩ sy h6 ⟨rfl, hj, hxv, HIB, hall⟩
        dsimp only at hj hxv HIB hall ⊢
        refine w_seq ?_
        refine w_seq ?_
        refine w_reg ?_
        refine r_mv (r_geq rfl rfl (fun hc4 => ?_) (fun hc4 => ?_))   -- t60 := binOp geq 3 t59 0:i64 3
        · skip
          refine r_nil (q_t ?_)
          refine w_true rfl ?_
          refine w_skip (q_t ?_)
          refine w_seq ?_
          refine w_block ?_
          refine w_seq ?_
          obtain ⟨c, rfl⟩ : ∃ c : Nat, xv = (c : Int) := ⟨xv.toNat, by omega⟩
          obtain ⟨G, hG⟩ : ∃ G, backTo m M.length F1 j = G := ⟨_, rfl⟩
          rw [hG] at HIB
          have HPG := HIB.2.1
          have hbdG : Bd M.length (M.length + M.length) m G := hG ▸ bd_back (by omega) hbd1 j
          have hx := hbdG c c (by omega) (by omega)
          have hdiag : G c c = F1 c c := by rw [← hG]; exact back_col (by omega) hbd1 (by omega) hz1 j (by omega) c c (by omega) (by omega)
          refine w_reg ?_
          refine r_mv (r_mv (r_ixp sl_MM rfl HPG rfl (tab_row (by omega)) fun aR rR gR haR hgR hrR => ?_))
          refine r_ld na_I64 rfl haR (r_mv (r_ixi sl_I64 rfl hrR.sl rfl (range_at (by omega)) fun aX haX => ?_))
          refine r_ld na_i64 rfl haX (r_mv (r_call trivial rfl (reciprocal_ok (x := G c c) (m := m) hx.1 hx.2 hm.1 hm.2 _) fun rv h7 hk => ?_))
          obtain ⟨rfl, inv, ok, rfl, hi0, him, hok, hno⟩ := hk
          refine ⟨trivial, ?_⟩
          refine r_mv (r_ext rfl rfl (r_ext rfl rfl (r_as (r_as (r_nil (q_t ?_))))))
          refine w_seq ?_
          refine w_seq ?_
          refine w_reg ?_
          refine r_mv (r_not rfl (r_nil (q_t ?_)))
          refine ⟨_, rfl, fun hc5 => ?_, fun hc5 => ?_⟩
          · skip
            refine w_seq ?_
            refine w_reg ?_
            refine r_as (r_as (r_nil (q_t ?_)))
            refine w_ret (q_tr (q_br (q_tr (q_tr (q_br (q_tr ?_))))))
            refine ⟨_, retV_2, ?_⟩
            have hok2 : ok = false := by cases ok <;> simp at hc5 ⊢
            exact ⟨⟨hE5.thenUpd HIB.1 (fun k hk => hge k hk), _, _, rfl, .inr (.inr ⟨hc1, hmB, F1, s, hs, hQ1, hbd1, hz1, .inl ⟨rfl, mat_nil _, c, by omega, hdiag ▸ hno hok2⟩⟩)⟩, fun r e he => (tup_inj he).1 ▸ capOk_nil⟩
          · skip
            refine w_skip (q_t ?_)
            refine w_seq ?_
            have hok2 : ok = true := by cases ok <;> simp at hc5 ⊢
            have hinv := invM_eq (hok hok2)
            have HPG := HIB.2.1
            refine w_reg ?_
            refine r_mv (r_mv (r_ixp sl_MM rfl HPG rfl (tab_row (by omega)) fun aS rS gS haS hgS hrS => ?_))
            refine r_ld na_I64 rfl haS (r_mv (r_mv (r_call trivial rfl (scale_ok hrS (row_bd hbdG (by omega)) hi0 him hm.1 hm.2 (by simp; omega)) fun sv h8 hk => ?_)))
            obtain ⟨hU8, HO8⟩ := hk
            refine ⟨trivial, ?_⟩
            rw [scale_row] at HO8
            have HP8 := PartM.setRow' HIB.2.1 hgS hU8 (tab_row (by omega)) hrS HO8
            rw [tab_setF] at HP8
            have HI8 := HIB.turn hlt hU8 (List.mem_cons_of_mem _ (List.mem_of_getElem? hgS)) (F2 := scaleF G c inv m) HP8 HIB.2.2.1
            have hbd8 := bd_scale (a := c) (f := inv) (by omega : 0 < m) hbdG
            refine r_nil (q_t ?_)
            refine w_seq ?_
            refine w_reg ?_
            refine r_mv (r_mv (r_nil (q_t ?_)))
            refine w_block ?_
            refine w_loop 81129599728980454027655414562816 (fun q : Nat => [(85, .int .i64 (q : Int))]) (fun k q h' => k = c - q ∧ q ≤ c ∧ EchI h5 h' b gs1 r1 M.length (M.length + M.length) m (elimF (scaleF G c inv m) c c m q) (.slice none 0 0) [] gs1) (by kernel_rfl) c 0 ?_ ⟨rfl, trivial⟩ ?_
            · exact ⟨rfl, by omega, by rw [elimF_zero]; exact HI8⟩
            rintro k q sz h9 ⟨rfl, hq, HIk⟩
            have HPk := HIk.2.1
            refine w_seq ?_
            refine w_reg ?_
            refine r_lss rfl rfl (fun hc6 => ?_) (fun hc6 => ?_)   -- t86 := binOp lss 3 t85 t84 3
            · skip
              refine r_nil (q_t ?_)
              refine w_seq ?_
              refine w_true rfl ?_
              refine w_skip (q_t ?_)
              refine w_seq ?_
              refine w_block ?_
              refine w_seq ?_
              have hbk := bd_elim (k := q) (top := c) (j := c) (by omega : 0 < m) hbd8
              have hY := hbk q c (by omega) (by omega)
              refine w_reg ?_
              refine r_mv (r_as (r_nil (q_t ?_)))
              refine w_draw (by kernel_rfl) ?_
              refine r_mv (r_mv (r_mv (r_ixp sl_MM rfl HPk rfl (tab_row (by omega)) fun aK rK gK haK hgK hrK => ?_)))
              refine r_ld na_I64 rfl haK (r_mv (r_mv (r_ixp sl_MM rfl HPk rfl (tab_row (by omega)) fun aL rL gL haL hgL hrL => ?_)))
              refine r_ld na_I64 rfl haL ?_
              have hgKm : gK ∈ b :: gs1 := List.mem_cons_of_mem _ (List.mem_of_getElem? hgK)
              have hneKL : gK ≠ gL := fun he => absurd (nodup_getElem?_inj (List.nodup_cons.1 (PartM.nodup HIk.2.1)).2 hgK (he ▸ hgL)) (by omega)
              refine r_mv ?_
              refine r_mv (r_ixp sl_MM rfl HPk rfl (tab_row (by omega)) fun aN rN gN haN hgN hrN => ?_)
              refine r_ld na_I64 rfl haN (r_mv (r_ixi sl_I64 rfl hrN.sl rfl (range_at (by omega)) fun aY haY => ?_))
              refine r_ld na_i64 rfl haY (r_callc trivial rfl rfl (eliminate_ok (a := ⟨h5.size, 0, none⟩) hrK hrL hneKL (by simp) HIk.2.2.2.2.1 (by have := hlt _ hgKm; dsimp only; omega) (row_bd hbk (by omega)) (row_bd hbk (by omega)) hY.1 hY.2 hm.1 hm.2 (by simp; omega)) fun ev h10 hk => ?_)
              obtain ⟨hU10, HO10⟩ := hk
              refine ⟨trivial, ?_⟩
              rw [elim_row] at HO10
              have HP10 := PartM.setRow' HIk.2.1 hgK hU10 (tab_row (by omega)) hrK HO10
              rw [tab_setF] at HP10
              simp only [elimF_at, elimF_top] at HP10
              rw [elimF_step (by omega)] at HP10
              have HI10 := HIk.turn hlt hU10 hgKm HP10 HIk.2.2.1
              refine r_nil (q_b (q_t ?_))
              refine w_reg ?_
              refine r_inc rfl (by omega) (r_mv (r_nil (q_t ?_)))
              exact ⟨c - (q + 1), q + 1, by omega, ⟨rfl, by omega, HI10⟩, rfl, trivial⟩
            · skip
              refine r_nil (q_t ?_)
              refine w_seq ?_
              refine w_false rfl ?_
              refine w_exit (q_tx (q_tx (q_bx (q_b (q_t ?_)))))
              refine w_reg ?_
              refine r_mv (r_subb rfl rfl (by omega) (by omega) (r_as (r_nil (q_t ?_))))
              obtain rfl : q = c := by omega
              have hS : backTo m M.length F1 (j + 1) = elimF (scaleF G q inv m) q q m q := by
                simp only [backTo, backS]
                rw [hG, show M.length - 1 - j = q by omega, hinv]
              refine ⟨M.length - (j + 1), (j + 1, (q : Int) - 1), by first | omega | (dsimp only; omega), ⟨rfl, by first | omega | (dsimp only; omega), by simp; omega, ?_, fun c h1 h2 => ?_⟩, rfl, trivial⟩
              · dsimp only
                rw [hS]; exact HIk
              · dsimp only at h1
                by_cases hcq : c = q
                · subst hcq; exact ⟨inv, hdiag ▸ hok hok2⟩
                · exact hall c (by omega) h2
        · skip
          refine r_nil (q_t ?_)
          refine w_false rfl ?_
          refine w_exit (q_tx (q_tx (q_bx (q_t ?_))))
          refine w_seq ?_
          refine w_seq ?_
          obtain rfl : j = M.length := by omega
          have HPG := HIB.2.1
          refine w_reg ?_
          refine r_mv (r_lenp sl_MM rfl HPG (r_mv (r_nil (q_t ?_))))
          refine w_block ?_
          refine w_loop 5316587464586005064888445085100834816 (fun i : Nat => [(108, .int .i64 (i : Int))]) (fun k i h' => Ext h h' ∧ k = M.length - i ∧ i ≤ M.length ∧ ∃ gs', PartM h' tR tI b gs' r1 M.length (mixM M.length i (fun k => (List.range M.length).map fun j => backTo m M.length F1 M.length k (M.length + j)) (fun k => (List.range (M.length + M.length)).map (backTo m M.length F1 M.length k))) ∧ ∀ g ∈ b :: gs', h.size ≤ g) (by kernel_rfl) M.length 0 ?_ ⟨rfl, trivial⟩ ?_
          · exact ⟨hE5.thenUpd HIB.1 (fun k hk => hge k hk), by omega, by omega, gs1, by rw [mixM_zero]; exact HPG, hge⟩
          rintro k i sw h11 ⟨hEW, rfl, hi, gsW, HPW, hgW0⟩
          refine w_seq ?_
          refine w_reg ?_
          refine r_lss rfl rfl (fun hc7 => ?_) (fun hc7 => ?_)   -- t109 := binOp lss 3 t108 t107 3
          · skip
            refine r_nil (q_t ?_)
            refine w_seq ?_
            refine w_true rfl ?_
            refine w_skip (q_t ?_)
            refine w_seq ?_
            refine w_block ?_
            refine w_seq ?_
            refine w_reg ?_
            refine r_mv (r_as (r_nil (q_t ?_)))
            refine w_reg ?_
            refine r_mv (r_mv (r_mv (r_mv (r_ixp sl_MM rfl HPW rfl (mixM_at (by omega)) fun aW rW gW haW hgW hrW => ?_))))
            refine r_ld na_I64 rfl haW (r_mv ?_)
            obtain ⟨capW, hvW, hcW⟩ := hrW.slice
            have hlW : (((List.range (M.length + M.length)).map (backTo m M.length F1 M.length i)).map (Value.int .i64)).length = M.length + M.length := by simp
            rw [hlW] at hvW hcW
            have HX := hrW.from (k := M.length) (cap := capW) hlW (by omega) (by omega)
            rw [drop_row] at HX
            refine r_slFrom sl_I64 hvW rfl (by omega) hcW ?_
            refine r_app0 sl_I64 ze_i64 rfl trivial rfl rfl HX (by simp [isOne]) (by rw [List.map_map]; exact range_map_ne (by omega)) (by simp; omega) (by simp; omega) fun r12 h12 HO12 hE12 => ⟨trivial, ?_⟩
            obtain ⟨rs, HT, hrl⟩ := PartM.top HPW
            have HT4 := HT.ext hE12
            refine r_ixo sl_MM rfl HT4 rfl (by omega) ?_
            refine r_sto na_I64 rfl rfl HO12.one HT4 (by omega) ?_
            have HPY := PartM.replace HPW hgW hE12.upd HO12 (.inr (Nat.le_refl _))
            rw [mixM_set rfl] at HPY
            refine r_nil (q_b (q_t ?_))
            refine w_reg ?_
            refine r_inc rfl (by omega) (r_mv (r_nil (q_t ?_)))
            have hEY := (hEW.trans hE12).thenUpd (upd_set h12 ⟨b, i, none⟩ r12) (fun k hk => by have hk2 : k = b := hk; have := hgW0 b (List.mem_cons_self ..); omega)
            exact ⟨M.length - (i + 1), i + 1, by omega, ⟨hEY, rfl, by omega, _, HPY, fun g hg => by
              rcases List.mem_cons.1 hg with rfl | hg
              · exact hgW0 _ (List.mem_cons_self ..)
              · exact mem_set_ge (fun g hg => hgW0 g (List.mem_cons_of_mem _ hg)) hEW.1 g hg⟩, rfl, trivial⟩
          · skip
            refine r_nil (q_t ?_)
            refine w_seq ?_
            refine w_false rfl ?_
            refine w_exit (q_tx (q_tx (q_bx (q_t ?_))))
            refine w_seq ?_
            refine w_reg ?_
            refine r_mv (r_as (r_as (r_nil (q_t ?_))))
            refine w_ret ?_
            refine ⟨_, retV_2, ?_⟩
            obtain rfl : i = M.length := by omega
            rw [mixM_all _ _ (by omega)] at HPW
            refine ⟨⟨hEW, _, _, rfl, .inr (.inr ⟨hc1, hmB, F1, s, hs, hQ1, hbd1, hz1, .inr ⟨rfl, fun c hc => hall c (by omega) hc, ?_⟩⟩)⟩, fun r e he => (tup_inj he).1 ▸ (let ⟨_, ho, _⟩ := HPW; ho.cap)⟩
            exact (show OwnM h11 tR tI b gsW r1 (tab M.length M.length fun i j => backTo m M.length F1 M.length i (M.length + j)) by unfold OwnM; rw [tab_len]; exact HPW).mat
end Go.Proofs.YtiegjkmfpcgjjaaDoor
/-
  Determinants modulo a number, and the contract of Det of package modular by the determinant.
-/
namespace Go.QF
set_option linter.unusedVariables false
theorem det_eqm : ∀ {n : Nat} {m : Int} {F G : Nat → Nat → Int}, (∀ i j, i < n → j < n → Eqm m (F i j) (G i j)) → Eqm m (det n F) (det n G) := by
  intro n m
  induction n with
  | zero => intro _ _ _; rfl
  | succ n ih =>
    intro F G h
    refine Eqm.psum fun i hi => ?_
    exact ((Eqm.refl _ _).mul (h i 0 hi (by omega))).mul (ih (F := minor0 i F) (G := minor0 i G) fun a b ha hb => h _ _ (skp_lt ha) (by omega))
/-- A row step modulo m. -/
theorem det_stepF {n c i : Nat} {q m : Int} {F : Nat → Nat → Int} (hc : c < n) (hi : i < n) (hne : c ≠ i) : Eqm m (det n (stepF F c i q m)) (-det n F) := by
  rw [← det_add_row (F := F) hc hi hne (-q), ← det_swap (F := setF F c fun x => F c x + -q * F i x) hc hi hne]
  refine det_eqm fun a b ha hb => ?_
  unfold stepF
  rw [swapF_app, swapF_app]
  simp only [setF_app]
  have key : Eqm m ((F c b + (m - q) * F i b) % m) (F c b + -q * F i b) := by
    refine (Eqm.mod _ _).trans ?_
    unfold Eqm
    rw [show F c b + (m - q) * F i b = F c b + -q * F i b + m * F i b by grind, Int.add_mul_emod_self_left]
  split
  · split <;> first | exact key | rfl
  · split
    · split <;> first | exact key | rfl
    · first | rfl | exact key
theorem detP_eqm {F : Nat → Nat → Int} {m s : Int} : ∀ n, Eqm m (detP F m s n) (s * dprod (fun i => F i i) n) := by
  intro n
  induction n with
  | zero => unfold detP dprod Eqm; rw [Int.add_emod_right, Int.mul_one]
  | succ n ih =>
    unfold detP dprod
    refine (Eqm.mod _ _).trans ?_
    rw [← Int.mul_assoc]
    exact ((Eqm.mod _ _).trans ih).mul (Eqm.refl _ _)
/-- What Det answers. -/
def detS (M : List (List Int)) (m : Int) : Int := if squareB M && modB m then det M.length (ent M) % m else 0
end Go.QF
namespace Go.Proofs.YtiegjkmfpcgjjaaDoor
open Go Go.QF
set_option linter.unusedVariables false
end Go.Proofs.YtiegjkmfpcgjjaaDoor
/-
  Plain: the inverse that the row steps make is one on both sides. No condition.
-/
namespace Go.QF
set_option linter.unusedVariables false
/-- The left half is the right half times A; the right half has an inverse from the left. -/
def InvQ (n : Nat) (m : Int) (A F : Nat → Nat → Int) : Prop :=
  (∀ i j, i < n → j < n → Eqm m (F i j) (psum (fun k => F i (n + k) * A k j) n)) ∧
  ∃ S : Nat → Nat → Int, ∀ i j, i < n → j < n → Eqm m (comb n (S i) F (n + j)) (dl i j)
theorem invQ_rowEq {n : Nat} {m : Int} {A F F' : Nat → Nat → Int} (E : RowEq n (n + n) m F F') (H : InvQ n m A F) : InvQ n m A F' := by
  obtain ⟨h1, S, h2⟩ := H
  refine ⟨fun i j hi hj => ?_, fun i => (E.2 (S i)).choose, fun i j hi hj => ((E.2 (S i)).choose_spec (n + j) (by omega)).symm.trans (h2 i j hi hj)⟩
  obtain ⟨y, e, _⟩ := E.1 (updY (fun _ => 0) i 1)
  have e' : ∀ q, q < n + n → Eqm m (F' i q) (comb n y F q) := fun q hq => by have := e q hq; rw [comb_unit hi] at this; exact this
  refine (e' j (by omega)).trans ?_
  have h3 : Eqm m (comb n y F j) (psum (fun a => y a * psum (fun k => F a (n + k) * A k j) n) n) := Eqm.psum fun a ha => (Eqm.refl _ _).mul (h1 a j ha hj)
  refine h3.trans ?_
  have h4 : psum (fun a => y a * psum (fun k => F a (n + k) * A k j) n) n = psum (fun k => comb n y F (n + k) * A k j) n := by
    unfold comb
    rw [psum_congr (g := fun a => psum (fun k => y a * F a (n + k) * A k j) n) (fun a _ => by rw [← psum_mul]; exact psum_congr fun k _ => by rw [Int.mul_assoc]), psum_comm]
    exact psum_congr fun k _ => by rw [Int.mul_comm, ← psum_mul]; exact psum_congr fun a _ => by rw [Int.mul_comm]
  rw [h4]
  exact Eqm.psum fun k hk => ((e' (n + k) (by omega)).symm).mul (Eqm.refl _ _)
theorem rowEq_step {r c a i : Nat} {q m : Int} {F : Nat → Nat → Int} (ha : a < r) (hi : i < r) (hne : a ≠ i) : RowEq r c m F (stepF F a i q m) :=
  (rowEq_add (e := m - q) ha hi hne).trans (rowEq_swap ha hi)
theorem invQ_aug {n : Nat} {m : Int} {A : Nat → Nat → Int} : InvQ n m A (augF n A) := by
  have h0 : ∀ i k, i < n → k < n → augF n A i (n + k) = dl i k := by
    intro i k hi hk
    unfold augF dl
    rw [if_neg (by omega)]
    by_cases h : i = k
    · subst h; simp
    · rw [if_neg h, if_neg (by omega)]
  refine ⟨fun i j hi hj => Eqm.of_eq ?_, dl, fun i j hi hj => Eqm.of_eq ?_⟩
  · rw [psum_congr (g := fun k => dl i k * A k j) (fun k hk => by rw [h0 i k hi hk])]
    rw [psum_one hi (fun k hk => by unfold dl; rw [if_neg (fun h => hk h.symm)]; simp)]
    simp [dl, augF, hj]
  · unfold comb
    rw [psum_congr (g := fun k => dl i k * dl k j) (fun k hk => by rw [h0 k j hk hj])]
    rw [psum_one hi (fun k hk => by unfold dl; rw [if_neg (fun h => hk h.symm)]; simp)]
    simp [dl]
theorem rowEq_back {n c : Nat} {m : Int} {F : Nat → Nat → Int} {k : Nat} (hk : k < n) (hu : ∃ y, IsInv m (F k k) y) : RowEq n c m F (backS m F k) := by
  obtain ⟨y, hy⟩ := hu
  have hinv := invM_spec hy
  unfold backS
  refine (rowEq_scale (g := F k k) hk ?_).trans (rowEq_elim hk k (by omega))
  exact hinv.2.2
theorem invQ_back {n : Nat} {m : Int} {A F : Nat → Nat → Int} (hm : 2 ≤ m) (hbd : Bd n (n + n) m F) (hz : Zc n F n) (hu : ∀ c, c < n → ∃ y, IsInv m (F c c) y) (H : InvQ n m A F) : ∀ j, j ≤ n → InvQ n m A (backTo m n F j) := by
  intro j
  induction j with
  | zero => intro _; exact H
  | succ j ih =>
    intro hj
    refine invQ_rowEq (rowEq_back (by omega) ?_) (ih (by omega))
    rw [back_col (by omega) hbd (by omega) hz j (by omega) (n - 1 - j) (n - 1 - j) (by omega) (by omega)]
    exact hu _ (by omega)
theorem back_id {n : Nat} {m : Int} {F : Nat → Nat → Int} (hm : 2 ≤ m) (hbd : Bd n (n + n) m F) (hz : Zc n F n) (hu : ∀ c, c < n → ∃ y, IsInv m (F c c) y) : ∀ j, j ≤ n → ∀ i c, i < n → n - j ≤ c → c < n → backTo m n F j i c = dl i c := by
  intro j
  induction j with
  | zero => intro _ i c _ h1 h2; omega
  | succ j ih =>
    intro hj i c hi h1 h2
    have hb := bd_back (n := n) (by omega : 0 < m) hbd j
    have hcol := back_col (m := m) (by omega) hbd (by omega) hz j (by omega)
    obtain ⟨G, hG⟩ : ∃ G, backTo m n F j = G := ⟨_, rfl⟩
    obtain ⟨k, hk⟩ : ∃ k, n - 1 - j = k := ⟨_, rfl⟩
    have hkn : k < n := by omega
    simp only [backTo, backS]
    rw [hG, hk] 
    rw [hG] at ih hb hcol
    have hkk : G k k = F k k := hcol k k hkn (by omega)
    obtain ⟨y, hy⟩ := hu k hkn
    have hinv := invM_spec hy
    rw [hkk]
    have hrow : ∀ q, scaleF G k (invM m (F k k)) m k q = G k q * invM m (F k k) % m := fun q => by unfold scaleF; rw [setF_same]
    have hoth : ∀ a, a ≠ k → scaleF G k (invM m (F k k)) m a = G a := fun a ha => by unfold scaleF; rw [setF_ne _ _ ha]
    have hone : scaleF G k (invM m (F k k)) m k k = 1 := by rw [hrow, hkk, Int.mul_comm, hinv.2.2, Int.emod_eq_of_lt (by omega) (by omega)]
    have hright : ∀ c, k < c → c < n → scaleF G k (invM m (F k k)) m k c = 0 := fun c h3 h4 => by
      rw [hrow, ih (by omega) k c hkn (by omega) h4]; unfold dl; rw [if_neg (by omega)]; simp
    by_cases hik : i = k
    · subst hik
      rw [elimF_top]
      by_cases hci : c = i
      · subst hci; rw [hone]; simp [dl]
      · rw [hright c (by omega) h2]; unfold dl; rw [if_neg (fun h => hci h.symm)]
    · by_cases hlt : i < k
      · rw [elimF_else hlt hik, hoth i hik]
        by_cases hck : c = k
        · subst hck
          rw [hone, Int.mul_one, show G i c + (m - G i c) = m by omega, Int.emod_self]
          unfold dl; rw [if_neg hik]
        · rw [hright c (by omega) h2, Int.mul_zero, Int.add_zero, ih (by omega) i c hi (by omega) h2]
          unfold dl; rw [if_neg (by omega)]; simp
      · have he : elimF (scaleF G k (invM m (F k k)) m) k k m k i c = G i c := by
          unfold elimF; rw [if_neg (by omega), hoth i hik]
        rw [he]
        by_cases hck : c = k
        · subst hck
          rw [hcol i c hi (by omega), hz c i hkn (by omega) hi]
          unfold dl; rw [if_neg hik]
        · exact ih (by omega) i c hi (by omega) h2
/-- The right half is an inverse on both sides. -/
theorem inv_both {n : Nat} {m : Int} {A F : Nat → Nat → Int} (hm : 2 ≤ m) (hbd : Bd n (n + n) m F) (hz : Zc n F n) (hu : ∀ c, c < n → ∃ y, IsInv m (F c c) y) (H : InvQ n m A F) :
    (∀ i j, i < n → j < n → Eqm m (psum (fun k => backTo m n F n i (n + k) * A k j) n) (dl i j)) ∧ (∀ i j, i < n → j < n → Eqm m (psum (fun k => A i k * backTo m n F n k (n + j)) n) (dl i j)) := by
  obtain ⟨h1, S, h2⟩ := invQ_back hm hbd hz hu H n (Nat.le_refl _)
  have hid := back_id hm hbd hz hu n (Nat.le_refl _)
  obtain ⟨G, hG⟩ : ∃ G, backTo m n F n = G := ⟨_, rfl⟩
  rw [hG] at h1 h2 hid ⊢
  have hBA : ∀ i j, i < n → j < n → Eqm m (psum (fun k => G i (n + k) * A k j) n) (dl i j) := fun i j hi hj => by
    have := h1 i j hi hj
    rw [hid i j hi (by omega) hj] at this
    exact this.symm
  refine ⟨hBA, fun i j hi hj => ?_⟩
  have hSA : ∀ i j, i < n → j < n → Eqm m (S i j) (A i j) := by
    intro i j hi hj
    have e1 : S i j = psum (fun k => S i k * dl k j) n := by
      rw [psum_one hj (fun k hk => by unfold dl; rw [if_neg hk]; simp)]; simp [dl]
    have e2 : Eqm m (psum (fun k => S i k * dl k j) n) (psum (fun k => S i k * psum (fun l => G k (n + l) * A l j) n) n) := Eqm.psum fun k hk => (Eqm.refl _ _).mul (hBA k j hk hj).symm
    have e3 : psum (fun k => S i k * psum (fun l => G k (n + l) * A l j) n) n = psum (fun l => comb n (S i) G (n + l) * A l j) n := by
      unfold comb
      rw [psum_congr (g := fun k => psum (fun l => S i k * G k (n + l) * A l j) n) (fun k _ => by rw [← psum_mul]; exact psum_congr fun l _ => by rw [Int.mul_assoc]), psum_comm]
      exact psum_congr fun l _ => by rw [Int.mul_comm, ← psum_mul]; exact psum_congr fun k _ => by rw [Int.mul_comm]
    have e4 : Eqm m (psum (fun l => comb n (S i) G (n + l) * A l j) n) (psum (fun l => dl i l * A l j) n) := Eqm.psum fun l hl => (h2 i l hi hl).mul (Eqm.refl _ _)
    have e5 : psum (fun l => dl i l * A l j) n = A i j := by
      rw [psum_one hi (fun k hk => by unfold dl; rw [if_neg (fun h => hk h.symm)]; simp)]; simp [dl]
    rw [e1]
    exact (e2.trans (Eqm.of_eq e3)).trans (e4.trans (Eqm.of_eq e5))
  refine Eqm.trans (Eqm.psum fun k hk => (hSA i k hi hk).symm.mul (Eqm.refl _ _)) ?_
  exact h2 i j hi hj
/-- A triangular matrix with an inverse from the left has units on its diagonal. -/
theorem tri_unit {n : Nat} {m : Int} {T L : Nat → Nat → Int} (hm : 2 ≤ m) (hL : ∀ i c, c < i → i < n → L i c = 0) (hT : ∀ i j, i < n → j < n → Eqm m (psum (fun k => T i k * L k j) n) (dl i j)) :
    ∀ c, c < n → Eqm m (T c c * L c c) 1 ∧ ∀ i, c < i → i < n → Eqm m (T i c) 0 := by
  intro c
  induction c using Nat.strongRecOn with
  | _ c ih =>
    intro hc
    have key : ∀ i, c ≤ i → i < n → Eqm m (T i c * L c c) (dl i c) := by
      intro i h1 h2
      refine Eqm.trans ?_ (hT i c h2 hc)
      have e1 : Eqm m (psum (fun k => T i k * L k c) n) (psum (fun k => if k = c then T i c * L c c else 0) n) := Eqm.psum fun k hk => by
        by_cases h3 : k = c
        · subst h3; rw [if_pos rfl]; exact Eqm.refl _ _
        · rw [if_neg h3]
          rcases Nat.lt_or_ge k c with h4 | h4
          · exact (((ih k h4 (by omega)).2 i (by omega) h2).mul (Eqm.refl _ _)).trans (Eqm.of_eq (by simp))
          · rw [hL k c (by omega) hk]; exact Eqm.of_eq (by simp)
      refine Eqm.trans (Eqm.of_eq ?_) e1.symm
      rw [psum_one hc (fun k hk => if_neg hk), if_pos rfl]
    have hcc : Eqm m (T c c * L c c) 1 := by have := key c (Nat.le_refl _) hc; simpa [dl] using this
    refine ⟨hcc, fun i h1 h2 => ?_⟩
    have h3 := key i (by omega) h2
    unfold dl at h3
    rw [if_neg (by omega)] at h3
    have h4 := h3.mul (Eqm.refl m (T c c))
    refine Eqm.trans ?_ (h4.trans (Eqm.of_eq (by simp)))
    refine Eqm.trans (Eqm.of_eq (show T i c = T i c * 1 by omega)) (((Eqm.refl m (T i c)).mul hcc.symm).trans (Eqm.of_eq ?_))
    grind
/-- A matrix with an inverse from the left is never called singular. -/
theorem uni_unit {n : Nat} {m : Int} {A F V : Nat → Nat → Int} (hm : 2 ≤ m) (hz : Zc n F n) (H : InvQ n m A F) (hV : ∀ i j, i < n → j < n → Eqm m (psum (fun k => V i k * A k j) n) (dl i j)) : ∀ c, c < n → ∃ y, IsInv m (F c c) y := by
  obtain ⟨h1, S, h2⟩ := H
  have hT : ∀ i j, i < n → j < n → Eqm m (psum (fun k => psum (fun a => V i a * S a k) n * F k j) n) (dl i j) := by
    intro i j hi hj
    have e1 : Eqm m (psum (fun k => psum (fun a => V i a * S a k) n * F k j) n) (psum (fun k => psum (fun a => V i a * S a k) n * psum (fun l => F k (n + l) * A l j) n) n) := Eqm.psum fun k hk => (Eqm.refl _ _).mul (h1 k j hk hj)
    have e2 : psum (fun k => psum (fun a => V i a * S a k) n * psum (fun l => F k (n + l) * A l j) n) n = psum (fun a => V i a * psum (fun l => comb n (S a) F (n + l) * A l j) n) n := by
      have s1 : ∀ k, psum (fun a => V i a * S a k) n * psum (fun l => F k (n + l) * A l j) n = psum (fun a => V i a * (S a k * psum (fun l => F k (n + l) * A l j) n)) n := fun k => by
        rw [Int.mul_comm, ← psum_mul]; exact psum_congr fun a _ => by rw [Int.mul_comm, Int.mul_assoc]
      rw [psum_congr (fun k _ => s1 k), psum_comm]
      refine psum_congr fun a _ => ?_
      rw [psum_mul]
      congr 1
      unfold comb
      rw [psum_congr (g := fun k => psum (fun l => S a k * F k (n + l) * A l j) n) (fun k _ => by rw [← psum_mul]; exact psum_congr fun l _ => by rw [Int.mul_assoc]), psum_comm]
      exact psum_congr fun l _ => by rw [Int.mul_comm, ← psum_mul]; exact psum_congr fun k _ => by rw [Int.mul_comm]
    have e3 : Eqm m (psum (fun a => V i a * psum (fun l => comb n (S a) F (n + l) * A l j) n) n) (psum (fun a => V i a * A a j) n) := Eqm.psum fun a ha => by
      refine (Eqm.refl _ _).mul ?_
      refine (Eqm.psum (g := fun l => dl a l * A l j) fun l hl => (h2 a l ha hl).mul (Eqm.refl _ _)).trans (Eqm.of_eq ?_)
      rw [psum_one ha (fun k hk => by unfold dl; rw [if_neg (fun h => hk h.symm)]; simp)]; simp [dl]
    exact (e1.trans (Eqm.of_eq e2)).trans (e3.trans (hV i j hi hj))
  intro c hc
  have := (tri_unit hm (fun i c h3 h4 => hz c i (by omega) h3 h4) hT c hc).1
  refine ⟨psum (fun a => V c a * S a c) n % m, Int.emod_nonneg _ (by omega), Int.emod_lt_of_pos _ (by omega), ?_⟩
  rw [Int.mul_emod, Int.emod_emod, ← Int.mul_emod]
  exact this
end Go.QF
/-
  Plain: cofactors, the adjugate, and when a matrix has an inverse modulo a number. No condition.
-/
namespace Go.QF
set_option linter.unusedVariables false
/-- Row i replaced by the j-th unit vector. -/
def cofF (n : Nat) (F : Nat → Nat → Int) (i j : Nat) : Int := det n (setF F i (dl j))
def adjF (n : Nat) (F : Nat → Nat → Int) (i j : Nat) : Int := cofF n F j i
/-- Two columns change places. -/
def tau (j c : Nat) : Nat := if c = j then j + 1 else if c = j + 1 then j else c
theorem det_cols {n j : Nat} {F : Nat → Nat → Int} (hj : j + 1 < n) : det n (fun r c => F r (tau j c)) = -det n F := by
  rw [← det_tr (fun r c => F r (tau j c)), ← det_tr F, ← det_swap (F := trF F) (a := j) (b := j + 1) (by omega) hj (by omega)]
  refine det_congr fun c r hc hr => ?_
  rw [swapF_app]
  show F r (tau j c) = if c = j + 1 then F r j else if c = j then F r (j + 1) else F r c
  unfold tau
  by_cases h1 : c = j + 1
  · subst h1; simp
  · by_cases h2 : c = j
    · subst h2; simp
    · simp [h1, h2]
theorem psum_one' {f : Nat → Int} {n a : Nat} (ha : a < n) (h : ∀ i, i < n → i ≠ a → f i = 0) : psum f n = f a := by
  rw [psum_congr (g := fun i => if i = a then f a else 0) (fun k hk => ?_), psum_one ha (fun i hi => if_neg hi), if_pos rfl]
  by_cases e : k = a
  · subst e; rw [if_pos rfl]
  · rw [if_neg e, h k hk e]
theorem cof_minor {n : Nat} : ∀ {j : Nat} {F : Nat → Nat → Int} {i : Nat}, i < n + 1 → j < n + 1 → cofF (n + 1) F i j = sg i * sg j * det n (fun a b => F (skp i a) (skp j b)) := by
  intro j
  induction j with
  | zero =>
    intro F i hi hj
    unfold cofF
    simp only [det]
    rw [psum_one' hi (fun r hrn hr => ?_)]
    · rw [setF_app, if_pos rfl, minor0_set_self]
      have : det n (minor0 i F) = det n (fun a b => F (skp i a) (skp 0 b)) := det_congr fun a b _ _ => by unfold minor0 skp; simp
      rw [this]
      simp [dl, sg]
    · have : det n (minor0 r (setF F i (dl 0))) = 0 := by
        rw [minor0_set (fun h => hr h.symm)]
        refine det_zero_row (r := usk r i) (usk_lt (fun h => hr h.symm) hrn hi) fun q _ => ?_
        rw [setF_app, if_pos rfl]; simp [dl]
      rw [this]; simp
  | succ j ih =>
    intro F i hi hj
    have h1 := ih (F := fun r c => F r (tau j c)) (i := i) hi (by omega)
    have h2 : cofF (n + 1) (fun r c => F r (tau j c)) i j = -cofF (n + 1) F i (j + 1) := by
      unfold cofF
      rw [← det_cols (F := setF F i (dl (j + 1))) (by omega)]
      refine det_congr fun r c _ _ => ?_
      rw [setF_app, setF_app]
      split
      · unfold dl tau
        by_cases h1 : c = j
        · subst h1; simp
        · by_cases h2 : c = j + 1
          · subst h2; simp
          · rw [if_neg (fun h => h1 h.symm), if_neg h1, if_neg h2, if_neg (fun h => h2 h.symm)]
      · rfl
    have h3 : (fun a b => F (skp i a) (tau j (skp j b))) = fun a b => F (skp i a) (skp (j + 1) b) := by
      funext a b
      congr 1
      unfold tau skp
      by_cases h1 : b < j
      · rw [if_pos h1, if_neg (by omega), if_neg (by omega), if_pos (by omega)]
      · rw [if_neg h1]
        by_cases h2 : b = j
        · subst h2; rw [if_neg (by omega), if_pos rfl, if_pos (by omega)]
        · rw [if_neg (by omega), if_neg (by omega), if_neg (by omega)]
    rw [h2, h3] at h1
    rw [sg_succ]
    have : cofF (n + 1) F i (j + 1) = -(sg i * sg j * det n fun a b => F (skp i a) (skp (j + 1) b)) := by omega
    rw [this]; grind
theorem cof_tr {n : Nat} {F : Nat → Nat → Int} {i j : Nat} (hi : i < n) (hj : j < n) : cofF n (trF F) i j = cofF n F j i := by
  obtain ⟨k, rfl⟩ : ∃ k, n = k + 1 := ⟨n - 1, by omega⟩
  rw [cof_minor hi hj, cof_minor hj hi, ← det_tr (fun a b => F (skp j a) (skp i b)), Int.mul_comm (sg i)]
  rfl
theorem cof_row {n : Nat} {F : Nat → Nat → Int} {i j : Nat} (hi : i < n) (hj : j < n) : psum (fun k => F i k * cofF n F j k) n = if i = j then det n F else 0 := by
  have h := det_psum (F := F) hj (F i) dl n
  have e : det n (setF F j fun q => psum (fun k => F i k * dl k q) n) = det n (setF F j (F i)) := det_congr fun r c _ hc => by
    rw [setF_app, setF_app]
    split
    · exact mul_dl (F := F) (i := i) hc
    · rfl
  unfold cofF
  rw [← h, e]
  split
  · subst_vars
    refine det_congr fun r c _ _ => ?_
    rw [setF_app]; split
    · subst_vars; rfl
    · rfl
  · rename_i hij
    refine det_eq_rows hi hj hij ?_
    funext c
    rw [setF_app, if_neg hij, setF_app, if_pos rfl]
theorem cof_col {n : Nat} {F : Nat → Nat → Int} {i j : Nat} (hi : i < n) (hj : j < n) : psum (fun k => cofF n F k i * F k j) n = if i = j then det n F else 0 := by
  have h := cof_row (F := trF F) hj hi
  rw [det_tr] at h
  rw [psum_congr (g := fun k => trF F j k * cofF n (trF F) i k) (fun k hk => by rw [cof_tr hi hk, Int.mul_comm]; rfl), h]
  by_cases e : i = j
  · rw [if_pos e, if_pos e.symm]
  · rw [if_neg e, if_neg (fun h => e h.symm)]
theorem adj_right {n : Nat} {F : Nat → Nat → Int} {i j : Nat} (hi : i < n) (hj : j < n) : psum (fun k => F i k * adjF n F k j) n = det n F * dl i j := by
  unfold adjF
  rw [cof_row hi hj]
  unfold dl; split <;> simp
theorem adj_left {n : Nat} {F : Nat → Nat → Int} {i j : Nat} (hi : i < n) (hj : j < n) : psum (fun k => adjF n F i k * F k j) n = det n F * dl i j := by
  unfold adjF
  rw [cof_col hi hj]
  unfold dl; split <;> simp
end Go.QF
/-
  Plain: positive definite matrices by their minors: Lagrange's identity, Cauchy's inequality, Hadamard's bound. No condition.
-/
namespace Go.QF
set_option linter.unusedVariables false
def SymF (n : Nat) (A : Nat → Nat → Int) : Prop := ∀ i j, i < n → j < n → A i j = A j i
def PosF (n : Nat) (A : Nat → Nat → Int) : Prop := ∀ k, k ≤ n → 0 < det k A
theorem bro_lt {k i r n : Nat} (hk : k ≤ n) (hi : i < n) : bro k i r < n := by unfold bro; split <;> omega
theorem mn_sym {n k : Nat} {A : Nat → Nat → Int} (hs : SymF n A) (hk : k ≤ n) {i j : Nat} (hi : i < n) (hj : j < n) : Mn k A i j = Mn k A j i := by
  unfold Mn
  rw [← det_tr]
  refine det_congr fun r c _ _ => ?_
  exact hs _ _ (bro_lt hk hi) (bro_lt hk hj)
theorem mn_row {k : Nat} (A : Nat → Nat → Int) {i : Nat} (j : Nat) (hi : i < k) : Mn k A i j = 0 := by
  unfold Mn
  refine det_eq_rows (a := i) (b := k) (by omega) (by omega) (by omega) ?_
  funext c
  unfold bro
  simp [hi]
/-- The form of the k-th stage. -/
def bil (n k : Nat) (A : Nat → Nat → Int) (x y : Nat → Int) : Int := psum (fun i => psum (fun j => Mn k A i j * x i * y j) n) n
def lin (n k : Nat) (A : Nat → Nat → Int) (x : Nat → Int) : Int := psum (fun j => Mn k A k j * x j) n
theorem psum_prod (f g : Nat → Int) (n : Nat) : psum (fun i => psum (fun j => f i * g j) n) n = psum f n * psum g n := by
  rw [psum_congr (g := fun i => psum g n * f i) (fun i _ => by rw [psum_mul, Int.mul_comm]), psum_mul, Int.mul_comm]
theorem lagr {n k : Nat} {A : Nat → Nat → Int} (hs : SymF n A) (hk : k < n) (h0 : det k A ≠ 0) (x y : Nat → Int) : det (k + 1) A * bil n k A x y = lin n k A x * lin n k A y + det k A * bil n (k + 1) A x y := by
  unfold bil
  rw [← psum_mul, ← psum_mul]
  have e1 : lin n k A x * lin n k A y = psum (fun i => psum (fun j => Mn k A k i * x i * (Mn k A k j * y j)) n) n := (psum_prod (fun i => Mn k A k i * x i) (fun j => Mn k A k j * y j) n).symm
  rw [e1, ← psum_add]
  refine psum_congr fun i hi => ?_
  rw [← psum_mul, ← psum_mul, ← psum_add]
  refine psum_congr fun j hj => ?_
  have h := mn_step (k := k) (A := A) h0 i j
  rw [mn_lead, mn_sym hs (by omega) hi hk] at h
  have h2 : det (k + 1) A * Mn k A i j = Mn k A k i * Mn k A k j + det k A * Mn (k + 1) A i j := by omega
  grind
theorem bil_end (n : Nat) (A : Nat → Nat → Int) (x y : Nat → Int) : bil n n A x y = 0 := by
  unfold bil
  rw [psum_congr (g := fun _ => 0) fun i hi => ?_]
  · exact psum_zero n
  · rw [psum_congr (g := fun _ => 0) fun j _ => by rw [mn_row A j hi]; simp]
    exact psum_zero n
theorem bil_nonneg {n : Nat} {A : Nat → Nat → Int} (hs : SymF n A) (hp : PosF n A) (x : Nat → Int) : ∀ d k, k + d = n → 0 ≤ bil n k A x x := by
  intro d
  induction d with
  | zero => intro k hk; obtain rfl : k = n := by omega
            rw [bil_end]; exact Int.le_refl _
  | succ d ih =>
    intro k hk
    have h1 := ih (k + 1) (by omega)
    have h2 := hp k (by omega)
    have h3 := hp (k + 1) (by omega)
    have h4 := lagr hs (show k < n by omega) (by omega) x x
    have h5 : 0 ≤ lin n k A x * lin n k A x := by
      rcases Int.le_total 0 (lin n k A x) with h | h
      · exact Int.mul_nonneg h h
      · exact Int.mul_nonneg_of_nonpos_of_nonpos h h
    have h6 := Int.mul_nonneg (Int.le_of_lt h2) h1
    exact Int.nonneg_of_mul_nonneg_right (by omega) h3
theorem bil_lin {n k : Nat} {A : Nat → Nat → Int} (a b : Int) (x y z : Nat → Int) : bil n k A (fun i => a * x i + b * y i) z = a * bil n k A x z + b * bil n k A y z := by
  unfold bil
  rw [← psum_mul, ← psum_mul, ← psum_add]
  refine psum_congr fun i _ => ?_
  rw [← psum_mul, ← psum_mul, ← psum_add]
  exact psum_congr fun j _ => by grind
theorem bil_sym {n k : Nat} {A : Nat → Nat → Int} (hs : SymF n A) (hk : k ≤ n) (x y : Nat → Int) : bil n k A x y = bil n k A y x := by
  unfold bil
  rw [psum_comm]
  refine psum_congr fun j hj => psum_congr fun i hi => ?_
  rw [mn_sym hs hk hi hj]; grind
/-- Cauchy's inequality. -/
theorem cauchy {n k : Nat} {A : Nat → Nat → Int} (hs : SymF n A) (hp : PosF n A) (hk : k ≤ n) (x y : Nat → Int) : bil n k A x y * bil n k A x y ≤ bil n k A x x * bil n k A y y := by
  obtain ⟨p, hpq⟩ : ∃ p, bil n k A x y = p := ⟨_, rfl⟩
  obtain ⟨q, hq⟩ : ∃ q, bil n k A x x = q := ⟨_, rfl⟩
  obtain ⟨r, hr⟩ : ∃ r, bil n k A y y = r := ⟨_, rfl⟩
  have hyx : bil n k A y x = p := by rw [bil_sym hs hk]; exact hpq
  have key : ∀ a b : Int, 0 ≤ a * (a * q + b * p) + b * (a * p + b * r) := fun a b => by
    have h := bil_nonneg hs hp (fun i => a * x i + b * y i) (n - k) k (by omega)
    rw [bil_lin, bil_sym hs hk x (fun i => a * x i + b * y i), bil_lin, bil_sym hs hk y (fun i => a * x i + b * y i), bil_lin, hpq, hq, hr, hyx] at h
    exact h
  rw [hpq, hq, hr]
  have hq0 : 0 ≤ q := hq ▸ bil_nonneg hs hp x (n - k) k (by omega)
  rcases Int.lt_or_eq_of_le hq0 with h | h
  · have h1 := key p (-q)
    have e : p * (p * q + -q * p) + -q * (p * p + -q * r) = q * (q * r - p * p) := by grind
    rw [e] at h1
    have := Int.nonneg_of_mul_nonneg_right h1 h
    omega
  · subst h
    have h1 := key (-(r + 1)) p
    have h2 := key 1 0
    -- with q = 0 the middle term must vanish
    have e : -(r + 1) * (-(r + 1) * 0 + p * p) + p * (-(r + 1) * p + p * r) = -((r + 2) * (p * p)) := by grind
    rw [e] at h1
    have hr0 : 0 ≤ r := hr ▸ bil_nonneg hs hp y (n - k) k (by omega)
    have hpp : 0 ≤ p * p := by
      rcases Int.le_total 0 p with h | h
      · exact Int.mul_nonneg h h
      · exact Int.mul_nonneg_of_nonpos_of_nonpos h h
    have : 0 ≤ r * (p * p) := Int.mul_nonneg hr0 hpp
    have e2 : (r + 2) * (p * p) = r * (p * p) + 2 * (p * p) := by grind
    rw [Int.zero_mul]; omega
theorem bil_unit {n k : Nat} {A : Nat → Nat → Int} {i j : Nat} (hi : i < n) (hj : j < n) : bil n k A (dl i) (dl j) = Mn k A i j := by
  unfold bil
  rw [psum_one' hi (fun a ha hne => ?_), psum_one' hj (fun b hb hne => ?_)]
  · simp [dl]
  · unfold dl; rw [if_neg (fun h : j = b => hne h.symm)]; simp
  · rw [psum_congr (g := fun _ => 0) fun b _ => by unfold dl; rw [if_neg (fun h : i = a => hne h.symm)]; simp]
    exact psum_zero n
theorem mn_cauchy {n k : Nat} {A : Nat → Nat → Int} (hs : SymF n A) (hp : PosF n A) (hk : k ≤ n) {i j : Nat} (hi : i < n) (hj : j < n) : Mn k A i j * Mn k A i j ≤ Mn k A i i * Mn k A j j := by
  have := cauchy hs hp hk (dl i) (dl j)
  rwa [bil_unit hi hj, bil_unit hi hi, bil_unit hj hj] at this
theorem mn_nonneg {n k : Nat} {A : Nat → Nat → Int} (hs : SymF n A) (hp : PosF n A) (hk : k ≤ n) {i : Nat} (hi : i < n) : 0 ≤ Mn k A i i := by
  have := bil_nonneg hs hp (dl i) (n - k) k (by omega)
  rwa [bil_unit hi hi] at this
theorem mn_diag {n k : Nat} {A : Nat → Nat → Int} (hs : SymF n A) (hp : PosF n A) (hk : k < n) {i : Nat} (hi : i < n) : det (k + 1) A * Mn k A i i = Mn k A i k * Mn k A i k + det k A * Mn (k + 1) A i i := by
  have h := mn_step (k := k) (A := A) (by have := hp k (by omega); omega) i i
  rw [mn_lead, ← mn_sym hs (by omega) hi hk] at h
  omega
end Go.QF
/-
  Plain: the reduction of a positive definite matrix: what is kept, what grows, and that it ends. Conditions stand in each statement.
-/
namespace Go.QF
set_option linter.unusedVariables false
theorem sq_le {x y : Int} (hy : 0 ≤ y) (h : x * x ≤ y * y) : -y ≤ x ∧ x ≤ y := by
  constructor
  · rcases Int.lt_or_le x (-y) with h1 | h1
    · have h2 : 0 < (-x - y) * (-x + y) := Int.mul_pos (by omega) (by omega)
      have e : (-x - y) * (-x + y) = x * x - y * y := by grind
      omega
    · exact h1
  · rcases Int.lt_or_le y x with h1 | h1
    · have h2 : 0 < (x - y) * (x + y) := Int.mul_pos (by omega) (by omega)
      have e : (x - y) * (x + y) = x * x - y * y := by grind
      omega
    · exact h1
theorem sq_of_le {x y : Int} (h1 : -y ≤ x) (h2 : x ≤ y) : x * x ≤ y * y := by
  have h3 : 0 ≤ (y - x) * (y + x) := Int.mul_nonneg (by omega) (by omega)
  have e : (y - x) * (y + x) = y * y - x * x := by grind
  omega
def SzF (A : Nat → Nat → Int) (i j : Nat) : Prop := -(det (j + 1) A) ≤ 2 * Mn j A i j ∧ 2 * Mn j A i j ≤ det (j + 1) A
/-- Of the vectors j and j + 1. -/
def LvF (A : Nat → Nat → Int) (j : Nat) : Prop := 3 * (det (j + 1) A * det (j + 1) A) ≤ 4 * (det j A * det (j + 2) A + Mn j A (j + 1) j * Mn j A (j + 1) j)
/-- A vector's norm by its coefficients. -/
theorem row_bound {n i : Nat} {A : Nat → Nat → Int} {Dm p q : Int} (hs : SymF n A) (hp : PosF n A) (hi : i < n) (hD : ∀ k, k ≤ n → det k A ≤ Dm) (p0 : 0 ≤ p) (q0 : 0 ≤ q) (hl : ∀ l, l < i → q * (Mn l A i l * Mn l A i l) ≤ p * (det (l + 1) A * det (l + 1) A)) : ∀ d l : Nat, l + d = i → q * Mn l A i i ≤ (q + d * p) * (Dm * det l A) := by
  have hD0 : 1 ≤ Dm := by
    have := hD 0 (by omega); simpa [det] using this
  have hDl : ∀ l k, l ≤ n → k ≤ n → det k A ≤ Dm * det l A := fun l k h1 h2 => by
    have := hp l h1
    have h3 := hD k h2
    have h4 : Dm * 1 ≤ Dm * det l A := Int.mul_le_mul_of_nonneg_left (by omega) (by omega)
    omega
  intro d
  induction d with
  | zero =>
    intro l h
    obtain rfl : l = i := by omega
    rw [mn_lead]
    have h1 := Int.mul_le_mul_of_nonneg_left (hDl l (l + 1) (by omega) (by omega)) q0
    simpa using h1
  | succ d ih =>
    intro l h
    have h1 := ih (l + 1) (by omega)
    have h2 := mn_diag hs hp (show l < n by omega) hi
    have h3 := hl l (by omega)
    have h4 := hp l (by omega)
    have h5 := hp (l + 1) (by omega)
    have h6 := Int.mul_le_mul_of_nonneg_left h1 (Int.le_of_lt h4)
    have h7 : det (l + 1) A * (q * Mn l A i i) = q * (Mn l A i l * Mn l A i l) + det l A * (q * Mn (l + 1) A i i) := by
      have e1 : det (l + 1) A * (q * Mn l A i i) = q * (det (l + 1) A * Mn l A i i) := by grind
      rw [e1, h2]; grind
    have h8 := Int.mul_le_mul_of_nonneg_left (hDl l (l + 1) (by omega) (by omega)) p0
    have h9 := Int.mul_le_mul_of_nonneg_left h8 (Int.le_of_lt h5)
    have e2 : det (l + 1) A * (p * det (l + 1) A) = p * (det (l + 1) A * det (l + 1) A) := by grind
    have h10 : det (l + 1) A * (q * Mn l A i i) ≤ det (l + 1) A * ((q + ((d + 1 : Nat) : Int) * p) * (Dm * det l A)) := by
      have e3 : det (l + 1) A * ((q + ((d + 1 : Nat) : Int) * p) * (Dm * det l A)) = det (l + 1) A * (p * (Dm * det l A)) + det l A * ((q + (d : Int) * p) * (Dm * det (l + 1) A)) := by
        rw [Int.natCast_add, Int.natCast_one]; grind
      rw [e3]; omega
    exact Int.le_of_mul_le_mul_left h10 h5
theorem row_rest {n i : Nat} {A : Nat → Nat → Int} {Dm : Int} (hn : n ≤ 8) (hs : SymF n A) (hp : PosF n A) (hi : i < n) (hD : ∀ k, k ≤ n → det k A ≤ Dm) (hz : ∀ l, l < i → SzF A i l) : A i i ≤ 3 * Dm := by
  have h := row_bound hs hp hi hD (p := 1) (q := 4) (by omega) (by omega) (fun l hl => by
    have := sq_of_le (hz l hl).1 (hz l hl).2
    have e : 2 * Mn l A i l * (2 * Mn l A i l) = 4 * (Mn l A i l * Mn l A i l) := by grind
    omega) i 0 (by omega)
  rw [mn_zero] at h
  have hD0 : 1 ≤ Dm := by
    have := hD 0 (by omega); simpa [det] using this
  have h2 : (4 + (i : Int) * 1) * (Dm * det 0 A) ≤ 12 * Dm := by
    have : (4 + (i : Int) * 1) * Dm ≤ 12 * Dm := Int.mul_le_mul_of_nonneg_right (by omega) (by omega)
    simpa [det] using this
  omega
theorem pow_pos2 (t : Nat) : (0 : Int) < 2 ^ t := Int.pow_pos (by omega)
end Go.QF
/-
  Plain: one step of the reference's reduction. Conditions stand in each statement.
-/
namespace Go.Proofs.YtiegjkmfpcgjjaaDoor
open Go Go.QF
set_option linter.unusedVariables false
set_option linter.unusedSimpArgs false
set_option maxRecDepth 100000
def SzAll (A : Nat → Nat → Int) (i : Nat) : Prop := ∀ r l, l < r → r < i → SzF A r l
def LvAll (A : Nat → Nat → Int) (i : Nat) : Prop := ∀ r, r + 1 < i → LvF A r
end Go.Proofs.YtiegjkmfpcgjjaaDoor
/-
  Plain: the reference's reduction ends with a reduced form. Conditions stand in each statement.
-/
namespace Go.Proofs.YtiegjkmfpcgjjaaDoor
open Go Go.QF
set_option linter.unusedVariables false
set_option linter.unusedSimpArgs false
set_option maxRecDepth 100000
/-! ### base changes of a step -/
/-! ### bounds -/
theorem off_diag {n : Nat} {A : Nat → Nat → Int} {B : Int} (hs : SymF n A) (hp : PosF n A) (hB : ∀ k, k < n → A k k ≤ B) {i j : Nat} (hi : i < n) (hj : j < n) : -B ≤ A i j ∧ A i j ≤ B := by
  have h1 := mn_cauchy (k := 0) hs hp (Nat.zero_le _) hi hj
  simp only [mn_zero] at h1
  have p1 := mn_nonneg (k := 0) hs hp (Nat.zero_le _) hi
  have p2 := mn_nonneg (k := 0) hs hp (Nat.zero_le _) hj
  simp only [mn_zero] at p1 p2
  have h2 := Int.mul_le_mul (hB i hi) (hB j hj) p2 (Int.le_trans p1 (hB i hi))
  exact sq_le (Int.le_trans p1 (hB i hi)) (Int.le_trans h1 h2)
/-! ### the loop -/
/-- A reduced form, as the reference defines it. -/
structure RedF (n : Nat) (A : Nat → Nat → Int) : Prop where
  sym : SymF n A
  pos : PosF n A
  sz : SzAll A n
  lv : LvAll A n
  dt : det n A ≤ 10000
end Go.Proofs.YtiegjkmfpcgjjaaDoor
/-
  Plain: the matrices of quadformmake, and that Form answers with a reduced form. Conditions stand in each statement.
-/
namespace Go.Proofs.YtiegjkmfpcgjjaaDoor
open Go Go.QF
set_option linter.unusedVariables false
set_option linter.unusedSimpArgs false
set_option maxRecDepth 100000
/-- A matrix whose first rows are made. -/
def part (n i : Nat) (G : Nat → Nat → Int) : List (List Int) := rowL n fun r => if r < i then rowL n (G r) else []
theorem part_get {n i r : Nat} {G : Nat → Nat → Int} (hr : r < i) (hn : r < n) : (part n i G)[r]? = some (rowL n (G r)) := by
  unfold part; rw [rowL_get hn, if_pos hr]
theorem part_at {n i : Nat} {G : Nat → Nat → Int} (hn : i < n) : (part n i G)[i]? = some [] := by
  unfold part; rw [rowL_get hn, if_neg (Nat.lt_irrefl i)]
theorem part_set {n i r : Nat} {G : Nat → Nat → Int} {g : Nat → Int} (hr : r < i) : (part n i G).set r (rowL n g) = part n i (setF G r g) := by
  unfold part
  rw [rowL_set]
  refine rowL_congr fun k _ => ?_
  by_cases h : k = r
  · subst h; rw [if_pos rfl, if_pos hr, setF_same]
  · rw [if_neg h, setF_ne _ _ h]
theorem part_new {n i : Nat} {G : Nat → Nat → Int} {g : Nat → Int} : (part n i G).set i (rowL n g) = part n (i + 1) (setF G i g) := by
  unfold part
  rw [rowL_set]
  refine rowL_congr fun k _ => ?_
  by_cases h : k = i
  · subst h; rw [if_pos rfl, if_pos (by omega), setF_same]
  · rw [if_neg h, setF_ne _ _ h]
    by_cases h2 : k < i
    · rw [if_pos h2, if_pos (by omega)]
    · rw [if_neg h2, if_neg (by omega)]
theorem part_full (n : Nat) (G : Nat → Nat → Int) : part n n G = tab n n G := by
  unfold part
  rw [tab_rowL]
  exact rowL_congr fun k hk => if_pos hk
theorem part_zero (n : Nat) (G : Nat → Nat → Int) : List.replicate n ([] : List Int) = part n 0 G := by
  rw [rowL_rep]
  exact rowL_congr fun k _ => (if_neg (by omega)).symm
end Go.Proofs.YtiegjkmfpcgjjaaDoor
/-
  Plain: the program's test of reduced forms is the reference's. Conditions stand in each statement.
-/
namespace Go.Proofs.YtiegjkmfpcgjjaaDoor
open Go Go.QF
set_option linter.unusedVariables false
set_option linter.unusedSimpArgs false
set_option maxRecDepth 100000
/-! ### minors of a reduced form are small -/
theorem lov_half {A : Nat → Nat → Int} {k : Nat} (h1 : LvF A k) (h2 : SzF A (k + 1) k) (hp : 0 < det (k + 1) A) : det (k + 1) A * det (k + 1) A ≤ 2 * (det k A * det (k + 2) A) := by
  unfold LvF at h1
  unfold SzF at h2
  have h3 : (2 * Mn k A (k + 1) k) * (2 * Mn k A (k + 1) k) ≤ det (k + 1) A * det (k + 1) A := sq_of_le (by omega) h2.2
  have h4 : (2 * Mn k A (k + 1) k) * (2 * Mn k A (k + 1) k) = 4 * (Mn k A (k + 1) k * Mn k A (k + 1) k) := by grind
  omega
theorem pow_mono_int {x y : Int} (h0 : 0 ≤ x) (h : x ≤ y) : ∀ k : Nat, x ^ k ≤ y ^ k
  | 0 => by simp
  | k + 1 => by
    rw [Int.pow_succ, Int.pow_succ]
    exact Int.mul_le_mul (pow_mono_int h0 h k) h h0 (Int.le_trans (Int.pow_nonneg h0) (pow_mono_int h0 h k))
def tri : Nat → Nat
  | 0 => 0
  | k + 1 => tri k + (k + 1)
/-- Convexity: d_k^(k+1) is at most d_(k+1)^k 2^(k(k+1)/2). -/
theorem det_convex {n : Nat} {A : Nat → Nat → Int} (hp : PosF n A) (hs : SzAll A n) (hl : LvAll A n) : ∀ k, k + 1 ≤ n → det k A ^ (k + 1) ≤ det (k + 1) A ^ k * 2 ^ tri k := by
  intro k
  induction k with
  | zero => intro _; simp [det, tri]
  | succ k ih =>
    intro hk
    have ih := ih (by omega)
    have p0 := hp k (by omega)
    have p1 := hp (k + 1) (by omega)
    have p2 := hp (k + 2) (by omega)
    have h1 := lov_half (hl k (by omega)) (hs (k + 1) k (by omega) (by omega)) p1
    generalize det k A = a at *
    generalize det (k + 1) A = b at *
    generalize det (k + 2) A = c at *
    -- b^(2(k+1)) ≤ 2^(k+1) a^(k+1) c^(k+1) ≤ 2^(k+1) b^k 2^t c^(k+1)
    have h2 : (b * b) ^ (k + 1) ≤ (2 * (a * c)) ^ (k + 1) := pow_mono_int (Int.le_of_lt (Int.mul_pos p1 p1)) h1 _
    rw [Int.mul_pow, Int.mul_pow, Int.mul_pow] at h2
    have h3 : a ^ (k + 1) * c ^ (k + 1) ≤ b ^ k * 2 ^ tri k * c ^ (k + 1) := Int.mul_le_mul_of_nonneg_right ih (Int.le_of_lt (Int.pow_pos p2))
    have h4 : 2 ^ (k + 1) * (a ^ (k + 1) * c ^ (k + 1)) ≤ 2 ^ (k + 1) * (b ^ k * 2 ^ tri k * c ^ (k + 1)) := Int.mul_le_mul_of_nonneg_left h3 (Int.le_of_lt (pow_pos2 _))
    have h5 := Int.le_trans h2 h4
    have e1 : b ^ (k + 1) * b ^ (k + 1) = b ^ k * b ^ (k + 1 + 1) := by rw [Int.pow_succ b k, Int.pow_succ b (k + 1), Int.pow_succ b k]; grind
    have e2 : (2 : Int) ^ (k + 1) * (b ^ k * 2 ^ tri k * c ^ (k + 1)) = b ^ k * (c ^ (k + 1) * 2 ^ tri (k + 1)) := by
      have : (2 : Int) ^ tri (k + 1) = 2 ^ tri k * 2 ^ (k + 1) := by rw [← Int.pow_add]; rfl
      rw [this]; grind
    rw [e1, e2] at h5
    exact Int.le_of_mul_le_mul_left h5 (Int.pow_pos p1)
def dU : Nat → Int
  | 8 => 10000
  | 7 => 35777
  | 6 => 64000
  | 5 => 57243
  | 4 => 25600
  | _ => 10000
theorem dU_le (k : Nat) : dU k ≤ 64000 := by unfold dU; split <;> omega
theorem dU_lo (k : Nat) : 10000 ≤ dU k := by unfold dU; split <;> omega
theorem dU_step : ∀ k, k < 8 → dU (k + 1) ^ k * 2 ^ tri k < (dU k + 1) ^ (k + 1) := by decide
theorem det_small {n : Nat} {A : Nat → Nat → Int} (hn : n ≤ 8) (hp : PosF n A) (hs : SzAll A n) (hl : LvAll A n) (hd : det n A ≤ 10000) : ∀ m k, k + m = n → det k A ≤ dU k := by
  intro m
  induction m with
  | zero => intro k hk; obtain rfl : k = n := by omega
            exact Int.le_trans hd (dU_lo _)
  | succ m ih =>
    intro k hk
    have h1 := ih (k + 1) (by omega)
    have h2 := det_convex hp hs hl k (by omega)
    have p0 := hp k (by omega)
    have p1 := hp (k + 1) (by omega)
    rcases Int.lt_or_le (dU k) (det k A) with h | h
    · exfalso
      have h3 : (dU k + 1) ^ (k + 1) ≤ det k A ^ (k + 1) := pow_mono_int (by have := dU_lo k; omega) (by omega) _
      have h4 : det (k + 1) A ^ k * 2 ^ tri k ≤ dU (k + 1) ^ k * 2 ^ tri k := Int.mul_le_mul_of_nonneg_right (pow_mono_int (Int.le_of_lt p1) h1 k) (Int.le_of_lt (pow_pos2 _))
      have h5 := dU_step k (by omega)
      omega
    · exact h
theorem redF_det {n : Nat} {A : Nat → Nat → Int} (hn : n ≤ 8) (R : RedF n A) {k : Nat} (hk : k ≤ n) : 0 < det k A ∧ det k A ≤ 64000 :=
  ⟨R.pos k hk, Int.le_trans (det_small hn R.pos R.sz R.lv R.dt (n - k) k (by omega)) (dU_le k)⟩
theorem redF_bd {n : Nat} {A : Nat → Nat → Int} (hn : n ≤ 8) (R : RedF n A) {i j : Nat} (hi : i < n) (hj : j < n) : -192000 ≤ A i j ∧ A i j ≤ 192000 :=
  off_diag R.sym R.pos (fun k hk => row_rest (Dm := 64000) hn R.sym R.pos hk (fun k hk => (redF_det hn R hk).2) fun l hl => R.sz k l hl hk) hi hj
/-! ### the stages -/
/-- What the stages from k on ask for. -/
structure RB (n : Nat) (A : Nat → Nat → Int) (k : Nat) : Prop where
  pos : ∀ j, k < j → j ≤ n → 0 < det j A
  lt : ∀ j, k < j → j < n → det j A < 65536
  sz : ∀ l i, k ≤ l → l < i → i < n → SzF A i l
  lv : ∀ l, k ≤ l → l + 1 < n → LvF A l
  dt : det n A ≤ 10000
theorem nxt_mn {A F : Nat → Nat → Int} {m k : Nat} (h0 : 0 < det k A) (hF : ∀ i j, i < m + 1 → j < m + 1 → F i j = Mn k A (k + i) (k + j)) {i j : Nat} (hi : i < m) (hj : j < m) : nxtF F (det k A) i j = Mn (k + 1) A (k + 1 + i) (k + 1 + j) := by
  unfold nxtF
  rw [hF 0 0 (by omega) (by omega), hF (i + 1) (j + 1) (by omega) (by omega), hF (i + 1) 0 (by omega) (by omega), hF 0 (j + 1) (by omega) (by omega), Nat.add_zero, mn_step (by omega), Int.mul_tdiv_cancel_left _ (by omega)]
  rw [show k + (i + 1) = k + 1 + i by omega, show k + (j + 1) = k + 1 + j by omega]
theorem redB_iff {n : Nat} {A : Nat → Nat → Int} : ∀ (m k : Nat) (F : Nat → Nat → Int), k + m = n → 1 ≤ m → 0 < det k A → (∀ i j, i < m → j < m → F i j = Mn k A (k + i) (k + j)) → (redB m F (det k A) = true ↔ RB n A k) := by
  intro m
  induction m with
  | zero => intro k F _ h; omega
  | succ m ih =>
    intro k F hk _ h0 hF
    have f00 : F 0 0 = det (k + 1) A := by rw [hF 0 0 (by omega) (by omega)]; exact mn_lead k A
    cases m with
    | zero =>
      obtain rfl : k + 1 = n := hk
      show decide (0 < F 0 0 ∧ F 0 0 ≤ 10000) = true ↔ _
      rw [decide_eq_true_iff, f00]
      exact ⟨fun h => ⟨fun j h1 h2 => by obtain rfl : j = k + 1 := by omega
                                         exact h.1, fun j h1 h2 => by omega, fun l i h1 h2 h3 => by omega, fun l h1 h2 => by omega, h.2⟩, fun h => ⟨h.pos (k + 1) (by omega) (Nat.le_refl _), h.dt⟩⟩
    | succ m =>
      have hN : ∀ i j, i < m + 1 → j < m + 1 → nxtF F (det k A) i j = Mn (k + 1) A (k + 1 + i) (k + 1 + j) := fun i j hi hj => nxt_mn h0 hF hi hj
      have hS : ShortF (m + 1 + 1) F ↔ (0 < det (k + 1) A ∧ det (k + 1) A < 65536) ∧ ∀ i, k < i → i < n → SzF A i k := by
        unfold ShortF
        rw [f00]
        refine and_congr_right fun _ => ⟨fun h i h1 h2 => ?_, fun h i h1 h2 => ?_⟩
        · have h3 := h (i - k) (by omega) (by omega)
          rw [hF (i - k) 0 (by omega) (by omega), show k + (i - k) = i by omega] at h3
          unfold SzF
          simp only [Nat.add_zero] at h3
          omega
        · have h3 := h (k + i) (by omega) (by omega)
          unfold SzF at h3
          rw [hF i 0 h2 (by omega), Nat.add_zero]
          omega
      have hL : LovF F (det k A) ↔ LvF A k := by
        unfold LovF LvF
        rw [f00, hN 0 0 (by omega) (by omega), Nat.add_zero, mn_lead (k + 1) A, hF 1 0 (by omega) (by omega), Nat.add_zero]
        have e : 3 * det (k + 1) A * det (k + 1) A = 3 * (det (k + 1) A * det (k + 1) A) := by grind
        rw [e]
        exact Iff.rfl
      show (decide (ShortF (m + 1 + 1) F) && (decide (LovF F (det k A)) && redB (m + 1) (nxtF F (det k A)) (F 0 0))) = true ↔ _
      rw [Bool.and_eq_true, Bool.and_eq_true, decide_eq_true_iff, decide_eq_true_iff, hS, hL, f00]
      constructor
      · rintro ⟨⟨⟨h1, h2⟩, h3⟩, h4, h5⟩
        have R := (ih (k + 1) _ (by omega) (by omega) h1 hN).1 h5
        refine ⟨fun j a b => ?_, fun j a b => ?_, fun l i a b c => ?_, fun l a b => ?_, R.dt⟩
        · by_cases e : j = k + 1
          · subst e; exact h1
          · exact R.pos j (by omega) b
        · by_cases e : j = k + 1
          · subst e; exact h2
          · exact R.lt j (by omega) b
        · by_cases e : l = k
          · subst e; exact h3 i b c
          · exact R.sz l i (by omega) b c
        · by_cases e : l = k
          · subst e; exact h4
          · exact R.lv l (by omega) b
      · intro R
        have h1 := R.pos (k + 1) (by omega) (by omega)
        exact ⟨⟨⟨h1, R.lt (k + 1) (by omega) (by omega)⟩, fun i a b => R.sz k i (Nat.le_refl k) a b⟩, R.lv k (Nat.le_refl k) (by omega), (ih (k + 1) _ (by omega) (by omega) h1 hN).2 ⟨fun j a b => R.pos j (by omega) b, fun j a b => R.lt j (by omega) b, fun l i a b c => R.sz l i (by omega) b c, fun l a b => R.lv l (by omega) b, R.dt⟩⟩
/-- A matrix that is a reduced form. -/
def RedM (M : List (List Int)) : Prop := (1 ≤ M.length ∧ M.length ≤ 8) ∧ (∀ z ∈ M, z.length = M.length) ∧ RedF M.length (ent M)
theorem isRed_iff (M : List (List Int)) : isRed M = true ↔ RedM M := by
  unfold isRed
  rw [Bool.and_eq_true]
  constructor
  · rintro ⟨h1, h2⟩
    have S := of_smallMB h1
    have R := (redB_iff (A := ent M) (n := M.length) M.length 0 (ent M) (by omega) S.1.1 (by simp [det]) fun i j _ _ => by rw [mn_zero, Nat.zero_add, Nat.zero_add]).1 (by simpa [det] using h2)
    refine ⟨S.1, S.2.1, fun i j hi hj => (S.2.2 i j hi hj).1, fun k hk => ?_, fun r l h3 h4 => R.sz l r (Nat.zero_le _) h3 h4, fun l hl => R.lv l (Nat.zero_le _) hl, R.dt⟩
    rcases Nat.eq_zero_or_pos k with h | h
    · subst h; simp [det]
    · exact R.pos k h hk
  · rintro ⟨h1, h2, R⟩
    refine ⟨(smallMB_t ⟨h1, h2, fun i j hi hj => ⟨R.sym i j hi hj, ?_, ?_⟩⟩).symm, ?_⟩
    · have := redF_bd h1.2 R hi hj; omega
    · have := redF_bd h1.2 R hi hj; omega
    · have h3 := (redB_iff (A := ent M) (n := M.length) M.length 0 (ent M) (by omega) h1.1 (by simp [det]) fun i j _ _ => by rw [mn_zero, Nat.zero_add, Nat.zero_add]).2 ⟨fun j _ hj => R.pos j hj, fun j _ hj => by have := redF_det h1.2 R (k := j) (by omega); omega, fun l i _ a b => R.sz i l a b, fun l _ hl => R.lv l hl, R.dt⟩
      simpa [det] using h3
/-! ### the reference's test -/
end Go.Proofs.YtiegjkmfpcgjjaaDoor
/-
  Plain: the law JordanPrecision answers true. Conditions stand in each statement.
-/
namespace Go.Proofs.YtiegjkmfpcgjjaaDoor
open Go Go.QF
set_option linter.unusedVariables false
set_option linter.unusedSimpArgs false
set_option maxRecDepth 100000
theorem redM_tab {M : List (List Int)} (R : RedM M) : M = tab M.length M.length (ent M) := tab_eq R.2.1
/-! ### the law -/
theorem tmod_bd (a : Int) (m : Nat) (ha : 0 ≤ a) (hm : 0 < m) : ∃ q : Nat, Int.tmod a (m : Int) = q ∧ q < m := by
  rw [Int.tmod_eq_emod_of_nonneg ha]
  have h1 := Int.emod_nonneg a (show (m : Int) ≠ 0 by omega)
  have h2 := Int.emod_lt_of_pos a (show (0 : Int) < m by omega)
  exact ⟨(a % m).toNat, by omega, by omega⟩
end Go.Proofs.YtiegjkmfpcgjjaaDoor
