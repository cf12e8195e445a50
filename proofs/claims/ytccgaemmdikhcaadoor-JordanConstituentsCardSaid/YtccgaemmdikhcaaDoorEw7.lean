/-
  One operation of the evaluator, any.
-/
import Derived.Test.YtccgaemmdikhcaaDoorEw6
namespace Go.QF
open Go
set_option linter.unusedVariables false
set_option linter.unusedSimpArgs false
section
variable {P : Program} {B : Heap → Prop} {st : Bool} {ops : Array Oper} {rest : List Oper} {K : Env → Heap → Prop} {h : Heap} {G : List (Nat × Nat)} {m : Mp} {l : EnvL} {bs bs' : Hp} {e : Env} {H : Heap} {d : Nat} {v : V} {ty : TypeId} {pos : String} {af : Array Edge}
def sizeD (P : Program) (t : TypeId) : Nat := ((P.info? t).map (·.size)).getD 0
theorem buildS_ok {t : TypeId} {fs : Array Field} {i : TypeInfo} {z : Value} {ps : List (Nat × V)} {us : List (Nat × Value)} {out : List V} (hu : P.underlying t = some (.struct fs)) (hi : P.info? t = some i) (hz : i.zero = some z) (hfs : fs.toList.all (fun f => (P.info? f.type).isSome) = true)
    {zs : List V} (hzr : rels m zs z.cells.toList) (hp : PR m ps us) (hf : fillE (fdE P t) zs ps = some out) : ∃ cs : List Value, rels m out cs ∧ ∀ w, (Instr.build t us.toArray).run P w = .ok (.agg cs.toArray) w := by
  obtain ⟨arr, h1, h2⟩ := fill_ok hp hzr hf
  refine ⟨arr.toList, h2, fun w => ?_⟩
  have hm := run_mapA (P := P) (f := fun f : Field => do pure (f.offset, ← sizeOf f.type)) (g := fun f : Field => (f.offset, sizeD P f.type)) fs (fun f hf w => by
    have := List.all_eq_true.1 hfs f hf
    obtain ⟨j, hj⟩ := Option.isSome_iff_exists.1 this
    simp [s_run hj, sizeD, hj])
  have hplace : ((fs.map fun f : Field => (f.offset, sizeD P f.type))[·]?) = fdE P t := by
    funext k
    simp only [fdE, hu, Array.getElem?_map]
    cases hk : fs[k]? with
    | none => rfl
    | some fd =>
      have hmem : fd ∈ fs.toList := by
        obtain ⟨hlt, he⟩ := Array.getElem?_eq_some_iff.1 hk
        rw [← he]; simp
      obtain ⟨j, hj⟩ := Option.isSome_iff_exists.1 (List.all_eq_true.1 hfs fd hmem)
      simp [hj, sizeD]
  have hm := hm w
  simp only [Instr.build, Sem.run_bind, z_run hi hz, Result.andThen, u_run hu]
  rw [hm]
  simp only [hplace, h1]
  simp
theorem buildA_ok {t el n : TypeId} {i ie : TypeInfo} {z : Value} {ps : List (Nat × V)} {us : List (Nat × Value)} {out : List V} (hu : P.underlying t = some (.array n el)) (hi : P.info? t = some i) (hz : i.zero = some z) (hie : P.info? el = some ie)
    {zs : List V} (hzr : rels m zs z.cells.toList) (hp : PR m ps us) (hf : fillE (fun k => some (k * ie.size, ie.size)) zs ps = some out) : ∃ cs : List Value, rels m out cs ∧ ∀ w, (Instr.build t us.toArray).run P w = .ok (.agg cs.toArray) w := by
  obtain ⟨arr, h1, h2⟩ := fill_ok hp hzr hf
  refine ⟨arr.toList, h2, fun w => ?_⟩
  simp only [Instr.build, Sem.run_bind, z_run hi hz, Result.andThen, u_run hu, s_run hie, h1]
  simp
theorem index_ok {t el n j : Nat} {ie : TypeInfo} {cs : List V} {us : List Value} {k : IntKind} (hu : P.underlying t = some (.array n el)) (hj : j < n) (hp : partE P el cs j = some v) (hr : rels m cs us) : ∃ u, rel m v u ∧ ∀ w, (Instr.index t (.agg us.toArray) (.int k (j : Int))).run P w = .ok u w := by
  unfold partE at hp
  split at hp
  · rename_i ht
    rw [nth_eq] at hp
    obtain ⟨_, h2⟩ := rels_iff.1 hr
    obtain ⟨u, hu', hru⟩ := h2 j v hp
    refine ⟨u, hru, fun w => ?_⟩
    obtain ⟨i, hi, hsz⟩ := tyE_sz ht
    have hjn : (j : Int) < (n : Int) := by omega
    have hpr := part_run (P := P) (tyE_na ht) (cs := us.toArray) (off := j) (by simpa using hu') w
    simp [Instr.index, asIntOf, u_run hu, hjn, s_run hi, hsz, hpr]
    intro hh; omega
  · cases hp
theorem buildSlice_ok {t el sz n : Nat} {z : List V} {ps : List (Nat × V)} {us : List (Nat × Value)} {out : List V} (hT : slE P t = some (el, sz)) (hz : zeE P el = some (sz, z)) (hn : n ≤ 1000) (hs : sz ≤ 1000) (hp : PR m ps us) (hf : fillE (fun k => some (k * sz, sz)) (repE z n) ps = some out) :
    ∃ cs : Array Value, rels m out cs.toList ∧ ∀ w : World, (Instr.buildSlice t n us.toArray).run P w = .ok (.slice (some ⟨w.heap.size, 0, none⟩) n n) (w.alloc (.cells cs el)) := by
  obtain ⟨hu, i, hi, hsz⟩ := slE_ok hT
  obtain ⟨i', zv, hi', hzz, hsi, hzl, hby, hzr, hzs⟩ := zeE_ok hz
  rw [hi] at hi'; cases hi'
  have hmr := made_rep zv.cells n
  rw [hzs] at hmr
  have hrz : rels m (repE z n) (madeCells zv.cells (n * sz)).toList := by rw [hmr]; exact rels_rep (hzr m) n
  obtain ⟨arr, h1, h2⟩ := fill_ok hp hrz hf
  refine ⟨arr, h2, fun w => ?_⟩
  have hmul : n * sz ≤ 1000 * 1000 := Nat.mul_le_mul hn hs
  have h3 : ¬ (n * sz > 2 ^ 24) := by omega
  by_cases h0 : n * sz = 0
  · have he : ((Array.range (n * sz)).map ((#[] : Array Value)[· % (#[] : Array Value).size]!)) = madeCells zv.cells (n * sz) := by
      rw [h0]; simp [madeCells]
    simp only [Instr.buildSlice, Sem.run_bind, u_run hu, Result.andThen, s_run hi, hsz, if_neg h3, if_pos h0]
    have hp1 : Sem.run P (pure #[] : Sem (Array Value)) w = .ok #[] w := rfl
    simp only [hp1]
    rw [he, h1]
    simp [newRow]
  · have he : ((Array.range (n * sz)).map (zv.cells[· % zv.cells.size]!)) = madeCells zv.cells (n * sz) := rfl
    simp only [Instr.buildSlice, Sem.run_bind, u_run hu, Result.andThen, s_run hi, hsz, if_neg h3, if_neg h0, z_run hi hzz]
    have hp1 : Sem.run P (pure zv.cells : Sem (Array Value)) w = .ok zv.cells w := rfl
    simp only [hp1]
    rw [he, h1]
    simp [newRow]
theorem r_bsAny {t n : Nat} {parts : List (Nat × Operand)} {cs : Array Value} {el : TypeId} (hB : B H) (hrun : ∀ w : World, (Instr.buildSlice t n (parts.map fun (i, x) => (i, e.ev x)).toArray).run P w = .ok (.slice (some ⟨w.heap.size, 0, none⟩) n n) (w.alloc (.cells cs el)))
    (H' : B (H.push (.cells cs el (0, 0))) ∧ RL P B st ops rest (e.set d (.slice (some ⟨H.size, 0, none⟩) n n)) (H.push (.cells cs el (0, 0))) K) : RL P B st ops (⟨some d, .buildSlice t n parts.toArray, ty, pos, af, none⟩ :: rest) e H K := by
  refine r_eff rfl rfl hB fun w hw => ?_
  subst hw
  have : (execOp e.ev ⟨some d, .buildSlice t n parts.toArray, ty, pos, af, none⟩).run P w = .ok (.value (.slice (some ⟨w.heap.size, 0, none⟩) n n)) (w.alloc (.cells cs el)) := by
    have := hrun w
    simp only [execOp, List.map_toArray]
    simp only [Sem.run_bind, this, Result.andThen]
    rfl
  rw [this]
  exact ⟨⟨rfl, rfl, rfl⟩, H'⟩
theorem r_mkAny {t el : Nat} {x y : Operand} {cs : Array Value} {n : Nat} (hB : B H) (hrun : ∀ w : World, (Instr.makeSlice t (e.ev x) (e.ev y)).run P w = .ok (.slice (some ⟨w.heap.size, 0, none⟩) n n) (w.alloc (.cells cs el)))
    (H' : B (H.push (.cells cs el (0, 0))) ∧ RL P B st ops rest (e.set d (.slice (some ⟨H.size, 0, none⟩) n n)) (H.push (.cells cs el (0, 0))) K) : RL P B st ops (⟨some d, .makeSlice t x y, ty, pos, af, none⟩ :: rest) e H K := by
  refine r_eff rfl rfl hB fun w hw => ?_
  subst hw
  have : (execOp e.ev ⟨some d, .makeSlice t x y, ty, pos, af, none⟩).run P w = .ok (.value (.slice (some ⟨w.heap.size, 0, none⟩) n n)) (w.alloc (.cells cs el)) := by
    have := hrun w
    simp [execOp, this]
  rw [this]
  exact ⟨⟨rfl, rfl, rfl⟩, H'⟩
theorem opE_ok {Q : EqT} (HQ : EqOk P Q) {C : Calls'} (HC : CallsOk P h G C) (R : Rl h G m l bs e H) {op : Op} (hv : opE P Q C G l bs op = some (v, bs')) (hst : kindOf op = .read → st = false)
    (hB : kindOf op = .eff → B H ∧ ∀ m' H', Mle m m' → HR h G m' bs' H' → B H') (HK : Nx P B st ops rest K h G m (putE l d v) bs') : RL P B st ops (⟨some d, op, ty, pos, af, none⟩ :: rest) e H K := by
  have fin : ∀ {u : Value}, bs' = bs → rel m v u → RL P B st ops rest (e.set d u) H K := fun hb hr => by subst hb; exact nx_pure R hr HK
  unfold opE at hv
  split at hv
  · -- move
    split at hv
    · rename_i hx; cases hv; exact r_mv (by rw [Env.mv_eq]; exact fin rfl (evE_ok R hx))
    · cases hv
  · split at hv
    · rename_i hx; cases hv; exact r_as (by rw [Env.mv_eq]; exact fin rfl (evE_ok R hx))
    · cases hv
  · -- pick
    split at hv
    · rename_i hc
      split at hv
      · rename_i hx; cases hv; exact r_pickT (evE_ok R hc) (by rw [Env.mv_eq]; exact fin rfl (evE_ok R hx))
      · cases hv
    · rename_i hc
      split at hv
      · rename_i hx; cases hv; exact r_pickF (evE_ok R hc) (by rw [Env.mv_eq]; exact fin rfl (evE_ok R hx))
      · cases hv
    · cases hv
  · -- extract
    split at hv
    · rename_i vs hx
      split at hv
      · rename_i w hw
        cases hv
        obtain ⟨us, h1, h2⟩ := evE_ok R hx
        obtain ⟨_, h4⟩ := rels_iff.1 h1
        rw [nth_eq] at hw
        obtain ⟨u, hu, hr⟩ := h4 _ _ hw
        exact r_ext h2 (by simpa using hu) (fin rfl hr)
      · cases hv
    · cases hv
  · -- binOp
    split at hv
    · rename_i a b hx hy
      split at hv
      · rename_i hb; cases hv; exact binE_ok HQ R (evE_ok R hx) (evE_ok R hy) hb HK
      · cases hv
    · cases hv
  · split at hv
    · rename_i hx; cases hv; exact r_not (evE_ok R hx) (fin rfl rfl)
    · cases hv
  · split at hv
    · rename_i hx; cases hv; exact r_neg (evE_ok R hx) (fin rfl rfl)
    · cases hv
  · -- convert
    split at hv
    · rename_i hx h1 h2
      split at hv
      · rename_i hk; subst hk; cases hv; exact r_cv (intE_ok h1) (intE_ok h2) (evE_ok R hx) (fin rfl rfl)
      · cases hv
    · cases hv
  · -- nilCheck
    split at hv
    · rename_i hx
      cases hv
      obtain ⟨r, h1, h2⟩ := evE_ok R hx
      exact r_nc h2 (fin rfl ⟨r, h1, rfl⟩)
    · cases hv
  · -- fieldAddr
    split at hv
    · rename_i hx hf
      cases hv
      obtain ⟨r, h1, h2⟩ := evE_ok R hx
      obtain ⟨ft, h3, h4⟩ := fdE_ok hf
      exact r_fo h3 h4 (Nat.succ_ne_zero _) h2 (fin rfl ⟨r, h1, rfl⟩)
    · cases hv
  · -- indexAddr
    split at hv
    · rename_i xv k j el sz hx hi hT
      split at hv
      · rename_i b o n hs
        cases hb : Nat.blt j n with
        | false => rw [hb] at hv; cases hv
        | true =>
          rw [hb] at hv; cases hv
          have hjn : j < n := Nat.le_of_ble_eq_true hb
          obtain ⟨r, c, h1, _, h2⟩ := slot_rel hs (evE_ok R hx)
          refine r_ix (slE_ok hT) h2 (evE_ok R hi) (Int.natCast_nonneg j) (by show (j : Int) < (n : Int); omega) ?_
          rw [add_off]
          exact fin rfl ⟨r, h1, rfl⟩
      · cases hv
    · cases hv
  · -- index
    split at hv
    · rename_i cs k j n el hx hi hu
      cases hb : Nat.blt j n with
      | false => rw [hb] at hv; cases hv
      | true =>
        rw [hb] at hv
        simp only [cond_true] at hv
        have hjn : j < n := Nat.le_of_ble_eq_true hb
        split at hv
        · rename_i w hp
          cases hv
          obtain ⟨us, h1, h2⟩ := evE_ok R hx
          have h3 := evE_ok R hi
          obtain ⟨u, hu1, hu2⟩ := index_ok (P := P) (k := k) (ie := default) hu hjn hp h1
          refine r_idx (cs := #[]) (v := undef) (u := u) (fun w => ?_) (fin rfl hu1)
          rw [h2, h3]
          exact hu2 w
        · cases hv
    · cases hv
  · -- makeFunc
    split at hv
    · rename_i vs hx
      cases hv
      exact r_mf rfl (fin rfl ⟨_, evEs_ok R hx, rfl⟩)
    · cases hv
  · -- build
    split at hv
    · rename_i z vs hz hp
      obtain ⟨i, zv, hi, hzz, hsi, _, _, hzr, _⟩ := zeE_ok hz
      split at hv
      · rename_i fs hu
        cases hfs : fs.toList.all (fun f => (P.info? f.type).isSome) with
        | false => rw [hfs] at hv; cases hv
        | true =>
          rw [hfs] at hv
          simp only [cond_true] at hv
          split at hv
          · rename_i cs hf
            cases hv
            obtain ⟨us, h1, h2⟩ := buildS_ok hu hi hzz hfs (hzr m) (partsE_ok R hp) hf
            exact r_build h2 (fin rfl ⟨us, h1, rfl⟩)
          · cases hv
      · rename_i el hu
        split at hv
        · rename_i ie hie
          split at hv
          · rename_i cs hf
            cases hv
            obtain ⟨us, h1, h2⟩ := buildA_ok hu hi hzz hie (hzr m) (partsE_ok R hp) hf
            exact r_build h2 (fin rfl ⟨us, h1, rfl⟩)
          · cases hv
        · cases hv
      · cases hv
    · cases hv
  · -- slice
    split at hv
    · rename_i xv el sz lo hi mx hx hT h1 h2 h3
      cases hno : (hi.isNone && mx.isSome) with
      | true => rw [hno] at hv; cases hv
      | false =>
        rw [hno] at hv
        simp only [cond_false] at hv
        split at hv
        · rename_i r hr
          cases hv
          refine sliceE_ok R (slE_ok hT) (evE_ok R hx) (optE_ok R h1) (optE_ok R h2) (optE_ok R h3) hr (fun hn => ?_) HK
          subst hn
          cases mx with
          | none => rfl
          | some _ => cases hno
        · cases hv
    · cases hv
  · -- load
    have := hst rfl
    subst this
    split at hv
    · rename_i b o hx ht
      split at hv
      · rename_i hc; cases hv; exact ldE_ok R hx ht hc HK
      · cases hv
    · rename_i b o n hx ht
      split at hv
      · rename_i hc; cases hv; exact ldAE_ok R hx ht hc HK
      · cases hv
    · cases hv
  · -- alloc
    rename_i t
    split at hv
    · rename_i z hz
      cases hv
      obtain ⟨hB1, hB2⟩ := hB rfl
      obtain ⟨i, zv, hi, hzz, hsi, hn, hby, hzr, hzs⟩ := zeE_ok hz
      have hpush := R.heap.push (t := t) (cap := 0) (cs := zv.cells) (sz := 0) (lr_pre (ws := []) (hzr m) |> fun q => by rwa [List.append_nil] at q) (fun h0 => absurd rfl h0)
      refine r_alloc ⟨i, hi, hzz, by rw [hsi, hzs], rfl⟩ hB1 ⟨hB2 _ _ (mle_push _ _) hpush, ?_⟩
      exact HK _ _ _ (mle_push _ _) ⟨(R.env.mono (mle_push _ _).w).put (v := .p bs.length 0) ⟨_, at_len R.heap _, rfl⟩ d, hpush⟩
    · cases hv
  · -- box
    rename_i t x
    split at hv
    · rename_i xv hx
      cases hv
      obtain ⟨hB1, hB2⟩ := hB rfl
      have hc := cells_rel (evE_ok R hx)
      have hpush := R.heap.push (t := t) (cap := 0) (cs := (e.ev x).cells) (sz := 0) (lr_pre (ws := []) hc |> fun q => by rwa [List.append_nil] at q) (fun h0 => absurd rfl h0)
      refine r_box hB1 rfl ⟨hB2 _ _ (mle_push _ _) hpush, ?_⟩
      exact HK _ _ _ (mle_push _ _) ⟨(R.env.mono (mle_push _ _).w).put (v := .p bs.length 0) ⟨_, at_len R.heap _, rfl⟩ d, hpush⟩
    · cases hv
  · -- makeSlice
    split at hv
    · rename_i el sz n n' hT hx hy
      split at hv
      · rename_i zn z hz
        cases hb : (Nat.beq n n' && Nat.ble n 100000) with
        | false => rw [hb] at hv; cases hv
        | true =>
          rw [hb] at hv; cases hv
          simp only [Bool.and_eq_true] at hb
          cases Nat.eq_of_beq_eq_true hb.1
          have hn := Nat.le_of_ble_eq_true hb.2
          obtain ⟨hB1, hB2⟩ := hB rfl
          obtain ⟨hu, i0, hi0, hs0⟩ := slE_ok hT
          obtain ⟨i, zv, hi, hzz, hsi, hzl, hby, hzr, hzs⟩ := zeE_ok hz
          rw [hi] at hi0
          injection hi0 with hi0
          subst hi0
          have hmr := made_rep zv.cells n
          rw [hzs, ← hsi] at hmr
          have hlr : LR m (repE z n) (madeCells zv.cells (n * i.size)).toList := by
            rw [hmr]
            have := lr_pre (ws := []) (rels_rep (hzr m) n)
            rwa [List.append_nil] at this
          have hpush := R.heap.push (t := el) (cap := 0) (sz := 0) hlr (fun h0 => absurd rfl h0)
          have hbb : i.bytes * n ≤ 1000 * 100000 := Nat.mul_le_mul hby hn
          refine r_mkAny (n := n) hB1 (fun w => ?_) ⟨hB2 _ _ (mle_push _ _) hpush, HK _ _ _ (mle_push _ _) ⟨(R.env.mono (mle_push _ _).w).put (v := .s bs.length 0 n n) ⟨_, at_len R.heap _, rfl⟩ d, hpush⟩⟩
          have hx := evE_ok R hx
          have hy := evE_ok R hy
          have h1 := run_make (P := P) w _ el i zv hu hi hzz .i64 .i64 (n : Int) (n : Int) (by omega) (by omega) (by rw [← Int.natCast_mul]; omega) (by omega)
          rw [hx, hy]
          exact h1
      · cases hv
    · cases hv
  · -- buildSlice
    rename_i t n ps
    split at hv
    · rename_i el sz vs hT hp
      split at hv
      · rename_i k z hz
        cases hb : (Nat.ble n 1000 && Nat.ble sz 1000 && Nat.beq (k + 1) sz) with
        | false => rw [hb] at hv; cases hv
        | true =>
          rw [hb] at hv
          simp only [cond_true] at hv
          simp only [Bool.and_eq_true] at hb
          have hb1 := Nat.le_of_ble_eq_true hb.1.1
          have hb2 := Nat.le_of_ble_eq_true hb.1.2
          have hb3 := Nat.eq_of_beq_eq_true hb.2
          subst hb3
          split at hv
          · rename_i cs hf
            cases hv
            obtain ⟨hB1, hB2⟩ := hB rfl
            obtain ⟨arr, h1, h2⟩ := buildSlice_ok hT hz hb1 hb2 (partsE_ok R hp) hf
            have hpush := R.heap.push (t := el) (cap := 0) (cs := arr) (sz := 0) (lr_pre (ws := []) h1 |> fun q => by rwa [List.append_nil] at q) (fun h0 => absurd rfl h0)
            exact r_bsAny hB1 h2 ⟨hB2 _ _ (mle_push _ _) hpush, HK _ _ _ (mle_push _ _) ⟨(R.env.mono (mle_push _ _).w).put (v := .s bs.length 0 n n) ⟨_, at_len R.heap _, rfl⟩ d, hpush⟩⟩
          · cases hv
      · cases hv
    · cases hv
  · -- len
    split at hv
    · rename_i q hx hT
      cases hv
      have hx : e.ev _ = .slice none 0 0 := evE_ok R hx
      exact r_len (slE_ok (el := q.1) (s := q.2) hT) hx (fin rfl rfl)
    · rename_i xv q hns hx hT
      split at hv
      · rename_i b o n hs
        cases hv
        obtain ⟨r, c, h1, _, h2⟩ := slot_rel hs (evE_ok R hx)
        exact r_len (slE_ok (el := q.1) (s := q.2) hT) h2 (fin rfl rfl)
      · cases hv
    · cases hv
  · -- append
    rename_i s x t t2
    split at hv
    · rename_i sv xv el sz hs hx hT
      split at hv
      · rename_i k z hz
        cases hb : (Nat.beq t t2 && Nat.beq (k + 1) sz) with
        | false => rw [hb] at hv; cases hv
        | true =>
          rw [hb] at hv
          simp only [cond_true] at hv
          simp only [Bool.and_eq_true] at hb
          cases Nat.eq_of_beq_eq_true hb.1
          have hb3 := Nat.eq_of_beq_eq_true hb.2
          subst hb3
          obtain ⟨hB1, hB2⟩ := hB rfl
          exact appE_ok R hB1 hB2 hs hx hT hz (Nat.succ_ne_zero _) hv HK
      · cases hv
    · cases hv
  · -- copy
    split at hv
    · rename_i sv xv el sz hs hx hT
      split at hv
      · rename_i b o n b2 o2 n2 h1 h2
        split at hv
        · rename_i vs hc
          split at hv
          · rename_i bs2 hset
            cases hv
            obtain ⟨hB1, hB2⟩ := hB rfl
            exact copyE_ok R hB1 hB2 hs hx hT h1 h2 hc hset HK
          · cases hv
        · cases hv
      · cases hv
    · cases hv
  · -- calls
    split at hv
    · rename_i f cl vs hf hx
      obtain ⟨hB1, hB2⟩ := hB rfl
      exact callE_ok HC R hB1 hB2 hf hx hv HK
    · cases hv
  · cases hv
end
end Go.QF
