/-
  Slices and matrices that grow by append: nil at first, then in a block of the call's own. No condition.
-/
import Derived.Test.YtccgaemmdikhcaaDoorMat
namespace Go.QF
open Go
set_option linter.unusedVariables false

def Gro (h : Heap) (el lo : Nat) (v : Value) (l : List Value) : Prop := (l = [] ∧ v = .slice none 0 0) ∨ ∃ g, lo ≤ g ∧ OwnA h el g v l
theorem gro_nil (h : Heap) (el lo : Nat) : Gro h el lo (.slice none 0 0) [] := .inl ⟨rfl, rfl⟩
theorem Gro.sl {h : Heap} {el lo : Nat} {v : Value} {l : List Value} (H : Gro h el lo v l) : Sl h v l := by
  rcases H with ⟨rfl, rfl⟩ | ⟨g, _, H⟩
  · exact sl_nil h
  · exact H.sl
theorem Gro.upd {S : Nat → Prop} {h h' : Heap} {el lo : Nat} {v : Value} {l : List Value} (H : Gro h el lo v l) (he : Upd S h h') (hS : ∀ g, v.ownBlock = some g → ¬ S g) : Gro h' el lo v l := by
  rcases H with ⟨rfl, rfl⟩ | ⟨g, hg, H⟩
  · exact gro_nil h' el lo
  · exact .inr ⟨g, hg, H.upd he (hS g H.blk)⟩
theorem Gro.ext {h h' : Heap} {el lo : Nat} {v : Value} {l : List Value} (H : Gro h el lo v l) (he : Ext h h') : Gro h' el lo v l := H.upd (S := fun _ => False) he.upd (fun _ _ h => h)
theorem Gro.own {h : Heap} {el lo : Nat} {v : Value} {l : List Value} (H : Gro h el lo v l) (hl : l ≠ []) : ∃ g, lo ≤ g ∧ OwnA h el g v l := by
  rcases H with ⟨rfl, rfl⟩ | H
  · exact absurd rfl hl
  · exact H
theorem Gro.blk {h : Heap} {el lo : Nat} {v : Value} {l : List Value} (H : Gro h el lo v l) : ∀ g, v.ownBlock = some g → lo ≤ g ∧ g < h.size := by
  intro g hg
  rcases H with ⟨rfl, rfl⟩ | ⟨g', hg', H⟩
  · cases hg
  · have := H.blk; rw [hg] at this; injection this with this; subst this; exact ⟨hg', H.lt⟩

section
variable {P : Program} {B : Heap → Prop} {st : Bool} {ops : Array Oper} {rest : List Oper} {e : Env} {h : Heap} {K : Env → Heap → Prop}
variable {d d' : Nat} {ty ty' : TypeId} {pos pos' : String} {af af' : Array Edge}
/-- 's = append(s, x)'. -/
theorem r_push {s y : Operand} {t el bytes lo : Nat} {z v u : Value} {l : List Value} (hT : SlT P t el 1) (hz : ZeT P el z bytes) (h1 : isOne z = true) (hbB : ∀ h', B h') (hs : ∀ p, (e.set d p).ev s = v) (hy : e.ev y = u) (hu : isOne u = true) (HG : Gro h el lo v l) (hlo : lo ≤ h.size) (hby : bytes ≤ 1000)
    (hl : l.length ≤ 100000000)
    (H : ∀ p v' h', Gro h' el lo v' (l ++ [u]) → Upd (fun k => v.ownBlock = some k) h h' → (v'.ownBlock = v.ownBlock ∨ ∃ g, v'.ownBlock = some g ∧ h.size ≤ g) → RL P B st ops rest ((e.set d p).set d' v') h' K) :
    RL P B st ops (⟨some d, .buildSlice t 1 #[(0, y)], ty, pos, af, none⟩ :: ⟨some d', .call ⟨.builtin .append, #[s, .tmp d], #[t, t]⟩, ty', pos', af', none⟩ :: rest) e h K := by
  have hsz : l.length * bytes ≤ 100000000 * 1000 := Nat.mul_le_mul hl hby
  have hb2 : (l.length + 1) * bytes ≤ 140737488355328 := by rw [Nat.add_mul]; omega
  refine r_bs [u] hT hz h1 (hbB h) rfl (by omega) (by omega) (by simp [partsOf, hy]) (by simpa using hu) ⟨hbB _, ?_⟩
  have hnew := (ownA_lit h el [u] (by simp [maxLen])).sl
  have hE := ext_push h (.cells #[u] el (0, 0))
  have hsz2 : (h.push (.cells #[u] el (0, 0))).size = h.size + 1 := by simp
  rcases HG with ⟨rfl, rfl⟩ | ⟨g, hg, HO⟩
  · refine r_app0 hT hz h1 (hbB _) (hs _) (Env.set_same _ _ _) hnew (by simpa using hu) (by simp) (by simp; omega) (by simp) fun v' h' HO' he => ⟨hbB _, ?_⟩
    exact H _ v' h' (.inr ⟨_, by omega, HO'⟩) (hE.trans he).upd (.inr ⟨_, HO'.blk, by omega⟩)
  · refine r_app hT hz h1 (hbB _) (hs _) (HO.ext hE) (Env.set_same _ _ _) hnew (by simpa using hu) (by simp) (by simpa using hb2) (by simp; omega) fun v' g' h' HO' hgg hup => ⟨hbB _, ?_⟩
    refine H _ v' h' (.inr ⟨g', ?_, HO'⟩) ?_ ?_
    · rcases hgg with rfl | rfl
      · exact hg
      · omega
    · refine (hE.upd.trans hup).mono fun k _ hk => ?_
      have hk2 : k = g := hk
      rw [hk2]; exact HO.blk
    · rcases hgg with rfl | rfl
      · exact .inl (HO'.blk.trans HO.blk.symm)
      · exact .inr ⟨_, HO'.blk, by omega⟩
end

/-- A matrix that grows by append, its rows in blocks of their own. -/
def GroM (h : Heap) (er ei lo : Nat) (v : Value) (gs : List Nat) (Z : List (List Int)) : Prop :=
  ∃ rs : List Value, Gro h er lo v rs ∧ rs.length = Z.length ∧ gs.length = Z.length ∧
    (∀ (i g : Nat) (r : Value) (z : List Int), gs[i]? = some g → rs[i]? = some r → Z[i]? = some z → OwnA h ei g r (z.map (.int .i64))) ∧ gs.Nodup ∧ ∀ g ∈ gs, lo ≤ g ∧ g < h.size ∧ v.ownBlock ≠ some g
theorem groM_nil (h : Heap) (er ei lo : Nat) : GroM h er ei lo (.slice none 0 0) [] [] :=
  ⟨[], gro_nil _ _ _, rfl, rfl, fun i g r z hg => by simp at hg, by simp, fun g hg => by simp at hg⟩
theorem GroM.upd {S : Nat → Prop} {h h' : Heap} {er ei lo : Nat} {v : Value} {gs : List Nat} {Z : List (List Int)} (H : GroM h er ei lo v gs Z) (he : Upd S h h') (hS : ∀ g, v.ownBlock = some g → ¬ S g) (hS2 : ∀ g ∈ gs, ¬ S g) : GroM h' er ei lo v gs Z := by
  obtain ⟨rs, h1, h2, h3, h4, h5, h6⟩ := H
  exact ⟨rs, h1.upd he hS, h2, h3, fun i g r z hg hr hz => (h4 i g r z hg hr hz).upd he (hS2 g (List.mem_of_getElem? hg)), h5, fun g hg => ⟨(h6 g hg).1, Nat.lt_of_lt_of_le (h6 g hg).2.1 he.1, (h6 g hg).2.2⟩⟩
theorem GroM.ext {h h' : Heap} {er ei lo : Nat} {v : Value} {gs : List Nat} {Z : List (List Int)} (H : GroM h er ei lo v gs Z) (he : Ext h h') : GroM h' er ei lo v gs Z := H.upd (S := fun _ => False) he.upd (fun _ _ h => h) (fun _ _ h => h)
theorem GroM.gro {h : Heap} {er ei lo : Nat} {v : Value} {gs : List Nat} {Z : List (List Int)} (H : GroM h er ei lo v gs Z) : ∃ rs, Gro h er lo v rs ∧ rs.length = Z.length := let ⟨rs, h1, h2, _⟩ := H; ⟨rs, h1, h2⟩
theorem GroM.lt {h : Heap} {er ei lo : Nat} {v : Value} {gs : List Nat} {Z : List (List Int)} (H : GroM h er ei lo v gs Z) : ∀ g ∈ gs, g < h.size := let ⟨_, _, _, _, _, _, h6⟩ := H; fun g hg => (h6 g hg).2.1
theorem GroM.topLt {h : Heap} {er ei lo : Nat} {v : Value} {gs : List Nat} {Z : List (List Int)} (H : GroM h er ei lo v gs Z) : ∀ g, v.ownBlock = some g → g < h.size := let ⟨_, h1, _⟩ := H; fun g hg => (h1.blk g hg).2
/-- A row more. -/
theorem GroM.push {h h' : Heap} {er ei lo g : Nat} {v v' r : Value} {gs : List Nat} {Z : List (List Int)} {z : List Int} {rs : List Value} (H : GroM h er ei lo v gs Z) (hrs : Gro h er lo v rs) (hr : OwnA h ei g r (z.map (.int .i64))) (hg : g ∉ gs) (hlo : lo ≤ g) (hvg : v.ownBlock ≠ some g)
    (H' : Gro h' er lo v' (rs ++ [r])) (hu : Upd (fun k => v.ownBlock = some k) h h') (hb : v'.ownBlock = v.ownBlock ∨ ∃ g, v'.ownBlock = some g ∧ h.size ≤ g) : GroM h' er ei lo v' (gs ++ [g]) (Z ++ [z]) := by
  obtain ⟨rs', h1, h2, h3, h4, h5, h6⟩ := H
  obtain rfl : rs' = rs := h1.sl.inj hrs.sl
  refine ⟨rs' ++ [r], H', by simp [h2], by simp [h3], fun i g' r' z' hg' hr' hz' => ?_, ?_, fun g' hg' => ?_⟩
  · rcases Nat.lt_trichotomy i Z.length with hi | hi | hi
    · rw [List.getElem?_append_left (by omega)] at hg' hz' hr'
      exact (h4 i g' r' z' hg' hr' hz').upd hu (h6 g' (List.mem_of_getElem? hg')).2.2
    · subst hi
      rw [List.getElem?_append_right (by omega), h3] at hg'
      rw [List.getElem?_append_right (by omega), h2] at hr'
      rw [List.getElem?_append_right (by omega)] at hz'
      simp at hg' hz' hr'
      subst hg'; subst hz'; subst hr'
      exact hr.upd hu hvg
    · rw [List.getElem?_append_right (by omega), List.getElem?_eq_none (by simp; omega)] at hz'
      cases hz'
  · exact List.nodup_append.2 ⟨h5, by simp, fun a ha c hc => by simp at hc; subst hc; exact fun he => hg (he ▸ ha)⟩
  · have key : lo ≤ g' ∧ g' < h.size ∧ v.ownBlock ≠ some g' := by
      rcases List.mem_append.1 hg' with h | h
      · exact h6 g' h
      · simp at h; subst h; exact ⟨hlo, hr.lt, hvg⟩
    refine ⟨key.1, Nat.lt_of_lt_of_le key.2.1 hu.1, ?_⟩
    rcases hb with hb | ⟨gg, hb, hge⟩
    · rw [hb]; exact key.2.2
    · rw [hb]; intro he; injection he with he; omega
theorem GroM.own {h : Heap} {er ei lo : Nat} {v : Value} {gs : List Nat} {Z : List (List Int)} (H : GroM h er ei lo v gs Z) (hZ : Z ≠ []) : ∃ b, OwnM h er ei b gs v Z ∧ ∀ g ∈ b :: gs, lo ≤ g := by
  obtain ⟨rs, h1, h2, h3, h4, h5, h6⟩ := H
  have hrs : rs ≠ [] := by intro he; subst he; exact hZ (List.eq_nil_of_length_eq_zero h2.symm)
  obtain ⟨b, hb, HO⟩ := h1.own hrs
  refine ⟨b, ⟨rs, HO, h2, Nat.le_refl _, h3, h4, List.nodup_cons.2 ⟨fun hm => (h6 b hm).2.2 HO.blk, h5⟩⟩, fun g hg => ?_⟩
  rcases List.mem_cons.1 hg with rfl | hg
  · exact hb
  · exact (h6 g hg).1
theorem GroM.mat {h : Heap} {er ei lo : Nat} {v : Value} {gs : List Nat} {Z : List (List Int)} (H : GroM h er ei lo v gs Z) : Mat h v Z := by
  obtain ⟨rs, h1, h2, h3, h4, h5, h6⟩ := H
  refine ⟨rs, h1.sl, h2, fun i r z hr hz => ?_⟩
  have hi : i < gs.length := by have := (List.getElem?_eq_some_iff.1 hz).1; omega
  exact (h4 i gs[i] r z (List.getElem?_eq_getElem hi) hr hz).sl
end Go.QF
