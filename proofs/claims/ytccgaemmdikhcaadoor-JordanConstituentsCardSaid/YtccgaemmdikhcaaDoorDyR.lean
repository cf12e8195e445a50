/-
  Plain: what the reference asks of lists of blocks, and that it is what the program asks. No condition.
-/
import Derived.Test.YtccgaemmdikhcaaDoorDyS
namespace Go.QF
open Go
set_option linter.unusedVariables false
theorem tmod_zero {x m : Int} : x.tmod m = 0 ↔ x % m = 0 := by
  rw [← Int.dvd_iff_tmod_eq_zero, Int.dvd_iff_emod_eq_zero]
def WfR (p : Int) (b : Blk) : Prop := Ex b ∧ ((b.size = 1 ∧ b.a % p ≠ 0 ∧ b.b = 0 ∧ b.c = 0) ∨ (b.size = 2 ∧ p = 2 ∧ b.a % 2 = 0 ∧ b.b % 2 ≠ 0 ∧ b.c % 2 = 0))
theorem wfR_pos {p : Int} {b : Blk} (h : WfR p b) : 1 ≤ b.size ∧ b.size ≤ 2 := by
  obtain ⟨_, h | h⟩ := h <;> omega
theorem wfR_2 {b : Blk} : WfR 2 b ↔ Ex b ∧ Wf2 b := by
  unfold WfR Wf2
  constructor
  · rintro ⟨h, h2 | h2⟩
    · exact ⟨h, .inl (by omega)⟩
    · exact ⟨h, .inr (by omega)⟩
  · rintro ⟨h, h2 | h2⟩
    · exact ⟨h, .inl (by omega)⟩
    · exact ⟨h, .inr (by omega)⟩
def LstR (p : Int) (Bs : List Blk) : Prop := (∀ b ∈ Bs, WfR p b) ∧ Asc Bs Bs.length ∧ 1 ≤ Bs.length ∧ ssum Bs ≤ 8
theorem lstR_2 {Bs : List Blk} : LstR 2 Bs ↔ Lst2 Bs := by
  unfold LstR Lst2
  constructor
  · rintro ⟨h, r⟩; exact ⟨fun b hb => wfR_2.1 (h b hb), r⟩
  · rintro ⟨h, r⟩; exact ⟨fun b hb => wfR_2.2 (h b hb), r⟩
def GoodR (p : Int) (Bs : List Blk) (i : Nat) : Prop := (∀ b ∈ Bs.take i, WfR p b) ∧ Asc Bs i
theorem goodR_zero (p : Int) (Bs : List Blk) : GoodR p Bs 0 := ⟨fun b hb => by simp at hb, fun i x y h => by omega⟩
theorem goodR_succ {p : Int} {Bs : List Blk} {i : Nat} {b : Blk} (H : GoodR p Bs i) (hb : Bs[i]? = some b) (h1 : WfR p b) (h3 : ∀ j x, j + 1 = i → Bs[j]? = some x → x.exp ≤ b.exp) : GoodR p Bs (i + 1) := by
  refine ⟨fun c hc => ?_, fun j x y hj hx hy => ?_⟩
  · rw [← take_snoc hb] at hc
    rcases List.mem_append.1 hc with hc | hc
    · exact H.1 c hc
    · rw [List.mem_singleton.1 hc]; exact h1
  · rcases Nat.lt_or_ge (j + 1) i with h | h
    · exact H.2 j x y h hx hy
    · obtain rfl : j + 1 = i := by omega
      rw [hb] at hy; injection hy with hy; subst hy
      exact h3 j x rfl hx
theorem ssum_bd {Bs : List Blk} (h : ∀ b ∈ Bs, 1 ≤ b.size ∧ b.size ≤ 2) : (Bs.length : Int) ≤ ssum Bs ∧ ssum Bs ≤ 2 * Bs.length := by
  induction Bs with
  | nil => simp [ssum]
  | cons b l ih =>
    have h1 := h b (List.mem_cons_self ..)
    have h2 := ih fun b hb => h b (List.mem_cons_of_mem _ hb)
    simp only [ssum, List.length_cons]; omega
theorem goodR_bd {p : Int} {Bs : List Blk} {i : Nat} (H : GoodR p Bs i) (hi : i ≤ Bs.length) : (i : Int) ≤ ssum (Bs.take i) ∧ ssum (Bs.take i) ≤ 2 * i := by
  have := ssum_bd (Bs := Bs.take i) fun b hb => wfR_pos (H.1 b hb)
  rwa [List.length_take, Nat.min_eq_left hi] at this
theorem lstR_len {p : Int} {Bs : List Blk} (H : LstR p Bs) : Bs.length ≤ 8 := by
  have := ssum_bd (Bs := Bs) fun b hb => wfR_pos (H.1 b hb)
  have := H.2.2.2
  omega
open Classical in
noncomputable def lstB (p : Int) (Bs : List Blk) : Bool := decide (LstR p Bs)
theorem lstB_t {p : Int} {Bs : List Blk} (H : LstR p Bs) : true = lstB p Bs := by simp [lstB, H]
theorem lstB_f {p : Int} {Bs : List Blk} (H : ¬ LstR p Bs) : false = lstB p Bs := by simp [lstB, H]
theorem of_lstB {p : Int} {Bs : List Blk} (h : lstB p Bs = true) : LstR p Bs := by simpa [lstB] using h
theorem not_of_lstB {p : Int} {Bs : List Blk} (h : lstB p Bs = false) : ¬ LstR p Bs := by simpa [lstB] using h
open Classical in
noncomputable def wfB (p : Int) (b : Blk) : Bool := decide (WfR p b)
theorem wfB_t {p : Int} {b : Blk} (H : WfR p b) : true = wfB p b := by simp [wfB, H]
theorem wfB_f {p : Int} {b : Blk} (H : ¬ WfR p b) : false = wfB p b := by simp [wfB, H]
theorem of_wfB {p : Int} {b : Blk} (h : wfB p b = true) : WfR p b := by simpa [wfB] using h
theorem not_of_wfB {p : Int} {b : Blk} (h : wfB p b = false) : ¬ WfR p b := by simpa [wfB] using h
/-! ### even forms -/
def evn (c : Con) : Bool := !(decide (c.exp = 0) && c.odd)
noncomputable def even2 (p : Int) (Bs : List Blk) : Bool := con2B p Bs && (con2 p Bs).all evn
noncomputable def evenR (p : Int) (Bs : List Blk) : Bool := con2B p Bs && match con2 p Bs with | c :: _ => decide (0 < c.exp) || !c.odd | [] => false
theorem cons_asc {Bs : List Blk} (H : Lst2 Bs) : ∀ i, i ≤ Bs.length → (consTo inc2 Bs i).Pairwise (fun c d => c.exp < d.exp) ∧ (∀ c ∈ consTo inc2 Bs i, 0 ≤ c.exp ∧ ∀ b, Bs[i]? = some b → c.exp ≤ b.exp) := by
  intro i
  induction i with
  | zero => intro _; exact ⟨by simp [consTo], fun c hc => by simp [consTo] at hc⟩
  | succ i ih =>
    intro hi
    obtain ⟨h1, h2⟩ := ih (by omega)
    obtain ⟨b, hb⟩ : ∃ b, Bs[i]? = some b := ⟨_, List.getElem?_eq_getElem (by omega)⟩
    have hex := (H.1 b (List.mem_of_getElem? hb)).1
    have hnext : ∀ b', Bs[i + 1]? = some b' → b.exp ≤ b'.exp := fun b' hb' => H.2.1 i b b' (List.getElem?_eq_some_iff.1 hb').1 hb hb'
    rw [consTo_succ hb]
    by_cases he : ∃ c, (consTo inc2 Bs i).getLast? = some c ∧ c.exp = b.exp
    · obtain ⟨c, hl, hce⟩ := he
      obtain ⟨l, hll⟩ := List.getLast?_eq_some_iff.1 hl
      rw [addC_old hl hce]
      have hd : (consTo inc2 Bs i).dropLast = l := by rw [hll]; simp
      rw [hd]
      rw [hll] at h1 h2
      rw [List.pairwise_append] at h1
      refine ⟨List.pairwise_append.2 ⟨h1.1, by simp, fun x hx y hy => ?_⟩, fun x hx => ?_⟩
      · rw [List.mem_singleton.1 hy]
        exact h1.2.2 x hx c (List.mem_singleton.2 rfl)
      · rcases List.mem_append.1 hx with hx | hx
        · have := h2 x (List.mem_append_left _ hx)
          exact ⟨this.1, fun b' hb' => by have := this.2 b hb; have := hnext b' hb'; omega⟩
        · rw [List.mem_singleton.1 hx]
          exact ⟨by show 0 ≤ c.exp; have := hex.1; omega, fun b' hb' => by show c.exp ≤ b'.exp; have := hnext b' hb'; omega⟩
    · have hnew : ∀ c, (consTo inc2 Bs i).getLast? = some c → c.exp ≠ b.exp := fun c hl hce => he ⟨c, hl, hce⟩
      rw [addC_new hnew]
      refine ⟨List.pairwise_append.2 ⟨h1, by simp, fun x hx y hy => ?_⟩, fun x hx => ?_⟩
      · rw [List.mem_singleton.1 hy]
        show x.exp < b.exp
        have hx2 := (h2 x hx).2 b hb
        rcases Int.lt_or_eq_of_le hx2 with h | h
        · exact h
        · exfalso
          cases hl : (consTo inc2 Bs i).getLast? with
          | none => rw [List.getLast?_eq_none_iff.1 hl] at hx; simp at hx
          | some c =>
            obtain ⟨l, hll⟩ := List.getLast?_eq_some_iff.1 hl
            have hc2 := (h2 c (List.mem_of_getLast? hl)).2 b hb
            have hne := hnew c hl
            rw [hll] at h1 hx
            rw [List.pairwise_append] at h1
            rcases List.mem_append.1 hx with hx | hx
            · have := h1.2.2 x hx c (List.mem_singleton.2 rfl); omega
            · rw [List.mem_singleton.1 hx] at h; exact hne h
      · rcases List.mem_append.1 hx with hx | hx
        · have := h2 x hx
          exact ⟨this.1, fun b' hb' => by have := this.2 b hb; have := hnext b' hb'; omega⟩
        · rw [List.mem_singleton.1 hx]
          exact ⟨hex.1, fun b' hb' => hnext b' hb'⟩
theorem even_eq (p : Int) (Bs : List Blk) : even2 p Bs = evenR p Bs := by
  unfold even2 evenR
  cases h : con2B p Bs with
  | false => rfl
  | true =>
    obtain ⟨hp, H⟩ := of_con2B h
    unfold con2
    rw [h]
    simp only [if_true, Bool.true_and]
    obtain ⟨h1, h2⟩ := cons_asc H Bs.length (Nat.le_refl _)
    have hne : consTo inc2 Bs Bs.length ≠ [] := by
      have := H.2.2.1
      obtain ⟨n, hn⟩ : ∃ n, Bs.length = n + 1 := ⟨Bs.length - 1, by omega⟩
      rw [hn]; exact consTo_ne (by omega)
    cases hc : consTo inc2 Bs Bs.length with
    | nil => exact absurd hc hne
    | cons c l =>
      rw [hc] at h1 h2
      have hc0 := (h2 c (List.mem_cons_self ..)).1
      have hl : l.all evn = true := List.all_eq_true.2 fun d hd => by
        have := (List.pairwise_cons.1 h1).1 d hd
        unfold evn
        rw [decide_eq_false (by omega)]; rfl
      rw [List.all_cons, hl, Bool.and_true]
      unfold evn
      by_cases h0 : c.exp = 0
      · simp [h0]
      · have : 0 < c.exp := by omega
        simp [h0, this]
/-! ### blocks that are made of numbers -/
def mkB (x0 x1 x2 x3 x4 : Nat) (p : Int) : Blk :=
  if x1 % 2 = 0 ∨ p ≠ 2 then ⟨(x0 % 4 : Nat), 1, if (x2 : Int) % p = 0 then x2 + 1 else x2, 0, 0⟩ else ⟨(x0 % 4 : Nat), 2, 2 * x2, 2 * x3 + 1, 2 * x4⟩
/-- What Blocks makes. -/
structure Made (p : Int) (n : Nat) (Bs : List Blk) : Prop where
  wf : ∀ b ∈ Bs, WfR p b
  asc : Asc Bs Bs.length
  len : Bs.length ≤ n
  sm : ∀ b ∈ Bs, 0 ≤ b.a ∧ b.a ≤ 600 ∧ b.exp ≤ 3 + n
theorem wf_mkB {x0 x1 x2 x3 x4 : Nat} {p : Int} (hp : 2 ≤ p) (h2 : x2 < 256) {e : Int} (he : 0 ≤ e ∧ e ≤ 60) : WfR p { mkB x0 x1 x2 x3 x4 p with exp := e } ∧ 0 ≤ (mkB x0 x1 x2 x3 x4 p).a ∧ (mkB x0 x1 x2 x3 x4 p).a ≤ 600 ∧ 0 ≤ (mkB x0 x1 x2 x3 x4 p).exp ∧ (mkB x0 x1 x2 x3 x4 p).exp ≤ 3 := by
  unfold mkB
  by_cases h : x1 % 2 = 0 ∨ p ≠ 2
  · rw [if_pos h]
    refine ⟨⟨he, .inl ⟨rfl, ?_, rfl, rfl⟩⟩, ?_, ?_, ?_, ?_⟩
    · dsimp only
      split
      · rename_i h0
        rw [Int.add_emod, h0, Int.zero_add, Int.emod_emod, Int.emod_eq_of_lt (by omega) (by omega)]; omega
      · assumption
    all_goals dsimp only
    · split <;> omega
    · split <;> omega
    · omega
    · omega
  · rw [if_neg h]
    have hp2 : p = 2 := by omega
    refine ⟨⟨he, .inr ⟨rfl, hp2, ?_, ?_, ?_⟩⟩, ?_, ?_, ?_, ?_⟩
    all_goals dsimp only
    all_goals omega
theorem det_mod (b : Blk) : (b.a % 8 * (b.c % 8) - b.b % 8 * (b.b % 8)) % 8 = (b.a * b.c - b.b * b.b) % 8 := by
  rw [Int.sub_emod, ← Int.mul_emod, ← Int.mul_emod, ← Int.sub_emod]
end Go.QF
namespace Go.QF
open Go
structure Q5 where
  a : Nat
  b : Nat
  c : Nat
  d : Nat
  e : Nat
def q5V (q : Q5) : List Value := [.int .u8 (q.a : Int), .int .u8 (q.b : Int), .int .u8 (q.c : Int), .int .u8 (q.d : Int), .int .u8 (q.e : Int)]
def Q5.I (q : Q5) : Prop := q.a < 256 ∧ q.b < 256 ∧ q.c < 256 ∧ q.d < 256 ∧ q.e < 256
theorem get_q5 {Xs : List Q5} {i : Nat} {q : Q5} (h : Xs[i]? = some q) : (Xs.map q5V)[i]? = some (q5V q) := by simp [h]
/-- Made so far. -/
def MadeTo (p : Int) (Bs : List Blk) : Prop := (∀ b ∈ Bs, WfR p b ∧ 0 ≤ b.a ∧ b.a ≤ 600 ∧ b.exp ≤ 3 + Bs.length) ∧ Asc Bs Bs.length
theorem made_nil (p : Int) : MadeTo p [] := ⟨fun b hb => by simp at hb, fun i x y h => by simp at h⟩
theorem made_snoc {p : Int} {Bs : List Blk} {q : Q5} {e : Int} (H : MadeTo p Bs) (hp : 2 ≤ p) (hq : q.I) (hl : Bs.length ≤ 50) (he : ∀ x, Bs.getLast? = some x → x.exp ≤ e ∧ e ≤ x.exp + 1) (he0 : Bs = [] → 0 ≤ e ∧ e ≤ 3) : MadeTo p (Bs ++ [{ mkB q.a q.b q.c q.d q.e p with exp := e }]) := by
  have hb : 0 ≤ e ∧ e ≤ 4 + Bs.length := by
    cases hl : Bs.getLast? with
    | none => have := he0 (List.getLast?_eq_none_iff.1 hl); omega
    | some x =>
      have h1 := he x hl
      obtain ⟨hw, _, _, h2⟩ := H.1 x (List.mem_of_getLast? hl)
      have := hw.1.1
      omega
  obtain ⟨hw, h1, h2, h3, h4⟩ := wf_mkB (x0 := q.a) (x1 := q.b) (x2 := q.c) (x3 := q.d) (x4 := q.e) hp hq.2.2.1 (e := e) ⟨hb.1, by omega⟩
  refine ⟨fun b hb' => ?_, fun i x y hi hx hy => ?_⟩
  · rcases List.mem_append.1 hb' with h | h
    · obtain ⟨a1, a2, a3, a4⟩ := H.1 b h
      exact ⟨a1, a2, a3, by rw [List.length_append, List.length_singleton]; omega⟩
    · rw [List.mem_singleton.1 h]
      exact ⟨hw, h1, h2, by rw [List.length_append, List.length_singleton]; show e ≤ _; omega⟩
  · rw [List.length_append, List.length_singleton] at hi
    rcases Nat.lt_or_ge (i + 1) Bs.length with h | h
    · rw [List.getElem?_append_left (by omega)] at hx hy
      exact H.2 i x y h hx hy
    · have hil : i + 1 = Bs.length := by omega
      rw [List.getElem?_append_left (by omega)] at hx
      rw [List.getElem?_append_right (by omega), hil, Nat.sub_self] at hy
      simp at hy
      have hgl : Bs.getLast? = some x := by rw [List.getLast?_eq_getElem?, ← hx]; congr 1; omega
      rw [← hy]
      exact (he x hgl).1
end Go.QF
