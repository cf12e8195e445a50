/-
  Plain: blocks and constituents of decompositions, at 2 and at odd primes. No condition.
-/
import Derived.Test.YtccgaemmdikhcaaDoorBox
namespace Go.QF
open Go
set_option linter.unusedVariables false
set_option linter.unusedSimpArgs false

structure Blk where
  exp : Int
  size : Int
  a : Int
  b : Int
  c : Int
deriving DecidableEq
structure Con where
  exp : Int
  dim : Int
  sign : Int
  odd : Bool
  oddity : Int
deriving DecidableEq
def blkV (b : Blk) : List Value := [.int .i64 b.exp, .int .i64 b.size, .int .i64 b.a, .int .i64 b.b, .int .i64 b.c]
def conV (c : Con) : List Value := [.int .i64 c.exp, .int .i64 c.dim, .int .i64 c.sign, .bool c.odd, .int .i64 c.oddity]
def I64 (x : Int) : Prop := -9223372036854775808 ≤ x ∧ x ≤ 9223372036854775807
def Blk.I (b : Blk) : Prop := I64 b.exp ∧ I64 b.size ∧ I64 b.a ∧ I64 b.b ∧ I64 b.c

theorem and_mask {P : Program} (a : Int) (n : Nat) (m : Int) (hm : m = 2 ^ n - 1) (hn : n ≤ 62) (w : World) : (Op.intBits .and .i64 a m).run P w = .ok (.int .i64 (a % 2 ^ n)) w := by
  have hp : (2 : Int) ^ n ≤ 2 ^ 62 := by
    have : (2 : Nat) ^ n ≤ 2 ^ 62 := Nat.pow_le_pow_right (by omega) hn
    have h2 : ((2 ^ n : Nat) : Int) ≤ ((2 ^ 62 : Nat) : Int) := by omega
    simpa using h2
  have hpos : (0 : Int) < 2 ^ n := Int.pow_pos (by omega)
  have hmn : (BitVec.ofInt 64 m).toNat = 2 ^ n - 1 := by
    subst hm
    rw [BitVec.toNat_ofInt]
    have : ((2 : Int) ^ n - 1) % ((2 ^ 64 : Nat) : Int) = 2 ^ n - 1 := Int.emod_eq_of_lt (by omega) (by omega)
    rw [this]
    have h3 : ((2 : Int) ^ n - 1) = ((2 ^ n - 1 : Nat) : Int) := by
      have : 1 ≤ 2 ^ n := Nat.one_le_two_pow
      rw [Int.natCast_sub this]; simp
    rw [h3]; rfl
  have hand : (BitVec.ofInt 64 a &&& BitVec.ofInt 64 m).toNat = (a % 2 ^ n).toNat := by
    rw [BitVec.toNat_and, hmn, Nat.and_two_pow_sub_one_eq_mod, BitVec.toNat_ofInt]
    have h1 : 0 ≤ a % ((2 ^ 64 : Nat) : Int) := Int.emod_nonneg _ (by omega)
    have h2 : (((a % ((2 ^ 64 : Nat) : Int)).toNat % 2 ^ n : Nat) : Int) = a % 2 ^ n := by
      rw [Int.natCast_emod, Int.toNat_of_nonneg h1]
      have hd : ((2 ^ n : Nat) : Int) ∣ ((2 ^ 64 : Nat) : Int) := by
        have : (2 ^ n : Nat) ∣ 2 ^ 64 := Nat.pow_dvd_pow 2 (by omega)
        exact Int.natCast_dvd_natCast.2 this
      rw [Int.emod_emod_of_dvd _ hd]; simp
    have h3 : 0 ≤ a % 2 ^ n := Int.emod_nonneg _ (by omega)
    omega
  have hr : 0 ≤ a % 2 ^ n ∧ a % 2 ^ n < 2 ^ n := ⟨Int.emod_nonneg _ (by omega), Int.emod_lt_of_pos _ hpos⟩
  have hw : IntKind.i64.wrap (((a % 2 ^ n).toNat : Nat) : Int) = a % 2 ^ n := by
    rw [Int.toNat_of_nonneg hr.1, IntKind.wrap_i64]; omega
  simp only [Op.intBits]
  show Result.ok (Value.int .i64 (IntKind.i64.wrap ((BitVec.ofInt 64 a &&& BitVec.ofInt 64 m).toNat : Int))) w = _
  rw [hand, hw]
theorem and1 {P : Program} (a : Int) (w : World) : (Op.intBits .and .i64 a 1).run P w = .ok (.int .i64 (a % 2)) w := and_mask a 1 1 (by decide) (by omega) w
theorem and7 {P : Program} (a : Int) (w : World) : (Op.intBits .and .i64 a 7).run P w = .ok (.int .i64 (a % 8)) w := and_mask a 3 7 (by decide) (by omega) w

/-! ### at 2 -/
def Wf2 (b : Blk) : Prop := (b.size = 1 ∧ b.a % 2 = 1 ∧ b.b = 0 ∧ b.c = 0) ∨ (b.size = 2 ∧ b.a % 2 = 0 ∧ b.b % 2 = 1 ∧ b.c % 2 = 0)
instance (b : Blk) : Decidable (Wf2 b) := by unfold Wf2; infer_instance
def Ex (b : Blk) : Prop := 0 ≤ b.exp ∧ b.exp ≤ 60
instance (b : Blk) : Decidable (Ex b) := by unfold Ex; infer_instance
def detB (b : Blk) : Int := (if b.size = 1 then b.a else b.a * b.c - b.b * b.b) % 8
def inc2 (c : Con) (b : Blk) : Con := ⟨c.exp, c.dim + b.size, if detB b = 3 ∨ detB b = 5 then -c.sign else c.sign, c.odd || decide (b.size = 1), if b.size = 1 then (c.oddity + b.a) % 8 else c.oddity⟩
def ssum : List Blk → Int
  | [] => 0
  | b :: l => b.size + ssum l
theorem ssum_append (l m : List Blk) : ssum (l ++ m) = ssum l + ssum m := by
  induction l with
  | nil => simp [ssum]
  | cons b l ih => simp [ssum, ih]; omega
/-- One block more. -/
def addC (inc : Con → Blk → Con) (out : List Con) (b : Blk) : List Con :=
  match out.getLast? with
  | some c => if c.exp = b.exp then out.dropLast ++ [inc c b] else out ++ [inc ⟨b.exp, 0, 1, false, 0⟩ b]
  | none => [inc ⟨b.exp, 0, 1, false, 0⟩ b]
def consTo (inc : Con → Blk → Con) (Bs : List Blk) : Nat → List Con
  | 0 => []
  | i + 1 => match Bs[i]? with
    | some b => addC inc (consTo inc Bs i) b
    | none => consTo inc Bs i
def Asc (Bs : List Blk) (n : Nat) : Prop := ∀ i x y, i + 1 < n → Bs[i]? = some x → Bs[i + 1]? = some y → x.exp ≤ y.exp
def Lst2 (Bs : List Blk) : Prop := (∀ b ∈ Bs, Ex b ∧ Wf2 b) ∧ Asc Bs Bs.length ∧ 1 ≤ Bs.length ∧ ssum Bs ≤ 8
open Classical in
noncomputable def con2B (p : Int) (Bs : List Blk) : Bool := decide (p = 2 ∧ Lst2 Bs)
noncomputable def con2 (p : Int) (Bs : List Blk) : List Con := if con2B p Bs then consTo inc2 Bs Bs.length else []
theorem con2B_t {p : Int} {Bs : List Blk} (h : p = 2) (H : Lst2 Bs) : con2B p Bs = true := by simp [con2B, h, H]
theorem con2B_f {p : Int} {Bs : List Blk} (H : ¬ (p = 2 ∧ Lst2 Bs)) : con2B p Bs = false := by simp [con2B, H]
theorem of_con2B {p : Int} {Bs : List Blk} (h : con2B p Bs = true) : p = 2 ∧ Lst2 Bs := by simpa [con2B] using h
theorem wf_pos {b : Blk} (h : Wf2 b) : 1 ≤ b.size ∧ b.size ≤ 2 := by rcases h with h | h <;> omega
theorem ssum_take_succ {Bs : List Blk} {i : Nat} {b : Blk} (h : Bs[i]? = some b) : ssum (Bs.take (i + 1)) = ssum (Bs.take i) + b.size := by
  rw [← take_snoc h, ssum_append]; simp [ssum]
theorem ssum_ge {Bs : List Blk} (h : ∀ b ∈ Bs, Wf2 b) : (Bs.length : Int) ≤ ssum Bs := by
  induction Bs with
  | nil => simp [ssum]
  | cons b l ih =>
    have h1 := wf_pos (h b (List.mem_cons_self ..))
    have h2 := ih fun b hb => h b (List.mem_cons_of_mem _ hb)
    simp only [ssum, List.length_cons]; omega
/-- The first i blocks are right. -/
def Good2 (Bs : List Blk) (i : Nat) : Prop := (∀ b ∈ Bs.take i, Ex b ∧ Wf2 b) ∧ Asc Bs i ∧ ssum (Bs.take i) ≤ 8
theorem good2_zero (Bs : List Blk) : Good2 Bs 0 := ⟨fun b hb => by simp at hb, fun i x y h => by omega, by simp [ssum]⟩
theorem good2_succ {Bs : List Blk} {i : Nat} {b : Blk} (H : Good2 Bs i) (hb : Bs[i]? = some b) (h1 : Ex b) (h2 : Wf2 b) (h3 : ∀ j x, j + 1 = i → Bs[j]? = some x → x.exp ≤ b.exp) (h4 : ssum (Bs.take i) + b.size ≤ 8) : Good2 Bs (i + 1) := by
  refine ⟨fun c hc => ?_, fun j x y hj hx hy => ?_, by rw [ssum_take_succ hb]; exact h4⟩
  · rw [← take_snoc hb] at hc
    rcases List.mem_append.1 hc with hc | hc
    · exact H.1 c hc
    · rw [List.mem_singleton.1 hc]; exact ⟨h1, h2⟩
  · rcases Nat.lt_or_ge (j + 1) i with h | h
    · exact H.2.1 j x y h hx hy
    · obtain rfl : j + 1 = i := by omega
      rw [hb] at hy; injection hy with hy; subst hy
      exact h3 j x rfl hx
theorem good2_all {Bs : List Blk} (H : Good2 Bs Bs.length) (h1 : 1 ≤ Bs.length) : Lst2 Bs := by
  obtain ⟨h2, h3, h4⟩ := H
  rw [List.take_length] at h2 h4
  exact ⟨h2, h3, h1, h4⟩
theorem lst2_good {Bs : List Blk} (H : Lst2 Bs) : ∀ i, i ≤ Bs.length → Good2 Bs i := by
  intro i hi
  refine ⟨fun b hb => H.1 b (List.mem_of_mem_take hb), fun j x y hj hx hy => H.2.1 j x y (by omega) hx hy, ?_⟩
  have h1 : ssum Bs = ssum (Bs.take i) + ssum (Bs.drop i) := by rw [← ssum_append, List.take_append_drop]
  have h2 := ssum_ge (Bs := Bs.drop i) fun b hb => (H.1 b (List.mem_of_mem_drop hb)).2
  have := H.2.2.2
  omega
theorem not_lst2_of {Bs : List Blk} {i : Nat} {b : Blk} (hb : Bs[i]? = some b) (h : ¬ (Ex b ∧ Wf2 b)) : ¬ Lst2 Bs := fun H => h (H.1 b (List.mem_of_getElem? hb))
theorem lst2_of_not {Bs : List Blk} {i : Nat} (hi : i ≤ Bs.length) (h : ¬ Good2 Bs i) : ¬ Lst2 Bs := fun H => h (lst2_good H i hi)
theorem consTo_ne {inc : Con → Blk → Con} {Bs : List Blk} {i : Nat} (hi : i + 1 ≤ Bs.length) : consTo inc Bs (i + 1) ≠ [] := by
  unfold consTo
  rw [List.getElem?_eq_getElem (by omega)]
  dsimp only
  unfold addC
  cases (consTo inc Bs i).getLast? with
  | none => simp
  | some c => dsimp only; split <;> simp
theorem getLast_addC {inc : Con → Blk → Con} (hinc : ∀ c b, (inc c b).exp = c.exp) {out : List Con} {b : Blk} : ∃ c, (addC inc out b).getLast? = some c ∧ c.exp = b.exp := by
  unfold addC
  split
  · split
    · rename_i c _ he; exact ⟨inc c b, by simp, by rw [hinc, he]⟩
    · exact ⟨inc ⟨b.exp, 0, 1, false, 0⟩ b, by simp, hinc _ _⟩
  · exact ⟨inc ⟨b.exp, 0, 1, false, 0⟩ b, by simp, hinc _ _⟩
/-- The last constituent has the last block's exponent. -/
theorem consTo_last {inc : Con → Blk → Con} (hinc : ∀ c b, (inc c b).exp = c.exp) {Bs : List Blk} {i : Nat} {b : Blk} (hb : Bs[i]? = some b) : ∃ c, (consTo inc Bs (i + 1)).getLast? = some c ∧ c.exp = b.exp := by
  unfold consTo
  rw [hb]
  exact getLast_addC hinc
theorem consTo_len (inc : Con → Blk → Con) (Bs : List Blk) : ∀ i, (consTo inc Bs i).length ≤ i := by
  intro i
  induction i with
  | zero => simp [consTo]
  | succ i ih =>
    unfold consTo
    split
    · unfold addC
      split
      · split
        · rw [List.length_append, List.length_dropLast]; simp; omega
        · simp; omega
      · simp
    · omega
theorem wrap_mod8 (x : Int) : IntKind.i64.wrap x % 8 = x % 8 := by
  rw [IntKind.wrap_i64]; omega
theorem get_blk {Bs : List Blk} {i : Nat} {b : Blk} (h : Bs[i]? = some b) : (Bs.map blkV)[i]? = some (blkV b) := by simp [h]
theorem get_con {Cs : List Con} {i : Nat} {c : Con} (h : Cs[i]? = some c) : (Cs.map conV)[i]? = some (conV c) := by simp [h]
theorem set_same {α : Type} {L : List α} {i : Nat} {r : α} (h : L[i]? = some r) : L.set i r = L := by
  refine List.ext_getElem? fun j => ?_
  rw [List.getElem?_set]
  split
  · rename_i hij; subst hij; rw [if_pos (List.getElem?_eq_some_iff.1 h).1, h]
  · rfl
theorem addC_new {inc : Con → Blk → Con} {out : List Con} {b : Blk} (h : ∀ c, out.getLast? = some c → c.exp ≠ b.exp) : addC inc out b = out ++ [inc ⟨b.exp, 0, 1, false, 0⟩ b] := by
  unfold addC
  cases hl : out.getLast? with
  | none =>
    have : out = [] := List.getLast?_eq_none_iff.1 hl
    subst this; rfl
  | some c => dsimp only; rw [if_neg (h c hl)]
theorem addC_old {inc : Con → Blk → Con} {out : List Con} {b : Blk} {c : Con} (h : out.getLast? = some c) (he : c.exp = b.exp) : addC inc out b = out.dropLast ++ [inc c b] := by
  unfold addC; rw [h]; dsimp only; rw [if_pos he]
theorem set_new {inc : Con → Blk → Con} {out : List Con} {b : Blk} {n : Nat} (hn : n = out.length) (h : ∀ c, out.getLast? = some c → c.exp ≠ b.exp) : (out.map conV ++ [conV ⟨b.exp, 0, 1, false, 0⟩]).set n (conV (inc ⟨b.exp, 0, 1, false, 0⟩ b)) = (addC inc out b).map conV := by
  rw [addC_new h, List.map_append, hn, ← List.length_map (f := conV) (as := out)]
  simp
theorem set_old {inc : Con → Blk → Con} {out : List Con} {b : Blk} {c : Con} {n : Nat} (hn : n + 1 = out.length) (h : out.getLast? = some c) (he : c.exp = b.exp) : (out.map conV).set n (conV (inc c b)) = (addC inc out b).map conV := by
  rw [addC_old h he]
  have : out = out.dropLast ++ [c] := by
    obtain ⟨l, hl⟩ := List.getLast?_eq_some_iff.1 h
    rw [hl]; simp
  have hl : out.dropLast.length = n := by rw [List.length_dropLast]; omega
  conv => lhs; rw [this]
  rw [List.map_append, List.map_append, ← hl, ← List.length_map (f := conV) (as := out.dropLast)]
  simp
/-- The numbers of a constituent are small. -/
def SmC (m : Int) (c : Con) : Prop := (0 ≤ c.oddity ∧ c.oddity ≤ 7) ∧ (c.sign = 1 ∨ c.sign = -1) ∧ 0 ≤ c.dim ∧ c.dim ≤ m
theorem smC_inc2 {m : Int} {c : Con} {b : Blk} (H : SmC m c) (hb : 1 ≤ b.size ∧ b.size ≤ 2) : SmC (m + 2) (inc2 c b) := by
  obtain ⟨h1, h2, h3⟩ := H
  refine ⟨?_, ?_, ?_⟩
  · simp only [inc2]; split <;> omega
  · simp only [inc2]; split <;> omega
  · simp only [inc2]; omega
theorem smC_cons {Bs : List Blk} : ∀ i, (∀ b ∈ Bs.take i, Wf2 b) → ∀ c ∈ consTo inc2 Bs i, SmC (2 * i) c := by
  intro i
  induction i with
  | zero => intro _ c hc; simp [consTo] at hc
  | succ i ih =>
    intro hw c hc
    have ih' := ih fun b hb => hw b (List.mem_of_mem_take (i := i) (by rw [List.take_take, Nat.min_eq_left (by omega)]; exact hb))
    have mono : ∀ c', SmC (2 * (i : Int)) c' → SmC (2 * ((i + 1 : Nat) : Int)) c' := fun c' ⟨a, b, d, e⟩ => ⟨a, b, d, by omega⟩
    unfold consTo at hc
    cases hb : Bs[i]? with
    | none => rw [hb] at hc; exact mono _ (ih' c hc)
    | some b =>
      rw [hb] at hc
      dsimp only at hc
      have hwb := wf_pos (hw b (List.mem_of_getElem? (i := i) (by rw [List.getElem?_take, if_pos (by omega)]; exact hb)))
      have h0 : SmC 0 ⟨b.exp, 0, 1, false, 0⟩ := ⟨⟨Int.le_refl 0, by show (0 : Int) ≤ 7; decide⟩, .inl rfl, Int.le_refl 0, Int.le_refl 0⟩
      have hn : SmC (2 * ((i + 1 : Nat) : Int)) (inc2 ⟨b.exp, 0, 1, false, 0⟩ b) := by
        obtain ⟨a1, a2, a3, a4⟩ := smC_inc2 h0 hwb
        exact ⟨a1, a2, a3, by omega⟩
      by_cases hex : ∃ c0, (consTo inc2 Bs i).getLast? = some c0 ∧ c0.exp = b.exp
      · obtain ⟨c0, hl, he⟩ := hex
        rw [addC_old hl he] at hc
        rcases List.mem_append.1 hc with hc | hc
        · exact mono _ (ih' c (List.dropLast_subset _ hc))
        · rw [List.mem_singleton.1 hc]
          obtain ⟨a1, a2, a3, a4⟩ := smC_inc2 (ih' c0 (List.mem_of_getLast? hl)) hwb
          exact ⟨a1, a2, a3, by omega⟩
      · rw [addC_new fun c0 hl he => hex ⟨c0, hl, he⟩] at hc
        rcases List.mem_append.1 hc with hc | hc
        · exact mono _ (ih' c hc)
        · rw [List.mem_singleton.1 hc]; exact hn
theorem good2_len {Bs : List Blk} {i : Nat} (H : Good2 Bs i) (hi : i ≤ Bs.length) : i ≤ 8 := by
  have := ssum_ge (Bs := Bs.take i) fun b hb => (H.1 b hb).2
  rw [List.length_take, Nat.min_eq_left hi] at this
  have := H.2.2
  omega
theorem consTo_succ {inc : Con → Blk → Con} {Bs : List Blk} {i : Nat} {b : Blk} (hb : Bs[i]? = some b) : consTo inc Bs (i + 1) = addC inc (consTo inc Bs i) b := by
  conv => lhs; unfold consTo
  rw [hb]
theorem cons_new {inc : Con → Blk → Con} {Bs : List Blk} {i : Nat} {b : Blk} (hinc : ∀ c b, (inc c b).exp = c.exp) (h : i = 0 ∨ ∃ b1, 0 < i ∧ Bs[i - 1]? = some b1 ∧ b1.exp ≠ b.exp) : ∀ c, (consTo inc Bs i).getLast? = some c → c.exp ≠ b.exp := by
  intro c hc
  rcases h with rfl | ⟨b1, hi, hb1, hne⟩
  · simp [consTo] at hc
  · obtain ⟨c', hc', he⟩ := consTo_last hinc hb1
    rw [show i - 1 + 1 = i by omega, hc] at hc'
    injection hc' with hc'; subst hc'
    rw [he]; exact hne
theorem cons_old {inc : Con → Blk → Con} {Bs : List Blk} {i : Nat} {b b1 : Blk} (hinc : ∀ c b, (inc c b).exp = c.exp) (hi : 0 < i) (hb1 : Bs[i - 1]? = some b1) (he : b1.exp = b.exp) : ∃ c, (consTo inc Bs i).getLast? = some c ∧ c.exp = b.exp := by
  obtain ⟨c', hc', h1⟩ := consTo_last hinc hb1
  rw [show i - 1 + 1 = i by omega] at hc'
  exact ⟨c', hc', by omega⟩
theorem det_wrap (b : Blk) : IntKind.i64.wrap (IntKind.i64.wrap (b.a * b.c) - IntKind.i64.wrap (b.b * b.b)) % 8 = (b.a * b.c - b.b * b.b) % 8 := by
  rw [wrap_mod8, IntKind.wrap_i64, IntKind.wrap_i64]; omega
theorem inc2_one {c : Con} {b : Blk} {s1 : Int} (h1 : b.size = 1) (hs : s1 = if b.a % 8 = 3 ∨ b.a % 8 = 5 then -c.sign else c.sign) : conV (inc2 c b) = [.int .i64 c.exp, .int .i64 (c.dim + b.size), .int .i64 s1, .bool true, .int .i64 ((c.oddity + b.a % 8) % 8)] := by
  subst hs
  have : (c.oddity + b.a % 8) % 8 = (c.oddity + b.a) % 8 := by omega
  simp [conV, inc2, detB, h1, this]
theorem inc2_two {c : Con} {b : Blk} {s1 : Int} (h1 : b.size ≠ 1) (hs : s1 = if (b.a * b.c - b.b * b.b) % 8 = 3 ∨ (b.a * b.c - b.b * b.b) % 8 = 5 then -c.sign else c.sign) : conV (inc2 c b) = [.int .i64 c.exp, .int .i64 (c.dim + b.size), .int .i64 s1, .bool c.odd, .int .i64 c.oddity] := by
  subst hs
  simp [conV, inc2, detB, h1]
end Go.QF
