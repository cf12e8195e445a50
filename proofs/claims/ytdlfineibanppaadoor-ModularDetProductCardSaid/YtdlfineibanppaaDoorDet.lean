/-
  Plain: determinants by expansion along the first column; row steps, products, transposes. No condition.
-/
import Derived.Test.YtdlfineibanppaaDoorRefS
import Derived.Test.YtdlfineibanppaaDoorLin
import Derived.Test.YtdlfineibanppaaDoorUni
namespace Go.QF
set_option linter.unusedVariables false

def skp (i a : Nat) : Nat := if a < i then a else a + 1
def usk (i r : Nat) : Nat := if r < i then r else r - 1
def sg (i : Nat) : Int := if i % 2 = 0 then 1 else -1
theorem sg_succ (i : Nat) : sg (i + 1) = -sg i := by unfold sg; split <;> split <;> first | omega | rfl
theorem sg_add (i j : Nat) : sg (i + j) = sg i * sg j := by
  induction j with
  | zero => simp [sg]
  | succ j ih => rw [← Nat.add_assoc, sg_succ, ih, sg_succ]; grind
theorem sg_sq (i : Nat) : sg i * sg i = 1 := by unfold sg; split <;> rfl
theorem skp_ne (i a : Nat) : skp i a ≠ i := by unfold skp; split <;> omega
theorem skp_lt {i a n : Nat} (ha : a < n) : skp i a < n + 1 := by unfold skp; split <;> omega
theorem skp_usk {i r : Nat} (h : r ≠ i) : skp i (usk i r) = r := by
  unfold usk
  split <;> (unfold skp; split <;> omega)
theorem skp_inj {i a r : Nat} (h : skp i a = r) : a = usk i r := by unfold skp at h; unfold usk; split at h <;> split <;> omega
theorem usk_lt {i r n : Nat} (h : r ≠ i) (hi : i < n + 1) (hr : r < n + 1) : usk i r < n := by unfold usk; split <;> omega

theorem setF_app (F : Nat → Nat → Int) (a : Nat) (g : Nat → Int) (i j : Nat) : setF F a g i j = if i = a then g j else F i j := by
  unfold setF; split <;> rfl
theorem swapF_app (F : Nat → Nat → Int) (a b i j : Nat) : swapF F a b i j = if i = b then F a j else if i = a then F b j else F i j := by
  unfold swapF; rw [setF_app, setF_app]
def minor0 (i : Nat) (F : Nat → Nat → Int) : Nat → Nat → Int := fun a b => F (skp i a) (b + 1)
def det : Nat → (Nat → Nat → Int) → Int
  | 0, _ => 1
  | n + 1, F => psum (fun i => sg i * F i 0 * det n (minor0 i F)) (n + 1)
theorem det_congr : ∀ {n : Nat} {F G : Nat → Nat → Int}, (∀ i j, i < n → j < n → F i j = G i j) → det n F = det n G := by
  intro n
  induction n with
  | zero => intro _ _ _; rfl
  | succ n ih =>
    intro F G h
    refine psum_congr fun i hi => ?_
    rw [h i 0 hi (by omega), ih (F := minor0 i F) (G := minor0 i G) fun a b ha hb => h _ _ (skp_lt ha) (by omega)]
theorem minor0_set {i r : Nat} {F : Nat → Nat → Int} {g : Nat → Int} (h : r ≠ i) : minor0 i (setF F r g) = setF (minor0 i F) (usk i r) (fun b => g (b + 1)) := by
  funext a b
  unfold minor0 setF
  by_cases ha : skp i a = r
  · rw [if_pos ha, if_pos (skp_inj ha)]
  · rw [if_neg ha, if_neg (fun he => ha (by rw [he, skp_usk h]))]
theorem minor0_set_self {i : Nat} {F : Nat → Nat → Int} {g : Nat → Int} : minor0 i (setF F i g) = minor0 i F := by
  funext a b
  unfold minor0
  rw [setF_ne _ _ (skp_ne i a)]
theorem det_lin : ∀ {n : Nat} {F : Nat → Nat → Int} {r : Nat} (u v : Nat → Int) (c d : Int), r < n → det n (setF F r fun q => c * u q + d * v q) = c * det n (setF F r u) + d * det n (setF F r v) := by
  intro n
  induction n with
  | zero => intro _ _ _ _ _ _ h; omega
  | succ n ih =>
    intro F r u v c d hr
    simp only [det]
    rw [← psum_mul, ← psum_mul, ← psum_add]
    refine psum_congr fun i hi => ?_
    by_cases h : r = i
    · subst h
      simp only [minor0_set_self, setF_same]
      grind
    · rw [minor0_set h, minor0_set h, minor0_set h, setF_ne _ _ (Ne.symm h), setF_ne _ _ (Ne.symm h), setF_ne _ _ (Ne.symm h), ih (fun b => u (b + 1)) (fun b => v (b + 1)) c d (usk_lt h hi hr)]
      grind
theorem psum_two {f : Nat → Int} {n r s : Nat} (hr : r < n) (hs : s < n) (hrs : r ≠ s) (h : ∀ i, i < n → i ≠ r → i ≠ s → f i = 0) : psum f n = f r + f s := by
  have h1 : psum f n = psum (fun i => (if i = r then f r else 0) + (if i = s then f s else 0)) n := psum_congr fun i hi => by
    by_cases h1 : i = r
    · subst h1; rw [if_pos rfl, if_neg hrs]; omega
    · rw [if_neg h1]
      by_cases h2 : i = s
      · subst h2; rw [if_pos rfl]; omega
      · rw [if_neg h2, h i hi h1 h2]; rfl
  rw [h1, psum_add, psum_one (f := fun i => if i = r then f r else 0) hr (fun i hi => if_neg hi), psum_one (f := fun i => if i = s then f s else 0) hs (fun i hi => if_neg hi), if_pos rfl, if_pos rfl]
theorem det_adj : ∀ {n : Nat} {F : Nat → Nat → Int} {r : Nat}, r + 1 < n → (∀ q, q < n → F r q = F (r + 1) q) → det n F = 0 := by
  intro n
  induction n with
  | zero => intro _ _ h; omega
  | succ n ih =>
    intro F r hr h
    simp only [det]
    rw [psum_two (r := r) (s := r + 1) (by omega) (by omega) (by omega)]
    · have : det n (minor0 r F) = det n (minor0 (r + 1) F) := det_congr fun a b ha hb => by
        unfold minor0 skp
        by_cases h1 : a < r
        · rw [if_pos h1, if_pos (by omega)]
        · rw [if_neg h1]
          by_cases h2 : a < r + 1
          · rw [if_pos h2]
            obtain rfl : a = r := by omega
            exact (h (b + 1) (by omega)).symm
          · rw [if_neg h2]
      rw [this, sg_succ, h 0 (by omega)]
      grind
    · intro i hi h1 h2
      rcases Nat.lt_or_ge i r with hlt | hge
      · rw [ih (F := minor0 i F) (r := r - 1) (by omega)]
        · simp
        · intro q hq
          unfold minor0 skp
          rw [if_neg (by omega), if_neg (by omega), show r - 1 + 1 = r by omega]
          exact h (q + 1) (by omega)
      · rw [ih (F := minor0 i F) (r := r) (by omega)]
        · simp
        · intro q hq
          unfold minor0 skp
          rw [if_pos (by omega), if_pos (by omega)]
          exact h (q + 1) (by omega)
theorem setF_comm {F : Nat → Nat → Int} {a b : Nat} (h : a ≠ b) (u v : Nat → Int) : setF (setF F a u) b v = setF (setF F b v) a u := by
  funext k
  unfold setF
  by_cases h1 : k = a <;> by_cases h2 : k = b
  · omega
  · simp [h1, h]
  · simp [h2, Ne.symm h]
  · simp [h1, h2]
/-- An alternating function changes its sign. -/
theorem alt_swap {n : Nat} {F : Nat → Nat → Int} {a b : Nat} (ha : a < n) (hb : b < n) (hab : a ≠ b) (h0 : ∀ G : Nat → Nat → Int, G a = G b → det n G = 0) : det n (swapF F a b) = -det n F := by
  have key : ∀ u v : Nat → Int, det n (setF (setF F a u) b v) = -det n (setF (setF F a v) b u) := by
    intro u v
    have h1 := h0 (setF (setF F a fun q => 1 * u q + 1 * v q) b fun q => 1 * u q + 1 * v q) (by rw [setF_same, setF_ne _ _ hab, setF_same])
    rw [det_lin u v 1 1 hb, setF_comm hab, setF_comm hab, det_lin u v 1 1 ha, det_lin u v 1 1 ha, setF_comm (Ne.symm hab), setF_comm (Ne.symm hab), setF_comm (Ne.symm hab), setF_comm (Ne.symm hab)] at h1
    have h2 := h0 (setF (setF F a u) b u) (by rw [setF_same, setF_ne _ _ hab, setF_same])
    have h3 := h0 (setF (setF F a v) b v) (by rw [setF_same, setF_ne _ _ hab, setF_same])
    omega
  unfold swapF
  rw [key (F b) (F a), setF_self]
  rw [show setF F b (F b) = F from setF_self F b]
theorem det_eqr : ∀ {d n : Nat} {F : Nat → Nat → Int} {a : Nat}, a + d + 1 < n → F a = F (a + d + 1) → det n F = 0 := by
  intro d
  induction d with
  | zero => intro n F a hn h; exact det_adj hn fun q _ => by rw [h]
  | succ d ih =>
    intro n F a hn h
    have h1 := alt_swap (n := n) (F := F) (a := a + d + 1) (b := a + d + 1 + 1) (by omega) (by omega) (by omega) fun G hG => det_adj (r := a + d + 1) (by omega) fun q _ => congrFun hG q
    have h2 := ih (n := n) (F := swapF F (a + d + 1) (a + d + 1 + 1)) (a := a) (by omega) (by rw [swapF_at2, swapF_ne _ (by omega) (by omega), h]; rfl)
    omega
theorem det_eq_rows {n : Nat} {F : Nat → Nat → Int} {a b : Nat} (ha : a < n) (hb : b < n) (hab : a ≠ b) (h : F a = F b) : det n F = 0 := by
  rcases Nat.lt_or_ge a b with hlt | hge
  · exact det_eqr (d := b - a - 1) (a := a) (by omega) (by rw [h]; congr 1; omega)
  · exact det_eqr (d := a - b - 1) (a := b) (by omega) (by rw [← h]; congr 1; omega)
theorem det_swap {n : Nat} {F : Nat → Nat → Int} {a b : Nat} (ha : a < n) (hb : b < n) (hab : a ≠ b) : det n (swapF F a b) = -det n F :=
  alt_swap ha hb hab fun _ h => det_eq_rows ha hb hab h
theorem det_scale {n : Nat} {F : Nat → Nat → Int} {r : Nat} (u : Nat → Int) (c : Int) (hr : r < n) : det n (setF F r fun q => c * u q) = c * det n (setF F r u) := by
  have := det_lin (F := F) u (fun _ => 0) c 0 hr
  rw [show (fun q => c * u q + 0 * (fun _ : Nat => (0 : Int)) q) = fun q => c * u q from by funext q; omega] at this
  rw [this]; omega
theorem det_zero_row {n : Nat} {F : Nat → Nat → Int} {r : Nat} (hr : r < n) (h : ∀ q, q < n → F r q = 0) : det n F = 0 := by
  have := det_scale (F := F) (F r) 0 hr
  rw [Int.zero_mul] at this
  rw [← this]
  exact det_congr fun i j hi hj => by
    unfold setF
    split
    · rename_i he; subst he; rw [h j hj]; simp
    · rfl
theorem det_add_row {n : Nat} {F : Nat → Nat → Int} {a b : Nat} (ha : a < n) (hb : b < n) (hab : a ≠ b) (q : Int) : det n (setF F a fun x => F a x + q * F b x) = det n F := by
  have := det_lin (F := F) (F a) (F b) 1 q ha
  rw [setF_self, det_eq_rows (F := setF F a (F b)) ha hb hab (by rw [setF_same, setF_ne _ _ (Ne.symm hab)])] at this
  rw [show (fun x => F a x + q * F b x) = fun x => 1 * F a x + q * F b x from by funext x; omega, this]; omega
theorem det_psum {n : Nat} {F : Nat → Nat → Int} {r : Nat} (hr : r < n) (y : Nat → Int) (u : Nat → Nat → Int) : ∀ t, det n (setF F r fun q => psum (fun k => y k * u k q) t) = psum (fun k => y k * det n (setF F r (u k))) t := by
  intro t
  induction t with
  | zero => exact det_zero_row hr fun q _ => by rw [setF_same]; rfl
  | succ t ih =>
    have := det_lin (F := F) (fun q => psum (fun k => y k * u k q) t) (u t) 1 (y t) hr
    simp only [psum]
    rw [← ih, show (fun q => psum (fun k => y k * u k q) t + y t * u t q) = fun q => 1 * psum (fun k => y k * u k q) t + y t * u t q from by funext q; omega, this]; omega
/-- A row that is a combination of the rows. -/
theorem det_comb {n : Nat} {F : Nat → Nat → Int} {r : Nat} (hr : r < n) (y : Nat → Int) : det n (setF F r fun q => psum (fun k => y k * F k q) n) = y r * det n F := by
  rw [det_psum hr y F n, psum_congr (g := fun k => if k = r then y r * det n F else 0), psum_one hr (fun i hi => if_neg hi), if_pos rfl]
  intro k hk
  by_cases h : k = r
  · subst h; rw [if_pos rfl, setF_self]
  · rw [if_neg h, det_eq_rows (F := setF F r (F k)) hr hk (Ne.symm h) (by rw [setF_same, setF_ne _ _ h])]; simp

/-! ### triangular matrices, row steps -/
def dprod (f : Nat → Int) : Nat → Int
  | 0 => 1
  | n + 1 => dprod f n * f n
theorem dprod_shift (f : Nat → Int) (n : Nat) : dprod f (n + 1) = f 0 * dprod (fun i => f (i + 1)) n := by
  induction n with
  | zero => simp [dprod]
  | succ n ih => rw [dprod, ih, dprod]; grind
theorem dprod_congr {f g : Nat → Int} {n : Nat} (h : ∀ i, i < n → f i = g i) : dprod f n = dprod g n := by
  induction n with
  | zero => rfl
  | succ n ih => rw [dprod, dprod, ih (fun i hi => h i (by omega)), h n (by omega)]
theorem det_upper : ∀ {n : Nat} {F : Nat → Nat → Int}, Zc n F n → det n F = dprod (fun i => F i i) n := by
  intro n
  induction n with
  | zero => intro _ _; rfl
  | succ n ih =>
    intro F h
    rw [dprod_shift, det, psum_congr (g := fun i => if i = 0 then F 0 0 * det n (minor0 0 F) else 0), psum_one (a := 0) (by omega) (fun i hi => if_neg hi), if_pos rfl]
    · rw [ih (F := minor0 0 F) (fun c' i h1 h2 h3 => by unfold minor0 skp; rw [if_neg (by omega)]; exact h (c' + 1) (i + 1) (by omega) (by omega) (by omega))]
      rfl
    · intro i hi
      by_cases h0 : i = 0
      · subst h0; simp [sg]
      · rw [if_neg h0, h 0 i (by omega) (by omega) hi]; simp
theorem det_lower : ∀ {n : Nat} {F : Nat → Nat → Int}, (∀ i j, i < j → j < n → F i j = 0) → det n F = dprod (fun i => F i i) n := by
  intro n
  induction n with
  | zero => intro _ _; rfl
  | succ n ih =>
    intro F h
    rw [dprod_shift, det, psum_congr (g := fun i => if i = 0 then F 0 0 * det n (minor0 0 F) else 0), psum_one (a := 0) (by omega) (fun i hi => if_neg hi), if_pos rfl]
    · rw [ih (F := minor0 0 F) (fun i j h1 h2 => by unfold minor0 skp; rw [if_neg (by omega)]; exact h (i + 1) (j + 1) (by omega) (by omega))]
      rfl
    · intro i hi
      by_cases h0 : i = 0
      · subst h0; simp [sg]
      · rw [if_neg h0, det_zero_row (F := minor0 i F) (r := 0) (by omega) (fun q hq => by unfold minor0 skp; rw [if_pos (by omega)]; exact h 0 (q + 1) (by omega) (by omega))]; simp
def estep (F : Nat → Nat → Int) (c i : Nat) (q : Int) : Nat → Nat → Int := swapF (setF F c fun x => F c x + -q * F i x) c i
theorem estep_i (F : Nat → Nat → Int) {c i : Nat} (q : Int) : estep F c i q i = fun x => F c x + -q * F i x := by
  unfold estep; rw [swapF_at, setF_same]
theorem estep_c (F : Nat → Nat → Int) {c i : Nat} (h : c ≠ i) (q : Int) : estep F c i q c = F i := by
  unfold estep; rw [swapF_at2, setF_ne _ _ (Ne.symm h)]
theorem estep_ne (F : Nat → Nat → Int) {c i k : Nat} (hc : k ≠ c) (hi : k ≠ i) (q : Int) : estep F c i q k = F k := by
  unfold estep; rw [swapF_ne _ hc hi, setF_ne _ _ hc]
theorem zc_estep {n : Nat} {F : Nat → Nat → Int} {c i : Nat} {q : Int} (H : Zc n F c) (hci : c < i) (hi : i < n) : Zc n (estep F c i q) c := by
  intro c' k h1 h2 h3
  by_cases hk : k = i
  · subst hk
    rw [estep_i]
    simp [H c' c h1 h1 (by omega), H c' k h1 h2 h3]
  · by_cases hk2 : k = c
    · subst hk2
      rw [estep_c F hk]; exact H c' i h1 (by omega) hi
    · rw [estep_ne F hk2 hk]; exact H c' k h1 h2 h3
theorem zi_estep {F : Nat → Nat → Int} {c i : Nat} {q : Int} (H : Zi F c i) : Zi (estep F c i q) c i := by
  intro k h1 h2
  rw [estep_ne F (by omega) (by omega)]; exact H k h1 h2
/-- Every matrix becomes triangular by row steps. -/
theorem row_ind {n : Nat} {P : (Nat → Nat → Int) → Prop} (hadd : ∀ F a b q, a < n → b < n → a ≠ b → P (setF F a fun x => F a x + q * F b x) → P F) (hswap : ∀ F a b, a < n → b < n → a ≠ b → P (swapF F a b) → P F) (htri : ∀ F, Zc n F n → P F) : ∀ F, P F := by
  have key : ∀ d c, c + d = n → ∀ F, Zc n F c → P F := by
    intro d
    induction d with
    | zero => intro c hc F hF; obtain rfl : c = n := by omega
              exact htri F hF
    | succ d ih =>
      intro c hc
      have inner : ∀ e i, i + e = n → c < i → ∀ F, Zc n F c → Zi F c i → P F := by
        intro e
        induction e with
        | zero => intro i hi hci F hF hz; obtain rfl : i = n := by omega
                  exact ih (c + 1) (by omega) F (zc_succ hF hz)
        | succ e ihe =>
          intro i hi hci
          have strong : ∀ k F, (F i c).natAbs = k → Zc n F c → Zi F c i → P F := by
            intro k
            induction k using Nat.strongRecOn with
            | _ k ihk =>
              intro F hk hF hz
              by_cases h0 : F i c = 0
              · exact ihe (i + 1) (by omega) (by omega) F hF (zi_succ hz h0)
              · refine hadd F c i (-(F c c / F i c)) (by omega) (by omega) (by omega) (hswap _ c i (by omega) (by omega) (by omega) ?_)
                refine ihk ((estep F c i (F c c / F i c)) i c).natAbs ?_ (estep F c i (F c c / F i c)) rfl (zc_estep hF hci (by omega)) (zi_estep hz)
                rw [estep_i, ← hk]
                show (F c c + -(F c c / F i c) * F i c).natAbs < _
                have h1 := Int.mul_ediv_add_emod (F c c) (F i c)
                have h2 : F c c + -(F c c / F i c) * F i c = F c c % F i c := by grind
                rw [h2]
                have h3 := Int.emod_nonneg (F c c) h0
                have h4 := Int.emod_lt (F c c) h0
                omega
          exact fun F => strong _ F rfl
      exact fun F hF => inner (n - (c + 1)) (c + 1) (by omega) (by omega) F hF fun k h1 h2 => by omega
  exact fun F => key n 0 (by omega) F fun c' i h => by omega
/-! ### products -/
def mulF (n : Nat) (A B : Nat → Nat → Int) : Nat → Nat → Int := fun i j => psum (fun k => A i k * B k j) n
theorem mulF_add {n : Nat} {A B : Nat → Nat → Int} {a b : Nat} {q : Int} : mulF n (setF A a fun x => A a x + q * A b x) B = setF (mulF n A B) a fun x => mulF n A B a x + q * mulF n A B b x := by
  funext i j
  unfold mulF setF
  by_cases h : i = a
  · simp only [if_pos h]
    rw [← psum_mul, ← psum_add]
    exact psum_congr fun k _ => by grind
  · simp only [if_neg h]
theorem mulF_set {n : Nat} {A B : Nat → Nat → Int} {a : Nat} {u : Nat → Int} : mulF n (setF A a u) B = setF (mulF n A B) a fun x => psum (fun k => u k * B k x) n := by
  funext i j
  unfold mulF setF
  by_cases h : i = a
  · simp only [if_pos h]
  · simp only [if_neg h]
theorem mulF_swap {n : Nat} {A B : Nat → Nat → Int} {a b : Nat} : mulF n (swapF A a b) B = swapF (mulF n A B) a b := by
  unfold swapF
  rw [mulF_set, mulF_set]
  rfl
theorem det_mul {n : Nat} (A B : Nat → Nat → Int) : det n (mulF n A B) = det n A * det n B := by
  refine row_ind (n := n) (P := fun A => det n (mulF n A B) = det n A * det n B) (fun F a b q ha hb hab h => ?_) (fun F a b ha hb hab h => ?_) (fun F hF => ?_) A
  · rw [mulF_add, det_add_row ha hb hab, det_add_row ha hb hab] at h; exact h
  · rw [mulF_swap, det_swap ha hb hab, det_swap ha hb hab] at h
    rw [Int.neg_mul] at h; omega
  · rw [det_upper hF]
    have key : ∀ j, j ≤ n → det n (fun i => if i < j then mulF n F B i else B i) = dprod (fun i => F i i) j * det n B := by
      intro j
      induction j with
      | zero => intro _; simp [dprod]
      | succ j ih =>
        intro hj
        rw [dprod, Int.mul_assoc, Int.mul_comm (F j j), ← Int.mul_assoc, ← ih (by omega), Int.mul_comm]
        rw [← det_comb (F := fun i => if i < j then mulF n F B i else B i) (r := j) (by omega) (F j)]
        refine det_congr fun i q hi hq => ?_
        unfold setF
        by_cases h : i = j
        · subst h
          simp only [if_pos (Nat.lt_succ_self i), if_pos]
          unfold mulF
          refine psum_congr fun k hk => ?_
          by_cases hlt : k < i
          · rw [hF k i (by omega) hlt hi]; simp
          · rw [if_neg hlt]
        · simp only [if_neg h]
          by_cases hlt : i < j
          · rw [if_pos hlt, if_pos (by omega)]
          · rw [if_neg hlt, if_neg (by omega)]
    rw [← key n (Nat.le_refl _)]
    exact det_congr fun i j hi hj => by rw [if_pos hi]
def trF (F : Nat → Nat → Int) : Nat → Nat → Int := fun i j => F j i
theorem det_id (n : Nat) : det n dl = 1 := by
  rw [det_upper (fun c' i h1 h2 h3 => by unfold dl; rw [if_neg (by omega)])]
  have : ∀ k, dprod (fun i => dl i i) k = 1 := by
    intro k
    induction k with
    | zero => rfl
    | succ k ih => rw [dprod, ih]; simp [dl]
  exact this n
theorem mul_dl {n : Nat} {F : Nat → Nat → Int} {i j : Nat} (hj : j < n) : psum (fun k => F i k * dl k j) n = F i j := by
  rw [psum_one hj (fun k hk => by unfold dl; rw [if_neg hk]; simp)]; simp [dl]
/-- A column step is a product with a changed unit matrix. -/
theorem det_tr_set {n : Nat} {F : Nat → Nat → Int} {a : Nat} (y : Nat → Int) (ha : a < n) : det n (trF (setF F a fun x => psum (fun k => y k * F k x) n)) = det n (trF F) * det n (trF (setF dl a y)) := by
  rw [← det_mul]
  refine det_congr fun i j hi hj => ?_
  unfold mulF trF setF
  by_cases h : j = a
  · simp only [if_pos h]
    exact psum_congr fun k _ => by grind
  · simp only [if_neg h]
    rw [psum_one hj (fun k hk => by unfold dl; rw [if_neg (Ne.symm hk)]; simp)]
    simp [dl]
theorem det_tr {n : Nat} (F : Nat → Nat → Int) : det n (trF F) = det n F := by
  refine row_ind (n := n) (P := fun F => det n (trF F) = det n F) (fun F a b q ha hb hab h => ?_) (fun F a b ha hb hab h => ?_) (fun F hF => ?_) F
  · rw [det_add_row ha hb hab] at h
    rw [← h]
    have h1 := det_tr_set (n := n) (F := F) (a := a) (fun k => dl k a + q * dl k b) ha
    have h2 : det n (trF (setF dl a fun k => dl k a + q * dl k b)) = 1 := by
      rw [← det_id n, ← det_add_row (F := dl) hb ha (Ne.symm hab) q]
      refine det_congr fun i j hi hj => ?_
      clear h1 h
      simp only [trF, setF_app, dl]
      grind
    rw [h2, Int.mul_one] at h1
    rw [← h1]
    refine det_congr fun i j hi hj => ?_
    unfold trF setF
    by_cases hja : j = a
    · simp only [if_pos hja]
      rw [psum_congr (g := fun k => F k i * dl k a + q * (F k i * dl k b)) (fun k _ => by grind), psum_add, psum_mul]
      rw [psum_one (a := a) ha (fun k hk => by unfold dl; rw [if_neg hk]; simp), psum_one (a := b) hb (fun k hk => by unfold dl; rw [if_neg hk]; simp)]
      simp [dl]
    · simp only [if_neg hja]
  · rw [det_swap ha hb hab] at h
    have h1 : det n (trF (swapF F a b)) = det n (trF F) * det n (swapF dl a b) := by
      rw [← det_mul]
      refine det_congr fun i j hi hj => ?_
      unfold mulF trF
      have hsym : ∀ k, swapF dl a b k j = if j = a then dl k b else if j = b then dl k a else dl k j := by
        intro k
        simp only [swapF_app, dl]
        grind
      rw [psum_congr (g := fun k => F k i * dl k (if j = a then b else if j = b then a else j)) (fun k _ => by rw [hsym]; grind)]
      rw [psum_one (a := if j = a then b else if j = b then a else j) (by grind) (fun k hk => by unfold dl; rw [if_neg hk]; simp)]
      simp only [dl, if_pos, Int.mul_one]
      by_cases h3 : j = a
      · subst h3; rw [swapF_at2, if_pos rfl]
      · rw [if_neg h3]
        by_cases h4 : j = b
        · subst h4; rw [swapF_at, if_pos rfl]
        · rw [swapF_ne _ h3 h4, if_neg h4]
    rw [det_swap ha hb hab, det_id] at h1
    omega
  · rw [det_upper hF, det_lower (F := trF F) (fun i j h1 h2 => hF i j (by omega) h1 h2)]
    rfl
end Go.QF
