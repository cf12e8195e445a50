/-
  Symbols and primes at the eight primes of the scene, by evaluation.
-/
import Derived.Test.YtccgaemmdikhcaaDoorAw24
import Derived.Test.YtccgaemmdikhcaaDoorJoS
namespace Go.Proofs.YtccgaemmdikhcaaDoor
open Go Go.QF
set_option linter.unusedVariables false
set_option maxRecDepth 100000
def fnsK : List FuncId := [27, 46, 47]
def fnsL : List FuncId := [17, 23, 40]
def fnsO : List FuncId := [38, 61, 76]
def fnsP : List FuncId := [19]
theorem fnsK_ok : allOk Tryd.prog fnsK = true := by kernel_rfl
theorem fnsL_ok : allOk Tryd.prog fnsL = true := by kernel_rfl
theorem fnsO_ok : allOk Tryd.prog fnsO = true := by kernel_rfl
theorem fnsP_ok : allOk Tryd.prog fnsP = true := by kernel_rfl
def isTup (s : Int) : Option (V × Hp) → Bool
  | some (.t [.i .i64 n, .i _ _], _) => ieq n s
  | _ => false
def isInt (s : Int) : Option (V × Hp) → Bool
  | some (.i .i64 n, _) => ieq n s
  | _ => false
noncomputable def chkK (p a : Nat) : Bool := isTup (leg a p) (callE Tryd.prog eqR fnsK [] 200 10 27 [.i .i64 (.ofNat a), .i .i64 (.ofNat p)] [])
noncomputable def chkL (p a : Nat) : Bool := isInt (leg a p) (callE Tryd.prog eqR fnsL [] 200 10 23 [.i .i64 (.ofNat a), .i .i64 (.ofNat p)] [])
noncomputable def chkO (p : Nat) : Bool := isT (callE Tryd.prog eqR fnsO tabG 200 10 38 [.i .i64 (.ofNat p)] tabB)
noncomputable def chkP (k : Nat) : Bool := isInt (p8.getD (k % 8) 0) (callE Tryd.prog eqR fnsP [] 200 10 19 [.i .u8 (.ofNat k)] [])
theorem allK : (p8.all fun p => (List.range p).all fun a => chkK p a) = true := by kernel_rfl
theorem allL : (p8.all fun p => (List.range p).all fun a => chkL p a) = true := by kernel_rfl
theorem allO : (p8.all fun p => chkO p) = true := by kernel_rfl
theorem allP : ((List.range 256).all fun k => chkP k) = true := by kernel_rfl
theorem isTup_ok {s : Int} {o : Option (V × Hp)} (h : isTup s o = true) : ∃ k n bs, o = some (.t [.i .i64 s, .i k n], bs) := by
  unfold isTup at h
  split at h
  · rw [ieq_ok h]; exact ⟨_, _, _, rfl⟩
  · cases h
theorem isInt_ok {s : Int} {o : Option (V × Hp)} (h : isInt s o = true) : ∃ bs, o = some (.i .i64 s, bs) := by
  unfold isInt at h
  split at h
  · rw [ieq_ok h]; exact ⟨_, rfl⟩
  · cases h
theorem Kron_ok {p a : Nat} (hp : p ∈ p8) (ha : a < p) (h : Heap) : CallH Tryd.prog 27 #[.int .i64 (a : Int), .int .i64 (p : Int)] h fun x h' => Ext h h' ∧ ∃ r, x = .tuple #[.int .i64 (leg a p), r] := by
  have hc := List.all_eq_true.1 (List.all_eq_true.1 allK p hp) a (List.mem_range.2 ha)
  obtain ⟨k, n, bs, hb⟩ := isTup_ok hc
  refine (callE_all mx eqR_ok fnsK_ok h 200 10 _ _ _ _ _ hb [] h [.int .i64 (a : Int), .int .i64 (p : Int)] (hr_nil h) ⟨_, _, rfl, rfl, _, _, rfl, rfl, rfl⟩).mono fun v h' hk => ?_
  obtain ⟨m', _, hR, vs, ⟨_, _, rfl, h1, _, _, rfl, h2, h3⟩, rfl⟩ := hk
  cases h1; cases h2; cases h3
  exact ⟨hR.ext, _, rfl⟩
theorem Leg_ok {p a : Nat} (hp : p ∈ p8) (ha : a < p) (h : Heap) : CallH Tryd.prog 23 #[.int .i64 (a : Int), .int .i64 (p : Int)] h fun x h' => Ext h h' ∧ x = .int .i64 (leg a p) := by
  have hc := List.all_eq_true.1 (List.all_eq_true.1 allL p hp) a (List.mem_range.2 ha)
  obtain ⟨bs, hb⟩ := isInt_ok hc
  refine (callE_all mx eqR_ok fnsL_ok h 200 10 _ _ _ _ _ hb [] h [.int .i64 (a : Int), .int .i64 (p : Int)] (hr_nil h) ⟨_, _, rfl, rfl, _, _, rfl, rfl, rfl⟩).mono fun v h' hk => ?_
  obtain ⟨m', _, hR, h1⟩ := hk
  exact ⟨hR.ext, h1⟩
theorem odd_ok {p : Nat} (hp : p ∈ p8) {h : Heap} (HO : OffH h) : CallH Tryd.prog 38 #[.int .i64 (p : Int)] h fun x h' => Ext h h' ∧ x = .bool true := by
  obtain ⟨bs, hb⟩ := isT_ok (List.all_eq_true.1 allO p hp)
  refine (callE_all mx eqR_ok fnsO_ok h 200 10 _ _ _ _ _ hb _ h [.int .i64 (p : Int)] (hr_tab HO) ⟨_, _, rfl, rfl, rfl⟩).mono fun v h' hk => ?_
  obtain ⟨m', _, hR, h1⟩ := hk
  exact ⟨hR.ext, h1⟩
theorem OddPrime_ok {k : Nat} (hk : k < 256) (h : Heap) : CallH Tryd.prog 19 #[.int .u8 (k : Int)] h fun x h' => Ext h h' ∧ ∃ p ∈ p8, x = .int .i64 ((p : Nat) : Int) := by
  obtain ⟨bs, hb⟩ := isInt_ok (List.all_eq_true.1 allP k (List.mem_range.2 hk))
  refine (callE_all mx eqR_ok fnsP_ok h 200 10 _ _ _ _ _ hb [] h [.int .u8 (k : Int)] (hr_nil h) ⟨_, _, rfl, rfl, rfl⟩).mono fun v h' hk => ?_
  obtain ⟨m', _, hR, h1⟩ := hk
  refine ⟨hR.ext, p8.getD (k % 8) 0, ?_, h1⟩
  have hl : k % 8 < p8.length := Nat.mod_lt _ (by decide)
  rw [List.getD_eq_getElem?_getD, List.getElem?_eq_getElem hl]
  exact List.getElem_mem hl
end Go.Proofs.YtccgaemmdikhcaaDoor
