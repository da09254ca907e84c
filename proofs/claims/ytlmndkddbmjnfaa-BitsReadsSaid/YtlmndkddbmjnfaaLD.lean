/- Own work of the session: part LD of a proof that the program's functions do what the statement says (a symbolic executor, contracts of the functions, plain laws). -/
import Derived.Test.YtlmndkddbmjnfaaLC
import Derived.Test.YtlmndkddbmjnfaaLB
set_option linter.all false
-- A32
namespace Go.L1
open Go Go.Sx Go.Proofs
set_option maxRecDepth 20000
set_option linter.unusedVariables false
set_option linter.unusedSimpArgs false
theorem newReader_own (xs : List UInt8) (hx : xs.length ≤ 100000000000) : FOK Try.prog C1 22 (fun c => Nat.beq c 0) [.own 0] [.row 5 (.bytes xs)]
    (fun rs H => rs = [.ptr 2 0] ∧ H = [.row 5 (.bytes xs), .gone, .cells 62 [.ro (.bytes xs), .int .i64 0]]) := by
  refine fok_of (B := ⟨lookT tis, fun c => Nat.beq c 0⟩) (tab1 _) (zero1 _) cod1 mix1 Try.func22 (by kernel_rfl) rfl rfl rfl fun X F => ?_
  obtain ⟨A, hA⟩ : ∃ A, A = Leaf.std := ⟨_, rfl⟩
  refine F.hold hA 2000 ?_
  cbv
  repeat' (first
    | refine OK.drawn (by decide +kernel) ?_
    | refine OK.tree ⟨fun _ => ⟨.other, 0, 0, .no⟩, fun _ => true⟩ (by decide +kernel) ?_
    | refine OK.both ?_ ?_
    | refine OK.need (by first | assumption | (rw [hA]; first | (show (_ : Int) ≠ _; decide) | (show (0 : Int) ≤ _; decide) | (show (0 : Int) ≤ _ ∧ _ < (256 : Int); decide))) ?_
    | refine OK.need ?_ ?_
    | (refine OK.branch ?_ ?_ <;> intro h)
    | (refine F.hold hA 2000 ?_; cbv))
  refine F.call [0] (clone_own xs hx) rfl rfl rfl fun rs H' hq => ?_
  obtain ⟨rfl, rfl⟩ := hq
  refine ⟨rfl, ?_⟩
  repeat' (first
    | refine OK.drawn (by decide +kernel) ?_
    | refine OK.tree ⟨fun _ => ⟨.other, 0, 0, .no⟩, fun _ => true⟩ (by decide +kernel) ?_
    | refine OK.both ?_ ?_
    | refine OK.need (by first | assumption | (rw [hA]; first | (show (_ : Int) ≠ _; decide) | (show (0 : Int) ≤ _; decide) | (show (0 : Int) ≤ _ ∧ _ < (256 : Int); decide))) ?_
    | refine OK.need ?_ ?_
    | (refine OK.branch ?_ ?_ <;> intro h)
    | (refine F.hold hA 2000 ?_; cbv))
  refine F.ret (Cv.freeze F.cod 1 rfl) rfl ⟨rfl, rfl⟩
structure MutI (b : List UInt8) (j : Nat) (ys : List UInt8) : Prop where
  le : j ≤ b.length
  len : ys.length = b.length
def MutInv (b : List UInt8) (w : Int × List UInt8) : Prop := ∃ j : Nat, w.1 = j ∧ MutI b j w.2
theorem kill_geq {A : Leaf} (hA : A = .std) {a b : Int} (h : A.cmp .geq a b = false) (hab : b ≤ a) : False := by subst hA; exact of_decide_eq_false h hab
theorem kill_leq {A : Leaf} (hA : A = .std) {a b : Int} (h : A.cmp .leq a b = false) (hab : a ≤ b) : False := by subst hA; exact of_decide_eq_false h hab
theorem kill_t {A : Leaf} (hA : A = .std) (h : A.bnot true = true) : False := by subst hA; cases h
theorem kill_f {A : Leaf} (hA : A = .std) (h : A.bnot false = false) : False := by subst hA; cases h
theorem kill_neq {A : Leaf} (hA : A = .std) {a b : Int} (h : A.cmp .neq a b = true) (hab : a = b) : False := by
  subst hA hab
  have h : ((a != a) : Bool) = true := h
  simp at h
theorem kill_beq {A : Leaf} (hA : A = .std) {a b : Bool} (h : A.bnot (A.beq a b) = true) (hab : a = b) : False := by
  subst hA hab
  have h : (!(a == a)) = true := h
  simp at h
theorem kill_beq2 {A : Leaf} (hA : A = .std) {a b : Bool} (h : A.bnot (A.beq a b) = false) (hab : a ≠ b) : False := by
  subst hA
  have h : (!(a == b)) = false := h
  simp at h
  exact hab h
theorem std_geq {A : Leaf} (hA : A = .std) {a b : Int} (h : A.cmp .geq a b = true) : b ≤ a := by subst hA; exact of_decide_eq_true h
theorem std_leq {A : Leaf} (hA : A = .std) {a b : Int} (h : A.cmp .leq a b = true) : a ≤ b := by subst hA; exact of_decide_eq_true h
theorem std_ngeq {A : Leaf} (hA : A = .std) {a b : Int} (h : A.cmp .geq a b = false) : ¬ b ≤ a := by subst hA; exact of_decide_eq_false h
theorem std_nleq {A : Leaf} (hA : A = .std) {a b : Int} (h : A.cmp .leq a b = false) : ¬ a ≤ b := by subst hA; exact of_decide_eq_false h
theorem leq_false {A : Leaf} (hA : A = .std) {a b : Int} (h : ¬ a ≤ b) : A.cmp .leq a b = false := by subst hA; exact decide_eq_false h
theorem leq_true {A : Leaf} (hA : A = .std) {a b : Int} (h : a ≤ b) : A.cmp .leq a b = true := by subst hA; exact decide_eq_true h
theorem peek_bad {xs : List UInt8} {p n : Int} (h : ¬ (0 ≤ n ∧ n ≤ 32)) : PeekIs xs p n 0 := by unfold PeekIs; rw [if_neg h]; rfl
theorem peek_get {xs : List UInt8} {p n r : Int} (h : 0 ≤ n ∧ n ≤ 32) (hr : r = (valBytes xs / 2 ^ p.toNat % 2 ^ n.toNat : Nat)) : PeekIs xs p n r := by unfold PeekIs; rw [if_pos h]; exact hr
theorem PeekIs.same {xs : List UInt8} {p n r s : Int} (h : PeekIs xs p n r) (h2 : PeekIs xs p n s) : r = s := by unfold PeekIs at h h2; rw [h, h2]
def Eqz (a b : Int) : Prop := a = b
theorem Eqz.symm {a b : Int} (h : Eqz a b) : b = a := Eq.symm h
theorem kill_ff {A : Leaf} (hA : A = .std) (h : A.bnot (A.beq false false) = true) : False := kill_beq hA h rfl
theorem kill_tt {A : Leaf} (hA : A = .std) (h : A.bnot (A.beq true true) = true) : False := kill_beq hA h rfl
def Emp (xs : List UInt8) : Prop := xs = []
theorem Emp.kill {xs : List UInt8} (h : Emp xs) {A : Leaf} (hA : A = .std) (h2 : A.cmp .neq (A.len xs) 0 = true) : False := by
  unfold Emp at h
  subst h hA
  cases h2
structure RdG (b : List UInt8) (calls : List Cl) : Prop where
  b : b.length ≤ 1000
  c : calls.length ≤ 100
def RdInv (b : List UInt8) (calls : List Cl) (w : Int × Int) : Prop := ∃ j : Nat, w.1 = j ∧ j ≤ calls.length ∧ 0 ≤ w.2 ∧ w.2 ≤ 8 * b.length
def RdInv3 (b : List UInt8) (calls : List Cl) (w : Int × Int × Int) : Prop := RdInv b calls (w.1, w.2.1) ∧ Eqz w.2.2 w.2.1
structure RdAt (A : Leaf) (b : List UInt8) (calls : List Cl) (i p : Int) : Prop where
  rd : RdPre b p
  eL : A.ar .sub .i64 (A.ar .mul .i64 8 (A.len b)) p = 8 * b.length - p
  lo : 0 ≤ p
  hi : p ≤ 8 * b.length
def RdT (A : Leaf) (b : List UInt8) (calls : List Cl) (i p : Int) : Prop := ∃ j : Nat, i = j ∧ j < calls.length ∧ 0 ≤ p ∧ p ≤ 8 * b.length
theorem RdT.at {A : Leaf} {b : List UInt8} {calls : List Cl} {i p : Int} (hA : A = .std) (hg : RdG b calls) (h : RdT A b calls i p) : RdAt A b calls i p := by
  obtain ⟨j, rfl, hj, h1, h2⟩ := h
  have hb := hg.b
  subst hA
  refine ⟨⟨by omega, by omega, by omega⟩, ?_, h1, h2⟩
  show Leaf.std.ar .sub .i64 (Leaf.std.ar .mul .i64 8 (b.length : Int)) p = _
  rw [mul_i64 (by omega) (by omega), sub_i64 (by omega) (by omega)]
theorem RdAt.get {A : Leaf} {b : List UInt8} {calls : List Cl} {i p : Int} (h : RdAt A b calls i p) (hg : RdG b calls) {n e : Int} (he : Eqz e p) (hn : 0 ≤ n) (hn2 : n ≤ 32) : GetPre b e n p.toNat n.toNat := by
  have := hg.b
  have := h.lo
  have := h.hi
  unfold Eqz at he
  exact ⟨by omega, by omega, by omega, by omega, by omega⟩
theorem RdAt.left {A : Leaf} {b : List UInt8} {calls : List Cl} {i p : Int} (h : RdAt A b calls i p) {e r : Int} (he : Eqz e p) (hr : LeftIs b p r) : r = A.ar .sub .i64 (A.ar .mul .i64 8 (A.len b)) e := by
  unfold Eqz at he
  unfold LeftIs at hr
  rw [he, h.eL, hr]
theorem RdT.back {A : Leaf} {b : List UInt8} {calls : List Cl} {i p : Int} (h : RdT A b calls i p) (hA : A = .std) (hg : RdG b calls) {e : Int} (he : Eqz e p) : RdInv b calls (A.ar .add .i64 i 1, e) ∧ (calls.length - A.ar .add .i64 i 1).toNat < (calls.length - i).toNat := by
  obtain ⟨j, rfl, hj, h1, h2⟩ := h
  unfold Eqz at he
  subst he hA
  have := hg.c
  rw [add_i64 (by omega) (by omega)]
  exact ⟨⟨j + 1, by simp, by omega, h1, h2⟩, by omega⟩
theorem RdT.back2 {A : Leaf} {b : List UInt8} {calls : List Cl} {i p : Int} (h : RdT A b calls i p) (hA : A = .std) (hg : RdG b calls) {e : Int} (he : Eqz e p) : RdInv b calls (A.ar .add .i64 i 1, p) ∧ (calls.length - A.ar .add .i64 i 1).toNat < (calls.length - i).toNat := by
  have h2 := h.back hA hg he
  unfold Eqz at he
  subst he
  exact h2
theorem RdT.next {A : Leaf} {b : List UInt8} {calls : List Cl} {i p n q : Int} (h : RdT A b calls i p) (e : q = p + n) (h1 : 0 ≤ p + n) (h2 : p + n ≤ 8 * b.length) : RdT A b calls i q := by
  obtain ⟨j, hj, hjl, _, _⟩ := h
  exact ⟨j, hj, hjl, by omega, by omega⟩
theorem RdAt.add {A : Leaf} {b : List UInt8} {calls : List Cl} {i p n q : Int} (h : RdAt A b calls i p) (hA : A = .std) (hg : RdG b calls) (e : q = p + n) (h1 : 0 ≤ n) (h2 : n ≤ 8 * b.length - p) : Eqz (A.ar .add .i64 p n) q := by
  have := hg.b
  have := h.lo
  subst hA
  unfold Eqz
  rw [add_i64 (by omega) (by omega), e]
theorem leq_kill {A : Leaf} (hA : A = .std) {a b : Int} (h : A.cmp .leq a b = true) (hn : ¬ a ≤ b) : False := hn (std_leq hA h)
theorem RdT.up {A : Leaf} {b : List UInt8} {calls : List Cl} {i p q : Int} (h : RdT A b calls i p) (e : UpIs p q) : RdT A b calls i q := by
  obtain ⟨j, hj, hjl, _, _⟩ := h
  unfold UpIs at e
  exact ⟨j, hj, hjl, by omega, by omega⟩
theorem RdAt.up {A : Leaf} {b : List UInt8} {calls : List Cl} {i p q : Int} (h : RdAt A b calls i p) (hA : A = .std) (hg : RdG b calls) (e : UpIs p q) : Eqz (A.ar .mul .i64 (A.ar .quo .i64 (A.ar .add .i64 p 7) 8) 8) q := by
  have := hg.b
  have := h.lo
  have := h.hi
  unfold UpIs at e
  subst hA
  unfold Eqz
  rw [add_i64 (by omega) (by omega), leaf_quo (by omega) (by omega) (by rw [max_i64]; omega), mul_i64 (by omega) (by omega), e]
theorem RdAt.fr {A : Leaf} {b : List UInt8} {calls : List Cl} {i p : Int} (h : RdAt A b calls i p) (hA : A = .std) (hg : RdG b calls) : A.ar .quo .i64 (A.ar .add .i64 p 7) 8 = (p + 7) / 8 ∧ A.ar .sub .i64 (A.len b) (A.ar .quo .i64 (A.ar .add .i64 p 7) 8) = b.length - (p + 7) / 8 := by
  have := hg.b
  have := h.lo
  have := h.hi
  subst hA
  have e : Leaf.std.ar .quo .i64 (Leaf.std.ar .add .i64 p 7) 8 = (p + 7) / 8 := by
    rw [add_i64 (by omega) (by omega), leaf_quo (by omega) (by omega) (by rw [max_i64]; omega)]
  refine ⟨e, ?_⟩
  rw [e]
  exact sub_i64 (by show _ ≤ (b.length : Int) - _; omega) (by show (b.length : Int) - _ ≤ _; omega)
structure ByAt (A : Leaf) (b : List UInt8) (calls : List Cl) (i p n q : Int) (xs : List UInt8) : Prop where
  nt : RdT A b calls i q
  eq : Eqz (A.ar .mul .i64 8 (A.ar .add .i64 (A.ar .quo .i64 (A.ar .add .i64 p 7) 8) n)) q
  sl : A.slb (A.ar .quo .i64 (A.ar .add .i64 p 7) 8) (A.ar .add .i64 (A.ar .quo .i64 (A.ar .add .i64 p 7) 8) n) (A.len b)
  le : xs.length ≤ 100000000000
  same : ∀ r, SameRes xs (A.sub b (A.ar .quo .i64 (A.ar .add .i64 p 7) 8) (A.ar .add .i64 (A.ar .quo .i64 (A.ar .add .i64 p 7) 8) n)) r → r = true
theorem RdAt.by {A : Leaf} {b : List UInt8} {calls : List Cl} {i p n q : Int} {xs : List UInt8} (h : RdAt A b calls i p) (hT : RdT A b calls i p) (hA : A = .std) (hg : RdG b calls) (g1 : 0 ≤ n) (g2 : n ≤ b.length - (p + 7) / 8) (eq : q = 8 * ((p + 7) / 8 + n)) (ex : xs = (b.drop ((p + 7) / 8).toNat).take n.toNat) :
    ByAt A b calls i p n q xs := by
  have hb := hg.b
  have := h.lo
  have := h.hi
  obtain ⟨e1, e2⟩ := h.fr hA hg
  subst hA
  have e3 : Leaf.std.ar .add .i64 ((p + 7) / 8) n = (p + 7) / 8 + n := add_i64 (by omega) (by omega)
  obtain ⟨j, hj, hjl, _, _⟩ := hT
  refine ⟨⟨j, hj, hjl, by omega, by omega⟩, ?_, ?_, ?_, fun r hr => ?_⟩
  · unfold Eqz
    rw [e1, e3, mul_i64 (by omega) (by omega), eq]
  · rw [e1, e3]
    show (0 : Int) ≤ _ ∧ _ ≤ _ ∧ _ ≤ (b.length : Int)
    omega
  · rw [ex]; simp; omega
  · rw [e1, e3] at hr
    refine hr.2 ?_
    rw [ex]
    show _ = (b.drop ((p + 7) / 8).toNat).take ((p + 7) / 8 + n - (p + 7) / 8).toNat
    congr 1
    omega
set_option maxHeartbeats 20000000 in
theorem reads_ok (b : List UInt8) (calls : List Cl) (peek : Int) (hs : SmallB calls) : FOK Try.prog C1 6 (fun _ => false) [.ro (.bytes b), .ro (.recs 0 calls), .int .i64 peek] [] Yes := by
  refine fok_of (B := ⟨lookT tis, fun _ => false⟩) (tab1 _) (zero1 _) cod1 mix1 Try.func6 (by kernel_rfl) rfl rfl rfl fun X F => ?_
  obtain ⟨A, hA⟩ : ∃ A, A = Leaf.std := ⟨_, rfl⟩
  refine F.hold hA 2000 ?_
  cbv
  repeat' (first
    | refine OK.drawn (by decide +kernel) ?_
    | refine OK.tree ⟨fun _ => ⟨.other, 0, 0, .no⟩, fun _ => true⟩ (by decide +kernel) ?_
    | refine OK.both ?_ ?_
    | refine OK.need (by first | assumption | (rw [hA]; first | (show (_ : Int) ≠ _; decide) | (show (0 : Int) ≤ _; decide) | (show (0 : Int) ≤ _ ∧ _ < (256 : Int); decide))) ?_
    | refine OK.need ?_ ?_
    | (refine OK.branch ?_ ?_ <;> intro h)
    | (refine F.hold hA 2000 ?_; cbv))
  refine F.call [] (alive_ok) rfl rfl rfl fun rs H' hq => ?_
  obtain ⟨b, rfl, rfl, rfl⟩ := hq
  refine ⟨rfl, ?_⟩
  repeat' (first
    | refine OK.drawn (by decide +kernel) ?_
    | refine OK.tree ⟨fun _ => ⟨.other, 0, 0, .no⟩, fun _ => true⟩ (by decide +kernel) ?_
    | refine OK.both ?_ ?_
    | refine OK.need (by first | assumption | (rw [hA]; first | (show (_ : Int) ≠ _; decide) | (show (0 : Int) ≤ _; decide) | (show (0 : Int) ≤ _ ∧ _ < (256 : Int); decide))) ?_
    | refine OK.need ?_ ?_
    | (refine OK.branch ?_ ?_ <;> intro h)
    | (refine F.hold hA 2000 ?_; cbv))
  · exfalso; subst hA; cases h
  refine F.call [] (great_ro b calls hs) rfl rfl rfl fun rs H' hq => ?_
  obtain ⟨g, rfl, rfl, hg⟩ := hq
  refine ⟨rfl, ?_⟩
  repeat' (first
    | refine OK.drawn (by decide +kernel) ?_
    | refine OK.tree ⟨fun _ => ⟨.other, 0, 0, .no⟩, fun _ => true⟩ (by decide +kernel) ?_
    | refine OK.both ?_ ?_
    | refine OK.need (by first | assumption | (rw [hA]; first | (show (_ : Int) ≠ _; decide) | (show (0 : Int) ≤ _; decide) | (show (0 : Int) ≤ _ ∧ _ < (256 : Int); decide))) ?_
    | refine OK.need ?_ ?_
    | (refine OK.branch ?_ ?_ <;> intro h)
    | (refine F.hold hA 2000 ?_; cbv))
  · exact F.ret0 ⟨_, rfl, rfl⟩
  have hg := hg h
  have hg : (Nat.le b.length 1000 ∧ Nat.le calls.length 100) ∧ Nat.le (sumB calls) 2000 := ⟨⟨hg.1, hg.2.1⟩, hg.2.2⟩
  refine F.call [] (copy_ro b (Nat.le_trans hg.1.1 (by decide))) rfl rfl rfl fun rs H' hq => ?_
  obtain ⟨rfl, rfl⟩ := hq
  refine ⟨rfl, ?_⟩
  repeat' (first
    | refine OK.drawn (by decide +kernel) ?_
    | refine OK.tree ⟨fun _ => ⟨.other, 0, 0, .no⟩, fun _ => true⟩ (by decide +kernel) ?_
    | refine OK.both ?_ ?_
    | refine OK.need (by first | assumption | (rw [hA]; first | (show (_ : Int) ≠ _; decide) | (show (0 : Int) ≤ _; decide) | (show (0 : Int) ≤ _ ∧ _ < (256 : Int); decide))) ?_
    | refine OK.need ?_ ?_
    | (refine OK.branch ?_ ?_ <;> intro h)
    | (refine F.hold hA 2000 ?_; cbv))
  refine F.call [0] (newReader_own b (Nat.le_trans hg.1.1 (by decide))) rfl rfl rfl fun rs H' hq => ?_
  obtain ⟨rfl, rfl⟩ := hq
  refine ⟨rfl, ?_⟩
  repeat' (first
    | refine OK.drawn (by decide +kernel) ?_
    | refine OK.tree ⟨fun _ => ⟨.other, 0, 0, .no⟩, fun _ => true⟩ (by decide +kernel) ?_
    | refine OK.both ?_ ?_
    | refine OK.need (by first | assumption | (rw [hA]; first | (show (_ : Int) ≠ _; decide) | (show (0 : Int) ≤ _; decide) | (show (0 : Int) ≤ _ ∧ _ < (256 : Int); decide))) ?_
    | refine OK.need ?_ ?_
    | (refine OK.branch ?_ ?_ <;> intro h)
    | (refine F.hold hA 2000 ?_; cbv))
  refine F.loop (V := Int × List UInt8) [0, 1, 2, 7, 8] (MutInv b) (fun w => (b.length - w.1).toNat) (fun w => [(9, .int .i64 w.1)]) (fun w => [(0, .row 5 (.bytes w.2))]) (_, _) (by cbv; repeat (first | exact WkH.nil _ | apply WkH.gone | refine WkH.eq rfl ?_)) (by cbv; repeat (first | apply WkL.any | exact WkL.nil _ | refine WkL.eq rfl ?_)) (by cbv; exact ⟨rfl⟩) ?_ ?_
  · exact ⟨0, rfl, Nat.zero_le _, rfl⟩
  rintro ⟨i, ys⟩ hI Bk hBk
  refine F.hold hA 2000 ?_
  cbv
  refine OK.branch (fun h1 => ?_) (fun h1 => ?_)
  · have hq : A.inb i (A.len ys) := by
      obtain ⟨j, e, h2, h3⟩ := hI
      simp only at e h3
      subst hA
      have h1 : i < (ys.length : Int) := of_decide_eq_true h1
      show (0 : Int) ≤ i ∧ i < (ys.length : Int)
      omega
    repeat' (first
      | refine OK.drawn (by decide +kernel) ?_
      | refine OK.tree ⟨fun _ => ⟨.other, 0, 0, .no⟩, fun _ => true⟩ (by decide +kernel) ?_
      | refine OK.both ?_ ?_
      | refine OK.need (by first | assumption | (rw [hA]; first | (show (_ : Int) ≠ _; decide) | (show (0 : Int) ≤ _; decide) | (show (0 : Int) ≤ _ ∧ _ < (256 : Int); decide))) ?_
      | refine OK.need ?_ ?_
      | (refine OK.branch ?_ ?_ <;> intro h)
      | (refine F.hold hA 2000 ?_; cbv))
    · subst hA
      show (0 : Int) ≤ IntKind.u8.wrap _ ∧ IntKind.u8.wrap _ < 256
      rw [IntKind.wrap_u8]; omega
    refine OK.back (hBk _ _ (_, _) (by cbv; repeat (first | exact WkH.nil _ | apply WkH.gone | refine WkH.eq rfl ?_)) (by cbv; repeat (first | apply WkL.any | exact WkL.nil _ | refine WkL.eq rfl ?_)) (by cbv; exact ⟨rfl⟩) ?_ ?_)
    all_goals
      obtain ⟨j, e, h2, h3⟩ := hI
      simp only at e h3
      subst hA
      have h1 : i < (ys.length : Int) := of_decide_eq_true h1
      have hc := hg.1.1
      have hc : b.length ≤ 1000 := hc
      have e2 : Leaf.std.ar .add .i64 i 1 = ((j + 1 : Nat) : Int) := by rw [e, add_i64 (by omega) (by omega)]; omega
    · exact ⟨j + 1, e2, by omega, by show (List.set _ _ _).length = _; rw [List.length_set]; exact h3⟩
    · show (b.length - Leaf.std.ar .add .i64 i 1).toNat < _
      rw [e2]
      show _ < (b.length - i).toNat
      omega
  clear hI
  repeat' (first
    | refine OK.drawn (by decide +kernel) ?_
    | refine OK.tree ⟨fun _ => ⟨.other, 0, 0, .no⟩, fun _ => true⟩ (by decide +kernel) ?_
    | refine OK.both ?_ ?_
    | refine OK.need (by first | assumption | (rw [hA]; first | (show (_ : Int) ≠ _; decide) | (show (0 : Int) ≤ _; decide) | (show (0 : Int) ≤ _ ∧ _ < (256 : Int); decide))) ?_
    | refine OK.need ?_ ?_
    | (refine OK.branch ?_ ?_ <;> intro h)
    | (refine F.hold hA 2000 ?_; cbv))
  have hgg : RdG b calls := ⟨hg.1.1, hg.1.2⟩
  refine F.loop (V := Int × Int × Int) [0, 1, 2, 8] (RdInv3 b calls) (fun w => (calls.length - w.1).toNat) (fun w => [(10, .int .i64 w.2.2), (11, .int .i64 w.1)]) (fun w => [(2, .cells 62 [.ro (.bytes b), .int .i64 w.2.1])]) (_, _, _) (by cbv; repeat (first | exact WkH.nil _ | apply WkH.gone | refine WkH.eq rfl ?_)) (by cbv; repeat (first | apply WkL.any | exact WkL.nil _ | refine WkL.eq rfl ?_)) (by cbv; exact ⟨rfl⟩) ?_ ?_
  · exact ⟨⟨0, rfl, Nat.zero_le _, by decide, by show (0 : Int) ≤ _; omega⟩, rfl⟩
  rintro ⟨i2, x, p⟩ ⟨hI, he0⟩ Bk hBk
  have he0 : p = x := he0
  subst he0
  refine F.hold hA 2000 ?_
  cbv
  refine OK.branch (fun h1 => ?_) (fun h1 => ?_)
  · have hq : A.inb i2 (A.len calls) := by
      obtain ⟨j, e, h2, h3⟩ := hI
      simp only at e h3
      subst hA
      have h1 : i2 < (calls.length : Int) := of_decide_eq_true h1
      show (0 : Int) ≤ i2 ∧ i2 < (calls.length : Int)
      omega
    have hT0 : RdT A b calls i2 p := by
      obtain ⟨j, e, h2, h3, h4⟩ := hI
      simp only at e h3 h4
      subst hA
      have h1 : i2 < (calls.length : Int) := of_decide_eq_true h1
      exact ⟨j, e, by omega, h3, h4⟩
    have hat := hT0.at hA hgg
    clear hI
    repeat (first
      | refine OK.drawn (by decide +kernel) ?_
      | refine OK.tree ⟨fun _ => ⟨.other, 0, 0, .no⟩, fun _ => true⟩ (by decide +kernel) ?_
      | refine OK.need (by first | assumption | (rw [hA]; first | (show (_ : Int) ≠ _; decide) | (show (0 : Int) ≤ _; decide) | (show (0 : Int) ≤ _ ∧ _ < (256 : Int); decide))) ?_
      | (refine F.hold hA 2000 ?_; cbv))
    refine OK.branch (fun c0 => ?_) (fun c0 => ?_)
    · repeat' (first
        | refine OK.drawn (by decide +kernel) ?_
        | refine OK.tree ⟨fun _ => ⟨.other, 0, 0, .no⟩, fun _ => true⟩ (by decide +kernel) ?_
        | refine OK.both ?_ ?_
        | refine OK.need (by first | assumption | (rw [hA]; first | (show (_ : Int) ≠ _; decide) | (show (0 : Int) ≤ _; decide) | (show (0 : Int) ≤ _ ∧ _ < (256 : Int); decide))) ?_
        | refine OK.need ?_ ?_
        | (refine OK.branch ?_ ?_ <;> intro h)
        | (refine F.hold hA 2000 ?_; cbv))
      refine F.call [2] (bits_ok b p _ hat.rd) rfl rfl rfl fun rs H' hq => ?_
      obtain ⟨v, r, q, rfl, rfl, hb⟩ := hq
      refine ⟨rfl, ?_⟩
      rcases hb with ⟨rfl, g1, g2, g3, ep, ev⟩ | ⟨rfl, g1, ep, ev⟩
      · repeat' (first
          | contradiction
          | exact (kill_t hA (by assumption)).elim
          | exact (kill_f hA (by assumption)).elim
          | exact (kill_geq hA (by assumption) g1).elim
          | exact (kill_leq hA (by assumption) g2).elim
          | exact (kill_beq hA (by assumption) (leq_true hA (by rw [hat.eL]; exact g3)).symm).elim
          | refine OK.drawn (by decide +kernel) ?_
          | refine OK.tree ⟨fun _ => ⟨.other, 0, 0, .no⟩, fun _ => true⟩ (by decide +kernel) ?_
          | refine OK.both ?_ ?_
          | refine OK.need (by first | assumption | (rw [hA]; first | (show (_ : Int) ≠ _; decide) | (show (0 : Int) ≤ _; decide) | (show (0 : Int) ≤ _ ∧ _ < (256 : Int); decide))) ?_
          | refine OK.need ?_ ?_
          | (refine OK.branch ?_ ?_ <;> intro h)
          | (refine F.hold hA 2000 ?_; cbv))
        refine F.call [] (refGet_ok b _ _ p.toNat _ (hat.get hgg rfl g1 g2)) rfl rfl rfl fun rs H' hq => ?_
        obtain ⟨v2, rfl, rfl, hv2⟩ := hq
        refine ⟨rfl, ?_⟩
        have hvv : Eqz v v2 := ev.trans hv2.symm
        have hT : RdT A b calls i2 q := hT0.next ep (Int.add_nonneg hat.lo g1) (Int.add_le_of_le_sub_left g3)
        have he : Eqz (A.ar .add .i64 p (A.get ⟨0, 0, 0, []⟩ calls i2).n) q := hat.add hA hgg ep g1 g3
        clear ep ev hv2
        repeat' (first
          | contradiction
          | exact (kill_t hA (by assumption)).elim
          | exact (kill_f hA (by assumption)).elim
          | exact (kill_neq hA (by assumption) hvv).elim
          | refine OK.drawn (by decide +kernel) ?_
          | refine OK.tree ⟨fun _ => ⟨.other, 0, 0, .no⟩, fun _ => true⟩ (by decide +kernel) ?_
          | refine OK.both ?_ ?_
          | refine OK.need (by first | assumption | (rw [hA]; first | (show (_ : Int) ≠ _; decide) | (show (0 : Int) ≤ _; decide) | (show (0 : Int) ≤ _ ∧ _ < (256 : Int); decide))) ?_
          | refine OK.need ?_ ?_
          | (refine OK.branch ?_ ?_ <;> intro h)
          | (refine F.hold hA 2000 ?_; cbv))
        all_goals
          as_aux_lemma =>
            have hat2 := hT.at hA hgg
            first
              | (refine F.call [] (refGet_ok b _ _ q.toNat peek.toNat (hat2.get hgg he (std_geq hA (by assumption)) (std_leq hA (by assumption)))) rfl rfl rfl fun rs H' hq' => ?_
                 obtain ⟨pv, rfl, rfl, hpv⟩ := hq'
                 refine ⟨rfl, ?_⟩
                 have hpk := peek_get ⟨std_geq hA (by assumption), std_leq hA (by assumption)⟩ hpv)
              | have hpk : PeekIs b q peek 0 := peek_bad fun hh => std_nleq hA (by assumption) hh.2
              | have hpk : PeekIs b q peek 0 := peek_bad fun hh => std_ngeq hA (by assumption) hh.1
            repeat' (first
              | refine OK.drawn (by decide +kernel) ?_
              | refine OK.tree ⟨fun _ => ⟨.other, 0, 0, .no⟩, fun _ => true⟩ (by decide +kernel) ?_
              | refine OK.both ?_ ?_
              | refine OK.need (by first | assumption | (rw [hA]; first | (show (_ : Int) ≠ _; decide) | (show (0 : Int) ≤ _; decide) | (show (0 : Int) ≤ _ ∧ _ < (256 : Int); decide))) ?_
              | refine OK.need ?_ ?_
              | (refine OK.branch ?_ ?_ <;> intro h)
              | (refine F.hold hA 2000 ?_; cbv))
            refine F.call [2] (at_ok b q) rfl rfl rfl fun rs H' hq => ?_
            obtain ⟨rfl, rfl⟩ := hq
            refine ⟨rfl, ?_⟩
            repeat' (first
              | contradiction
              | exact (kill_neq hA (by assumption) (Eqz.symm he)).elim
              | refine OK.drawn (by decide +kernel) ?_
              | refine OK.tree ⟨fun _ => ⟨.other, 0, 0, .no⟩, fun _ => true⟩ (by decide +kernel) ?_
              | refine OK.both ?_ ?_
              | refine OK.need (by first | assumption | (rw [hA]; first | (show (_ : Int) ≠ _; decide) | (show (0 : Int) ≤ _; decide) | (show (0 : Int) ≤ _ ∧ _ < (256 : Int); decide))) ?_
              | refine OK.need ?_ ?_
              | (refine OK.branch ?_ ?_ <;> intro h)
              | (refine F.hold hA 2000 ?_; cbv))
            refine F.call [2] (left_ok b q hat2.rd) rfl rfl rfl fun rs H' hq => ?_
            obtain ⟨r, rfl, rfl, hr⟩ := hq
            refine ⟨rfl, ?_⟩
            have hr : LeftIs b q r := hr
            repeat' (first
              | contradiction
              | exact (kill_neq hA (by assumption) (hat2.left he hr)).elim
              | refine OK.drawn (by decide +kernel) ?_
              | refine OK.tree ⟨fun _ => ⟨.other, 0, 0, .no⟩, fun _ => true⟩ (by decide +kernel) ?_
              | refine OK.both ?_ ?_
              | refine OK.need (by first | assumption | (rw [hA]; first | (show (_ : Int) ≠ _; decide) | (show (0 : Int) ≤ _; decide) | (show (0 : Int) ≤ _ ∧ _ < (256 : Int); decide))) ?_
              | refine OK.need ?_ ?_
              | (refine OK.branch ?_ ?_ <;> intro h)
              | (refine F.hold hA 2000 ?_; cbv))
            refine F.call [2] (peek_ok b q peek hat2.rd) rfl rfl rfl fun rs H' hq => ?_
            obtain ⟨pv2, rfl, rfl, hpv2⟩ := hq
            refine ⟨rfl, ?_⟩
            repeat' (first
              | contradiction
              | exact (kill_neq hA (by assumption) (hpv2.same hpk)).elim
              | refine OK.drawn (by decide +kernel) ?_
              | refine OK.tree ⟨fun _ => ⟨.other, 0, 0, .no⟩, fun _ => true⟩ (by decide +kernel) ?_
              | refine OK.both ?_ ?_
              | refine OK.need (by first | assumption | (rw [hA]; first | (show (_ : Int) ≠ _; decide) | (show (0 : Int) ≤ _; decide) | (show (0 : Int) ≤ _ ∧ _ < (256 : Int); decide))) ?_
              | refine OK.need ?_ ?_
              | (refine OK.branch ?_ ?_ <;> intro h)
              | (refine F.hold hA 2000 ?_; cbv))
            refine OK.back (hBk _ _ (_, _, _) (by cbv; repeat (first | exact WkH.nil _ | apply WkH.gone | refine WkH.eq rfl ?_)) (by cbv; repeat (first | apply WkL.any | exact WkL.nil _ | refine WkL.eq rfl ?_)) (by cbv; exact ⟨rfl⟩) ?_ ?_)
            · exact ⟨(hT.back2 hA hgg he).1, he⟩
            · exact (hT.back2 hA hgg he).2
      · have ep : q = p := ep
        subst ep
        have hT := hT0
        have he : Eqz q q := rfl
        have hv0 : Eqz v 0 := ev
        clear ev
        repeat' (first
          | contradiction
          | exact (kill_t hA (by assumption)).elim
          | exact (kill_f hA (by assumption)).elim
          | exact (kill_ff hA (by assumption)).elim
          | exact (kill_beq hA (by assumption) (leq_false hA (fun h3 => g1 ⟨std_geq hA (by assumption), std_leq hA (by assumption), by rw [hat.eL] at h3; exact h3⟩)).symm).elim
          | exact (kill_neq hA (by assumption) hv0).elim
          | refine OK.drawn (by decide +kernel) ?_
          | refine OK.tree ⟨fun _ => ⟨.other, 0, 0, .no⟩, fun _ => true⟩ (by decide +kernel) ?_
          | refine OK.both ?_ ?_
          | refine OK.need (by first | assumption | (rw [hA]; first | (show (_ : Int) ≠ _; decide) | (show (0 : Int) ≤ _; decide) | (show (0 : Int) ≤ _ ∧ _ < (256 : Int); decide))) ?_
          | refine OK.need ?_ ?_
          | (refine OK.branch ?_ ?_ <;> intro h)
          | (refine F.hold hA 2000 ?_; cbv))
        all_goals
          as_aux_lemma =>
            have hat2 := hT.at hA hgg
            first
              | (refine F.call [] (refGet_ok b _ _ q.toNat peek.toNat (hat2.get hgg he (std_geq hA (by assumption)) (std_leq hA (by assumption)))) rfl rfl rfl fun rs H' hq' => ?_
                 obtain ⟨pv, rfl, rfl, hpv⟩ := hq'
                 refine ⟨rfl, ?_⟩
                 have hpk := peek_get ⟨std_geq hA (by assumption), std_leq hA (by assumption)⟩ hpv)
              | have hpk : PeekIs b q peek 0 := peek_bad fun hh => std_nleq hA (by assumption) hh.2
              | have hpk : PeekIs b q peek 0 := peek_bad fun hh => std_ngeq hA (by assumption) hh.1
            repeat' (first
              | refine OK.drawn (by decide +kernel) ?_
              | refine OK.tree ⟨fun _ => ⟨.other, 0, 0, .no⟩, fun _ => true⟩ (by decide +kernel) ?_
              | refine OK.both ?_ ?_
              | refine OK.need (by first | assumption | (rw [hA]; first | (show (_ : Int) ≠ _; decide) | (show (0 : Int) ≤ _; decide) | (show (0 : Int) ≤ _ ∧ _ < (256 : Int); decide))) ?_
              | refine OK.need ?_ ?_
              | (refine OK.branch ?_ ?_ <;> intro h)
              | (refine F.hold hA 2000 ?_; cbv))
            refine F.call [2] (at_ok b q) rfl rfl rfl fun rs H' hq => ?_
            obtain ⟨rfl, rfl⟩ := hq
            refine ⟨rfl, ?_⟩
            repeat' (first
              | contradiction
              | exact (kill_neq hA (by assumption) (Eqz.symm he)).elim
              | refine OK.drawn (by decide +kernel) ?_
              | refine OK.tree ⟨fun _ => ⟨.other, 0, 0, .no⟩, fun _ => true⟩ (by decide +kernel) ?_
              | refine OK.both ?_ ?_
              | refine OK.need (by first | assumption | (rw [hA]; first | (show (_ : Int) ≠ _; decide) | (show (0 : Int) ≤ _; decide) | (show (0 : Int) ≤ _ ∧ _ < (256 : Int); decide))) ?_
              | refine OK.need ?_ ?_
              | (refine OK.branch ?_ ?_ <;> intro h)
              | (refine F.hold hA 2000 ?_; cbv))
            refine F.call [2] (left_ok b q hat2.rd) rfl rfl rfl fun rs H' hq => ?_
            obtain ⟨r, rfl, rfl, hr⟩ := hq
            refine ⟨rfl, ?_⟩
            have hr : LeftIs b q r := hr
            repeat' (first
              | contradiction
              | exact (kill_neq hA (by assumption) (hat2.left he hr)).elim
              | refine OK.drawn (by decide +kernel) ?_
              | refine OK.tree ⟨fun _ => ⟨.other, 0, 0, .no⟩, fun _ => true⟩ (by decide +kernel) ?_
              | refine OK.both ?_ ?_
              | refine OK.need (by first | assumption | (rw [hA]; first | (show (_ : Int) ≠ _; decide) | (show (0 : Int) ≤ _; decide) | (show (0 : Int) ≤ _ ∧ _ < (256 : Int); decide))) ?_
              | refine OK.need ?_ ?_
              | (refine OK.branch ?_ ?_ <;> intro h)
              | (refine F.hold hA 2000 ?_; cbv))
            refine F.call [2] (peek_ok b q peek hat2.rd) rfl rfl rfl fun rs H' hq => ?_
            obtain ⟨pv2, rfl, rfl, hpv2⟩ := hq
            refine ⟨rfl, ?_⟩
            repeat' (first
              | contradiction
              | exact (kill_neq hA (by assumption) (hpv2.same hpk)).elim
              | refine OK.drawn (by decide +kernel) ?_
              | refine OK.tree ⟨fun _ => ⟨.other, 0, 0, .no⟩, fun _ => true⟩ (by decide +kernel) ?_
              | refine OK.both ?_ ?_
              | refine OK.need (by first | assumption | (rw [hA]; first | (show (_ : Int) ≠ _; decide) | (show (0 : Int) ≤ _; decide) | (show (0 : Int) ≤ _ ∧ _ < (256 : Int); decide))) ?_
              | refine OK.need ?_ ?_
              | (refine OK.branch ?_ ?_ <;> intro h)
              | (refine F.hold hA 2000 ?_; cbv))
            refine OK.back (hBk _ _ (_, _, _) (by cbv; repeat (first | exact WkH.nil _ | apply WkH.gone | refine WkH.eq rfl ?_)) (by cbv; repeat (first | apply WkL.any | exact WkL.nil _ | refine WkL.eq rfl ?_)) (by cbv; exact ⟨rfl⟩) ?_ ?_)
            · exact ⟨(hT.back2 hA hgg he).1, he⟩
            · exact (hT.back2 hA hgg he).2
    repeat (first
      | refine OK.drawn (by decide +kernel) ?_
      | refine OK.tree ⟨fun _ => ⟨.other, 0, 0, .no⟩, fun _ => true⟩ (by decide +kernel) ?_
      | refine OK.need (by first | assumption | (rw [hA]; first | (show (_ : Int) ≠ _; decide) | (show (0 : Int) ≤ _; decide) | (show (0 : Int) ≤ _ ∧ _ < (256 : Int); decide))) ?_
      | (refine F.hold hA 2000 ?_; cbv))
    refine OK.branch (fun c1 => ?_) (fun c1 => ?_)
    · repeat' (first
        | refine OK.drawn (by decide +kernel) ?_
        | refine OK.tree ⟨fun _ => ⟨.other, 0, 0, .no⟩, fun _ => true⟩ (by decide +kernel) ?_
        | refine OK.both ?_ ?_
        | refine OK.need (by first | assumption | (rw [hA]; first | (show (_ : Int) ≠ _; decide) | (show (0 : Int) ≤ _; decide) | (show (0 : Int) ≤ _ ∧ _ < (256 : Int); decide))) ?_
        | refine OK.need ?_ ?_
        | (refine OK.branch ?_ ?_ <;> intro h)
        | (refine F.hold hA 2000 ?_; cbv))
      all_goals
        refine F.call [2] (skip_ok b p _ hat.rd) rfl rfl rfl fun rs H' hq => ?_
        obtain ⟨r, q, rfl, rfl, hsk⟩ := hq
        refine ⟨rfl, ?_⟩
        rcases hsk with ⟨rfl, g1, g3, ep⟩ | ⟨rfl, g1, ep⟩
        · have hT : RdT A b calls i2 q := hT0.next ep (Int.add_nonneg hat.lo g1) (Int.add_le_of_le_sub_left g3)
          have he : Eqz (A.ar .add .i64 p (A.get ⟨0, 0, 0, []⟩ calls i2).n) q := hat.add hA hgg ep g1 g3
          repeat' (first
            | contradiction
            | exact (kill_t hA (by assumption)).elim
            | exact (kill_f hA (by assumption)).elim
            | exact (kill_ff hA (by assumption)).elim
            | exact (kill_geq hA (by assumption) g1).elim
            | exact (kill_beq hA (by assumption) (leq_true hA (by rw [hat.eL]; exact g3)).symm).elim
            | exact (kill_leq hA (by assumption) (by rw [hat.eL]; exact g3)).elim
            | refine OK.drawn (by decide +kernel) ?_
            | refine OK.tree ⟨fun _ => ⟨.other, 0, 0, .no⟩, fun _ => true⟩ (by decide +kernel) ?_
            | refine OK.both ?_ ?_
            | refine OK.need (by first | assumption | (rw [hA]; first | (show (_ : Int) ≠ _; decide) | (show (0 : Int) ≤ _; decide) | (show (0 : Int) ≤ _ ∧ _ < (256 : Int); decide))) ?_
            | refine OK.need ?_ ?_
            | (refine OK.branch ?_ ?_ <;> intro h)
            | (refine F.hold hA 2000 ?_; cbv))
          all_goals
            as_aux_lemma =>
              have hat2 := hT.at hA hgg
              first
                | (refine F.call [] (refGet_ok b _ _ q.toNat peek.toNat (hat2.get hgg he (std_geq hA (by assumption)) (std_leq hA (by assumption)))) rfl rfl rfl fun rs H' hq' => ?_
                   obtain ⟨pv, rfl, rfl, hpv⟩ := hq'
                   refine ⟨rfl, ?_⟩
                   have hpk := peek_get ⟨std_geq hA (by assumption), std_leq hA (by assumption)⟩ hpv)
                | have hpk : PeekIs b q peek 0 := peek_bad fun hh => std_nleq hA (by assumption) hh.2
                | have hpk : PeekIs b q peek 0 := peek_bad fun hh => std_ngeq hA (by assumption) hh.1
              repeat' (first
                | refine OK.drawn (by decide +kernel) ?_
                | refine OK.tree ⟨fun _ => ⟨.other, 0, 0, .no⟩, fun _ => true⟩ (by decide +kernel) ?_
                | refine OK.both ?_ ?_
                | refine OK.need (by first | assumption | (rw [hA]; first | (show (_ : Int) ≠ _; decide) | (show (0 : Int) ≤ _; decide) | (show (0 : Int) ≤ _ ∧ _ < (256 : Int); decide))) ?_
                | refine OK.need ?_ ?_
                | (refine OK.branch ?_ ?_ <;> intro h)
                | (refine F.hold hA 2000 ?_; cbv))
              refine F.call [2] (at_ok b q) rfl rfl rfl fun rs H' hq => ?_
              obtain ⟨rfl, rfl⟩ := hq
              refine ⟨rfl, ?_⟩
              repeat' (first
                | contradiction
                | exact (kill_neq hA (by assumption) (Eqz.symm he)).elim
                | refine OK.drawn (by decide +kernel) ?_
                | refine OK.tree ⟨fun _ => ⟨.other, 0, 0, .no⟩, fun _ => true⟩ (by decide +kernel) ?_
                | refine OK.both ?_ ?_
                | refine OK.need (by first | assumption | (rw [hA]; first | (show (_ : Int) ≠ _; decide) | (show (0 : Int) ≤ _; decide) | (show (0 : Int) ≤ _ ∧ _ < (256 : Int); decide))) ?_
                | refine OK.need ?_ ?_
                | (refine OK.branch ?_ ?_ <;> intro h)
                | (refine F.hold hA 2000 ?_; cbv))
              refine F.call [2] (left_ok b q hat2.rd) rfl rfl rfl fun rs H' hq => ?_
              obtain ⟨r, rfl, rfl, hr⟩ := hq
              refine ⟨rfl, ?_⟩
              have hr : LeftIs b q r := hr
              repeat' (first
                | contradiction
                | exact (kill_neq hA (by assumption) (hat2.left he hr)).elim
                | refine OK.drawn (by decide +kernel) ?_
                | refine OK.tree ⟨fun _ => ⟨.other, 0, 0, .no⟩, fun _ => true⟩ (by decide +kernel) ?_
                | refine OK.both ?_ ?_
                | refine OK.need (by first | assumption | (rw [hA]; first | (show (_ : Int) ≠ _; decide) | (show (0 : Int) ≤ _; decide) | (show (0 : Int) ≤ _ ∧ _ < (256 : Int); decide))) ?_
                | refine OK.need ?_ ?_
                | (refine OK.branch ?_ ?_ <;> intro h)
                | (refine F.hold hA 2000 ?_; cbv))
              refine F.call [2] (peek_ok b q peek hat2.rd) rfl rfl rfl fun rs H' hq => ?_
              obtain ⟨pv2, rfl, rfl, hpv2⟩ := hq
              refine ⟨rfl, ?_⟩
              repeat' (first
                | contradiction
                | exact (kill_neq hA (by assumption) (hpv2.same hpk)).elim
                | refine OK.drawn (by decide +kernel) ?_
                | refine OK.tree ⟨fun _ => ⟨.other, 0, 0, .no⟩, fun _ => true⟩ (by decide +kernel) ?_
                | refine OK.both ?_ ?_
                | refine OK.need (by first | assumption | (rw [hA]; first | (show (_ : Int) ≠ _; decide) | (show (0 : Int) ≤ _; decide) | (show (0 : Int) ≤ _ ∧ _ < (256 : Int); decide))) ?_
                | refine OK.need ?_ ?_
                | (refine OK.branch ?_ ?_ <;> intro h)
                | (refine F.hold hA 2000 ?_; cbv))
              refine OK.back (hBk _ _ (_, _, _) (by cbv; repeat (first | exact WkH.nil _ | apply WkH.gone | refine WkH.eq rfl ?_)) (by cbv; repeat (first | apply WkL.any | exact WkL.nil _ | refine WkL.eq rfl ?_)) (by cbv; exact ⟨rfl⟩) ?_ ?_)
              · exact ⟨(hT.back2 hA hgg he).1, he⟩
              · exact (hT.back2 hA hgg he).2
        · have ep : q = p := ep
          subst ep
          have hT := hT0
          have he : Eqz q q := rfl
          repeat' (first
            | contradiction
            | exact (kill_t hA (by assumption)).elim
            | exact (kill_f hA (by assumption)).elim
            | exact (kill_ff hA (by assumption)).elim
            | exact (kill_beq hA (by assumption) (leq_false hA (fun h3 => g1 ⟨std_geq hA (by assumption), by rw [hat.eL] at h3; exact h3⟩)).symm).elim
            | exact (leq_kill hA (by assumption) (fun h3 => g1 ⟨std_geq hA (by assumption), by rw [hat.eL] at h3; exact h3⟩)).elim
            | refine OK.drawn (by decide +kernel) ?_
            | refine OK.tree ⟨fun _ => ⟨.other, 0, 0, .no⟩, fun _ => true⟩ (by decide +kernel) ?_
            | refine OK.both ?_ ?_
            | refine OK.need (by first | assumption | (rw [hA]; first | (show (_ : Int) ≠ _; decide) | (show (0 : Int) ≤ _; decide) | (show (0 : Int) ≤ _ ∧ _ < (256 : Int); decide))) ?_
            | refine OK.need ?_ ?_
            | (refine OK.branch ?_ ?_ <;> intro h)
            | (refine F.hold hA 2000 ?_; cbv))
          all_goals
            as_aux_lemma =>
              have hat2 := hT.at hA hgg
              first
                | (refine F.call [] (refGet_ok b _ _ q.toNat peek.toNat (hat2.get hgg he (std_geq hA (by assumption)) (std_leq hA (by assumption)))) rfl rfl rfl fun rs H' hq' => ?_
                   obtain ⟨pv, rfl, rfl, hpv⟩ := hq'
                   refine ⟨rfl, ?_⟩
                   have hpk := peek_get ⟨std_geq hA (by assumption), std_leq hA (by assumption)⟩ hpv)
                | have hpk : PeekIs b q peek 0 := peek_bad fun hh => std_nleq hA (by assumption) hh.2
                | have hpk : PeekIs b q peek 0 := peek_bad fun hh => std_ngeq hA (by assumption) hh.1
              repeat' (first
                | refine OK.drawn (by decide +kernel) ?_
                | refine OK.tree ⟨fun _ => ⟨.other, 0, 0, .no⟩, fun _ => true⟩ (by decide +kernel) ?_
                | refine OK.both ?_ ?_
                | refine OK.need (by first | assumption | (rw [hA]; first | (show (_ : Int) ≠ _; decide) | (show (0 : Int) ≤ _; decide) | (show (0 : Int) ≤ _ ∧ _ < (256 : Int); decide))) ?_
                | refine OK.need ?_ ?_
                | (refine OK.branch ?_ ?_ <;> intro h)
                | (refine F.hold hA 2000 ?_; cbv))
              refine F.call [2] (at_ok b q) rfl rfl rfl fun rs H' hq => ?_
              obtain ⟨rfl, rfl⟩ := hq
              refine ⟨rfl, ?_⟩
              repeat' (first
                | contradiction
                | exact (kill_neq hA (by assumption) (Eqz.symm he)).elim
                | refine OK.drawn (by decide +kernel) ?_
                | refine OK.tree ⟨fun _ => ⟨.other, 0, 0, .no⟩, fun _ => true⟩ (by decide +kernel) ?_
                | refine OK.both ?_ ?_
                | refine OK.need (by first | assumption | (rw [hA]; first | (show (_ : Int) ≠ _; decide) | (show (0 : Int) ≤ _; decide) | (show (0 : Int) ≤ _ ∧ _ < (256 : Int); decide))) ?_
                | refine OK.need ?_ ?_
                | (refine OK.branch ?_ ?_ <;> intro h)
                | (refine F.hold hA 2000 ?_; cbv))
              refine F.call [2] (left_ok b q hat2.rd) rfl rfl rfl fun rs H' hq => ?_
              obtain ⟨r, rfl, rfl, hr⟩ := hq
              refine ⟨rfl, ?_⟩
              have hr : LeftIs b q r := hr
              repeat' (first
                | contradiction
                | exact (kill_neq hA (by assumption) (hat2.left he hr)).elim
                | refine OK.drawn (by decide +kernel) ?_
                | refine OK.tree ⟨fun _ => ⟨.other, 0, 0, .no⟩, fun _ => true⟩ (by decide +kernel) ?_
                | refine OK.both ?_ ?_
                | refine OK.need (by first | assumption | (rw [hA]; first | (show (_ : Int) ≠ _; decide) | (show (0 : Int) ≤ _; decide) | (show (0 : Int) ≤ _ ∧ _ < (256 : Int); decide))) ?_
                | refine OK.need ?_ ?_
                | (refine OK.branch ?_ ?_ <;> intro h)
                | (refine F.hold hA 2000 ?_; cbv))
              refine F.call [2] (peek_ok b q peek hat2.rd) rfl rfl rfl fun rs H' hq => ?_
              obtain ⟨pv2, rfl, rfl, hpv2⟩ := hq
              refine ⟨rfl, ?_⟩
              repeat' (first
                | contradiction
                | exact (kill_neq hA (by assumption) (hpv2.same hpk)).elim
                | refine OK.drawn (by decide +kernel) ?_
                | refine OK.tree ⟨fun _ => ⟨.other, 0, 0, .no⟩, fun _ => true⟩ (by decide +kernel) ?_
                | refine OK.both ?_ ?_
                | refine OK.need (by first | assumption | (rw [hA]; first | (show (_ : Int) ≠ _; decide) | (show (0 : Int) ≤ _; decide) | (show (0 : Int) ≤ _ ∧ _ < (256 : Int); decide))) ?_
                | refine OK.need ?_ ?_
                | (refine OK.branch ?_ ?_ <;> intro h)
                | (refine F.hold hA 2000 ?_; cbv))
              refine OK.back (hBk _ _ (_, _, _) (by cbv; repeat (first | exact WkH.nil _ | apply WkH.gone | refine WkH.eq rfl ?_)) (by cbv; repeat (first | apply WkL.any | exact WkL.nil _ | refine WkL.eq rfl ?_)) (by cbv; exact ⟨rfl⟩) ?_ ?_)
              · exact ⟨(hT.back2 hA hgg he).1, he⟩
              · exact (hT.back2 hA hgg he).2
    repeat (first
      | refine OK.drawn (by decide +kernel) ?_
      | refine OK.tree ⟨fun _ => ⟨.other, 0, 0, .no⟩, fun _ => true⟩ (by decide +kernel) ?_
      | refine OK.need (by first | assumption | (rw [hA]; first | (show (_ : Int) ≠ _; decide) | (show (0 : Int) ≤ _; decide) | (show (0 : Int) ≤ _ ∧ _ < (256 : Int); decide))) ?_
      | (refine F.hold hA 2000 ?_; cbv))
    refine OK.branch (fun c2 => ?_) (fun c2 => ?_)
    · repeat' (first
        | refine OK.drawn (by decide +kernel) ?_
        | refine OK.tree ⟨fun _ => ⟨.other, 0, 0, .no⟩, fun _ => true⟩ (by decide +kernel) ?_
        | refine OK.both ?_ ?_
        | refine OK.need (by first | assumption | (rw [hA]; first | (show (_ : Int) ≠ _; decide) | (show (0 : Int) ≤ _; decide) | (show (0 : Int) ≤ _ ∧ _ < (256 : Int); decide))) ?_
        | refine OK.need ?_ ?_
        | (refine OK.branch ?_ ?_ <;> intro h)
        | (refine F.hold hA 2000 ?_; cbv))
      refine F.call [2] (rdAlign_ok b p ⟨hat.rd.lo, hat.rd.hi⟩) rfl rfl rfl fun rs H' hq => ?_
      obtain ⟨q, rfl, rfl, hu⟩ := hq
      refine ⟨rfl, ?_⟩
      have hT : RdT A b calls i2 q := hT0.up hu
      have he : Eqz (A.ar .mul .i64 (A.ar .quo .i64 (A.ar .add .i64 p 7) 8) 8) q := hat.up hA hgg hu
      repeat' (first
        | refine OK.drawn (by decide +kernel) ?_
        | refine OK.tree ⟨fun _ => ⟨.other, 0, 0, .no⟩, fun _ => true⟩ (by decide +kernel) ?_
        | refine OK.both ?_ ?_
        | refine OK.need (by first | assumption | (rw [hA]; first | (show (_ : Int) ≠ _; decide) | (show (0 : Int) ≤ _; decide) | (show (0 : Int) ≤ _ ∧ _ < (256 : Int); decide))) ?_
        | refine OK.need ?_ ?_
        | (refine OK.branch ?_ ?_ <;> intro h)
        | (refine F.hold hA 2000 ?_; cbv))
      all_goals
        as_aux_lemma =>
          have hat2 := hT.at hA hgg
          first
            | (refine F.call [] (refGet_ok b _ _ q.toNat peek.toNat (hat2.get hgg he (std_geq hA (by assumption)) (std_leq hA (by assumption)))) rfl rfl rfl fun rs H' hq' => ?_
               obtain ⟨pv, rfl, rfl, hpv⟩ := hq'
               refine ⟨rfl, ?_⟩
               have hpk := peek_get ⟨std_geq hA (by assumption), std_leq hA (by assumption)⟩ hpv)
            | have hpk : PeekIs b q peek 0 := peek_bad fun hh => std_nleq hA (by assumption) hh.2
            | have hpk : PeekIs b q peek 0 := peek_bad fun hh => std_ngeq hA (by assumption) hh.1
          repeat' (first
            | refine OK.drawn (by decide +kernel) ?_
            | refine OK.tree ⟨fun _ => ⟨.other, 0, 0, .no⟩, fun _ => true⟩ (by decide +kernel) ?_
            | refine OK.both ?_ ?_
            | refine OK.need (by first | assumption | (rw [hA]; first | (show (_ : Int) ≠ _; decide) | (show (0 : Int) ≤ _; decide) | (show (0 : Int) ≤ _ ∧ _ < (256 : Int); decide))) ?_
            | refine OK.need ?_ ?_
            | (refine OK.branch ?_ ?_ <;> intro h)
            | (refine F.hold hA 2000 ?_; cbv))
          refine F.call [2] (at_ok b q) rfl rfl rfl fun rs H' hq => ?_
          obtain ⟨rfl, rfl⟩ := hq
          refine ⟨rfl, ?_⟩
          repeat' (first
            | contradiction
            | exact (kill_neq hA (by assumption) (Eqz.symm he)).elim
            | refine OK.drawn (by decide +kernel) ?_
            | refine OK.tree ⟨fun _ => ⟨.other, 0, 0, .no⟩, fun _ => true⟩ (by decide +kernel) ?_
            | refine OK.both ?_ ?_
            | refine OK.need (by first | assumption | (rw [hA]; first | (show (_ : Int) ≠ _; decide) | (show (0 : Int) ≤ _; decide) | (show (0 : Int) ≤ _ ∧ _ < (256 : Int); decide))) ?_
            | refine OK.need ?_ ?_
            | (refine OK.branch ?_ ?_ <;> intro h)
            | (refine F.hold hA 2000 ?_; cbv))
          refine F.call [2] (left_ok b q hat2.rd) rfl rfl rfl fun rs H' hq => ?_
          obtain ⟨r, rfl, rfl, hr⟩ := hq
          refine ⟨rfl, ?_⟩
          have hr : LeftIs b q r := hr
          repeat' (first
            | contradiction
            | exact (kill_neq hA (by assumption) (hat2.left he hr)).elim
            | refine OK.drawn (by decide +kernel) ?_
            | refine OK.tree ⟨fun _ => ⟨.other, 0, 0, .no⟩, fun _ => true⟩ (by decide +kernel) ?_
            | refine OK.both ?_ ?_
            | refine OK.need (by first | assumption | (rw [hA]; first | (show (_ : Int) ≠ _; decide) | (show (0 : Int) ≤ _; decide) | (show (0 : Int) ≤ _ ∧ _ < (256 : Int); decide))) ?_
            | refine OK.need ?_ ?_
            | (refine OK.branch ?_ ?_ <;> intro h)
            | (refine F.hold hA 2000 ?_; cbv))
          refine F.call [2] (peek_ok b q peek hat2.rd) rfl rfl rfl fun rs H' hq => ?_
          obtain ⟨pv2, rfl, rfl, hpv2⟩ := hq
          refine ⟨rfl, ?_⟩
          repeat' (first
            | contradiction
            | exact (kill_neq hA (by assumption) (hpv2.same hpk)).elim
            | refine OK.drawn (by decide +kernel) ?_
            | refine OK.tree ⟨fun _ => ⟨.other, 0, 0, .no⟩, fun _ => true⟩ (by decide +kernel) ?_
            | refine OK.both ?_ ?_
            | refine OK.need (by first | assumption | (rw [hA]; first | (show (_ : Int) ≠ _; decide) | (show (0 : Int) ≤ _; decide) | (show (0 : Int) ≤ _ ∧ _ < (256 : Int); decide))) ?_
            | refine OK.need ?_ ?_
            | (refine OK.branch ?_ ?_ <;> intro h)
            | (refine F.hold hA 2000 ?_; cbv))
          refine OK.back (hBk _ _ (_, _, _) (by cbv; repeat (first | exact WkH.nil _ | apply WkH.gone | refine WkH.eq rfl ?_)) (by cbv; repeat (first | apply WkL.any | exact WkL.nil _ | refine WkL.eq rfl ?_)) (by cbv; exact ⟨rfl⟩) ?_ ?_)
          · exact ⟨(hT.back2 hA hgg he).1, he⟩
          · exact (hT.back2 hA hgg he).2
    repeat (first
      | refine OK.drawn (by decide +kernel) ?_
      | refine OK.tree ⟨fun _ => ⟨.other, 0, 0, .no⟩, fun _ => true⟩ (by decide +kernel) ?_
      | refine OK.need (by first | assumption | (rw [hA]; first | (show (_ : Int) ≠ _; decide) | (show (0 : Int) ≤ _; decide) | (show (0 : Int) ≤ _ ∧ _ < (256 : Int); decide))) ?_
      | (refine F.hold hA 2000 ?_; cbv))
    refine OK.branch (fun c3 => ?_) (fun c3 => ?_)
    · repeat' (first
        | refine OK.drawn (by decide +kernel) ?_
        | refine OK.tree ⟨fun _ => ⟨.other, 0, 0, .no⟩, fun _ => true⟩ (by decide +kernel) ?_
        | refine OK.both ?_ ?_
        | refine OK.need (by first | assumption | (rw [hA]; first | (show (_ : Int) ≠ _; decide) | (show (0 : Int) ≤ _; decide) | (show (0 : Int) ≤ _ ∧ _ < (256 : Int); decide))) ?_
        | refine OK.need ?_ ?_
        | (refine OK.branch ?_ ?_ <;> intro h)
        | (refine F.hold hA 2000 ?_; cbv))
      refine F.call [2] (bytes_ok b p _ hat.rd) rfl rfl rfl fun rs H' hq => ?_
      obtain ⟨zs, r, q, rfl, rfl, hb⟩ := hq
      refine ⟨rfl, ?_⟩
      obtain ⟨f1, f2⟩ := hat.fr hA hgg
      rcases hb with ⟨rfl, g1, g3, ep, ex⟩ | ⟨rfl, g1, ep, ex⟩
      · have hby := hat.by hT0 hA hgg g1 g3 ep ex
        have hT := hby.nt
        have he := hby.eq
        have hsl := hby.sl
        have hle := hby.le
        clear ep ex
        repeat' (first
          | contradiction
          | exact (kill_t hA (by assumption)).elim
          | exact (kill_f hA (by assumption)).elim
          | exact (kill_ff hA (by assumption)).elim
          | exact (kill_geq hA (by assumption) g1).elim
          | exact (kill_beq hA (by assumption) (leq_true hA (by rw [f2]; exact g3)).symm).elim
          | exact (kill_leq hA (by assumption) (by rw [f2]; exact g3)).elim
          | refine OK.drawn (by decide +kernel) ?_
          | refine OK.tree ⟨fun _ => ⟨.other, 0, 0, .no⟩, fun _ => true⟩ (by decide +kernel) ?_
          | refine OK.both ?_ ?_
          | refine OK.need (by first | assumption | (rw [hA]; first | (show (_ : Int) ≠ _; decide) | (show (0 : Int) ≤ _; decide) | (show (0 : Int) ≤ _ ∧ _ < (256 : Int); decide))) ?_
          | refine OK.need ?_ ?_
          | (refine OK.branch ?_ ?_ <;> intro h)
          | (refine F.hold hA 2000 ?_; cbv))
        refine F.callFrz 3 rfl rfl rfl rfl ?_
        refine F.call [] (same_ok _ _ hle) rfl rfl rfl fun rs H' hq => ?_
        obtain ⟨s, rfl, rfl, hs2⟩ := hq
        refine ⟨rfl, ?_⟩
        obtain rfl := hby.same _ hs2
        repeat' (first
          | contradiction
          | exact (kill_t hA (by assumption)).elim
          | exact (kill_f hA (by assumption)).elim
          | exact (kill_ff hA (by assumption)).elim
          | refine OK.drawn (by decide +kernel) ?_
          | refine OK.tree ⟨fun _ => ⟨.other, 0, 0, .no⟩, fun _ => true⟩ (by decide +kernel) ?_
          | refine OK.both ?_ ?_
          | refine OK.need (by first | assumption | (rw [hA]; first | (show (_ : Int) ≠ _; decide) | (show (0 : Int) ≤ _; decide) | (show (0 : Int) ≤ _ ∧ _ < (256 : Int); decide))) ?_
          | refine OK.need ?_ ?_
          | (refine OK.branch ?_ ?_ <;> intro h)
          | (refine F.hold hA 2000 ?_; cbv))
        all_goals
          as_aux_lemma =>
            have hat2 := hT.at hA hgg
            first
              | (refine F.call [] (refGet_ok b _ _ q.toNat peek.toNat (hat2.get hgg he (std_geq hA (by assumption)) (std_leq hA (by assumption)))) rfl rfl rfl fun rs H' hq' => ?_
                 obtain ⟨pv, rfl, rfl, hpv⟩ := hq'
                 refine ⟨rfl, ?_⟩
                 have hpk := peek_get ⟨std_geq hA (by assumption), std_leq hA (by assumption)⟩ hpv)
              | have hpk : PeekIs b q peek 0 := peek_bad fun hh => std_nleq hA (by assumption) hh.2
              | have hpk : PeekIs b q peek 0 := peek_bad fun hh => std_ngeq hA (by assumption) hh.1
            repeat' (first
              | refine OK.drawn (by decide +kernel) ?_
              | refine OK.tree ⟨fun _ => ⟨.other, 0, 0, .no⟩, fun _ => true⟩ (by decide +kernel) ?_
              | refine OK.both ?_ ?_
              | refine OK.need (by first | assumption | (rw [hA]; first | (show (_ : Int) ≠ _; decide) | (show (0 : Int) ≤ _; decide) | (show (0 : Int) ≤ _ ∧ _ < (256 : Int); decide))) ?_
              | refine OK.need ?_ ?_
              | (refine OK.branch ?_ ?_ <;> intro h)
              | (refine F.hold hA 2000 ?_; cbv))
            refine F.call [2] (at_ok b q) rfl rfl rfl fun rs H' hq => ?_
            obtain ⟨rfl, rfl⟩ := hq
            refine ⟨rfl, ?_⟩
            repeat' (first
              | contradiction
              | exact (kill_neq hA (by assumption) (Eqz.symm he)).elim
              | refine OK.drawn (by decide +kernel) ?_
              | refine OK.tree ⟨fun _ => ⟨.other, 0, 0, .no⟩, fun _ => true⟩ (by decide +kernel) ?_
              | refine OK.both ?_ ?_
              | refine OK.need (by first | assumption | (rw [hA]; first | (show (_ : Int) ≠ _; decide) | (show (0 : Int) ≤ _; decide) | (show (0 : Int) ≤ _ ∧ _ < (256 : Int); decide))) ?_
              | refine OK.need ?_ ?_
              | (refine OK.branch ?_ ?_ <;> intro h)
              | (refine F.hold hA 2000 ?_; cbv))
            refine F.call [2] (left_ok b q hat2.rd) rfl rfl rfl fun rs H' hq => ?_
            obtain ⟨r, rfl, rfl, hr⟩ := hq
            refine ⟨rfl, ?_⟩
            have hr : LeftIs b q r := hr
            repeat' (first
              | contradiction
              | exact (kill_neq hA (by assumption) (hat2.left he hr)).elim
              | refine OK.drawn (by decide +kernel) ?_
              | refine OK.tree ⟨fun _ => ⟨.other, 0, 0, .no⟩, fun _ => true⟩ (by decide +kernel) ?_
              | refine OK.both ?_ ?_
              | refine OK.need (by first | assumption | (rw [hA]; first | (show (_ : Int) ≠ _; decide) | (show (0 : Int) ≤ _; decide) | (show (0 : Int) ≤ _ ∧ _ < (256 : Int); decide))) ?_
              | refine OK.need ?_ ?_
              | (refine OK.branch ?_ ?_ <;> intro h)
              | (refine F.hold hA 2000 ?_; cbv))
            refine F.call [2] (peek_ok b q peek hat2.rd) rfl rfl rfl fun rs H' hq => ?_
            obtain ⟨pv2, rfl, rfl, hpv2⟩ := hq
            refine ⟨rfl, ?_⟩
            repeat' (first
              | contradiction
              | exact (kill_neq hA (by assumption) (hpv2.same hpk)).elim
              | refine OK.drawn (by decide +kernel) ?_
              | refine OK.tree ⟨fun _ => ⟨.other, 0, 0, .no⟩, fun _ => true⟩ (by decide +kernel) ?_
              | refine OK.both ?_ ?_
              | refine OK.need (by first | assumption | (rw [hA]; first | (show (_ : Int) ≠ _; decide) | (show (0 : Int) ≤ _; decide) | (show (0 : Int) ≤ _ ∧ _ < (256 : Int); decide))) ?_
              | refine OK.need ?_ ?_
              | (refine OK.branch ?_ ?_ <;> intro h)
              | (refine F.hold hA 2000 ?_; cbv))
            refine OK.back (hBk _ _ (_, _, _) (by cbv; repeat (first | exact WkH.nil _ | apply WkH.gone | refine WkH.eq rfl ?_)) (by cbv; repeat (first | apply WkL.any | exact WkL.nil _ | refine WkL.eq rfl ?_)) (by cbv; exact ⟨rfl⟩) ?_ ?_)
            · exact ⟨(hT.back2 hA hgg he).1, he⟩
            · exact (hT.back2 hA hgg he).2
      · have ep : q = p := ep
        subst ep
        have hT := hT0
        have he : Eqz q q := rfl
        have hz : Emp zs := ex
        clear ex
        repeat' (first
          | contradiction
          | exact (kill_t hA (by assumption)).elim
          | exact (kill_f hA (by assumption)).elim
          | exact (kill_ff hA (by assumption)).elim
          | exact (kill_beq hA (by assumption) (leq_false hA (fun h3 => g1 ⟨std_geq hA (by assumption), by rw [f2] at h3; exact h3⟩)).symm).elim
          | exact (leq_kill hA (by assumption) (fun h3 => g1 ⟨std_geq hA (by assumption), by rw [f2] at h3; exact h3⟩)).elim
          | exact (hz.kill hA (by assumption)).elim
          | refine OK.drawn (by decide +kernel) ?_
          | refine OK.tree ⟨fun _ => ⟨.other, 0, 0, .no⟩, fun _ => true⟩ (by decide +kernel) ?_
          | refine OK.both ?_ ?_
          | refine OK.need (by first | assumption | (rw [hA]; first | (show (_ : Int) ≠ _; decide) | (show (0 : Int) ≤ _; decide) | (show (0 : Int) ≤ _ ∧ _ < (256 : Int); decide))) ?_
          | refine OK.need ?_ ?_
          | (refine OK.branch ?_ ?_ <;> intro h)
          | (refine F.hold hA 2000 ?_; cbv))
        all_goals
          as_aux_lemma =>
            have hat2 := hT.at hA hgg
            first
              | (refine F.call [] (refGet_ok b _ _ q.toNat peek.toNat (hat2.get hgg he (std_geq hA (by assumption)) (std_leq hA (by assumption)))) rfl rfl rfl fun rs H' hq' => ?_
                 obtain ⟨pv, rfl, rfl, hpv⟩ := hq'
                 refine ⟨rfl, ?_⟩
                 have hpk := peek_get ⟨std_geq hA (by assumption), std_leq hA (by assumption)⟩ hpv)
              | have hpk : PeekIs b q peek 0 := peek_bad fun hh => std_nleq hA (by assumption) hh.2
              | have hpk : PeekIs b q peek 0 := peek_bad fun hh => std_ngeq hA (by assumption) hh.1
            repeat' (first
              | refine OK.drawn (by decide +kernel) ?_
              | refine OK.tree ⟨fun _ => ⟨.other, 0, 0, .no⟩, fun _ => true⟩ (by decide +kernel) ?_
              | refine OK.both ?_ ?_
              | refine OK.need (by first | assumption | (rw [hA]; first | (show (_ : Int) ≠ _; decide) | (show (0 : Int) ≤ _; decide) | (show (0 : Int) ≤ _ ∧ _ < (256 : Int); decide))) ?_
              | refine OK.need ?_ ?_
              | (refine OK.branch ?_ ?_ <;> intro h)
              | (refine F.hold hA 2000 ?_; cbv))
            refine F.call [2] (at_ok b q) rfl rfl rfl fun rs H' hq => ?_
            obtain ⟨rfl, rfl⟩ := hq
            refine ⟨rfl, ?_⟩
            repeat' (first
              | contradiction
              | exact (kill_neq hA (by assumption) (Eqz.symm he)).elim
              | refine OK.drawn (by decide +kernel) ?_
              | refine OK.tree ⟨fun _ => ⟨.other, 0, 0, .no⟩, fun _ => true⟩ (by decide +kernel) ?_
              | refine OK.both ?_ ?_
              | refine OK.need (by first | assumption | (rw [hA]; first | (show (_ : Int) ≠ _; decide) | (show (0 : Int) ≤ _; decide) | (show (0 : Int) ≤ _ ∧ _ < (256 : Int); decide))) ?_
              | refine OK.need ?_ ?_
              | (refine OK.branch ?_ ?_ <;> intro h)
              | (refine F.hold hA 2000 ?_; cbv))
            refine F.call [2] (left_ok b q hat2.rd) rfl rfl rfl fun rs H' hq => ?_
            obtain ⟨r, rfl, rfl, hr⟩ := hq
            refine ⟨rfl, ?_⟩
            have hr : LeftIs b q r := hr
            repeat' (first
              | contradiction
              | exact (kill_neq hA (by assumption) (hat2.left he hr)).elim
              | refine OK.drawn (by decide +kernel) ?_
              | refine OK.tree ⟨fun _ => ⟨.other, 0, 0, .no⟩, fun _ => true⟩ (by decide +kernel) ?_
              | refine OK.both ?_ ?_
              | refine OK.need (by first | assumption | (rw [hA]; first | (show (_ : Int) ≠ _; decide) | (show (0 : Int) ≤ _; decide) | (show (0 : Int) ≤ _ ∧ _ < (256 : Int); decide))) ?_
              | refine OK.need ?_ ?_
              | (refine OK.branch ?_ ?_ <;> intro h)
              | (refine F.hold hA 2000 ?_; cbv))
            refine F.call [2] (peek_ok b q peek hat2.rd) rfl rfl rfl fun rs H' hq => ?_
            obtain ⟨pv2, rfl, rfl, hpv2⟩ := hq
            refine ⟨rfl, ?_⟩
            repeat' (first
              | contradiction
              | exact (kill_neq hA (by assumption) (hpv2.same hpk)).elim
              | refine OK.drawn (by decide +kernel) ?_
              | refine OK.tree ⟨fun _ => ⟨.other, 0, 0, .no⟩, fun _ => true⟩ (by decide +kernel) ?_
              | refine OK.both ?_ ?_
              | refine OK.need (by first | assumption | (rw [hA]; first | (show (_ : Int) ≠ _; decide) | (show (0 : Int) ≤ _; decide) | (show (0 : Int) ≤ _ ∧ _ < (256 : Int); decide))) ?_
              | refine OK.need ?_ ?_
              | (refine OK.branch ?_ ?_ <;> intro h)
              | (refine F.hold hA 2000 ?_; cbv))
            refine OK.back (hBk _ _ (_, _, _) (by cbv; repeat (first | exact WkH.nil _ | apply WkH.gone | refine WkH.eq rfl ?_)) (by cbv; repeat (first | apply WkL.any | exact WkL.nil _ | refine WkL.eq rfl ?_)) (by cbv; exact ⟨rfl⟩) ?_ ?_)
            · exact ⟨(hT.back2 hA hgg he).1, he⟩
            · exact (hT.back2 hA hgg he).2
    · obtain ⟨q, hq2⟩ : ∃ q, q = p := ⟨_, rfl⟩
      subst hq2
      have hT := hT0
      have he : Eqz q q := rfl
      repeat' (first
        | refine OK.drawn (by decide +kernel) ?_
        | refine OK.tree ⟨fun _ => ⟨.other, 0, 0, .no⟩, fun _ => true⟩ (by decide +kernel) ?_
        | refine OK.both ?_ ?_
        | refine OK.need (by first | assumption | (rw [hA]; first | (show (_ : Int) ≠ _; decide) | (show (0 : Int) ≤ _; decide) | (show (0 : Int) ≤ _ ∧ _ < (256 : Int); decide))) ?_
        | refine OK.need ?_ ?_
        | (refine OK.branch ?_ ?_ <;> intro h)
        | (refine F.hold hA 2000 ?_; cbv))
      all_goals
        as_aux_lemma =>
          have hat2 := hT.at hA hgg
          first
            | (refine F.call [] (refGet_ok b _ _ q.toNat peek.toNat (hat2.get hgg he (std_geq hA (by assumption)) (std_leq hA (by assumption)))) rfl rfl rfl fun rs H' hq' => ?_
               obtain ⟨pv, rfl, rfl, hpv⟩ := hq'
               refine ⟨rfl, ?_⟩
               have hpk := peek_get ⟨std_geq hA (by assumption), std_leq hA (by assumption)⟩ hpv)
            | have hpk : PeekIs b q peek 0 := peek_bad fun hh => std_nleq hA (by assumption) hh.2
            | have hpk : PeekIs b q peek 0 := peek_bad fun hh => std_ngeq hA (by assumption) hh.1
          repeat' (first
            | refine OK.drawn (by decide +kernel) ?_
            | refine OK.tree ⟨fun _ => ⟨.other, 0, 0, .no⟩, fun _ => true⟩ (by decide +kernel) ?_
            | refine OK.both ?_ ?_
            | refine OK.need (by first | assumption | (rw [hA]; first | (show (_ : Int) ≠ _; decide) | (show (0 : Int) ≤ _; decide) | (show (0 : Int) ≤ _ ∧ _ < (256 : Int); decide))) ?_
            | refine OK.need ?_ ?_
            | (refine OK.branch ?_ ?_ <;> intro h)
            | (refine F.hold hA 2000 ?_; cbv))
          refine F.call [2] (at_ok b q) rfl rfl rfl fun rs H' hq => ?_
          obtain ⟨rfl, rfl⟩ := hq
          refine ⟨rfl, ?_⟩
          repeat' (first
            | contradiction
            | exact (kill_neq hA (by assumption) (Eqz.symm he)).elim
            | refine OK.drawn (by decide +kernel) ?_
            | refine OK.tree ⟨fun _ => ⟨.other, 0, 0, .no⟩, fun _ => true⟩ (by decide +kernel) ?_
            | refine OK.both ?_ ?_
            | refine OK.need (by first | assumption | (rw [hA]; first | (show (_ : Int) ≠ _; decide) | (show (0 : Int) ≤ _; decide) | (show (0 : Int) ≤ _ ∧ _ < (256 : Int); decide))) ?_
            | refine OK.need ?_ ?_
            | (refine OK.branch ?_ ?_ <;> intro h)
            | (refine F.hold hA 2000 ?_; cbv))
          refine F.call [2] (left_ok b q hat2.rd) rfl rfl rfl fun rs H' hq => ?_
          obtain ⟨r, rfl, rfl, hr⟩ := hq
          refine ⟨rfl, ?_⟩
          have hr : LeftIs b q r := hr
          repeat' (first
            | contradiction
            | exact (kill_neq hA (by assumption) (hat2.left he hr)).elim
            | refine OK.drawn (by decide +kernel) ?_
            | refine OK.tree ⟨fun _ => ⟨.other, 0, 0, .no⟩, fun _ => true⟩ (by decide +kernel) ?_
            | refine OK.both ?_ ?_
            | refine OK.need (by first | assumption | (rw [hA]; first | (show (_ : Int) ≠ _; decide) | (show (0 : Int) ≤ _; decide) | (show (0 : Int) ≤ _ ∧ _ < (256 : Int); decide))) ?_
            | refine OK.need ?_ ?_
            | (refine OK.branch ?_ ?_ <;> intro h)
            | (refine F.hold hA 2000 ?_; cbv))
          refine F.call [2] (peek_ok b q peek hat2.rd) rfl rfl rfl fun rs H' hq => ?_
          obtain ⟨pv2, rfl, rfl, hpv2⟩ := hq
          refine ⟨rfl, ?_⟩
          repeat' (first
            | contradiction
            | exact (kill_neq hA (by assumption) (hpv2.same hpk)).elim
            | refine OK.drawn (by decide +kernel) ?_
            | refine OK.tree ⟨fun _ => ⟨.other, 0, 0, .no⟩, fun _ => true⟩ (by decide +kernel) ?_
            | refine OK.both ?_ ?_
            | refine OK.need (by first | assumption | (rw [hA]; first | (show (_ : Int) ≠ _; decide) | (show (0 : Int) ≤ _; decide) | (show (0 : Int) ≤ _ ∧ _ < (256 : Int); decide))) ?_
            | refine OK.need ?_ ?_
            | (refine OK.branch ?_ ?_ <;> intro h)
            | (refine F.hold hA 2000 ?_; cbv))
          refine OK.back (hBk _ _ (_, _, _) (by cbv; repeat (first | exact WkH.nil _ | apply WkH.gone | refine WkH.eq rfl ?_)) (by cbv; repeat (first | apply WkL.any | exact WkL.nil _ | refine WkL.eq rfl ?_)) (by cbv; exact ⟨rfl⟩) ?_ ?_)
          · exact ⟨(hT.back2 hA hgg he).1, he⟩
          · exact (hT.back2 hA hgg he).2
  · repeat' (first
      | refine OK.drawn (by decide +kernel) ?_
      | refine OK.tree ⟨fun _ => ⟨.other, 0, 0, .no⟩, fun _ => true⟩ (by decide +kernel) ?_
      | refine OK.both ?_ ?_
      | refine OK.need (by first | assumption | (rw [hA]; first | (show (_ : Int) ≠ _; decide) | (show (0 : Int) ≤ _; decide) | (show (0 : Int) ≤ _ ∧ _ < (256 : Int); decide))) ?_
      | refine OK.need ?_ ?_
      | (refine OK.branch ?_ ?_ <;> intro h)
      | (refine F.hold hA 2000 ?_; cbv))
    exact F.ret0 ⟨_, rfl, rfl⟩
end Go.L1

-- L1R
namespace Go.L1
open Go Go.Sx Go.Proofs Go.Proofs.Ytlmndkddbmjnfaa
theorem reads_holds : Rows.BitsReadsSaid := reads_row fun b calls peek _ _ h2 _ _ => reads_ok b calls peek (smallB (clsIn h2))
end Go.L1
