/- Own work of the session: part PJ of a proof that the program's functions do what the statement says (a symbolic executor, contracts of the functions, plain laws). -/
import Derived.Test.YtmgmbcniamkfeaaPI
set_option linter.all false
-- D25
namespace Go.L1
open Go Go.Sx Go.Proofs Go.Huff
set_option maxRecDepth 20000
set_option linter.unusedVariables false
set_option linter.unusedSimpArgs false
/-- The row of bits of these bytes. -/
def RowOf (xs row : List UInt8) : Prop := row = brow (valBytes xs) (8 * xs.length)
def FailIs (e0 e e1 : Int) : Prop := e1 = if e0 = 0 then e else e0
theorem fail_ok (row out : List UInt8) (at' lim e0 k b e : Int) : FOK Try.prog C1 63 (fun _ => true) [.ptr 0 0, .int .i64 e]
    [.cells 93 [.ro (.bytes row), .int .i64 at', .own 1, .int .i64 lim, .int .i64 e0, .int .i64 k, .int .i64 b], .row 5 (.bytes out)]
    (fun rs H => ∃ e1, rs = [] ∧ H = [.cells 93 [.ro (.bytes row), .int .i64 at', .own 1, .int .i64 lim, .int .i64 e1, .int .i64 k, .int .i64 b], .row 5 (.bytes out)] ∧ FailIs e0 e e1) := by
  refine fok_of (B := ⟨lookT tis, fun _ => true, []⟩) (tab1 _) (zero1 _) cod1 mix1 Try.func63 (by kernel_rfl) rfl rfl rfl fun X F => ?_
  obtain ⟨A, hA⟩ : ∃ A, A = Leaf.std := ⟨_, rfl⟩
  refine F.hold hA 2000 ?_
  cbv
  repeat' (first
    | refine OK.drawn (by decide +kernel) ?_
    | refine OK.tree ⟨lookT tis, fun _ => true, []⟩ (by decide +kernel) ?_
    | refine OK.both ?_ ?_
    | refine OK.need (by first | assumption | (rw [hA]; first | (show (_ : Int) ≠ _; decide) | (show (0 : Int) ≤ _; decide) | (show (0 : Int) ≤ _ ∧ _ < (256 : Int); decide))) ?_
    | refine OK.need ?_ ?_
    | (refine OK.branch ?_ ?_ <;> intro h)
    | (refine F.hold hA 2000 ?_; cbv))
  · refine F.ret0 ⟨_, rfl, rfl, ?_⟩
    subst hA
    have h : (e0 == 0) = true := h
    have h : e0 = 0 := by simpa using h
    unfold FailIs
    rw [if_pos h]
  · refine F.ret0 ⟨_, rfl, rfl, ?_⟩
    subst hA
    have h : (e0 == 0) = false := h
    have h : ¬ e0 = 0 := by simpa using h
    unfold FailIs
    rw [if_neg h]
/-- Where a document's run may be. -/
structure RsP (xs row : List UInt8) (lim p : Int) (out : List UInt8) (k : Int) : Prop where
  s : SySt xs lim p out k
  r : RowOf xs row
  l : xs.length ≤ 400
theorem RsP.pre {xs row : List UInt8} {lim p : Int} {out : List UInt8} {k : Int} (h : RsP xs row lim p out k) : RPre row (valBytes xs) (8 * xs.length) p :=
  ⟨h.r, by have := h.l; omega, h.s.s.rd.rd.lo, by have := h.s.s.rd.hi; omega⟩
def NumRes (xs : List UInt8) (p : Int) (n : Nat) (e0 v p' e1 : Int) : Prop :=
  (e0 = 0 ∧ e1 = 0 ∧ numR xs p n = .ok (v, p')) ∨ (e0 = 0 ∧ e1 = 15 ∧ numR xs p n = .error 15 ∧ v = 0 ∧ p' = p) ∨ (e0 ≠ 0 ∧ e1 = e0 ∧ v = 0 ∧ p' = p)
def NmInv (N q n : Nat) (w : Int × Int) : Prop := ∃ j : Nat, w.2 = j ∧ j ≤ n ∧ w.1 = (N / 2 ^ q % 2 ^ j : Nat)
structure NmA (A : Leaf) (xs row : List UInt8) (p : Int) (n : Nat) (o i : Int) : Prop where
  q1 : A.inb (A.ar .add .i64 p i) (A.len row)
  q2 : A.nn (A.conv .u64 i)
  nx : NmInv (valBytes xs) p.toNat n (A.ar .add .i64 o (A.ar .shl .i64 (A.conv .i64 (A.b2i (A.get 0 row (A.ar .add .i64 p i)))) (A.conv .u64 i)), A.ar .add .i64 i 1)
  mu : (n - A.ar .add .i64 i 1).toNat < (n - i).toNat
structure NmP (xs row : List UInt8) (p : Int) (n : Nat) : Prop where
  h : RPre row (valBytes xs) (8 * xs.length) p
  n16 : n ≤ 16
  t : p + (n : Int) ≤ 8 * (xs.length : Int)
theorem nmA {A : Leaf} {xs row : List UInt8} {p : Int} {n : Nat} {o i : Int} (hA : A = .std) (hp : NmP xs row p n) (hI : NmInv (valBytes xs) p.toNat n (o, i)) (b1 : A.cmp .lss i n = true) : NmA A xs row p n o i := by
  obtain ⟨⟨hr, hm, h0, h1⟩, hn, ht⟩ := hp
  obtain ⟨j, k1, k2, k3⟩ := hI
  simp only at k1 k3
  subst hA k1
  have b1 : (j : Int) < n := of_decide_eq_true b1
  have e1 : Leaf.std.ar .add .i64 p (j : Int) = ((p.toNat + j : Nat) : Int) := by rw [add_i64 (by omega) (by omega)]; omega
  have e2 : Leaf.std.conv .u64 (j : Int) = (j : Int) := conv_u64 (by omega) (by omega)
  have hl : row.length = 8 * xs.length := by rw [hr, brow_len]
  have hbit : valBytes xs / 2 ^ (p.toNat + j) % 2 < 2 := Nat.mod_lt _ (by decide)
  have e3 : Leaf.std.get 0 row ((p.toNat + j : Nat) : Int) = UInt8.ofNat (valBytes xs / 2 ^ (p.toNat + j) % 2) := by
    show row.getD ((p.toNat + j : Nat) : Int).toNat 0 = _
    rw [Int.toNat_natCast, hr, brow_get _ (by omega)]
  have e4 : Leaf.std.conv .i64 (Leaf.std.b2i (UInt8.ofNat (valBytes xs / 2 ^ (p.toNat + j) % 2))) = ((valBytes xs / 2 ^ (p.toNat + j) % 2 : Nat) : Int) := by
    have : Leaf.std.b2i (UInt8.ofNat (valBytes xs / 2 ^ (p.toNat + j) % 2)) = ((valBytes xs / 2 ^ (p.toNat + j) % 2 : Nat) : Int) := by
      show (((UInt8.ofNat (valBytes xs / 2 ^ (p.toNat + j) % 2)).toNat : Nat) : Int) = _
      have : (UInt8.ofNat (valBytes xs / 2 ^ (p.toNat + j) % 2)).toNat = valBytes xs / 2 ^ (p.toNat + j) % 2 := by simp; omega
      rw [this]
    rw [this]
    exact conv_i64 (by omega) (by omega)
  have hpw : (2 : Nat) ^ j ≤ 2 ^ 16 := Nat.pow_le_pow_right (by decide) (by omega)
  have ep : (2 : Int) ^ (j : Int).toNat = ((2 ^ j : Nat) : Int) := by simp
  have hmul : (valBytes xs / 2 ^ (p.toNat + j) % 2) * 2 ^ j ≤ 1 * 2 ^ j := Nat.mul_le_mul_right _ (by omega)
  have e5 : Leaf.std.ar .shl .i64 ((valBytes xs / 2 ^ (p.toNat + j) % 2 : Nat) : Int) (j : Int) = (((valBytes xs / 2 ^ (p.toNat + j) % 2) * 2 ^ j : Nat) : Int) := by
    have h0 : (0 : Int) ≤ ((valBytes xs / 2 ^ (p.toNat + j) % 2 : Nat) : Int) * 2 ^ (j : Int).toNat := by rw [ep]; exact Int.mul_nonneg (by omega) (by omega)
    have h1 : ((valBytes xs / 2 ^ (p.toNat + j) % 2 : Nat) : Int) * 2 ^ (j : Int).toNat = (((valBytes xs / 2 ^ (p.toNat + j) % 2) * 2 ^ j : Nat) : Int) := by rw [ep]; push_cast; rfl
    show LAr .shl .i64 _ _ = _
    rw [l_shl_i64 (by omega) (by omega) (by rw [h1]; omega) (by rw [h1]; omega), h1]
  have ho : valBytes xs / 2 ^ p.toNat % 2 ^ j < 2 ^ j := Nat.mod_lt _ (Nat.two_pow_pos _)
  have e6 : Leaf.std.ar .add .i64 o (((valBytes xs / 2 ^ (p.toNat + j) % 2) * 2 ^ j : Nat) : Int) = ((valBytes xs / 2 ^ p.toNat % 2 ^ (j + 1) : Nat) : Int) := by
    rw [k3, add_i64 (by omega) (by omega), Nat.mod_pow_succ, Nat.div_div_eq_div_mul, ← Nat.pow_add, Nat.mul_comm (2 ^ j)]
    omega
  have e7 : Leaf.std.ar .add .i64 (j : Int) 1 = ((j + 1 : Nat) : Int) := by rw [add_i64 (by omega) (by omega)]; omega
  refine ⟨?_, ?_, ?_, ?_⟩
  · rw [e1]; show (0 : Int) ≤ _ ∧ _ < (row.length : Int); omega
  · rw [e2]; show (0 : Int) ≤ _; omega
  · rw [e1, e2, e3, e4, e5, e6, e7]
    exact ⟨j + 1, rfl, by omega, rfl⟩
  · rw [e7]; omega
theorem nmEnd {A : Leaf} {xs row : List UInt8} {p : Int} {n : Nat} {o i e0 : Int} (hA : A = .std) (hp : NmP xs row p n) (hI : NmInv (valBytes xs) p.toNat n (o, i)) (b1 : A.cmp .lss i n = false) (he : e0 = 0) : NumRes xs p n e0 o (A.ar .add .i64 p n) e0 := by
  obtain ⟨⟨hr, hm, h0, h1⟩, hn, ht⟩ := hp
  obtain ⟨j, k1, k2, k3⟩ := hI
  simp only at k1 k3
  subst hA k1
  have b1 : ¬ (j : Int) < n := of_decide_eq_false b1
  obtain rfl : j = n := by omega
  refine .inl ⟨he, he, ?_⟩
  unfold numR bitsV
  rw [if_pos (by omega), add_i64 (by omega) (by omega), k3]
theorem nmBad {A : Leaf} {xs row : List UInt8} {p : Int} {n : Nat} {e0 e1 : Int} (hA : A = .std) (hp : RPre row (valBytes xs) (8 * xs.length) p) (hn : n ≤ 16) (h0 : A.cmp .neq e0 0 = false) (h : A.cmp .gtr (A.ar .add .i64 p n) (A.len row) = true) (hf : FailIs e0 15 e1) : NumRes xs p n e0 0 p e1 := by
  obtain ⟨hr, hm, h1, h2⟩ := hp
  obtain rfl := neq_zero hA h0
  subst hA
  have hl : row.length = 8 * xs.length := by rw [hr, brow_len]
  have h : (row.length : Int) < Leaf.std.ar .add .i64 p n := of_decide_eq_true h
  rw [add_i64 (by omega) (by omega)] at h
  refine .inr (.inl ⟨rfl, hf, ?_, rfl, rfl⟩)
  unfold numR
  rw [if_neg (by omega)]
theorem nmGo {A : Leaf} {xs row : List UInt8} {p : Int} {n : Nat} (hA : A = .std) (hp : RPre row (valBytes xs) (8 * xs.length) p) (hn : n ≤ 16) (h : A.cmp .gtr (A.ar .add .i64 p n) (A.len row) = false) : NmP xs row p n := by
  have hp2 := hp
  obtain ⟨hr, hm, h1, h2⟩ := hp
  subst hA
  have hl : row.length = 8 * xs.length := by rw [hr, brow_len]
  have h : ¬ (row.length : Int) < Leaf.std.ar .add .i64 p n := of_decide_eq_false h
  rw [add_i64 (by omega) (by omega)] at h
  exact ⟨hp2, hn, by omega⟩
theorem nmErr {A : Leaf} {xs : List UInt8} {p : Int} {n : Nat} {e0 e1 : Int} (hA : A = .std) (h : A.cmp .neq e0 0 = true) (hf : FailIs e0 15 e1) : NumRes xs p n e0 0 p e1 := by
  subst hA
  have h : (!(e0 == 0)) = true := h
  have h : ¬ e0 = 0 := by simpa using h
  unfold FailIs at hf
  rw [if_neg h] at hf
  exact .inr (.inr ⟨h, hf, rfl, rfl⟩)
theorem rnumber_ok (xs row out : List UInt8) (p lim e0 k b : Int) (n : Nat) (hn : n ≤ 16) (hp : RPre row (valBytes xs) (8 * xs.length) p) : FOK Try.prog C1 59 (fun _ => true) [.ptr 0 0, .int .i64 n]
    [.cells 93 [.ro (.bytes row), .int .i64 p, .own 1, .int .i64 lim, .int .i64 e0, .int .i64 k, .int .i64 b], .row 5 (.bytes out)]
    (fun rs H => ∃ v p' e1, rs = [.int .i64 v] ∧ H = [.cells 93 [.ro (.bytes row), .int .i64 p', .own 1, .int .i64 lim, .int .i64 e1, .int .i64 k, .int .i64 b], .row 5 (.bytes out)] ∧ NumRes xs p n e0 v p' e1) := by
  generalize hN : (n : Int) = nn
  refine fok_of (B := ⟨lookT tis, fun _ => true, []⟩) (tab1 _) (zero1 _) cod1 mix1 Try.func59 (by kernel_rfl) rfl rfl rfl fun X F => ?_
  obtain ⟨A, hA⟩ : ∃ A, A = Leaf.std := ⟨_, rfl⟩
  refine F.hold hA 2000 ?_
  cbv
  repeat' (first
    | refine OK.drawn (by decide +kernel) ?_
    | refine OK.tree ⟨lookT tis, fun _ => true, []⟩ (by decide +kernel) ?_
    | refine OK.both ?_ ?_
    | refine OK.need (by first | assumption | (rw [hA]; first | (show (_ : Int) ≠ _; decide) | (show (0 : Int) ≤ _; decide) | (show (0 : Int) ≤ _ ∧ _ < (256 : Int); decide))) ?_
    | refine OK.need ?_ ?_
    | (refine OK.branch ?_ ?_ <;> intro h)
    | (refine F.hold hA 2000 ?_; cbv))
  · refine F.call [0, 1] (fail_ok row out p lim e0 k b 15) rfl rfl rfl fun rs H' hq => ?_
    obtain ⟨e1, rfl, rfl, hf⟩ := hq
    refine ⟨rfl, ?_⟩
    repeat (first
      | refine OK.drawn (by decide +kernel) ?_
      | refine OK.tree ⟨lookT tis, fun _ => true, []⟩ (by decide +kernel) ?_
      | refine OK.need (by first | assumption | (rw [hA]; first | (show (_ : Int) ≠ _; decide) | (show (0 : Int) ≤ _; decide) | (show (0 : Int) ≤ _ ∧ _ < (256 : Int); decide))) ?_
      | (refine F.hold hA 2000 ?_; cbv))
    exact F.ret0 ⟨_, _, _, rfl, rfl, nmErr hA (by assumption) hf⟩
  · refine F.call [0, 1] (fail_ok row out p lim e0 k b 15) rfl rfl rfl fun rs H' hq => ?_
    obtain ⟨e1, rfl, rfl, hf⟩ := hq
    refine ⟨rfl, ?_⟩
    repeat (first
      | refine OK.drawn (by decide +kernel) ?_
      | refine OK.tree ⟨lookT tis, fun _ => true, []⟩ (by decide +kernel) ?_
      | refine OK.need (by first | assumption | (rw [hA]; first | (show (_ : Int) ≠ _; decide) | (show (0 : Int) ≤ _; decide) | (show (0 : Int) ≤ _ ∧ _ < (256 : Int); decide))) ?_
      | (refine F.hold hA 2000 ?_; cbv))
    subst hN
    exact F.ret0 ⟨_, _, _, rfl, rfl, nmBad hA hp hn (by assumption) (by assumption) hf⟩
  have hP := nmGo (n := n) hA hp hn (by subst hN; assumption)
  have he := neq_zero hA ‹A.cmp .neq e0 0 = false›
  refine F.loop (V := Int × Int) [0, 1] (NmInv (valBytes xs) p.toNat n) (fun w => (n - w.2).toNat) (fun w => [(5, .int .i64 w.1), (6, .int .i64 w.2)]) (fun w => []) (_, _) (by cbv; repeat (first | exact WkH.nil _ | apply WkH.gone | refine WkH.eq rfl ?_)) (by cbv; repeat (first | apply WkL.any | exact WkL.nil _ | refine WkL.eq rfl ?_ | refine WkL.bool rfl ?_)) (by cbv; exact ⟨rfl⟩) ?_ ?_
  · exact ⟨0, rfl, Nat.zero_le _, by rw [Nat.pow_zero, Nat.mod_one]; rfl⟩
  rintro ⟨o, i⟩ hI Bk hBk
  repeat (first
    | refine OK.drawn (by decide +kernel) ?_
    | refine OK.tree ⟨lookT tis, fun _ => true, []⟩ (by decide +kernel) ?_
    | refine OK.need (by first | assumption | (rw [hA]; first | (show (_ : Int) ≠ _; decide) | (show (0 : Int) ≤ _; decide) | (show (0 : Int) ≤ _ ∧ _ < (256 : Int); decide))) ?_
    | (refine F.hold hA 2000 ?_; cbv))
  refine OK.branch (fun b1 => ?_) (fun b1 => ?_)
  · have hat := nmA hA hP hI (by subst hN; exact b1)
    have q1 := hat.q1
    have q2 := hat.q2
    repeat' (first
      | refine OK.drawn (by decide +kernel) ?_
      | refine OK.tree ⟨lookT tis, fun _ => true, []⟩ (by decide +kernel) ?_
      | refine OK.both ?_ ?_
      | refine OK.need (by first | assumption | (rw [hA]; first | (show (_ : Int) ≠ _; decide) | (show (0 : Int) ≤ _; decide) | (show (0 : Int) ≤ _ ∧ _ < (256 : Int); decide))) ?_
      | refine OK.need ?_ ?_
      | (refine OK.branch ?_ ?_ <;> intro h)
      | (refine F.hold hA 2000 ?_; cbv))
    refine OK.back (hBk _ _ (_, _) (by cbv; repeat (first | exact WkH.nil _ | apply WkH.gone | refine WkH.eq rfl ?_)) (by cbv; repeat (first | apply WkL.any | exact WkL.nil _ | refine WkL.eq rfl ?_ | refine WkL.bool rfl ?_)) (by cbv; exact ⟨rfl⟩) ?_ ?_)
    · exact hat.nx
    · exact hat.mu
  have hfin := nmEnd (e0 := e0) hA hP hI (by subst hN; exact b1) he
  clear hBk
  repeat (first
    | refine OK.drawn (by decide +kernel) ?_
    | refine OK.tree ⟨lookT tis, fun _ => true, []⟩ (by decide +kernel) ?_
    | refine OK.need (by first | assumption | (rw [hA]; first | (show (_ : Int) ≠ _; decide) | (show (0 : Int) ≤ _; decide) | (show (0 : Int) ≤ _ ∧ _ < (256 : Int); decide))) ?_
    | (refine F.hold hA 2000 ?_; cbv))
  subst hN
  exact F.ret0 ⟨_, _, _, rfl, rfl, hfin⟩
def RpRes (lim : Int) (out : List UInt8) (c e0 : Int) (out' : List UInt8) (e1 : Int) : Prop :=
  (e0 ≠ 0 ∧ out' = out ∧ e1 = e0) ∨ (e0 = 0 ∧ e1 = 0 ∧ out' = out ++ [UInt8.ofNat c.toNat] ∧ (out.length : Int) < lim) ∨ (e0 = 0 ∧ e1 = 14 ∧ out' = out ∧ lim ≤ out.length)
structure RpP (out : List UInt8) (c : Int) : Prop where
  l : out.length ≤ 1000000000
  c0 : 0 ≤ c
  c1 : c < 256
theorem RpP.isB {A : Leaf} {out : List UInt8} {c : Int} (hA : A = .std) (h : RpP out c) : A.isB c := by subst hA; exact ⟨h.c0, h.c1⟩
theorem RpP.sm {A : Leaf} {out : List UInt8} {c : Int} (hA : A = .std) (h : RpP out c) : A.small (A.len (A.app out [A.i2b c])) 1 := by
  subst hA
  have := h.l
  have e : Leaf.std.len (Leaf.std.app out [Leaf.std.i2b c]) = ((out.length + 1 : Nat) : Int) := by
    show (((out ++ [_]).length : Nat) : Int) = _
    rw [List.length_append]; rfl
  rw [e]
  show (0 : Int) ≤ _ ∧ _ ≤ (140737488355328 : Int) ∧ _ * ((1 : Nat) : Int) ≤ (140737488355328 : Int)
  omega
theorem putYes {A : Leaf} {lim c e0 : Int} {out : List UInt8} (hA : A = .std) (h1 : A.cmp .geq (A.len out) lim = false) (h2 : A.cmp .eql e0 0 = true) : RpRes lim out c e0 (A.app out [A.i2b c]) e0 := by
  subst hA
  have h1 : ¬ ((out.length : Nat) : Int) ≥ lim := of_decide_eq_false h1
  have h2 : (e0 == 0) = true := h2
  have h2 : e0 = 0 := by simpa using h2
  exact .inr (.inl ⟨h2, h2, rfl, by omega⟩)
theorem putNo {A : Leaf} {lim c e0 : Int} {out : List UInt8} (hA : A = .std) (h2 : A.cmp .eql e0 0 = false) : RpRes lim out c e0 out e0 := by
  subst hA
  have h2 : (e0 == 0) = false := h2
  have h2 : ¬ e0 = 0 := by simpa using h2
  exact .inl ⟨h2, rfl, rfl⟩
theorem putLim {A : Leaf} {lim c e0 e1 : Int} {out : List UInt8} (hA : A = .std) (h1 : A.cmp .geq (A.len out) lim = true) (hf : FailIs e0 14 e1) : RpRes lim out c e0 out e1 := by
  subst hA
  have h1 : ((out.length : Nat) : Int) ≥ lim := of_decide_eq_true h1
  unfold FailIs at hf
  by_cases h0 : e0 = 0
  · rw [if_pos h0] at hf
    exact .inr (.inr ⟨h0, hf, rfl, h1⟩)
  · rw [if_neg h0] at hf
    exact .inl ⟨h0, rfl, hf⟩
theorem failNe {A : Leaf} {e0 e e1 : Int} (hA : A = .std) (he : e ≠ 0) (hf : FailIs e0 e e1) (h : A.cmp .eql e1 0 = true) : False := by
  subst hA
  have h : (e1 == 0) = true := h
  have h : e1 = 0 := by simpa using h
  unfold FailIs at hf
  split at hf <;> omega
theorem rput_ok (row out : List UInt8) (p lim e0 k b c : Int) (hp : RpP out c) : FOK Try.prog C1 71 (fun c => Nat.beq c 0) [.ptr 0 0, .int .u8 c]
    [.cells 93 [.ro (.bytes row), .int .i64 p, .own 1, .int .i64 lim, .int .i64 e0, .int .i64 k, .int .i64 b], .row 5 (.bytes out)]
    (fun rs H => ∃ out' e1, rs = [] ∧ H = [.cells 93 [.ro (.bytes row), .int .i64 p, .own 1, .int .i64 lim, .int .i64 e1, .int .i64 k, .int .i64 b], .row 5 (.bytes out')] ∧ RpRes lim out c e0 out' e1) := by
  refine fok_of (B := ⟨lookT tis, fun c => Nat.beq c 0, []⟩) (tab1 _) (zero1 _) cod1 mix1 Try.func71 (by kernel_rfl) rfl rfl rfl fun X F => ?_
  obtain ⟨A, hA⟩ : ∃ A, A = Leaf.std := ⟨_, rfl⟩
  refine F.hold hA 2000 ?_
  cbv
  repeat (first
    | refine OK.drawn (by decide +kernel) ?_
    | refine OK.tree ⟨lookT tis, fun _ => true, []⟩ (by decide +kernel) ?_
    | refine OK.need (by first | assumption | (rw [hA]; first | (show (_ : Int) ≠ _; decide) | (show (0 : Int) ≤ _; decide) | (show (0 : Int) ≤ _ ∧ _ < (256 : Int); decide))) ?_
    | (refine F.hold hA 2000 ?_; cbv))
  have q1 := hp.isB hA
  have q2 := hp.sm hA
  refine OK.branch (fun b1 => ?_) (fun b1 => ?_)
  · repeat (first
      | refine OK.drawn (by decide +kernel) ?_
      | refine OK.tree ⟨lookT tis, fun _ => true, []⟩ (by decide +kernel) ?_
      | refine OK.need (by first | assumption | (rw [hA]; first | (show (_ : Int) ≠ _; decide) | (show (0 : Int) ≤ _; decide) | (show (0 : Int) ≤ _ ∧ _ < (256 : Int); decide))) ?_
      | (refine F.hold hA 2000 ?_; cbv))
    refine F.call [0, 1] (fail_ok row out p lim e0 k b 14) rfl rfl rfl fun rs H' hq => ?_
    obtain ⟨e1, rfl, rfl, hf⟩ := hq
    refine ⟨rfl, ?_⟩
    repeat (first
      | refine OK.drawn (by decide +kernel) ?_
      | refine OK.tree ⟨lookT tis, fun _ => true, []⟩ (by decide +kernel) ?_
      | refine OK.need (by first | assumption | (rw [hA]; first | (show (_ : Int) ≠ _; decide) | (show (0 : Int) ≤ _; decide) | (show (0 : Int) ≤ _ ∧ _ < (256 : Int); decide))) ?_
      | (refine F.hold hA 2000 ?_; cbv))
    refine OK.branch (fun b2 => (failNe hA (by decide) hf b2).elim) (fun b2 => ?_)
    repeat (first
      | refine OK.drawn (by decide +kernel) ?_
      | refine OK.tree ⟨lookT tis, fun _ => true, []⟩ (by decide +kernel) ?_
      | refine OK.need (by first | assumption | (rw [hA]; first | (show (_ : Int) ≠ _; decide) | (show (0 : Int) ≤ _; decide) | (show (0 : Int) ≤ _ ∧ _ < (256 : Int); decide))) ?_
      | (refine F.hold hA 2000 ?_; cbv))
    exact F.ret0 ⟨_, _, rfl, rfl, putLim hA b1 hf⟩
  · repeat (first
      | refine OK.drawn (by decide +kernel) ?_
      | refine OK.tree ⟨lookT tis, fun _ => true, []⟩ (by decide +kernel) ?_
      | refine OK.need (by first | assumption | (rw [hA]; first | (show (_ : Int) ≠ _; decide) | (show (0 : Int) ≤ _; decide) | (show (0 : Int) ≤ _ ∧ _ < (256 : Int); decide))) ?_
      | (refine F.hold hA 2000 ?_; cbv))
    refine OK.branch (fun b2 => ?_) (fun b2 => ?_)
    · repeat (first
        | refine OK.drawn (by decide +kernel) ?_
        | refine OK.tree ⟨lookT tis, fun _ => true, []⟩ (by decide +kernel) ?_
        | refine OK.need (by first | assumption | (rw [hA]; first | (show (_ : Int) ≠ _; decide) | (show (0 : Int) ≤ _; decide) | (show (0 : Int) ≤ _ ∧ _ < (256 : Int); decide))) ?_
        | (refine F.hold hA 2000 ?_; cbv))
      refine F.ret (H' := [_, _]) (F.cv ⟨rfl⟩ (.nil _) (.eq rfl (.eq rfl (.nil _)))) rfl ⟨_, _, rfl, rfl, putYes hA b1 b2⟩
    · repeat (first
        | refine OK.drawn (by decide +kernel) ?_
        | refine OK.tree ⟨lookT tis, fun _ => true, []⟩ (by decide +kernel) ?_
        | refine OK.need (by first | assumption | (rw [hA]; first | (show (_ : Int) ≠ _; decide) | (show (0 : Int) ≤ _; decide) | (show (0 : Int) ≤ _ ∧ _ < (256 : Int); decide))) ?_
        | (refine F.hold hA 2000 ?_; cbv))
      exact F.ret0 ⟨_, _, rfl, rfl, putNo hA b2⟩
def SymRes (ls : List Int) (xs : List UInt8) (p e0 v p' e1 : Int) : Prop :=
  (e0 = 0 ∧ e1 = 0 ∧ symR ls xs p = .ok (v, p')) ∨ (e0 = 0 ∧ e1 ≠ 0 ∧ symR ls xs p = .error e1 ∧ v = 0 ∧ p' = p) ∨ (e0 ≠ 0 ∧ e1 = e0 ∧ v = 0 ∧ p' = p)
theorem symNext {ls : List Int} {xs row : List UInt8} {p s n e : Int} (hp : RPre row (valBytes xs) (8 * xs.length) p) (hi : InB ls) (h : RefNext ls (valBytes xs) (8 * xs.length) p s n e) :
    (e = 0 → symR ls xs p = .ok (s, p + n) ∧ 0 ≤ n ∧ n ≤ 15 ∧ 0 ≤ s ∧ s < ls.length) ∧ (e ≠ 0 → symR ls xs p = .error e) := by
  have h1 := hp.lo
  have h2 := hp.hi
  have h : NextIs ls (bitsV xs p) (leftN xs p) s n e := by
    unfold RefNext at h
    have e1 : ((8 * xs.length : Nat) - p).toNat = leftN xs p := by unfold leftN; omega
    rw [e1] at h
    exact h
  have h3 := symR_is ls xs p
  refine ⟨fun he => ?_, fun he => ?_⟩
  · subst he
    rcases h with ⟨_, t, ht, rfl, rfl⟩ | ⟨_, _, _, h | h⟩
    case inr.inl => exact absurd h.1 (by decide)
    case inr.inr => exact absurd h.1 (by decide)
    have := len_le hi t
    have := ht.1
    exact ⟨symR_hit hi ht, by omega, by omega, by omega, by omega⟩
  · cases hr : symR ls xs p with
    | ok r =>
      obtain ⟨s2, p2⟩ := r
      rw [hr] at h3
      obtain ⟨m, h4, _⟩ := h3
      exact absurd (NextIs.uniq hi h h4).2.2 he
    | error e2 =>
      rw [hr] at h3
      rw [(NextIs.uniq hi h h3.1).2.2]
theorem rsymbol_ok (ls : List Int) (rows : List (List UInt8)) (xs row out : List UInt8) (n p lim e0 k b : Int) (hR : RdyR ls) (ho : ORows ls rows) (hp : RPre row (valBytes xs) (8 * xs.length) p) : FOK Try.prog C1 72 (fun _ => true) [.ptr 0 0, .ptr 2 0]
    [.cells 93 [.ro (.bytes row), .int .i64 p, .own 1, .int .i64 lim, .int .i64 e0, .int .i64 k, .int .i64 b], .row 5 (.bytes out), .cells 41 [.ro (.recs 4 rows), .int .i64 n]]
    (fun rs H => ∃ v p' e1, rs = [.int .i64 v] ∧ H = [.cells 93 [.ro (.bytes row), .int .i64 p', .own 1, .int .i64 lim, .int .i64 e1, .int .i64 k, .int .i64 b], .row 5 (.bytes out), .cells 41 [.ro (.recs 4 rows), .int .i64 n]] ∧ SymRes ls xs p e0 v p' e1) := by
  refine fok_of (B := ⟨lookT tis, fun _ => true, []⟩) (tab1 _) (zero1 _) cod1 mix1 Try.func72 (by kernel_rfl) rfl rfl rfl fun X F => ?_
  obtain ⟨A, hA⟩ : ∃ A, A = Leaf.std := ⟨_, rfl⟩
  refine F.hold hA 2000 ?_
  cbv
  repeat (first
    | refine OK.drawn (by decide +kernel) ?_
    | refine OK.tree ⟨lookT tis, fun _ => true, []⟩ (by decide +kernel) ?_
    | refine OK.need (by first | assumption | (rw [hA]; first | (show (_ : Int) ≠ _; decide) | (show (0 : Int) ≤ _; decide) | (show (0 : Int) ≤ _ ∧ _ < (256 : Int); decide))) ?_
    | (refine F.hold hA 2000 ?_; cbv))
  refine OK.branch (fun b1 => ?_) (fun b1 => ?_)
  · repeat (first
      | refine OK.drawn (by decide +kernel) ?_
      | refine OK.tree ⟨lookT tis, fun _ => true, []⟩ (by decide +kernel) ?_
      | refine OK.need (by first | assumption | (rw [hA]; first | (show (_ : Int) ≠ _; decide) | (show (0 : Int) ≤ _; decide) | (show (0 : Int) ≤ _ ∧ _ < (256 : Int); decide))) ?_
      | (refine F.hold hA 2000 ?_; cbv))
    refine F.ret0 ⟨_, _, _, rfl, rfl, .inr (.inr ⟨?_, rfl, rfl, rfl⟩)⟩
    subst hA
    have h : (!(e0 == 0)) = true := b1
    simpa using h
  obtain rfl := neq_zero hA b1
  repeat' (first
    | refine OK.drawn (by decide +kernel) ?_
    | refine OK.tree ⟨lookT tis, fun _ => true, []⟩ (by decide +kernel) ?_
    | refine OK.both ?_ ?_
    | refine OK.need (by first | assumption | (rw [hA]; first | (show (_ : Int) ≠ _; decide) | (show (0 : Int) ≤ _; decide) | (show (0 : Int) ≤ _ ∧ _ < (256 : Int); decide))) ?_
    | refine OK.need ?_ ?_
    | (refine OK.branch ?_ ?_ <;> intro h)
    | (refine F.hold hA 2000 ?_; cbv))
  · skip
    refine F.call [2] (refnext_ok ls rows row _ _ n p hR ho hp) rfl rfl rfl fun rs H' hq => ?_
    obtain ⟨s, m, e, rfl, rfl, hn⟩ := hq
    refine ⟨rfl, ?_⟩
    have hnx := symNext hp hR.b hn
    repeat (first
      | refine OK.drawn (by decide +kernel) ?_
      | refine OK.tree ⟨lookT tis, fun _ => true, []⟩ (by decide +kernel) ?_
      | refine OK.need (by first | assumption | (rw [hA]; first | (show (_ : Int) ≠ _; decide) | (show (0 : Int) ≤ _; decide) | (show (0 : Int) ≤ _ ∧ _ < (256 : Int); decide))) ?_
      | (refine F.hold hA 2000 ?_; cbv))
    refine OK.branch (fun b2 => ?_) (fun b2 => ?_)
    · repeat (first
        | refine OK.drawn (by decide +kernel) ?_
        | refine OK.tree ⟨lookT tis, fun _ => true, []⟩ (by decide +kernel) ?_
        | refine OK.need (by first | assumption | (rw [hA]; first | (show (_ : Int) ≠ _; decide) | (show (0 : Int) ≤ _; decide) | (show (0 : Int) ≤ _ ∧ _ < (256 : Int); decide))) ?_
        | (refine F.hold hA 2000 ?_; cbv))
      refine F.call [0, 1] (fail_ok row out p lim 0 k b e) rfl rfl rfl fun rs H' hq => ?_
      obtain ⟨e1, rfl, rfl, hf⟩ := hq
      refine ⟨rfl, ?_⟩
      have hf : e1 = e := hf
      subst hf
      have he : e1 ≠ 0 := by
        subst hA
        have h : (!(e1 == 0)) = true := b2
        simpa using h
      repeat (first
        | refine OK.drawn (by decide +kernel) ?_
        | refine OK.tree ⟨lookT tis, fun _ => true, []⟩ (by decide +kernel) ?_
        | refine OK.need (by first | assumption | (rw [hA]; first | (show (_ : Int) ≠ _; decide) | (show (0 : Int) ≤ _; decide) | (show (0 : Int) ≤ _ ∧ _ < (256 : Int); decide))) ?_
        | (refine F.hold hA 2000 ?_; cbv))
      exact F.ret0 ⟨_, _, _, rfl, rfl, .inr (.inl ⟨rfl, he, hnx.2 he, rfl, rfl⟩)⟩
    · obtain rfl := neq_zero hA b2
      obtain ⟨h1, h2, h3, _⟩ := hnx.1 rfl
      have ea : A.ar .add .i64 p m = p + m := by subst hA; have := hp.lo; have := hp.hi; have := hp.mx; exact add_i64 (by omega) (by omega)
      rw [← ea] at h1
      repeat (first
        | refine OK.drawn (by decide +kernel) ?_
        | refine OK.tree ⟨lookT tis, fun _ => true, []⟩ (by decide +kernel) ?_
        | refine OK.need (by first | assumption | (rw [hA]; first | (show (_ : Int) ≠ _; decide) | (show (0 : Int) ≤ _; decide) | (show (0 : Int) ≤ _ ∧ _ < (256 : Int); decide))) ?_
        | (refine F.hold hA 2000 ?_; cbv))
      exact F.ret0 ⟨_, _, _, rfl, rfl, .inl ⟨rfl, rfl, h1⟩⟩
  · skip
    refine F.call [2] (refnext_ok ls rows row _ _ n p hR ho hp) rfl rfl rfl fun rs H' hq => ?_
    obtain ⟨s, m, e, rfl, rfl, hn⟩ := hq
    refine ⟨rfl, ?_⟩
    have hnx := symNext hp hR.b hn
    repeat (first
      | refine OK.drawn (by decide +kernel) ?_
      | refine OK.tree ⟨lookT tis, fun _ => true, []⟩ (by decide +kernel) ?_
      | refine OK.need (by first | assumption | (rw [hA]; first | (show (_ : Int) ≠ _; decide) | (show (0 : Int) ≤ _; decide) | (show (0 : Int) ≤ _ ∧ _ < (256 : Int); decide))) ?_
      | (refine F.hold hA 2000 ?_; cbv))
    refine OK.branch (fun b2 => ?_) (fun b2 => ?_)
    · repeat (first
        | refine OK.drawn (by decide +kernel) ?_
        | refine OK.tree ⟨lookT tis, fun _ => true, []⟩ (by decide +kernel) ?_
        | refine OK.need (by first | assumption | (rw [hA]; first | (show (_ : Int) ≠ _; decide) | (show (0 : Int) ≤ _; decide) | (show (0 : Int) ≤ _ ∧ _ < (256 : Int); decide))) ?_
        | (refine F.hold hA 2000 ?_; cbv))
      refine F.call [0, 1] (fail_ok row out p lim 0 k b e) rfl rfl rfl fun rs H' hq => ?_
      obtain ⟨e1, rfl, rfl, hf⟩ := hq
      refine ⟨rfl, ?_⟩
      have hf : e1 = e := hf
      subst hf
      have he : e1 ≠ 0 := by
        subst hA
        have h : (!(e1 == 0)) = true := b2
        simpa using h
      repeat (first
        | refine OK.drawn (by decide +kernel) ?_
        | refine OK.tree ⟨lookT tis, fun _ => true, []⟩ (by decide +kernel) ?_
        | refine OK.need (by first | assumption | (rw [hA]; first | (show (_ : Int) ≠ _; decide) | (show (0 : Int) ≤ _; decide) | (show (0 : Int) ≤ _ ∧ _ < (256 : Int); decide))) ?_
        | (refine F.hold hA 2000 ?_; cbv))
      exact F.ret0 ⟨_, _, _, rfl, rfl, .inr (.inl ⟨rfl, he, hnx.2 he, rfl, rfl⟩)⟩
    · obtain rfl := neq_zero hA b2
      obtain ⟨h1, h2, h3, _⟩ := hnx.1 rfl
      have ea : A.ar .add .i64 p m = p + m := by subst hA; have := hp.lo; have := hp.hi; have := hp.mx; exact add_i64 (by omega) (by omega)
      rw [← ea] at h1
      repeat (first
        | refine OK.drawn (by decide +kernel) ?_
        | refine OK.tree ⟨lookT tis, fun _ => true, []⟩ (by decide +kernel) ?_
        | refine OK.need (by first | assumption | (rw [hA]; first | (show (_ : Int) ≠ _; decide) | (show (0 : Int) ≤ _; decide) | (show (0 : Int) ≤ _ ∧ _ < (256 : Int); decide))) ?_
        | (refine F.hold hA 2000 ?_; cbv))
      exact F.ret0 ⟨_, _, _, rfl, rfl, .inl ⟨rfl, rfl, h1⟩⟩
end Go.L1

-- D26
namespace Go.L1
open Go Go.Sx Go.Proofs Go.Huff
set_option maxRecDepth 20000
set_option linter.unusedVariables false
set_option linter.unusedSimpArgs false
def AlInv (p : Int) (q : Int) : Prop := p ≤ q ∧ q ≤ 8 * ((p + 7) / 8)
theorem alNx {A : Leaf} {xs row out : List UInt8} {lim p q k : Int} (hA : A = .std) (hp : RsP xs row lim p out k) (hI : AlInv p q) (b1 : A.cmp .neq (A.ar .rem .i64 q 8) 0 = true) : AlInv p (A.ar .add .i64 q 1) ∧ (8 * ((p + 7) / 8) - A.ar .add .i64 q 1).toNat < (8 * ((p + 7) / 8) - q).toNat := by
  subst hA
  have h0 := hp.pre.lo
  have h1 := hp.pre.hi
  have h2 := hp.l
  obtain ⟨k1, k2⟩ := hI
  have e1 : Leaf.std.ar .rem .i64 q 8 = q % 8 := by
    show LAr .rem .i64 q 8 = _
    rw [l_rem (by omega)]
  have b1 : (!(Leaf.std.ar .rem .i64 q 8 == 0)) = true := b1
  rw [e1] at b1
  have b1 : q % 8 ≠ 0 := by simpa using b1
  have e2 : Leaf.std.ar .add .i64 q 1 = q + 1 := add_i64 (by omega) (by omega)
  rw [e2]
  exact ⟨⟨by omega, by omega⟩, by omega⟩
theorem alEnd {A : Leaf} {p q : Int} (hA : A = .std) (h0 : 0 ≤ p) (hI : AlInv p q) (b1 : A.cmp .neq (A.ar .rem .i64 q 8) 0 = false) : q = 8 * ((p + 7) / 8) := by
  subst hA
  obtain ⟨k1, k2⟩ := hI
  have e1 : Leaf.std.ar .rem .i64 q 8 = q % 8 := by
    show LAr .rem .i64 q 8 = _
    rw [l_rem (by omega)]
  have b1 : (!(Leaf.std.ar .rem .i64 q 8 == 0)) = false := b1
  rw [e1] at b1
  have b1 : q % 8 = 0 := by simpa using b1
  omega
theorem rsQ {xs row out : List UInt8} {lim p q k : Int} (hp : RsP xs row lim p out k) (hq : q = 8 * ((p + 7) / 8)) : RPre row (valBytes xs) (8 * xs.length) q := by
  have h0 := hp.pre.lo
  have h1 := hp.pre.hi
  exact ⟨hp.r, hp.pre.mx, by omega, by omega⟩
theorem alSt {xs row out : List UInt8} {lim p k : Int} (hp : RsP xs row lim p out k) : AlInv p p := ⟨Int.le_refl _, by omega⟩
theorem eqz {A : Leaf} {e : Int} (hA : A = .std) (h : e ≠ 0) (h1 : A.cmp .eql e 0 = true) : False := by
  subst hA
  have h1 : (e == 0) = true := h1
  exact h (by simpa using h1)
/-- What a stored block is shown to do. -/
def RstIs (xs : List UInt8) (lim p : Int) (out : List UInt8) (k p' : Int) (out' : List UInt8) (e1 k' : Int) : Prop :=
  (e1 = 0 ∧ ∃ n, storedR xs lim p out = .ok (p', out', n) ∧ k' = k + n ∧ SySt xs lim p' out' k') ∨ (e1 ≠ 0 ∧ storedR xs lim p out = .error e1)
def RsN (xs : List UInt8) (lim p : Int) (out : List UInt8) (q v1 v2 p2 e2 : Int) : Prop :=
  (e2 = 0 ∧ ∃ p1, numR xs q 16 = .ok (v1, p1) ∧ numR xs p1 16 = .ok (v2, p2)) ∨ (e2 ≠ 0 ∧ storedR xs lim p out = .error e2)
theorem rsN {xs : List UInt8} {lim p : Int} {out : List UInt8} {q v1 p1 e1 v2 p2 e2 : Int} (hq : q = 8 * ((p + 7) / 8)) (h1 : NumRes xs q 16 0 v1 p1 e1) (h2 : NumRes xs p1 16 e1 v2 p2 e2) : RsN xs lim p out q v1 v2 p2 e2 := by
  have hsr : ∀ e, numR xs q 16 = .error e → storedR xs lim p out = .error e := fun e he => by
    unfold storedR
    rw [← hq]
    simp only [bind, Except.bind, he]
  rcases h1 with ⟨_, rfl, h1⟩ | ⟨_, rfl, h1, _, _⟩ | ⟨h, _⟩
  · rcases h2 with ⟨_, rfl, h2⟩ | ⟨_, rfl, h2, _, _⟩ | ⟨h, _⟩
    · exact .inl ⟨rfl, _, h1, h2⟩
    · refine .inr ⟨by decide, ?_⟩
      unfold storedR
      rw [← hq]
      simp only [bind, Except.bind, h1, h2]
    · exact absurd rfl h
  · rcases h2 with ⟨h, _⟩ | ⟨h, _⟩ | ⟨_, rfl, _, _⟩
    · exact absurd h (by decide)
    · exact absurd h (by decide)
    · exact .inr ⟨by decide, hsr _ h1⟩
  · exact absurd rfl h
theorem numRes_pre {xs row : List UInt8} {p e0 v p' e1 : Int} {n : Nat} (hp : RPre row (valBytes xs) (8 * xs.length) p) (h : NumRes xs p n e0 v p' e1) : RPre row (valBytes xs) (8 * xs.length) p' := by
  rcases h with ⟨_, _, h⟩ | ⟨_, _, _, _, rfl⟩ | ⟨_, _, _, rfl⟩
  · have h1 := num_nn h
    exact ⟨hp.r, hp.mx, by have := hp.lo; omega, by omega⟩
  · exact hp
  · exact hp
structure RsG (xs row : List UInt8) (lim p : Int) (out : List UInt8) (k v1 p2 : Int) (n a : Nat) : Prop where
  v : v1 = n
  pe : p2 = 8 * a
  l : a + n ≤ xs.length
  o : (out.length : Int) + n ≤ lim
  st : storedR xs lim p out = .ok (8 * ((a + n : Nat) : Int), out ++ (xs.drop a).take n, (n : Int))
  h : RsP xs row lim p out k
  kl : k ≤ 8 * a
structure RsC (A : Leaf) (xs row : List UInt8) (lim p : Int) (out : List UInt8) (k v1 v2 p2 : Int) : Prop where
  c10 : A.cmp .neq (A.ar .add .i64 v1 v2) 65535 = true → storedR xs lim p out = .error 10
  c15 : A.cmp .neq (A.ar .add .i64 v1 v2) 65535 = false → A.cmp .gtr (A.ar .add .i64 p2 (A.ar .mul .i64 8 v1)) (A.len row) = true → storedR xs lim p out = .error 15
  c14 : A.cmp .neq (A.ar .add .i64 v1 v2) 65535 = false → A.cmp .gtr (A.ar .add .i64 p2 (A.ar .mul .i64 8 v1)) (A.len row) = false → A.cmp .gtr v1 (A.ar .sub .i64 lim (A.len out)) = true → storedR xs lim p out = .error 14
  go : A.cmp .neq (A.ar .add .i64 v1 v2) 65535 = false → A.cmp .gtr (A.ar .add .i64 p2 (A.ar .mul .i64 8 v1)) (A.len row) = false → A.cmp .gtr v1 (A.ar .sub .i64 lim (A.len out)) = false → ∃ n a : Nat, RsG xs row lim p out k v1 p2 n a
theorem num_lt {xs : List UInt8} {p : Int} {n : Nat} {v p' : Int} (h : numR xs p n = .ok (v, p')) (hn : n ≤ 16) : v < 65536 := by
  unfold numR at h
  split at h
  · simp only [Except.ok.injEq, Prod.mk.injEq] at h
    have h1 : bitsV xs p % 2 ^ n < 2 ^ n := Nat.mod_lt _ (Nat.two_pow_pos _)
    have h2 : 2 ^ n ≤ 2 ^ 16 := Nat.pow_le_pow_right (by decide) hn
    omega
  · cases h
theorem rsC {A : Leaf} {xs row out : List UInt8} {lim p q k v1 v2 p2 : Int} (hA : A = .std) (hp : RsP xs row lim p out k) (hq : q = 8 * ((p + 7) / 8)) (hN : ∃ p1, numR xs q 16 = .ok (v1, p1) ∧ numR xs p1 16 = .ok (v2, p2)) : RsC A xs row lim p out k v1 v2 p2 := by
  obtain ⟨p1, n1, n2⟩ := hN
  have k1 := num_nn n1
  have k2 := num_nn n2
  have l1 := num_lt n1 (by decide)
  have l2 := num_lt n2 (by decide)
  have h0 := hp.pre.lo
  have h1 := hp.pre.hi
  have h2 := hp.l
  have h3 := hp.s.l
  have o1 := h3.lo
  have o2 := h3.hi
  have o3 := h3.ot
  have h4 := hp.s.k
  have hl : row.length = 8 * xs.length := by rw [hp.r, brow_len]
  have e0 : storedR xs lim p out = if v1 + v2 = 65535 then (if v1 ≤ xs.length - (p2 + 7) / 8 then (roomR lim out v1 >>= fun _ => Except.ok (8 * ((p2 + 7) / 8 + v1), out ++ (xs.drop ((p2 + 7) / 8).toNat).take v1.toNat, v1)) else .error 15) else .error 10 := by
    unfold storedR
    rw [← hq]
    simp only [bind, Except.bind, n1, n2]
  subst hA
  have e1 : Leaf.std.ar .add .i64 v1 v2 = v1 + v2 := add_i64 (by omega) (by omega)
  have e2 : Leaf.std.ar .mul .i64 8 v1 = 8 * v1 := mul_i64 (a := 8) (b := v1) (by omega) (by omega)
  have e3 : Leaf.std.ar .add .i64 p2 (8 * v1) = p2 + 8 * v1 := add_i64 (by omega) (by omega)
  have e4 : Leaf.std.ar .sub .i64 lim (out.length : Int) = lim - out.length := sub_i64 (by omega) (by omega)
  have d1 : Leaf.std.cmp .neq (Leaf.std.ar .add .i64 v1 v2) 65535 = decide (¬ v1 + v2 = 65535) := by
    rw [e1]
    show (!(v1 + v2 == 65535)) = _
    by_cases hh : v1 + v2 = 65535
    · rw [hh]; rfl
    · rw [decide_eq_true hh]
      simp [hh]
  have d2 : Leaf.std.cmp .gtr (Leaf.std.ar .add .i64 p2 (Leaf.std.ar .mul .i64 8 v1)) (Leaf.std.len row) = decide ((row.length : Int) < p2 + 8 * v1) := by rw [e2, e3]; rfl
  have d3 : Leaf.std.cmp .gtr v1 (Leaf.std.ar .sub .i64 lim (Leaf.std.len out)) = decide (lim - out.length < v1) := by
    show Leaf.std.cmp .gtr v1 (Leaf.std.ar .sub .i64 lim (out.length : Int)) = _
    rw [e4]; rfl
  refine ⟨fun a1 => ?_, fun a1 a2 => ?_, fun a1 a2 a3 => ?_, fun a1 a2 a3 => ?_⟩
  · rw [d1] at a1
    rw [e0, if_neg (of_decide_eq_true a1)]
  · rw [d1] at a1
    rw [d2] at a2
    have a1 := of_decide_eq_false a1
    have a2 := of_decide_eq_true a2
    rw [e0, if_pos (by omega), if_neg (by omega)]
  · rw [d1] at a1
    rw [d2] at a2
    rw [d3] at a3
    have a1 := of_decide_eq_false a1
    have a2 := of_decide_eq_false a2
    have a3 := of_decide_eq_true a3
    rw [e0, if_pos (by omega), if_pos (by omega)]
    have : roomR lim out v1 = .error 14 := by unfold roomR; rw [if_neg (by omega)]
    rw [this]; rfl
  · rw [d1] at a1
    rw [d2] at a2
    rw [d3] at a3
    have a1 := of_decide_eq_false a1
    have a2 := of_decide_eq_false a2
    have a3 := of_decide_eq_false a3
    refine ⟨v1.toNat, ((p2 + 7) / 8).toNat, by omega, by omega, by omega, by omega, ?_, hp, by have := h4.hi; omega⟩
    rw [e0, if_pos (by omega), if_pos (by omega)]
    have : roomR lim out v1 = .ok () := by unfold roomR; rw [if_pos (by omega)]
    rw [this]
    simp only [bind, Except.bind]
    exact congrArg Except.ok (Prod.ext (by simp only; omega) (Prod.ext rfl (by simp only; omega)))
def RlInv (xs : List UInt8) (out : List UInt8) (k : Int) (n a : Nat) (w : Int × Int × List UInt8 × Int) : Prop :=
  ∃ j : Nat, w.1 = j ∧ j ≤ n ∧ w.2.1 = 8 * ((a + j : Nat) : Int) ∧ w.2.2.1 = out ++ (xs.drop a).take j ∧ w.2.2.2 = k + j
structure RlB (A : Leaf) (xs : List UInt8) (lim : Int) (out : List UInt8) (k : Int) (n a : Nat) (i : Int) (o : List UInt8) (kk v p' e : Int) : Prop where
  e : e = 0
  pp : RpP o (A.conv .u8 v)
  ps : ∀ o2 e2, RpRes lim o (A.conv .u8 v) 0 o2 e2 → e2 = 0 ∧ RlInv xs out k n a (A.ar .add .i64 i 1, p', o2, A.ar .add .i64 kk 1)
structure RlA (A : Leaf) (xs row : List UInt8) (lim : Int) (out : List UInt8) (k : Int) (n a : Nat) (i q : Int) (o : List UInt8) (kk : Int) : Prop where
  pr : RPre row (valBytes xs) (8 * xs.length) q
  nm : ∀ v p' e, NumRes xs q 8 0 v p' e → RlB A xs lim out k n a i o kk v p' e
  mu : (n - A.ar .add .i64 i 1).toNat < (n - i).toNat
theorem rlA {A : Leaf} {xs row : List UInt8} {lim p : Int} {out : List UInt8} {k v1 p2 : Int} {n a : Nat} {i q : Int} {o : List UInt8} {kk : Int} (hA : A = .std) (hG : RsG xs row lim p out k v1 p2 n a) (hI : RlInv xs out k n a (i, q, o, kk)) (b1 : A.cmp .lss i v1 = true) : RlA A xs row lim out k n a i q o kk := by
  obtain ⟨g1, g2, g3, g4, g5, hp, g7⟩ := hG
  obtain ⟨j, k1, k2, k3, k4, k5⟩ := hI
  simp only at k1 k3 k4 k5
  subst hA k1
  rw [g1] at b1
  have b1 : (j : Int) < n := of_decide_eq_true b1
  have h2 := hp.l
  have h3 := hp.s.l
  have o2 := h3.hi
  have h4 := hp.s.k.lo
  have h5 := hp.s.k.hi
  have hj : a + j < xs.length := by omega
  have hp0 := hp.pre.lo
  have hp1 := hp.pre.hi
  have e1 : Leaf.std.ar .add .i64 (j : Int) 1 = ((j + 1 : Nat) : Int) := by rw [add_i64 (by omega) (by omega)]; omega
  have ekk : Leaf.std.ar .add .i64 kk 1 = k + ((j + 1 : Nat) : Int) := by rw [k5, add_i64 (by omega) (by omega)]; omega
  obtain ⟨c, hc⟩ : ∃ c, c = xs[a + j] := ⟨_, rfl⟩
  have hdr : xs.drop (a + j) = c :: xs.drop (a + j + 1) := by rw [hc, List.drop_eq_getElem_cons hj]
  have hcl := c.toNat_lt
  have hnum : numR xs q 8 = .ok ((c.toNat : Nat), q + 8) := by
    rw [num_at (j := a + j) (q := 0) (n := 8) (by omega) hdr (by rw [k3]; simp) (by simp; omega), valBytes_cons]
    have : (c.toNat + 256 * valBytes (xs.drop (a + j + 1))) / 2 ^ 0 % 2 ^ 8 = c.toNat := by
      rw [Nat.pow_zero, Nat.div_one, show (2 : Nat) ^ 8 = 256 from rfl]; omega
    rw [this]; rfl
  have hol : o.length = out.length + j := by
    rw [k4, List.length_append, List.length_take, List.length_drop]; omega
  refine ⟨⟨hp.r, hp.pre.mx, by omega, by omega⟩, fun v p' e hn => ?_, by rw [e1]; omega⟩
  rcases hn with ⟨_, rfl, hn⟩ | ⟨_, _, hn, _, _⟩ | ⟨h, _⟩
  case inr.inl => rw [hnum] at hn; cases hn
  case inr.inr => exact absurd rfl h
  rw [hnum] at hn
  simp only [Except.ok.injEq, Prod.mk.injEq] at hn
  obtain ⟨rfl, rfl⟩ := hn
  have ec : Leaf.std.conv .u8 (c.toNat : Int) = (c.toNat : Int) := conv_u8 (by omega) (by omega)
  refine ⟨rfl, by rw [ec]; exact ⟨by omega, by omega, by omega⟩, fun o2 e2 hr => ?_⟩
  rw [ec] at hr
  rcases hr with ⟨h, _⟩ | ⟨_, rfl, rfl, _⟩ | ⟨_, _, _, h⟩
  · exact absurd rfl h
  · refine ⟨rfl, j + 1, e1, by omega, by simp only; omega, ?_, ekk⟩
    simp only
    have : UInt8.ofNat ((c.toNat : Nat) : Int).toNat = c := by rw [Int.toNat_natCast]; simp
    rw [this, k4, List.append_assoc, List.take_add_one, List.getElem?_drop, List.getElem?_eq_getElem hj, hc]
    rfl
  · omega
theorem rlEnd {A : Leaf} {xs row : List UInt8} {lim p : Int} {out : List UInt8} {k v1 p2 : Int} {n a : Nat} {i q : Int} {o : List UInt8} {kk : Int} (hA : A = .std) (hG : RsG xs row lim p out k v1 p2 n a) (hI : RlInv xs out k n a (i, q, o, kk)) (b1 : A.cmp .lss i v1 = false) : RstIs xs lim p out k q o 0 kk := by
  obtain ⟨g1, g2, g3, g4, g5, hp, g7⟩ := hG
  obtain ⟨j, k1, k2, k3, k4, k5⟩ := hI
  simp only at k1 k3 k4 k5
  subst hA k1
  rw [g1] at b1
  have b1 : ¬ (j : Int) < n := of_decide_eq_false b1
  obtain rfl : j = n := by omega
  have h2 := hp.l
  have h3 := hp.s.l
  have h5 := hp.s.k.lo
  have hol : o.length = out.length + j := by
    rw [k4, List.length_append, List.length_take, List.length_drop]; omega
  refine .inl ⟨rfl, j, by rw [g5, k3, k4], k5, ⟨⟨⟨⟨by omega, by omega, by omega⟩, by omega⟩, by omega⟩, ⟨h3.lo, h3.hi, by omega⟩, ⟨by omega, by omega⟩⟩⟩
theorem rstored_ok (xs row out : List UInt8) (p lim k b : Int) (hp : RsP xs row lim p out k) : FOK Try.prog C1 60 (fun c => Nat.beq c 0) [.ptr 0 0]
    [.cells 93 [.ro (.bytes row), .int .i64 p, .own 1, .int .i64 lim, .int .i64 0, .int .i64 k, .int .i64 b], .row 5 (.bytes out)]
    (fun rs H => ∃ p' out' e1 k', rs = [] ∧ H = [.cells 93 [.ro (.bytes row), .int .i64 p', .own 1, .int .i64 lim, .int .i64 e1, .int .i64 k', .int .i64 b], .row 5 (.bytes out')] ∧ RstIs xs lim p out k p' out' e1 k') := by
  refine fok_of (B := ⟨lookT tis, fun c => Nat.beq c 0, []⟩) (tab1 _) (zero1 _) cod1 mix1 Try.func60 (by kernel_rfl) rfl rfl rfl fun X F => ?_
  obtain ⟨A, hA⟩ : ∃ A, A = Leaf.std := ⟨_, rfl⟩
  refine F.hold hA 2000 ?_
  cbv
  refine F.loop (V := Int) [0] (AlInv p) (fun w => (8 * ((p + 7) / 8) - w).toNat) (fun w => []) (fun w => [(0, .cells 93 [.ro (.bytes row), .int .i64 w, .own 1, .int .i64 lim, .int .i64 0, .int .i64 k, .int .i64 b])]) _ (by cbv; repeat (first | exact WkH.nil _ | apply WkH.gone | refine WkH.eq rfl ?_)) (by cbv; repeat (first | apply WkL.any | exact WkL.nil _ | refine WkL.eq rfl ?_ | refine WkL.bool rfl ?_)) (by cbv; exact ⟨rfl⟩) ?_ ?_
  · exact alSt hp
  intro q hI Bk hBk
  repeat (first
    | refine OK.drawn (by decide +kernel) ?_
    | refine OK.tree ⟨lookT tis, fun _ => true, []⟩ (by decide +kernel) ?_
    | refine OK.need (by first | assumption | (rw [hA]; first | (show (_ : Int) ≠ _; decide) | (show (0 : Int) ≤ _; decide) | (show (0 : Int) ≤ _ ∧ _ < (256 : Int); decide))) ?_
    | (refine F.hold hA 2000 ?_; cbv))
  refine OK.branch (fun b1 => ?_) (fun b1 => ?_)
  · have hnx := alNx hA hp hI b1
    repeat (first
      | refine OK.drawn (by decide +kernel) ?_
      | refine OK.tree ⟨lookT tis, fun _ => true, []⟩ (by decide +kernel) ?_
      | refine OK.need (by first | assumption | (rw [hA]; first | (show (_ : Int) ≠ _; decide) | (show (0 : Int) ≤ _; decide) | (show (0 : Int) ≤ _ ∧ _ < (256 : Int); decide))) ?_
      | (refine F.hold hA 2000 ?_; cbv))
    refine OK.back (hBk _ _ _ (by cbv; repeat (first | exact WkH.nil _ | apply WkH.gone | refine WkH.eq rfl ?_)) (by cbv; repeat (first | apply WkL.any | exact WkL.nil _ | refine WkL.eq rfl ?_ | refine WkL.bool rfl ?_)) (by cbv; exact ⟨rfl⟩) ?_ ?_)
    · exact hnx.1
    · exact hnx.2
  have hq := alEnd hA hp.pre.lo hI b1
  clear hBk hI
  have hpq := rsQ hp hq
  repeat (first
    | refine OK.drawn (by decide +kernel) ?_
    | refine OK.tree ⟨lookT tis, fun _ => true, []⟩ (by decide +kernel) ?_
    | refine OK.need (by first | assumption | (rw [hA]; first | (show (_ : Int) ≠ _; decide) | (show (0 : Int) ≤ _; decide) | (show (0 : Int) ≤ _ ∧ _ < (256 : Int); decide))) ?_
    | (refine F.hold hA 2000 ?_; cbv))
  refine F.call [0, 1] (rnumber_ok xs row out q lim 0 k b 16 (by decide) hpq) rfl rfl rfl fun rs H' hq => ?_
  obtain ⟨v1, p1, e1, rfl, rfl, hn1⟩ := hq
  refine ⟨rfl, ?_⟩
  have hp1 := numRes_pre hpq hn1
  repeat (first
    | refine OK.drawn (by decide +kernel) ?_
    | refine OK.tree ⟨lookT tis, fun _ => true, []⟩ (by decide +kernel) ?_
    | refine OK.need (by first | assumption | (rw [hA]; first | (show (_ : Int) ≠ _; decide) | (show (0 : Int) ≤ _; decide) | (show (0 : Int) ≤ _ ∧ _ < (256 : Int); decide))) ?_
    | (refine F.hold hA 2000 ?_; cbv))
  refine F.call [0, 1] (rnumber_ok xs row out p1 lim e1 k b 16 (by decide) hp1) rfl rfl rfl fun rs H' hq => ?_
  obtain ⟨v2, p2, e2, rfl, rfl, hn2⟩ := hq
  refine ⟨rfl, ?_⟩
  have hp2 := numRes_pre hp1 hn2
  have hN : RsN xs lim p out q v1 v2 p2 e2 := rsN hq hn1 hn2
  clear hn1 hn2 hp1
  rcases hN with ⟨rfl, hN⟩ | ⟨he, hst⟩
  case inr =>
    repeat' (first
      | contradiction
      | exact (eqz hA he (by assumption)).elim
      | refine OK.drawn (by decide +kernel) ?_
      | refine OK.tree ⟨lookT tis, fun _ => true, []⟩ (by decide +kernel) ?_
      | refine OK.both ?_ ?_
      | refine OK.need (by first | assumption | (rw [hA]; first | (show (_ : Int) ≠ _; decide) | (show (0 : Int) ≤ _; decide) | (show (0 : Int) ≤ _ ∧ _ < (256 : Int); decide))) ?_
      | refine OK.need ?_ ?_
      | (refine OK.branch ?_ ?_ <;> intro h)
      | (refine F.hold hA 2000 ?_; cbv))
    refine F.loop (V := Int) [0, 2] (fun w => True) (fun w => 0) (fun w => [(4, .int .i64 w)]) (fun w => []) _ (by cbv; repeat (first | exact WkH.nil _ | apply WkH.gone | refine WkH.eq rfl ?_)) (by cbv; repeat (first | apply WkL.any | exact WkL.nil _ | refine WkL.eq rfl ?_ | refine WkL.bool rfl ?_)) (by cbv; exact ⟨rfl⟩) ?_ ?_
    · trivial
    intro i _ Bk hBk
    repeat' (first
      | contradiction
      | exact (eqz hA he (by assumption)).elim
      | refine OK.drawn (by decide +kernel) ?_
      | refine OK.tree ⟨lookT tis, fun _ => true, []⟩ (by decide +kernel) ?_
      | refine OK.both ?_ ?_
      | refine OK.need (by first | assumption | (rw [hA]; first | (show (_ : Int) ≠ _; decide) | (show (0 : Int) ≤ _; decide) | (show (0 : Int) ≤ _ ∧ _ < (256 : Int); decide))) ?_
      | refine OK.need ?_ ?_
      | (refine OK.branch ?_ ?_ <;> intro h)
      | (refine F.hold hA 2000 ?_; cbv))
    all_goals exact F.ret0 ⟨_, _, _, _, rfl, rfl, .inr ⟨he, hst⟩⟩
  have hC := rsC hA hp hq hN
  clear hN
  repeat (first
    | refine OK.drawn (by decide +kernel) ?_
    | refine OK.tree ⟨lookT tis, fun _ => true, []⟩ (by decide +kernel) ?_
    | refine OK.need (by first | assumption | (rw [hA]; first | (show (_ : Int) ≠ _; decide) | (show (0 : Int) ≤ _; decide) | (show (0 : Int) ≤ _ ∧ _ < (256 : Int); decide))) ?_
    | (refine F.hold hA 2000 ?_; cbv))
  refine OK.branch (fun c1 => ?_) (fun c1 => (eql_self hA c1).elim)
  repeat (first
    | refine OK.drawn (by decide +kernel) ?_
    | refine OK.tree ⟨lookT tis, fun _ => true, []⟩ (by decide +kernel) ?_
    | refine OK.need (by first | assumption | (rw [hA]; first | (show (_ : Int) ≠ _; decide) | (show (0 : Int) ≤ _; decide) | (show (0 : Int) ≤ _ ∧ _ < (256 : Int); decide))) ?_
    | (refine F.hold hA 2000 ?_; cbv))
  refine OK.branch (fun c2 => ?_) (fun c2 => ?_)
  · have hst := hC.c10 c2
    have he : (10 : Int) ≠ 0 := by decide
    repeat (first
      | refine OK.drawn (by decide +kernel) ?_
      | refine OK.tree ⟨lookT tis, fun _ => true, []⟩ (by decide +kernel) ?_
      | refine OK.need (by first | assumption | (rw [hA]; first | (show (_ : Int) ≠ _; decide) | (show (0 : Int) ≤ _; decide) | (show (0 : Int) ≤ _ ∧ _ < (256 : Int); decide))) ?_
      | (refine F.hold hA 2000 ?_; cbv))
    refine F.call [0, 1] (fail_ok row out p2 lim 0 k b 10) rfl rfl rfl fun rs H' hq => ?_
    obtain ⟨e1, rfl, rfl, hf⟩ := hq
    refine ⟨rfl, ?_⟩
    obtain rfl : e1 = 10 := hf
    repeat' (first
      | contradiction
      | exact (eqz hA he (by assumption)).elim
      | refine OK.drawn (by decide +kernel) ?_
      | refine OK.tree ⟨lookT tis, fun _ => true, []⟩ (by decide +kernel) ?_
      | refine OK.both ?_ ?_
      | refine OK.need (by first | assumption | (rw [hA]; first | (show (_ : Int) ≠ _; decide) | (show (0 : Int) ≤ _; decide) | (show (0 : Int) ≤ _ ∧ _ < (256 : Int); decide))) ?_
      | refine OK.need ?_ ?_
      | (refine OK.branch ?_ ?_ <;> intro h)
      | (refine F.hold hA 2000 ?_; cbv))
    refine F.loop (V := Int) [0, 2] (fun w => True) (fun w => 0) (fun w => [(4, .int .i64 w)]) (fun w => []) _ (by cbv; repeat (first | exact WkH.nil _ | apply WkH.gone | refine WkH.eq rfl ?_)) (by cbv; repeat (first | apply WkL.any | exact WkL.nil _ | refine WkL.eq rfl ?_ | refine WkL.bool rfl ?_)) (by cbv; exact ⟨rfl⟩) ?_ ?_
    · trivial
    intro i _ Bk hBk
    repeat' (first
      | contradiction
      | exact (eqz hA he (by assumption)).elim
      | refine OK.drawn (by decide +kernel) ?_
      | refine OK.tree ⟨lookT tis, fun _ => true, []⟩ (by decide +kernel) ?_
      | refine OK.both ?_ ?_
      | refine OK.need (by first | assumption | (rw [hA]; first | (show (_ : Int) ≠ _; decide) | (show (0 : Int) ≤ _; decide) | (show (0 : Int) ≤ _ ∧ _ < (256 : Int); decide))) ?_
      | refine OK.need ?_ ?_
      | (refine OK.branch ?_ ?_ <;> intro h)
      | (refine F.hold hA 2000 ?_; cbv))
    all_goals exact F.ret0 ⟨_, _, _, _, rfl, rfl, .inr ⟨he, hst⟩⟩
  repeat (first
    | refine OK.drawn (by decide +kernel) ?_
    | refine OK.tree ⟨lookT tis, fun _ => true, []⟩ (by decide +kernel) ?_
    | refine OK.need (by first | assumption | (rw [hA]; first | (show (_ : Int) ≠ _; decide) | (show (0 : Int) ≤ _; decide) | (show (0 : Int) ≤ _ ∧ _ < (256 : Int); decide))) ?_
    | (refine F.hold hA 2000 ?_; cbv))
  refine OK.branch (fun c3 => ?_) (fun c3 => (eql_self hA c3).elim)
  repeat (first
    | refine OK.drawn (by decide +kernel) ?_
    | refine OK.tree ⟨lookT tis, fun _ => true, []⟩ (by decide +kernel) ?_
    | refine OK.need (by first | assumption | (rw [hA]; first | (show (_ : Int) ≠ _; decide) | (show (0 : Int) ≤ _; decide) | (show (0 : Int) ≤ _ ∧ _ < (256 : Int); decide))) ?_
    | (refine F.hold hA 2000 ?_; cbv))
  refine OK.branch (fun c4 => ?_) (fun c4 => ?_)
  · have hst := hC.c15 c2 c4
    have he : (15 : Int) ≠ 0 := by decide
    repeat (first
      | refine OK.drawn (by decide +kernel) ?_
      | refine OK.tree ⟨lookT tis, fun _ => true, []⟩ (by decide +kernel) ?_
      | refine OK.need (by first | assumption | (rw [hA]; first | (show (_ : Int) ≠ _; decide) | (show (0 : Int) ≤ _; decide) | (show (0 : Int) ≤ _ ∧ _ < (256 : Int); decide))) ?_
      | (refine F.hold hA 2000 ?_; cbv))
    refine F.call [0, 1] (fail_ok row out p2 lim 0 k b 15) rfl rfl rfl fun rs H' hq => ?_
    obtain ⟨e1, rfl, rfl, hf⟩ := hq
    refine ⟨rfl, ?_⟩
    obtain rfl : e1 = 15 := hf
    repeat' (first
      | contradiction
      | exact (eqz hA he (by assumption)).elim
      | refine OK.drawn (by decide +kernel) ?_
      | refine OK.tree ⟨lookT tis, fun _ => true, []⟩ (by decide +kernel) ?_
      | refine OK.both ?_ ?_
      | refine OK.need (by first | assumption | (rw [hA]; first | (show (_ : Int) ≠ _; decide) | (show (0 : Int) ≤ _; decide) | (show (0 : Int) ≤ _ ∧ _ < (256 : Int); decide))) ?_
      | refine OK.need ?_ ?_
      | (refine OK.branch ?_ ?_ <;> intro h)
      | (refine F.hold hA 2000 ?_; cbv))
    refine F.loop (V := Int) [0, 2] (fun w => True) (fun w => 0) (fun w => [(4, .int .i64 w)]) (fun w => []) _ (by cbv; repeat (first | exact WkH.nil _ | apply WkH.gone | refine WkH.eq rfl ?_)) (by cbv; repeat (first | apply WkL.any | exact WkL.nil _ | refine WkL.eq rfl ?_ | refine WkL.bool rfl ?_)) (by cbv; exact ⟨rfl⟩) ?_ ?_
    · trivial
    intro i _ Bk hBk
    repeat' (first
      | contradiction
      | exact (eqz hA he (by assumption)).elim
      | refine OK.drawn (by decide +kernel) ?_
      | refine OK.tree ⟨lookT tis, fun _ => true, []⟩ (by decide +kernel) ?_
      | refine OK.both ?_ ?_
      | refine OK.need (by first | assumption | (rw [hA]; first | (show (_ : Int) ≠ _; decide) | (show (0 : Int) ≤ _; decide) | (show (0 : Int) ≤ _ ∧ _ < (256 : Int); decide))) ?_
      | refine OK.need ?_ ?_
      | (refine OK.branch ?_ ?_ <;> intro h)
      | (refine F.hold hA 2000 ?_; cbv))
    all_goals exact F.ret0 ⟨_, _, _, _, rfl, rfl, .inr ⟨he, hst⟩⟩
  repeat (first
    | refine OK.drawn (by decide +kernel) ?_
    | refine OK.tree ⟨lookT tis, fun _ => true, []⟩ (by decide +kernel) ?_
    | refine OK.need (by first | assumption | (rw [hA]; first | (show (_ : Int) ≠ _; decide) | (show (0 : Int) ≤ _; decide) | (show (0 : Int) ≤ _ ∧ _ < (256 : Int); decide))) ?_
    | (refine F.hold hA 2000 ?_; cbv))
  refine OK.branch (fun c5 => ?_) (fun c5 => (eql_self hA c5).elim)
  repeat (first
    | refine OK.drawn (by decide +kernel) ?_
    | refine OK.tree ⟨lookT tis, fun _ => true, []⟩ (by decide +kernel) ?_
    | refine OK.need (by first | assumption | (rw [hA]; first | (show (_ : Int) ≠ _; decide) | (show (0 : Int) ≤ _; decide) | (show (0 : Int) ≤ _ ∧ _ < (256 : Int); decide))) ?_
    | (refine F.hold hA 2000 ?_; cbv))
  refine OK.branch (fun c6 => ?_) (fun c6 => ?_)
  · have hst := hC.c14 c2 c4 c6
    have he : (14 : Int) ≠ 0 := by decide
    repeat (first
      | refine OK.drawn (by decide +kernel) ?_
      | refine OK.tree ⟨lookT tis, fun _ => true, []⟩ (by decide +kernel) ?_
      | refine OK.need (by first | assumption | (rw [hA]; first | (show (_ : Int) ≠ _; decide) | (show (0 : Int) ≤ _; decide) | (show (0 : Int) ≤ _ ∧ _ < (256 : Int); decide))) ?_
      | (refine F.hold hA 2000 ?_; cbv))
    refine F.call [0, 1] (fail_ok row out p2 lim 0 k b 14) rfl rfl rfl fun rs H' hq => ?_
    obtain ⟨e1, rfl, rfl, hf⟩ := hq
    refine ⟨rfl, ?_⟩
    obtain rfl : e1 = 14 := hf
    repeat' (first
      | contradiction
      | exact (eqz hA he (by assumption)).elim
      | refine OK.drawn (by decide +kernel) ?_
      | refine OK.tree ⟨lookT tis, fun _ => true, []⟩ (by decide +kernel) ?_
      | refine OK.both ?_ ?_
      | refine OK.need (by first | assumption | (rw [hA]; first | (show (_ : Int) ≠ _; decide) | (show (0 : Int) ≤ _; decide) | (show (0 : Int) ≤ _ ∧ _ < (256 : Int); decide))) ?_
      | refine OK.need ?_ ?_
      | (refine OK.branch ?_ ?_ <;> intro h)
      | (refine F.hold hA 2000 ?_; cbv))
    refine F.loop (V := Int) [0, 2] (fun w => True) (fun w => 0) (fun w => [(4, .int .i64 w)]) (fun w => []) _ (by cbv; repeat (first | exact WkH.nil _ | apply WkH.gone | refine WkH.eq rfl ?_)) (by cbv; repeat (first | apply WkL.any | exact WkL.nil _ | refine WkL.eq rfl ?_ | refine WkL.bool rfl ?_)) (by cbv; exact ⟨rfl⟩) ?_ ?_
    · trivial
    intro i _ Bk hBk
    repeat' (first
      | contradiction
      | exact (eqz hA he (by assumption)).elim
      | refine OK.drawn (by decide +kernel) ?_
      | refine OK.tree ⟨lookT tis, fun _ => true, []⟩ (by decide +kernel) ?_
      | refine OK.both ?_ ?_
      | refine OK.need (by first | assumption | (rw [hA]; first | (show (_ : Int) ≠ _; decide) | (show (0 : Int) ≤ _; decide) | (show (0 : Int) ≤ _ ∧ _ < (256 : Int); decide))) ?_
      | refine OK.need ?_ ?_
      | (refine OK.branch ?_ ?_ <;> intro h)
      | (refine F.hold hA 2000 ?_; cbv))
    all_goals exact F.ret0 ⟨_, _, _, _, rfl, rfl, .inr ⟨he, hst⟩⟩
  obtain ⟨n, a, hG⟩ := hC.go c2 c4 c6
  clear hC
  repeat (first
    | refine OK.drawn (by decide +kernel) ?_
    | refine OK.tree ⟨lookT tis, fun _ => true, []⟩ (by decide +kernel) ?_
    | refine OK.need (by first | assumption | (rw [hA]; first | (show (_ : Int) ≠ _; decide) | (show (0 : Int) ≤ _; decide) | (show (0 : Int) ≤ _ ∧ _ < (256 : Int); decide))) ?_
    | (refine F.hold hA 2000 ?_; cbv))
  refine F.loop (V := Int × Int × List UInt8 × Int) [0, 2] (RlInv xs out k n a) (fun w => (n - w.1).toNat) (fun w => [(4, .int .i64 w.1)]) (fun w => [(0, .cells 93 [.ro (.bytes row), .int .i64 w.2.1, .own 1, .int .i64 lim, .int .i64 0, .int .i64 w.2.2.2, .int .i64 b]), (1, .row 5 (.bytes w.2.2.1))]) (_, _, _, _) (by cbv; repeat (first | exact WkH.nil _ | apply WkH.gone | refine WkH.eq rfl ?_)) (by cbv; repeat (first | apply WkL.any | exact WkL.nil _ | refine WkL.eq rfl ?_ | refine WkL.bool rfl ?_)) (by cbv; exact ⟨rfl⟩) ?_ ?_
  · exact ⟨0, rfl, Nat.zero_le _, hG.pe, by simp, by simp⟩
  rintro ⟨i, q, o, kk⟩ hI Bk hBk
  repeat (first
    | refine OK.drawn (by decide +kernel) ?_
    | refine OK.tree ⟨lookT tis, fun _ => true, []⟩ (by decide +kernel) ?_
    | refine OK.need (by first | assumption | (rw [hA]; first | (show (_ : Int) ≠ _; decide) | (show (0 : Int) ≤ _; decide) | (show (0 : Int) ≤ _ ∧ _ < (256 : Int); decide))) ?_
    | (refine F.hold hA 2000 ?_; cbv))
  refine OK.branch (fun d1 => ?_) (fun d1 => ?_)
  · have hat := rlA hA hG hI d1
    repeat (first
      | refine OK.drawn (by decide +kernel) ?_
      | refine OK.tree ⟨lookT tis, fun _ => true, []⟩ (by decide +kernel) ?_
      | refine OK.need (by first | assumption | (rw [hA]; first | (show (_ : Int) ≠ _; decide) | (show (0 : Int) ≤ _; decide) | (show (0 : Int) ≤ _ ∧ _ < (256 : Int); decide))) ?_
      | (refine F.hold hA 2000 ?_; cbv))
    refine OK.branch (fun d2 => ?_) (fun d2 => (eql_self hA d2).elim)
    repeat (first
      | refine OK.drawn (by decide +kernel) ?_
      | refine OK.tree ⟨lookT tis, fun _ => true, []⟩ (by decide +kernel) ?_
      | refine OK.need (by first | assumption | (rw [hA]; first | (show (_ : Int) ≠ _; decide) | (show (0 : Int) ≤ _; decide) | (show (0 : Int) ≤ _ ∧ _ < (256 : Int); decide))) ?_
      | (refine F.hold hA 2000 ?_; cbv))
    refine F.call [0, 1] (rnumber_ok xs row o q lim 0 kk b 8 (by decide) hat.pr) rfl rfl rfl fun rs H' hq => ?_
    obtain ⟨v, p', e, rfl, rfl, hn⟩ := hq
    refine ⟨rfl, ?_⟩
    have hB := hat.nm _ _ _ hn
    obtain rfl := hB.e
    repeat (first
      | refine OK.drawn (by decide +kernel) ?_
      | refine OK.tree ⟨lookT tis, fun _ => true, []⟩ (by decide +kernel) ?_
      | refine OK.need (by first | assumption | (rw [hA]; first | (show (_ : Int) ≠ _; decide) | (show (0 : Int) ≤ _; decide) | (show (0 : Int) ≤ _ ∧ _ < (256 : Int); decide))) ?_
      | (refine F.hold hA 2000 ?_; cbv))
    refine F.call [0, 1] (rput_ok row o p' lim 0 kk b _ hB.pp) rfl rfl rfl fun rs H' hq => ?_
    obtain ⟨o2, e2, rfl, rfl, hr⟩ := hq
    refine ⟨rfl, ?_⟩
    obtain ⟨rfl, hI2⟩ := hB.ps _ _ hr
    repeat (first
      | refine OK.drawn (by decide +kernel) ?_
      | refine OK.tree ⟨lookT tis, fun _ => true, []⟩ (by decide +kernel) ?_
      | refine OK.need (by first | assumption | (rw [hA]; first | (show (_ : Int) ≠ _; decide) | (show (0 : Int) ≤ _; decide) | (show (0 : Int) ≤ _ ∧ _ < (256 : Int); decide))) ?_
      | (refine F.hold hA 2000 ?_; cbv))
    refine OK.back (hBk _ _ (_, _, _, _) (by cbv; repeat (first | exact WkH.nil _ | apply WkH.gone | refine WkH.eq rfl ?_)) (by cbv; repeat (first | apply WkL.any | exact WkL.nil _ | refine WkL.eq rfl ?_ | refine WkL.bool rfl ?_)) (by cbv; exact ⟨rfl⟩) ?_ ?_)
    · exact hI2
    · exact hat.mu
  have hfin := rlEnd hA hG hI d1
  clear hBk
  repeat (first
    | refine OK.drawn (by decide +kernel) ?_
    | refine OK.tree ⟨lookT tis, fun _ => true, []⟩ (by decide +kernel) ?_
    | refine OK.need (by first | assumption | (rw [hA]; first | (show (_ : Int) ≠ _; decide) | (show (0 : Int) ≤ _; decide) | (show (0 : Int) ≤ _ ∧ _ < (256 : Int); decide))) ?_
    | (refine F.hold hA 2000 ?_; cbv))
  exact F.ret0 ⟨_, _, _, _, rfl, rfl, hfin⟩
end Go.L1

-- D27
namespace Go.L1
open Go Go.Sx Go.Proofs Go.Huff
set_option maxRecDepth 20000
set_option linter.unusedVariables false
set_option linter.unusedSimpArgs false
theorem bnotF {A : Leaf} (hA : A = .std) (h : A.bnot false = false) : False := by subst hA; cases h
theorem cqAt {A : Leaf} {out o : List UInt8} {base x far y i : Int} (hA : A = .std) (e1 : A.ar .add .i64 base x = base + x) (e2 : A.ar .add .i64 far y = far + y) (n0 : 0 ≤ base + x) (f0 : 1 ≤ far + y) (f1 : far + y ≤ out.length) (l : out.length + (base + x) ≤ 1048576)
    (hI : CpInv out (far + y).toNat (base + x).toNat (i, o)) (b1 : A.cmp .lss i (A.ar .add .i64 base x) = true) : CpAt A out o base x far y i := by
  rw [e1] at b1
  obtain ⟨j, k1, k2, k3⟩ := hI
  simp only at k1 k3
  subst hA k1
  have b1 : (j : Int) < base + x := of_decide_eq_true b1
  have ol : o.length = out.length + j := by rw [k3, copyN_len]
  have ea : Leaf.std.ar .add .i64 (j : Int) 1 = ((j + 1 : Nat) : Int) := by rw [add_i64 (by omega) (by omega)]; omega
  have es : Leaf.std.ar .sub .i64 (Leaf.std.len o) (far + y) = ((o.length - (far + y).toNat : Nat) : Int) := by
    have := sub_i64 (a := (o.length : Int)) (b := far + y) (by omega) (by omega)
    show Leaf.std.ar .sub .i64 (o.length : Int) (far + y) = _
    rw [this]; omega
  have eg : Leaf.std.get 0 o ((o.length - (far + y).toNat : Nat) : Int) = o.getD (o.length - (far + y).toNat) 0 := by show o.getD _ 0 = _; rw [Int.toNat_natCast]
  have eb : Leaf.std.i2b (Leaf.std.b2i (o.getD (o.length - (far + y).toNat) 0)) = o.getD (o.length - (far + y).toNat) 0 := by
    show UInt8.ofNat ((((o.getD (o.length - (far + y).toNat) 0).toNat : Nat) : Int)).toNat = _
    rw [Int.toNat_natCast, UInt8.ofNat_toNat]
  have hb := (o.getD (o.length - (far + y).toNat) 0).toNat_lt
  constructor
  · rw [e2, es]; show (0 : Int) ≤ _ ∧ _ < (o.length : Int); omega
  · rw [e2, es, eg]
    show (0 : Int) ≤ (((o.getD (o.length - (far + y).toNat) 0).toNat : Nat) : Int) ∧ (((o.getD (o.length - (far + y).toNat) 0).toNat : Nat) : Int) < (256 : Int); omega
  · rw [e2, es, eg, eb]
    have e : Leaf.std.len (Leaf.std.app o [o.getD (o.length - (far + y).toNat) 0]) = ((o.length + 1 : Nat) : Int) := by
      show (((o ++ [_]).length : Nat) : Int) = _
      rw [List.length_append]; rfl
    rw [e]
    show (0 : Int) ≤ _ ∧ _ ≤ (140737488355328 : Int) ∧ _ * ((1 : Nat) : Int) ≤ (140737488355328 : Int)
    omega
  · rw [e2, es, eg, eb, ea]
    refine ⟨j + 1, rfl, by omega, ?_⟩
    show o ++ [_] = _
    rw [copyN_succ, ← k3]
  · rw [ea]; omega
/-- What a length that goes back is shown to do. -/
def RcpIs (other : List Int) (xs : List UInt8) (lim s p : Int) (out : List UInt8) (k p' : Int) (out' : List UInt8) (e1 : Int) : Prop :=
  (e1 = 0 ∧ backR other xs lim s p out = .ok (p', out') ∧ SySt xs lim p' out' k) ∨ (e1 ≠ 0 ∧ backR other xs lim s p out = .error e1)
structure CqN (other : List Int) (xs : List UInt8) (s p base : Int) (n : Nat) (x p1 d p2 dist : Int) (m : Nat) (y p3 : Int) : Prop where
  r1 : lenR s = .ok (base, n)
  n1 : numR xs p n = .ok (x, p1)
  s1 : symR other xs p1 = .ok (d, p2)
  r2 : distR d = .ok (dist, m)
  n2 : numR xs p2 m = .ok (y, p3)
theorem cqOk {other : List Int} {xs out : List UInt8} {lim s p base x p1 e1 d p2 e2 dist y p3 e4 : Int} {n m : Nat} (r1 : lenR s = .ok (base, n)) (h1 : NumRes xs p n 0 x p1 e1) (h2 : SymRes other xs p1 e1 d p2 e2) (r2 : distR d = .ok (dist, m)) (h3 : NumRes xs p2 m e2 y p3 e4) :
    (e4 = 0 ∧ CqN other xs s p base n x p1 d p2 dist m y p3) ∨ (e4 ≠ 0 ∧ backR other xs lim s p out = .error e4) := by
  rcases h1 with ⟨_, rfl, h1⟩ | ⟨_, rfl, h1, _, _⟩ | ⟨h, _⟩
  case inr.inr => exact absurd rfl h
  · rcases h2 with ⟨_, rfl, h2⟩ | ⟨_, he, h2, rfl, _⟩ | ⟨h, _⟩
    case inr.inr => exact absurd rfl h
    · rcases h3 with ⟨_, rfl, h3⟩ | ⟨_, rfl, h3, _, _⟩ | ⟨h, _⟩
      case inr.inr => exact absurd rfl h
      · exact .inl ⟨rfl, r1, h1, h2, r2, h3⟩
      · refine .inr ⟨by decide, ?_⟩
        unfold backR
        simp only [bind, Except.bind, r1, h1, h2, r2, h3]
    · rcases h3 with ⟨h, _⟩ | ⟨h, _⟩ | ⟨_, rfl, _⟩
      · exact absurd h he
      · exact absurd h he
      · refine .inr ⟨he, ?_⟩
        unfold backR
        simp only [bind, Except.bind, r1, h1, h2]
  · rcases h2 with ⟨h, _⟩ | ⟨h, _⟩ | ⟨_, rfl, rfl, _⟩
    · exact absurd h (by decide)
    · exact absurd h (by decide)
    · rcases h3 with ⟨h, _⟩ | ⟨h, _⟩ | ⟨_, rfl, _⟩
      · exact absurd h (by decide)
      · exact absurd h (by decide)
      · refine .inr ⟨by decide, ?_⟩
        unfold backR
        simp only [bind, Except.bind, r1, h1]
theorem cqBad {other : List Int} {xs out : List UInt8} {lim s p base x p1 e1 d p2 e2 e3 y p3 e4 : Int} {n m : Nat} (r1 : lenR s = .ok (base, n)) (h1 : NumRes xs p n 0 x p1 e1) (h2 : SymRes other xs p1 e1 d p2 e2) (r2 : distR d = .error 10) (hf : FailIs e2 10 e3) (h3 : NumRes xs p2 m e3 y p3 e4) :
    e4 ≠ 0 ∧ backR other xs lim s p out = .error e4 := by
  have he3 : e3 ≠ 0 := by unfold FailIs at hf; split at hf <;> omega
  have h4 : e4 = e3 := by
    rcases h3 with ⟨h, _⟩ | ⟨h, _⟩ | ⟨_, h, _⟩
    · exact absurd h he3
    · exact absurd h he3
    · exact h
  subst h4
  refine ⟨he3, ?_⟩
  rcases h1 with ⟨_, rfl, h1⟩ | ⟨_, rfl, h1, _, _⟩ | ⟨h, _⟩
  case inr.inr => exact absurd rfl h
  · rcases h2 with ⟨_, rfl, h2⟩ | ⟨_, he, h2, rfl, _⟩ | ⟨h, _⟩
    case inr.inr => exact absurd rfl h
    · obtain rfl : e4 = 10 := hf
      unfold backR
      simp only [bind, Except.bind, r1, h1, h2, r2]
    · unfold FailIs at hf
      rw [if_neg he] at hf
      subst hf
      unfold backR
      simp only [bind, Except.bind, r1, h1, h2]
  · rcases h2 with ⟨h, _⟩ | ⟨h, _⟩ | ⟨_, rfl, rfl, _⟩
    · exact absurd h (by decide)
    · exact absurd h (by decide)
    · obtain rfl : e4 = 15 := hf
      unfold backR
      simp only [bind, Except.bind, r1, h1]
theorem symRes_pre {xs row : List UInt8} {ls : List Int} {p e0 v p' e1 : Int} (hp : RPre row (valBytes xs) (8 * xs.length) p) (h : SymRes ls xs p e0 v p' e1) : RPre row (valBytes xs) (8 * xs.length) p' := by
  have h1 := hp.lo
  have h2 := hp.hi
  rcases h with ⟨_, _, h⟩ | ⟨_, _, _, _, rfl⟩ | ⟨_, _, _, rfl⟩
  · have h3 := sym_fwd h (by omega) h1
    exact ⟨hp.r, hp.mx, by omega, by omega⟩
  · exact hp
  · exact hp
structure CqG (A : Leaf) (other : List Int) (xs row : List UInt8) (lim s p : Int) (out : List UInt8) (k base x dist y p3 : Int) : Prop where
  n : A.ar .add .i64 base x = base + x
  f : A.ar .add .i64 dist y = dist + y
  n0 : 0 ≤ base + x
  f0 : 1 ≤ dist + y
  f1 : dist + y ≤ out.length
  l : out.length + (base + x) ≤ lim
  hl : lim ≤ 1048576
  l0 : 0 ≤ lim
  r : backR other xs lim s p out = .ok (p3, copyN (dist + y).toNat (base + x).toNat out)
  s : InS xs p3
  kk : KOK p3 k
structure CqC (A : Leaf) (other : List Int) (xs row : List UInt8) (lim s p : Int) (out : List UInt8) (k base x dist y p3 : Int) : Prop where
  c10 : A.cmp .gtr (A.ar .add .i64 dist y) (A.len out) = true → backR other xs lim s p out = .error 10
  c14 : A.cmp .gtr (A.ar .add .i64 dist y) (A.len out) = false → A.cmp .gtr (A.ar .add .i64 base x) (A.ar .sub .i64 lim (A.len out)) = true → backR other xs lim s p out = .error 14
  go : A.cmp .gtr (A.ar .add .i64 dist y) (A.len out) = false → A.cmp .gtr (A.ar .add .i64 base x) (A.ar .sub .i64 lim (A.len out)) = false → CqG A other xs row lim s p out k base x dist y p3
theorem cqC {A : Leaf} {other : List Int} {xs row out : List UInt8} {lim s p k base x p1 d p2 dist y p3 : Int} {n m : Nat} (hA : A = .std) (hp : RsP xs row lim p out k) (hn : n ≤ 5) (hm : m ≤ 13) (hb : 3 ≤ base ∧ base ≤ 258) (hd : 1 ≤ dist ∧ dist ≤ 24577) (h : CqN other xs s p base n x p1 d p2 dist m y p3) : CqC A other xs row lim s p out k base x dist y p3 := by
  obtain ⟨r1, n1, s1, r2, n2⟩ := h
  have h0 := hp.pre.lo
  have h1 := hp.pre.hi
  have h2 := hp.l
  have h3 := hp.s.l
  have o1 := h3.lo
  have o2 := h3.hi
  have o3 := h3.ot
  have h4 := hp.s.k
  have k0 := h4.lo
  have k1 := h4.hi
  have a1 := num_nn n1
  have a2 := num_lt n1 (by omega)
  have a3 := sym_fwd s1 (by omega) (by omega)
  have a4 := num_nn n2
  have a5 := num_lt n2 (by omega)
  have e0 : backR other xs lim s p out = if dist + y ≤ out.length then (roomR lim out (base + x) >>= fun _ => Except.ok (p3, copyN (dist + y).toNat (base + x).toNat out)) else .error 10 := by
    unfold backR
    simp only [bind, Except.bind, r1, n1, s1, r2, n2]
  subst hA
  have e1 : Leaf.std.ar .add .i64 base x = base + x := add_i64 (by omega) (by omega)
  have e2 : Leaf.std.ar .add .i64 dist y = dist + y := add_i64 (by omega) (by omega)
  have e4 : Leaf.std.ar .sub .i64 lim (out.length : Int) = lim - out.length := sub_i64 (by omega) (by omega)
  have d1 : Leaf.std.cmp .gtr (Leaf.std.ar .add .i64 dist y) (Leaf.std.len out) = decide ((out.length : Int) < dist + y) := by rw [e2]; rfl
  have d2 : Leaf.std.cmp .gtr (Leaf.std.ar .add .i64 base x) (Leaf.std.ar .sub .i64 lim (Leaf.std.len out)) = decide (lim - out.length < base + x) := by
    show Leaf.std.cmp .gtr (Leaf.std.ar .add .i64 base x) (Leaf.std.ar .sub .i64 lim (out.length : Int)) = _
    rw [e1, e4]; rfl
  refine ⟨fun b1 => ?_, fun b1 b2 => ?_, fun b1 b2 => ?_⟩
  · rw [d1] at b1
    have b1 := of_decide_eq_true b1
    rw [e0, if_neg (by omega)]
  · rw [d1] at b1
    rw [d2] at b2
    have b1 := of_decide_eq_false b1
    have b2 := of_decide_eq_true b2
    rw [e0, if_pos (by omega)]
    have : roomR lim out (base + x) = .error 14 := by unfold roomR; rw [if_neg (by omega)]
    rw [this]; rfl
  · rw [d1] at b1
    rw [d2] at b2
    have b1 := of_decide_eq_false b1
    have b2 := of_decide_eq_false b2
    refine ⟨e1, e2, by omega, by omega, by omega, by omega, o2, o1, ?_, ⟨⟨⟨by omega, by omega, by omega⟩, by omega⟩, by omega⟩, ⟨k0, by omega⟩⟩
    rw [e0, if_pos (by omega)]
    have : roomR lim out (base + x) = .ok () := by unfold roomR; rw [if_pos (by omega)]
    rw [this]; rfl
structure CqA (A : Leaf) (lim : Int) (out o : List UInt8) (base x dist y i : Int) : Prop where
  q1 : A.inb (A.ar .sub .i64 (A.len o) (A.ar .add .i64 dist y)) (A.len o)
  pp : RpP o (A.b2i (A.get 0 o (A.ar .sub .i64 (A.len o) (A.ar .add .i64 dist y))))
  ps : ∀ o2 e2, RpRes lim o (A.b2i (A.get 0 o (A.ar .sub .i64 (A.len o) (A.ar .add .i64 dist y)))) 0 o2 e2 → e2 = 0 ∧ CpInv out (dist + y).toNat (base + x).toNat (A.ar .add .i64 i 1, o2)
  mu : (base + x - A.ar .add .i64 i 1).toNat < (base + x - i).toNat
theorem cqA {A : Leaf} {other : List Int} {xs row out o : List UInt8} {lim s p k base x dist y p3 i : Int} (hA : A = .std) (hG : CqG A other xs row lim s p out k base x dist y p3) (hI : CpInv out (dist + y).toNat (base + x).toNat (i, o)) (b1 : A.cmp .lss i (A.ar .add .i64 base x) = true) : CqA A lim out o base x dist y i := by
  have hl := hG.l
  have hl2 := hG.hl
  have hat := cqAt hA hG.n hG.f hG.n0 hG.f0 hG.f1 (by omega) hI b1
  have hI2 := hI
  obtain ⟨j, k1, k2, k3⟩ := hI2
  simp only at k1 k3
  have hol : o.length = out.length + j := by rw [k3, copyN_len]
  have hn0 := hG.n0
  have hq := hat.q2
  have hnx := hat.nx
  rw [hG.n] at b1
  refine ⟨hat.q1, ?_, fun o2 e2 hr => ?_, hat.mu⟩
  · subst hA
    exact ⟨by omega, hq.1, hq.2⟩
  · subst hA
    have b1 : i < base + x := of_decide_eq_true b1
    rcases hr with ⟨h, _⟩ | ⟨_, rfl, rfl, _⟩ | ⟨_, _, _, h⟩
    · exact absurd rfl h
    · exact ⟨rfl, hnx⟩
    · omega
theorem cqEnd {A : Leaf} {other : List Int} {xs row out o : List UInt8} {lim s p k base x dist y p3 i : Int} (hA : A = .std) (hG : CqG A other xs row lim s p out k base x dist y p3) (hI : CpInv out (dist + y).toNat (base + x).toNat (i, o)) (b1 : A.cmp .lss i (A.ar .add .i64 base x) = false) : RcpIs other xs lim s p out k p3 o 0 := by
  obtain ⟨j, k1, k2, k3⟩ := hI
  simp only at k1 k3
  rw [hG.n] at b1
  have hl := hG.l
  have hn0 := hG.n0
  have hl0 := hG.l0
  subst hA k1
  have b1 : ¬ (j : Int) < base + x := of_decide_eq_false b1
  have : j = (base + x).toNat := by omega
  subst this
  have hol : o.length = out.length + (base + x).toNat := by rw [k3, copyN_len]
  exact .inl ⟨rfl, by rw [k3]; exact hG.r, ⟨hG.s, ⟨hl0, hG.hl, by omega⟩, hG.kk⟩⟩
theorem rcopied_ok (ls : List Int) (rows : List (List UInt8)) (xs row out : List UInt8) (n s p lim k b : Int) (hR : RdyR ls) (ho : ORows ls rows) (hp : RsP xs row lim p out k) : FOK Try.prog C1 73 (fun c => match c with | 1 => false | _ => true) [.ptr 0 0, .int .i64 s, .ptr 2 0]
    [.cells 93 [.ro (.bytes row), .int .i64 p, .own 1, .int .i64 lim, .int .i64 0, .int .i64 k, .int .i64 b], .row 5 (.bytes out), .cells 41 [.ro (.recs 4 rows), .int .i64 n]]
    (fun rs H => ∃ p' out' e1, rs = [] ∧ H = [.cells 93 [.ro (.bytes row), .int .i64 p', .own 1, .int .i64 lim, .int .i64 e1, .int .i64 k, .int .i64 b], .row 5 (.bytes out'), .cells 41 [.ro (.recs 4 rows), .int .i64 n]] ∧ RcpIs ls xs lim s p out k p' out' e1) := by
  refine fok_of (B := ⟨lookT tis, fun c => match c with | 1 => false | _ => true, []⟩) (tab1 _) (zero1 _) cod1 mix1 Try.func73 (by kernel_rfl) rfl rfl rfl fun X F => ?_
  obtain ⟨A, hA⟩ : ∃ A, A = Leaf.std := ⟨_, rfl⟩
  refine F.hold hA 2000 ?_
  cbv
  repeat (first
    | refine OK.drawn (by decide +kernel) ?_
    | refine OK.tree ⟨lookT tis, fun _ => true, []⟩ (by decide +kernel) ?_
    | refine OK.need (by first | assumption | (rw [hA]; first | (show (_ : Int) ≠ _; decide) | (show (0 : Int) ≤ _; decide) | (show (0 : Int) ≤ _ ∧ _ < (256 : Int); decide))) ?_
    | (refine F.hold hA 2000 ?_; cbv))
  refine F.call [] (reflength_ok s) rfl rfl rfl fun rs H' hq => ?_
  obtain ⟨base, extra, ok, rfl, rfl, hl⟩ := hq
  refine ⟨rfl, ?_⟩
  rcases hl with ⟨rfl, l1, l2, l3, l4, hlen⟩ | ⟨rfl, rfl, rfl, hlen⟩
  case inr =>
    repeat' (first
      | contradiction
      | exact (bnotF hA (by assumption)).elim
      | refine OK.drawn (by decide +kernel) ?_
      | refine OK.tree ⟨lookT tis, fun _ => true, []⟩ (by decide +kernel) ?_
      | refine OK.both ?_ ?_
      | refine OK.need (by first | assumption | (rw [hA]; first | (show (_ : Int) ≠ _; decide) | (show (0 : Int) ≤ _; decide) | (show (0 : Int) ≤ _ ∧ _ < (256 : Int); decide))) ?_
      | refine OK.need ?_ ?_
      | (refine OK.branch ?_ ?_ <;> intro h)
      | (refine F.hold hA 2000 ?_; cbv))
    refine F.call [0, 1] (fail_ok row out p lim 0 k b 10) rfl rfl rfl fun rs H' hq => ?_
    obtain ⟨e1, rfl, rfl, hf⟩ := hq
    refine ⟨rfl, ?_⟩
    obtain rfl : e1 = 10 := hf
    repeat (first
      | refine OK.drawn (by decide +kernel) ?_
      | refine OK.tree ⟨lookT tis, fun _ => true, []⟩ (by decide +kernel) ?_
      | refine OK.need (by first | assumption | (rw [hA]; first | (show (_ : Int) ≠ _; decide) | (show (0 : Int) ≤ _; decide) | (show (0 : Int) ≤ _ ∧ _ < (256 : Int); decide))) ?_
      | (refine F.hold hA 2000 ?_; cbv))
    refine F.ret0 ⟨_, _, _, rfl, rfl, .inr ⟨by decide, ?_⟩⟩
    unfold backR
    simp only [bind, Except.bind, hlen]
  obtain ⟨nn, rfl⟩ : ∃ nn : Nat, extra = nn := ⟨extra.toNat, by omega⟩
  rw [Int.toNat_natCast] at hlen
  have hnn : nn ≤ 5 := by omega
  repeat' (first
    | contradiction
    | exact (bnot_t hA (by assumption)).elim
    | refine OK.drawn (by decide +kernel) ?_
    | refine OK.tree ⟨lookT tis, fun _ => true, []⟩ (by decide +kernel) ?_
    | refine OK.both ?_ ?_
    | refine OK.need (by first | assumption | (rw [hA]; first | (show (_ : Int) ≠ _; decide) | (show (0 : Int) ≤ _; decide) | (show (0 : Int) ≤ _ ∧ _ < (256 : Int); decide))) ?_
    | refine OK.need ?_ ?_
    | (refine OK.branch ?_ ?_ <;> intro h)
    | (refine F.hold hA 2000 ?_; cbv))
  refine F.call [0, 1] (rnumber_ok xs row out p lim 0 k b nn (by omega) hp.pre) rfl rfl rfl fun rs H' hq => ?_
  obtain ⟨x, p1, e1, rfl, rfl, hn1⟩ := hq
  refine ⟨rfl, ?_⟩
  have hp1 := numRes_pre hp.pre hn1
  repeat (first
    | refine OK.drawn (by decide +kernel) ?_
    | refine OK.tree ⟨lookT tis, fun _ => true, []⟩ (by decide +kernel) ?_
    | refine OK.need (by first | assumption | (rw [hA]; first | (show (_ : Int) ≠ _; decide) | (show (0 : Int) ≤ _; decide) | (show (0 : Int) ≤ _ ∧ _ < (256 : Int); decide))) ?_
    | (refine F.hold hA 2000 ?_; cbv))
  refine F.call [0, 1, 2] (rsymbol_ok ls rows xs row out n p1 lim e1 k b hR ho hp1) rfl rfl rfl fun rs H' hq => ?_
  obtain ⟨d, p2, e2, rfl, rfl, hs1⟩ := hq
  refine ⟨rfl, ?_⟩
  have hp2 := symRes_pre hp1 hs1
  repeat (first
    | refine OK.drawn (by decide +kernel) ?_
    | refine OK.tree ⟨lookT tis, fun _ => true, []⟩ (by decide +kernel) ?_
    | refine OK.need (by first | assumption | (rw [hA]; first | (show (_ : Int) ≠ _; decide) | (show (0 : Int) ≤ _; decide) | (show (0 : Int) ≤ _ ∧ _ < (256 : Int); decide))) ?_
    | (refine F.hold hA 2000 ?_; cbv))
  refine F.call [] (refdistance_ok d) rfl rfl rfl fun rs H' hq => ?_
  obtain ⟨dist, more, ok, rfl, rfl, hd⟩ := hq
  refine ⟨rfl, ?_⟩
  rcases hd with ⟨rfl, m1, m2, m3, m4, hdis⟩ | ⟨rfl, rfl, rfl, hdis⟩
  case inr =>
    repeat' (first
      | contradiction
      | exact (bnotF hA (by assumption)).elim
      | refine OK.drawn (by decide +kernel) ?_
      | refine OK.tree ⟨lookT tis, fun _ => true, []⟩ (by decide +kernel) ?_
      | refine OK.both ?_ ?_
      | refine OK.need (by first | assumption | (rw [hA]; first | (show (_ : Int) ≠ _; decide) | (show (0 : Int) ≤ _; decide) | (show (0 : Int) ≤ _ ∧ _ < (256 : Int); decide))) ?_
      | refine OK.need ?_ ?_
      | (refine OK.branch ?_ ?_ <;> intro h)
      | (refine F.hold hA 2000 ?_; cbv))
    refine F.call [0, 1] (fail_ok row out p2 lim e2 k b 10) rfl rfl rfl fun rs H' hq => ?_
    obtain ⟨e3, rfl, rfl, hf⟩ := hq
    refine ⟨rfl, ?_⟩
    repeat (first
      | refine OK.drawn (by decide +kernel) ?_
      | refine OK.tree ⟨lookT tis, fun _ => true, []⟩ (by decide +kernel) ?_
      | refine OK.need (by first | assumption | (rw [hA]; first | (show (_ : Int) ≠ _; decide) | (show (0 : Int) ≤ _; decide) | (show (0 : Int) ≤ _ ∧ _ < (256 : Int); decide))) ?_
      | (refine F.hold hA 2000 ?_; cbv))
    refine F.call [0, 1] (rnumber_ok xs row out p2 lim e3 k b 0 (by decide) hp2) rfl rfl rfl fun rs H' hq => ?_
    obtain ⟨y, p3, e4, rfl, rfl, hn2⟩ := hq
    refine ⟨rfl, ?_⟩
    obtain ⟨he, hst⟩ := cqBad (out := out) (lim := lim) hlen hn1 hs1 hdis hf hn2
    repeat' (first
      | contradiction
      | exact (eqz hA he (by assumption)).elim
      | refine OK.drawn (by decide +kernel) ?_
      | refine OK.tree ⟨lookT tis, fun _ => true, []⟩ (by decide +kernel) ?_
      | refine OK.both ?_ ?_
      | refine OK.need (by first | assumption | (rw [hA]; first | (show (_ : Int) ≠ _; decide) | (show (0 : Int) ≤ _; decide) | (show (0 : Int) ≤ _ ∧ _ < (256 : Int); decide))) ?_
      | refine OK.need ?_ ?_
      | (refine OK.branch ?_ ?_ <;> intro h)
      | (refine F.hold hA 2000 ?_; cbv))
    refine F.loop (V := Int) [0, 9] (fun w => True) (fun w => 0) (fun w => [(13, .int .i64 w)]) (fun w => []) _ (by cbv; repeat (first | exact WkH.nil _ | apply WkH.gone | refine WkH.eq rfl ?_)) (by cbv; repeat (first | apply WkL.any | exact WkL.nil _ | refine WkL.eq rfl ?_ | refine WkL.bool rfl ?_)) (by cbv; exact ⟨rfl⟩) ?_ ?_
    · trivial
    intro i _ Bk hBk
    repeat' (first
      | contradiction
      | exact (eqz hA he (by assumption)).elim
      | refine OK.drawn (by decide +kernel) ?_
      | refine OK.tree ⟨lookT tis, fun _ => true, []⟩ (by decide +kernel) ?_
      | refine OK.both ?_ ?_
      | refine OK.need (by first | assumption | (rw [hA]; first | (show (_ : Int) ≠ _; decide) | (show (0 : Int) ≤ _; decide) | (show (0 : Int) ≤ _ ∧ _ < (256 : Int); decide))) ?_
      | refine OK.need ?_ ?_
      | (refine OK.branch ?_ ?_ <;> intro h)
      | (refine F.hold hA 2000 ?_; cbv))
    all_goals exact F.ret0 ⟨_, _, _, rfl, rfl, .inr ⟨he, hst⟩⟩
  obtain ⟨mm, rfl⟩ : ∃ mm : Nat, more = mm := ⟨more.toNat, by omega⟩
  rw [Int.toNat_natCast] at hdis
  have hmm : mm ≤ 13 := by omega
  repeat' (first
    | contradiction
    | exact (bnot_t hA (by assumption)).elim
    | refine OK.drawn (by decide +kernel) ?_
    | refine OK.tree ⟨lookT tis, fun _ => true, []⟩ (by decide +kernel) ?_
    | refine OK.both ?_ ?_
    | refine OK.need (by first | assumption | (rw [hA]; first | (show (_ : Int) ≠ _; decide) | (show (0 : Int) ≤ _; decide) | (show (0 : Int) ≤ _ ∧ _ < (256 : Int); decide))) ?_
    | refine OK.need ?_ ?_
    | (refine OK.branch ?_ ?_ <;> intro h)
    | (refine F.hold hA 2000 ?_; cbv))
  refine F.call [0, 1] (rnumber_ok xs row out p2 lim e2 k b mm (by omega) hp2) rfl rfl rfl fun rs H' hq => ?_
  obtain ⟨y, p3, e4, rfl, rfl, hn2⟩ := hq
  refine ⟨rfl, ?_⟩
  rcases cqOk (out := out) (lim := lim) hlen hn1 hs1 hdis hn2 with ⟨rfl, hN⟩ | ⟨he, hst⟩
  case inr =>
    repeat' (first
      | contradiction
      | exact (eqz hA he (by assumption)).elim
      | refine OK.drawn (by decide +kernel) ?_
      | refine OK.tree ⟨lookT tis, fun _ => true, []⟩ (by decide +kernel) ?_
      | refine OK.both ?_ ?_
      | refine OK.need (by first | assumption | (rw [hA]; first | (show (_ : Int) ≠ _; decide) | (show (0 : Int) ≤ _; decide) | (show (0 : Int) ≤ _ ∧ _ < (256 : Int); decide))) ?_
      | refine OK.need ?_ ?_
      | (refine OK.branch ?_ ?_ <;> intro h)
      | (refine F.hold hA 2000 ?_; cbv))
    refine F.loop (V := Int) [0, 9] (fun w => True) (fun w => 0) (fun w => [(13, .int .i64 w)]) (fun w => []) _ (by cbv; repeat (first | exact WkH.nil _ | apply WkH.gone | refine WkH.eq rfl ?_)) (by cbv; repeat (first | apply WkL.any | exact WkL.nil _ | refine WkL.eq rfl ?_ | refine WkL.bool rfl ?_)) (by cbv; exact ⟨rfl⟩) ?_ ?_
    · trivial
    intro i _ Bk hBk
    repeat' (first
      | contradiction
      | exact (eqz hA he (by assumption)).elim
      | refine OK.drawn (by decide +kernel) ?_
      | refine OK.tree ⟨lookT tis, fun _ => true, []⟩ (by decide +kernel) ?_
      | refine OK.both ?_ ?_
      | refine OK.need (by first | assumption | (rw [hA]; first | (show (_ : Int) ≠ _; decide) | (show (0 : Int) ≤ _; decide) | (show (0 : Int) ≤ _ ∧ _ < (256 : Int); decide))) ?_
      | refine OK.need ?_ ?_
      | (refine OK.branch ?_ ?_ <;> intro h)
      | (refine F.hold hA 2000 ?_; cbv))
    all_goals exact F.ret0 ⟨_, _, _, rfl, rfl, .inr ⟨he, hst⟩⟩
  have hC := cqC hA hp hnn hmm ⟨l3, l4⟩ ⟨m3, m4⟩ hN
  clear hn1 hs1 hn2
  repeat (first
    | refine OK.drawn (by decide +kernel) ?_
    | refine OK.tree ⟨lookT tis, fun _ => true, []⟩ (by decide +kernel) ?_
    | refine OK.need (by first | assumption | (rw [hA]; first | (show (_ : Int) ≠ _; decide) | (show (0 : Int) ≤ _; decide) | (show (0 : Int) ≤ _ ∧ _ < (256 : Int); decide))) ?_
    | (refine F.hold hA 2000 ?_; cbv))
  refine OK.branch (fun c1 => ?_) (fun c1 => (eql_self hA c1).elim)
  repeat (first
    | refine OK.drawn (by decide +kernel) ?_
    | refine OK.tree ⟨lookT tis, fun _ => true, []⟩ (by decide +kernel) ?_
    | refine OK.need (by first | assumption | (rw [hA]; first | (show (_ : Int) ≠ _; decide) | (show (0 : Int) ≤ _; decide) | (show (0 : Int) ≤ _ ∧ _ < (256 : Int); decide))) ?_
    | (refine F.hold hA 2000 ?_; cbv))
  refine OK.branch (fun c2 => ?_) (fun c2 => ?_)
  · have hst := hC.c10 c2
    have he : (10 : Int) ≠ 0 := by decide
    repeat (first
      | refine OK.drawn (by decide +kernel) ?_
      | refine OK.tree ⟨lookT tis, fun _ => true, []⟩ (by decide +kernel) ?_
      | refine OK.need (by first | assumption | (rw [hA]; first | (show (_ : Int) ≠ _; decide) | (show (0 : Int) ≤ _; decide) | (show (0 : Int) ≤ _ ∧ _ < (256 : Int); decide))) ?_
      | (refine F.hold hA 2000 ?_; cbv))
    refine F.call [0, 1] (fail_ok row out p3 lim 0 k b 10) rfl rfl rfl fun rs H' hq => ?_
    obtain ⟨e1, rfl, rfl, hf⟩ := hq
    refine ⟨rfl, ?_⟩
    obtain rfl : e1 = 10 := hf
    repeat' (first
      | contradiction
      | exact (eqz hA he (by assumption)).elim
      | refine OK.drawn (by decide +kernel) ?_
      | refine OK.tree ⟨lookT tis, fun _ => true, []⟩ (by decide +kernel) ?_
      | refine OK.both ?_ ?_
      | refine OK.need (by first | assumption | (rw [hA]; first | (show (_ : Int) ≠ _; decide) | (show (0 : Int) ≤ _; decide) | (show (0 : Int) ≤ _ ∧ _ < (256 : Int); decide))) ?_
      | refine OK.need ?_ ?_
      | (refine OK.branch ?_ ?_ <;> intro h)
      | (refine F.hold hA 2000 ?_; cbv))
    refine F.loop (V := Int) [0, 9] (fun w => True) (fun w => 0) (fun w => [(13, .int .i64 w)]) (fun w => []) _ (by cbv; repeat (first | exact WkH.nil _ | apply WkH.gone | refine WkH.eq rfl ?_)) (by cbv; repeat (first | apply WkL.any | exact WkL.nil _ | refine WkL.eq rfl ?_ | refine WkL.bool rfl ?_)) (by cbv; exact ⟨rfl⟩) ?_ ?_
    · trivial
    intro i _ Bk hBk
    repeat' (first
      | contradiction
      | exact (eqz hA he (by assumption)).elim
      | refine OK.drawn (by decide +kernel) ?_
      | refine OK.tree ⟨lookT tis, fun _ => true, []⟩ (by decide +kernel) ?_
      | refine OK.both ?_ ?_
      | refine OK.need (by first | assumption | (rw [hA]; first | (show (_ : Int) ≠ _; decide) | (show (0 : Int) ≤ _; decide) | (show (0 : Int) ≤ _ ∧ _ < (256 : Int); decide))) ?_
      | refine OK.need ?_ ?_
      | (refine OK.branch ?_ ?_ <;> intro h)
      | (refine F.hold hA 2000 ?_; cbv))
    all_goals exact F.ret0 ⟨_, _, _, rfl, rfl, .inr ⟨he, hst⟩⟩
  repeat (first
    | refine OK.drawn (by decide +kernel) ?_
    | refine OK.tree ⟨lookT tis, fun _ => true, []⟩ (by decide +kernel) ?_
    | refine OK.need (by first | assumption | (rw [hA]; first | (show (_ : Int) ≠ _; decide) | (show (0 : Int) ≤ _; decide) | (show (0 : Int) ≤ _ ∧ _ < (256 : Int); decide))) ?_
    | (refine F.hold hA 2000 ?_; cbv))
  refine OK.branch (fun c3 => ?_) (fun c3 => (eql_self hA c3).elim)
  repeat (first
    | refine OK.drawn (by decide +kernel) ?_
    | refine OK.tree ⟨lookT tis, fun _ => true, []⟩ (by decide +kernel) ?_
    | refine OK.need (by first | assumption | (rw [hA]; first | (show (_ : Int) ≠ _; decide) | (show (0 : Int) ≤ _; decide) | (show (0 : Int) ≤ _ ∧ _ < (256 : Int); decide))) ?_
    | (refine F.hold hA 2000 ?_; cbv))
  refine OK.branch (fun c4 => ?_) (fun c4 => ?_)
  · have hst := hC.c14 c2 c4
    have he : (14 : Int) ≠ 0 := by decide
    repeat (first
      | refine OK.drawn (by decide +kernel) ?_
      | refine OK.tree ⟨lookT tis, fun _ => true, []⟩ (by decide +kernel) ?_
      | refine OK.need (by first | assumption | (rw [hA]; first | (show (_ : Int) ≠ _; decide) | (show (0 : Int) ≤ _; decide) | (show (0 : Int) ≤ _ ∧ _ < (256 : Int); decide))) ?_
      | (refine F.hold hA 2000 ?_; cbv))
    refine F.call [0, 1] (fail_ok row out p3 lim 0 k b 14) rfl rfl rfl fun rs H' hq => ?_
    obtain ⟨e1, rfl, rfl, hf⟩ := hq
    refine ⟨rfl, ?_⟩
    obtain rfl : e1 = 14 := hf
    repeat' (first
      | contradiction
      | exact (eqz hA he (by assumption)).elim
      | refine OK.drawn (by decide +kernel) ?_
      | refine OK.tree ⟨lookT tis, fun _ => true, []⟩ (by decide +kernel) ?_
      | refine OK.both ?_ ?_
      | refine OK.need (by first | assumption | (rw [hA]; first | (show (_ : Int) ≠ _; decide) | (show (0 : Int) ≤ _; decide) | (show (0 : Int) ≤ _ ∧ _ < (256 : Int); decide))) ?_
      | refine OK.need ?_ ?_
      | (refine OK.branch ?_ ?_ <;> intro h)
      | (refine F.hold hA 2000 ?_; cbv))
    refine F.loop (V := Int) [0, 9] (fun w => True) (fun w => 0) (fun w => [(13, .int .i64 w)]) (fun w => []) _ (by cbv; repeat (first | exact WkH.nil _ | apply WkH.gone | refine WkH.eq rfl ?_)) (by cbv; repeat (first | apply WkL.any | exact WkL.nil _ | refine WkL.eq rfl ?_ | refine WkL.bool rfl ?_)) (by cbv; exact ⟨rfl⟩) ?_ ?_
    · trivial
    intro i _ Bk hBk
    repeat' (first
      | contradiction
      | exact (eqz hA he (by assumption)).elim
      | refine OK.drawn (by decide +kernel) ?_
      | refine OK.tree ⟨lookT tis, fun _ => true, []⟩ (by decide +kernel) ?_
      | refine OK.both ?_ ?_
      | refine OK.need (by first | assumption | (rw [hA]; first | (show (_ : Int) ≠ _; decide) | (show (0 : Int) ≤ _; decide) | (show (0 : Int) ≤ _ ∧ _ < (256 : Int); decide))) ?_
      | refine OK.need ?_ ?_
      | (refine OK.branch ?_ ?_ <;> intro h)
      | (refine F.hold hA 2000 ?_; cbv))
    all_goals exact F.ret0 ⟨_, _, _, rfl, rfl, .inr ⟨he, hst⟩⟩
  have hG := hC.go c2 c4
  clear hC
  repeat (first
    | refine OK.drawn (by decide +kernel) ?_
    | refine OK.tree ⟨lookT tis, fun _ => true, []⟩ (by decide +kernel) ?_
    | refine OK.need (by first | assumption | (rw [hA]; first | (show (_ : Int) ≠ _; decide) | (show (0 : Int) ≤ _; decide) | (show (0 : Int) ≤ _ ∧ _ < (256 : Int); decide))) ?_
    | (refine F.hold hA 2000 ?_; cbv))
  refine F.loop (V := Int × List UInt8) [0, 9, 11] (CpInv out (dist + y).toNat (base + x).toNat) (fun w => (base + x - w.1).toNat) (fun w => [(13, .int .i64 w.1)]) (fun w => [(1, .row 5 (.bytes w.2))]) (_, _) (by cbv; repeat (first | exact WkH.nil _ | apply WkH.gone | refine WkH.eq rfl ?_)) (by cbv; repeat (first | apply WkL.any | exact WkL.nil _ | refine WkL.eq rfl ?_ | refine WkL.bool rfl ?_)) (by cbv; exact ⟨rfl⟩) ?_ ?_
  · exact ⟨0, rfl, Nat.zero_le _, rfl⟩
  rintro ⟨i, o⟩ hI Bk hBk
  repeat (first
    | refine OK.drawn (by decide +kernel) ?_
    | refine OK.tree ⟨lookT tis, fun _ => true, []⟩ (by decide +kernel) ?_
    | refine OK.need (by first | assumption | (rw [hA]; first | (show (_ : Int) ≠ _; decide) | (show (0 : Int) ≤ _; decide) | (show (0 : Int) ≤ _ ∧ _ < (256 : Int); decide))) ?_
    | (refine F.hold hA 2000 ?_; cbv))
  refine OK.branch (fun d1 => ?_) (fun d1 => ?_)
  · have hat := cqA hA hG hI d1
    have q1 := hat.q1
    repeat (first
      | refine OK.drawn (by decide +kernel) ?_
      | refine OK.tree ⟨lookT tis, fun _ => true, []⟩ (by decide +kernel) ?_
      | refine OK.need (by first | assumption | (rw [hA]; first | (show (_ : Int) ≠ _; decide) | (show (0 : Int) ≤ _; decide) | (show (0 : Int) ≤ _ ∧ _ < (256 : Int); decide))) ?_
      | (refine F.hold hA 2000 ?_; cbv))
    refine OK.branch (fun d2 => ?_) (fun d2 => (eql_self hA d2).elim)
    repeat (first
      | refine OK.drawn (by decide +kernel) ?_
      | refine OK.tree ⟨lookT tis, fun _ => true, []⟩ (by decide +kernel) ?_
      | refine OK.need (by first | assumption | (rw [hA]; first | (show (_ : Int) ≠ _; decide) | (show (0 : Int) ≤ _; decide) | (show (0 : Int) ≤ _ ∧ _ < (256 : Int); decide))) ?_
      | (refine F.hold hA 2000 ?_; cbv))
    refine F.call [0, 1] (rput_ok row o p3 lim 0 k b _ hat.pp) rfl rfl rfl fun rs H' hq => ?_
    obtain ⟨o2, e2, rfl, rfl, hr⟩ := hq
    refine ⟨rfl, ?_⟩
    obtain ⟨rfl, hI2⟩ := hat.ps _ _ hr
    repeat (first
      | refine OK.drawn (by decide +kernel) ?_
      | refine OK.tree ⟨lookT tis, fun _ => true, []⟩ (by decide +kernel) ?_
      | refine OK.need (by first | assumption | (rw [hA]; first | (show (_ : Int) ≠ _; decide) | (show (0 : Int) ≤ _; decide) | (show (0 : Int) ≤ _ ∧ _ < (256 : Int); decide))) ?_
      | (refine F.hold hA 2000 ?_; cbv))
    refine OK.back (hBk _ _ (_, _) (by cbv; repeat (first | exact WkH.nil _ | apply WkH.gone | refine WkH.eq rfl ?_)) (by cbv; repeat (first | apply WkL.any | exact WkL.nil _ | refine WkL.eq rfl ?_ | refine WkL.bool rfl ?_)) (by cbv; exact ⟨rfl⟩) ?_ ?_)
    · exact hI2
    · exact hat.mu
  have hfin := cqEnd hA hG hI d1
  clear hBk
  repeat (first
    | refine OK.drawn (by decide +kernel) ?_
    | refine OK.tree ⟨lookT tis, fun _ => true, []⟩ (by decide +kernel) ?_
    | refine OK.need (by first | assumption | (rw [hA]; first | (show (_ : Int) ≠ _; decide) | (show (0 : Int) ≤ _; decide) | (show (0 : Int) ≤ _ ∧ _ < (256 : Int); decide))) ?_
    | (refine F.hold hA 2000 ?_; cbv))
  exact F.ret0 ⟨_, _, _, rfl, rfl, hfin⟩
end Go.L1

-- D28
namespace Go.L1
open Go Go.Sx Go.Proofs Go.Huff
set_option maxRecDepth 20000
set_option linter.unusedVariables false
set_option linter.unusedSimpArgs false
/-- What symbols up to the end of a block are shown to do. -/
def RsyIs (first other : List Int) (xs : List UInt8) (lim p : Int) (out : List UInt8) (k p' : Int) (out' : List UInt8) (e1 k' : Int) : Prop :=
  (e1 = 0 ∧ symsR first other xs lim fuel p out k = .ok (p', out', k') ∧ SySt xs lim p' out' k') ∨ (e1 ≠ 0 ∧ symsR first other xs lim fuel p out k = .error e1)
def YInv (first other : List Int) (xs : List UInt8) (lim p0 : Int) (out0 : List UInt8) (k0 : Int) (w : Int × List UInt8 × Int × Int) : Prop :=
  (w.2.2.2 = 0 ∧ SyInv first other xs lim p0 out0 k0 (w.1, w.2.1, w.2.2.1)) ∨ (w.2.2.2 ≠ 0 ∧ symsR first other xs lim fuel p0 out0 k0 = .error w.2.2.2)
def muY (n : Int) (w : Int × List UInt8 × Int × Int) : Nat := if w.2.2.2 = 0 then (n - w.1).toNat + 1 else 0
theorem muY_lt {n p e p' : Int} {o o' : List UInt8} {k k' : Int} (h : e = 0 → (n - p').toNat < (n - p).toNat) : muY n (p', o', k', e) < muY n (p, o, k, 0) := by
  unfold muY
  simp only [if_pos]
  split
  · rename_i he
    have := h he
    omega
  · omega
theorem YInv.start {first other : List Int} {xs row : List UInt8} {lim p : Int} {out : List UInt8} {k : Int} (hp : RsP xs row lim p out k) : YInv first other xs lim p out k (p, out, k, 0) :=
  .inl ⟨rfl, hp.s, Int.le_refl _, fuel, by have := hp.pre.lo; simp only; omega, rfl⟩
theorem YInv.end_ {A : Leaf} {first other : List Int} {xs : List UInt8} {lim p0 : Int} {out0 : List UInt8} {k0 p : Int} {o : List UInt8} {k e : Int} (hA : A = .std) (h : YInv first other xs lim p0 out0 k0 (p, o, k, e)) (b : A.cmp .eql e 0 = false) : RsyIs first other xs lim p0 out0 k0 p o e k := by
  rcases h with ⟨h1, _⟩ | ⟨h1, h2⟩
  · simp only at h1
    subst h1
    exact (eql_self hA b).elim
  · exact .inr ⟨h1, h2⟩
theorem YInv.go {A : Leaf} {first other : List Int} {xs : List UInt8} {lim p0 : Int} {out0 : List UInt8} {k0 p : Int} {o : List UInt8} {k e : Int} (hA : A = .std) (h : YInv first other xs lim p0 out0 k0 (p, o, k, e)) (b : A.cmp .eql e 0 = true) : e = 0 ∧ SyInv first other xs lim p0 out0 k0 (p, o, k) := by
  rcases h with ⟨h1, h2⟩ | ⟨h1, _⟩
  · exact ⟨h1, h2⟩
  · exact (eqz hA h1 b).elim
structure YStep (A : Leaf) (first other : List Int) (xs row : List UInt8) (lim p0 : Int) (out0 : List UInt8) (k0 p : Int) (o : List UInt8) (k s p1 : Int) : Prop where
  pp : A.cmp .lss s 256 = true → RpP o (A.conv .u8 s)
  ps : A.cmp .lss s 256 = true → ∀ o2 e2, RpRes lim o (A.conv .u8 s) 0 o2 e2 → YInv first other xs lim p0 out0 k0 (p1, o2, A.ar .add .i64 k 1, e2)
  pq : (8 * xs.length - p1).toNat < (8 * xs.length - p).toNat
  hs : RsP xs row lim p1 o (A.ar .add .i64 k 1)
  cs : A.cmp .lss s 256 = false → A.cmp .eql s 256 = false → ∀ p2 o2 e2, RcpIs other xs lim s p1 o (A.ar .add .i64 k 1) p2 o2 e2 → YInv first other xs lim p0 out0 k0 (p2, o2, A.ar .add .i64 k 1, e2) ∧ (e2 = 0 → (8 * xs.length - p2).toNat < (8 * xs.length - p).toNat)
  en : A.cmp .eql s 256 = true → RsyIs first other xs lim p0 out0 k0 p1 o 0 (A.ar .add .i64 k 1)
theorem yStep {A : Leaf} {first other : List Int} {xs row : List UInt8} {lim p0 : Int} {out0 : List UInt8} {k0 p : Int} {o : List UInt8} {k s p1 : Int} (hA : A = .std) (hr : RowOf xs row) (hl : xs.length ≤ 400) (hI : SyInv first other xs lim p0 out0 k0 (p, o, k)) (h1 : symR first xs p = .ok (s, p1)) : YStep A first other xs row lim p0 out0 k0 p o k s p1 := by
  obtain ⟨f, hf, he, hat⟩ := hI.at_
  have hst : SySt xs lim p o k := hI.1
  have h1 : SymIs first xs p s p1 := h1
  have hv := h1.val hst.s
  have hk := hst.k1 hA
  have hk0 := hst.k.lo
  have hk1 := hst.k.hi
  have h3 := hst.l.hi
  have h4 := hst.l.ot
  have hi1 := h1.ins hst.s
  have hv3 := hv.2.2.1
  have hp1 : SySt xs lim p1 o (k + 1) := ⟨hi1, hst.l, ⟨by omega, by omega⟩⟩
  have hlen := hst.s.rd.hi
  have hlen1 := hi1.rd.hi
  refine ⟨fun b => ?_, fun b o2 e2 hq => ?_, by omega, ?_, fun b c p2 o2 e2 hq => ?_, fun b => ?_⟩
  · subst hA
    have b : s < 256 := of_decide_eq_true b
    have e1 : Leaf.std.conv .u8 s = s := conv_u8 (by omega) (by omega)
    rw [e1]
    exact ⟨by omega, by omega, b⟩
  · rcases hq with ⟨h, _⟩ | ⟨_, rfl, rfl, hroom⟩ | ⟨_, rfl, rfl, hroom⟩
    · exact absurd rfl h
    · have hro : roomR lim o 1 = .ok () := by unfold roomR; rw [if_pos (by omega)]
      have hla := litAt hA hI.ge hst hf he h1 b hro
      have hnx := hla.nx
      subst hA
      exact .inl ⟨rfl, hnx⟩
    · refine .inr ⟨show (14 : Int) ≠ 0 by decide, ?_⟩
      have b2 : s < 256 := by subst hA; exact of_decide_eq_true b
      exact hat.e2 s p1 14 h1 b2 (by unfold roomR; rw [if_neg (by omega)])
  · rw [hk]
    exact ⟨hp1, hr, hl⟩
  · rcases hq with ⟨rfl, hb, hss⟩ | ⟨hne, hb⟩
    · have hba := bckAt hA hI.ge hst hf he h1 b c hb
      exact ⟨.inl ⟨rfl, hba.nx⟩, fun _ => hba.mu⟩
    · have b2 : 256 < s := by
        subst hA
        have b : ¬ s < 256 := of_decide_eq_false b
        have c : (s == 256) = false := c
        have c : s ≠ 256 := by simpa using c
        omega
      exact ⟨.inr ⟨hne, hat.e3 s p1 e2 h1 b2 hb⟩, fun h => absurd h hne⟩
  · have e2 : s = 256 := by
      subst hA
      have b : (s == 256) = true := b
      simpa using b
    subst e2
    rw [hk]
    exact .inl ⟨rfl, hat.r1 p1 h1, hp1⟩
theorem rsymbols_ok (ls : List Int) (rows : List (List UInt8)) (ls2 : List Int) (rows2 : List (List UInt8)) (xs row out : List UInt8) (n n2 p lim k b : Int) (hR : RdyR ls) (ho : ORows ls rows) (hR2 : RdyR ls2) (ho2 : ORows ls2 rows2) (hp : RsP xs row lim p out k) :
    FOK Try.prog C1 61 (fun c => match c with | 1 => false | _ => true) [.ptr 0 0, .ptr 2 0, .ptr 3 0]
    [.cells 93 [.ro (.bytes row), .int .i64 p, .own 1, .int .i64 lim, .int .i64 0, .int .i64 k, .int .i64 b], .row 5 (.bytes out), .cells 41 [.ro (.recs 4 rows), .int .i64 n], .cells 41 [.ro (.recs 4 rows2), .int .i64 n2]]
    (fun rs H => ∃ p' out' e1 k', rs = [] ∧ H = [.cells 93 [.ro (.bytes row), .int .i64 p', .own 1, .int .i64 lim, .int .i64 e1, .int .i64 k', .int .i64 b], .row 5 (.bytes out'), .cells 41 [.ro (.recs 4 rows), .int .i64 n], .cells 41 [.ro (.recs 4 rows2), .int .i64 n2]] ∧ RsyIs ls ls2 xs lim p out k p' out' e1 k') := by
  refine fok_of (B := ⟨lookT tis, fun c => match c with | 1 => false | _ => true, []⟩) (tab1 _) (zero1 _) cod1 mix1 Try.func61 (by kernel_rfl) rfl rfl rfl fun X F => ?_
  obtain ⟨A, hA⟩ : ∃ A, A = Leaf.std := ⟨_, rfl⟩
  refine F.hold hA 2000 ?_
  cbv
  refine F.loop (V := Int × List UInt8 × Int × Int) [0, 1, 2] (YInv ls ls2 xs lim p out k) (muY (8 * xs.length)) (fun w => []) (fun w => [(0, .cells 93 [.ro (.bytes row), .int .i64 w.1, .own 1, .int .i64 lim, .int .i64 w.2.2.2, .int .i64 w.2.2.1, .int .i64 b]), (1, .row 5 (.bytes w.2.1))]) (_, _, _, _) (by cbv; repeat (first | exact WkH.nil _ | apply WkH.gone | refine WkH.eq rfl ?_)) (by cbv; repeat (first | apply WkL.any | exact WkL.nil _ | refine WkL.eq rfl ?_ | refine WkL.bool rfl ?_)) (by cbv; exact ⟨rfl⟩) ?_ ?_
  · exact YInv.start hp
  rintro ⟨q, o, kk, e⟩ hI Bk hBk
  repeat (first
    | refine OK.drawn (by decide +kernel) ?_
    | refine OK.tree ⟨lookT tis, fun _ => true, []⟩ (by decide +kernel) ?_
    | refine OK.need (by first | assumption | (rw [hA]; first | (show (_ : Int) ≠ _; decide) | (show (0 : Int) ≤ _; decide) | (show (0 : Int) ≤ _ ∧ _ < (256 : Int); decide))) ?_
    | (refine F.hold hA 2000 ?_; cbv))
  refine OK.branch (fun b1 => ?_) (fun b1 => ?_)
  · obtain ⟨rfl, hS⟩ := YInv.go hA hI b1
    have hq : RPre row (valBytes xs) (8 * xs.length) q := (RsP.mk hS.1 hp.r hp.l).pre
    repeat (first
      | refine OK.drawn (by decide +kernel) ?_
      | refine OK.tree ⟨lookT tis, fun _ => true, []⟩ (by decide +kernel) ?_
      | refine OK.need (by first | assumption | (rw [hA]; first | (show (_ : Int) ≠ _; decide) | (show (0 : Int) ≤ _; decide) | (show (0 : Int) ≤ _ ∧ _ < (256 : Int); decide))) ?_
      | (refine F.hold hA 2000 ?_; cbv))
    refine F.call [0, 1, 2] (rsymbol_ok ls rows xs row o n q lim 0 kk b hR ho hq) rfl rfl rfl fun rs H' hq => ?_
    obtain ⟨s, q1, e1, rfl, rfl, hs⟩ := hq
    refine ⟨rfl, ?_⟩
    rcases hs with ⟨_, rfl, hs⟩ | ⟨_, he, hs, _, _⟩ | ⟨h, _⟩
    case inr.inr => exact absurd rfl h
    case inr.inl =>
      obtain ⟨f, hf, he2, hat⟩ := hS.at_
      have hst := hat.e1 _ hs
      repeat (first
        | refine OK.drawn (by decide +kernel) ?_
        | refine OK.tree ⟨lookT tis, fun _ => true, []⟩ (by decide +kernel) ?_
        | refine OK.need (by first | assumption | (rw [hA]; first | (show (_ : Int) ≠ _; decide) | (show (0 : Int) ≤ _; decide) | (show (0 : Int) ≤ _ ∧ _ < (256 : Int); decide))) ?_
        | (refine F.hold hA 2000 ?_; cbv))
      refine OK.branch (fun b2 => ?_) (fun b2 => absurd (neq_zero hA b2) he)
      repeat (first
        | refine OK.drawn (by decide +kernel) ?_
        | refine OK.tree ⟨lookT tis, fun _ => true, []⟩ (by decide +kernel) ?_
        | refine OK.need (by first | assumption | (rw [hA]; first | (show (_ : Int) ≠ _; decide) | (show (0 : Int) ≤ _; decide) | (show (0 : Int) ≤ _ ∧ _ < (256 : Int); decide))) ?_
        | (refine F.hold hA 2000 ?_; cbv))
      exact F.ret0 ⟨_, _, _, _, rfl, rfl, .inr ⟨he, hst⟩⟩
    have hY := yStep hA hp.r hp.l hS hs
    clear hs hS hI
    repeat (first
      | refine OK.drawn (by decide +kernel) ?_
      | refine OK.tree ⟨lookT tis, fun _ => true, []⟩ (by decide +kernel) ?_
      | refine OK.need (by first | assumption | (rw [hA]; first | (show (_ : Int) ≠ _; decide) | (show (0 : Int) ≤ _; decide) | (show (0 : Int) ≤ _ ∧ _ < (256 : Int); decide))) ?_
      | (refine F.hold hA 2000 ?_; cbv))
    refine OK.branch (fun b2 => (neq_self hA b2).elim) (fun b2 => ?_)
    repeat (first
      | refine OK.drawn (by decide +kernel) ?_
      | refine OK.tree ⟨lookT tis, fun _ => true, []⟩ (by decide +kernel) ?_
      | refine OK.need (by first | assumption | (rw [hA]; first | (show (_ : Int) ≠ _; decide) | (show (0 : Int) ≤ _; decide) | (show (0 : Int) ≤ _ ∧ _ < (256 : Int); decide))) ?_
      | (refine F.hold hA 2000 ?_; cbv))
    refine OK.branch (fun b3 => ?_) (fun b3 => ?_)
    · repeat (first
        | refine OK.drawn (by decide +kernel) ?_
        | refine OK.tree ⟨lookT tis, fun _ => true, []⟩ (by decide +kernel) ?_
        | refine OK.need (by first | assumption | (rw [hA]; first | (show (_ : Int) ≠ _; decide) | (show (0 : Int) ≤ _; decide) | (show (0 : Int) ≤ _ ∧ _ < (256 : Int); decide))) ?_
        | (refine F.hold hA 2000 ?_; cbv))
      refine F.call [0, 1] (rput_ok row o q1 lim 0 _ b _ (hY.pp b3)) rfl rfl rfl fun rs H' hq => ?_
      obtain ⟨o2, e2, rfl, rfl, hr⟩ := hq
      refine ⟨rfl, ?_⟩
      have hnx := hY.ps b3 _ _ hr
      repeat (first
        | refine OK.drawn (by decide +kernel) ?_
        | refine OK.tree ⟨lookT tis, fun _ => true, []⟩ (by decide +kernel) ?_
        | refine OK.need (by first | assumption | (rw [hA]; first | (show (_ : Int) ≠ _; decide) | (show (0 : Int) ≤ _; decide) | (show (0 : Int) ≤ _ ∧ _ < (256 : Int); decide))) ?_
        | (refine F.hold hA 2000 ?_; cbv))
      refine OK.back (hBk _ _ (_, _, _, _) (by cbv; repeat (first | exact WkH.nil _ | apply WkH.gone | refine WkH.eq rfl ?_)) (by cbv; repeat (first | apply WkL.any | exact WkL.nil _ | refine WkL.eq rfl ?_ | refine WkL.bool rfl ?_)) (by cbv; exact ⟨rfl⟩) ?_ ?_)
      · exact hnx
      · exact muY_lt fun _ => hY.pq
    repeat (first
      | refine OK.drawn (by decide +kernel) ?_
      | refine OK.tree ⟨lookT tis, fun _ => true, []⟩ (by decide +kernel) ?_
      | refine OK.need (by first | assumption | (rw [hA]; first | (show (_ : Int) ≠ _; decide) | (show (0 : Int) ≤ _; decide) | (show (0 : Int) ≤ _ ∧ _ < (256 : Int); decide))) ?_
      | (refine F.hold hA 2000 ?_; cbv))
    refine OK.branch (fun b4 => ?_) (fun b4 => ?_)
    · repeat (first
        | refine OK.drawn (by decide +kernel) ?_
        | refine OK.tree ⟨lookT tis, fun _ => true, []⟩ (by decide +kernel) ?_
        | refine OK.need (by first | assumption | (rw [hA]; first | (show (_ : Int) ≠ _; decide) | (show (0 : Int) ≤ _; decide) | (show (0 : Int) ≤ _ ∧ _ < (256 : Int); decide))) ?_
        | (refine F.hold hA 2000 ?_; cbv))
      exact F.ret0 ⟨_, _, _, _, rfl, rfl, hY.en b4⟩
    repeat (first
      | refine OK.drawn (by decide +kernel) ?_
      | refine OK.tree ⟨lookT tis, fun _ => true, []⟩ (by decide +kernel) ?_
      | refine OK.need (by first | assumption | (rw [hA]; first | (show (_ : Int) ≠ _; decide) | (show (0 : Int) ≤ _; decide) | (show (0 : Int) ≤ _ ∧ _ < (256 : Int); decide))) ?_
      | (refine F.hold hA 2000 ?_; cbv))
    refine F.call [0, 1, 3] (rcopied_ok ls2 rows2 xs row o n2 s q1 lim _ b hR2 ho2 hY.hs) rfl rfl rfl fun rs H' hq => ?_
    obtain ⟨p2, o2, e2, rfl, rfl, hr⟩ := hq
    refine ⟨rfl, ?_⟩
    have hnx := hY.cs b3 b4 _ _ _ hr
    repeat (first
      | refine OK.drawn (by decide +kernel) ?_
      | refine OK.tree ⟨lookT tis, fun _ => true, []⟩ (by decide +kernel) ?_
      | refine OK.need (by first | assumption | (rw [hA]; first | (show (_ : Int) ≠ _; decide) | (show (0 : Int) ≤ _; decide) | (show (0 : Int) ≤ _ ∧ _ < (256 : Int); decide))) ?_
      | (refine F.hold hA 2000 ?_; cbv))
    refine OK.back (hBk _ _ (_, _, _, _) (by cbv; repeat (first | exact WkH.nil _ | apply WkH.gone | refine WkH.eq rfl ?_)) (by cbv; repeat (first | apply WkL.any | exact WkL.nil _ | refine WkL.eq rfl ?_ | refine WkL.bool rfl ?_)) (by cbv; exact ⟨rfl⟩) ?_ ?_)
    · exact hnx.1
    · exact muY_lt hnx.2
  have hfin := YInv.end_ hA hI b1
  clear hBk
  repeat (first
    | refine OK.drawn (by decide +kernel) ?_
    | refine OK.tree ⟨lookT tis, fun _ => true, []⟩ (by decide +kernel) ?_
    | refine OK.need (by first | assumption | (rw [hA]; first | (show (_ : Int) ≠ _; decide) | (show (0 : Int) ≤ _; decide) | (show (0 : Int) ≤ _ ∧ _ < (256 : Int); decide))) ?_
    | (refine F.hold hA 2000 ?_; cbv))
  exact F.ret0 ⟨_, _, _, _, rfl, rfl, hfin⟩
end Go.L1

-- D29
namespace Go.L1
open Go Go.Sx Go.Proofs Go.Huff
set_option maxRecDepth 20000
set_option linter.unusedVariables false
set_option linter.unusedSimpArgs false
theorem usedN_cons (x : Int) (l : List Int) : usedN (x :: l) = usedN l + (if 0 < x then 1 else 0) := by
  unfold usedN
  rw [List.countP_cons]
  simp
theorem room_used0 : ∀ {l : List Int}, usedN l = 0 → roomN l = 0
  | [], _ => rfl
  | x :: l, h => by
    rw [usedN_cons] at h
    have h1 := room_used0 (l := l) (by omega)
    have h2 : ¬ 0 < x := by intro hx; rw [if_pos hx] at h; omega
    unfold roomN at h1 ⊢
    rw [List.map_cons, List.sum_cons, h1]
    unfold room1
    rw [if_neg h2]
theorem room_used1 : ∀ {l : List Int}, InB l → usedN l = 1 → (roomN l = 16384 ↔ l.any (· == 1) = true)
  | [], _, h => by cases h
  | x :: l, hi, h => by
    have hil : InB l := fun y hy => hi y (List.mem_cons_of_mem _ hy)
    have hx := hi x (List.mem_cons_self ..)
    rw [usedN_cons] at h
    by_cases h0 : 0 < x
    · rw [if_pos h0] at h
      have h1 : usedN l = 0 := by omega
      have h2 := room_used0 h1
      have e : roomN (x :: l) = 32768 / 2 ^ x.toNat := by
        unfold roomN at h2 ⊢
        rw [List.map_cons, List.sum_cons, h2]
        unfold room1
        rw [if_pos h0]; rfl
      have hno : l.any (· == 1) = false := by
        rw [List.any_eq_false]
        intro y hy hy1
        have hy1 : y = 1 := by simpa using hy1
        subst hy1
        have : 0 < usedN l := by unfold usedN; rw [List.countP_pos_iff]; exact ⟨1, hy, by decide⟩
        omega
      rw [e, List.any_cons, hno, Bool.or_false]
      obtain ⟨n, rfl⟩ : ∃ n : Nat, x = n := ⟨x.toNat, by omega⟩
      have : ∀ i : Fin 16, 0 < i.1 → (32768 / 2 ^ i.1 = 16384 ↔ (((i.1 : Nat) : Int) == 1) = true) := by decide
      rw [Int.toNat_natCast]
      exact this ⟨n, by omega⟩ (by simp only; omega)
    · rw [if_neg h0] at h
      have ih := room_used1 hil (by omega)
      have e : roomN (x :: l) = roomN l := by
        unfold roomN
        rw [List.map_cons, List.sum_cons]
        unfold room1
        rw [if_neg h0]; omega
      have e2 : (x == 1) = false := by simp; omega
      rw [e, List.any_cons, e2, Bool.false_or]
      exact ih
theorem okLenR_of {l : List Int} (h : RdyR l) : okLen l = true := by
  unfold okLen
  simp only [Bool.and_eq_true, List.all_eq_true, decide_eq_true_eq]
  exact ⟨⟨h.le, h.b⟩, h.r⟩
theorem okLenR_no {l : List Int} (h : okLen l = true) : RdyR l := by
  unfold okLen at h
  simp only [Bool.and_eq_true, List.all_eq_true, decide_eq_true_eq] at h
  exact ⟨h.1.1, h.1.2, h.2⟩
theorem codeR_iff {l : List Int} (h : RdyR l) (one none : Bool) : codeR l one none = if roomN l = 32768 ∨ (one = true ∧ usedN l = 1 ∧ roomN l = 16384) ∨ (none = true ∧ usedN l = 0) then .ok () else .error 10 := by
  unfold codeR
  have e : (okLen l = true ∧ (roomN l = 32768 ∨ (one = true ∧ usedN l = 1 ∧ l.any (· == 1) = true) ∨ (none = true ∧ usedN l = 0))) ↔ (roomN l = 32768 ∨ (one = true ∧ usedN l = 1 ∧ roomN l = 16384) ∨ (none = true ∧ usedN l = 0)) := by
    constructor
    · rintro ⟨_, h1 | ⟨h1, h2, h3⟩ | h1⟩
      · exact .inl h1
      · exact .inr (.inl ⟨h1, h2, (room_used1 h.b h2).2 h3⟩)
      · exact .inr (.inr h1)
    · rintro (h1 | ⟨h1, h2, h3⟩ | h1)
      · exact ⟨okLenR_of h, .inl h1⟩
      · exact ⟨okLenR_of h, .inr (.inl ⟨h1, h2, (room_used1 h.b h2).1 h3⟩)⟩
      · exact ⟨okLenR_of h, .inr (.inr h1)⟩
  by_cases hc : okLen l = true ∧ (roomN l = 32768 ∨ (one = true ∧ usedN l = 1 ∧ l.any (· == 1) = true) ∨ (none = true ∧ usedN l = 0))
  · rw [if_pos hc, if_pos (e.1 hc)]
  · rw [if_neg hc, if_neg fun h => hc (e.2 h)]
theorem codeR_bad {l : List Int} (h : ¬ RdyR l) (one none : Bool) : codeR l one none = .error 10 := by
  unfold codeR
  rw [if_neg fun hc => h (okLenR_no hc.1)]
/-- What the code of lengths is shown to be. -/
def RcdP (ls : List Int) (row out : List UInt8) (p lim e0 k b : Int) (wh nn : Bool) (rs : List (SV T1)) (H : List (Ch T1)) : Prop :=
  (∃ e1, rs = [.val (.pointer none)] ∧ H = [.cells 93 [.ro (.bytes row), .int .i64 p, .own 1, .int .i64 lim, .int .i64 e1, .int .i64 k, .int .i64 b], .row 5 (.bytes out)] ∧ FailIs e0 10 e1 ∧ codeR ls (!wh) nn = .error 10) ∨
  (∃ (rows : List (List UInt8)) (n : Int), rs = [.ptr 3 0] ∧ H = [.cells 93 [.ro (.bytes row), .int .i64 p, .own 1, .int .i64 lim, .int .i64 e0, .int .i64 k, .int .i64 b], .row 5 (.bytes out), .gone, .cells 41 [.ro (.recs 4 rows), .int .i64 n]] ∧ RdyR ls ∧ ORows ls rows ∧ codeR ls (!wh) nn = .ok ())
def UsInv (ls : List Int) (w : Int × Int) : Prop := ∃ j : Nat, w.2 = j ∧ j ≤ ls.length ∧ w.1 = (usedN (ls.take j) : Nat) ∧ ls.length ≤ 320
structure UsA (A : Leaf) (ls : List Int) (u i : Int) : Prop where
  q : A.inb i (A.len ls)
  yes : A.cmp .gtr (A.get 0 ls i) 0 = true → UsInv ls (A.ar .add .i64 u 1, A.ar .add .i64 i 1)
  no : A.cmp .gtr (A.get 0 ls i) 0 = false → UsInv ls (u, A.ar .add .i64 i 1)
  mu : (ls.length - A.ar .add .i64 i 1).toNat < (ls.length - i).toNat
theorem usA {A : Leaf} {ls : List Int} {u i : Int} (hA : A = .std) (hI : UsInv ls (u, i)) (b1 : A.cmp .lss i (A.len ls) = true) : UsA A ls u i := by
  obtain ⟨j, h1, h2, h3, h4⟩ := hI
  simp only at h1 h3
  subst hA h1
  have b1 : (j : Int) < ls.length := of_decide_eq_true b1
  have hj : j < ls.length := by omega
  have e1 : Leaf.std.ar .add .i64 (j : Int) 1 = ((j + 1 : Nat) : Int) := by rw [add_i64 (by omega) (by omega)]; omega
  have hu : usedN (ls.take j) ≤ j := by
    unfold usedN
    have := List.countP_le_length (p := fun x : Int => decide (0 < x)) (l := ls.take j)
    rw [List.length_take] at this
    omega
  have e2 : Leaf.std.ar .add .i64 u 1 = ((usedN (ls.take j) + 1 : Nat) : Int) := by rw [h3, add_i64 (by omega) (by omega)]; omega
  have eg : Leaf.std.get 0 ls (j : Int) = ls[j] := by
    show ls.getD (j : Int).toNat 0 = _
    rw [Int.toNat_natCast]; simp [hj]
  have htk : usedN (ls.take (j + 1)) = usedN (ls.take j) + (if 0 < ls[j] then 1 else 0) := by
    rw [List.take_add_one, List.getElem?_eq_getElem hj]
    unfold usedN
    rw [List.countP_append]
    simp [List.countP_cons]
  refine ⟨?_, fun b => ?_, fun b => ?_, by rw [e1]; omega⟩
  · show (0 : Int) ≤ _ ∧ _ < (ls.length : Int); omega
  · rw [eg] at b
    have b : (0 : Int) < ls[j] := of_decide_eq_true b
    exact ⟨j + 1, e1, by omega, by rw [htk, if_pos b]; exact e2, h4⟩
  · rw [eg] at b
    have b : ¬ (0 : Int) < ls[j] := of_decide_eq_false b
    exact ⟨j + 1, e1, by omega, by rw [htk, if_neg b]; exact h3, h4⟩
theorem usEnd {A : Leaf} {ls : List Int} {u i : Int} (hA : A = .std) (hI : UsInv ls (u, i)) (b1 : A.cmp .lss i (A.len ls) = false) : u = (usedN ls : Nat) := by
  obtain ⟨j, h1, h2, h3, h4⟩ := hI
  simp only at h1 h3
  subst hA h1
  have b1 : ¬ (j : Int) < ls.length := of_decide_eq_false b1
  obtain rfl : j = ls.length := by omega
  rw [List.take_length] at h3
  exact h3
theorem cmpE {A : Leaf} {x y : Int} (hA : A = .std) {b : Bool} (h : A.cmp .eql x y = b) : (b = true ↔ x = y) := by
  subst hA
  have h : (x == y) = b := h
  subst h
  simp
theorem cmpN {A : Leaf} {x y : Int} (hA : A = .std) {b : Bool} (h : A.cmp .neq x y = b) : (b = true ↔ x ≠ y) := by
  subst hA
  have h : (!(x == y)) = b := h
  subst h
  simp
theorem bnF {b : Bool} (h : (!b) = false) : b = true := by cases b <;> simp_all
theorem bnT {b : Bool} (h : (!b) = true) : b = false := by cases b <;> simp_all
structure Cd (ls : List Int) (rn u : Int) : Prop where
  h : RdyR ls
  r : ((roomN ls : Nat) : Int) = rn
  u : u = (usedN ls : Nat)
theorem Cd.g1 {A : Leaf} {ls : List Int} {rn u : Int} (hA : A = .std) (h : Cd ls rn u) (h1 : A.cmp .neq rn 32768 = false) (wh nn : Bool) : codeR ls (!wh) nn = .ok () := by
  have h2 := cmpN hA h1
  have h3 := h.r
  rw [codeR_iff h.h, if_pos (.inl (by simp at h2; omega))]
theorem Cd.g2 {A : Leaf} {ls : List Int} {rn u : Int} (hA : A = .std) (h : Cd ls rn u) (h1 : A.cmp .eql u 1 = true) (h2 : A.bnot (A.cmp .eql rn 16384) = false) (nn : Bool) : codeR ls (!false) nn = .ok () := by
  have h3 := cmpE hA h1
  have h4 : A.cmp .eql rn 16384 = true := by subst hA; exact bnF h2
  have h4 := cmpE hA h4
  have h5 := h.r
  have h6 := h.u
  rw [codeR_iff h.h, if_pos (.inr (.inl ⟨rfl, by simp at h3; omega, by simp at h4; omega⟩))]
theorem Cd.g3 {A : Leaf} {ls : List Int} {rn u : Int} (hA : A = .std) (h : Cd ls rn u) (h1 : A.bnot (A.cmp .eql u 0) = false) (wh : Bool) : codeR ls (!wh) true = .ok () := by
  have h4 : A.cmp .eql u 0 = true := by subst hA; exact bnF h1
  have h4 := cmpE hA h4
  have h6 := h.u
  rw [codeR_iff h.h, if_pos (.inr (.inr ⟨rfl, by simp at h4; omega⟩))]
theorem Cd.a1 {A : Leaf} {ls : List Int} {rn u : Int} (hA : A = .std) (h : Cd ls rn u) (h1 : A.cmp .eql u 1 = false) : ¬ (usedN ls = 1 ∧ roomN ls = 16384) := by
  have h3 := cmpE hA h1
  have h6 := h.u
  rintro ⟨h7, _⟩
  simp at h3
  omega
theorem Cd.a2 {A : Leaf} {ls : List Int} {rn u : Int} (hA : A = .std) (h : Cd ls rn u) (h2 : A.bnot (A.cmp .eql rn 16384) = true) : ¬ (usedN ls = 1 ∧ roomN ls = 16384) := by
  have h4 : A.cmp .eql rn 16384 = false := by subst hA; exact bnT h2
  have h4 := cmpE hA h4
  have h6 := h.r
  rintro ⟨_, h7⟩
  simp at h4
  omega
theorem Cd.b1 {A : Leaf} {ls : List Int} {rn u : Int} (hA : A = .std) (h : Cd ls rn u) (h2 : A.bnot (A.cmp .eql u 0) = true) : usedN ls ≠ 0 := by
  have h4 : A.cmp .eql u 0 = false := by subst hA; exact bnT h2
  have h4 := cmpE hA h4
  have h6 := h.u
  intro h7
  simp at h4
  omega
theorem Cd.bad {A : Leaf} {ls : List Int} {rn u : Int} {wh nn : Bool} (hA : A = .std) (h : Cd ls rn u) (h1 : A.cmp .neq rn 32768 = true) (ha : wh = true ∨ ¬ (usedN ls = 1 ∧ roomN ls = 16384)) (hb : nn = false ∨ usedN ls ≠ 0) : codeR ls (!wh) nn = .error 10 := by
  have h2 := cmpN hA h1
  have h3 := h.r
  rw [codeR_iff h.h, if_neg]
  rintro (h4 | ⟨h4, h5, h6⟩ | ⟨h4, h5⟩)
  · simp at h2; omega
  · rcases ha with rfl | ha
    · cases h4
    · exact ha ⟨h5, h6⟩
  · rcases hb with rfl | hb
    · cases h4
    · exact hb h5
theorem rcode_ok (ls : List Int) (row out : List UInt8) (p lim e0 k b : Int) (wh nn : Bool) : FOK Try.prog C1 74 (fun _ => true) [.ptr 0 0, .ro (.ints .i64 ls), .bool (.lit wh), .bool (.lit nn)]
    [.cells 93 [.ro (.bytes row), .int .i64 p, .own 1, .int .i64 lim, .int .i64 e0, .int .i64 k, .int .i64 b], .row 5 (.bytes out)]
    (RcdP ls row out p lim e0 k b wh nn) := by
  refine fok_of (B := ⟨lookT tis, fun _ => true, []⟩) (tab1 _) (zero1 _) cod1 mix1 Try.func74 (by kernel_rfl) rfl rfl rfl fun X F => ?_
  obtain ⟨A, hA⟩ : ∃ A, A = Leaf.std := ⟨_, rfl⟩
  refine F.hold hA 2000 ?_
  cbv
  repeat (first
    | refine OK.drawn (by decide +kernel) ?_
    | refine OK.tree ⟨lookT tis, fun _ => true, []⟩ (by decide +kernel) ?_
    | refine OK.need (by first | assumption | (rw [hA]; first | (show (_ : Int) ≠ _; decide) | (show (0 : Int) ≤ _; decide) | (show (0 : Int) ≤ _ ∧ _ < (256 : Int); decide))) ?_
    | (refine F.hold hA 2000 ?_; cbv))
  refine F.call [] (refnew_ok ls) rfl rfl rfl fun rs H' hq => ?_
  rcases hq with ⟨e, rfl, rfl, hbad⟩ | ⟨rows, rfl, rfl, hR, hrows⟩
  · refine ⟨rfl, ?_⟩
    have hno : ¬ RdyR ls := by
      intro h
      rcases hbad with ⟨_, hb⟩ | ⟨_, _, hb⟩
      · exact hb ⟨h.le, h.b⟩
      · have := h.r; omega
    have he : e ≠ 0 := by rcases hbad with ⟨rfl, _⟩ | ⟨rfl, _⟩ <;> decide
    clear hbad
    repeat (first
      | refine OK.drawn (by decide +kernel) ?_
      | refine OK.tree ⟨lookT tis, fun _ => true, []⟩ (by decide +kernel) ?_
      | refine OK.need (by first | assumption | (rw [hA]; first | (show (_ : Int) ≠ _; decide) | (show (0 : Int) ≤ _; decide) | (show (0 : Int) ≤ _ ∧ _ < (256 : Int); decide))) ?_
      | (refine F.hold hA 2000 ?_; cbv))
    refine OK.branch (fun b1 => ?_) (fun b1 => absurd (neq_zero hA b1) he)
    repeat (first
      | refine OK.drawn (by decide +kernel) ?_
      | refine OK.tree ⟨lookT tis, fun _ => true, []⟩ (by decide +kernel) ?_
      | refine OK.need (by first | assumption | (rw [hA]; first | (show (_ : Int) ≠ _; decide) | (show (0 : Int) ≤ _; decide) | (show (0 : Int) ≤ _ ∧ _ < (256 : Int); decide))) ?_
      | (refine F.hold hA 2000 ?_; cbv))
    refine F.call [0, 1] (fail_ok row out p lim e0 k b 10) rfl rfl rfl fun rs H' hq => ?_
    obtain ⟨e1, rfl, rfl, hf⟩ := hq
    refine ⟨rfl, ?_⟩
    repeat (first
      | refine OK.drawn (by decide +kernel) ?_
      | refine OK.tree ⟨lookT tis, fun _ => true, []⟩ (by decide +kernel) ?_
      | refine OK.need (by first | assumption | (rw [hA]; first | (show (_ : Int) ≠ _; decide) | (show (0 : Int) ≤ _; decide) | (show (0 : Int) ≤ _ ∧ _ < (256 : Int); decide))) ?_
      | (refine F.hold hA 2000 ?_; cbv))
    exact F.ret0 (.inl ⟨_, rfl, rfl, hf, codeR_bad hno _ _⟩)
  refine ⟨rfl, ?_⟩
  have ho : ORows ls rows := hrows ▸ mp_rows hR.b
  have hle := hR.le
  clear hrows
  generalize hrn : ((roomN ls : Nat) : Int) = rn
  repeat (first
    | refine OK.drawn (by decide +kernel) ?_
    | refine OK.tree ⟨lookT tis, fun _ => true, []⟩ (by decide +kernel) ?_
    | refine OK.need (by first | assumption | (rw [hA]; first | (show (_ : Int) ≠ _; decide) | (show (0 : Int) ≤ _; decide) | (show (0 : Int) ≤ _ ∧ _ < (256 : Int); decide))) ?_
    | (refine F.hold hA 2000 ?_; cbv))
  refine OK.branch (fun b1 => (neq_self hA b1).elim) (fun b1 => ?_)
  repeat (first
    | refine OK.drawn (by decide +kernel) ?_
    | refine OK.tree ⟨lookT tis, fun _ => true, []⟩ (by decide +kernel) ?_
    | refine OK.need (by first | assumption | (rw [hA]; first | (show (_ : Int) ≠ _; decide) | (show (0 : Int) ≤ _; decide) | (show (0 : Int) ≤ _ ∧ _ < (256 : Int); decide))) ?_
    | (refine F.hold hA 2000 ?_; cbv))
  refine F.loop (V := Int × Int) [0, 1, 2, 3, 9] (UsInv ls) (fun w => (ls.length - w.2).toNat) (fun w => [(11, .int .i64 w.1), (12, .int .i64 w.2)]) (fun w => []) (_, _) (by cbv; repeat (first | exact WkH.nil _ | apply WkH.gone | refine WkH.eq rfl ?_)) (by cbv; repeat (first | apply WkL.any | exact WkL.nil _ | refine WkL.eq rfl ?_ | refine WkL.bool rfl ?_)) (by cbv; exact ⟨rfl⟩) ?_ ?_
  · exact ⟨0, rfl, Nat.zero_le _, rfl, hle⟩
  rintro ⟨u, i⟩ hI Bk hBk
  repeat (first
    | refine OK.drawn (by decide +kernel) ?_
    | refine OK.tree ⟨lookT tis, fun _ => true, []⟩ (by decide +kernel) ?_
    | refine OK.need (by first | assumption | (rw [hA]; first | (show (_ : Int) ≠ _; decide) | (show (0 : Int) ≤ _; decide) | (show (0 : Int) ≤ _ ∧ _ < (256 : Int); decide))) ?_
    | (refine F.hold hA 2000 ?_; cbv))
  refine OK.branch (fun b2 => ?_) (fun b2 => ?_)
  · have hat := usA hA hI b2
    have q1 := hat.q
    repeat (first
      | refine OK.drawn (by decide +kernel) ?_
      | refine OK.tree ⟨lookT tis, fun _ => true, []⟩ (by decide +kernel) ?_
      | refine OK.need (by first | assumption | (rw [hA]; first | (show (_ : Int) ≠ _; decide) | (show (0 : Int) ≤ _; decide) | (show (0 : Int) ≤ _ ∧ _ < (256 : Int); decide))) ?_
      | (refine F.hold hA 2000 ?_; cbv))
    refine OK.branch (fun b3 => ?_) (fun b3 => ?_)
    · repeat (first
        | refine OK.drawn (by decide +kernel) ?_
        | refine OK.tree ⟨lookT tis, fun _ => true, []⟩ (by decide +kernel) ?_
        | refine OK.need (by first | assumption | (rw [hA]; first | (show (_ : Int) ≠ _; decide) | (show (0 : Int) ≤ _; decide) | (show (0 : Int) ≤ _ ∧ _ < (256 : Int); decide))) ?_
        | (refine F.hold hA 2000 ?_; cbv))
      refine OK.back (hBk _ _ (_, _) (by cbv; repeat (first | exact WkH.nil _ | apply WkH.gone | refine WkH.eq rfl ?_)) (by cbv; repeat (first | apply WkL.any | exact WkL.nil _ | refine WkL.eq rfl ?_ | refine WkL.bool rfl ?_)) (by cbv; exact ⟨rfl⟩) ?_ ?_)
      · exact hat.yes b3
      · exact hat.mu
    · repeat (first
        | refine OK.drawn (by decide +kernel) ?_
        | refine OK.tree ⟨lookT tis, fun _ => true, []⟩ (by decide +kernel) ?_
        | refine OK.need (by first | assumption | (rw [hA]; first | (show (_ : Int) ≠ _; decide) | (show (0 : Int) ≤ _; decide) | (show (0 : Int) ≤ _ ∧ _ < (256 : Int); decide))) ?_
        | (refine F.hold hA 2000 ?_; cbv))
      refine OK.back (hBk _ _ (_, _) (by cbv; repeat (first | exact WkH.nil _ | apply WkH.gone | refine WkH.eq rfl ?_)) (by cbv; repeat (first | apply WkL.any | exact WkL.nil _ | refine WkL.eq rfl ?_ | refine WkL.bool rfl ?_)) (by cbv; exact ⟨rfl⟩) ?_ ?_)
      · exact hat.no b3
      · exact hat.mu
  have hu := usEnd hA hI b2
  clear hBk hI b1 b2
  have hcd : Cd ls rn u := ⟨hR, hrn, hu⟩
  clear hrn hu
  cases wh <;> cases nn
  · repeat' (first
      | refine OK.drawn (by decide +kernel) ?_
      | refine OK.tree ⟨lookT tis, fun _ => true, []⟩ (by decide +kernel) ?_
      | refine OK.both ?_ ?_
      | refine OK.need (by first | assumption | (rw [hA]; first | (show (_ : Int) ≠ _; decide) | (show (0 : Int) ≤ _; decide) | (show (0 : Int) ≤ _ ∧ _ < (256 : Int); decide))) ?_
      | refine OK.need ?_ ?_
      | (refine OK.branch ?_ ?_ <;> intro h)
      | (refine F.hold hA 2000 ?_; cbv))
    all_goals try exact F.ret0 (.inr ⟨_, _, rfl, rfl, hR, ho, hcd.g1 hA (by assumption) _ _⟩)
    all_goals try exact F.ret0 (.inr ⟨_, _, rfl, rfl, hR, ho, hcd.g2 hA (by assumption) (by assumption) _⟩)
    all_goals try exact F.ret0 (.inr ⟨_, _, rfl, rfl, hR, ho, hcd.g3 hA (by assumption) _⟩)
    all_goals refine F.call [0, 1] (fail_ok row out p lim e0 k b 10) rfl rfl rfl fun rs H' hq => ?_
    all_goals obtain ⟨e1, rfl, rfl, hf⟩ := hq
    all_goals refine ⟨rfl, ?_⟩
    repeat' (first
      | refine OK.drawn (by decide +kernel) ?_
      | refine OK.tree ⟨lookT tis, fun _ => true, []⟩ (by decide +kernel) ?_
      | refine OK.both ?_ ?_
      | refine OK.need (by first | assumption | (rw [hA]; first | (show (_ : Int) ≠ _; decide) | (show (0 : Int) ≤ _; decide) | (show (0 : Int) ≤ _ ∧ _ < (256 : Int); decide))) ?_
      | refine OK.need ?_ ?_
      | (refine OK.branch ?_ ?_ <;> intro h)
      | (refine F.hold hA 2000 ?_; cbv))
    all_goals exact F.ret (H' := [_, _]) (F.cv ⟨rfl⟩ (.eq rfl (.nil _)) (.eq rfl (.eq rfl (.nil _)))) rfl (.inl ⟨_, rfl, rfl, hf, hcd.bad hA (by assumption) (by first | exact .inl rfl | exact .inr (hcd.a1 hA (by assumption)) | exact .inr (hcd.a2 hA (by assumption))) (by first | exact .inl rfl | exact .inr (hcd.b1 hA (by assumption)))⟩)
  · repeat' (first
      | refine OK.drawn (by decide +kernel) ?_
      | refine OK.tree ⟨lookT tis, fun _ => true, []⟩ (by decide +kernel) ?_
      | refine OK.both ?_ ?_
      | refine OK.need (by first | assumption | (rw [hA]; first | (show (_ : Int) ≠ _; decide) | (show (0 : Int) ≤ _; decide) | (show (0 : Int) ≤ _ ∧ _ < (256 : Int); decide))) ?_
      | refine OK.need ?_ ?_
      | (refine OK.branch ?_ ?_ <;> intro h)
      | (refine F.hold hA 2000 ?_; cbv))
    all_goals try exact F.ret0 (.inr ⟨_, _, rfl, rfl, hR, ho, hcd.g1 hA (by assumption) _ _⟩)
    all_goals try exact F.ret0 (.inr ⟨_, _, rfl, rfl, hR, ho, hcd.g2 hA (by assumption) (by assumption) _⟩)
    all_goals try exact F.ret0 (.inr ⟨_, _, rfl, rfl, hR, ho, hcd.g3 hA (by assumption) _⟩)
    all_goals refine F.call [0, 1] (fail_ok row out p lim e0 k b 10) rfl rfl rfl fun rs H' hq => ?_
    all_goals obtain ⟨e1, rfl, rfl, hf⟩ := hq
    all_goals refine ⟨rfl, ?_⟩
    repeat' (first
      | refine OK.drawn (by decide +kernel) ?_
      | refine OK.tree ⟨lookT tis, fun _ => true, []⟩ (by decide +kernel) ?_
      | refine OK.both ?_ ?_
      | refine OK.need (by first | assumption | (rw [hA]; first | (show (_ : Int) ≠ _; decide) | (show (0 : Int) ≤ _; decide) | (show (0 : Int) ≤ _ ∧ _ < (256 : Int); decide))) ?_
      | refine OK.need ?_ ?_
      | (refine OK.branch ?_ ?_ <;> intro h)
      | (refine F.hold hA 2000 ?_; cbv))
    all_goals exact F.ret (H' := [_, _]) (F.cv ⟨rfl⟩ (.eq rfl (.nil _)) (.eq rfl (.eq rfl (.nil _)))) rfl (.inl ⟨_, rfl, rfl, hf, hcd.bad hA (by assumption) (by first | exact .inl rfl | exact .inr (hcd.a1 hA (by assumption)) | exact .inr (hcd.a2 hA (by assumption))) (by first | exact .inl rfl | exact .inr (hcd.b1 hA (by assumption)))⟩)
  · repeat' (first
      | refine OK.drawn (by decide +kernel) ?_
      | refine OK.tree ⟨lookT tis, fun _ => true, []⟩ (by decide +kernel) ?_
      | refine OK.both ?_ ?_
      | refine OK.need (by first | assumption | (rw [hA]; first | (show (_ : Int) ≠ _; decide) | (show (0 : Int) ≤ _; decide) | (show (0 : Int) ≤ _ ∧ _ < (256 : Int); decide))) ?_
      | refine OK.need ?_ ?_
      | (refine OK.branch ?_ ?_ <;> intro h)
      | (refine F.hold hA 2000 ?_; cbv))
    all_goals try exact F.ret0 (.inr ⟨_, _, rfl, rfl, hR, ho, hcd.g1 hA (by assumption) _ _⟩)
    all_goals try exact F.ret0 (.inr ⟨_, _, rfl, rfl, hR, ho, hcd.g2 hA (by assumption) (by assumption) _⟩)
    all_goals try exact F.ret0 (.inr ⟨_, _, rfl, rfl, hR, ho, hcd.g3 hA (by assumption) _⟩)
    all_goals refine F.call [0, 1] (fail_ok row out p lim e0 k b 10) rfl rfl rfl fun rs H' hq => ?_
    all_goals obtain ⟨e1, rfl, rfl, hf⟩ := hq
    all_goals refine ⟨rfl, ?_⟩
    repeat' (first
      | refine OK.drawn (by decide +kernel) ?_
      | refine OK.tree ⟨lookT tis, fun _ => true, []⟩ (by decide +kernel) ?_
      | refine OK.both ?_ ?_
      | refine OK.need (by first | assumption | (rw [hA]; first | (show (_ : Int) ≠ _; decide) | (show (0 : Int) ≤ _; decide) | (show (0 : Int) ≤ _ ∧ _ < (256 : Int); decide))) ?_
      | refine OK.need ?_ ?_
      | (refine OK.branch ?_ ?_ <;> intro h)
      | (refine F.hold hA 2000 ?_; cbv))
    all_goals exact F.ret (H' := [_, _]) (F.cv ⟨rfl⟩ (.eq rfl (.nil _)) (.eq rfl (.eq rfl (.nil _)))) rfl (.inl ⟨_, rfl, rfl, hf, hcd.bad hA (by assumption) (by first | exact .inl rfl | exact .inr (hcd.a1 hA (by assumption)) | exact .inr (hcd.a2 hA (by assumption))) (by first | exact .inl rfl | exact .inr (hcd.b1 hA (by assumption)))⟩)
  · repeat' (first
      | refine OK.drawn (by decide +kernel) ?_
      | refine OK.tree ⟨lookT tis, fun _ => true, []⟩ (by decide +kernel) ?_
      | refine OK.both ?_ ?_
      | refine OK.need (by first | assumption | (rw [hA]; first | (show (_ : Int) ≠ _; decide) | (show (0 : Int) ≤ _; decide) | (show (0 : Int) ≤ _ ∧ _ < (256 : Int); decide))) ?_
      | refine OK.need ?_ ?_
      | (refine OK.branch ?_ ?_ <;> intro h)
      | (refine F.hold hA 2000 ?_; cbv))
    all_goals try exact F.ret0 (.inr ⟨_, _, rfl, rfl, hR, ho, hcd.g1 hA (by assumption) _ _⟩)
    all_goals try exact F.ret0 (.inr ⟨_, _, rfl, rfl, hR, ho, hcd.g2 hA (by assumption) (by assumption) _⟩)
    all_goals try exact F.ret0 (.inr ⟨_, _, rfl, rfl, hR, ho, hcd.g3 hA (by assumption) _⟩)
    all_goals refine F.call [0, 1] (fail_ok row out p lim e0 k b 10) rfl rfl rfl fun rs H' hq => ?_
    all_goals obtain ⟨e1, rfl, rfl, hf⟩ := hq
    all_goals refine ⟨rfl, ?_⟩
    repeat' (first
      | refine OK.drawn (by decide +kernel) ?_
      | refine OK.tree ⟨lookT tis, fun _ => true, []⟩ (by decide +kernel) ?_
      | refine OK.both ?_ ?_
      | refine OK.need (by first | assumption | (rw [hA]; first | (show (_ : Int) ≠ _; decide) | (show (0 : Int) ≤ _; decide) | (show (0 : Int) ≤ _ ∧ _ < (256 : Int); decide))) ?_
      | refine OK.need ?_ ?_
      | (refine OK.branch ?_ ?_ <;> intro h)
      | (refine F.hold hA 2000 ?_; cbv))
    all_goals exact F.ret (H' := [_, _]) (F.cv ⟨rfl⟩ (.eq rfl (.nil _)) (.eq rfl (.eq rfl (.nil _)))) rfl (.inl ⟨_, rfl, rfl, hf, hcd.bad hA (by assumption) (by first | exact .inl rfl | exact .inr (hcd.a1 hA (by assumption)) | exact .inr (hcd.a2 hA (by assumption))) (by first | exact .inl rfl | exact .inr (hcd.b1 hA (by assumption)))⟩)
end Go.L1
