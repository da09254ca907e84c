/- Own work of the session: part LI of a proof that the program's functions do what the statement says (a symbolic executor, contracts of the functions, plain laws). -/
import Derived.Test.YtmgmbcniamkfeaaLH
import Derived.Test.YtmgmbcniamkfeaaLC
set_option linter.all false
-- D18
namespace Go.L1
open Go Go.Sx Go.Proofs Go.Huff
set_option maxRecDepth 20000
set_option linter.unusedVariables false
set_option linter.unusedSimpArgs false
theorem neq_zero {A : Leaf} {e : Int} (hA : A = .std) (h : A.cmp .neq e 0 = false) : e = 0 := by
  subst hA
  have h : (!(e == 0)) = false := h
  simpa using h
theorem infP_of {A : Leaf} {xs : List UInt8} {lim : Int} (hA : A = .std) (h1 : A.cmp .gtr (A.len xs) 2000 = false) (h2 : A.cmp .gtr lim 1048576 = false) : xs.length ≤ 2000 ∧ InfP xs lim := by
  subst hA
  have h1 : ¬ (2000 : Int) < xs.length := of_decide_eq_false h1
  have h2 : ¬ (1048576 : Int) < lim := of_decide_eq_false h2
  exact ⟨by omega, ⟨by omega, by omega⟩⟩
theorem bnot_t {A : Leaf} (hA : A = .std) (h : A.bnot true = true) : False := by subst hA; cases h
structure LimA (A : Leaf) (xs : List UInt8) (lim : Int) (out : List UInt8) (used k b : Int) : Prop where
  c1 : A.cmp .gtr (A.len out) (A.imax lim 0) = true → False
  c2 : A.cmp .gtr k (A.ar .mul .i64 8 (A.len xs)) = true → False
  c3 : A.cmp .gtr used (A.len xs) = true → False
  c4 : A.cmp .lss b 1 = true → False
  c5 : A.cmp .gtr b (A.ar .mul .i64 8 (A.len xs)) = true → False
theorem limA {A : Leaf} {xs : List UInt8} {lim : Int} {out : List UInt8} {used k b : Int} (hA : A = .std) (hl : xs.length ≤ 2000) (h : InfOK xs lim out used k b) : LimA A xs lim out used k b := by
  subst hA
  obtain ⟨p, hs, hu, hb1, hb2⟩ := h.bd
  have h1 := hs.s.rd.hi
  have h2 := hs.l
  have h3 := hs.k
  have e8 : Leaf.std.ar .mul .i64 8 (xs.length : Int) = 8 * xs.length := by
    show LAr .mul .i64 8 _ = _
    rw [l_mul_i64 (by omega) (by omega)]
  refine ⟨fun h => ?_, fun h => ?_, fun h => ?_, fun h => ?_, fun h => ?_⟩
  · have h : (if lim < 0 then 0 else lim) < (out.length : Int) := of_decide_eq_true h
    have := h2.ot
    split at h <;> omega
  · have h : Leaf.std.ar .mul .i64 8 (xs.length : Int) < k := of_decide_eq_true h
    have := h3.hi
    omega
  · have h : (xs.length : Int) < used := of_decide_eq_true h
    omega
  · have h : b < 1 := of_decide_eq_true h
    omega
  · have h : Leaf.std.ar .mul .i64 8 (xs.length : Int) < b := of_decide_eq_true h
    omega
theorem sub_std {A : Leaf} {xs : List UInt8} {h : Int} (hA : A = .std) (h0 : 0 ≤ h) (h1 : h ≤ xs.length) : A.sub xs 0 h = xs.take h.toNat := by
  subst hA
  simp [Leaf.std]
structure LimB (A : Leaf) (xs : List UInt8) (lim : Int) (out : List UInt8) (used k b : Int) : Prop where
  sl : A.slb 0 used (A.len xs)
  pr : InfP (A.sub xs 0 used) (A.len out)
  eq : inflR (A.sub xs 0 used) (A.len out) = .ok (out, used, k, b)
  p2 : A.cmp .eql (A.len out) 0 = false → InfP xs (A.ar .sub .i64 (A.len out) 1)
  e2 : A.cmp .eql (A.len out) 0 = false → inflR xs (A.ar .sub .i64 (A.len out) 1) = .error 14
  ol : out.length ≤ 100000000000
theorem limB {A : Leaf} {xs : List UInt8} {lim : Int} {out : List UInt8} {used k b : Int} (hA : A = .std) (hp : InfP xs lim) (h : InfOK xs lim out used k b) : LimB A xs lim out used k b := by
  obtain ⟨p, hs, hu, hb1, hb2⟩ := h.bd
  have h1 := hs.s.rd.hi
  have h2 := hs.l
  have h3 := hs.k
  have h4 := h2.ot
  have h5 := hp.hi
  have h6 := hp.l
  have h7 := hs.s.rd.rd.lo
  have e1 := sub_std (h := used) hA (by omega) (by omega : used ≤ xs.length)
  have e2 : A.len out = out.length := by subst hA; rfl
  have e3 : 0 < (out.length : Int) → A.ar .sub .i64 (out.length : Int) 1 = out.length - 1 := fun _ => by subst hA; exact sub_i64 (by omega) (by omega)
  have e4 : A.cmp .eql (A.len out) 0 = false → 0 < (out.length : Int) := fun hh => by
    subst hA
    have hh : (((out.length : Nat) : Int) == 0) = false := hh
    have : ((out.length : Nat) : Int) ≠ 0 := by simpa using hh
    omega
  refine ⟨by subst hA; show (0 : Int) ≤ 0 ∧ 0 ≤ used ∧ used ≤ xs.length; omega, ?_, ?_, fun hh => ?_, fun hh => ?_, by omega⟩
  · rw [e1, e2]
    exact ⟨by rw [List.length_take]; omega, by omega⟩
  · rw [e1, e2]
    have hl := (infl_loc (xs := xs) (xs' := xs.take used.toNat) (k := used.toNat) ⟨by omega, by rw [List.length_take]; omega, by rw [List.take_take, Nat.min_self]⟩ h.e).1 (by omega)
    exact (infl_lm hl (by omega)).1 (by omega)
  · rw [e2, e3 (e4 hh)]
    exact ⟨h6, by omega⟩
  · rw [e2, e3 (e4 hh)]
    exact (infl_lm h.e (by have := e4 hh; omega)).2 (by omega)
theorem limit_ok (xs : List UInt8) (lim : Int) : FOK Try.prog C1 10 (fun _ => false) [.ro (.bytes xs), .int .i64 lim] [] Yes := by
  refine fok_of (B := ⟨lookT tis, fun _ => false, []⟩) (tab1 _) (zero1 _) cod1 mix1 Try.func10 (by kernel_rfl) rfl rfl rfl fun X F => ?_
  obtain ⟨A, hA⟩ : ∃ A, A = Leaf.std := ⟨_, rfl⟩
  refine F.hold hA 2000 ?_
  cbv
  repeat' (first
    | refine OK.drawn (by decide +kernel) ?_
    | refine OK.tree ⟨lookT tis, fun _ => true, []⟩ (by decide +kernel) ?_
    | refine OK.both ?_ ?_
    | refine OK.need (by first | assumption | (rw [hA]; first | (show (_ : Int) ≠ _; decide) | (show (0 : Int) ≤ _; decide) | (show (0 : Int) ≤ _ ∧ _ < (256 : Int); decide))) ?_
    | refine OK.need ?_ ?_
    | (refine OK.branch ?_ ?_ <;> intro h)
    | (refine F.hold hA 2000 ?_; cbv))
  refine F.call [] (alive6_ok) rfl rfl rfl fun rs H' hq => ?_
  obtain ⟨b, rfl, rfl, rfl⟩ := hq
  refine ⟨rfl, ?_⟩
  repeat' (first
    | refine OK.drawn (by decide +kernel) ?_
    | refine OK.tree ⟨lookT tis, fun _ => true, []⟩ (by decide +kernel) ?_
    | refine OK.both ?_ ?_
    | refine OK.need (by first | assumption | (rw [hA]; first | (show (_ : Int) ≠ _; decide) | (show (0 : Int) ≤ _; decide) | (show (0 : Int) ≤ _ ∧ _ < (256 : Int); decide))) ?_
    | refine OK.need ?_ ?_
    | (refine OK.branch ?_ ?_ <;> intro h)
    | (refine F.hold hA 2000 ?_; cbv))
  · exfalso; subst hA; cases h
  · exact F.ret0 ⟨_, rfl, rfl⟩
  · exact F.ret0 ⟨_, rfl, rfl⟩
  obtain ⟨hl, hp⟩ := infP_of hA ‹A.cmp .gtr (A.len xs) 2000 = false› ‹A.cmp .gtr lim 1048576 = false›
  refine F.call [] (inflate_ok xs lim hp) rfl rfl rfl fun rs H' hq => ?_
  rcases hq with ⟨out, used, k, b, hok, rfl, rfl⟩ | ⟨e, he, rfl, rfl⟩
  case inr =>
    have hne := infl_n0 (lim := lim) hp.l
    refine ⟨rfl, ?_⟩
    repeat (first
      | refine OK.drawn (by decide +kernel) ?_
      | refine OK.tree ⟨lookT tis, fun _ => true, []⟩ (by decide +kernel) ?_
      | refine OK.need (by first | assumption | (rw [hA]; first | (show (_ : Int) ≠ _; decide) | (show (0 : Int) ≤ _; decide) | (show (0 : Int) ≤ _ ∧ _ < (256 : Int); decide))) ?_
      | (refine F.hold hA 2000 ?_; cbv))
    refine OK.branch (fun b1 => ?_) (fun b1 => (hne (neq_zero hA b1 ▸ he)).elim)
    repeat (first
      | refine OK.drawn (by decide +kernel) ?_
      | refine OK.tree ⟨lookT tis, fun _ => true, []⟩ (by decide +kernel) ?_
      | refine OK.need (by first | assumption | (rw [hA]; first | (show (_ : Int) ≠ _; decide) | (show (0 : Int) ≤ _; decide) | (show (0 : Int) ≤ _ ∧ _ < (256 : Int); decide))) ?_
      | (refine F.hold hA 2000 ?_; cbv))
    exact F.ret0 ⟨_, rfl, by subst hA; rfl⟩
  have hat := limA hA hl hok
  have n1 := hat.c1
  have n2 := hat.c2
  have n3 := hat.c3
  have n4 := hat.c4
  have n5 := hat.c5
  clear hat
  refine ⟨rfl, ?_⟩
  repeat' (first
    | contradiction
    | exact (neq_self hA (by assumption)).elim
    | exact (n1 (by assumption)).elim
    | exact (n2 (by assumption)).elim
    | exact (n3 (by assumption)).elim
    | exact (n4 (by assumption)).elim
    | exact (n5 (by assumption)).elim
    | refine OK.drawn (by decide +kernel) ?_
    | refine OK.tree ⟨lookT tis, fun _ => true, []⟩ (by decide +kernel) ?_
    | refine OK.both ?_ ?_
    | refine OK.need (by first | assumption | (rw [hA]; first | (show (_ : Int) ≠ _; decide) | (show (0 : Int) ≤ _; decide) | (show (0 : Int) ≤ _ ∧ _ < (256 : Int); decide))) ?_
    | refine OK.need ?_ ?_
    | (refine OK.branch ?_ ?_ <;> intro h)
    | (refine F.hold hA 2000 ?_; cbv))
  · exact (limB hA hp hok).sl
  have hB := limB hA hp hok
  refine F.call [] (inflate_ok _ _ hB.pr) rfl rfl rfl fun rs H' hq => ?_
  obtain ⟨rfl, rfl⟩ := hq.isOk hB.eq
  refine ⟨rfl, ?_⟩
  clear hq
  repeat' (first
    | contradiction
    | exact (neq_self hA (by assumption)).elim
    | refine OK.drawn (by decide +kernel) ?_
    | refine OK.tree ⟨lookT tis, fun _ => true, []⟩ (by decide +kernel) ?_
    | refine OK.both ?_ ?_
    | refine OK.need (by first | assumption | (rw [hA]; first | (show (_ : Int) ≠ _; decide) | (show (0 : Int) ≤ _; decide) | (show (0 : Int) ≤ _ ∧ _ < (256 : Int); decide))) ?_
    | refine OK.need ?_ ?_
    | (refine OK.branch ?_ ?_ <;> intro h)
    | (refine F.hold hA 2000 ?_; cbv))
  refine F.callFrz 5 rfl rfl rfl rfl ?_
  refine F.callFrz 12 rfl rfl rfl rfl ?_
  refine F.call [] (same_ok out out hB.ol) rfl rfl rfl fun rs H' hq => ?_
  obtain ⟨r, rfl, rfl, hr⟩ := hq
  obtain rfl : r = true := hr.2 rfl
  refine ⟨rfl, ?_⟩
  clear hr
  repeat' (first
    | contradiction
    | exact (neq_self hA (by assumption)).elim
    | exact (bnot_t hA (by assumption)).elim
    | refine OK.drawn (by decide +kernel) ?_
    | refine OK.tree ⟨lookT tis, fun _ => true, []⟩ (by decide +kernel) ?_
    | refine OK.both ?_ ?_
    | refine OK.need (by first | assumption | (rw [hA]; first | (show (_ : Int) ≠ _; decide) | (show (0 : Int) ≤ _; decide) | (show (0 : Int) ≤ _ ∧ _ < (256 : Int); decide))) ?_
    | refine OK.need ?_ ?_
    | (refine OK.branch ?_ ?_ <;> intro h)
    | (refine F.hold hA 2000 ?_; cbv))
  · exact F.ret0 ⟨_, rfl, rfl⟩
  refine F.call [] (inflate_ok _ _ (hB.p2 (by assumption))) rfl rfl rfl fun rs H' hq => ?_
  obtain ⟨rfl, rfl⟩ := hq.isErr (hB.e2 (by assumption))
  refine ⟨rfl, ?_⟩
  clear hq
  repeat (first
    | refine OK.drawn (by decide +kernel) ?_
    | refine OK.tree ⟨lookT tis, fun _ => true, []⟩ (by decide +kernel) ?_
    | refine OK.need (by first | assumption | (rw [hA]; first | (show (_ : Int) ≠ _; decide) | (show (0 : Int) ≤ _; decide) | (show (0 : Int) ≤ _ ∧ _ < (256 : Int); decide))) ?_
    | (refine F.hold hA 2000 ?_; cbv))
  exact F.ret0 ⟨_, rfl, by subst hA; rfl⟩
end Go.L1
