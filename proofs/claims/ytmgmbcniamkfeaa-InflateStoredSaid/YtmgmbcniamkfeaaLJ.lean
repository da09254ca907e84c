/- Own work of the session: part LJ of a proof that the program's functions do what the statement says (a symbolic executor, contracts of the functions, plain laws). -/
import Derived.Test.YtmgmbcniamkfeaaLI
set_option linter.all false
-- D19
namespace Go.L1
open Go Go.Sx Go.Proofs Go.Huff
set_option maxRecDepth 20000
set_option linter.unusedVariables false
set_option linter.unusedSimpArgs false
theorem len_gtr {A : Leaf} {α : Type} {xs : List α} {n : Nat} (hA : A = .std) (h : A.cmp .gtr (A.len xs) n = false) : xs.length ≤ n := by
  subst hA
  have h1 : ¬ (n : Int) < xs.length := of_decide_eq_false h
  omega
structure CutB (A : Leaf) (xs : List UInt8) (cut : Int) (more : List UInt8) (out : List UInt8) (used k b : Int) : Prop where
  s1 : A.slb 0 cut (A.len xs)
  p1 : InfP (A.sub xs 0 cut) 1048576
  e1 : inflR (A.sub xs 0 cut) 1048576 = .error 15
  s2 : A.slb 0 used (A.len xs)
  l2 : (A.sub xs 0 used).length ≤ 100000000000
  p2 : InfP (A.app (A.sub xs 0 used) more) 1048576
  e2 : inflR (A.app (A.sub xs 0 used) more) 1048576 = .ok (out, used, k, b)
  ol : out.length ≤ 100000000000
  sm : A.small (A.len (A.app (A.sub xs 0 used) more)) 1
theorem cutB {A : Leaf} {xs : List UInt8} {cut : Int} {more : List UInt8} {out : List UInt8} {used k b : Int} (hA : A = .std) (hl : xs.length ≤ 2000) (hm : more.length ≤ 200) (h : InfOK xs 1048576 out used k b)
    (h1 : A.cmp .lss cut 0 = false) (h2 : A.cmp .geq cut used = false) : CutB A xs cut more out used k b := by
  obtain ⟨p, hs, hu, hb1, hb2⟩ := h.bd
  have h3 := hs.s.rd.hi
  have h4 := hs.l.ot
  have h5 := hs.s.rd.rd.lo
  have c1 : 0 ≤ cut := by subst hA; have : ¬ cut < 0 := of_decide_eq_false h1; omega
  have c2 : cut < used := by subst hA; have : ¬ cut ≥ used := of_decide_eq_false h2; omega
  have e1 := sub_std (h := cut) hA c1 (by omega : cut ≤ xs.length)
  have e2 := sub_std (h := used) hA (by omega) (by omega : used ≤ xs.length)
  have e3 : A.app (xs.take used.toNat) more = xs.take used.toNat ++ more := by subst hA; rfl
  refine ⟨by subst hA; show (0 : Int) ≤ 0 ∧ 0 ≤ cut ∧ cut ≤ xs.length; omega, ?_, ?_, by subst hA; show (0 : Int) ≤ 0 ∧ 0 ≤ used ∧ used ≤ xs.length; omega, ?_, ?_, ?_, by omega, ?_⟩
  · rw [e1]; exact ⟨by rw [List.length_take]; omega, by omega⟩
  · rw [e1]
    exact (infl_loc (xs := xs) (xs' := xs.take cut.toNat) (k := cut.toNat) ⟨by omega, by rw [List.length_take]; omega, by rw [List.take_take, Nat.min_self]⟩ h.e).2 rfl (by omega)
  · rw [e2, List.length_take]; omega
  · rw [e2, e3]; exact ⟨by rw [List.length_append, List.length_take]; omega, by omega⟩
  · rw [e2, e3]
    refine (infl_loc (xs := xs) (xs' := xs.take used.toNat ++ more) (k := used.toNat) ⟨by omega, by rw [List.length_append, List.length_take]; omega, ?_⟩ h.e).1 (by omega)
    rw [List.take_append_of_le_length (by rw [List.length_take]; omega), List.take_take, Nat.min_self]
  · rw [e2, e3]
    subst hA
    show (0 : Int) ≤ ((xs.take used.toNat ++ more).length : Nat) ∧ (((xs.take used.toNat ++ more).length : Nat) : Int) ≤ 140737488355328 ∧ (((xs.take used.toNat ++ more).length : Nat) : Int) * (1 : Nat) ≤ 140737488355328
    rw [List.length_append, List.length_take]
    omega
theorem cuts_ok (xs : List UInt8) (cut : Int) (more : List UInt8) : FOK Try.prog C1 11 (fun _ => false) [.ro (.bytes xs), .int .i64 cut, .ro (.bytes more)] [] Yes := by
  refine fok_of (B := ⟨lookT tis, fun _ => false, []⟩) (tab1 _) (zero1 _) cod1 mix1 Try.func11 (by kernel_rfl) rfl rfl rfl fun X F => ?_
  obtain ⟨A, hA⟩ : ∃ A, A = Leaf.std := ⟨_, rfl⟩
  refine F.hold hA 2000 ?_
  cbv
  repeat' (first
    | refine OK.drawn (by decide +kernel) ?_
    | refine OK.tree ⟨lookT tis, fun _ => true, []⟩ (by decide +kernel) ?_
    | refine OK.both ?_ ?_
    | refine OK.need (by first | assumption | (rw [hA]; first | (show (_ : Int) ≠ _; decide) | (show (0 : Int) ≤ _; decide) | (show (0 : Int) ≤ _ ∧ _ < (256 : Int); decide))) ?_
    | refine OK.need ?_ ?_
    | (refine OK.branch ?_ ?_ <;> intro h)
    | (refine F.hold hA 2000 ?_; cbv))
  refine F.call [] (alive6_ok) rfl rfl rfl fun rs H' hq => ?_
  obtain ⟨b, rfl, rfl, rfl⟩ := hq
  refine ⟨rfl, ?_⟩
  repeat' (first
    | contradiction
    | exact (bnot_t hA (by assumption)).elim
    | refine OK.drawn (by decide +kernel) ?_
    | refine OK.tree ⟨lookT tis, fun _ => true, []⟩ (by decide +kernel) ?_
    | refine OK.both ?_ ?_
    | refine OK.need (by first | assumption | (rw [hA]; first | (show (_ : Int) ≠ _; decide) | (show (0 : Int) ≤ _; decide) | (show (0 : Int) ≤ _ ∧ _ < (256 : Int); decide))) ?_
    | refine OK.need ?_ ?_
    | (refine OK.branch ?_ ?_ <;> intro h)
    | (refine F.hold hA 2000 ?_; cbv))
  · exact F.ret0 ⟨_, rfl, rfl⟩
  · exact F.ret0 ⟨_, rfl, rfl⟩
  have hl := len_gtr (n := 2000) hA (by assumption)
  have hm := len_gtr (n := 200) hA (by assumption)
  refine F.call [] (inflate_ok xs 1048576 ⟨by omega, by omega⟩) rfl rfl rfl fun rs H' hq => ?_
  rcases hq with ⟨out, used, k, b, hok, rfl, rfl⟩ | ⟨e, he, rfl, rfl⟩
  case inr =>
    have hne := infl_n0 (xs := xs) (lim := 1048576) (by omega)
    refine ⟨rfl, ?_⟩
    repeat (first
      | refine OK.drawn (by decide +kernel) ?_
      | refine OK.tree ⟨lookT tis, fun _ => true, []⟩ (by decide +kernel) ?_
      | refine OK.need (by first | assumption | (rw [hA]; first | (show (_ : Int) ≠ _; decide) | (show (0 : Int) ≤ _; decide) | (show (0 : Int) ≤ _ ∧ _ < (256 : Int); decide))) ?_
      | (refine F.hold hA 2000 ?_; cbv))
    refine OK.branch (fun b1 => ?_) (fun b1 => (hne (neq_zero hA b1 ▸ he)).elim)
    repeat (first
      | refine OK.drawn (by decide +kernel) ?_
      | refine OK.tree ⟨lookT tis, fun _ => true, []⟩ (by decide +kernel) ?_
      | refine OK.need (by first | assumption | (rw [hA]; first | (show (_ : Int) ≠ _; decide) | (show (0 : Int) ≤ _; decide) | (show (0 : Int) ≤ _ ∧ _ < (256 : Int); decide))) ?_
      | (refine F.hold hA 2000 ?_; cbv))
    exact F.ret0 ⟨_, rfl, rfl⟩
  refine ⟨rfl, ?_⟩
  repeat' (first
    | contradiction
    | exact (neq_self hA (by assumption)).elim
    | refine OK.drawn (by decide +kernel) ?_
    | refine OK.tree ⟨lookT tis, fun _ => true, []⟩ (by decide +kernel) ?_
    | refine OK.both ?_ ?_
    | refine OK.need (by first | assumption | (rw [hA]; first | (show (_ : Int) ≠ _; decide) | (show (0 : Int) ≤ _; decide) | (show (0 : Int) ≤ _ ∧ _ < (256 : Int); decide))) ?_
    | refine OK.need ?_ ?_
    | (refine OK.branch ?_ ?_ <;> intro h)
    | (refine F.hold hA 2000 ?_; cbv))
  · exact F.ret0 ⟨_, rfl, rfl⟩
  · exact F.ret0 ⟨_, rfl, rfl⟩
  · exact (cutB (more := more) hA hl hm hok (by assumption) (by assumption)).s1
  have hB := cutB (more := more) hA hl hm hok (by assumption) (by assumption)
  refine F.call [] (inflate_ok _ _ hB.p1) rfl rfl rfl fun rs H' hq => ?_
  obtain ⟨rfl, rfl⟩ := hq.isErr hB.e1
  refine ⟨rfl, ?_⟩
  clear hq
  repeat' (first
    | refine OK.drawn (by decide +kernel) ?_
    | refine OK.tree ⟨lookT tis, fun _ => true, []⟩ (by decide +kernel) ?_
    | refine OK.both ?_ ?_
    | refine OK.need (by first | assumption | (rw [hA]; first | (show (_ : Int) ≠ _; decide) | (show (0 : Int) ≤ _; decide) | (show (0 : Int) ≤ _ ∧ _ < (256 : Int); decide))) ?_
    | refine OK.need ?_ ?_
    | (refine OK.branch ?_ ?_ <;> intro h)
    | (refine F.hold hA 2000 ?_; cbv))
  · exact hB.s2
  refine F.call [] (copy_ro _ hB.l2) rfl rfl rfl fun rs H' hq => ?_
  obtain ⟨rfl, rfl⟩ := hq
  refine ⟨rfl, ?_⟩
  repeat' (first
    | refine OK.drawn (by decide +kernel) ?_
    | refine OK.tree ⟨lookT tis, fun _ => true, []⟩ (by decide +kernel) ?_
    | refine OK.both ?_ ?_
    | refine OK.need (by first | assumption | (rw [hA]; first | (show (_ : Int) ≠ _; decide) | (show (0 : Int) ≤ _; decide) | (show (0 : Int) ≤ _ ∧ _ < (256 : Int); decide))) ?_
    | refine OK.need ?_ ?_
    | (refine OK.branch ?_ ?_ <;> intro h)
    | (refine F.hold hA 2000 ?_; cbv))
  · exact hB.sm
  refine F.callFrz 14 rfl rfl rfl rfl ?_
  refine F.call [] (inflate_ok _ _ hB.p2) rfl rfl rfl fun rs H' hq => ?_
  obtain ⟨rfl, rfl⟩ := hq.isOk hB.e2
  refine ⟨rfl, ?_⟩
  clear hq
  repeat' (first
    | contradiction
    | exact (eql_self hA (by assumption)).elim
    | refine OK.drawn (by decide +kernel) ?_
    | refine OK.tree ⟨lookT tis, fun _ => true, []⟩ (by decide +kernel) ?_
    | refine OK.both ?_ ?_
    | refine OK.need (by first | assumption | (rw [hA]; first | (show (_ : Int) ≠ _; decide) | (show (0 : Int) ≤ _; decide) | (show (0 : Int) ≤ _ ∧ _ < (256 : Int); decide))) ?_
    | refine OK.need ?_ ?_
    | (refine OK.branch ?_ ?_ <;> intro h)
    | (refine F.hold hA 2000 ?_; cbv))
  refine F.callFrz 5 rfl rfl rfl rfl ?_
  refine F.callFrz 20 rfl rfl rfl rfl ?_
  refine F.call [] (same_ok out out hB.ol) rfl rfl rfl fun rs H' hq => ?_
  obtain ⟨r, rfl, rfl, hr⟩ := hq
  obtain rfl : r = true := hr.2 rfl
  refine ⟨rfl, ?_⟩
  clear hr
  repeat' (first
    | contradiction
    | exact (eql_self hA (by assumption)).elim
    | refine OK.drawn (by decide +kernel) ?_
    | refine OK.tree ⟨lookT tis, fun _ => true, []⟩ (by decide +kernel) ?_
    | refine OK.both ?_ ?_
    | refine OK.need (by first | assumption | (rw [hA]; first | (show (_ : Int) ≠ _; decide) | (show (0 : Int) ≤ _; decide) | (show (0 : Int) ≤ _ ∧ _ < (256 : Int); decide))) ?_
    | refine OK.need ?_ ?_
    | (refine OK.branch ?_ ?_ <;> intro h)
    | (refine F.hold hA 2000 ?_; cbv))
  exact F.ret0 ⟨_, rfl, by subst hA; simp [ebool, Leaf.std]⟩
end Go.L1

-- D20
namespace Go.L1
open Go Go.Sx Go.Proofs Go.Huff
set_option maxRecDepth 20000
set_option linter.unusedVariables false
set_option linter.unusedSimpArgs false
structure TwoB (A : Leaf) (xs ys : List UInt8) (out : List UInt8) (used k b : Int) : Prop where
  s2 : A.slb 0 used (A.len xs)
  l2 : (A.sub xs 0 used).length ≤ 100000000000
  sm : A.small (A.len (A.app (A.sub xs 0 used) ys)) 1
  p2 : InfP (A.app (A.sub xs 0 used) ys) 1048576
  e2 : inflR (A.app (A.sub xs 0 used) ys) 1048576 = .ok (out, used, k, b)
  s3 : A.slb used (A.len (A.app (A.sub xs 0 used) ys)) (A.len (A.app (A.sub xs 0 used) ys))
  e3 : A.sub (A.app (A.sub xs 0 used) ys) used (A.len (A.app (A.sub xs 0 used) ys)) = ys
  ol : out.length ≤ 100000000000
theorem twoB {A : Leaf} {xs ys : List UInt8} {out : List UInt8} {used k b : Int} (hA : A = .std) (hl : xs.length ≤ 2000) (hm : ys.length ≤ 2000) (h : InfOK xs 1048576 out used k b) : TwoB A xs ys out used k b := by
  obtain ⟨p, hs, hu, hb1, hb2⟩ := h.bd
  have h3 := hs.s.rd.hi
  have h4 := hs.l.ot
  have h5 := hs.s.rd.rd.lo
  have e2 := sub_std (h := used) hA (by omega) (by omega : used ≤ xs.length)
  have e3 : A.app (xs.take used.toNat) ys = xs.take used.toNat ++ ys := by subst hA; rfl
  have hlen : (xs.take used.toNat).length = used.toNat := by rw [List.length_take]; omega
  refine ⟨by subst hA; show (0 : Int) ≤ 0 ∧ 0 ≤ used ∧ used ≤ xs.length; omega, ?_, ?_, ?_, ?_, ?_, ?_, by omega⟩
  · rw [e2, hlen]; omega
  · rw [e2, e3]
    subst hA
    show (0 : Int) ≤ ((xs.take used.toNat ++ ys).length : Nat) ∧ (((xs.take used.toNat ++ ys).length : Nat) : Int) ≤ 140737488355328 ∧ (((xs.take used.toNat ++ ys).length : Nat) : Int) * (1 : Nat) ≤ 140737488355328
    rw [List.length_append, hlen]
    omega
  · rw [e2, e3]; exact ⟨by rw [List.length_append, hlen]; omega, by omega⟩
  · rw [e2, e3]
    refine (infl_loc (xs := xs) (xs' := xs.take used.toNat ++ ys) (k := used.toNat) ⟨by omega, by rw [List.length_append, hlen]; omega, ?_⟩ h.e).1 (by omega)
    rw [List.take_append_of_le_length (by rw [hlen]; omega), List.take_take, Nat.min_self]
  · rw [e2, e3]
    subst hA
    show (0 : Int) ≤ used ∧ used ≤ ((xs.take used.toNat ++ ys).length : Nat) ∧ (((xs.take used.toNat ++ ys).length : Nat) : Int) ≤ ((xs.take used.toNat ++ ys).length : Nat)
    rw [List.length_append, hlen]
    omega
  · rw [e2, e3]
    subst hA
    show ((xs.take used.toNat ++ ys).drop used.toNat).take ((((xs.take used.toNat ++ ys).length : Nat) : Int) - used).toNat = ys
    rw [List.length_append, hlen]
    have : (xs.take used.toNat ++ ys).drop used.toNat = ys := by
      have := List.drop_left (l₁ := xs.take used.toNat) (l₂ := ys)
      rwa [hlen] at this
    rw [this]
    exact List.take_of_length_le (by omega)
theorem TwoB.p3 {A : Leaf} {xs ys : List UInt8} {out : List UInt8} {used k b : Int} (h : TwoB A xs ys out used k b) (hm : ys.length ≤ 2000) : InfP (A.sub (A.app (A.sub xs 0 used) ys) used (A.len (A.app (A.sub xs 0 used) ys))) 1048576 := by
  rw [h.e3]; exact ⟨by omega, by omega⟩
theorem TwoB.e4 {A : Leaf} {xs ys : List UInt8} {out : List UInt8} {used k b : Int} (h : TwoB A xs ys out used k b) (r : Er (List UInt8 × Int × Int × Int)) (hr : inflR ys 1048576 = r) :
    inflR (A.sub (A.app (A.sub xs 0 used) ys) used (A.len (A.app (A.sub xs 0 used) ys))) 1048576 = r := by
  rw [h.e3]; exact hr
theorem two_ok (xs ys : List UInt8) : FOK Try.prog C1 13 (fun _ => false) [.ro (.bytes xs), .ro (.bytes ys)] [] Yes := by
  refine fok_of (B := ⟨lookT tis, fun _ => false, []⟩) (tab1 _) (zero1 _) cod1 mix1 Try.func13 (by kernel_rfl) rfl rfl rfl fun X F => ?_
  obtain ⟨A, hA⟩ : ∃ A, A = Leaf.std := ⟨_, rfl⟩
  refine F.hold hA 2000 ?_
  cbv
  repeat' (first
    | refine OK.drawn (by decide +kernel) ?_
    | refine OK.tree ⟨lookT tis, fun _ => true, []⟩ (by decide +kernel) ?_
    | refine OK.both ?_ ?_
    | refine OK.need (by first | assumption | (rw [hA]; first | (show (_ : Int) ≠ _; decide) | (show (0 : Int) ≤ _; decide) | (show (0 : Int) ≤ _ ∧ _ < (256 : Int); decide))) ?_
    | refine OK.need ?_ ?_
    | (refine OK.branch ?_ ?_ <;> intro h)
    | (refine F.hold hA 2000 ?_; cbv))
  refine F.call [] (alive6_ok) rfl rfl rfl fun rs H' hq => ?_
  obtain ⟨b, rfl, rfl, rfl⟩ := hq
  refine ⟨rfl, ?_⟩
  repeat' (first
    | contradiction
    | exact (bnot_t hA (by assumption)).elim
    | refine OK.drawn (by decide +kernel) ?_
    | refine OK.tree ⟨lookT tis, fun _ => true, []⟩ (by decide +kernel) ?_
    | refine OK.both ?_ ?_
    | refine OK.need (by first | assumption | (rw [hA]; first | (show (_ : Int) ≠ _; decide) | (show (0 : Int) ≤ _; decide) | (show (0 : Int) ≤ _ ∧ _ < (256 : Int); decide))) ?_
    | refine OK.need ?_ ?_
    | (refine OK.branch ?_ ?_ <;> intro h)
    | (refine F.hold hA 2000 ?_; cbv))
  · exact F.ret0 ⟨_, rfl, rfl⟩
  · exact F.ret0 ⟨_, rfl, rfl⟩
  have hl := len_gtr (n := 2000) (xs := xs) hA (by assumption)
  have hm := len_gtr (n := 2000) (xs := ys) hA (by assumption)
  refine F.call [] (inflate_ok xs 1048576 ⟨by omega, by omega⟩) rfl rfl rfl fun rs H' hq => ?_
  rcases hq with ⟨out, used, k, b, hok, rfl, rfl⟩ | ⟨e, he, rfl, rfl⟩
  case inr =>
    have hne := infl_n0 (xs := xs) (lim := 1048576) (by omega)
    refine ⟨rfl, ?_⟩
    repeat (first
      | refine OK.drawn (by decide +kernel) ?_
      | refine OK.tree ⟨lookT tis, fun _ => true, []⟩ (by decide +kernel) ?_
      | refine OK.need (by first | assumption | (rw [hA]; first | (show (_ : Int) ≠ _; decide) | (show (0 : Int) ≤ _; decide) | (show (0 : Int) ≤ _ ∧ _ < (256 : Int); decide))) ?_
      | (refine F.hold hA 2000 ?_; cbv))
    refine F.call [] (inflate_ok ys 1048576 ⟨by omega, by omega⟩) rfl rfl rfl fun rs H' hq => ?_
    rcases hq with ⟨out2, used2, k2, b2, hok2, rfl, rfl⟩ | ⟨e2, he2, rfl, rfl⟩
    · refine ⟨rfl, ?_⟩
      repeat (first
        | refine OK.drawn (by decide +kernel) ?_
        | refine OK.tree ⟨lookT tis, fun _ => true, []⟩ (by decide +kernel) ?_
        | refine OK.need (by first | assumption | (rw [hA]; first | (show (_ : Int) ≠ _; decide) | (show (0 : Int) ≤ _; decide) | (show (0 : Int) ≤ _ ∧ _ < (256 : Int); decide))) ?_
        | (refine F.hold hA 2000 ?_; cbv))
      refine OK.branch (fun b1 => ?_) (fun b1 => (hne (neq_zero hA b1 ▸ he)).elim)
      repeat (first
        | refine OK.drawn (by decide +kernel) ?_
        | refine OK.tree ⟨lookT tis, fun _ => true, []⟩ (by decide +kernel) ?_
        | refine OK.need (by first | assumption | (rw [hA]; first | (show (_ : Int) ≠ _; decide) | (show (0 : Int) ≤ _; decide) | (show (0 : Int) ≤ _ ∧ _ < (256 : Int); decide))) ?_
        | (refine F.hold hA 2000 ?_; cbv))
      exact F.ret0 ⟨_, rfl, rfl⟩
    · refine ⟨rfl, ?_⟩
      repeat (first
        | refine OK.drawn (by decide +kernel) ?_
        | refine OK.tree ⟨lookT tis, fun _ => true, []⟩ (by decide +kernel) ?_
        | refine OK.need (by first | assumption | (rw [hA]; first | (show (_ : Int) ≠ _; decide) | (show (0 : Int) ≤ _; decide) | (show (0 : Int) ≤ _ ∧ _ < (256 : Int); decide))) ?_
        | (refine F.hold hA 2000 ?_; cbv))
      refine OK.branch (fun b1 => ?_) (fun b1 => (hne (neq_zero hA b1 ▸ he)).elim)
      repeat (first
        | refine OK.drawn (by decide +kernel) ?_
        | refine OK.tree ⟨lookT tis, fun _ => true, []⟩ (by decide +kernel) ?_
        | refine OK.need (by first | assumption | (rw [hA]; first | (show (_ : Int) ≠ _; decide) | (show (0 : Int) ≤ _; decide) | (show (0 : Int) ≤ _ ∧ _ < (256 : Int); decide))) ?_
        | (refine F.hold hA 2000 ?_; cbv))
      exact F.ret0 ⟨_, rfl, rfl⟩
  refine ⟨rfl, ?_⟩
  repeat (first
    | refine OK.drawn (by decide +kernel) ?_
    | refine OK.tree ⟨lookT tis, fun _ => true, []⟩ (by decide +kernel) ?_
    | refine OK.need (by first | assumption | (rw [hA]; first | (show (_ : Int) ≠ _; decide) | (show (0 : Int) ≤ _; decide) | (show (0 : Int) ≤ _ ∧ _ < (256 : Int); decide))) ?_
    | (refine F.hold hA 2000 ?_; cbv))
  refine F.call [] (inflate_ok ys 1048576 ⟨by omega, by omega⟩) rfl rfl rfl fun rs H' hq => ?_
  rcases hq with ⟨out2, used2, k2, b2, hok2, rfl, rfl⟩ | ⟨e2, he2, rfl, rfl⟩
  case inr =>
    have hne := infl_n0 (xs := ys) (lim := 1048576) (by omega)
    refine ⟨rfl, ?_⟩
    repeat (first
      | refine OK.drawn (by decide +kernel) ?_
      | refine OK.tree ⟨lookT tis, fun _ => true, []⟩ (by decide +kernel) ?_
      | refine OK.need (by first | assumption | (rw [hA]; first | (show (_ : Int) ≠ _; decide) | (show (0 : Int) ≤ _; decide) | (show (0 : Int) ≤ _ ∧ _ < (256 : Int); decide))) ?_
      | (refine F.hold hA 2000 ?_; cbv))
    refine OK.branch (fun b1 => (neq_self hA b1).elim) (fun b1 => ?_)
    repeat (first
      | refine OK.drawn (by decide +kernel) ?_
      | refine OK.tree ⟨lookT tis, fun _ => true, []⟩ (by decide +kernel) ?_
      | refine OK.need (by first | assumption | (rw [hA]; first | (show (_ : Int) ≠ _; decide) | (show (0 : Int) ≤ _; decide) | (show (0 : Int) ≤ _ ∧ _ < (256 : Int); decide))) ?_
      | (refine F.hold hA 2000 ?_; cbv))
    refine OK.branch (fun b1 => ?_) (fun b1 => (hne (neq_zero hA b1 ▸ he2)).elim)
    repeat (first
      | refine OK.drawn (by decide +kernel) ?_
      | refine OK.tree ⟨lookT tis, fun _ => true, []⟩ (by decide +kernel) ?_
      | refine OK.need (by first | assumption | (rw [hA]; first | (show (_ : Int) ≠ _; decide) | (show (0 : Int) ≤ _; decide) | (show (0 : Int) ≤ _ ∧ _ < (256 : Int); decide))) ?_
      | (refine F.hold hA 2000 ?_; cbv))
    exact F.ret0 ⟨_, rfl, rfl⟩
  have hB := twoB hA hl hm hok
  have hB2 := twoB hA hm hl hok2
  refine ⟨rfl, ?_⟩
  repeat' (first
    | contradiction
    | exact (neq_self hA (by assumption)).elim
    | refine OK.drawn (by decide +kernel) ?_
    | refine OK.tree ⟨lookT tis, fun _ => true, []⟩ (by decide +kernel) ?_
    | refine OK.both ?_ ?_
    | refine OK.need (by first | assumption | (rw [hA]; first | (show (_ : Int) ≠ _; decide) | (show (0 : Int) ≤ _; decide) | (show (0 : Int) ≤ _ ∧ _ < (256 : Int); decide))) ?_
    | refine OK.need ?_ ?_
    | (refine OK.branch ?_ ?_ <;> intro h)
    | (refine F.hold hA 2000 ?_; cbv))
  · exact hB.s2
  refine F.call [] (copy_ro _ hB.l2) rfl rfl rfl fun rs H' hq => ?_
  obtain ⟨rfl, rfl⟩ := hq
  refine ⟨rfl, ?_⟩
  repeat' (first
    | refine OK.drawn (by decide +kernel) ?_
    | refine OK.tree ⟨lookT tis, fun _ => true, []⟩ (by decide +kernel) ?_
    | refine OK.both ?_ ?_
    | refine OK.need (by first | assumption | (rw [hA]; first | (show (_ : Int) ≠ _; decide) | (show (0 : Int) ≤ _; decide) | (show (0 : Int) ≤ _ ∧ _ < (256 : Int); decide))) ?_
    | refine OK.need ?_ ?_
    | (refine OK.branch ?_ ?_ <;> intro h)
    | (refine F.hold hA 2000 ?_; cbv))
  · exact hB.sm
  refine F.callFrz 14 rfl rfl rfl rfl ?_
  refine F.call [] (inflate_ok _ _ hB.p2) rfl rfl rfl fun rs H' hq => ?_
  obtain ⟨rfl, rfl⟩ := hq.isOk hB.e2
  refine ⟨rfl, ?_⟩
  clear hq
  repeat' (first
    | contradiction
    | exact (neq_self hA (by assumption)).elim
    | refine OK.drawn (by decide +kernel) ?_
    | refine OK.tree ⟨lookT tis, fun _ => true, []⟩ (by decide +kernel) ?_
    | refine OK.both ?_ ?_
    | refine OK.need (by first | assumption | (rw [hA]; first | (show (_ : Int) ≠ _; decide) | (show (0 : Int) ≤ _; decide) | (show (0 : Int) ≤ _ ∧ _ < (256 : Int); decide))) ?_
    | refine OK.need ?_ ?_
    | (refine OK.branch ?_ ?_ <;> intro h)
    | (refine F.hold hA 2000 ?_; cbv))
  refine F.callFrz 5 rfl rfl rfl rfl ?_
  refine F.callFrz 20 rfl rfl rfl rfl ?_
  refine F.call [] (same_ok out out hB.ol) rfl rfl rfl fun rs H' hq => ?_
  obtain ⟨r, rfl, rfl, hr⟩ := hq
  obtain rfl : r = true := hr.2 rfl
  refine ⟨rfl, ?_⟩
  clear hr
  repeat' (first
    | contradiction
    | exact (neq_self hA (by assumption)).elim
    | exact (bnot_t hA (by assumption)).elim
    | refine OK.drawn (by decide +kernel) ?_
    | refine OK.tree ⟨lookT tis, fun _ => true, []⟩ (by decide +kernel) ?_
    | refine OK.both ?_ ?_
    | refine OK.need (by first | assumption | (rw [hA]; first | (show (_ : Int) ≠ _; decide) | (show (0 : Int) ≤ _; decide) | (show (0 : Int) ≤ _ ∧ _ < (256 : Int); decide))) ?_
    | refine OK.need ?_ ?_
    | (refine OK.branch ?_ ?_ <;> intro h)
    | (refine F.hold hA 2000 ?_; cbv))
  · exact hB.s3
  refine F.call [] (inflate_ok _ 1048576 (hB.p3 hm)) rfl rfl rfl fun rs H' hq => ?_
  obtain ⟨rfl, rfl⟩ := hq.isOk (hB.e4 _ hok2.e)
  refine ⟨rfl, ?_⟩
  clear hq
  repeat' (first
    | contradiction
    | exact (eql_self hA (by assumption)).elim
    | refine OK.drawn (by decide +kernel) ?_
    | refine OK.tree ⟨lookT tis, fun _ => true, []⟩ (by decide +kernel) ?_
    | refine OK.both ?_ ?_
    | refine OK.need (by first | assumption | (rw [hA]; first | (show (_ : Int) ≠ _; decide) | (show (0 : Int) ≤ _; decide) | (show (0 : Int) ≤ _ ∧ _ < (256 : Int); decide))) ?_
    | refine OK.need ?_ ?_
    | (refine OK.branch ?_ ?_ <;> intro h)
    | (refine F.hold hA 2000 ?_; cbv))
  refine F.callFrz 12 rfl rfl rfl rfl ?_
  refine F.callFrz 27 rfl rfl rfl rfl ?_
  refine F.call [] (same_ok out2 out2 hB2.ol) rfl rfl rfl fun rs H' hq => ?_
  obtain ⟨r, rfl, rfl, hr⟩ := hq
  obtain rfl : r = true := hr.2 rfl
  refine ⟨rfl, ?_⟩
  clear hr
  repeat' (first
    | contradiction
    | exact (eql_self hA (by assumption)).elim
    | refine OK.drawn (by decide +kernel) ?_
    | refine OK.tree ⟨lookT tis, fun _ => true, []⟩ (by decide +kernel) ?_
    | refine OK.both ?_ ?_
    | refine OK.need (by first | assumption | (rw [hA]; first | (show (_ : Int) ≠ _; decide) | (show (0 : Int) ≤ _; decide) | (show (0 : Int) ≤ _ ∧ _ < (256 : Int); decide))) ?_
    | refine OK.need ?_ ?_
    | (refine OK.branch ?_ ?_ <;> intro h)
    | (refine F.hold hA 2000 ?_; cbv))
  exact F.ret0 ⟨_, rfl, by subst hA; simp [ebool, Leaf.std]⟩
end Go.L1
