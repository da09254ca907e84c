/- Own work of the session: part LK of a proof that the program's functions do what the statement says (a symbolic executor, contracts of the functions, plain laws). -/
import Derived.Test.YtmgmbcniamkfeaaLH
import Derived.Test.YtmgmbcniamkfeaaLJ
import Derived.Test.YtmgmbcniamkfeaaLF
set_option linter.all false
-- D21
namespace Go.L1
open Go Go.Sx Go.Proofs Go.Huff
set_option maxRecDepth 20000
set_option linter.unusedVariables false
set_option linter.unusedSimpArgs false
structure RlnA (A : Leaf) (s : Int) : Prop where
  q : A.nn (A.conv .u64 (A.ar .quo .i64 (A.ar .sub .i64 s 261) 4))
  r : LngIs s (A.ar .add .i64 3 (A.ar .shl .i64 (A.ar .add .i64 4 (A.ar .rem .i64 (A.ar .sub .i64 s 261) 4)) (A.conv .u64 (A.ar .quo .i64 (A.ar .sub .i64 s 261) 4)))) (A.ar .quo .i64 (A.ar .sub .i64 s 261) 4) true
theorem rlnA {A : Leaf} {s : Int} (hA : A = .std) (h1 : A.cmp .gtr s 285 = false) (h2 : A.cmp .eql s 285 = false) (h3 : A.cmp .lss s 265 = false) : RlnA A s := by
  subst hA
  have h1 : ¬ (285 : Int) < s := of_decide_eq_false h1
  have h2 : (s == 285) = false := h2
  have h2 : s ≠ 285 := by simpa using h2
  have h3 : ¬ s < 265 := of_decide_eq_false h3
  have e1 : Leaf.std.ar .sub .i64 s 261 = s - 261 := sub_i64 (by omega) (by omega)
  have e2 : Leaf.std.ar .quo .i64 (s - 261) 4 = (s - 257) / 4 - 1 := by
    show LAr .quo .i64 _ 4 = _
    rw [l_quo_i64 (by omega) (by omega) (by omega)]
    omega
  have e3 : Leaf.std.ar .rem .i64 (s - 261) 4 = (s - 257) % 4 := by
    show LAr .rem .i64 _ 4 = _
    rw [l_rem (by omega)]
    omega
  have e4 : Leaf.std.conv .u64 ((s - 257) / 4 - 1) = (s - 257) / 4 - 1 := by
    exact conv_u64 (by omega) (by omega)
  have e5 : Leaf.std.ar .add .i64 4 ((s - 257) % 4) = 4 + (s - 257) % 4 := add_i64 (by omega) (by omega)
  obtain ⟨e6, h6, h7⟩ := shl_small (a := 4 + (s - 257) % 4) (b := (s - 257) / 4 - 1) (by omega) (by omega) (by omega) (by omega)
  have hp : (2 : Nat) ^ ((s - 257) / 4 - 1).toNat ≤ 2 ^ 5 := Nat.pow_le_pow_right (by decide) (by omega)
  have e : (2 : Int) ^ ((s - 257) / 4 - 1).toNat = ((2 ^ ((s - 257) / 4 - 1).toNat : Nat) : Int) := by simp
  have h8 : (4 + (s - 257) % 4) * 2 ^ ((s - 257) / 4 - 1).toNat ≤ 7 * 32 := by
    rw [e]
    exact Int.mul_le_mul (by omega) (by omega) (Int.natCast_nonneg _) (by omega)
  have e7 : Leaf.std.ar .add .i64 3 ((4 + (s - 257) % 4) * 2 ^ ((s - 257) / 4 - 1).toNat) = 3 + (4 + (s - 257) % 4) * 2 ^ ((s - 257) / 4 - 1).toNat := add_i64 (by omega) (by omega)
  refine ⟨?_, ?_⟩
  · rw [e1, e2, e4]; show (0 : Int) ≤ _; omega
  · rw [e1, e2, e3, e4, e5, e6, e7]
    refine .inl ⟨rfl, by omega, by omega, by omega, by omega, ?_⟩
    unfold lenR
    rw [if_neg (by omega), if_neg (by omega), if_neg (by omega)]
structure RdsA (A : Leaf) (s : Int) : Prop where
  q : A.nn (A.conv .u64 (A.ar .sub .i64 (A.ar .quo .i64 s 2) 1))
  r : DstIs s (A.ar .add .i64 1 (A.ar .shl .i64 (A.ar .add .i64 2 (A.ar .rem .i64 s 2)) (A.conv .u64 (A.ar .sub .i64 (A.ar .quo .i64 s 2) 1)))) (A.ar .sub .i64 (A.ar .quo .i64 s 2) 1) true
theorem rdsA {A : Leaf} {s : Int} (hA : A = .std) (h1 : A.cmp .gtr s 29 = false) (h3 : A.cmp .lss s 4 = false) : RdsA A s := by
  subst hA
  have h1 : ¬ (29 : Int) < s := of_decide_eq_false h1
  have h3 : ¬ s < 4 := of_decide_eq_false h3
  have e2 : Leaf.std.ar .quo .i64 s 2 = s / 2 := by
    show LAr .quo .i64 _ 2 = _
    rw [l_quo_i64 (by omega) (by omega) (by omega)]
  have e3 : Leaf.std.ar .rem .i64 s 2 = s % 2 := by
    show LAr .rem .i64 _ 2 = _
    rw [l_rem (by omega)]
  have e4 : Leaf.std.ar .sub .i64 (s / 2) 1 = s / 2 - 1 := sub_i64 (by omega) (by omega)
  have e5 : Leaf.std.ar .add .i64 2 (s % 2) = 2 + s % 2 := add_i64 (by omega) (by omega)
  have e8 : Leaf.std.conv .u64 (s / 2 - 1) = s / 2 - 1 := by
    exact conv_u64 (by omega) (by omega)
  obtain ⟨e6, h6, h7⟩ := shl_small (a := 2 + s % 2) (b := s / 2 - 1) (by omega) (by omega) (by omega) (by omega)
  have hp : (2 : Nat) ^ (s / 2 - 1).toNat ≤ 2 ^ 13 := Nat.pow_le_pow_right (by decide) (by omega)
  have e : (2 : Int) ^ (s / 2 - 1).toNat = ((2 ^ (s / 2 - 1).toNat : Nat) : Int) := by simp
  have h8 : (2 + s % 2) * 2 ^ (s / 2 - 1).toNat ≤ 3 * 8192 := by
    rw [e]
    exact Int.mul_le_mul (by omega) (by omega) (Int.natCast_nonneg _) (by omega)
  have e7 : Leaf.std.ar .add .i64 1 ((2 + s % 2) * 2 ^ (s / 2 - 1).toNat) = 1 + (2 + s % 2) * 2 ^ (s / 2 - 1).toNat := add_i64 (by omega) (by omega)
  refine ⟨?_, ?_⟩
  · rw [e2, e4, e8]; show (0 : Int) ≤ _; omega
  · rw [e2, e3, e4, e8, e5, e6, e7]
    refine .inl ⟨rfl, by omega, by omega, by omega, by omega, ?_⟩
    unfold distR
    rw [if_neg (by omega), if_neg (by omega)]
theorem reflength_ok (s : Int) : FOK Try.prog C1 41 (fun _ => true) [.int .i64 s] []
    (fun rs H => ∃ base extra ok, rs = [.int .i64 base, .int .i64 extra, .bool (.e ok)] ∧ H = [] ∧ LngIs s base extra ok) := by
  refine fok_of (B := ⟨lookT tis, fun _ => true, []⟩) (tab1 _) (zero1 _) cod1 mix1 Try.func41 (by kernel_rfl) rfl rfl rfl fun X F => ?_
  obtain ⟨A, hA⟩ : ∃ A, A = Leaf.std := ⟨_, rfl⟩
  refine F.hold hA 2000 ?_
  cbv
  repeat (first
    | refine OK.drawn (by decide +kernel) ?_
    | refine OK.tree ⟨lookT tis, fun _ => true, []⟩ (by decide +kernel) ?_
    | refine OK.need (by first | assumption | (rw [hA]; first | (show (_ : Int) ≠ _; decide) | (show (0 : Int) ≤ _; decide) | (show (0 : Int) ≤ _ ∧ _ < (256 : Int); decide))) ?_
    | (refine F.hold hA 2000 ?_; cbv))
  refine OK.branch (fun h1 => ?_) (fun h1 => ?_)
  · repeat (first
      | refine OK.drawn (by decide +kernel) ?_
      | refine OK.tree ⟨lookT tis, fun _ => true, []⟩ (by decide +kernel) ?_
      | refine OK.need (by first | assumption | (rw [hA]; first | (show (_ : Int) ≠ _; decide) | (show (0 : Int) ≤ _; decide) | (show (0 : Int) ≤ _ ∧ _ < (256 : Int); decide))) ?_
      | (refine F.hold hA 2000 ?_; cbv))
    refine F.retE rfl ⟨_, _, _, rfl, rfl, .inr ⟨rfl, rfl, rfl, ?_⟩⟩
    subst hA
    have h1 : s < 257 := of_decide_eq_true h1
    unfold lenR; rw [if_pos (by omega)]
  repeat (first
    | refine OK.drawn (by decide +kernel) ?_
    | refine OK.tree ⟨lookT tis, fun _ => true, []⟩ (by decide +kernel) ?_
    | refine OK.need (by first | assumption | (rw [hA]; first | (show (_ : Int) ≠ _; decide) | (show (0 : Int) ≤ _; decide) | (show (0 : Int) ≤ _ ∧ _ < (256 : Int); decide))) ?_
    | (refine F.hold hA 2000 ?_; cbv))
  refine OK.branch (fun h2 => ?_) (fun h2 => ?_)
  · repeat (first
      | refine OK.drawn (by decide +kernel) ?_
      | refine OK.tree ⟨lookT tis, fun _ => true, []⟩ (by decide +kernel) ?_
      | refine OK.need (by first | assumption | (rw [hA]; first | (show (_ : Int) ≠ _; decide) | (show (0 : Int) ≤ _; decide) | (show (0 : Int) ≤ _ ∧ _ < (256 : Int); decide))) ?_
      | (refine F.hold hA 2000 ?_; cbv))
    refine F.retE rfl ⟨_, _, _, rfl, rfl, .inr ⟨rfl, rfl, rfl, ?_⟩⟩
    subst hA
    have h2 : (285 : Int) < s := of_decide_eq_true h2
    unfold lenR; rw [if_pos (by omega)]
  repeat (first
    | refine OK.drawn (by decide +kernel) ?_
    | refine OK.tree ⟨lookT tis, fun _ => true, []⟩ (by decide +kernel) ?_
    | refine OK.need (by first | assumption | (rw [hA]; first | (show (_ : Int) ≠ _; decide) | (show (0 : Int) ≤ _; decide) | (show (0 : Int) ≤ _ ∧ _ < (256 : Int); decide))) ?_
    | (refine F.hold hA 2000 ?_; cbv))
  refine OK.branch (fun h4 => ?_) (fun h4 => ?_)
  · repeat (first
      | refine OK.drawn (by decide +kernel) ?_
      | refine OK.tree ⟨lookT tis, fun _ => true, []⟩ (by decide +kernel) ?_
      | refine OK.need (by first | assumption | (rw [hA]; first | (show (_ : Int) ≠ _; decide) | (show (0 : Int) ≤ _; decide) | (show (0 : Int) ≤ _ ∧ _ < (256 : Int); decide))) ?_
      | (refine F.hold hA 2000 ?_; cbv))
    refine F.retE rfl ⟨_, _, _, rfl, rfl, ?_⟩
    subst hA
    have h1 : ¬ s < 257 := of_decide_eq_false h1
    have h4 : s < 265 := of_decide_eq_true h4
    have e3 : Leaf.std.ar .sub .i64 s 254 = s - 254 := sub_i64 (by omega) (by omega)
    refine (congrArg (fun x => LngIs s x 0 true) e3).mpr (.inl ⟨rfl, by decide, by decide, by omega, by omega, ?_⟩)
    unfold lenR
    rw [if_neg (by omega), if_neg (by omega), if_pos (by omega)]
    rfl
  repeat (first
    | refine OK.drawn (by decide +kernel) ?_
    | refine OK.tree ⟨lookT tis, fun _ => true, []⟩ (by decide +kernel) ?_
    | refine OK.need (by first | assumption | (rw [hA]; first | (show (_ : Int) ≠ _; decide) | (show (0 : Int) ≤ _; decide) | (show (0 : Int) ≤ _ ∧ _ < (256 : Int); decide))) ?_
    | (refine F.hold hA 2000 ?_; cbv))
  refine OK.branch (fun h3 => ?_) (fun h3 => ?_)
  · repeat (first
      | refine OK.drawn (by decide +kernel) ?_
      | refine OK.tree ⟨lookT tis, fun _ => true, []⟩ (by decide +kernel) ?_
      | refine OK.need (by first | assumption | (rw [hA]; first | (show (_ : Int) ≠ _; decide) | (show (0 : Int) ≤ _; decide) | (show (0 : Int) ≤ _ ∧ _ < (256 : Int); decide))) ?_
      | (refine F.hold hA 2000 ?_; cbv))
    refine F.retE rfl ⟨_, _, _, rfl, rfl, .inl ⟨rfl, by decide, by decide, by decide, by decide, ?_⟩⟩
    subst hA
    have h3 : (s == 285) = true := h3
    have h3 : s = 285 := by simpa using h3
    subst h3; rfl
  have hq := rlnA hA h2 h3 h4
  have q := hq.q
  repeat (first
    | refine OK.drawn (by decide +kernel) ?_
    | refine OK.tree ⟨lookT tis, fun _ => true, []⟩ (by decide +kernel) ?_
    | refine OK.need (by first | assumption | (rw [hA]; first | (show (_ : Int) ≠ _; decide) | (show (0 : Int) ≤ _; decide) | (show (0 : Int) ≤ _ ∧ _ < (256 : Int); decide))) ?_
    | (refine F.hold hA 2000 ?_; cbv))
  exact F.retE rfl ⟨_, _, _, rfl, rfl, hq.r⟩
theorem refdistance_ok (s : Int) : FOK Try.prog C1 43 (fun _ => true) [.int .i64 s] []
    (fun rs H => ∃ base extra ok, rs = [.int .i64 base, .int .i64 extra, .bool (.e ok)] ∧ H = [] ∧ DstIs s base extra ok) := by
  refine fok_of (B := ⟨lookT tis, fun _ => true, []⟩) (tab1 _) (zero1 _) cod1 mix1 Try.func43 (by kernel_rfl) rfl rfl rfl fun X F => ?_
  obtain ⟨A, hA⟩ : ∃ A, A = Leaf.std := ⟨_, rfl⟩
  refine F.hold hA 2000 ?_
  cbv
  repeat (first
    | refine OK.drawn (by decide +kernel) ?_
    | refine OK.tree ⟨lookT tis, fun _ => true, []⟩ (by decide +kernel) ?_
    | refine OK.need (by first | assumption | (rw [hA]; first | (show (_ : Int) ≠ _; decide) | (show (0 : Int) ≤ _; decide) | (show (0 : Int) ≤ _ ∧ _ < (256 : Int); decide))) ?_
    | (refine F.hold hA 2000 ?_; cbv))
  refine OK.branch (fun h1 => ?_) (fun h1 => ?_)
  · repeat (first
      | refine OK.drawn (by decide +kernel) ?_
      | refine OK.tree ⟨lookT tis, fun _ => true, []⟩ (by decide +kernel) ?_
      | refine OK.need (by first | assumption | (rw [hA]; first | (show (_ : Int) ≠ _; decide) | (show (0 : Int) ≤ _; decide) | (show (0 : Int) ≤ _ ∧ _ < (256 : Int); decide))) ?_
      | (refine F.hold hA 2000 ?_; cbv))
    refine F.retE rfl ⟨_, _, _, rfl, rfl, .inr ⟨rfl, rfl, rfl, ?_⟩⟩
    subst hA
    have h1 : s < 0 := of_decide_eq_true h1
    unfold distR; rw [if_pos (by omega)]
  repeat (first
    | refine OK.drawn (by decide +kernel) ?_
    | refine OK.tree ⟨lookT tis, fun _ => true, []⟩ (by decide +kernel) ?_
    | refine OK.need (by first | assumption | (rw [hA]; first | (show (_ : Int) ≠ _; decide) | (show (0 : Int) ≤ _; decide) | (show (0 : Int) ≤ _ ∧ _ < (256 : Int); decide))) ?_
    | (refine F.hold hA 2000 ?_; cbv))
  refine OK.branch (fun h2 => ?_) (fun h2 => ?_)
  · repeat (first
      | refine OK.drawn (by decide +kernel) ?_
      | refine OK.tree ⟨lookT tis, fun _ => true, []⟩ (by decide +kernel) ?_
      | refine OK.need (by first | assumption | (rw [hA]; first | (show (_ : Int) ≠ _; decide) | (show (0 : Int) ≤ _; decide) | (show (0 : Int) ≤ _ ∧ _ < (256 : Int); decide))) ?_
      | (refine F.hold hA 2000 ?_; cbv))
    refine F.retE rfl ⟨_, _, _, rfl, rfl, .inr ⟨rfl, rfl, rfl, ?_⟩⟩
    subst hA
    have h2 : (29 : Int) < s := of_decide_eq_true h2
    unfold distR; rw [if_pos (by omega)]
  repeat (first
    | refine OK.drawn (by decide +kernel) ?_
    | refine OK.tree ⟨lookT tis, fun _ => true, []⟩ (by decide +kernel) ?_
    | refine OK.need (by first | assumption | (rw [hA]; first | (show (_ : Int) ≠ _; decide) | (show (0 : Int) ≤ _; decide) | (show (0 : Int) ≤ _ ∧ _ < (256 : Int); decide))) ?_
    | (refine F.hold hA 2000 ?_; cbv))
  refine OK.branch (fun h4 => ?_) (fun h4 => ?_)
  · repeat (first
      | refine OK.drawn (by decide +kernel) ?_
      | refine OK.tree ⟨lookT tis, fun _ => true, []⟩ (by decide +kernel) ?_
      | refine OK.need (by first | assumption | (rw [hA]; first | (show (_ : Int) ≠ _; decide) | (show (0 : Int) ≤ _; decide) | (show (0 : Int) ≤ _ ∧ _ < (256 : Int); decide))) ?_
      | (refine F.hold hA 2000 ?_; cbv))
    refine F.retE rfl ⟨_, _, _, rfl, rfl, ?_⟩
    subst hA
    have h1 : ¬ s < 0 := of_decide_eq_false h1
    have h4 : s < 4 := of_decide_eq_true h4
    have e3 : Leaf.std.ar .add .i64 s 1 = s + 1 := add_i64 (by omega) (by omega)
    refine (congrArg (fun x => DstIs s x 0 true) e3).mpr (.inl ⟨rfl, by decide, by decide, by omega, by omega, ?_⟩)
    unfold distR
    rw [if_neg (by omega), if_pos (by omega)]
    rfl
  have hq := rdsA hA h2 h4
  have q := hq.q
  repeat (first
    | refine OK.drawn (by decide +kernel) ?_
    | refine OK.tree ⟨lookT tis, fun _ => true, []⟩ (by decide +kernel) ?_
    | refine OK.need (by first | assumption | (rw [hA]; first | (show (_ : Int) ≠ _; decide) | (show (0 : Int) ≤ _; decide) | (show (0 : Int) ≤ _ ∧ _ < (256 : Int); decide))) ?_
    | (refine F.hold hA 2000 ?_; cbv))
  exact F.retE rfl ⟨_, _, _, rfl, rfl, hq.r⟩
def fixV (i : Int) : Int := if 144 ≤ i ∧ i < 256 then 9 else if 256 ≤ i ∧ i < 280 then 7 else 8
theorem fixV_ok : ∀ i : Nat, i < 288 → fixA[i]? = some (fixV i) := by
  have : ∀ i : Fin 288, fixA[i.1]? = some (fixV i.1) := by decide +kernel
  exact fun i hi => this ⟨i, hi⟩
def FxI (w : Int × List Int) : Prop := ∃ j : Nat, w.1 = j ∧ j ≤ 288 ∧ w.2 = fixA.take j
structure FxA (A : Leaf) (i : Int) (row : List Int) : Prop where
  sm : ∀ l : Int, A.small (A.len (A.app row [l])) 8
  nx : ∀ l : Int, l = fixV i → FxI (A.ar .add .i64 i 1, A.app row [l]) ∧ (288 - (A.ar .add .i64 i 1)).toNat < (288 - i).toNat
  lo : 0 ≤ i
theorem fxA {A : Leaf} {i : Int} {row : List Int} (hA : A = .std) (hI : FxI (i, row)) (h : A.cmp .lss i 288 = true) : FxA A i row := by
  subst hA
  obtain ⟨j, h1, h2, h3⟩ := hI
  simp only at h1 h3
  have hlt : i < 288 := of_decide_eq_true h
  subst h1 h3
  have hl : (fixA.take j).length = j := by rw [List.length_take]; have : fixA.length = 288 := by decide +kernel
                                           omega
  have e1 : Leaf.std.ar .add .i64 (j : Int) 1 = j + 1 := add_i64 (by omega) (by omega)
  refine ⟨fun l => ?_, fun l hl2 => ⟨⟨j + 1, by simp only [e1]; omega, by omega, ?_⟩, by rw [e1]; omega⟩, by omega⟩
  · show (0 : Int) ≤ ((fixA.take j ++ [l]).length : Nat) ∧ (((fixA.take j ++ [l]).length : Nat) : Int) ≤ 140737488355328 ∧ (((fixA.take j ++ [l]).length : Nat) : Int) * (8 : Nat) ≤ 140737488355328
    rw [List.length_append, hl]
    simp only [List.length_cons, List.length_nil]
    omega
  · show fixA.take j ++ [l] = _
    rw [List.take_succ, fixV_ok j (by omega), hl2]
    rfl
def FyI (w : Int × List Int) : Prop := ∃ j : Nat, w.1 = j ∧ j ≤ 32 ∧ w.2 = List.replicate j 5
structure FyA (A : Leaf) (i : Int) (row : List Int) : Prop where
  sm : A.small (A.len (A.app row [5])) 8
  nx : FyI (A.ar .add .i64 i 1, A.app row [5]) ∧ (32 - (A.ar .add .i64 i 1)).toNat < (32 - i).toNat
theorem fyA {A : Leaf} {i : Int} {row : List Int} (hA : A = .std) (hI : FyI (i, row)) (h : A.cmp .lss i 32 = true) : FyA A i row := by
  subst hA
  obtain ⟨j, h1, h2, h3⟩ := hI
  simp only at h1 h3
  have hlt : i < 32 := of_decide_eq_true h
  subst h1 h3
  have e1 : Leaf.std.ar .add .i64 (j : Int) 1 = j + 1 := add_i64 (by omega) (by omega)
  refine ⟨?_, ⟨⟨j + 1, by simp only [e1]; omega, by omega, ?_⟩, by rw [e1]; omega⟩⟩
  · show (0 : Int) ≤ ((List.replicate j (5 : Int) ++ [5]).length : Nat) ∧ (((List.replicate j (5 : Int) ++ [5]).length : Nat) : Int) ≤ 140737488355328 ∧ (((List.replicate j (5 : Int) ++ [5]).length : Nat) : Int) * (8 : Nat) ≤ 140737488355328
    rw [List.length_append, List.length_replicate]
    simp only [List.length_cons, List.length_nil]
    omega
  · show List.replicate j (5 : Int) ++ [5] = _
    rw [List.replicate_succ']
theorem fx_end {A : Leaf} {i j : Int} {a b : List Int} (hA : A = .std) (hI : FxI (i, a)) (h : A.cmp .lss i 288 = false) (hJ : FyI (j, b)) (h2 : A.cmp .lss j 32 = false) : FixIs a b := by
  subst hA
  have h : ¬ i < 288 := of_decide_eq_false h
  have h2 : ¬ j < 32 := of_decide_eq_false h2
  obtain ⟨n, h3, h4, h5⟩ := hI
  obtain ⟨m, h6, h7, h8⟩ := hJ
  simp only at h3 h5 h6 h8
  obtain rfl : n = 288 := by omega
  obtain rfl : m = 32 := by omega
  refine ⟨?_, h8⟩
  rw [h5]
  rfl
theorem fixV9 {A : Leaf} {i : Int} (hA : A = .std) (h1 : A.cmp .geq i 144 = true) (h2 : A.cmp .lss i 256 = true) : 9 = fixV i := by
  subst hA
  have h1 : i ≥ 144 := of_decide_eq_true h1
  have h2 : i < 256 := of_decide_eq_true h2
  unfold fixV
  rw [if_pos (by omega)]
theorem fixV7 {A : Leaf} {i : Int} (hA : A = .std) (h1 : A.cmp .geq i 256 = true) (h2 : A.cmp .lss i 280 = true) : 7 = fixV i := by
  subst hA
  have h1 : i ≥ 256 := of_decide_eq_true h1
  have h2 : i < 280 := of_decide_eq_true h2
  unfold fixV
  rw [if_neg (by omega), if_pos (by omega)]
theorem fixV8a {A : Leaf} {i : Int} (hA : A = .std) (h1 : A.cmp .geq i 144 = false) : 8 = fixV i := by
  subst hA
  have h1 : ¬ i ≥ 144 := of_decide_eq_false h1
  unfold fixV
  rw [if_neg (by omega), if_neg (by omega)]
theorem fixV8b {A : Leaf} {i : Int} (hA : A = .std) (h1 : A.cmp .geq i 256 = true) (h2 : A.cmp .lss i 280 = false) : 8 = fixV i := by
  subst hA
  have h1 : i ≥ 256 := of_decide_eq_true h1
  have h2 : ¬ i < 280 := of_decide_eq_false h2
  unfold fixV
  rw [if_neg (by omega), if_neg (by omega)]
theorem fxk1 {A : Leaf} {i : Int} (hA : A = .std) (h1 : A.cmp .lss i 256 = true) (h2 : A.cmp .geq i 256 = true) : False := by
  subst hA
  have h1 : i < 256 := of_decide_eq_true h1
  have h2 : i ≥ 256 := of_decide_eq_true h2
  omega
theorem fxk2 {A : Leaf} {i : Int} (hA : A = .std) (h1 : A.cmp .lss i 256 = false) (h2 : A.cmp .geq i 256 = false) : False := by
  subst hA
  have h1 : ¬ i < 256 := of_decide_eq_false h1
  have h2 : ¬ i ≥ 256 := of_decide_eq_false h2
  omega
theorem fxk3 {A : Leaf} {i : Int} (hA : A = .std) (h1 : A.cmp .geq i 144 = false) (h2 : A.cmp .geq i 256 = true) : False := by
  subst hA
  have h1 : ¬ i ≥ 144 := of_decide_eq_false h1
  have h2 : i ≥ 256 := of_decide_eq_true h2
  omega
theorem reffixed_ok : FOK Try.prog C1 45 (fun _ => false) [] [] (fun rs H => ∃ a b, rs = [.own 0, .own 1] ∧ H = [.row 3 (.ints .i64 a), .row 3 (.ints .i64 b)] ∧ FixIs a b) := by
  refine fok_of (B := ⟨lookT tis, fun _ => false, []⟩) (tab1 _) (zero1 _) cod1 mix1 Try.func45 (by kernel_rfl) rfl rfl rfl fun X F => ?_
  obtain ⟨A, hA⟩ : ∃ A, A = Leaf.std := ⟨_, rfl⟩
  refine F.hold hA 2000 ?_
  cbv
  repeat (first
    | refine OK.drawn (by decide +kernel) ?_
    | refine OK.tree ⟨lookT tis, fun _ => true, []⟩ (by decide +kernel) ?_
    | refine OK.need (by first | assumption | (rw [hA]; first | (show (_ : Int) ≠ _; decide) | (show (0 : Int) ≤ _; decide) | (show (0 : Int) ≤ _ ∧ _ < (256 : Int); decide))) ?_
    | (refine F.hold hA 2000 ?_; cbv))
  refine F.loop (V := Int × List Int) [3] (FxI) (fun w => (288 - w.1).toNat) (fun w => [(2, .own 0), (4, .int .i64 w.1)]) (fun w => [(0, .row 3 (.ints .i64 w.2)), (1, .row 3 (.ints .i64 []))]) (_, _) (by cbv; repeat (first | exact WkH.nil _ | apply WkH.gone | refine WkH.eq rfl ?_)) (by cbv; repeat (first | apply WkL.any | exact WkL.nil _ | refine WkL.eq rfl ?_ | refine WkL.bool rfl ?_)) (by cbv; exact ⟨rfl⟩) ?_ ?_
  · exact ⟨0, rfl, by decide, rfl⟩
  rintro ⟨i, row⟩ hI Bk hBk
  repeat (first
    | refine OK.drawn (by decide +kernel) ?_
    | refine OK.tree ⟨lookT tis, fun _ => true, []⟩ (by decide +kernel) ?_
    | refine OK.need (by first | assumption | (rw [hA]; first | (show (_ : Int) ≠ _; decide) | (show (0 : Int) ≤ _; decide) | (show (0 : Int) ≤ _ ∧ _ < (256 : Int); decide))) ?_
    | (refine F.hold hA 2000 ?_; cbv))
  refine OK.branch (fun b1 => ?_) (fun b1 => ?_)
  · have hat := fxA hA hI b1
    have q := hat.sm
    repeat' (first
      | contradiction
      | exact (fxk1 hA (by assumption) (by assumption)).elim
      | exact (fxk2 hA (by assumption) (by assumption)).elim
      | exact (fxk3 hA (by assumption) (by assumption)).elim
      | refine OK.drawn (by decide +kernel) ?_
      | refine OK.tree ⟨lookT tis, fun _ => true, []⟩ (by decide +kernel) ?_
      | refine OK.both ?_ ?_
      | refine OK.need (by first | assumption | (rw [hA]; first | (show (_ : Int) ≠ _; decide) | (show (0 : Int) ≤ _; decide) | (show (0 : Int) ≤ _ ∧ _ < (256 : Int); decide))) ?_
      | refine OK.need ?_ ?_
      | (refine OK.branch ?_ ?_ <;> intro h)
      | (refine F.hold hA 2000 ?_; cbv))
    any_goals refine OK.back (hBk _ _ (_, _) (by cbv; repeat (first | exact WkH.nil _ | apply WkH.gone | refine WkH.eq rfl ?_)) (by cbv; repeat (first | apply WkL.any | exact WkL.nil _ | refine WkL.eq rfl ?_ | refine WkL.bool rfl ?_)) (by cbv; exact ⟨rfl⟩) ?_ ?_)
    all_goals first | exact q _ | exact (hat.nx _ (fixV9 hA (by assumption) (by assumption))).1 | exact (hat.nx _ (fixV9 hA (by assumption) (by assumption))).2 | exact (hat.nx _ (fixV7 hA (by assumption) (by assumption))).1 | exact (hat.nx _ (fixV7 hA (by assumption) (by assumption))).2 | exact (hat.nx _ (fixV8a hA (by assumption))).1 | exact (hat.nx _ (fixV8a hA (by assumption))).2 | exact (hat.nx _ (fixV8b hA (by assumption) (by assumption))).1 | exact (hat.nx _ (fixV8b hA (by assumption) (by assumption))).2
  clear hBk
  repeat (first
    | refine OK.drawn (by decide +kernel) ?_
    | refine OK.tree ⟨lookT tis, fun _ => true, []⟩ (by decide +kernel) ?_
    | refine OK.need (by first | assumption | (rw [hA]; first | (show (_ : Int) ≠ _; decide) | (show (0 : Int) ≤ _; decide) | (show (0 : Int) ≤ _ ∧ _ < (256 : Int); decide))) ?_
    | (refine F.hold hA 2000 ?_; cbv))
  refine F.loop (V := Int × List Int) [2] (FyI) (fun w => (32 - w.1).toNat) (fun w => [(3, .own 1), (6, .int .i64 w.1)]) (fun w => [(0, .row 3 (.ints .i64 row)), (1, .row 3 (.ints .i64 w.2))]) (_, _) (by cbv; repeat (first | exact WkH.nil _ | apply WkH.gone | refine WkH.eq rfl ?_)) (by cbv; repeat (first | apply WkL.any | exact WkL.nil _ | refine WkL.eq rfl ?_ | refine WkL.bool rfl ?_)) (by cbv; exact ⟨rfl⟩) ?_ ?_
  · exact ⟨0, rfl, by decide, rfl⟩
  rintro ⟨j, row2⟩ hJ Bk hBk
  repeat (first
    | refine OK.drawn (by decide +kernel) ?_
    | refine OK.tree ⟨lookT tis, fun _ => true, []⟩ (by decide +kernel) ?_
    | refine OK.need (by first | assumption | (rw [hA]; first | (show (_ : Int) ≠ _; decide) | (show (0 : Int) ≤ _; decide) | (show (0 : Int) ≤ _ ∧ _ < (256 : Int); decide))) ?_
    | (refine F.hold hA 2000 ?_; cbv))
  refine OK.branch (fun b2 => ?_) (fun b2 => ?_)
  · have hat := fyA hA hJ b2
    have q := hat.sm
    repeat (first
      | refine OK.drawn (by decide +kernel) ?_
      | refine OK.tree ⟨lookT tis, fun _ => true, []⟩ (by decide +kernel) ?_
      | refine OK.need (by first | assumption | (rw [hA]; first | (show (_ : Int) ≠ _; decide) | (show (0 : Int) ≤ _; decide) | (show (0 : Int) ≤ _ ∧ _ < (256 : Int); decide))) ?_
      | (refine F.hold hA 2000 ?_; cbv))
    refine OK.back (hBk _ _ (_, _) (by cbv; repeat (first | exact WkH.nil _ | apply WkH.gone | refine WkH.eq rfl ?_)) (by cbv; repeat (first | apply WkL.any | exact WkL.nil _ | refine WkL.eq rfl ?_ | refine WkL.bool rfl ?_)) (by cbv; exact ⟨rfl⟩) ?_ ?_)
    · exact hat.nx.1
    · exact hat.nx.2
  have hfin := fx_end hA hI b1 hJ b2
  clear hBk
  repeat (first
    | refine OK.drawn (by decide +kernel) ?_
    | refine OK.tree ⟨lookT tis, fun _ => true, []⟩ (by decide +kernel) ?_
    | refine OK.need (by first | assumption | (rw [hA]; first | (show (_ : Int) ≠ _; decide) | (show (0 : Int) ≤ _; decide) | (show (0 : Int) ≤ _ ∧ _ < (256 : Int); decide))) ?_
    | (refine F.hold hA 2000 ?_; cbv))
  exact F.ret (H' := [_, _]) (F.cv ⟨rfl⟩ (.eq rfl (.eq rfl (.nil _))) (.eq rfl (.eq rfl (.nil _)))) rfl ⟨_, _, rfl, rfl, hfin⟩
end Go.L1

-- D22
namespace Go.L1
open Go Go.Sx Go.Proofs Go.Huff
set_option maxRecDepth 20000
set_option linter.unusedVariables false
set_option linter.unusedSimpArgs false
theorem LngIs.uniq {s a b c d : Int} {p q : Bool} (h : LngIs s a b p) (k : LngIs s c d q) : c = a ∧ d = b ∧ q = p := by
  rcases h with ⟨rfl, h1, _, _, _, h2⟩ | ⟨rfl, rfl, rfl, h2⟩ <;> rcases k with ⟨rfl, k1, _, _, _, k2⟩ | ⟨rfl, rfl, rfl, k2⟩
  · rw [h2] at k2
    simp only [Except.ok.injEq, Prod.mk.injEq] at k2
    exact ⟨k2.1.symm, by omega, rfl⟩
  · rw [h2] at k2; cases k2
  · rw [h2] at k2; cases k2
  · exact ⟨rfl, rfl, rfl⟩
theorem DstIs.uniq {s a b c d : Int} {p q : Bool} (h : DstIs s a b p) (k : DstIs s c d q) : c = a ∧ d = b ∧ q = p := by
  rcases h with ⟨rfl, h1, _, _, _, h2⟩ | ⟨rfl, rfl, rfl, h2⟩ <;> rcases k with ⟨rfl, k1, _, _, _, k2⟩ | ⟨rfl, rfl, rfl, k2⟩
  · rw [h2] at k2
    simp only [Except.ok.injEq, Prod.mk.injEq] at k2
    exact ⟨k2.1.symm, by omega, rfl⟩
  · rw [h2] at k2; cases k2
  · rw [h2] at k2; cases k2
  · exact ⟨rfl, rfl, rfl⟩
theorem beq_self {A : Leaf} {b : Bool} (hA : A = .std) (h : A.beq b b = false) : False := by
  subst hA
  have h : (b == b) = false := h
  simp at h
theorem tables_ok (s : Int) : FOK Try.prog C1 9 (fun _ => false) [.int .i64 s] [] Yes := by
  refine fok_of (B := ⟨lookT tis, fun _ => false, []⟩) (tab1 _) (zero1 _) cod1 mix1 Try.func9 (by kernel_rfl) rfl rfl rfl fun X F => ?_
  obtain ⟨A, hA⟩ : ∃ A, A = Leaf.std := ⟨_, rfl⟩
  refine F.hold hA 2000 ?_
  cbv
  repeat' (first
    | refine OK.drawn (by decide +kernel) ?_
    | refine OK.tree ⟨lookT tis, fun _ => true, []⟩ (by decide +kernel) ?_
    | refine OK.both ?_ ?_
    | refine OK.need (by first | assumption | (rw [hA]; first | (show (_ : Int) ≠ _; decide) | (show (0 : Int) ≤ _; decide) | (show (0 : Int) ≤ _ ∧ _ < (256 : Int); decide))) ?_
    | refine OK.need ?_ ?_
    | (refine OK.branch ?_ ?_ <;> intro h)
    | (refine F.hold hA 2000 ?_; cbv))
  refine F.call [] (alive6_ok) rfl rfl rfl fun rs H' hq => ?_
  obtain ⟨b, rfl, rfl, rfl⟩ := hq
  refine ⟨rfl, ?_⟩
  repeat' (first
    | contradiction
    | exact (bnot_t hA (by assumption)).elim
    | refine OK.drawn (by decide +kernel) ?_
    | refine OK.tree ⟨lookT tis, fun _ => true, []⟩ (by decide +kernel) ?_
    | refine OK.both ?_ ?_
    | refine OK.need (by first | assumption | (rw [hA]; first | (show (_ : Int) ≠ _; decide) | (show (0 : Int) ≤ _; decide) | (show (0 : Int) ≤ _ ∧ _ < (256 : Int); decide))) ?_
    | refine OK.need ?_ ?_
    | (refine OK.branch ?_ ?_ <;> intro h)
    | (refine F.hold hA 2000 ?_; cbv))
  refine F.call [] (length_ok s) rfl rfl rfl fun rs H' hq => ?_
  obtain ⟨l1, l2, l3, rfl, rfl, hl⟩ := hq
  refine ⟨rfl, ?_⟩
  repeat (first
    | refine OK.drawn (by decide +kernel) ?_
    | refine OK.tree ⟨lookT tis, fun _ => true, []⟩ (by decide +kernel) ?_
    | refine OK.need (by first | assumption | (rw [hA]; first | (show (_ : Int) ≠ _; decide) | (show (0 : Int) ≤ _; decide) | (show (0 : Int) ≤ _ ∧ _ < (256 : Int); decide))) ?_
    | (refine F.hold hA 2000 ?_; cbv))
  refine F.call [] (reflength_ok s) rfl rfl rfl fun rs H' hq => ?_
  obtain ⟨m1, m2, m3, rfl, rfl, hm⟩ := hq
  refine ⟨rfl, ?_⟩
  obtain ⟨rfl, rfl, rfl⟩ := hl.uniq hm
  repeat (first
    | refine OK.drawn (by decide +kernel) ?_
    | refine OK.tree ⟨lookT tis, fun _ => true, []⟩ (by decide +kernel) ?_
    | refine OK.need (by first | assumption | (rw [hA]; first | (show (_ : Int) ≠ _; decide) | (show (0 : Int) ≤ _; decide) | (show (0 : Int) ≤ _ ∧ _ < (256 : Int); decide))) ?_
    | (refine F.hold hA 2000 ?_; cbv))
  refine F.call [] (distance_ok s) rfl rfl rfl fun rs H' hq => ?_
  obtain ⟨d1, d2, d3, rfl, rfl, hd⟩ := hq
  refine ⟨rfl, ?_⟩
  repeat (first
    | refine OK.drawn (by decide +kernel) ?_
    | refine OK.tree ⟨lookT tis, fun _ => true, []⟩ (by decide +kernel) ?_
    | refine OK.need (by first | assumption | (rw [hA]; first | (show (_ : Int) ≠ _; decide) | (show (0 : Int) ≤ _; decide) | (show (0 : Int) ≤ _ ∧ _ < (256 : Int); decide))) ?_
    | (refine F.hold hA 2000 ?_; cbv))
  refine F.call [] (refdistance_ok s) rfl rfl rfl fun rs H' hq => ?_
  obtain ⟨m4, m5, m6, rfl, rfl, hm2⟩ := hq
  refine ⟨rfl, ?_⟩
  obtain ⟨rfl, rfl, rfl⟩ := hd.uniq hm2
  repeat (first
    | refine OK.drawn (by decide +kernel) ?_
    | refine OK.tree ⟨lookT tis, fun _ => true, []⟩ (by decide +kernel) ?_
    | refine OK.need (by first | assumption | (rw [hA]; first | (show (_ : Int) ≠ _; decide) | (show (0 : Int) ≤ _; decide) | (show (0 : Int) ≤ _ ∧ _ < (256 : Int); decide))) ?_
    | (refine F.hold hA 2000 ?_; cbv))
  refine F.call [] (fixed_ok) rfl rfl rfl fun rs H' hq => ?_
  obtain ⟨xa, xb, rfl, rfl, hx⟩ := hq
  refine ⟨rfl, ?_⟩
  repeat (first
    | refine OK.drawn (by decide +kernel) ?_
    | refine OK.tree ⟨lookT tis, fun _ => true, []⟩ (by decide +kernel) ?_
    | refine OK.need (by first | assumption | (rw [hA]; first | (show (_ : Int) ≠ _; decide) | (show (0 : Int) ≤ _; decide) | (show (0 : Int) ≤ _ ∧ _ < (256 : Int); decide))) ?_
    | (refine F.hold hA 2000 ?_; cbv))
  refine F.call [] (reffixed_ok) rfl rfl rfl fun rs H' hq => ?_
  obtain ⟨ya, yb, rfl, rfl, hy⟩ := hq
  refine ⟨rfl, ?_⟩
  obtain ⟨rfl, rfl⟩ := hx
  obtain ⟨rfl, rfl⟩ := hy
  generalize hfa : fixA = fa
  generalize hfb : fixB = fb
  have ha : Le400 fa := by rw [← hfa]; exact ⟨by decide +kernel⟩
  have hb : Le400 fb := by rw [← hfb]; exact ⟨by decide +kernel⟩
  clear hl hm hd hm2
  repeat' (first
    | contradiction
    | exact (eql_self hA (by assumption)).elim
    | exact (beq_self hA (by assumption)).elim
    | refine OK.drawn (by decide +kernel) ?_
    | refine OK.tree ⟨lookT tis, fun _ => true, []⟩ (by decide +kernel) ?_
    | refine OK.both ?_ ?_
    | refine OK.need (by first | assumption | (rw [hA]; first | (show (_ : Int) ≠ _; decide) | (show (0 : Int) ≤ _; decide) | (show (0 : Int) ≤ _ ∧ _ < (256 : Int); decide))) ?_
    | refine OK.need ?_ ?_
    | (refine OK.branch ?_ ?_ <;> intro h)
    | (refine F.hold hA 2000 ?_; cbv))
  refine F.callFrz 0 rfl rfl rfl rfl ?_
  refine F.call [] (sameInts_ok fa ha) rfl rfl rfl fun rs H' hq => ?_
  obtain ⟨rfl, rfl⟩ := hq
  refine ⟨rfl, ?_⟩
  repeat' (first
    | refine OK.drawn (by decide +kernel) ?_
    | refine OK.tree ⟨lookT tis, fun _ => true, []⟩ (by decide +kernel) ?_
    | refine OK.both ?_ ?_
    | refine OK.need (by first | assumption | (rw [hA]; first | (show (_ : Int) ≠ _; decide) | (show (0 : Int) ≤ _; decide) | (show (0 : Int) ≤ _ ∧ _ < (256 : Int); decide))) ?_
    | refine OK.need ?_ ?_
    | (refine OK.branch ?_ ?_ <;> intro h)
    | (refine F.hold hA 2000 ?_; cbv))
  refine F.callFrz 1 rfl rfl rfl rfl ?_
  refine F.call [] (sameInts_ok fb hb) rfl rfl rfl fun rs H' hq => ?_
  obtain ⟨rfl, rfl⟩ := hq
  refine ⟨rfl, ?_⟩
  repeat (first
    | refine OK.drawn (by decide +kernel) ?_
    | refine OK.tree ⟨lookT tis, fun _ => true, []⟩ (by decide +kernel) ?_
    | refine OK.need (by first | assumption | (rw [hA]; first | (show (_ : Int) ≠ _; decide) | (show (0 : Int) ≤ _; decide) | (show (0 : Int) ≤ _ ∧ _ < (256 : Int); decide))) ?_
    | (refine F.hold hA 2000 ?_; cbv))
  exact F.ret0 ⟨_, rfl, rfl⟩
end Go.L1
