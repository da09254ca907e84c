/- Own work of the session: part LD of a proof that the program's functions do what the statement says (a symbolic executor, contracts of the functions, plain laws). -/
import Derived.Test.YtljlflcgpbenpaaLC
import Derived.Test.YtljlflcgpbenpaaLA
import Derived.Test.YtljlflcgpbenpaaSxC
set_option linter.all false
-- E0
namespace Go.L1
open Go Go.Sx Go.Proofs
theorem lT_len (l : List Pr) : @LLen (T1 0) l = (l.length : Int) := rfl
theorem lT_get (d : Pr) (l : List Pr) (i : Int) : @LGet (T1 0) d l i = l.getD i.toNat d := rfl
theorem lT_set (l : List Pr) (i : Int) (d : Pr) : @LSet (T1 0) l i d = l.set i.toNat d := rfl
theorem lT_sub (l : List Pr) (a b : Int) : @LSub (T1 0) l a b = (l.drop a.toNat).take (b - a).toNat := rfl
theorem eqT {A : Leaf} {a b : Int} (hA : A = .std) (h : A.cmp .eql a b = true) : a = b := by
  subst hA
  have h : (a == b) = true := h
  simpa using h
theorem eqF {A : Leaf} {a b : Int} (hA : A = .std) (h : A.cmp .eql a b = false) : a ≠ b := by
  subst hA
  have h : (a == b) = false := h
  simpa using h
end Go.L1

-- E1
namespace Go.L1
open Go Go.Sx Go.Proofs Go.L5 Go.Huff
set_option maxRecDepth 20000
set_option linter.unusedVariables false
set_option linter.unusedSimpArgs false
def RoomIs (ls : List Int) (r : Int) (ok : Bool) : Prop := (ok = true ∧ ls.length ≤ 320 ∧ InB ls ∧ r = roomN ls) ∨ (ok = false ∧ ¬ (ls.length ≤ 320 ∧ InB ls) ∧ r = 0)
def RoomInv (ls : List Int) (w : Int × Int) : Prop := ∃ j : Nat, j ≤ ls.length ∧ w.2 = j ∧ w.1 = roomN (ls.take j) ∧ InB (ls.take j)
structure RoomAt (A : Leaf) (ls : List Int) (n i : Int) (j : Nat) : Prop where
  lt : j < ls.length
  ei : i = j
  en : n = roomN (ls.take j)
  inb : InB (ls.take j)
  q1 : A.inb i (A.len ls)
  g : A.get 0 ls i = ls.getD j 0
  bnd : InB ls → 0 ≤ A.get 0 ls i ∧ A.get 0 ls i ≤ 15
theorem roomAt {A : Leaf} {ls : List Int} {n i : Int} (hA : A = .std) (hl : ls.length ≤ 320) (h : RoomInv ls (n, i)) (hi : A.cmp .lss i (A.len ls) = true) : ∃ j, RoomAt A ls n i j := by
  obtain ⟨j, h1, h2, h3, h4⟩ := h
  subst hA
  simp only at h2 h3
  have hi : i < (ls.length : Int) := of_decide_eq_true hi
  have hj : j < ls.length := by omega
  have hg : Leaf.std.get 0 ls i = ls.getD j 0 := by show ls.getD i.toNat 0 = _; rw [h2, Int.toNat_natCast]
  refine ⟨j, hj, h2, h3, h4, ?_, hg, fun hb => ?_⟩
  · show (0 : Int) ≤ i ∧ i < (ls.length : Int); omega
  · rw [hg, List.getD_eq_getElem?_getD, List.getElem?_eq_getElem hj]
    exact hb _ (List.getElem_mem hj)
theorem roomN_le (l : List Int) : roomN l ≤ 32768 * l.length := by
  induction l with
  | nil => simp [roomN]
  | cons x l ih =>
    unfold roomN at ih ⊢
    rw [List.map_cons, List.sum_cons, List.length_cons]
    have : room1 x ≤ 32768 := by unfold room1; split; exact Nat.div_le_self _ _; decide
    omega
theorem RoomAt.next {A : Leaf} {ls : List Int} {n i : Int} {j : Nat} (h : RoomAt A ls n i j) (hA : A = .std) (hl : ls.length ≤ 320) (g0 : ¬ A.get 0 ls i < 0) (g1 : ¬ 15 < A.get 0 ls i) (n' : Int)
    (hn : (0 < A.get 0 ls i ∧ n' = A.ar .add .i64 n (A.ar .shr .i64 32768 (A.get 0 ls i))) ∨ (¬ 0 < A.get 0 ls i ∧ n' = n)) :
    RoomInv ls (n', A.ar .add .i64 i 1) ∧ (ls.length - A.ar .add .i64 i 1).toNat < (ls.length - i).toNat := by
  obtain ⟨h1, h2, h3, h4, _, h5, _⟩ := h
  rw [h5] at g0 g1 hn
  have e1 : A.ar .add .i64 i 1 = ((j + 1 : Nat) : Int) := by subst hA; rw [h2, add_i64 (by omega) (by omega)]; omega
  have hg : ls.getD j 0 = ls[j] := by simp [h1]
  have ht : ls.take (j + 1) = ls.take j ++ [ls[j]] := List.take_succ_eq_append_getElem h1
  have hr : roomN (ls.take (j + 1)) = roomN (ls.take j) + room1 (ls.getD j 0) := by
    rw [ht, hg]; unfold roomN
    rw [List.map_append, List.sum_append, List.map_cons, List.map_nil, List.sum_cons, List.sum_nil, Nat.add_zero]
  have hle := roomN_le (ls.take j)
  have hlt : (ls.take j).length ≤ j := by simp; omega
  refine ⟨⟨j + 1, by omega, e1, ?_, ?_⟩, by rw [e1]; omega⟩
  · show n' = _
    rw [hr]
    rcases hn with ⟨k1, k2⟩ | ⟨k1, k2⟩
    · have hd : 32768 / 2 ^ (ls.getD j 0).toNat ≤ 32768 := Nat.div_le_self _ _
      have e : LAr .shr .i64 32768 (ls.getD j 0) = ((32768 / 2 ^ (ls.getD j 0).toNat : Nat) : Int) := by
        rw [l_shr_i64 (by omega) (by omega)]; simp
      have hr1 : room1 (ls.getD j 0) = 32768 / 2 ^ (ls.getD j 0).toNat := if_pos k1
      rw [k2, hr1]
      subst hA
      show Leaf.std.ar .add .i64 n (LAr .shr .i64 32768 (ls.getD j 0)) = _
      rw [e, h3]
      generalize 32768 / 2 ^ (ls.getD j 0).toNat = q at *
      rw [add_i64 (by omega) (by omega)]
      omega
    · have hr1 : room1 (ls.getD j 0) = 0 := if_neg k1
      rw [k2, hr1, h3]; rfl
  · show InB (ls.take (j + 1))
    rw [ht]
    intro x hx
    rcases List.mem_append.1 hx with hx | hx
    · exact h4 x hx
    · rw [List.mem_singleton] at hx
      rw [hx, ← hg]; omega
theorem room_ok (ls : List Int) : FOK Try.prog C1 19 (fun _ => true) [.ro (.ints .i64 ls)] []
    (fun rs H => ∃ r ok, rs = [.int .i64 r, .bool (.e ok)] ∧ H = [] ∧ RoomIs ls r ok) := by
  refine fok_of (B := ⟨lookT tis, fun _ => true, []⟩) (tab1 _) (zero1 _) cod1 mix1 Try.func19 (by kernel_rfl) rfl rfl rfl fun X F => ?_
  obtain ⟨A, hA⟩ : ∃ A, A = Leaf.std := ⟨_, rfl⟩
  refine F.hold hA 2000 ?_
  cbv
  repeat' (first
    | refine OK.drawn (by decide +kernel) ?_
    | refine OK.tree ⟨lookT tis, fun _ => true, []⟩ (by decide +kernel) ?_
    | refine OK.both ?_ ?_
    | refine OK.need (by first | assumption | (rw [hA]; first | (show (_ : Int) ≠ _; decide) | (show (0 : Int) ≤ _; decide) | (show (0 : Int) ≤ _ ∧ _ < (256 : Int); decide))) ?_
    | refine OK.need ?_ ?_
    | (refine OK.branch ?_ ?_ <;> intro h)
    | (refine F.hold hA 2000 ?_; cbv))
  · refine F.retE rfl ⟨_, _, rfl, rfl, .inr ⟨rfl, ?_, rfl⟩⟩
    try clear hBk
    try clear F
    rw [std_eq] at hA; subst hA
    try simp (disch := omega) only [lf, decide_eq_true_eq, decide_eq_false_iff_not, Int.not_lt, Int.not_le, Bool.not_eq_true', Bool.not_eq_false', Bool.not_true, Bool.not_false, gt_iff_lt, ge_iff_le, Int.toNat_natCast, Bool.true_eq_false, Bool.false_eq_true, beq_iff_eq, Bool.not_eq_eq_eq_not, ne_eq, lC_len, lC_get, lC_set, lC_sub, lT_len, lT_get, lT_sub] at *
    try simp (disch := omega) only [lf, decide_eq_true_eq, decide_eq_false_iff_not, Int.not_lt, Int.not_le, Bool.not_eq_true', Bool.not_eq_false', Bool.not_true, Bool.not_false, gt_iff_lt, ge_iff_le, Int.toNat_natCast, Bool.true_eq_false, Bool.false_eq_true, beq_iff_eq, Bool.not_eq_eq_eq_not, ne_eq, lC_len, lC_get, lC_set, lC_sub, lT_len, lT_get, lT_sub] at *
    omega
  refine F.loop (V := Int × Int) [0, 10, 11] (RoomInv ls) (fun w => (ls.length - w.2).toNat) (fun w => [(4, .int .i64 w.1), (12, .int .i64 w.2)]) (fun w => []) (_, _) (by cbv; repeat (first | exact WkH.nil _ | apply WkH.gone | refine WkH.eq rfl ?_)) (by cbv; repeat (first | apply WkL.any | exact WkL.nil _ | refine WkL.eq rfl ?_ | refine WkL.bool rfl ?_)) (by cbv; exact ⟨rfl⟩) ?_ ?_
  · exact ⟨0, Nat.zero_le _, rfl, rfl, fun x hx => by cases hx⟩
  rintro ⟨n, i⟩ hI Bk hBk
  have hl : Nat.le ls.length 320 := by
    try clear hBk
    try clear F
    rw [std_eq] at hA; subst hA
    try simp (disch := omega) only [lf, decide_eq_true_eq, decide_eq_false_iff_not, Int.not_lt, Int.not_le, Bool.not_eq_true', Bool.not_eq_false', Bool.not_true, Bool.not_false, gt_iff_lt, ge_iff_le, Int.toNat_natCast, Bool.true_eq_false, Bool.false_eq_true, beq_iff_eq, Bool.not_eq_eq_eq_not, ne_eq, lC_len, lC_get, lC_set, lC_sub, lT_len, lT_get, lT_sub] at *
    try simp (disch := omega) only [lf, decide_eq_true_eq, decide_eq_false_iff_not, Int.not_lt, Int.not_le, Bool.not_eq_true', Bool.not_eq_false', Bool.not_true, Bool.not_false, gt_iff_lt, ge_iff_le, Int.toNat_natCast, Bool.true_eq_false, Bool.false_eq_true, beq_iff_eq, Bool.not_eq_eq_eq_not, ne_eq, lC_len, lC_get, lC_set, lC_sub, lT_len, lT_get, lT_sub] at *
    show ls.length ≤ 320
    omega
  repeat (first
    | refine OK.drawn (by decide +kernel) ?_
    | refine OK.tree ⟨lookT tis, fun _ => true, []⟩ (by decide +kernel) ?_
    | refine OK.need (by first | assumption | (rw [hA]; first | (show (_ : Int) ≠ _; decide) | (show (0 : Int) ≤ _; decide) | (show (0 : Int) ≤ _ ∧ _ < (256 : Int); decide))) ?_
    | (refine F.hold hA 2000 ?_; cbv))
  refine OK.branch (fun h1 => ?_) (fun h1 => ?_)
  · obtain ⟨j, hat⟩ := roomAt hA hl hI h1
    have q1 := hat.q1
    repeat' (first
      | refine OK.drawn (by decide +kernel) ?_
      | refine OK.tree ⟨lookT tis, fun _ => true, []⟩ (by decide +kernel) ?_
      | refine OK.both ?_ ?_
      | refine OK.need (by first | assumption | (rw [hA]; first | (show (_ : Int) ≠ _; decide) | (show (0 : Int) ≤ _; decide) | (show (0 : Int) ≤ _ ∧ _ < (256 : Int); decide))) ?_
      | refine OK.need ?_ ?_
      | (refine OK.branch ?_ ?_ <;> intro h)
      | (refine F.hold hA 2000 ?_; cbv))
    · refine F.retE rfl ⟨_, _, rfl, rfl, .inr ⟨rfl, fun hh => ?_, rfl⟩⟩
      obtain ⟨hb1, hb2⟩ := hat.bnd hh.2
      subst hA
      have h := of_decide_eq_true h
      omega
    · refine F.retE rfl ⟨_, _, rfl, rfl, .inr ⟨rfl, fun hh => ?_, rfl⟩⟩
      obtain ⟨hb1, hb2⟩ := hat.bnd hh.2
      subst hA
      have h := of_decide_eq_true h
      omega
    · subst hA
      show (0 : Int) ≤ Leaf.std.get 0 ls i
      have : 0 < Leaf.std.get 0 ls i := of_decide_eq_true h
      omega
    · refine OK.back (hBk _ _ (_, _) (by cbv; repeat (first | exact WkH.nil _ | apply WkH.gone | refine WkH.eq rfl ?_)) (by cbv; repeat (first | apply WkL.any | exact WkL.nil _ | refine WkL.eq rfl ?_ | refine WkL.bool rfl ?_)) (by cbv; exact ⟨rfl⟩) ?_ ?_)
      all_goals
        have k0 : ¬ A.get 0 ls i < 0 := by subst hA; rename_i a b; exact of_decide_eq_false a
        have k1 : ¬ 15 < A.get 0 ls i := by subst hA; rename_i a b; exact of_decide_eq_false b
        have k2 : 0 < A.get 0 ls i := by subst hA; exact of_decide_eq_true h
      · exact (hat.next hA hl k0 k1 _ (.inl ⟨k2, rfl⟩)).1
      · exact (hat.next hA hl k0 k1 _ (.inl ⟨k2, rfl⟩)).2
    · refine OK.back (hBk _ _ (_, _) (by cbv; repeat (first | exact WkH.nil _ | apply WkH.gone | refine WkH.eq rfl ?_)) (by cbv; repeat (first | apply WkL.any | exact WkL.nil _ | refine WkL.eq rfl ?_ | refine WkL.bool rfl ?_)) (by cbv; exact ⟨rfl⟩) ?_ ?_)
      all_goals
        have k0 : ¬ A.get 0 ls i < 0 := by subst hA; rename_i a b; exact of_decide_eq_false a
        have k1 : ¬ 15 < A.get 0 ls i := by subst hA; rename_i a b; exact of_decide_eq_false b
        have k2 : ¬ 0 < A.get 0 ls i := by subst hA; exact of_decide_eq_false h
      · exact (hat.next hA hl k0 k1 _ (.inr ⟨k2, rfl⟩)).1
      · exact (hat.next hA hl k0 k1 _ (.inr ⟨k2, rfl⟩)).2
  · repeat' (first
      | refine OK.drawn (by decide +kernel) ?_
      | refine OK.tree ⟨lookT tis, fun _ => true, []⟩ (by decide +kernel) ?_
      | refine OK.both ?_ ?_
      | refine OK.need (by first | assumption | (rw [hA]; first | (show (_ : Int) ≠ _; decide) | (show (0 : Int) ≤ _; decide) | (show (0 : Int) ≤ _ ∧ _ < (256 : Int); decide))) ?_
      | refine OK.need ?_ ?_
      | (refine OK.branch ?_ ?_ <;> intro h)
      | (refine F.hold hA 2000 ?_; cbv))
    refine F.retE rfl ⟨_, _, rfl, rfl, .inl ⟨rfl, ?_⟩⟩
    obtain ⟨j, e1, e2, e3, e4⟩ := hI
    simp only at e2 e3
    have hj : j = ls.length := by
      subst hA
      have : ¬ i < (ls.length : Int) := of_decide_eq_false h1
      omega
    rw [hj, List.take_length] at e3 e4
    exact ⟨hl, e4, e3⟩
end Go.L1

-- E5
namespace Go.L1
open Go Go.Sx Go.Proofs Go.L5 Go.Huff
set_option maxRecDepth 20000
set_option linter.unusedVariables false
set_option linter.unusedSimpArgs false
structure Le400 (ls : List Int) : Prop where
  l : ls.length ≤ 400
theorem cpSmall {A : Leaf} {ls : List Int} (hA : A = .std) (h : Le400 ls) : A.small (A.len (A.app [] ls)) 8 := by
  subst hA
  have := h.l
  show (0 : Int) ≤ ((([] ++ ls).length : Nat) : Int) ∧ ((([] ++ ls).length : Nat) : Int) ≤ (140737488355328 : Int) ∧ ((([] ++ ls).length : Nat) : Int) * ((8 : Nat) : Int) ≤ (140737488355328 : Int)
  simp; omega
theorem copyInts_ok (ls : List Int) (hl : Le400 ls) : FOK Try.prog C1 17 (fun _ => false) [.ro (.ints .i64 ls)] [] (fun rs H => rs = [.own 0] ∧ H = [.row 3 (.ints .i64 ls)]) := by
  refine fok_of (B := ⟨lookT tis, fun _ => false, []⟩) (tab1 _) (zero1 _) cod1 mix1 Try.func17 (by kernel_rfl) rfl rfl rfl fun X F => ?_
  obtain ⟨A, hA⟩ : ∃ A, A = Leaf.std := ⟨_, rfl⟩
  refine F.hold hA 2000 ?_
  cbv
  repeat' (first
    | refine OK.drawn (by decide +kernel) ?_
    | refine OK.tree ⟨lookT tis, fun _ => true, []⟩ (by decide +kernel) ?_
    | refine OK.both ?_ ?_
    | refine OK.need (by first | assumption | (rw [hA]; first | (show (_ : Int) ≠ _; decide) | (show (0 : Int) ≤ _; decide) | (show (0 : Int) ≤ _ ∧ _ < (256 : Int); decide))) ?_
    | refine OK.need ?_ ?_
    | (refine OK.branch ?_ ?_ <;> intro h)
    | (refine F.hold hA 2000 ?_; cbv))
  · exact cpSmall hA hl
  subst hA
  exact F.ret0 ⟨rfl, rfl⟩
def UpI (ls : List Int) (i : Int) : Prop := ∃ j : Nat, i = j ∧ j ≤ ls.length
structure SmAt (A : Leaf) (ls : List Int) (i : Int) : Prop where
  q : A.inb i (A.len ls)
  nx : UpI ls (A.ar .add .i64 i 1)
  mu : (ls.length - A.ar .add .i64 i 1).toNat < (ls.length - i).toNat
theorem smAt {A : Leaf} {ls : List Int} {i : Int} (hA : A = .std) (hl : Le400 ls) (h : UpI ls i) (h1 : A.cmp .lss i (A.len ls) = true) : SmAt A ls i := by
  obtain ⟨j, rfl, hj⟩ := h
  have hl := hl.l
  subst hA
  have h1 : (j : Int) < (ls.length : Int) := of_decide_eq_true h1
  have ea : Leaf.std.ar .add .i64 (j : Int) 1 = ((j + 1 : Nat) : Int) := by rw [add_i64 (by omega) (by omega)]; omega
  refine ⟨?_, ⟨j + 1, ea, by omega⟩, by rw [ea]; omega⟩
  show (0 : Int) ≤ (j : Int) ∧ (j : Int) < (ls.length : Int); omega
theorem sameInts_ok (ls : List Int) (hl : Le400 ls) : FOK Try.prog C1 16 (fun _ => true) [.ro (.ints .i64 ls), .ro (.ints .i64 ls)] [] (fun rs H => rs = [.bool (.lit true)] ∧ H = []) := by
  refine fok_of (B := ⟨lookT tis, fun _ => true, []⟩) (tab1 _) (zero1 _) cod1 mix1 Try.func16 (by kernel_rfl) rfl rfl rfl fun X F => ?_
  obtain ⟨A, hA⟩ : ∃ A, A = Leaf.std := ⟨_, rfl⟩
  refine F.hold hA 2000 ?_
  cbv
  repeat (first
    | refine OK.drawn (by decide +kernel) ?_
    | refine OK.tree ⟨lookT tis, fun _ => true, []⟩ (by decide +kernel) ?_
    | refine OK.need (by first | assumption | (rw [hA]; first | (show (_ : Int) ≠ _; decide) | (show (0 : Int) ≤ _; decide) | (show (0 : Int) ≤ _ ∧ _ < (256 : Int); decide))) ?_
    | (refine F.hold hA 2000 ?_; cbv))
  refine OK.branch (fun b1 => (cmp_self hA b1).elim) (fun b1 => ?_)
  repeat (first
    | refine OK.drawn (by decide +kernel) ?_
    | refine OK.tree ⟨lookT tis, fun _ => true, []⟩ (by decide +kernel) ?_
    | refine OK.need (by first | assumption | (rw [hA]; first | (show (_ : Int) ≠ _; decide) | (show (0 : Int) ≤ _; decide) | (show (0 : Int) ≤ _ ∧ _ < (256 : Int); decide))) ?_
    | (refine F.hold hA 2000 ?_; cbv))
  refine F.loop (V := Int) [0, 1] (UpI ls) (fun i => (ls.length - i).toNat) (fun i => [(5, .int .i64 i)]) (fun i => []) _ (by cbv; repeat (first | exact WkH.nil _ | apply WkH.gone | refine WkH.eq rfl ?_)) (by cbv; repeat (first | apply WkL.any | exact WkL.nil _ | refine WkL.eq rfl ?_ | refine WkL.bool rfl ?_)) (by cbv; exact ⟨rfl⟩) ?_ ?_
  · exact ⟨0, rfl, Nat.zero_le _⟩
  rintro i hI Bk hBk
  repeat (first
    | refine OK.drawn (by decide +kernel) ?_
    | refine OK.tree ⟨lookT tis, fun _ => true, []⟩ (by decide +kernel) ?_
    | refine OK.need (by first | assumption | (rw [hA]; first | (show (_ : Int) ≠ _; decide) | (show (0 : Int) ≤ _; decide) | (show (0 : Int) ≤ _ ∧ _ < (256 : Int); decide))) ?_
    | (refine F.hold hA 2000 ?_; cbv))
  refine OK.branch (fun b2 => ?_) (fun b2 => ?_)
  · have hat := smAt hA hl hI b2
    have q := hat.q
    repeat (first
      | refine OK.drawn (by decide +kernel) ?_
      | refine OK.tree ⟨lookT tis, fun _ => true, []⟩ (by decide +kernel) ?_
      | refine OK.need (by first | assumption | (rw [hA]; first | (show (_ : Int) ≠ _; decide) | (show (0 : Int) ≤ _; decide) | (show (0 : Int) ≤ _ ∧ _ < (256 : Int); decide))) ?_
      | (refine F.hold hA 2000 ?_; cbv))
    refine OK.branch (fun b3 => (cmp_self hA b3).elim) (fun b3 => ?_)
    repeat (first
      | refine OK.drawn (by decide +kernel) ?_
      | refine OK.tree ⟨lookT tis, fun _ => true, []⟩ (by decide +kernel) ?_
      | refine OK.need (by first | assumption | (rw [hA]; first | (show (_ : Int) ≠ _; decide) | (show (0 : Int) ≤ _; decide) | (show (0 : Int) ≤ _ ∧ _ < (256 : Int); decide))) ?_
      | (refine F.hold hA 2000 ?_; cbv))
    refine OK.back (hBk _ _ _ (by cbv; repeat (first | exact WkH.nil _ | apply WkH.gone | refine WkH.eq rfl ?_)) (by cbv; repeat (first | apply WkL.any | exact WkL.nil _ | refine WkL.eq rfl ?_ | refine WkL.bool rfl ?_)) (by cbv; exact ⟨rfl⟩) ?_ ?_)
    · exact hat.nx
    · exact hat.mu
  · repeat (first
      | refine OK.drawn (by decide +kernel) ?_
      | refine OK.tree ⟨lookT tis, fun _ => true, []⟩ (by decide +kernel) ?_
      | refine OK.need (by first | assumption | (rw [hA]; first | (show (_ : Int) ≠ _; decide) | (show (0 : Int) ≤ _; decide) | (show (0 : Int) ≤ _ ∧ _ < (256 : Int); decide))) ?_
      | (refine F.hold hA 2000 ?_; cbv))
    exact F.ret0 ⟨rfl, rfl⟩
end Go.L1

-- E8
namespace Go.L1
open Go Go.Sx Go.Proofs Go.L5 Go.Huff
set_option maxRecDepth 20000
set_option linter.unusedVariables false
set_option linter.unusedSimpArgs false
structure MulP (x y : Int) : Prop where
  x0 : 0 ≤ x
  x1 : x < 2147483648
  y0 : 0 ≤ y
  y1 : y < 2147483648
structure MulR (A : Leaf) (x y : Int) : Prop where
  h : A.ar .add .u64 (A.ar .add .u64 (A.ar .mul .u64 (A.ar .shr .u64 x 32) (A.ar .shr .u64 y 32)) (A.ar .shr .u64 (A.ar .add .u64 (A.ar .mul .u64 (A.ar .shr .u64 x 32) (A.ar .and .u64 y 4294967295)) (A.ar .shr .u64 (A.ar .mul .u64 (A.ar .and .u64 x 4294967295) (A.ar .and .u64 y 4294967295)) 32)) 32)) (A.ar .shr .u64 (A.ar .add .u64 (A.ar .and .u64 (A.ar .add .u64 (A.ar .mul .u64 (A.ar .shr .u64 x 32) (A.ar .and .u64 y 4294967295)) (A.ar .shr .u64 (A.ar .mul .u64 (A.ar .and .u64 x 4294967295) (A.ar .and .u64 y 4294967295)) 32)) 4294967295) (A.ar .mul .u64 (A.ar .and .u64 x 4294967295) (A.ar .shr .u64 y 32))) 32) = 0
  l : A.ar .mul .u64 x y = x * y
theorem mulR {A : Leaf} {x y : Int} (hA : A = .std) (hp : MulP x y) : MulR A x y := by
  obtain ⟨x0, x1, y0, y1⟩ := hp
  subst hA
  have hxy : x * y ≤ 2147483647 * 2147483647 := Int.mul_le_mul (by omega) (by omega) y0 (by omega)
  have hxy0 : 0 ≤ x * y := Int.mul_nonneg x0 y0
  have sh : ∀ a : Int, 0 ≤ a → a < 4294967296 → Leaf.std.ar .shr .u64 a 32 = 0 := fun a h0 h1 => by
    show LAr .shr .u64 a 32 = 0
    rw [l_shr_u64 (by decide) (by decide)]
    show a / 4294967296 = 0
    omega
  have ms : ∀ a : Int, 0 ≤ a → a < 4294967296 → Leaf.std.ar .and .u64 a 4294967295 = a := fun a h0 h1 => by
    have := and_mask_k .u64 a 32 (by decide)
    show LAr .and .u64 a 4294967295 = a
    have e : LAr .and .u64 a 4294967295 = a % 4294967296 := this
    rw [e]; omega
  have em : Leaf.std.ar .mul .u64 x y = x * y := mul_u64 hxy0 (by omega)
  have z1 : ∀ a : Int, Leaf.std.ar .mul .u64 0 a = 0 := fun a => by rw [mul_u64 (by rw [Int.zero_mul]; decide) (by rw [Int.zero_mul]; decide), Int.zero_mul]
  have z2 : ∀ a : Int, Leaf.std.ar .mul .u64 a 0 = 0 := fun a => by rw [mul_u64 (by rw [Int.mul_zero]; decide) (by rw [Int.mul_zero]; decide), Int.mul_zero]
  have w : Leaf.std.ar .shr .u64 (x * y) 32 = x * y / 4294967296 := by
    show LAr .shr .u64 (x * y) 32 = _
    rw [l_shr_u64 (by decide) (by decide)]; rfl
  have a0 : ∀ a : Int, 0 ≤ a → a < 4294967296 → Leaf.std.ar .add .u64 0 a = a := fun a h0 h1 => by rw [add_u64 (by omega) (by omega)]; omega
  have a1 : ∀ a : Int, 0 ≤ a → a < 4294967296 → Leaf.std.ar .add .u64 a 0 = a := fun a h0 h1 => by rw [add_u64 (by omega) (by omega)]; omega
  have hw0 : 0 ≤ x * y / 4294967296 := by omega
  have hw1 : x * y / 4294967296 < 4294967296 := by omega
  refine ⟨?_, em⟩
  rw [sh x x0 (by omega), sh y y0 (by omega), ms x x0 (by omega), ms y y0 (by omega), em, z1, z1, z2, w, a0 _ hw0 hw1, sh _ hw0 hw1, ms _ hw0 hw1, a0 0 (by decide) (by decide), a1 _ hw0 hw1, sh _ hw0 hw1, a0 0 (by decide) (by decide)]
theorem mul64_ok (x y : Int) (hp : MulP x y) : FOK Try.prog C1 50 (fun _ => true) [.int .u64 x, .int .u64 y] [] (fun rs H => ∃ h l, rs = [.int .u64 h, .int .u64 l] ∧ H = [] ∧ h = 0 ∧ l = x * y) := by
  refine fok_of (B := ⟨lookT tis, fun _ => true, []⟩) (tab1 _) (zero1 _) cod1 mix1 Try.func50 (by kernel_rfl) rfl rfl rfl fun X F => ?_
  obtain ⟨A, hA⟩ : ∃ A, A = Leaf.std := ⟨_, rfl⟩
  refine F.hold hA 2000 ?_
  cbv
  repeat' (first
    | refine OK.drawn (by decide +kernel) ?_
    | refine OK.tree ⟨lookT tis, fun _ => true, []⟩ (by decide +kernel) ?_
    | refine OK.both ?_ ?_
    | refine OK.need (by first | assumption | (rw [hA]; first | (show (_ : Int) ≠ _; decide) | (show (0 : Int) ≤ _; decide) | (show (0 : Int) ≤ _ ∧ _ < (256 : Int); decide))) ?_
    | refine OK.need ?_ ?_
    | (refine OK.branch ?_ ?_ <;> intro h)
    | (refine F.hold hA 2000 ?_; cbv))
  have hr := mulR hA hp
  exact F.ret0 ⟨_, _, rfl, rfl, hr.h, hr.l⟩
theorem mul_ok (x y : Int) (hp : MulP x y) : FOK Try.prog C1 44 (fun _ => true) [.int .u64 x, .int .u64 y] [] (fun rs H => ∃ h l, rs = [.int .u64 h, .int .u64 l] ∧ H = [] ∧ h = 0 ∧ l = x * y) := by
  refine fok_of (B := ⟨lookT tis, fun _ => true, []⟩) (tab1 _) (zero1 _) cod1 mix1 Try.func44 (by kernel_rfl) rfl rfl rfl fun X F => ?_
  obtain ⟨A, hA⟩ : ∃ A, A = Leaf.std := ⟨_, rfl⟩
  refine F.hold hA 2000 ?_
  cbv
  repeat' (first
    | refine OK.drawn (by decide +kernel) ?_
    | refine OK.tree ⟨lookT tis, fun _ => true, []⟩ (by decide +kernel) ?_
    | refine OK.both ?_ ?_
    | refine OK.need (by first | assumption | (rw [hA]; first | (show (_ : Int) ≠ _; decide) | (show (0 : Int) ≤ _; decide) | (show (0 : Int) ≤ _ ∧ _ < (256 : Int); decide))) ?_
    | refine OK.need ?_ ?_
    | (refine OK.branch ?_ ?_ <;> intro h)
    | (refine F.hold hA 2000 ?_; cbv))
  all_goals first
    | (exfalso; have h0 := ‹A.cmp .eql 64 32 = true›; subst hA; cases h0)
    | skip
  refine F.call [] (mul64_ok x y hp) rfl rfl rfl fun rs H' hq => ?_
  obtain ⟨h, l, rfl, rfl, hh, hl⟩ := hq
  refine ⟨rfl, ?_⟩
  repeat' (first
    | refine OK.drawn (by decide +kernel) ?_
    | refine OK.tree ⟨lookT tis, fun _ => true, []⟩ (by decide +kernel) ?_
    | refine OK.both ?_ ?_
    | refine OK.need (by first | assumption | (rw [hA]; first | (show (_ : Int) ≠ _; decide) | (show (0 : Int) ≤ _; decide) | (show (0 : Int) ≤ _ ∧ _ < (256 : Int); decide))) ?_
    | refine OK.need ?_ ?_
    | (refine OK.branch ?_ ?_ <;> intro h)
    | (refine F.hold hA 2000 ?_; cbv))
  exact F.ret0 ⟨_, _, rfl, rfl, hh, hl⟩
structure RepP (n : Int) : Prop where
  lo : 0 ≤ n
  hi : n ≤ 100000
structure RepA (A : Leaf) (a n : Int) : Prop where
  c1 : A.conv .u64 (A.len [a]) = 1
  c2 : A.conv .u64 n = n
  c3 : A.conv .i64 n = n
  neg : A.cmp .lss n 0 = true → False
  m : MulP (A.conv .u64 (A.len [a])) (A.conv .u64 n)
theorem repA {A : Leaf} {a n : Int} (hA : A = .std) (hp : RepP n) : RepA A a n := by
  obtain ⟨h0, h1⟩ := hp
  subst hA
  have c1 : Leaf.std.conv .u64 (Leaf.std.len [a]) = 1 := l_conv_u64 (a := 1) (by decide) (by decide)
  have c2 : Leaf.std.conv .u64 n = n := l_conv_u64 h0 (by omega)
  refine ⟨c1, c2, l_conv_i64 (by omega) (by omega), fun h => ?_, ?_⟩
  · have h : n < 0 := of_decide_eq_true h
    omega
  · rw [c1, c2]; exact ⟨by decide, by decide, h0, by omega⟩
structure RepB (A : Leaf) (n h l : Int) : Prop where
  hh : A.cmp .gtr h 0 = true → False
  hl : A.cmp .gtr l 9223372036854775807 = true → False
  e : A.conv .i64 l = n
theorem repB {A : Leaf} {a n h l : Int} (hA : A = .std) (hp : RepP n) (hh : h = 0) (hl : l = A.conv .u64 (A.len [a]) * A.conv .u64 n) : RepB A n h l := by
  have hr := repA (a := a) hA hp
  rw [hr.c1, hr.c2, Int.one_mul] at hl
  obtain ⟨h0, h1⟩ := hp
  subst hh hl
  refine ⟨fun h => ?_, fun h => ?_, hr.c3⟩
  · subst hA
    have h : (0 : Int) < 0 := of_decide_eq_true h
    omega
  · subst hA
    have h : (9223372036854775807 : Int) < l := of_decide_eq_true h
    omega
def RpInv (a n : Int) (w : Int × List Int) : Prop := ∃ k : Nat, w.1 = k ∧ k ≤ n.toNat ∧ (0 < n → 0 < k) ∧ w.2 = List.replicate k a ++ List.replicate (n.toNat - k) 0
structure RepC (A : Leaf) (a n l : Int) : Prop where
  q1 : A.small (A.conv .i64 l) 8
  q2 : A.slb 0 (A.conv .i64 l) (A.conv .i64 l)
  z : RpInv a n (A.imin (A.len [a]) (A.ar .sub .i64 (A.len (A.rep (A.conv .i64 l) (0 : Int))) 0), A.app (A.app (A.sub (A.rep (A.conv .i64 l) (0 : Int)) 0 0) (A.sub [a] 0 (A.imin (A.len [a]) (A.ar .sub .i64 (A.len (A.rep (A.conv .i64 l) (0 : Int))) 0)))) (A.sub (A.rep (A.conv .i64 l) (0 : Int)) (A.ar .add .i64 0 (A.imin (A.len [a]) (A.ar .sub .i64 (A.len (A.rep (A.conv .i64 l) (0 : Int))) 0))) (A.len (A.rep (A.conv .i64 l) (0 : Int)))))
theorem repC {A : Leaf} {a n h l : Int} (hA : A = .std) (hp : RepP n) (hb : RepB A n h l) : RepC A a n l := by
  obtain ⟨h0, h1⟩ := hp
  have e := hb.e
  refine ⟨?_, ?_, ?_⟩
  · rw [e]; subst hA
    show (0 : Int) ≤ n ∧ n ≤ (140737488355328 : Int) ∧ n * ((8 : Nat) : Int) ≤ (140737488355328 : Int)
    omega
  · rw [e]; subst hA
    show (0 : Int) ≤ 0 ∧ (0 : Int) ≤ n ∧ n ≤ n
    omega
  · rw [e]
    subst hA
    have er : Leaf.std.rep n (0 : Int) = List.replicate n.toNat 0 := rfl
    have el : Leaf.std.len (List.replicate n.toNat (0 : Int)) = n := by
      show (((List.replicate n.toNat (0 : Int)).length : Nat) : Int) = n
      rw [List.length_replicate]; omega
    have es : Leaf.std.ar .sub .i64 n 0 = n := by rw [sub_i64 (by omega) (by omega)]; omega
    have ea : Leaf.std.len [a] = 1 := rfl
    have em : Leaf.std.imin 1 n = if n < 1 then n else 1 := rfl
    rw [er, el, es, ea, em]
    split
    · have : n = 0 := by omega
      subst this
      exact ⟨0, rfl, Nat.le_refl _, fun h => absurd h (by decide), rfl⟩
    · have e2 : Leaf.std.ar .add .i64 0 1 = 1 := by rw [add_i64 (by decide) (by decide)]; rfl
      rw [e2]
      refine ⟨1, rfl, by omega, fun _ => by decide, ?_⟩
      show ((List.replicate n.toNat (0 : Int)).drop 0).take 0 ++ ([a].drop 0).take 1 ++ ((List.replicate n.toNat (0 : Int)).drop 1).take (n - 1).toNat = _
      rw [List.take_zero, List.nil_append, List.drop_replicate, List.take_replicate]
      have e3 : min (n - 1).toNat (n.toNat - 1) = n.toNat - 1 := by omega
      rw [e3]
      rfl
structure RpAt (A : Leaf) (a n k : Int) (row : List Int) : Prop where
  q1 : A.slb k (A.len row) (A.len row)
  q2 : A.slb 0 k (A.len row)
  nx : RpInv a n (A.ar .add .i64 k (A.imin (A.len (A.sub row 0 k)) (A.ar .sub .i64 (A.len row) k)), A.app (A.app (A.sub row 0 k) (A.sub (A.sub row 0 k) 0 (A.imin (A.len (A.sub row 0 k)) (A.ar .sub .i64 (A.len row) k)))) (A.sub row (A.ar .add .i64 k (A.imin (A.len (A.sub row 0 k)) (A.ar .sub .i64 (A.len row) k))) (A.len row)))
  mu : (n - A.ar .add .i64 k (A.imin (A.len (A.sub row 0 k)) (A.ar .sub .i64 (A.len row) k))).toNat < (n - k).toNat
theorem RpInv.len {a n k : Int} {row : List Int} (hp : RepP n) (h : RpInv a n (k, row)) : (row.length : Int) = n := by
  obtain ⟨j, e, h1, _, h2⟩ := h
  have := hp.lo
  simp only at h2
  rw [h2, List.length_append, List.length_replicate, List.length_replicate]
  omega
theorem rpAt {A : Leaf} {a n k : Int} {row : List Int} (hA : A = .std) (hp : RepP n) (hI : RpInv a n (k, row)) (b4 : A.cmp .lss k (A.len row) = true) : RpAt A a n k row := by
  have hl := hI.len hp
  obtain ⟨h0, h1⟩ := hp
  obtain ⟨j, e, h2, h3, h4⟩ := hI
  simp only at e h4
  subst hA e
  have b4 : (j : Int) < (row.length : Int) := of_decide_eq_true b4
  have hj0 : 0 < j := h3 (by omega)
  have es : Leaf.std.sub row 0 (j : Int) = List.replicate j a := by
    show (row.drop 0).take ((j : Int) - 0).toNat = _
    rw [List.drop_zero, Int.sub_zero, Int.toNat_natCast, h4, List.take_left' (by simp)]
  have el : Leaf.std.len (List.replicate j a) = j := by
    show (((List.replicate j a).length : Nat) : Int) = j
    rw [List.length_replicate]
  have er : Leaf.std.len row = n := hl
  have ed : Leaf.std.ar .sub .i64 n (j : Int) = n - j := sub_i64 (by omega) (by omega)
  obtain ⟨c, hc⟩ : ∃ c : Nat, Leaf.std.imin (j : Int) (n - j) = c ∧ c = min j (n.toNat - j) := by
    refine ⟨_, ?_, rfl⟩
    show (if n - (j : Int) < (j : Int) then n - (j : Int) else (j : Int)) = _
    split <;> omega
  obtain ⟨hc, hc2⟩ := hc
  have ea : Leaf.std.ar .add .i64 (j : Int) (c : Int) = ((j + c : Nat) : Int) := by rw [add_i64 (by omega) (by omega)]; omega
  refine ⟨?_, ?_, ?_, ?_⟩
  · show (0 : Int) ≤ (j : Int) ∧ (j : Int) ≤ (row.length : Int) ∧ (row.length : Int) ≤ (row.length : Int); omega
  · show (0 : Int) ≤ 0 ∧ (0 : Int) ≤ (j : Int) ∧ (j : Int) ≤ (row.length : Int); omega
  · rw [es, el, er, ed, hc, ea]
    refine ⟨j + c, rfl, by omega, fun _ => by omega, ?_⟩
    show List.replicate j a ++ ((List.replicate j a).drop 0).take ((c : Int) - 0).toNat ++ (row.drop ((j + c : Nat) : Int).toNat).take (n - ((j + c : Nat) : Int)).toNat = _
    rw [List.drop_zero, Int.sub_zero, Int.toNat_natCast, Int.toNat_natCast, List.take_replicate, Nat.min_eq_left (show c ≤ j by omega), List.replicate_append_replicate, h4, List.drop_append, List.drop_of_length_le (by simp), List.nil_append, List.length_replicate, List.drop_replicate, List.take_replicate]
    congr 2
    omega
  · rw [es, el, er, ed, hc, ea]; omega
theorem RpInv.fin {A : Leaf} {a n k : Int} {row : List Int} (hA : A = .std) (hp : RepP n) (hI : RpInv a n (k, row)) (b4 : A.cmp .lss k (A.len row) = false) : row = List.replicate n.toNat a := by
  have hl := hI.len hp
  obtain ⟨j, e, h2, h3, h4⟩ := hI
  simp only at e h4
  subst hA e
  have b4 : ¬ (j : Int) < (row.length : Int) := of_decide_eq_false b4
  have : j = n.toNat := by omega
  subst this
  rw [h4, Nat.sub_self]
  simp
theorem repeat_ok (a n : Int) (hp : RepP n) : FOK Try.prog C1 32 (fun _ => false) [.ro (.ints .i64 [a]), .int .i64 n] [] (fun rs H => rs = [.ro (.ints .i64 (List.replicate n.toNat a))] ∧ H = [.gone]) := by
  refine fok_of (B := ⟨lookT tis, fun _ => false, []⟩) (tab1 _) (zero1 _) cod1 mix1 Try.func32 (by kernel_rfl) rfl rfl rfl fun X F => ?_
  obtain ⟨A, hA⟩ : ∃ A, A = Leaf.std := ⟨_, rfl⟩
  refine F.hold hA 2000 ?_
  cbv
  have hr := repA (a := a) hA hp
  repeat (first
    | refine OK.drawn (by decide +kernel) ?_
    | refine OK.tree ⟨lookT tis, fun _ => true, []⟩ (by decide +kernel) ?_
    | refine OK.need (by first | assumption | (rw [hA]; first | (show (_ : Int) ≠ _; decide) | (show (0 : Int) ≤ _; decide) | (show (0 : Int) ≤ _ ∧ _ < (256 : Int); decide))) ?_
    | (refine F.hold hA 2000 ?_; cbv))
  refine OK.branch (fun b1 => (hr.neg b1).elim) (fun b1 => ?_)
  repeat (first
    | refine OK.drawn (by decide +kernel) ?_
    | refine OK.tree ⟨lookT tis, fun _ => true, []⟩ (by decide +kernel) ?_
    | refine OK.need (by first | assumption | (rw [hA]; first | (show (_ : Int) ≠ _; decide) | (show (0 : Int) ≤ _; decide) | (show (0 : Int) ≤ _ ∧ _ < (256 : Int); decide))) ?_
    | (refine F.hold hA 2000 ?_; cbv))
  refine F.call [] (mul_ok (A.conv .u64 (A.len [a])) (A.conv .u64 n) hr.m) rfl rfl rfl fun rs H' hq => ?_
  obtain ⟨h, l, rfl, rfl, hh, hl⟩ := hq
  refine ⟨rfl, ?_⟩
  have hb := repB hA hp hh hl
  clear hh hl
  repeat (first
    | refine OK.drawn (by decide +kernel) ?_
    | refine OK.tree ⟨lookT tis, fun _ => true, []⟩ (by decide +kernel) ?_
    | refine OK.need (by first | assumption | (rw [hA]; first | (show (_ : Int) ≠ _; decide) | (show (0 : Int) ≤ _; decide) | (show (0 : Int) ≤ _ ∧ _ < (256 : Int); decide))) ?_
    | (refine F.hold hA 2000 ?_; cbv))
  refine OK.branch (fun b2 => (hb.hh b2).elim) (fun b2 => ?_)
  repeat (first
    | refine OK.drawn (by decide +kernel) ?_
    | refine OK.tree ⟨lookT tis, fun _ => true, []⟩ (by decide +kernel) ?_
    | refine OK.need (by first | assumption | (rw [hA]; first | (show (_ : Int) ≠ _; decide) | (show (0 : Int) ≤ _; decide) | (show (0 : Int) ≤ _ ∧ _ < (256 : Int); decide))) ?_
    | (refine F.hold hA 2000 ?_; cbv))
  refine OK.branch (fun b3 => (hb.hl b3).elim) (fun b3 => ?_)
  have hc := repC (a := a) hA hp hb
  have q1 := hc.q1
  have q2 := hc.q2
  repeat (first
    | refine OK.drawn (by decide +kernel) ?_
    | refine OK.tree ⟨lookT tis, fun _ => true, []⟩ (by decide +kernel) ?_
    | refine OK.need (by first | assumption | (rw [hA]; first | (show (_ : Int) ≠ _; decide) | (show (0 : Int) ≤ _; decide) | (show (0 : Int) ≤ _ ∧ _ < (256 : Int); decide))) ?_
    | (refine F.hold hA 2000 ?_; cbv))
  refine F.loop (V := Int × List Int) [7] (RpInv a n) (fun w => (n - w.1).toNat) (fun w => [(8, .int .i64 w.1)]) (fun w => [(0, .row 3 (.ints .i64 w.2))]) (_, _) (by cbv; repeat (first | exact WkH.nil _ | apply WkH.gone | refine WkH.eq rfl ?_)) (by cbv; repeat (first | apply WkL.any | exact WkL.nil _ | refine WkL.eq rfl ?_ | refine WkL.bool rfl ?_)) (by cbv; exact ⟨rfl⟩) ?_ ?_
  · exact hc.z
  rintro ⟨k, row⟩ hI Bk hBk
  repeat (first
    | refine OK.drawn (by decide +kernel) ?_
    | refine OK.tree ⟨lookT tis, fun _ => true, []⟩ (by decide +kernel) ?_
    | refine OK.need (by first | assumption | (rw [hA]; first | (show (_ : Int) ≠ _; decide) | (show (0 : Int) ≤ _; decide) | (show (0 : Int) ≤ _ ∧ _ < (256 : Int); decide))) ?_
    | (refine F.hold hA 2000 ?_; cbv))
  refine OK.branch (fun b4 => ?_) (fun b4 => ?_)
  · have hat := rpAt hA hp hI b4
    have q1 := hat.q1
    have q2 := hat.q2
    repeat' (first
      | refine OK.drawn (by decide +kernel) ?_
      | refine OK.tree ⟨lookT tis, fun _ => true, []⟩ (by decide +kernel) ?_
      | refine OK.both ?_ ?_
      | refine OK.need (by first | assumption | (rw [hA]; first | (show (_ : Int) ≠ _; decide) | (show (0 : Int) ≤ _; decide) | (show (0 : Int) ≤ _ ∧ _ < (256 : Int); decide))) ?_
      | refine OK.need ?_ ?_
      | (refine OK.branch ?_ ?_ <;> intro h)
      | (refine F.hold hA 2000 ?_; cbv))
    all_goals
      refine OK.back (hBk _ _ (_, _) (by cbv; repeat (first | exact WkH.nil _ | apply WkH.gone | refine WkH.eq rfl ?_)) (by cbv; repeat (first | apply WkL.any | exact WkL.nil _ | refine WkL.eq rfl ?_ | refine WkL.bool rfl ?_)) (by cbv; exact ⟨rfl⟩) ?_ ?_)
      · exact hat.nx
      · exact hat.mu
  · repeat (first
      | refine OK.drawn (by decide +kernel) ?_
      | refine OK.tree ⟨lookT tis, fun _ => true, []⟩ (by decide +kernel) ?_
      | refine OK.need (by first | assumption | (rw [hA]; first | (show (_ : Int) ≠ _; decide) | (show (0 : Int) ≤ _; decide) | (show (0 : Int) ≤ _ ∧ _ < (256 : Int); decide))) ?_
      | (refine F.hold hA 2000 ?_; cbv))
    refine F.ret (rs' := [.ro (.ints .i64 row)]) (H' := [.gone]) (Cv.freeze F.cod 0 rfl) rfl ⟨?_, rfl⟩
    rw [hI.fin hA hp b4]
def Rep1 (a : Int) (n : Nat) (l : List Int) : Prop := l = List.replicate n a
theorem repeat_ok1 (a n : Int) (m : Nat) (hm : n.toNat = m) (hp : RepP n) : FOK Try.prog C1 32 (fun _ => false) [.ro (.ints .i64 [a]), .int .i64 n] [] (fun rs H => ∃ l, rs = [.ro (.ints .i64 l)] ∧ H = [.gone] ∧ Rep1 a m l) :=
  (repeat_ok a n hp).mono fun rs H h => ⟨_, h.1, h.2, by rw [← hm]; rfl⟩
theorem Rep1.len {a : Int} {n : Nat} {l : List Int} (h : Rep1 a n l) : l.length = n := by rw [show l = _ from h]; simp
end Go.L1

-- E11
namespace Go.L1
open Go Go.Sx Go.Proofs Go.L5 Go.Huff
set_option maxRecDepth 20000
set_option linter.unusedVariables false
set_option linter.unusedSimpArgs false
theorem span_ok (s x m : Int) : FOK Try.prog C1 43 (fun _ => true) [.int .i64 m, .ptr 0 0] [.cells 33 [.int .i64 s, .int .i64 x]]
    (fun rs H => ∃ b, rs = [.bool (.e b)] ∧ H = [.cells 33 [.int .i64 s, .int .i64 x]] ∧ (b = true ↔ 0 ≤ x ∧ x ≤ m)) := by
  refine fok_of (B := ⟨lookT tis, fun _ => true, []⟩) (tab1 _) (zero1 _) cod1 mix1 Try.func43 (by kernel_rfl) rfl rfl rfl fun X F => ?_
  obtain ⟨A, hA⟩ : ∃ A, A = Leaf.std := ⟨_, rfl⟩
  refine F.hold hA 2000 ?_
  cbv
  repeat (first
    | refine OK.drawn (by decide +kernel) ?_
    | refine OK.tree ⟨lookT tis, fun _ => true, []⟩ (by decide +kernel) ?_
    | refine OK.need (by first | assumption | (rw [hA]; first | (show (_ : Int) ≠ _; decide) | (show (0 : Int) ≤ _; decide) | (show (0 : Int) ≤ _ ∧ _ < (256 : Int); decide))) ?_
    | (refine F.hold hA 2000 ?_; cbv))
  refine OK.branch (fun h => ?_) (fun h => ?_)
  · repeat (first
      | refine OK.drawn (by decide +kernel) ?_
      | refine OK.tree ⟨lookT tis, fun _ => true, []⟩ (by decide +kernel) ?_
      | refine OK.need (by first | assumption | (rw [hA]; first | (show (_ : Int) ≠ _; decide) | (show (0 : Int) ≤ _; decide) | (show (0 : Int) ≤ _ ∧ _ < (256 : Int); decide))) ?_
      | (refine F.hold hA 2000 ?_; cbv))
    refine F.retE rfl ⟨_, rfl, rfl, ?_⟩
    subst hA
    have h : (0 : Int) ≤ x := of_decide_eq_true h
    show decide (x ≤ m) = true ↔ _
    rw [decide_eq_true_iff]
    omega
  · repeat (first
      | refine OK.drawn (by decide +kernel) ?_
      | refine OK.tree ⟨lookT tis, fun _ => true, []⟩ (by decide +kernel) ?_
      | refine OK.need (by first | assumption | (rw [hA]; first | (show (_ : Int) ≠ _; decide) | (show (0 : Int) ≤ _; decide) | (show (0 : Int) ≤ _ ∧ _ < (256 : Int); decide))) ?_
      | (refine F.hold hA 2000 ?_; cbv))
    refine F.retE rfl ⟨_, rfl, rfl, ?_⟩
    subst hA
    have h : ¬ (0 : Int) ≤ x := of_decide_eq_false h
    show false = true ↔ _
    simp; omega
def ItRes (s x : Int) (l : List Int) (v n : Int) (ok : Bool) : Prop := (ok = true ∧ 1 ≤ n ∧ n ≤ 138 ∧ rowR (s, x) l = some (List.replicate n.toNat v)) ∨ (ok = false ∧ rowR (s, x) l = none)
structure ItP (l : List Int) : Prop where
  le : l.length ≤ 320
theorem it_neg {s x : Int} {l : List Int} {v n : Int} (h : s < 0 ∨ 19 ≤ s) : ItRes s x l v n false := by
  refine .inr ⟨rfl, ?_⟩
  unfold rowR
  rw [if_neg (by simp only; omega), if_neg (by simp only; omega), if_neg (by simp only; omega), if_neg (by simp only; omega)]
theorem it_one {A : Leaf} {s x : Int} {l : List Int} (hA : A = .std) (h1 : 0 ≤ s) (h2 : s ≤ 15) : ItRes s x l s 1 (A.cmp .eql x 0) := by
  subst hA
  show ItRes s x l s 1 (x == 0)
  by_cases h : x = 0
  · subst h
    refine .inl ⟨rfl, by decide, by decide, ?_⟩
    unfold rowR
    rw [if_pos ⟨h1, h2⟩, if_pos rfl]; rfl
  · refine .inr ⟨by simpa using h, ?_⟩
    unfold rowR
    rw [if_pos ⟨h1, h2⟩, if_neg h]
theorem it_16e {s x : Int} {l : List Int} {v n : Int} (hs : s = 16) (h : l = [] ∨ ¬ (0 ≤ x ∧ x ≤ 3)) : ItRes s x l v n false := by
  subst hs
  refine .inr ⟨rfl, ?_⟩
  unfold rowR
  rw [if_neg (by simp only; omega), if_pos rfl, if_pos h]
theorem it_16 {A : Leaf} {s x : Int} {l : List Int} (hA : A = .std) (hp : ItP l) (hs : s = 16) (h : l ≠ []) (h2 : 0 ≤ x ∧ x ≤ 3) : ItRes s x l (A.get 0 l (A.ar .sub .i64 (A.len l) 1)) (A.ar .add .i64 3 x) true := by
  have := hp.le
  subst hA hs
  have hl : 0 < l.length := List.length_pos_iff.2 h
  have e1 : Leaf.std.ar .add .i64 3 x = 3 + x := add_i64 (by omega) (by omega)
  have e2 : Leaf.std.ar .sub .i64 (Leaf.std.len l) 1 = ((l.length - 1 : Nat) : Int) := by
    have := sub_i64 (a := (l.length : Int)) (b := 1) (by omega) (by omega)
    show Leaf.std.ar .sub .i64 (l.length : Int) 1 = _
    rw [this]; omega
  have e3 : Leaf.std.get 0 l ((l.length - 1 : Nat) : Int) = l.getD (l.length - 1) 0 := by show l.getD _ 0 = _; rw [Int.toNat_natCast]
  rw [e1, e2, e3]
  refine .inl ⟨rfl, by omega, by omega, ?_⟩
  unfold rowR
  rw [if_neg (by simp only; omega), if_pos rfl, if_neg (fun hh => hh.elim h (fun h3 => h3 h2))]
theorem it_17 {A : Leaf} {s x : Int} {l : List Int} {b : Bool} (hA : A = .std) (hs : s = 17) (hb : b = true ↔ 0 ≤ x ∧ x ≤ 7) : ItRes s x l 0 (A.ar .add .i64 3 x) b := by
  subst hA hs
  cases b with
  | true =>
    have h := hb.1 rfl
    have e1 : Leaf.std.ar .add .i64 3 x = 3 + x := add_i64 (by omega) (by omega)
    rw [e1]
    refine .inl ⟨rfl, by omega, by omega, ?_⟩
    unfold rowR
    rw [if_neg (by simp only; omega), if_neg (by simp only; omega), if_pos rfl, if_pos h]
  | false =>
    refine .inr ⟨rfl, ?_⟩
    unfold rowR
    rw [if_neg (by simp only; omega), if_neg (by simp only; omega), if_pos rfl, if_neg (fun h => by cases hb.2 h)]
theorem it_18 {A : Leaf} {s x : Int} {l : List Int} {b : Bool} (hA : A = .std) (hs : s = 18) (hb : b = true ↔ 0 ≤ x ∧ x ≤ 127) : ItRes s x l 0 (A.ar .add .i64 11 x) b := by
  subst hA hs
  cases b with
  | true =>
    have h := hb.1 rfl
    have e1 : Leaf.std.ar .add .i64 11 x = 11 + x := add_i64 (by omega) (by omega)
    rw [e1]
    refine .inl ⟨rfl, by omega, by omega, ?_⟩
    unfold rowR
    rw [if_neg (by simp only; omega), if_neg (by simp only; omega), if_neg (by simp only; omega), if_pos rfl, if_pos h]
  | false =>
    refine .inr ⟨rfl, ?_⟩
    unfold rowR
    rw [if_neg (by simp only; omega), if_neg (by simp only; omega), if_neg (by simp only; omega), if_pos rfl, if_neg (fun h => by cases hb.2 h)]
theorem lenT {A : Leaf} {l : List Int} (hA : A = .std) (h : A.cmp .eql (A.len l) 0 = true) : l = [] := by
  have := eqT hA h
  subst hA
  have : (l.length : Int) = 0 := this
  exact List.eq_nil_of_length_eq_zero (by omega)
theorem lenF {A : Leaf} {l : List Int} (hA : A = .std) (h : A.cmp .eql (A.len l) 0 = false) : l ≠ [] ∧ A.inb (A.ar .sub .i64 (A.len l) 1) (A.len l) ∨ 9223372036854775808 < l.length := by
  have := eqF hA h
  subst hA
  have : (l.length : Int) ≠ 0 := this
  rcases Nat.lt_or_ge 9223372036854775808 l.length with h | h
  · exact .inr h
  · left
    have e2 : Leaf.std.ar .sub .i64 (Leaf.std.len l) 1 = (l.length : Int) - 1 := by
      have := sub_i64 (a := (l.length : Int)) (b := 1) (by omega) (by omega)
      exact this
    rw [e2]
    refine ⟨fun hl => by subst hl; exact this rfl, ?_⟩
    show (0 : Int) ≤ (l.length : Int) - 1 ∧ (l.length : Int) - 1 < (l.length : Int)
    omega
theorem row_ok6 (s x : Int) (l : List Int) (hp : ItP l) : FOK Try.prog C1 31 (fun _ => true) [.agg [.int .i64 s, .int .i64 x], .own 0] [.row 3 (.ints .i64 l)]
    (fun rs H => ∃ v n ok, rs = [.int .i64 v, .int .i64 n, .bool (.e ok)] ∧ H = [.row 3 (.ints .i64 l)] ∧ ItRes s x l v n ok) := by
  refine fok_of (B := ⟨lookT tis, fun _ => true, []⟩) (tab1 _) (zero1 _) cod1 mix1 Try.func31 (by kernel_rfl) rfl rfl rfl fun X F => ?_
  obtain ⟨A, hA⟩ : ∃ A, A = Leaf.std := ⟨_, rfl⟩
  refine F.hold hA 2000 ?_
  cbv
  repeat (first
    | refine OK.drawn (by decide +kernel) ?_
    | refine OK.tree ⟨lookT tis, fun _ => true, []⟩ (by decide +kernel) ?_
    | refine OK.need (by first | assumption | (rw [hA]; first | (show (_ : Int) ≠ _; decide) | (show (0 : Int) ≤ _; decide) | (show (0 : Int) ≤ _ ∧ _ < (256 : Int); decide))) ?_
    | (refine F.hold hA 2000 ?_; cbv))
  refine OK.branch (fun b1 => ?_) (fun b1 => ?_)
  · repeat (first
      | refine OK.drawn (by decide +kernel) ?_
      | refine OK.tree ⟨lookT tis, fun _ => true, []⟩ (by decide +kernel) ?_
      | refine OK.need (by first | assumption | (rw [hA]; first | (show (_ : Int) ≠ _; decide) | (show (0 : Int) ≤ _; decide) | (show (0 : Int) ≤ _ ∧ _ < (256 : Int); decide))) ?_
      | (refine F.hold hA 2000 ?_; cbv))
    refine F.ret (rs' := [_, _, .bool (.e _)]) (H' := [_]) ((Cv.unlit _ _).trans (F.cv ⟨rfl⟩ (.eq rfl (.eq rfl (.eq rfl (.nil _)))) (.eq rfl (.nil _)))) rfl ⟨_, _, _, rfl, rfl, ?_⟩
    subst hA
    exact it_neg (.inl (of_decide_eq_true (p := s < 0) b1))
  repeat (first
    | refine OK.drawn (by decide +kernel) ?_
    | refine OK.tree ⟨lookT tis, fun _ => true, []⟩ (by decide +kernel) ?_
    | refine OK.need (by first | assumption | (rw [hA]; first | (show (_ : Int) ≠ _; decide) | (show (0 : Int) ≤ _; decide) | (show (0 : Int) ≤ _ ∧ _ < (256 : Int); decide))) ?_
    | (refine F.hold hA 2000 ?_; cbv))
  refine OK.branch (fun b2 => ?_) (fun b2 => ?_)
  · repeat (first
      | refine OK.drawn (by decide +kernel) ?_
      | refine OK.tree ⟨lookT tis, fun _ => true, []⟩ (by decide +kernel) ?_
      | refine OK.need (by first | assumption | (rw [hA]; first | (show (_ : Int) ≠ _; decide) | (show (0 : Int) ≤ _; decide) | (show (0 : Int) ≤ _ ∧ _ < (256 : Int); decide))) ?_
      | (refine F.hold hA 2000 ?_; cbv))
    refine F.ret (rs' := [_, _, .bool (.e _)]) (H' := [_]) ((Cv.unlit _ _).trans (F.cv ⟨rfl⟩ (.eq rfl (.eq rfl (.eq rfl (.nil _)))) (.eq rfl (.nil _)))) rfl ⟨_, _, _, rfl, rfl, ?_⟩
    subst hA
    exact it_neg (.inr (of_decide_eq_true (p := (19 : Int) ≤ s) b2))
  repeat (first
    | refine OK.drawn (by decide +kernel) ?_
    | refine OK.tree ⟨lookT tis, fun _ => true, []⟩ (by decide +kernel) ?_
    | refine OK.need (by first | assumption | (rw [hA]; first | (show (_ : Int) ≠ _; decide) | (show (0 : Int) ≤ _; decide) | (show (0 : Int) ≤ _ ∧ _ < (256 : Int); decide))) ?_
    | (refine F.hold hA 2000 ?_; cbv))
  refine OK.branch (fun b3 => ?_) (fun b3 => ?_)
  · repeat' (first
      | refine OK.drawn (by decide +kernel) ?_
      | refine OK.tree ⟨lookT tis, fun _ => true, []⟩ (by decide +kernel) ?_
      | refine OK.both ?_ ?_
      | refine OK.need (by first | assumption | (rw [hA]; first | (show (_ : Int) ≠ _; decide) | (show (0 : Int) ≤ _; decide) | (show (0 : Int) ≤ _ ∧ _ < (256 : Int); decide))) ?_
      | refine OK.need ?_ ?_
      | (refine OK.branch ?_ ?_ <;> intro h)
      | (refine F.hold hA 2000 ?_; cbv))
    all_goals
      refine F.ret (rs' := [_, _, .bool (.e _)]) (H' := [_]) ((Cv.unlit _ _).trans (F.cv ⟨rfl⟩ (.eq rfl (.eq rfl (.eq rfl (.nil _)))) (.eq rfl (.nil _)))) rfl ⟨_, _, _, rfl, rfl, ?_⟩
      have h1 : ¬ s < 0 := by subst hA; exact of_decide_eq_false b1
      have h3 : s ≤ 15 := by subst hA; exact of_decide_eq_true b3
      exact it_one hA (by omega) h3
  repeat (first
    | refine OK.drawn (by decide +kernel) ?_
    | refine OK.tree ⟨lookT tis, fun _ => true, []⟩ (by decide +kernel) ?_
    | refine OK.need (by first | assumption | (rw [hA]; first | (show (_ : Int) ≠ _; decide) | (show (0 : Int) ≤ _; decide) | (show (0 : Int) ≤ _ ∧ _ < (256 : Int); decide))) ?_
    | (refine F.hold hA 2000 ?_; cbv))
  refine OK.branch (fun b4 => ?_) (fun b4 => ?_)
  · have hs := eqT hA b4
    repeat (first
      | refine OK.drawn (by decide +kernel) ?_
      | refine OK.tree ⟨lookT tis, fun _ => true, []⟩ (by decide +kernel) ?_
      | refine OK.need (by first | assumption | (rw [hA]; first | (show (_ : Int) ≠ _; decide) | (show (0 : Int) ≤ _; decide) | (show (0 : Int) ≤ _ ∧ _ < (256 : Int); decide))) ?_
      | (refine F.hold hA 2000 ?_; cbv))
    refine OK.branch (fun b5 => ?_) (fun b5 => ?_)
    · repeat (first
        | refine OK.drawn (by decide +kernel) ?_
        | refine OK.tree ⟨lookT tis, fun _ => true, []⟩ (by decide +kernel) ?_
        | refine OK.need (by first | assumption | (rw [hA]; first | (show (_ : Int) ≠ _; decide) | (show (0 : Int) ≤ _; decide) | (show (0 : Int) ≤ _ ∧ _ < (256 : Int); decide))) ?_
        | (refine F.hold hA 2000 ?_; cbv))
      refine F.ret (rs' := [_, _, .bool (.e _)]) (H' := [_]) ((Cv.unlit _ _).trans (F.cv ⟨rfl⟩ (.eq rfl (.eq rfl (.eq rfl (.nil _)))) (.eq rfl (.nil _)))) rfl ⟨_, _, _, rfl, rfl, ?_⟩
      exact it_16e hs (.inl (lenT hA b5))
    · repeat (first
        | refine OK.drawn (by decide +kernel) ?_
        | refine OK.tree ⟨lookT tis, fun _ => true, []⟩ (by decide +kernel) ?_
        | refine OK.need (by first | assumption | (rw [hA]; first | (show (_ : Int) ≠ _; decide) | (show (0 : Int) ≤ _; decide) | (show (0 : Int) ≤ _ ∧ _ < (256 : Int); decide))) ?_
        | (refine F.hold hA 2000 ?_; cbv))
      refine F.call [1] (span_ok s x 3) rfl rfl rfl fun rs H' hq => ?_
      obtain ⟨b, rfl, rfl, hb⟩ := hq
      refine ⟨rfl, ?_⟩
      repeat (first
        | refine OK.drawn (by decide +kernel) ?_
        | refine OK.tree ⟨lookT tis, fun _ => true, []⟩ (by decide +kernel) ?_
        | refine OK.need (by first | assumption | (rw [hA]; first | (show (_ : Int) ≠ _; decide) | (show (0 : Int) ≤ _; decide) | (show (0 : Int) ≤ _ ∧ _ < (256 : Int); decide))) ?_
        | (refine F.hold hA 2000 ?_; cbv))
      refine OK.branch (fun b6 => ?_) (fun b6 => ?_)
      · repeat (first
          | refine OK.drawn (by decide +kernel) ?_
          | refine OK.tree ⟨lookT tis, fun _ => true, []⟩ (by decide +kernel) ?_
          | refine OK.need (by first | assumption | (rw [hA]; first | (show (_ : Int) ≠ _; decide) | (show (0 : Int) ≤ _; decide) | (show (0 : Int) ≤ _ ∧ _ < (256 : Int); decide))) ?_
          | (refine F.hold hA 2000 ?_; cbv))
        refine F.ret (rs' := [_, _, .bool (.e _)]) (H' := [_]) ((Cv.unlit _ _).trans (F.cv ⟨rfl⟩ (.eq rfl (.eq rfl (.eq rfl (.nil _)))) (.eq rfl (.nil _)))) rfl ⟨_, _, _, rfl, rfl, ?_⟩
        refine it_16e hs (.inr fun h => ?_)
        have := hb.2 h
        subst this hA
        cases b6
      · have hbt : b = true := by subst hA; cases b; cases b6; rfl
        have hl : l ≠ [] ∧ A.inb (A.ar .sub .i64 (A.len l) 1) (A.len l) := (lenF hA b5).elim id (fun h => by have := hp.le; omega)
        have q1 := hl.2
        repeat' (first
          | refine OK.drawn (by decide +kernel) ?_
          | refine OK.tree ⟨lookT tis, fun _ => true, []⟩ (by decide +kernel) ?_
          | refine OK.both ?_ ?_
          | refine OK.need (by first | assumption | (rw [hA]; first | (show (_ : Int) ≠ _; decide) | (show (0 : Int) ≤ _; decide) | (show (0 : Int) ≤ _ ∧ _ < (256 : Int); decide))) ?_
          | refine OK.need ?_ ?_
          | (refine OK.branch ?_ ?_ <;> intro h)
          | (refine F.hold hA 2000 ?_; cbv))
        all_goals
          refine F.ret (rs' := [_, _, .bool (.e _)]) (H' := [_]) ((Cv.unlit _ _).trans (F.cv ⟨rfl⟩ (.eq rfl (.eq rfl (.eq rfl (.nil _)))) (.eq rfl (.nil _)))) rfl ⟨_, _, _, rfl, rfl, ?_⟩
          exact it_16 hA hp hs hl.1 (hb.1 hbt)
  repeat (first
    | refine OK.drawn (by decide +kernel) ?_
    | refine OK.tree ⟨lookT tis, fun _ => true, []⟩ (by decide +kernel) ?_
    | refine OK.need (by first | assumption | (rw [hA]; first | (show (_ : Int) ≠ _; decide) | (show (0 : Int) ≤ _; decide) | (show (0 : Int) ≤ _ ∧ _ < (256 : Int); decide))) ?_
    | (refine F.hold hA 2000 ?_; cbv))
  refine OK.branch (fun b5 => ?_) (fun b5 => ?_)
  · have hs := eqT hA b5
    repeat' (first
      | refine OK.drawn (by decide +kernel) ?_
      | refine OK.tree ⟨lookT tis, fun _ => true, []⟩ (by decide +kernel) ?_
      | refine OK.both ?_ ?_
      | refine OK.need (by first | assumption | (rw [hA]; first | (show (_ : Int) ≠ _; decide) | (show (0 : Int) ≤ _; decide) | (show (0 : Int) ≤ _ ∧ _ < (256 : Int); decide))) ?_
      | refine OK.need ?_ ?_
      | (refine OK.branch ?_ ?_ <;> intro h)
      | (refine F.hold hA 2000 ?_; cbv))
    all_goals
      refine F.call [1] (span_ok s x 7) rfl rfl rfl fun rs H' hq => ?_
      obtain ⟨b, rfl, rfl, hb⟩ := hq
      refine ⟨rfl, ?_⟩
      repeat' (first
        | refine OK.drawn (by decide +kernel) ?_
        | refine OK.tree ⟨lookT tis, fun _ => true, []⟩ (by decide +kernel) ?_
        | refine OK.both ?_ ?_
        | refine OK.need (by first | assumption | (rw [hA]; first | (show (_ : Int) ≠ _; decide) | (show (0 : Int) ≤ _; decide) | (show (0 : Int) ≤ _ ∧ _ < (256 : Int); decide))) ?_
        | refine OK.need ?_ ?_
        | (refine OK.branch ?_ ?_ <;> intro h)
        | (refine F.hold hA 2000 ?_; cbv))
      all_goals
        refine F.ret (rs' := [_, _, .bool (.e _)]) (H' := [_]) ((Cv.unlit _ _).trans (F.cv ⟨rfl⟩ (.eq rfl (.eq rfl (.eq rfl (.nil _)))) (.eq rfl (.nil _)))) rfl ⟨_, _, _, rfl, rfl, ?_⟩
        exact it_17 hA hs hb
  · have hs : s = 18 := by
      have h5 := eqF hA b5
      have h4 := eqF hA b4
      subst hA
      have h1 : ¬ s < 0 := of_decide_eq_false b1
      have h2 : ¬ (19 : Int) ≤ s := of_decide_eq_false b2
      have h3 : ¬ s ≤ 15 := of_decide_eq_false b3
      omega
    repeat' (first
      | refine OK.drawn (by decide +kernel) ?_
      | refine OK.tree ⟨lookT tis, fun _ => true, []⟩ (by decide +kernel) ?_
      | refine OK.both ?_ ?_
      | refine OK.need (by first | assumption | (rw [hA]; first | (show (_ : Int) ≠ _; decide) | (show (0 : Int) ≤ _; decide) | (show (0 : Int) ≤ _ ∧ _ < (256 : Int); decide))) ?_
      | refine OK.need ?_ ?_
      | (refine OK.branch ?_ ?_ <;> intro h)
      | (refine F.hold hA 2000 ?_; cbv))
    all_goals
      refine F.call [1] (span_ok s x 127) rfl rfl rfl fun rs H' hq => ?_
      obtain ⟨b, rfl, rfl, hb⟩ := hq
      refine ⟨rfl, ?_⟩
      repeat' (first
        | refine OK.drawn (by decide +kernel) ?_
        | refine OK.tree ⟨lookT tis, fun _ => true, []⟩ (by decide +kernel) ?_
        | refine OK.both ?_ ?_
        | refine OK.need (by first | assumption | (rw [hA]; first | (show (_ : Int) ≠ _; decide) | (show (0 : Int) ≤ _; decide) | (show (0 : Int) ≤ _ ∧ _ < (256 : Int); decide))) ?_
        | refine OK.need ?_ ?_
        | (refine OK.branch ?_ ?_ <;> intro h)
        | (refine F.hold hA 2000 ?_; cbv))
      all_goals
        refine F.ret (rs' := [_, _, .bool (.e _)]) (H' := [_]) ((Cv.unlit _ _).trans (F.cv ⟨rfl⟩ (.eq rfl (.eq rfl (.eq rfl (.nil _)))) (.eq rfl (.nil _)))) rfl ⟨_, _, _, rfl, rfl, ?_⟩
        exact it_18 hA hs hb
end Go.L1

-- E12
namespace Go.L1
open Go Go.Sx Go.Proofs Go.L5 Go.Huff
set_option maxRecDepth 20000
set_option linter.unusedVariables false
set_option linter.unusedSimpArgs false
def itL (items : List Pr) : List (Int × Int) := items.map fun x => (x.a, x.b)
structure UnP (items : List Pr) : Prop where
  n : items.length ≤ 100000
def UnInv (items : List Pr) (w : List Int × Int) : Prop := ∃ j : Nat, w.2 = j ∧ j ≤ items.length ∧ w.1.length ≤ 320 ∧ unpackR (itL items) [] = unpackR (itL (items.drop j)) w.1
def UnIs (items : List Pr) (rs : List (SV T1)) (H : List (Ch T1)) : Prop :=
  (∃ l, rs = [.ro (.ints .i64 l), .bool (.lit true)] ∧ H = [] ∧ unpackR (itL items) [] = some l ∧ l.length ≤ 320) ∨ (rs = [.val (.slice none 0 0), .bool (.lit false)] ∧ H = [] ∧ unpackR (itL items) [] = none)
structure UnAt (A : Leaf) (items : List Pr) (o : List Int) (i : Int) (x : Pr) : Prop where
  q : A.inb i (A.len items)
  ip : ItP o
  xe : A.get ⟨0, 0⟩ items i = x
  e : unpackR (itL items) [] = match rowR (x.a, x.b) o with
    | some m => if o.length + m.length ≤ 320 then unpackR (itL (items.drop (i.toNat + 1))) (o ++ m) else none
    | none => none
  i0 : 0 ≤ i
  i1 : i < items.length
  nn : items.length ≤ 100000
theorem unAt {A : Leaf} {items : List Pr} {o : List Int} {i : Int} (hA : A = .std) (hp : UnP items) (hI : UnInv items (o, i)) (b1 : A.cmp .lss i (A.len items) = true) : UnAt A items o i (A.get ⟨0, 0⟩ items i) := by
  obtain ⟨j, e, h1, h2, h3⟩ := hI
  have hn := hp.n
  simp only at e h2 h3
  subst hA e
  have b1 : (j : Int) < (items.length : Int) := of_decide_eq_true b1
  have hj : j < items.length := by omega
  have eg : Leaf.std.get ⟨0, 0⟩ items (j : Int) = items[j] := by show items.getD _ _ = _; rw [Int.toNat_natCast]; simp [hj]
  refine ⟨?_, ⟨h2⟩, rfl, ?_, by omega, by omega, hn⟩
  · show (0 : Int) ≤ (j : Int) ∧ (j : Int) < (items.length : Int); omega
  · rw [h3, eg, Int.toNat_natCast, List.drop_eq_getElem_cons hj]
    show unpackR ((items[j].a, items[j].b) :: itL (items.drop (j + 1))) o = _
    rw [unpackR]
    cases rowR (items[j].a, items[j].b) o <;> rfl
structure UnB (A : Leaf) (items : List Pr) (o : List Int) (i v n : Int) (ok : Bool) : Prop where
  e1 : A.bnot ok = true → unpackR (itL items) [] = none
  e2 : A.bnot ok = false → A.cmp .gtr (A.ar .add .i64 (A.len o) n) 320 = true → unpackR (itL items) [] = none
  p : A.bnot ok = false → RepP n
  q : A.bnot ok = false → A.cmp .gtr (A.ar .add .i64 (A.len o) n) 320 = false → ∀ l, Rep1 v n.toNat l → A.small (A.len (A.app o l)) 8 ∧ UnInv items (A.app o l, A.ar .add .i64 i 1) ∧ (items.length - A.ar .add .i64 i 1).toNat < (items.length - i).toNat
theorem unB {A : Leaf} {items : List Pr} {o : List Int} {i v n : Int} {ok : Bool} {x : Pr} (hA : A = .std) (h : UnAt A items o i x) (hr : ItRes x.a x.b o v n ok) : UnB A items o i v n ok := by
  have hip := h.ip.le
  have he := h.e
  have i0 := h.i0
  have i1 := h.i1
  have nn := h.nn
  subst hA
  rcases hr with ⟨rfl, n1, n2, hr⟩ | ⟨rfl, hr⟩
  · have ea : Leaf.std.ar .add .i64 (Leaf.std.len o) n = (o.length : Int) + n := add_i64 (a := (o.length : Int)) (b := n) (by omega) (by omega)
    have ei : Leaf.std.ar .add .i64 i 1 = i + 1 := add_i64 (by omega) (by omega)
    rw [hr] at he
    dsimp only at he
    refine ⟨fun h => (by cases h), fun _ h => ?_, fun _ => ⟨by omega, by omega⟩, fun _ h l hl => ?_⟩
    · rw [ea] at h
      have h : (320 : Int) < (o.length : Int) + n := of_decide_eq_true h
      rw [he, if_neg (by rw [List.length_replicate]; omega)]
    · rw [ea] at h
      have h : ¬ (320 : Int) < (o.length : Int) + n := of_decide_eq_false h
      rw [show l = _ from hl, ei]
      have el : (o ++ List.replicate n.toNat v).length = o.length + n.toNat := by rw [List.length_append, List.length_replicate]
      refine ⟨?_, ⟨i.toNat + 1, by simp only; omega, by omega, ?_, ?_⟩, by omega⟩
      · have e2 : Leaf.std.len (Leaf.std.app o (List.replicate n.toNat v)) = ((o.length + n.toNat : Nat) : Int) := by
          show (((o ++ List.replicate n.toNat v).length : Nat) : Int) = _
          rw [el]
        rw [e2]
        show (0 : Int) ≤ _ ∧ _ ≤ (140737488355328 : Int) ∧ _ * ((8 : Nat) : Int) ≤ (140737488355328 : Int)
        omega
      · show (o ++ List.replicate n.toNat v).length ≤ 320
        omega
      · rw [he, if_pos (by rw [List.length_replicate]; omega)]; rfl
  · rw [hr] at he
    exact ⟨fun _ => he, fun h => (by cases h), fun h => (by cases h), fun h => (by cases h)⟩
theorem UnInv.fin {A : Leaf} {items : List Pr} {o : List Int} {i : Int} (hA : A = .std) (hI : UnInv items (o, i)) (b1 : A.cmp .lss i (A.len items) = false) : unpackR (itL items) [] = some o ∧ o.length ≤ 320 := by
  obtain ⟨j, e, h1, h2, h3⟩ := hI
  simp only at e h2 h3
  subst hA e
  have b1 : ¬ (j : Int) < (items.length : Int) := of_decide_eq_false b1
  rw [List.drop_of_length_le (by omega)] at h3
  exact ⟨h3, h2⟩
theorem unpack_ok6 (items : List Pr) (hp : UnP items) : FOK Try.prog C1 12 (fun _ => false) [.ro (.recs 1 items)] [] (UnIs items) := by
  refine fok_of (B := ⟨lookT tis, fun _ => false, []⟩) (tab1 _) (zero1 _) cod1 mix1 Try.func12 (by kernel_rfl) rfl rfl rfl fun X F => ?_
  obtain ⟨A, hA⟩ : ∃ A, A = Leaf.std := ⟨_, rfl⟩
  refine F.hold hA 2000 ?_
  cbv
  repeat (first
    | refine OK.drawn (by decide +kernel) ?_
    | refine OK.tree ⟨lookT tis, fun _ => true, []⟩ (by decide +kernel) ?_
    | refine OK.need (by first | assumption | (rw [hA]; first | (show (_ : Int) ≠ _; decide) | (show (0 : Int) ≤ _; decide) | (show (0 : Int) ≤ _ ∧ _ < (256 : Int); decide))) ?_
    | (refine F.hold hA 2000 ?_; cbv))
  refine OK.loopCv (Cv.adopt F.cod 4 3 (ek := .int .i64) rfl rfl) ?_
  refine F.loop (V := List Int × Int) [0, 2, 4, 10, 11] (UnInv items) (fun w => (items.length - w.2).toNat) (fun w => [(12, .int .i64 w.2)]) (fun w => [(0, .row 3 (.ints .i64 w.1))]) (_, _) (by cbv; repeat (first | exact WkH.nil _ | apply WkH.gone | refine WkH.eq rfl ?_)) (by cbv; repeat (first | apply WkL.any | exact WkL.nil _ | refine WkL.eq rfl ?_ | refine WkL.bool rfl ?_)) (by cbv; exact ⟨rfl⟩) ?_ ?_
  · exact ⟨0, rfl, Nat.zero_le _, Nat.zero_le _, rfl⟩
  rintro ⟨o, i⟩ hI Bk hBk
  repeat (first
    | refine OK.drawn (by decide +kernel) ?_
    | refine OK.tree ⟨lookT tis, fun _ => true, []⟩ (by decide +kernel) ?_
    | refine OK.need (by first | assumption | (rw [hA]; first | (show (_ : Int) ≠ _; decide) | (show (0 : Int) ≤ _; decide) | (show (0 : Int) ≤ _ ∧ _ < (256 : Int); decide))) ?_
    | (refine F.hold hA 2000 ?_; cbv))
  refine OK.branch (fun b1 => ?_) (fun b1 => ?_)
  · have hat := unAt hA hp hI b1
    have q := hat.q
    have hip := hat.ip
    repeat (first
      | refine OK.drawn (by decide +kernel) ?_
      | refine OK.tree ⟨lookT tis, fun _ => true, []⟩ (by decide +kernel) ?_
      | refine OK.need (by first | assumption | (rw [hA]; first | (show (_ : Int) ≠ _; decide) | (show (0 : Int) ≤ _; decide) | (show (0 : Int) ≤ _ ∧ _ < (256 : Int); decide))) ?_
      | (refine F.hold hA 2000 ?_; cbv))
    refine F.call [0] (row_ok6 _ _ o hip) rfl rfl rfl fun rs H' hq => ?_
    obtain ⟨v, n, ok, rfl, rfl, hr⟩ := hq
    refine ⟨rfl, ?_⟩
    have hB := unB hA hat hr
    clear hr
    repeat (first
      | refine OK.drawn (by decide +kernel) ?_
      | refine OK.tree ⟨lookT tis, fun _ => true, []⟩ (by decide +kernel) ?_
      | refine OK.need (by first | assumption | (rw [hA]; first | (show (_ : Int) ≠ _; decide) | (show (0 : Int) ≤ _; decide) | (show (0 : Int) ≤ _ ∧ _ < (256 : Int); decide))) ?_
      | (refine F.hold hA 2000 ?_; cbv))
    refine OK.branch (fun b2 => ?_) (fun b2 => ?_)
    · repeat (first
        | refine OK.drawn (by decide +kernel) ?_
        | refine OK.tree ⟨lookT tis, fun _ => true, []⟩ (by decide +kernel) ?_
        | refine OK.need (by first | assumption | (rw [hA]; first | (show (_ : Int) ≠ _; decide) | (show (0 : Int) ≤ _; decide) | (show (0 : Int) ≤ _ ∧ _ < (256 : Int); decide))) ?_
        | (refine F.hold hA 2000 ?_; cbv))
      exact F.ret (H' := []) (F.cv ⟨rfl⟩ (.eq rfl (.eq rfl (.nil _))) (.nil _)) rfl (.inr ⟨rfl, rfl, hB.e1 b2⟩)
    repeat (first
      | refine OK.drawn (by decide +kernel) ?_
      | refine OK.tree ⟨lookT tis, fun _ => true, []⟩ (by decide +kernel) ?_
      | refine OK.need (by first | assumption | (rw [hA]; first | (show (_ : Int) ≠ _; decide) | (show (0 : Int) ≤ _; decide) | (show (0 : Int) ≤ _ ∧ _ < (256 : Int); decide))) ?_
      | (refine F.hold hA 2000 ?_; cbv))
    refine OK.branch (fun b3 => ?_) (fun b3 => ?_)
    · repeat (first
        | refine OK.drawn (by decide +kernel) ?_
        | refine OK.tree ⟨lookT tis, fun _ => true, []⟩ (by decide +kernel) ?_
        | refine OK.need (by first | assumption | (rw [hA]; first | (show (_ : Int) ≠ _; decide) | (show (0 : Int) ≤ _; decide) | (show (0 : Int) ≤ _ ∧ _ < (256 : Int); decide))) ?_
        | (refine F.hold hA 2000 ?_; cbv))
      exact F.ret (H' := []) (F.cv ⟨rfl⟩ (.eq rfl (.eq rfl (.nil _))) (.nil _)) rfl (.inr ⟨rfl, rfl, hB.e2 b2 b3⟩)
    have hrp := hB.p b2
    repeat (first
      | refine OK.drawn (by decide +kernel) ?_
      | refine OK.tree ⟨lookT tis, fun _ => true, []⟩ (by decide +kernel) ?_
      | refine OK.need (by first | assumption | (rw [hA]; first | (show (_ : Int) ≠ _; decide) | (show (0 : Int) ≤ _; decide) | (show (0 : Int) ≤ _ ∧ _ < (256 : Int); decide))) ?_
      | (refine F.hold hA 2000 ?_; cbv))
    refine F.callFrz 2 rfl rfl rfl rfl ?_
    refine F.call [] (repeat_ok1 v n n.toNat rfl hrp) rfl rfl rfl fun rs H' hq => ?_
    obtain ⟨l, rfl, rfl, hl⟩ := hq
    refine ⟨rfl, ?_⟩
    have hC := hB.q b2 b3 l hl
    have q2 := hC.1
    repeat (first
      | refine OK.drawn (by decide +kernel) ?_
      | refine OK.tree ⟨lookT tis, fun _ => true, []⟩ (by decide +kernel) ?_
      | refine OK.need (by first | assumption | (rw [hA]; first | (show (_ : Int) ≠ _; decide) | (show (0 : Int) ≤ _; decide) | (show (0 : Int) ≤ _ ∧ _ < (256 : Int); decide))) ?_
      | (refine F.hold hA 2000 ?_; cbv))
    refine OK.back (hBk _ _ (_, _) (by cbv; repeat (first | exact WkH.nil _ | apply WkH.gone | refine WkH.eq rfl ?_)) (by cbv; repeat (first | apply WkL.any | exact WkL.nil _ | refine WkL.eq rfl ?_ | refine WkL.bool rfl ?_)) (by cbv; exact ⟨rfl⟩) ?_ ?_)
    · exact hC.2.1
    · exact hC.2.2
  · have hf := hI.fin hA b1
    repeat (first
      | refine OK.drawn (by decide +kernel) ?_
      | refine OK.tree ⟨lookT tis, fun _ => true, []⟩ (by decide +kernel) ?_
      | refine OK.need (by first | assumption | (rw [hA]; first | (show (_ : Int) ≠ _; decide) | (show (0 : Int) ≤ _; decide) | (show (0 : Int) ≤ _ ∧ _ < (256 : Int); decide))) ?_
      | (refine F.hold hA 2000 ?_; cbv))
    refine F.ret (rs' := [.ro (.ints .i64 o), .bool (.lit true)]) (H' := []) ((Cv.freeze F.cod 0 rfl).trans (F.cv ⟨rfl⟩ (.eq rfl (.eq rfl (.nil _))) (.nil _))) rfl (.inl ⟨_, rfl, rfl, hf.1, hf.2⟩)
end Go.L1

-- S19
namespace Go.L1
open Go Go.Sx Go.Proofs Go.L5
set_option maxRecDepth 20000
set_option linter.unusedVariables false
set_option linter.unusedSimpArgs false
def termC (c l : Int) : Int := if 0 < c ∧ c ≤ 1099511627776 ∧ 0 < l ∧ l ≤ 15 then c * l else 0
def costL : List Int → List Int → Int
  | c :: cs, l :: ls => termC c l + costL cs ls
  | _, _ => 0
theorem costL_snoc : ∀ (a b : List Int) (c l : Int), a.length = b.length → costL (a ++ [c]) (b ++ [l]) = costL a b + termC c l
  | [], [], c, l, _ => by simp [costL]
  | x :: a, y :: b, c, l, h => by
    rw [List.cons_append, List.cons_append, costL, costL, costL_snoc a b c l (by simpa using h)]; omega
theorem term_le (c l : Int) : 0 ≤ termC c l ∧ termC c l ≤ 16492674416640 := by
  unfold termC
  split
  · rename_i h
    obtain ⟨h1, h2, h3, h4⟩ := h
    have h5 : c * l ≤ 1099511627776 * 15 := Int.mul_le_mul h2 h4 (by omega) (by omega)
    have h6 : 0 ≤ c * l := Int.mul_nonneg (by omega) (by omega)
    omega
  · omega
theorem costL_le : ∀ (a b : List Int), 0 ≤ costL a b ∧ costL a b ≤ 16492674416640 * a.length
  | c :: a, l :: b => by
    have h1 := term_le c l
    have h2 := costL_le a b
    rw [costL, List.length_cons]; omega
  | [], _ => by simp [costL]
  | _ :: _, [] => by simp only [costL]; omega
theorem costL_take : ∀ (a b : List Int), costL (a.take (min a.length b.length)) (b.take (min a.length b.length)) = costL a b
  | c :: a, l :: b => by
    have := costL_take a b
    rw [List.length_cons, List.length_cons, Nat.add_min_add_right, List.take_succ_cons, List.take_succ_cons, costL, costL, this]
  | [], _ => by simp [costL]
  | _ :: _, [] => by simp [costL]
structure CtI (counts lengths : List Int) (n i : Int) (k : Nat) : Prop where
  ei : i = (k : Int)
  le : k ≤ min counts.length lengths.length
  n : n = costL (counts.take k) (lengths.take k)
def CtW (counts lengths : List Int) (w : Int × Int) : Prop := ∃ k, CtI counts lengths w.1 w.2 k
structure CtQ (A : Leaf) (counts lengths : List Int) : Prop where
  q : A.slb 0 (A.imin (A.len counts) (A.len lengths)) (A.len counts)
theorem ctQ {A : Leaf} {counts lengths : List Int} (hA : A = .std) : CtQ A counts lengths := by
  subst hA
  refine ⟨?_⟩
  show (0 : Int) ≤ 0 ∧ (0 : Int) ≤ (if (lengths.length : Int) < (counts.length : Int) then (lengths.length : Int) else (counts.length : Int)) ∧ (if (lengths.length : Int) < (counts.length : Int) then (lengths.length : Int) else (counts.length : Int)) ≤ (counts.length : Int)
  split <;> omega
structure CtAt (A : Leaf) (counts lengths : List Int) (n i c l : Int) : Prop where
  q1 : A.inb i (A.len (A.sub counts 0 (A.imin (A.len counts) (A.len lengths))))
  q2 : A.inb i (A.len lengths)
  yes : A.cmp .gtr c 0 = true → A.cmp .leq c 1099511627776 = true → A.cmp .gtr l 0 = true → A.cmp .leq l 15 = true → CtW counts lengths (A.ar .add .i64 n (A.ar .mul .i64 c l), A.ar .add .i64 i 1)
  no1 : A.cmp .gtr c 0 = false → CtW counts lengths (n, A.ar .add .i64 i 1)
  no2 : A.cmp .leq c 1099511627776 = false → CtW counts lengths (n, A.ar .add .i64 i 1)
  no3 : A.cmp .gtr l 0 = false → CtW counts lengths (n, A.ar .add .i64 i 1)
  no4 : A.cmp .leq l 15 = false → CtW counts lengths (n, A.ar .add .i64 i 1)
  mu : (1000 - A.ar .add .i64 i 1).toNat < (1000 - i).toNat
theorem ctSub (counts lengths : List Int) : Leaf.std.sub counts 0 (Leaf.std.imin (Leaf.std.len counts) (Leaf.std.len lengths)) = counts.take (min counts.length lengths.length) := by
  show (counts.drop (0 : Int).toNat).take ((if (lengths.length : Int) < (counts.length : Int) then (lengths.length : Int) else (counts.length : Int)) - 0).toNat = _
  have : ((if (lengths.length : Int) < (counts.length : Int) then (lengths.length : Int) else (counts.length : Int)) - 0).toNat = min counts.length lengths.length := by split <;> omega
  rw [this]; rfl
theorem ctAt {A : Leaf} {counts lengths : List Int} {n i : Int} (hA : A = .std) (h1 : counts.length ≤ 400) (h2 : lengths.length ≤ 400) (hI : CtW counts lengths (n, i)) (b : A.cmp .lss i (A.len (A.sub counts 0 (A.imin (A.len counts) (A.len lengths)))) = true) :
    CtAt A counts lengths n i (A.get 0 (A.sub counts 0 (A.imin (A.len counts) (A.len lengths))) i) (A.get 0 lengths i) := by
  obtain ⟨k, e1, e2, e3⟩ := hI
  simp only at e1 e3
  subst hA e1
  rw [ctSub] at b ⊢
  have b : (k : Int) < ((counts.take (min counts.length lengths.length)).length : Int) := of_decide_eq_true b
  rw [List.length_take] at b
  have hk1 : k < counts.length := by omega
  have hk2 : k < lengths.length := by omega
  have eg1 : Leaf.std.get 0 (counts.take (min counts.length lengths.length)) (k : Int) = counts[k] := by
    show (counts.take _).getD _ _ = _
    rw [Int.toNat_natCast, List.getD_eq_getElem?_getD, List.getElem?_take, if_pos (by omega), List.getElem?_eq_getElem hk1]; rfl
  have eg2 : Leaf.std.get 0 lengths (k : Int) = lengths[k] := by show lengths.getD _ _ = _; rw [Int.toNat_natCast]; simp [hk2]
  have e : Leaf.std.ar .add .i64 (k : Int) 1 = ((k + 1 : Nat) : Int) := by rw [add_i64 (by omega) (by omega)]; omega
  rw [eg1, eg2]
  have hs : costL (counts.take (k + 1)) (lengths.take (k + 1)) = n + termC counts[k] lengths[k] := by
    rw [List.take_succ_eq_append_getElem hk1, List.take_succ_eq_append_getElem hk2, costL_snoc _ _ _ _ (by rw [List.length_take, List.length_take]; omega), ← e3]
  have hno : ¬ (0 < counts[k] ∧ counts[k] ≤ 1099511627776 ∧ 0 < lengths[k] ∧ lengths[k] ≤ 15) → CtW counts lengths (n, Leaf.std.ar .add .i64 (k : Int) 1) := fun h => by
    rw [e]
    refine ⟨k + 1, rfl, by omega, ?_⟩
    show n = _
    rw [hs]
    unfold termC
    rw [if_neg h]; omega
  have hn := costL_le (counts.take k) (lengths.take k)
  rw [← e3, List.length_take] at hn
  refine ⟨⟨by omega, ?_⟩, ⟨by omega, ?_⟩, fun c1 c2 c3 c4 => ?_, fun h => hno ?_, fun h => hno ?_, fun h => hno ?_, fun h => hno ?_, by rw [e]; omega⟩
  · rw [ctSub]
    show (k : Int) < ((counts.take (min counts.length lengths.length)).length : Int)
    rw [List.length_take]; exact b
  · show (k : Int) < (lengths.length : Int); omega
  · have c1 : 0 < counts[k] := of_decide_eq_true c1
    have c2 : counts[k] ≤ 1099511627776 := of_decide_eq_true c2
    have c3 : 0 < lengths[k] := of_decide_eq_true c3
    have c4 : lengths[k] ≤ 15 := of_decide_eq_true c4
    have ht : termC counts[k] lengths[k] = counts[k] * lengths[k] := by unfold termC; rw [if_pos ⟨c1, c2, c3, c4⟩]
    have h3 := term_le counts[k] lengths[k]
    rw [ht] at h3 hs
    rw [e, mul_i64 (by omega) (by omega), add_i64 (by omega) (by omega)]
    exact ⟨k + 1, rfl, by omega, hs.symm⟩
  · have h : ¬ 0 < counts[k] := of_decide_eq_false h
    omega
  · have h : ¬ counts[k] ≤ 1099511627776 := of_decide_eq_false h
    omega
  · have h : ¬ 0 < lengths[k] := of_decide_eq_false h
    omega
  · have h : ¬ lengths[k] ≤ 15 := of_decide_eq_false h
    omega
structure CostIs (counts lengths : List Int) (n : Int) : Prop where
  e : n = costL counts lengths
theorem ctFin {A : Leaf} {counts lengths : List Int} {n i : Int} (hA : A = .std) (hI : CtW counts lengths (n, i)) (b : A.cmp .lss i (A.len (A.sub counts 0 (A.imin (A.len counts) (A.len lengths)))) = false) : CostIs counts lengths n := by
  obtain ⟨k, e1, e2, e3⟩ := hI
  simp only at e1 e3
  subst hA e1
  rw [ctSub] at b
  have b : ¬ (k : Int) < ((counts.take (min counts.length lengths.length)).length : Int) := of_decide_eq_false b
  rw [List.length_take] at b
  have hk : k = min counts.length lengths.length := by omega
  subst hk
  exact ⟨by rw [e3, costL_take]⟩
theorem cost_ok (counts lengths : List Int) (h1 : counts.length ≤ 400) (h2 : lengths.length ≤ 400) : FOK Try.prog C1 10 (fun _ => true) [.ro (.ints .i64 counts), .ro (.ints .i64 lengths)] []
    (fun rs H => ∃ n, rs = [.int .i64 n] ∧ H = [] ∧ CostIs counts lengths n) := by
  refine fok_of (B := ⟨lookT tis, fun _ => true, []⟩) (tab1 _) (zero1 _) cod1 mix1 Try.func10 (by kernel_rfl) rfl rfl rfl fun X F => ?_
  obtain ⟨A, hA⟩ : ∃ A, A = Leaf.std := ⟨_, rfl⟩
  refine F.hold hA 2000 ?_
  cbv
  have hq := ctQ (counts := counts) (lengths := lengths) hA
  have q0 := hq.q
  repeat (first
    | refine OK.drawn (by decide +kernel) ?_
    | refine OK.tree ⟨lookT tis, fun _ => true, []⟩ (by decide +kernel) ?_
    | refine OK.need (by first | assumption | (rw [hA]; first | (show (_ : Int) ≠ _; decide) | (show (0 : Int) ≤ _; decide) | (show (0 : Int) ≤ _ ∧ _ < (256 : Int); decide))) ?_
    | (refine F.hold hA 2000 ?_; cbv))
  refine F.loop (V := Int × Int) [0, 1, 15, 16] (CtW counts lengths) (fun w => (1000 - w.2).toNat) (fun w => [(5, .int .i64 w.1), (17, .int .i64 w.2)]) (fun w => []) (_, _) (by cbv; repeat (first | exact WkH.nil _ | apply WkH.gone | refine WkH.eq rfl ?_)) (by cbv; repeat (first | apply WkL.any | exact WkL.nil _ | refine WkL.eq rfl ?_ | refine WkL.bool rfl ?_)) (by cbv; exact ⟨rfl⟩) ?_ ?_
  · exact ⟨0, rfl, Nat.zero_le _, rfl⟩
  rintro ⟨n, i⟩ hI Bk hBk
  repeat (first
    | refine OK.drawn (by decide +kernel) ?_
    | refine OK.tree ⟨lookT tis, fun _ => true, []⟩ (by decide +kernel) ?_
    | refine OK.need (by first | assumption | (rw [hA]; first | (show (_ : Int) ≠ _; decide) | (show (0 : Int) ≤ _; decide) | (show (0 : Int) ≤ _ ∧ _ < (256 : Int); decide))) ?_
    | (refine F.hold hA 2000 ?_; cbv))
  refine OK.branch (fun b1 => ?_) (fun b1 => ?_)
  · have hat := ctAt hA h1 h2 hI b1
    have q1 := hat.q1
    have q2 := hat.q2
    repeat (first
      | refine OK.drawn (by decide +kernel) ?_
      | refine OK.tree ⟨lookT tis, fun _ => true, []⟩ (by decide +kernel) ?_
      | refine OK.need (by first | assumption | (rw [hA]; first | (show (_ : Int) ≠ _; decide) | (show (0 : Int) ≤ _; decide) | (show (0 : Int) ≤ _ ∧ _ < (256 : Int); decide))) ?_
      | (refine F.hold hA 2000 ?_; cbv))
    refine OK.branch (fun c1 => ?_) (fun c1 => ?_)
    · repeat (first
        | refine OK.drawn (by decide +kernel) ?_
        | refine OK.tree ⟨lookT tis, fun _ => true, []⟩ (by decide +kernel) ?_
        | refine OK.need (by first | assumption | (rw [hA]; first | (show (_ : Int) ≠ _; decide) | (show (0 : Int) ≤ _; decide) | (show (0 : Int) ≤ _ ∧ _ < (256 : Int); decide))) ?_
        | (refine F.hold hA 2000 ?_; cbv))
      refine OK.branch (fun c2 => ?_) (fun c2 => ?_)
      · repeat (first
          | refine OK.drawn (by decide +kernel) ?_
          | refine OK.tree ⟨lookT tis, fun _ => true, []⟩ (by decide +kernel) ?_
          | refine OK.need (by first | assumption | (rw [hA]; first | (show (_ : Int) ≠ _; decide) | (show (0 : Int) ≤ _; decide) | (show (0 : Int) ≤ _ ∧ _ < (256 : Int); decide))) ?_
          | (refine F.hold hA 2000 ?_; cbv))
        refine OK.branch (fun c3 => ?_) (fun c3 => ?_)
        · repeat (first
            | refine OK.drawn (by decide +kernel) ?_
            | refine OK.tree ⟨lookT tis, fun _ => true, []⟩ (by decide +kernel) ?_
            | refine OK.need (by first | assumption | (rw [hA]; first | (show (_ : Int) ≠ _; decide) | (show (0 : Int) ≤ _; decide) | (show (0 : Int) ≤ _ ∧ _ < (256 : Int); decide))) ?_
            | (refine F.hold hA 2000 ?_; cbv))
          refine OK.branch (fun c4 => ?_) (fun c4 => ?_)
          · repeat (first
              | refine OK.drawn (by decide +kernel) ?_
              | refine OK.tree ⟨lookT tis, fun _ => true, []⟩ (by decide +kernel) ?_
              | refine OK.need (by first | assumption | (rw [hA]; first | (show (_ : Int) ≠ _; decide) | (show (0 : Int) ≤ _; decide) | (show (0 : Int) ≤ _ ∧ _ < (256 : Int); decide))) ?_
              | (refine F.hold hA 2000 ?_; cbv))
            refine OK.back (hBk _ _ (_, _) (by cbv; repeat (first | exact WkH.nil _ | apply WkH.gone | refine WkH.eq rfl ?_)) (by cbv; repeat (first | apply WkL.any | exact WkL.nil _ | refine WkL.eq rfl ?_ | refine WkL.bool rfl ?_)) (by cbv; exact ⟨rfl⟩) ?_ ?_)
            · exact hat.yes c1 c2 c3 c4
            · exact hat.mu
          · repeat (first
              | refine OK.drawn (by decide +kernel) ?_
              | refine OK.tree ⟨lookT tis, fun _ => true, []⟩ (by decide +kernel) ?_
              | refine OK.need (by first | assumption | (rw [hA]; first | (show (_ : Int) ≠ _; decide) | (show (0 : Int) ≤ _; decide) | (show (0 : Int) ≤ _ ∧ _ < (256 : Int); decide))) ?_
              | (refine F.hold hA 2000 ?_; cbv))
            refine OK.back (hBk _ _ (_, _) (by cbv; repeat (first | exact WkH.nil _ | apply WkH.gone | refine WkH.eq rfl ?_)) (by cbv; repeat (first | apply WkL.any | exact WkL.nil _ | refine WkL.eq rfl ?_ | refine WkL.bool rfl ?_)) (by cbv; exact ⟨rfl⟩) ?_ ?_)
            · exact hat.no4 c4
            · exact hat.mu
        · repeat (first
            | refine OK.drawn (by decide +kernel) ?_
            | refine OK.tree ⟨lookT tis, fun _ => true, []⟩ (by decide +kernel) ?_
            | refine OK.need (by first | assumption | (rw [hA]; first | (show (_ : Int) ≠ _; decide) | (show (0 : Int) ≤ _; decide) | (show (0 : Int) ≤ _ ∧ _ < (256 : Int); decide))) ?_
            | (refine F.hold hA 2000 ?_; cbv))
          refine OK.back (hBk _ _ (_, _) (by cbv; repeat (first | exact WkH.nil _ | apply WkH.gone | refine WkH.eq rfl ?_)) (by cbv; repeat (first | apply WkL.any | exact WkL.nil _ | refine WkL.eq rfl ?_ | refine WkL.bool rfl ?_)) (by cbv; exact ⟨rfl⟩) ?_ ?_)
          · exact hat.no3 c3
          · exact hat.mu
      · repeat (first
          | refine OK.drawn (by decide +kernel) ?_
          | refine OK.tree ⟨lookT tis, fun _ => true, []⟩ (by decide +kernel) ?_
          | refine OK.need (by first | assumption | (rw [hA]; first | (show (_ : Int) ≠ _; decide) | (show (0 : Int) ≤ _; decide) | (show (0 : Int) ≤ _ ∧ _ < (256 : Int); decide))) ?_
          | (refine F.hold hA 2000 ?_; cbv))
        refine OK.back (hBk _ _ (_, _) (by cbv; repeat (first | exact WkH.nil _ | apply WkH.gone | refine WkH.eq rfl ?_)) (by cbv; repeat (first | apply WkL.any | exact WkL.nil _ | refine WkL.eq rfl ?_ | refine WkL.bool rfl ?_)) (by cbv; exact ⟨rfl⟩) ?_ ?_)
        · exact hat.no2 c2
        · exact hat.mu
    · repeat (first
        | refine OK.drawn (by decide +kernel) ?_
        | refine OK.tree ⟨lookT tis, fun _ => true, []⟩ (by decide +kernel) ?_
        | refine OK.need (by first | assumption | (rw [hA]; first | (show (_ : Int) ≠ _; decide) | (show (0 : Int) ≤ _; decide) | (show (0 : Int) ≤ _ ∧ _ < (256 : Int); decide))) ?_
        | (refine F.hold hA 2000 ?_; cbv))
      refine OK.back (hBk _ _ (_, _) (by cbv; repeat (first | exact WkH.nil _ | apply WkH.gone | refine WkH.eq rfl ?_)) (by cbv; repeat (first | apply WkL.any | exact WkL.nil _ | refine WkL.eq rfl ?_ | refine WkL.bool rfl ?_)) (by cbv; exact ⟨rfl⟩) ?_ ?_)
      · exact hat.no1 c1
      · exact hat.mu
  · repeat (first
      | refine OK.drawn (by decide +kernel) ?_
      | refine OK.tree ⟨lookT tis, fun _ => true, []⟩ (by decide +kernel) ?_
      | refine OK.need (by first | assumption | (rw [hA]; first | (show (_ : Int) ≠ _; decide) | (show (0 : Int) ≤ _; decide) | (show (0 : Int) ≤ _ ∧ _ < (256 : Int); decide))) ?_
      | (refine F.hold hA 2000 ?_; cbv))
    exact F.ret0 ⟨_, rfl, rfl, ctFin hA hI b1⟩
end Go.L1

-- S20
namespace Go.L1
open Go Go.Sx Go.Proofs Go.L5
set_option maxRecDepth 20000
set_option linter.unusedVariables false
set_option linter.unusedSimpArgs false
def RuI (l : List Int) (n : Int) : Prop := ∃ k : Nat, n = k ∧ 1 ≤ k ∧ k ≤ l.length ∧ ∀ j, j < k → l[j]? = l[0]?
structure RuP (l : List Int) : Prop where
  lo : 0 < l.length
  hi : l.length ≤ 400
structure RunO (l : List Int) (n : Int) : Prop where
  e : n = (Go.L5.runN l : Int)
structure RuAt (A : Leaf) (l : List Int) (n : Int) : Prop where
  q1 : A.inb n (A.len l)
  q2 : A.inb 0 (A.len l)
  yes : A.cmp .eql (A.get 0 l n) (A.get 0 l 0) = true → RuI l (A.ar .add .i64 n 1)
  no : A.cmp .eql (A.get 0 l n) (A.get 0 l 0) = false → RunO l n
  mu : (1000 - A.ar .add .i64 n 1).toNat < (1000 - n).toNat
theorem ruAt {A : Leaf} {l : List Int} {n : Int} (hA : A = .std) (hp : RuP l) (hI : RuI l n) (b : A.cmp .lss n (A.len l) = true) : RuAt A l n := by
  obtain ⟨h0, hh⟩ := hp
  obtain ⟨k, h1, h2, h3, h4⟩ := hI
  subst hA h1
  have b : (k : Int) < (l.length : Int) := of_decide_eq_true b
  have hk : k < l.length := by omega
  have eg : Leaf.std.get 0 l (k : Int) = l[k] := by show l.getD _ _ = _; rw [Int.toNat_natCast]; simp [hk]
  have eg0 : Leaf.std.get 0 l 0 = l[0] := by show l.getD 0 _ = _; simp [h0]
  have e : Leaf.std.ar .add .i64 (k : Int) 1 = ((k + 1 : Nat) : Int) := by rw [add_i64 (by omega) (by omega)]; omega
  refine ⟨⟨by omega, b⟩, ⟨by decide, by show (0 : Int) < (l.length : Int); omega⟩, fun h => ?_, fun h => ?_, by rw [e]; omega⟩
  · rw [eg, eg0] at h
    have h : (l[k] == l[0]) = true := h
    rw [beq_iff_eq] at h
    rw [e]
    refine ⟨k + 1, rfl, by omega, by omega, fun j hj => ?_⟩
    rcases Nat.lt_or_ge j k with h5 | h5
    · exact h4 j h5
    · have : j = k := by omega
      subst this
      rw [List.getElem?_eq_getElem hk, List.getElem?_eq_getElem h0, h]
  · rw [eg, eg0] at h
    have h : (l[k] == l[0]) = false := h
    rw [beq_eq_false_iff_ne] at h
    have := RunIs.eq (l := l) (n := k) ⟨h2, h3, h4, fun _ hc => by
      rw [List.getElem?_eq_getElem hk, List.getElem?_eq_getElem h0] at hc
      exact h (Option.some.inj hc)⟩
    exact ⟨by rw [← this]⟩
theorem ruFin {A : Leaf} {l : List Int} {n : Int} (hA : A = .std) (hI : RuI l n) (b : A.cmp .lss n (A.len l) = false) : RunO l n := by
  obtain ⟨k, h1, h2, h3, h4⟩ := hI
  subst hA h1
  have b : ¬ (k : Int) < (l.length : Int) := of_decide_eq_false b
  have := RunIs.eq (l := l) (n := k) ⟨h2, h3, h4, fun h => by omega⟩
  exact ⟨by rw [← this]⟩
theorem run_ok (l : List Int) (hp : RuP l) : FOK Try.prog C1 42 (fun _ => true) [.ro (.ints .i64 l)] []
    (fun rs H => ∃ n, rs = [.int .i64 n] ∧ H = [] ∧ RunO l n) := by
  refine fok_of (B := ⟨lookT tis, fun _ => true, []⟩) (tab1 _) (zero1 _) cod1 mix1 Try.func42 (by kernel_rfl) rfl rfl rfl fun X F => ?_
  obtain ⟨A, hA⟩ : ∃ A, A = Leaf.std := ⟨_, rfl⟩
  refine F.hold hA 2000 ?_
  cbv
  repeat (first
    | refine OK.drawn (by decide +kernel) ?_
    | refine OK.tree ⟨lookT tis, fun _ => true, []⟩ (by decide +kernel) ?_
    | refine OK.need (by first | assumption | (rw [hA]; first | (show (_ : Int) ≠ _; decide) | (show (0 : Int) ≤ _; decide) | (show (0 : Int) ≤ _ ∧ _ < (256 : Int); decide))) ?_
    | (refine F.hold hA 2000 ?_; cbv))
  refine F.loop (V := Int) [0] (RuI l) (fun w => (1000 - w).toNat) (fun w => [(3, .int .i64 w)]) (fun w => []) _ (by cbv; repeat (first | exact WkH.nil _ | apply WkH.gone | refine WkH.eq rfl ?_)) (by cbv; repeat (first | apply WkL.any | exact WkL.nil _ | refine WkL.eq rfl ?_ | refine WkL.bool rfl ?_)) (by cbv; exact ⟨rfl⟩) ?_ ?_
  · exact ⟨1, rfl, Nat.le_refl _, hp.lo, fun j hj => by rw [show j = 0 by omega]⟩
  rintro n hI Bk hBk
  repeat (first
    | refine OK.drawn (by decide +kernel) ?_
    | refine OK.tree ⟨lookT tis, fun _ => true, []⟩ (by decide +kernel) ?_
    | refine OK.need (by first | assumption | (rw [hA]; first | (show (_ : Int) ≠ _; decide) | (show (0 : Int) ≤ _; decide) | (show (0 : Int) ≤ _ ∧ _ < (256 : Int); decide))) ?_
    | (refine F.hold hA 2000 ?_; cbv))
  refine OK.branch (fun b1 => ?_) (fun b1 => ?_)
  · have hat := ruAt hA hp hI b1
    have q1 := hat.q1
    have q2 := hat.q2
    repeat (first
      | refine OK.drawn (by decide +kernel) ?_
      | refine OK.tree ⟨lookT tis, fun _ => true, []⟩ (by decide +kernel) ?_
      | refine OK.need (by first | assumption | (rw [hA]; first | (show (_ : Int) ≠ _; decide) | (show (0 : Int) ≤ _; decide) | (show (0 : Int) ≤ _ ∧ _ < (256 : Int); decide))) ?_
      | (refine F.hold hA 2000 ?_; cbv))
    refine OK.branch (fun b2 => ?_) (fun b2 => ?_)
    · repeat (first
        | refine OK.drawn (by decide +kernel) ?_
        | refine OK.tree ⟨lookT tis, fun _ => true, []⟩ (by decide +kernel) ?_
        | refine OK.need (by first | assumption | (rw [hA]; first | (show (_ : Int) ≠ _; decide) | (show (0 : Int) ≤ _; decide) | (show (0 : Int) ≤ _ ∧ _ < (256 : Int); decide))) ?_
        | (refine F.hold hA 2000 ?_; cbv))
      refine OK.back (hBk _ _ _ (by cbv; repeat (first | exact WkH.nil _ | apply WkH.gone | refine WkH.eq rfl ?_)) (by cbv; repeat (first | apply WkL.any | exact WkL.nil _ | refine WkL.eq rfl ?_ | refine WkL.bool rfl ?_)) (by cbv; exact ⟨rfl⟩) ?_ ?_)
      · exact hat.yes b2
      · exact hat.mu
    · repeat (first
        | refine OK.drawn (by decide +kernel) ?_
        | refine OK.tree ⟨lookT tis, fun _ => true, []⟩ (by decide +kernel) ?_
        | refine OK.need (by first | assumption | (rw [hA]; first | (show (_ : Int) ≠ _; decide) | (show (0 : Int) ≤ _; decide) | (show (0 : Int) ≤ _ ∧ _ < (256 : Int); decide))) ?_
        | (refine F.hold hA 2000 ?_; cbv))
      exact F.ret0 ⟨_, rfl, rfl, hat.no b2⟩
  · repeat (first
      | refine OK.drawn (by decide +kernel) ?_
      | refine OK.tree ⟨lookT tis, fun _ => true, []⟩ (by decide +kernel) ?_
      | refine OK.need (by first | assumption | (rw [hA]; first | (show (_ : Int) ≠ _; decide) | (show (0 : Int) ≤ _; decide) | (show (0 : Int) ≤ _ ∧ _ < (256 : Int); decide))) ?_
      | (refine F.hold hA 2000 ?_; cbv))
    exact F.ret0 ⟨_, rfl, rfl, ruFin hA hI b1⟩
structure ItQ (A : Leaf) (l : List Int) (i : Int) (k : Nat) : Prop where
  ei : i = k
  lt : k < l.length
  hi : l.length ≤ 400
  q1 : A.inb i (A.len l)
  q2 : A.slb i (A.len l) (A.len l)
  p : RuP (A.sub l i (A.len l))
  e : A.sub l i (A.len l) = l.drop k
  x : A.get 0 l i = l.getD k 0
theorem itQ {A : Leaf} {l : List Int} {k : Nat} {i : Int} (hA : A = .std) (hik : i = k) (h : k < l.length) (hi : l.length ≤ 400) : ItQ A l i k := by
  subst hA hik
  have e : Leaf.std.sub l (k : Int) (Leaf.std.len l) = l.drop k := by
    show (l.drop (k : Int).toNat).take ((l.length : Int) - k).toNat = _
    rw [Int.toNat_natCast, List.take_of_length_le (by rw [List.length_drop]; omega)]
  refine ⟨rfl, h, hi, ⟨by omega, by show (k : Int) < (l.length : Int); omega⟩, ?_, ?_, e, by show l.getD _ _ = _; rw [Int.toNat_natCast]⟩
  · show (0 : Int) ≤ (k : Int) ∧ (k : Int) ≤ (l.length : Int) ∧ (l.length : Int) ≤ (l.length : Int); omega
  · rw [e]; exact ⟨by rw [List.length_drop]; omega, by rw [List.length_drop]; omega⟩
structure ItOut (l : List Int) (k : Nat) (a b n : Int) : Prop where
  a : a = (itemN l k).1.1
  b : b = (itemN l k).1.2
  n : n = ((itemN l k).2 : Int)
theorem neqT {A : Leaf} {a b : Int} (hA : A = .std) (h : A.cmp .neq a b = true) : a ≠ b := by
  subst hA
  have h : (!(a == b)) = true := h
  simpa using h
theorem neqF {A : Leaf} {a b : Int} (hA : A = .std) (h : A.cmp .neq a b = false) : a = b := by
  subst hA
  have h : (!(a == b)) = false := h
  simpa using h
theorem geqT {A : Leaf} {a b : Int} (hA : A = .std) (h : A.cmp .geq a b = true) : b ≤ a := by subst hA; exact of_decide_eq_true h
theorem geqF {A : Leaf} {a b : Int} (hA : A = .std) (h : A.cmp .geq a b = false) : ¬ b ≤ a := by subst hA; exact of_decide_eq_false h
theorem gtrT {A : Leaf} {a b : Int} (hA : A = .std) (h : A.cmp .gtr a b = true) : b < a := by subst hA; exact of_decide_eq_true h
theorem gtrF {A : Leaf} {a b : Int} (hA : A = .std) (h : A.cmp .gtr a b = false) : ¬ b < a := by subst hA; exact of_decide_eq_false h
theorem it18 {A : Leaf} {l : List Int} {k : Nat} {i n : Int} (hA : A = .std) (hq : ItQ A l i k) (hn : RunO (A.sub l i (A.len l)) n) (c1 : A.cmp .eql (A.get 0 l i) 0 = true) (c2 : A.cmp .geq n 11 = true) : ItOut l k 18 (A.ar .sub .i64 (A.imin n 138) 11) (A.imin n 138) := by
  have h1 := eqT hA c1
  have h2 := geqT hA c2
  rw [hq.x] at h1
  have hm0 := hn.e
  rw [hq.e] at hm0
  subst hA
  have hm : Leaf.std.imin n 138 = ((min (Go.L5.runN (l.drop k)) 138 : Nat) : Int) := by
    show (if (138 : Int) < n then 138 else n) = _
    split <;> omega
  rw [hm, sub_i64 (by omega) (by omega)]
  have : itemN l k = ((18, ((min (Go.L5.runN (l.drop k)) 138 - 11 : Nat) : Int)), min (Go.L5.runN (l.drop k)) 138) := by
    unfold itemN
    rw [if_pos ⟨h1, by omega⟩]
  refine ⟨?_, ?_, ?_⟩ <;> rw [this]
  show _ = ((min (Go.L5.runN (l.drop k)) 138 - 11 : Nat) : Int)
  omega
theorem it17 {A : Leaf} {l : List Int} {k : Nat} {i n : Int} (hA : A = .std) (hq : ItQ A l i k) (hn : RunO (A.sub l i (A.len l)) n) (c1 : A.cmp .eql (A.get 0 l i) 0 = true) (c2 : A.cmp .geq n 11 = false) (c3 : A.cmp .geq n 3 = true) : ItOut l k 17 (A.ar .sub .i64 n 3) n := by
  have h1 := eqT hA c1
  have h2 := geqF hA c2
  have h3 := geqT hA c3
  rw [hq.x] at h1
  have hm0 := hn.e
  rw [hq.e] at hm0
  have hi := hq.hi
  have hle := runN_le (l.drop k)
  rw [List.length_drop] at hle
  subst hA
  rw [sub_i64 (by omega) (by omega)]
  have : itemN l k = ((17, ((Go.L5.runN (l.drop k) - 3 : Nat) : Int)), Go.L5.runN (l.drop k)) := by
    unfold itemN
    rw [if_neg (by rintro ⟨_, h⟩; omega), if_pos ⟨h1, by omega⟩]
  refine ⟨?_, ?_, ?_⟩ <;> rw [this]
  · show _ = ((Go.L5.runN (l.drop k) - 3 : Nat) : Int)
    omega
  · exact hm0
theorem it16 {A : Leaf} {l : List Int} {k : Nat} {i n : Int} (hA : A = .std) (hq : ItQ A l i k) (hn : RunO (A.sub l i (A.len l)) n) (c1 : A.cmp .eql (A.get 0 l i) 0 = false) (c2 : A.cmp .geq n 3 = true) (c3 : A.cmp .gtr i 0 = true) (c4 : A.cmp .eql (A.get 0 l (A.ar .sub .i64 i 1)) (A.get 0 l i) = true) :
    ItOut l k 16 (A.ar .sub .i64 (A.imin n 6) 3) (A.imin n 6) := by
  have h1 := eqF hA c1
  have h2 := geqT hA c2
  have h3 := gtrT hA c3
  have h4 := eqT hA c4
  rw [hq.x] at h1 h4
  have hm0 := hn.e
  rw [hq.e] at hm0
  have hi := hq.hi
  have hei := hq.ei
  have hlt := hq.lt
  subst hA
  have e1 : Leaf.std.ar .sub .i64 i 1 = ((k - 1 : Nat) : Int) := by rw [sub_i64 (by omega) (by omega)]; omega
  rw [e1] at h4
  have h4 : l.getD (k - 1) 0 = l.getD k 0 := by
    have h4 : l.getD ((k - 1 : Nat) : Int).toNat 0 = l.getD k 0 := h4
    rwa [Int.toNat_natCast] at h4
  have hm : Leaf.std.imin n 6 = ((min (Go.L5.runN (l.drop k)) 6 : Nat) : Int) := by
    show (if (6 : Int) < n then 6 else n) = _
    split <;> omega
  rw [hm, sub_i64 (by omega) (by omega)]
  have : itemN l k = ((16, ((min (Go.L5.runN (l.drop k)) 6 - 3 : Nat) : Int)), min (Go.L5.runN (l.drop k)) 6) := by
    unfold itemN
    rw [if_neg (by rintro ⟨h, _⟩; exact h1 h), if_neg (by rintro ⟨h, _⟩; exact h1 h), if_pos ⟨h1, by omega, by omega, h4⟩]
  refine ⟨?_, ?_, ?_⟩ <;> rw [this]
  show _ = ((min (Go.L5.runN (l.drop k)) 6 - 3 : Nat) : Int)
  omega
theorem it1 {A : Leaf} {l : List Int} {k : Nat} {i n : Int} (hA : A = .std) (hq : ItQ A l i k) (hn : RunO (A.sub l i (A.len l)) n)
    (h : A.cmp .geq n 3 = false ∨ (A.cmp .eql (A.get 0 l i) 0 = false ∧ A.cmp .gtr i 0 = false) ∨ (A.cmp .eql (A.get 0 l i) 0 = false ∧ A.cmp .gtr i 0 = true ∧ A.cmp .eql (A.get 0 l (A.ar .sub .i64 i 1)) (A.get 0 l i) = false)) : ItOut l k (A.get 0 l i) 0 1 := by
  have hm0 := hn.e
  rw [hq.e] at hm0
  have hei := hq.ei
  have hlt := hq.lt
  have hi := hq.hi
  have : itemN l k = ((l.getD k 0, 0), 1) := by
    unfold itemN
    rcases h with h | ⟨h1, h2⟩ | ⟨h1, h0, h2⟩
    · have h := geqF hA h
      rw [if_neg (by rintro ⟨_, h⟩; omega), if_neg (by rintro ⟨_, h⟩; omega), if_neg (by rintro ⟨_, h, _⟩; omega)]
    · have h1 := eqF hA h1
      have h2 := gtrF hA h2
      rw [hq.x] at h1
      rw [if_neg (by rintro ⟨h, _⟩; exact h1 h), if_neg (by rintro ⟨h, _⟩; exact h1 h), if_neg (by rintro ⟨_, _, h, _⟩; omega)]
    · have g1 := eqF hA h1
      have g0 := gtrT hA h0
      have g2 := eqF hA h2
      rw [hq.x] at g1 g2
      subst hA
      have e1 : Leaf.std.ar .sub .i64 i 1 = ((k - 1 : Nat) : Int) := by rw [sub_i64 (by omega) (by omega)]; omega
      rw [e1] at g2
      have g3 : l.getD (k - 1) 0 ≠ l.getD k 0 := by
        have g4 : l.getD ((k - 1 : Nat) : Int).toNat 0 ≠ l.getD k 0 := g2
        rwa [Int.toNat_natCast] at g4
      rw [if_neg (by rintro ⟨h, _⟩; exact g1 h), if_neg (by rintro ⟨h, _⟩; exact g1 h), if_neg (by rintro ⟨_, _, _, h⟩; exact g3 h)]
  refine ⟨?_, ?_, ?_⟩ <;> rw [this]
  · exact hq.x
  · rfl
structure ItPrev (A : Leaf) (l : List Int) (i : Int) : Prop where
  q : A.inb (A.ar .sub .i64 i 1) (A.len l)
theorem itPrev {A : Leaf} {l : List Int} {k : Nat} {i : Int} (hA : A = .std) (hq : ItQ A l i k) (c3 : A.cmp .gtr i 0 = true) : ItPrev A l i := by
  have h3 := gtrT hA c3
  have hei := hq.ei
  have hlt := hq.lt
  have hi := hq.hi
  subst hA
  rw [show ItPrev Leaf.std l i = ItPrev Leaf.std l i from rfl]
  refine ⟨?_⟩
  rw [sub_i64 (by omega) (by omega)]
  exact ⟨by omega, by show i - 1 < (l.length : Int); omega⟩
theorem item_ok (l : List Int) (k : Nat) (i : Int) (hi : i = k) (h : k < l.length) (hl : l.length ≤ 400) : FOK Try.prog C1 30 (fun _ => true) [.ro (.ints .i64 l), .int .i64 i] []
    (fun rs H => ∃ a b n, rs = [.agg [.int .i64 a, .int .i64 b], .int .i64 n] ∧ H = [.cells 33 [.int .i64 a, .int .i64 b]] ∧ ItOut l k a b n) := by
  refine fok_of (B := ⟨lookT tis, fun _ => true, []⟩) (tab1 _) (zero1 _) cod1 mix1 Try.func30 (by kernel_rfl) rfl rfl rfl fun X F => ?_
  obtain ⟨A, hA⟩ : ∃ A, A = Leaf.std := ⟨_, rfl⟩
  refine F.hold hA 2000 ?_
  cbv
  have hq := itQ hA hi h hl
  have q1 := hq.q1
  have q2 := hq.q2
  repeat (first
    | refine OK.drawn (by decide +kernel) ?_
    | refine OK.tree ⟨lookT tis, fun _ => true, []⟩ (by decide +kernel) ?_
    | refine OK.need (by first | assumption | (rw [hA]; first | (show (_ : Int) ≠ _; decide) | (show (0 : Int) ≤ _; decide) | (show (0 : Int) ≤ _ ∧ _ < (256 : Int); decide))) ?_
    | (refine F.hold hA 2000 ?_; cbv))
  refine OK.both ?_ ?_
  · repeat (first
      | refine OK.drawn (by decide +kernel) ?_
      | refine OK.tree ⟨lookT tis, fun _ => true, []⟩ (by decide +kernel) ?_
      | refine OK.need (by first | assumption | (rw [hA]; first | (show (_ : Int) ≠ _; decide) | (show (0 : Int) ≤ _; decide) | (show (0 : Int) ≤ _ ∧ _ < (256 : Int); decide))) ?_
      | (refine F.hold hA 2000 ?_; cbv))
    refine F.call [] (run_ok _ hq.p) rfl rfl rfl fun rs H' hq => ?_
    obtain ⟨n, rfl, rfl, hn⟩ := hq
    refine ⟨rfl, ?_⟩
    repeat (first
      | refine OK.drawn (by decide +kernel) ?_
      | refine OK.tree ⟨lookT tis, fun _ => true, []⟩ (by decide +kernel) ?_
      | refine OK.need (by first | assumption | (rw [hA]; first | (show (_ : Int) ≠ _; decide) | (show (0 : Int) ≤ _; decide) | (show (0 : Int) ≤ _ ∧ _ < (256 : Int); decide))) ?_
      | (refine F.hold hA 2000 ?_; cbv))
    refine OK.branch (fun c1 => ?_) (fun c1 => ?_)
    · repeat (first
        | refine OK.drawn (by decide +kernel) ?_
        | refine OK.tree ⟨lookT tis, fun _ => true, []⟩ (by decide +kernel) ?_
        | refine OK.need (by first | assumption | (rw [hA]; first | (show (_ : Int) ≠ _; decide) | (show (0 : Int) ≤ _; decide) | (show (0 : Int) ≤ _ ∧ _ < (256 : Int); decide))) ?_
        | (refine F.hold hA 2000 ?_; cbv))
      refine OK.branch (fun c2 => ?_) (fun c2 => ?_)
      · repeat (first
          | refine OK.drawn (by decide +kernel) ?_
          | refine OK.tree ⟨lookT tis, fun _ => true, []⟩ (by decide +kernel) ?_
          | refine OK.need (by first | assumption | (rw [hA]; first | (show (_ : Int) ≠ _; decide) | (show (0 : Int) ≤ _; decide) | (show (0 : Int) ≤ _ ∧ _ < (256 : Int); decide))) ?_
          | (refine F.hold hA 2000 ?_; cbv))
        exact F.ret0 ⟨_, _, _, rfl, rfl, it18 hA hq hn c1 c2⟩
      · repeat (first
          | refine OK.drawn (by decide +kernel) ?_
          | refine OK.tree ⟨lookT tis, fun _ => true, []⟩ (by decide +kernel) ?_
          | refine OK.need (by first | assumption | (rw [hA]; first | (show (_ : Int) ≠ _; decide) | (show (0 : Int) ≤ _; decide) | (show (0 : Int) ≤ _ ∧ _ < (256 : Int); decide))) ?_
          | (refine F.hold hA 2000 ?_; cbv))
        refine OK.branch (fun d1 => ?_) (fun d1 => absurd (eqT hA c1) (eqF hA d1))
        repeat (first
          | refine OK.drawn (by decide +kernel) ?_
          | refine OK.tree ⟨lookT tis, fun _ => true, []⟩ (by decide +kernel) ?_
          | refine OK.need (by first | assumption | (rw [hA]; first | (show (_ : Int) ≠ _; decide) | (show (0 : Int) ≤ _; decide) | (show (0 : Int) ≤ _ ∧ _ < (256 : Int); decide))) ?_
          | (refine F.hold hA 2000 ?_; cbv))
        refine OK.branch (fun d2 => ?_) (fun d2 => ?_)
        · repeat (first
            | refine OK.drawn (by decide +kernel) ?_
            | refine OK.tree ⟨lookT tis, fun _ => true, []⟩ (by decide +kernel) ?_
            | refine OK.need (by first | assumption | (rw [hA]; first | (show (_ : Int) ≠ _; decide) | (show (0 : Int) ≤ _; decide) | (show (0 : Int) ≤ _ ∧ _ < (256 : Int); decide))) ?_
            | (refine F.hold hA 2000 ?_; cbv))
          exact F.ret0 ⟨_, _, _, rfl, rfl, it17 hA hq hn c1 c2 d2⟩
        · repeat (first
            | refine OK.drawn (by decide +kernel) ?_
            | refine OK.tree ⟨lookT tis, fun _ => true, []⟩ (by decide +kernel) ?_
            | refine OK.need (by first | assumption | (rw [hA]; first | (show (_ : Int) ≠ _; decide) | (show (0 : Int) ≤ _; decide) | (show (0 : Int) ≤ _ ∧ _ < (256 : Int); decide))) ?_
            | (refine F.hold hA 2000 ?_; cbv))
          refine OK.branch (fun e1 => absurd (eqT hA c1) (neqT hA e1)) (fun e1 => ?_)
          repeat (first
            | refine OK.drawn (by decide +kernel) ?_
            | refine OK.tree ⟨lookT tis, fun _ => true, []⟩ (by decide +kernel) ?_
            | refine OK.need (by first | assumption | (rw [hA]; first | (show (_ : Int) ≠ _; decide) | (show (0 : Int) ≤ _; decide) | (show (0 : Int) ≤ _ ∧ _ < (256 : Int); decide))) ?_
            | (refine F.hold hA 2000 ?_; cbv))
          exact F.ret0 ⟨_, _, _, rfl, rfl, it1 hA hq hn (.inl d2)⟩
    · repeat (first
        | refine OK.drawn (by decide +kernel) ?_
        | refine OK.tree ⟨lookT tis, fun _ => true, []⟩ (by decide +kernel) ?_
        | refine OK.need (by first | assumption | (rw [hA]; first | (show (_ : Int) ≠ _; decide) | (show (0 : Int) ≤ _; decide) | (show (0 : Int) ≤ _ ∧ _ < (256 : Int); decide))) ?_
        | (refine F.hold hA 2000 ?_; cbv))
      refine OK.branch (fun d1 => absurd (eqT hA d1) (eqF hA c1)) (fun d1 => ?_)
      repeat (first
        | refine OK.drawn (by decide +kernel) ?_
        | refine OK.tree ⟨lookT tis, fun _ => true, []⟩ (by decide +kernel) ?_
        | refine OK.need (by first | assumption | (rw [hA]; first | (show (_ : Int) ≠ _; decide) | (show (0 : Int) ≤ _; decide) | (show (0 : Int) ≤ _ ∧ _ < (256 : Int); decide))) ?_
        | (refine F.hold hA 2000 ?_; cbv))
      refine OK.branch (fun e1 => ?_) (fun e1 => absurd (neqF hA e1) (eqF hA c1))
      repeat (first
        | refine OK.drawn (by decide +kernel) ?_
        | refine OK.tree ⟨lookT tis, fun _ => true, []⟩ (by decide +kernel) ?_
        | refine OK.need (by first | assumption | (rw [hA]; first | (show (_ : Int) ≠ _; decide) | (show (0 : Int) ≤ _; decide) | (show (0 : Int) ≤ _ ∧ _ < (256 : Int); decide))) ?_
        | (refine F.hold hA 2000 ?_; cbv))
      refine OK.branch (fun e2 => ?_) (fun e2 => ?_)
      · repeat (first
          | refine OK.drawn (by decide +kernel) ?_
          | refine OK.tree ⟨lookT tis, fun _ => true, []⟩ (by decide +kernel) ?_
          | refine OK.need (by first | assumption | (rw [hA]; first | (show (_ : Int) ≠ _; decide) | (show (0 : Int) ≤ _; decide) | (show (0 : Int) ≤ _ ∧ _ < (256 : Int); decide))) ?_
          | (refine F.hold hA 2000 ?_; cbv))
        refine OK.branch (fun e3 => ?_) (fun e3 => ?_)
        · have hpv := itPrev hA hq e3
          have q3 := hpv.q
          repeat (first
            | refine OK.drawn (by decide +kernel) ?_
            | refine OK.tree ⟨lookT tis, fun _ => true, []⟩ (by decide +kernel) ?_
            | refine OK.need (by first | assumption | (rw [hA]; first | (show (_ : Int) ≠ _; decide) | (show (0 : Int) ≤ _; decide) | (show (0 : Int) ≤ _ ∧ _ < (256 : Int); decide))) ?_
            | (refine F.hold hA 2000 ?_; cbv))
          refine OK.branch (fun e4 => ?_) (fun e4 => ?_)
          · repeat (first
              | refine OK.drawn (by decide +kernel) ?_
              | refine OK.tree ⟨lookT tis, fun _ => true, []⟩ (by decide +kernel) ?_
              | refine OK.need (by first | assumption | (rw [hA]; first | (show (_ : Int) ≠ _; decide) | (show (0 : Int) ≤ _; decide) | (show (0 : Int) ≤ _ ∧ _ < (256 : Int); decide))) ?_
              | (refine F.hold hA 2000 ?_; cbv))
            exact F.ret0 ⟨_, _, _, rfl, rfl, it16 hA hq hn c1 e2 e3 e4⟩
          · repeat (first
              | refine OK.drawn (by decide +kernel) ?_
              | refine OK.tree ⟨lookT tis, fun _ => true, []⟩ (by decide +kernel) ?_
              | refine OK.need (by first | assumption | (rw [hA]; first | (show (_ : Int) ≠ _; decide) | (show (0 : Int) ≤ _; decide) | (show (0 : Int) ≤ _ ∧ _ < (256 : Int); decide))) ?_
              | (refine F.hold hA 2000 ?_; cbv))
            exact F.ret0 ⟨_, _, _, rfl, rfl, it1 hA hq hn (.inr (.inr ⟨c1, e3, e4⟩))⟩
        · repeat (first
            | refine OK.drawn (by decide +kernel) ?_
            | refine OK.tree ⟨lookT tis, fun _ => true, []⟩ (by decide +kernel) ?_
            | refine OK.need (by first | assumption | (rw [hA]; first | (show (_ : Int) ≠ _; decide) | (show (0 : Int) ≤ _; decide) | (show (0 : Int) ≤ _ ∧ _ < (256 : Int); decide))) ?_
            | (refine F.hold hA 2000 ?_; cbv))
          exact F.ret0 ⟨_, _, _, rfl, rfl, it1 hA hq hn (.inr (.inl ⟨c1, e3⟩))⟩
      · repeat (first
          | refine OK.drawn (by decide +kernel) ?_
          | refine OK.tree ⟨lookT tis, fun _ => true, []⟩ (by decide +kernel) ?_
          | refine OK.need (by first | assumption | (rw [hA]; first | (show (_ : Int) ≠ _; decide) | (show (0 : Int) ≤ _; decide) | (show (0 : Int) ≤ _ ∧ _ < (256 : Int); decide))) ?_
          | (refine F.hold hA 2000 ?_; cbv))
        exact F.ret0 ⟨_, _, _, rfl, rfl, it1 hA hq hn (.inl e2)⟩
  · repeat (first
      | refine OK.drawn (by decide +kernel) ?_
      | refine OK.tree ⟨lookT tis, fun _ => true, []⟩ (by decide +kernel) ?_
      | refine OK.need (by first | assumption | (rw [hA]; first | (show (_ : Int) ≠ _; decide) | (show (0 : Int) ≤ _; decide) | (show (0 : Int) ≤ _ ∧ _ < (256 : Int); decide))) ?_
      | (refine F.hold hA 2000 ?_; cbv))
    refine OK.both ?_ ?_
    · repeat (first
        | refine OK.drawn (by decide +kernel) ?_
        | refine OK.tree ⟨lookT tis, fun _ => true, []⟩ (by decide +kernel) ?_
        | refine OK.need (by first | assumption | (rw [hA]; first | (show (_ : Int) ≠ _; decide) | (show (0 : Int) ≤ _; decide) | (show (0 : Int) ≤ _ ∧ _ < (256 : Int); decide))) ?_
        | (refine F.hold hA 2000 ?_; cbv))
      refine F.call [] (run_ok _ hq.p) rfl rfl rfl fun rs H' hq => ?_
      obtain ⟨n, rfl, rfl, hn⟩ := hq
      refine ⟨rfl, ?_⟩
      repeat (first
        | refine OK.drawn (by decide +kernel) ?_
        | refine OK.tree ⟨lookT tis, fun _ => true, []⟩ (by decide +kernel) ?_
        | refine OK.need (by first | assumption | (rw [hA]; first | (show (_ : Int) ≠ _; decide) | (show (0 : Int) ≤ _; decide) | (show (0 : Int) ≤ _ ∧ _ < (256 : Int); decide))) ?_
        | (refine F.hold hA 2000 ?_; cbv))
      refine OK.branch (fun c1 => ?_) (fun c1 => ?_)
      · repeat (first
          | refine OK.drawn (by decide +kernel) ?_
          | refine OK.tree ⟨lookT tis, fun _ => true, []⟩ (by decide +kernel) ?_
          | refine OK.need (by first | assumption | (rw [hA]; first | (show (_ : Int) ≠ _; decide) | (show (0 : Int) ≤ _; decide) | (show (0 : Int) ≤ _ ∧ _ < (256 : Int); decide))) ?_
          | (refine F.hold hA 2000 ?_; cbv))
        refine OK.branch (fun c2 => ?_) (fun c2 => ?_)
        · repeat (first
            | refine OK.drawn (by decide +kernel) ?_
            | refine OK.tree ⟨lookT tis, fun _ => true, []⟩ (by decide +kernel) ?_
            | refine OK.need (by first | assumption | (rw [hA]; first | (show (_ : Int) ≠ _; decide) | (show (0 : Int) ≤ _; decide) | (show (0 : Int) ≤ _ ∧ _ < (256 : Int); decide))) ?_
            | (refine F.hold hA 2000 ?_; cbv))
          exact F.ret0 ⟨_, _, _, rfl, rfl, it18 hA hq hn c1 c2⟩
        · repeat (first
            | refine OK.drawn (by decide +kernel) ?_
            | refine OK.tree ⟨lookT tis, fun _ => true, []⟩ (by decide +kernel) ?_
            | refine OK.need (by first | assumption | (rw [hA]; first | (show (_ : Int) ≠ _; decide) | (show (0 : Int) ≤ _; decide) | (show (0 : Int) ≤ _ ∧ _ < (256 : Int); decide))) ?_
            | (refine F.hold hA 2000 ?_; cbv))
          refine OK.branch (fun d1 => ?_) (fun d1 => absurd (eqT hA c1) (eqF hA d1))
          repeat (first
            | refine OK.drawn (by decide +kernel) ?_
            | refine OK.tree ⟨lookT tis, fun _ => true, []⟩ (by decide +kernel) ?_
            | refine OK.need (by first | assumption | (rw [hA]; first | (show (_ : Int) ≠ _; decide) | (show (0 : Int) ≤ _; decide) | (show (0 : Int) ≤ _ ∧ _ < (256 : Int); decide))) ?_
            | (refine F.hold hA 2000 ?_; cbv))
          refine OK.branch (fun d2 => ?_) (fun d2 => ?_)
          · repeat (first
              | refine OK.drawn (by decide +kernel) ?_
              | refine OK.tree ⟨lookT tis, fun _ => true, []⟩ (by decide +kernel) ?_
              | refine OK.need (by first | assumption | (rw [hA]; first | (show (_ : Int) ≠ _; decide) | (show (0 : Int) ≤ _; decide) | (show (0 : Int) ≤ _ ∧ _ < (256 : Int); decide))) ?_
              | (refine F.hold hA 2000 ?_; cbv))
            exact F.ret0 ⟨_, _, _, rfl, rfl, it17 hA hq hn c1 c2 d2⟩
          · repeat (first
              | refine OK.drawn (by decide +kernel) ?_
              | refine OK.tree ⟨lookT tis, fun _ => true, []⟩ (by decide +kernel) ?_
              | refine OK.need (by first | assumption | (rw [hA]; first | (show (_ : Int) ≠ _; decide) | (show (0 : Int) ≤ _; decide) | (show (0 : Int) ≤ _ ∧ _ < (256 : Int); decide))) ?_
              | (refine F.hold hA 2000 ?_; cbv))
            refine OK.branch (fun e1 => absurd (eqT hA c1) (neqT hA e1)) (fun e1 => ?_)
            repeat (first
              | refine OK.drawn (by decide +kernel) ?_
              | refine OK.tree ⟨lookT tis, fun _ => true, []⟩ (by decide +kernel) ?_
              | refine OK.need (by first | assumption | (rw [hA]; first | (show (_ : Int) ≠ _; decide) | (show (0 : Int) ≤ _; decide) | (show (0 : Int) ≤ _ ∧ _ < (256 : Int); decide))) ?_
              | (refine F.hold hA 2000 ?_; cbv))
            exact F.ret0 ⟨_, _, _, rfl, rfl, it1 hA hq hn (.inl d2)⟩
      · repeat (first
          | refine OK.drawn (by decide +kernel) ?_
          | refine OK.tree ⟨lookT tis, fun _ => true, []⟩ (by decide +kernel) ?_
          | refine OK.need (by first | assumption | (rw [hA]; first | (show (_ : Int) ≠ _; decide) | (show (0 : Int) ≤ _; decide) | (show (0 : Int) ≤ _ ∧ _ < (256 : Int); decide))) ?_
          | (refine F.hold hA 2000 ?_; cbv))
        refine OK.branch (fun d1 => absurd (eqT hA d1) (eqF hA c1)) (fun d1 => ?_)
        repeat (first
          | refine OK.drawn (by decide +kernel) ?_
          | refine OK.tree ⟨lookT tis, fun _ => true, []⟩ (by decide +kernel) ?_
          | refine OK.need (by first | assumption | (rw [hA]; first | (show (_ : Int) ≠ _; decide) | (show (0 : Int) ≤ _; decide) | (show (0 : Int) ≤ _ ∧ _ < (256 : Int); decide))) ?_
          | (refine F.hold hA 2000 ?_; cbv))
        refine OK.branch (fun e1 => ?_) (fun e1 => absurd (neqF hA e1) (eqF hA c1))
        repeat (first
          | refine OK.drawn (by decide +kernel) ?_
          | refine OK.tree ⟨lookT tis, fun _ => true, []⟩ (by decide +kernel) ?_
          | refine OK.need (by first | assumption | (rw [hA]; first | (show (_ : Int) ≠ _; decide) | (show (0 : Int) ≤ _; decide) | (show (0 : Int) ≤ _ ∧ _ < (256 : Int); decide))) ?_
          | (refine F.hold hA 2000 ?_; cbv))
        refine OK.branch (fun e2 => ?_) (fun e2 => ?_)
        · repeat (first
            | refine OK.drawn (by decide +kernel) ?_
            | refine OK.tree ⟨lookT tis, fun _ => true, []⟩ (by decide +kernel) ?_
            | refine OK.need (by first | assumption | (rw [hA]; first | (show (_ : Int) ≠ _; decide) | (show (0 : Int) ≤ _; decide) | (show (0 : Int) ≤ _ ∧ _ < (256 : Int); decide))) ?_
            | (refine F.hold hA 2000 ?_; cbv))
          refine OK.branch (fun e3 => ?_) (fun e3 => ?_)
          · have hpv := itPrev hA hq e3
            have q3 := hpv.q
            repeat (first
              | refine OK.drawn (by decide +kernel) ?_
              | refine OK.tree ⟨lookT tis, fun _ => true, []⟩ (by decide +kernel) ?_
              | refine OK.need (by first | assumption | (rw [hA]; first | (show (_ : Int) ≠ _; decide) | (show (0 : Int) ≤ _; decide) | (show (0 : Int) ≤ _ ∧ _ < (256 : Int); decide))) ?_
              | (refine F.hold hA 2000 ?_; cbv))
            refine OK.branch (fun e4 => ?_) (fun e4 => ?_)
            · repeat (first
                | refine OK.drawn (by decide +kernel) ?_
                | refine OK.tree ⟨lookT tis, fun _ => true, []⟩ (by decide +kernel) ?_
                | refine OK.need (by first | assumption | (rw [hA]; first | (show (_ : Int) ≠ _; decide) | (show (0 : Int) ≤ _; decide) | (show (0 : Int) ≤ _ ∧ _ < (256 : Int); decide))) ?_
                | (refine F.hold hA 2000 ?_; cbv))
              exact F.ret0 ⟨_, _, _, rfl, rfl, it16 hA hq hn c1 e2 e3 e4⟩
            · repeat (first
                | refine OK.drawn (by decide +kernel) ?_
                | refine OK.tree ⟨lookT tis, fun _ => true, []⟩ (by decide +kernel) ?_
                | refine OK.need (by first | assumption | (rw [hA]; first | (show (_ : Int) ≠ _; decide) | (show (0 : Int) ≤ _; decide) | (show (0 : Int) ≤ _ ∧ _ < (256 : Int); decide))) ?_
                | (refine F.hold hA 2000 ?_; cbv))
              exact F.ret0 ⟨_, _, _, rfl, rfl, it1 hA hq hn (.inr (.inr ⟨c1, e3, e4⟩))⟩
          · repeat (first
              | refine OK.drawn (by decide +kernel) ?_
              | refine OK.tree ⟨lookT tis, fun _ => true, []⟩ (by decide +kernel) ?_
              | refine OK.need (by first | assumption | (rw [hA]; first | (show (_ : Int) ≠ _; decide) | (show (0 : Int) ≤ _; decide) | (show (0 : Int) ≤ _ ∧ _ < (256 : Int); decide))) ?_
              | (refine F.hold hA 2000 ?_; cbv))
            exact F.ret0 ⟨_, _, _, rfl, rfl, it1 hA hq hn (.inr (.inl ⟨c1, e3⟩))⟩
        · repeat (first
            | refine OK.drawn (by decide +kernel) ?_
            | refine OK.tree ⟨lookT tis, fun _ => true, []⟩ (by decide +kernel) ?_
            | refine OK.need (by first | assumption | (rw [hA]; first | (show (_ : Int) ≠ _; decide) | (show (0 : Int) ≤ _; decide) | (show (0 : Int) ≤ _ ∧ _ < (256 : Int); decide))) ?_
            | (refine F.hold hA 2000 ?_; cbv))
          exact F.ret0 ⟨_, _, _, rfl, rfl, it1 hA hq hn (.inl e2)⟩
    · repeat (first
        | refine OK.drawn (by decide +kernel) ?_
        | refine OK.tree ⟨lookT tis, fun _ => true, []⟩ (by decide +kernel) ?_
        | refine OK.need (by first | assumption | (rw [hA]; first | (show (_ : Int) ≠ _; decide) | (show (0 : Int) ≤ _; decide) | (show (0 : Int) ≤ _ ∧ _ < (256 : Int); decide))) ?_
        | (refine F.hold hA 2000 ?_; cbv))
      refine F.call [] (run_ok _ hq.p) rfl rfl rfl fun rs H' hq => ?_
      obtain ⟨n, rfl, rfl, hn⟩ := hq
      refine ⟨rfl, ?_⟩
      repeat (first
        | refine OK.drawn (by decide +kernel) ?_
        | refine OK.tree ⟨lookT tis, fun _ => true, []⟩ (by decide +kernel) ?_
        | refine OK.need (by first | assumption | (rw [hA]; first | (show (_ : Int) ≠ _; decide) | (show (0 : Int) ≤ _; decide) | (show (0 : Int) ≤ _ ∧ _ < (256 : Int); decide))) ?_
        | (refine F.hold hA 2000 ?_; cbv))
      refine OK.branch (fun c1 => ?_) (fun c1 => ?_)
      · repeat (first
          | refine OK.drawn (by decide +kernel) ?_
          | refine OK.tree ⟨lookT tis, fun _ => true, []⟩ (by decide +kernel) ?_
          | refine OK.need (by first | assumption | (rw [hA]; first | (show (_ : Int) ≠ _; decide) | (show (0 : Int) ≤ _; decide) | (show (0 : Int) ≤ _ ∧ _ < (256 : Int); decide))) ?_
          | (refine F.hold hA 2000 ?_; cbv))
        refine OK.branch (fun c2 => ?_) (fun c2 => ?_)
        · repeat (first
            | refine OK.drawn (by decide +kernel) ?_
            | refine OK.tree ⟨lookT tis, fun _ => true, []⟩ (by decide +kernel) ?_
            | refine OK.need (by first | assumption | (rw [hA]; first | (show (_ : Int) ≠ _; decide) | (show (0 : Int) ≤ _; decide) | (show (0 : Int) ≤ _ ∧ _ < (256 : Int); decide))) ?_
            | (refine F.hold hA 2000 ?_; cbv))
          exact F.ret0 ⟨_, _, _, rfl, rfl, it18 hA hq hn c1 c2⟩
        · repeat (first
            | refine OK.drawn (by decide +kernel) ?_
            | refine OK.tree ⟨lookT tis, fun _ => true, []⟩ (by decide +kernel) ?_
            | refine OK.need (by first | assumption | (rw [hA]; first | (show (_ : Int) ≠ _; decide) | (show (0 : Int) ≤ _; decide) | (show (0 : Int) ≤ _ ∧ _ < (256 : Int); decide))) ?_
            | (refine F.hold hA 2000 ?_; cbv))
          refine OK.branch (fun d1 => ?_) (fun d1 => absurd (eqT hA c1) (eqF hA d1))
          repeat (first
            | refine OK.drawn (by decide +kernel) ?_
            | refine OK.tree ⟨lookT tis, fun _ => true, []⟩ (by decide +kernel) ?_
            | refine OK.need (by first | assumption | (rw [hA]; first | (show (_ : Int) ≠ _; decide) | (show (0 : Int) ≤ _; decide) | (show (0 : Int) ≤ _ ∧ _ < (256 : Int); decide))) ?_
            | (refine F.hold hA 2000 ?_; cbv))
          refine OK.branch (fun d2 => ?_) (fun d2 => ?_)
          · repeat (first
              | refine OK.drawn (by decide +kernel) ?_
              | refine OK.tree ⟨lookT tis, fun _ => true, []⟩ (by decide +kernel) ?_
              | refine OK.need (by first | assumption | (rw [hA]; first | (show (_ : Int) ≠ _; decide) | (show (0 : Int) ≤ _; decide) | (show (0 : Int) ≤ _ ∧ _ < (256 : Int); decide))) ?_
              | (refine F.hold hA 2000 ?_; cbv))
            exact F.ret0 ⟨_, _, _, rfl, rfl, it17 hA hq hn c1 c2 d2⟩
          · repeat (first
              | refine OK.drawn (by decide +kernel) ?_
              | refine OK.tree ⟨lookT tis, fun _ => true, []⟩ (by decide +kernel) ?_
              | refine OK.need (by first | assumption | (rw [hA]; first | (show (_ : Int) ≠ _; decide) | (show (0 : Int) ≤ _; decide) | (show (0 : Int) ≤ _ ∧ _ < (256 : Int); decide))) ?_
              | (refine F.hold hA 2000 ?_; cbv))
            refine OK.branch (fun e1 => absurd (eqT hA c1) (neqT hA e1)) (fun e1 => ?_)
            repeat (first
              | refine OK.drawn (by decide +kernel) ?_
              | refine OK.tree ⟨lookT tis, fun _ => true, []⟩ (by decide +kernel) ?_
              | refine OK.need (by first | assumption | (rw [hA]; first | (show (_ : Int) ≠ _; decide) | (show (0 : Int) ≤ _; decide) | (show (0 : Int) ≤ _ ∧ _ < (256 : Int); decide))) ?_
              | (refine F.hold hA 2000 ?_; cbv))
            exact F.ret0 ⟨_, _, _, rfl, rfl, it1 hA hq hn (.inl d2)⟩
      · repeat (first
          | refine OK.drawn (by decide +kernel) ?_
          | refine OK.tree ⟨lookT tis, fun _ => true, []⟩ (by decide +kernel) ?_
          | refine OK.need (by first | assumption | (rw [hA]; first | (show (_ : Int) ≠ _; decide) | (show (0 : Int) ≤ _; decide) | (show (0 : Int) ≤ _ ∧ _ < (256 : Int); decide))) ?_
          | (refine F.hold hA 2000 ?_; cbv))
        refine OK.branch (fun d1 => absurd (eqT hA d1) (eqF hA c1)) (fun d1 => ?_)
        repeat (first
          | refine OK.drawn (by decide +kernel) ?_
          | refine OK.tree ⟨lookT tis, fun _ => true, []⟩ (by decide +kernel) ?_
          | refine OK.need (by first | assumption | (rw [hA]; first | (show (_ : Int) ≠ _; decide) | (show (0 : Int) ≤ _; decide) | (show (0 : Int) ≤ _ ∧ _ < (256 : Int); decide))) ?_
          | (refine F.hold hA 2000 ?_; cbv))
        refine OK.branch (fun e1 => ?_) (fun e1 => absurd (neqF hA e1) (eqF hA c1))
        repeat (first
          | refine OK.drawn (by decide +kernel) ?_
          | refine OK.tree ⟨lookT tis, fun _ => true, []⟩ (by decide +kernel) ?_
          | refine OK.need (by first | assumption | (rw [hA]; first | (show (_ : Int) ≠ _; decide) | (show (0 : Int) ≤ _; decide) | (show (0 : Int) ≤ _ ∧ _ < (256 : Int); decide))) ?_
          | (refine F.hold hA 2000 ?_; cbv))
        refine OK.branch (fun e2 => ?_) (fun e2 => ?_)
        · repeat (first
            | refine OK.drawn (by decide +kernel) ?_
            | refine OK.tree ⟨lookT tis, fun _ => true, []⟩ (by decide +kernel) ?_
            | refine OK.need (by first | assumption | (rw [hA]; first | (show (_ : Int) ≠ _; decide) | (show (0 : Int) ≤ _; decide) | (show (0 : Int) ≤ _ ∧ _ < (256 : Int); decide))) ?_
            | (refine F.hold hA 2000 ?_; cbv))
          refine OK.branch (fun e3 => ?_) (fun e3 => ?_)
          · have hpv := itPrev hA hq e3
            have q3 := hpv.q
            repeat (first
              | refine OK.drawn (by decide +kernel) ?_
              | refine OK.tree ⟨lookT tis, fun _ => true, []⟩ (by decide +kernel) ?_
              | refine OK.need (by first | assumption | (rw [hA]; first | (show (_ : Int) ≠ _; decide) | (show (0 : Int) ≤ _; decide) | (show (0 : Int) ≤ _ ∧ _ < (256 : Int); decide))) ?_
              | (refine F.hold hA 2000 ?_; cbv))
            refine OK.branch (fun e4 => ?_) (fun e4 => ?_)
            · repeat (first
                | refine OK.drawn (by decide +kernel) ?_
                | refine OK.tree ⟨lookT tis, fun _ => true, []⟩ (by decide +kernel) ?_
                | refine OK.need (by first | assumption | (rw [hA]; first | (show (_ : Int) ≠ _; decide) | (show (0 : Int) ≤ _; decide) | (show (0 : Int) ≤ _ ∧ _ < (256 : Int); decide))) ?_
                | (refine F.hold hA 2000 ?_; cbv))
              exact F.ret0 ⟨_, _, _, rfl, rfl, it16 hA hq hn c1 e2 e3 e4⟩
            · repeat (first
                | refine OK.drawn (by decide +kernel) ?_
                | refine OK.tree ⟨lookT tis, fun _ => true, []⟩ (by decide +kernel) ?_
                | refine OK.need (by first | assumption | (rw [hA]; first | (show (_ : Int) ≠ _; decide) | (show (0 : Int) ≤ _; decide) | (show (0 : Int) ≤ _ ∧ _ < (256 : Int); decide))) ?_
                | (refine F.hold hA 2000 ?_; cbv))
              exact F.ret0 ⟨_, _, _, rfl, rfl, it1 hA hq hn (.inr (.inr ⟨c1, e3, e4⟩))⟩
          · repeat (first
              | refine OK.drawn (by decide +kernel) ?_
              | refine OK.tree ⟨lookT tis, fun _ => true, []⟩ (by decide +kernel) ?_
              | refine OK.need (by first | assumption | (rw [hA]; first | (show (_ : Int) ≠ _; decide) | (show (0 : Int) ≤ _; decide) | (show (0 : Int) ≤ _ ∧ _ < (256 : Int); decide))) ?_
              | (refine F.hold hA 2000 ?_; cbv))
            exact F.ret0 ⟨_, _, _, rfl, rfl, it1 hA hq hn (.inr (.inl ⟨c1, e3⟩))⟩
        · repeat (first
            | refine OK.drawn (by decide +kernel) ?_
            | refine OK.tree ⟨lookT tis, fun _ => true, []⟩ (by decide +kernel) ?_
            | refine OK.need (by first | assumption | (rw [hA]; first | (show (_ : Int) ≠ _; decide) | (show (0 : Int) ≤ _; decide) | (show (0 : Int) ≤ _ ∧ _ < (256 : Int); decide))) ?_
            | (refine F.hold hA 2000 ?_; cbv))
          exact F.ret0 ⟨_, _, _, rfl, rfl, it1 hA hq hn (.inl e2)⟩
end Go.L1

-- S21
namespace Go.L1
open Go Go.Sx Go.Proofs Go.L5
set_option maxRecDepth 20000
set_option linter.unusedVariables false
set_option linter.unusedSimpArgs false
theorem badL_ok (c : Int) : FOK Try.prog C1 29 (fun _ => true) [.int .i64 c] [] (fun rs H => ∃ b, rs = [.bool (.e b)] ∧ H = [] ∧ b = badL c) := by
  refine fok_of (B := ⟨lookT tis, fun _ => true, []⟩) (tab1 _) (zero1 _) cod1 mix1 Try.func29 (by kernel_rfl) rfl rfl rfl fun X F => ?_
  obtain ⟨A, hA⟩ : ∃ A, A = Leaf.std := ⟨_, rfl⟩
  refine F.hold hA 2000 ?_
  cbv
  repeat' (first
    | refine OK.drawn (by decide +kernel) ?_
    | refine OK.tree ⟨lookT tis, fun _ => true, []⟩ (by decide +kernel) ?_
    | refine OK.both ?_ ?_
    | refine OK.need (by first | assumption | (rw [hA]; first | (show (_ : Int) ≠ _; decide) | (show (0 : Int) ≤ _; decide) | (show (0 : Int) ≤ _ ∧ _ < (256 : Int); decide))) ?_
    | refine OK.need ?_ ?_
    | (refine OK.branch ?_ ?_ <;> intro h)
    | (refine F.hold hA 2000 ?_; cbv))
  all_goals (refine F.retE rfl ⟨_, rfl, rfl, ?_⟩)
  · subst hA
    have h : decide (c < 0) = true := by assumption
    unfold badL; rw [h]; rfl
  · subst hA
    have h : decide (c < 0) = false := by assumption
    unfold badL; rw [h]; rfl
theorem nil_den1 {C : Cod T1} {M : Mem} {v : Value} (h : DenV C M (.val (.slice none 0 0)) v) : DenV C M (.ro (.recs 1 [])) v := by
  have h : Den C M [.val (.slice none 0 0)] [v] := h
  show Den C M [.ro (.recs 1 [])] [v]
  cases h with
  | val _ _ hm => exact .ro (.recs 1 []) none 0 [] (by simp [Row.length]) (Nat.le_refl _) (fun h => absurd h (by decide)) (fun i e he => by cases he) .nil
structure PackIs (l : List Int) (items : List Pr) : Prop where
  e : itL items = packL l
structure PkI (l : List Int) (items : List Pr) (i : Int) (k : Nat) : Prop where
  ei : i = (k : Int)
  le : k ≤ l.length
  n : items.length ≤ k
  e : itL items ++ packG l k = packG l 0
def PkW (l : List Int) (w : List Pr × Int) : Prop := ∃ k, PkI l w.1 w.2 k
structure PkAt (A : Leaf) (l : List Int) (items : List Pr) (i : Int) (k : Nat) : Prop where
  ei : i = (k : Int)
  lt : k < l.length
  nx : ∀ a b n, ItOut l k a b n → A.small (A.len (A.app items [(⟨a, b⟩ : Pr)])) 16 ∧ PkW l (A.app items [(⟨a, b⟩ : Pr)], A.ar .add .i64 i n) ∧ (1000 - A.ar .add .i64 i n).toNat < (1000 - i).toNat
theorem pkAt {A : Leaf} {l : List Int} {items : List Pr} {i : Int} (hA : A = .std) (hl : l.length ≤ 400) (hI : PkW l (items, i)) (b : A.cmp .lss i (A.len l) = true) : ∃ k, PkAt A l items i k := by
  obtain ⟨k, h1, h2, h3, h4⟩ := hI
  simp only at h1 h3 h4
  subst hA h1
  have b : (k : Int) < (l.length : Int) := of_decide_eq_true b
  have hk : k < l.length := by omega
  refine ⟨k, rfl, hk, fun a b n ho => ?_⟩
  have hp := itemN_pos l k
  have hle := itemN_le hk
  have hn := ho.n
  have e : Leaf.std.ar .add .i64 (k : Int) n = ((k + (itemN l k).2 : Nat) : Int) := by rw [add_i64 (by omega) (by omega)]; omega
  refine ⟨?_, ?_, by rw [e]; omega⟩
  · show (0 : Int) ≤ (((items ++ [_]).length : Nat) : Int) ∧ (((items ++ [_]).length : Nat) : Int) ≤ 140737488355328 ∧ (((items ++ [_]).length : Nat) : Int) * ((16 : Nat) : Int) ≤ 140737488355328
    rw [List.length_append, List.length_singleton]; omega
  · rw [e]
    refine ⟨k + (itemN l k).2, rfl, hle, ?_, ?_⟩
    · show (items ++ [_]).length ≤ _
      rw [List.length_append, List.length_singleton]; omega
    · show itL (items ++ [⟨a, b⟩]) ++ _ = _
      rw [packG_step hk] at h4
      rw [← h4]
      unfold itL
      rw [List.map_append, List.append_assoc]
      congr 1
      show (a, b) :: _ = _
      rw [ho.a, ho.b]
      rfl
theorem pkFin {A : Leaf} {l : List Int} {items : List Pr} {i : Int} {bb : Bool} (hA : A = .std) (hb : AnyIs badL l bb) (b0 : bb = false) (hI : PkW l (items, i)) (b : A.cmp .lss i (A.len l) = false) : PackIs l items := by
  obtain ⟨k, h1, h2, h3, h4⟩ := hI
  simp only at h1 h3 h4
  subst hA h1
  have b : ¬ (k : Int) < (l.length : Int) := of_decide_eq_false b
  rw [packG_end (by omega), List.append_nil] at h4
  refine ⟨?_⟩
  unfold packL
  rw [if_neg (fun h => by rw [hb.yes.2 h] at b0; cases b0)]
  exact h4
theorem pack_ok (l : List Int) (hl : l.length ≤ 400) : FOK Try.prog C1 11 (fun _ => false) [.ro (.ints .i64 l)] []
    (fun rs H => ∃ items, rs = [.ro (.recs 1 items)] ∧ H = [] ∧ PackIs l items) := by
  refine fok_of (B := ⟨lookT tis, fun _ => false, []⟩) (tab1 _) (zero1 _) cod1 mix1 Try.func11 (by kernel_rfl) rfl rfl rfl fun X F => ?_
  obtain ⟨A, hA⟩ : ∃ A, A = Leaf.std := ⟨_, rfl⟩
  refine F.hold hA 2000 ?_
  cbv
  repeat (first
    | refine OK.drawn (by decide +kernel) ?_
    | refine OK.tree ⟨lookT tis, fun _ => true, []⟩ (by decide +kernel) ?_
    | refine OK.need (by first | assumption | (rw [hA]; first | (show (_ : Int) ≠ _; decide) | (show (0 : Int) ≤ _; decide) | (show (0 : Int) ≤ _ ∧ _ < (256 : Int); decide))) ?_
    | (refine F.hold hA 2000 ?_; cbv))
  refine F.call [] (contains_ok _ badL badL_ok l (by omega)) rfl rfl rfl fun rs H' hq => ?_
  obtain ⟨bb, rfl, rfl, hb⟩ := hq
  refine ⟨rfl, ?_⟩
  repeat (first
    | refine OK.drawn (by decide +kernel) ?_
    | refine OK.tree ⟨lookT tis, fun _ => true, []⟩ (by decide +kernel) ?_
    | refine OK.need (by first | assumption | (rw [hA]; first | (show (_ : Int) ≠ _; decide) | (show (0 : Int) ≤ _; decide) | (show (0 : Int) ≤ _ ∧ _ < (256 : Int); decide))) ?_
    | (refine F.hold hA 2000 ?_; cbv))
  refine OK.branch (fun b0 => ?_) (fun b0 => ?_)
  · repeat (first
      | refine OK.drawn (by decide +kernel) ?_
      | refine OK.tree ⟨lookT tis, fun _ => true, []⟩ (by decide +kernel) ?_
      | refine OK.need (by first | assumption | (rw [hA]; first | (show (_ : Int) ≠ _; decide) | (show (0 : Int) ≤ _; decide) | (show (0 : Int) ≤ _ ∧ _ < (256 : Int); decide))) ?_
      | (refine F.hold hA 2000 ?_; cbv))
    exact F.ret (rs' := [.ro (.recs 1 [])]) (H' := []) (Cv.slot 0 rfl fun M v h => nil_den1 h) rfl ⟨_, rfl, rfl, ⟨by unfold packL; rw [if_pos (hb.yes.1 b0)]; rfl⟩⟩
  · repeat (first
      | refine OK.drawn (by decide +kernel) ?_
      | refine OK.tree ⟨lookT tis, fun _ => true, []⟩ (by decide +kernel) ?_
      | refine OK.need (by first | assumption | (rw [hA]; first | (show (_ : Int) ≠ _; decide) | (show (0 : Int) ≤ _; decide) | (show (0 : Int) ≤ _ ∧ _ < (256 : Int); decide))) ?_
      | (refine F.hold hA 2000 ?_; cbv))
    refine OK.loopCv (Cv.adopt F.cod 3 33 (ek := .st 1) rfl rfl) ?_
    refine F.loop (V := List Pr × Int) [0, 3] (PkW l) (fun w => (1000 - w.2).toNat) (fun w => [(4, .int .i64 w.2)]) (fun w => [(0, .row 33 (.recs 1 w.1))]) (_, _) (by cbv; repeat (first | exact WkH.nil _ | apply WkH.gone | refine WkH.eq rfl ?_)) (by cbv; repeat (first | apply WkL.any | exact WkL.nil _ | refine WkL.eq rfl ?_ | refine WkL.bool rfl ?_)) (by cbv; exact ⟨rfl⟩) ?_ ?_
    · exact ⟨0, rfl, Nat.zero_le _, Nat.le_refl _, rfl⟩
    rintro ⟨items, i⟩ hI Bk hBk
    repeat (first
      | refine OK.drawn (by decide +kernel) ?_
      | refine OK.tree ⟨lookT tis, fun _ => true, []⟩ (by decide +kernel) ?_
      | refine OK.need (by first | assumption | (rw [hA]; first | (show (_ : Int) ≠ _; decide) | (show (0 : Int) ≤ _; decide) | (show (0 : Int) ≤ _ ∧ _ < (256 : Int); decide))) ?_
      | (refine F.hold hA 2000 ?_; cbv))
    refine OK.branch (fun b1 => ?_) (fun b1 => ?_)
    · obtain ⟨k, hat⟩ := pkAt hA hl hI b1
      repeat (first
        | refine OK.drawn (by decide +kernel) ?_
        | refine OK.tree ⟨lookT tis, fun _ => true, []⟩ (by decide +kernel) ?_
        | refine OK.need (by first | assumption | (rw [hA]; first | (show (_ : Int) ≠ _; decide) | (show (0 : Int) ≤ _; decide) | (show (0 : Int) ≤ _ ∧ _ < (256 : Int); decide))) ?_
        | (refine F.hold hA 2000 ?_; cbv))
      refine F.call [] (item_ok l k i hat.ei hat.lt hl) rfl rfl rfl fun rs H' hq => ?_
      obtain ⟨a, b, n, rfl, rfl, ho⟩ := hq
      refine ⟨rfl, ?_⟩
      obtain ⟨q1, hnx, hmu⟩ := hat.nx a b n ho
      repeat (first
        | refine OK.drawn (by decide +kernel) ?_
        | refine OK.tree ⟨lookT tis, fun _ => true, []⟩ (by decide +kernel) ?_
        | refine OK.need (by first | assumption | (rw [hA]; first | (show (_ : Int) ≠ _; decide) | (show (0 : Int) ≤ _; decide) | (show (0 : Int) ≤ _ ∧ _ < (256 : Int); decide))) ?_
        | (refine F.hold hA 2000 ?_; cbv))
      refine OK.back (hBk _ _ (_, _) (by cbv; repeat (first | exact WkH.nil _ | apply WkH.gone | refine WkH.eq rfl ?_)) (by cbv; repeat (first | apply WkL.any | exact WkL.nil _ | refine WkL.eq rfl ?_ | refine WkL.bool rfl ?_)) (by cbv; exact ⟨rfl⟩) ?_ ?_)
      · exact hnx
      · exact hmu
    · have hfin := pkFin hA hb b0 hI b1
      repeat (first
        | refine OK.drawn (by decide +kernel) ?_
        | refine OK.tree ⟨lookT tis, fun _ => true, []⟩ (by decide +kernel) ?_
        | refine OK.need (by first | assumption | (rw [hA]; first | (show (_ : Int) ≠ _; decide) | (show (0 : Int) ≤ _; decide) | (show (0 : Int) ≤ _ ∧ _ < (256 : Int); decide))) ?_
        | (refine F.hold hA 2000 ?_; cbv))
      exact F.ret (rs' := [.ro (.recs 1 _)]) (H' := []) (Cv.trans (Cv.freeze F.cod 0 rfl) (F.cv ⟨rfl⟩ (by cbv; repeat (first | apply WkL.any | exact WkL.nil _ | refine WkL.eq rfl ?_)) (WkH.nil _))) rfl ⟨_, rfl, rfl, hfin⟩
end Go.L1

-- S22
namespace Go.L1
open Go Go.Sx Go.Proofs Go.L5
set_option maxRecDepth 20000
set_option linter.unusedVariables false
set_option linter.unusedSimpArgs false
theorem three : ∀ a b c : Fin 16, 1 ≤ c.1 → c.1 ≤ b.1 → b.1 ≤ a.1 → 2 ^ (15 - a.1) + 2 ^ (15 - b.1) + 2 ^ (15 - c.1) = 2 ^ 15 → a.1 = 2 ∧ b.1 = 2 ∧ c.1 = 1 := by decide +kernel
theorem alive_lens {l : List Int} {e : Int} (h : BuildIs [5, 1, 0, 1] 15 l e) : e = 0 ∧ l = [1, 2, 0, 2] := by
  have hw : ¬ WrongB [5, 1, 0, 1] 15 := by unfold WrongB; decide
  obtain ⟨cs, hcs, _, h2⟩ := h.ok hw
  have hcs2 : IsCoins [5, 1, 0, 1] [Coin.node 1 3 [], Coin.node 1 1 [], Coin.node 5 0 []] := by
    unfold IsCoins
    have : (leaves 0 [5, 1, 0, 1]).reverse = [Coin.node 1 3 [], Coin.node 1 1 [], Coin.node 5 0 []] := by simp [leaves]
    rw [this]
    refine ⟨?_, fun _ => rfl⟩
    unfold Rise
    simp
  have hc := hcs.uniq hcs2
  subst hc
  obtain ⟨h3, h4⟩ := h2 (by show 3 ≤ 2 ^ 15; decide)
  refine ⟨h3, ?_⟩
  obtain ⟨is, hl, hL⟩ := lens_ok hcs2.all (d := 15) (by decide) (by show 2 ≤ 3; decide) (by show 3 ≤ 2 ^ 15; decide)
  have hl5 : l = lensOf [Coin.node 1 3 [], Coin.node 1 1 [], Coin.node 5 0 []] 15 4 := h4
  have hL : Lens [5, 1, 0, 1] 15 _ is (lensOf [Coin.node 1 3 [], Coin.node 1 1 [], Coin.node 5 0 []] 15 4) := hL
  rw [← hl5] at hL
  obtain ⟨t0, e0, _, u0⟩ := hL.used 0 _ rfl
  obtain ⟨t1, e1, _, u1⟩ := hL.used 1 _ rfl
  obtain ⟨t2, e2, _, u2⟩ := hL.used 2 _ rfl
  have e0 : (3 : Int) = t0 := e0
  have e1 : (1 : Int) = t1 := e1
  have e2 : (0 : Int) = t2 := e2
  have e0 : t0 = 3 := by omega
  have e1 : t1 = 1 := by omega
  have e2 : t2 = 0 := by omega
  subst e0 e1 e2
  have u3 := hL.un 2 0 rfl (by decide)
  have o0 := hL.one 0 (by show 0 < 3; decide)
  have o1 := hL.one 1 (by show 1 < 3; decide)
  have o2 := hL.one 2 (by show 2 < 3; decide)
  have hs : 2 ^ (15 - lvl is 0) + 2 ^ (15 - lvl is 1) + 2 ^ (15 - lvl is 2) = 2 ^ 15 := by
    have := hL.sum
    simpa [sumTo] using this
  have a1 := lvl_anti (is := is) (p := 0) (q := 1) (by decide)
  have a2 := lvl_anti (is := is) (p := 1) (q := 2) (by decide)
  obtain ⟨r0, r1, r2⟩ := three ⟨lvl is 0, by omega⟩ ⟨lvl is 1, by omega⟩ ⟨lvl is 2, by omega⟩ o2.1 a2 a1 hs
  simp only at r0 r1 r2
  rw [r0] at u0
  rw [r1] at u1
  rw [r2] at u2
  have hlen := hL.len
  match l, hlen, u0, u1, u2, u3 with
  | [a, b, c, d], _, u0, u1, u2, u3 =>
    simp at u0 u1 u2 u3
    rw [u0, u1, u2, u3]
theorem alive_fault {l : List Int} {e : Int} (h : BuildIs [1, 1, 1] 1 l e) : e = 14 := by
  have hw : ¬ WrongB [1, 1, 1] 1 := by unfold WrongB; decide
  obtain ⟨cs, hcs, h1, _⟩ := h.ok hw
  have : cs.length = 3 := by
    have := hcs.all.perm.length_eq
    rw [this]; simp [leaves]
  exact (h1 (by rw [this]; decide)).1
def alP : List Int := [0, 0, 0, 4, 4, 4, 4, 4]
theorem alive_pack {items : List Pr} (h : PackIs alP items) : items = [⟨17, 0⟩, ⟨4, 0⟩, ⟨16, 1⟩] := by
  have h1 : packL alP = [(17, 0), (4, 0), (16, 1)] := by decide +kernel
  have h2 := h.e
  rw [h1] at h2
  unfold itL at h2
  match items, h2 with
  | [⟨a, b⟩, ⟨c, d⟩, ⟨e, f⟩], h2 =>
    simp at h2
    obtain ⟨⟨rfl, rfl⟩, ⟨rfl, rfl⟩, rfl, rfl⟩ := h2
    rfl
theorem alive_unpack : unpackR (itL [⟨17, 0⟩, ⟨4, 0⟩, ⟨16, 1⟩]) [] = some alP := by decide +kernel
/-- One operation whose value is told by hand. -/
theorem _root_.Go.Sx.Holds.value {T : Nat → Type} {X : Ctx T} {o oj : Oper} {l all : List Oper} {k : List (KI T)} {fr : List (SV T)} {H : List (Ch T)} {s : SV T} {j d : Nat} (hg : o.guard = some (j, true)) (hj : nth all j = some oj) (hd : oj.dst = some d) (hb : nth fr d = some (.bool (.lit true)))
    (hv : ∀ M a, Sat X.C X.E M H → FrOK X.C M fr a → ∃ v, (execOp a.eval o).run X.P M.w = .ok (.value v) M.w ∧ DenV X.C M s v) (h : Holds X (.ops l all :: k) (putF fr o.dst s) H) : Holds X (.ops (o :: l) all :: k) fr H := by
  intro M a hS hF hds
  show wpList X.P all.toArray (QK X k) (o :: l) a M.w
  rw [nth_eq] at hj hb
  obtain ⟨hy, _⟩ := yielded_eq (C := X.C) hj hd hb hF
  unfold wpList
  rw [if_pos (by simp [Region.wanted, hg, hy, ebool])]
  obtain ⟨v, hr, hdv⟩ := hv M a hS hF
  refine .inl ?_
  unfold Oper.wp
  rw [hr]
  exact h M _ hS (putF_put hF hdv) (put_defers.trans hds)
theorem den_two {M : Mem} {x y : Int} {v : Value} (h : DenV C1 M (.agg [.int .i64 x, .int .i64 y]) v) : v = .agg #[.int .i64 x, .int .i64 y] := by
  obtain ⟨us, rfl, h⟩ := h
  have key : ∀ l : List Value, Den C1 M [.int .i64 x, .int .i64 y] l → l = [.int .i64 x, .int .i64 y] := fun l h => by
    cases h with
    | int _ _ h => cases h with
      | int _ _ h => cases h; rfl
  have := key _ h
  congr 1
  exact Array.toList_inj.1 this
theorem eqIt (x y : Int) (h : (x = 17 ∧ y = 0) ∨ (x = 16 ∧ y = 1)) (ox oy : Operand) (w : World) : (do pure (Next.value (← (do eqGuard .eql 33 ox oy (.agg #[.int .i64 x, .int .i64 y]) (.agg #[.int .i64 x, .int .i64 y]); binOp .eql 33 (.agg #[.int .i64 x, .int .i64 y]) (.agg #[.int .i64 x, .int .i64 y])))) : Sem Next).run Try.prog w = .ok (.value (.bool true)) w := by
  rcases h with ⟨rfl, rfl⟩ | ⟨rfl, rfl⟩ <;> kernel_rfl
theorem aliveEq1 {p : Pr} (h : p = ⟨17, 0⟩) {ox oy : Operand} (w : World) : (do pure (Next.value (← (do eqGuard .eql 33 ox oy (.agg #[.int .i64 p.1, .int .i64 p.2]) (.agg #[.int .i64 17, .int .i64 0]); binOp .eql 33 (.agg #[.int .i64 p.1, .int .i64 p.2]) (.agg #[.int .i64 17, .int .i64 0])))) : Sem Next).run Try.prog w = .ok (.value (.bool true)) w := by
  subst h; exact eqIt 17 0 (.inl ⟨rfl, rfl⟩) ox oy w
theorem aliveEq2 {p : Pr} (h : p = ⟨16, 1⟩) {ox oy : Operand} (w : World) : (do pure (Next.value (← (do eqGuard .eql 33 ox oy (.agg #[.int .i64 p.1, .int .i64 p.2]) (.agg #[.int .i64 16, .int .i64 1]); binOp .eql 33 (.agg #[.int .i64 p.1, .int .i64 p.2]) (.agg #[.int .i64 16, .int .i64 1])))) : Sem Next).run Try.prog w = .ok (.value (.bool true)) w := by
  subst h; exact eqIt 16 1 (.inr ⟨rfl, rfl⟩) ox oy w
theorem alive_ok : FOK Try.prog C1 8 (fun _ => false) [] [] (fun rs H => ∃ b, rs = [.bool (.e b)] ∧ H = [] ∧ b = true) := by
  refine fok_of (B := ⟨lookT tis, fun _ => false, []⟩) (tab1 _) (zero1 _) cod1 mix1 Try.func8 (by kernel_rfl) rfl rfl rfl fun X F => ?_
  obtain ⟨A, hA⟩ : ∃ A, A = Leaf.std := ⟨_, rfl⟩
  refine F.hold hA 2000 ?_
  cbv
  repeat (first
    | refine OK.drawn (by decide +kernel) ?_
    | refine OK.tree ⟨lookT tis, fun _ => true, []⟩ (by decide +kernel) ?_
    | refine OK.need (by first | assumption | (rw [hA]; first | (show (_ : Int) ≠ _; decide) | (show (0 : Int) ≤ _; decide) | (show (0 : Int) ≤ _ ∧ _ < (256 : Int); decide))) ?_
    | (refine F.hold hA 2000 ?_; cbv))
  refine F.callFrz 0 rfl rfl rfl rfl ?_
  refine F.call [] (build_ok [5, 1, 0, 1] 15 (by show 4 ≤ 400; decide)) rfl rfl rfl fun rs H' hq => ?_
  obtain ⟨l, e, rfl, rfl, hb⟩ := hq
  refine ⟨rfl, ?_⟩
  obtain ⟨rfl, rfl⟩ := alive_lens hb
  repeat (first
    | refine OK.drawn (by decide +kernel) ?_
    | refine OK.tree ⟨lookT tis, fun _ => true, []⟩ (by decide +kernel) ?_
    | refine OK.need (by first | assumption | (rw [hA]; first | (show (_ : Int) ≠ _; decide) | (show (0 : Int) ≤ _; decide) | (show (0 : Int) ≤ _ ∧ _ < (256 : Int); decide))) ?_
    | (refine F.hold hA 2000 ?_; cbv))
  refine F.callFrz 1 rfl rfl rfl rfl ?_
  refine F.call [] (build_ok [1, 1, 1] 1 (by show 3 ≤ 400; decide)) rfl rfl rfl fun rs H' hq => ?_
  obtain ⟨l2, e2, rfl, rfl, hb2⟩ := hq
  refine ⟨rfl, ?_⟩
  obtain rfl := alive_fault hb2
  repeat (first
    | refine OK.drawn (by decide +kernel) ?_
    | refine OK.tree ⟨lookT tis, fun _ => true, []⟩ (by decide +kernel) ?_
    | refine OK.need (by first | assumption | (rw [hA]; first | (show (_ : Int) ≠ _; decide) | (show (0 : Int) ≤ _; decide) | (show (0 : Int) ≤ _ ∧ _ < (256 : Int); decide))) ?_
    | (refine F.hold hA 2000 ?_; cbv))
  refine F.callFrz 2 rfl rfl rfl rfl ?_
  refine F.call [] (pack_ok [0, 0, 0, 4, 4, 4, 4, 4] (by show 8 ≤ 400; decide)) rfl rfl rfl fun rs H' hq => ?_
  obtain ⟨items, rfl, rfl, hp⟩ := hq
  refine ⟨rfl, ?_⟩
  obtain rfl := alive_pack hp
  repeat (first
    | refine OK.drawn (by decide +kernel) ?_
    | refine OK.tree ⟨lookT tis, fun _ => true, []⟩ (by decide +kernel) ?_
    | refine OK.need (by first | assumption | (rw [hA]; first | (show (_ : Int) ≠ _; decide) | (show (0 : Int) ≤ _; decide) | (show (0 : Int) ≤ _ ∧ _ < (256 : Int); decide))) ?_
    | (refine F.hold hA 2000 ?_; cbv))
  refine F.call [] (unpack_ok6 [⟨17, 0⟩, ⟨4, 0⟩, ⟨16, 1⟩] ⟨by show 3 ≤ 100000; decide⟩) rfl rfl rfl fun rs H' hq => ?_
  rcases hq with ⟨u, hrs, rfl, hu, hu2⟩ | ⟨hrs, rfl, hu⟩
  · rw [alive_unpack] at hu
    cases hu
    subst hrs
    refine ⟨rfl, ?_⟩
    repeat (first
      | refine OK.drawn (by decide +kernel) ?_
      | refine OK.tree ⟨lookT tis, fun _ => true, []⟩ (by decide +kernel) ?_
      | refine OK.need (by first | assumption | (rw [hA]; first | (show (_ : Int) ≠ _; decide) | (show (0 : Int) ≤ _; decide) | (show (0 : Int) ≤ _ ∧ _ < (256 : Int); decide))) ?_
      | (refine F.hold hA 2000 ?_; cbv))
    refine OK.branch (fun _ => ?_) (fun h => absurd rfl (eqF hA h))
    repeat (first
      | refine OK.drawn (by decide +kernel) ?_
      | refine OK.tree ⟨lookT tis, fun _ => true, []⟩ (by decide +kernel) ?_
      | refine OK.need (by first | assumption | (rw [hA]; first | (show (_ : Int) ≠ _; decide) | (show (0 : Int) ≤ _; decide) | (show (0 : Int) ≤ _ ∧ _ < (256 : Int); decide))) ?_
      | (refine F.hold hA 2000 ?_; cbv))
    refine OK.branch (fun _ => ?_) (fun h => absurd rfl (eqF hA h))
    repeat (first
      | refine OK.drawn (by decide +kernel) ?_
      | refine OK.tree ⟨lookT tis, fun _ => true, []⟩ (by decide +kernel) ?_
      | refine OK.need (by first | assumption | (rw [hA]; first | (show (_ : Int) ≠ _; decide) | (show (0 : Int) ≤ _; decide) | (show (0 : Int) ≤ _ ∧ _ < (256 : Int); decide))) ?_
      | (refine F.hold hA 2000 ?_; cbv))
    refine F.callFrz 3 rfl rfl rfl rfl ?_
    refine F.call [] (sameInts_ok [1, 2, 0, 2] ⟨by show 4 ≤ 400; decide⟩) rfl rfl rfl fun rs H' hq => ?_
    obtain ⟨rfl, rfl⟩ := hq
    refine ⟨rfl, ?_⟩
    repeat (first
      | refine OK.drawn (by decide +kernel) ?_
      | refine OK.tree ⟨lookT tis, fun _ => true, []⟩ (by decide +kernel) ?_
      | refine OK.need (by first | assumption | (rw [hA]; first | (show (_ : Int) ≠ _; decide) | (show (0 : Int) ≤ _; decide) | (show (0 : Int) ≤ _ ∧ _ < (256 : Int); decide))) ?_
      | (refine F.hold hA 2000 ?_; cbv))
    refine F.callFrz 4 rfl rfl rfl rfl ?_
    refine F.call [] (cost_ok [5, 1, 0, 1] [1, 2, 0, 2] (by show 4 ≤ 400; decide) (by show 4 ≤ 400; decide)) rfl rfl rfl fun rs H' hq => ?_
    obtain ⟨n, rfl, rfl, hn⟩ := hq
    refine ⟨rfl, ?_⟩
    have hn9 : n = 9 := by rw [hn.e]; decide +kernel
    repeat (first
      | refine OK.drawn (by decide +kernel) ?_
      | refine OK.tree ⟨lookT tis, fun _ => true, []⟩ (by decide +kernel) ?_
      | refine OK.need (by first | assumption | (rw [hA]; first | (show (_ : Int) ≠ _; decide) | (show (0 : Int) ≤ _; decide) | (show (0 : Int) ≤ _ ∧ _ < (256 : Int); decide))) ?_
      | (refine F.hold hA 2000 ?_; cbv))
    refine OK.branch (fun _ => ?_) (fun h => absurd hn9 (eqF hA h))
    have hl3 : A.len [(⟨17, 0⟩ : Pr), ⟨4, 0⟩, ⟨16, 1⟩] = 3 := by subst hA; rfl
    have q1 : A.inb 0 (A.len [(⟨17, 0⟩ : Pr), ⟨4, 0⟩, ⟨16, 1⟩]) := by subst hA; exact ⟨by decide, by show (0 : Int) < 3; decide⟩
    have q2 : A.inb 2 (A.len [(⟨17, 0⟩ : Pr), ⟨4, 0⟩, ⟨16, 1⟩]) := by subst hA; exact ⟨by decide, by show (2 : Int) < 3; decide⟩
    repeat (first
      | refine OK.drawn (by decide +kernel) ?_
      | refine OK.tree ⟨lookT tis, fun _ => true, []⟩ (by decide +kernel) ?_
      | refine OK.need (by first | assumption | (rw [hA]; first | (show (_ : Int) ≠ _; decide) | (show (0 : Int) ≤ _; decide) | (show (0 : Int) ≤ _ ∧ _ < (256 : Int); decide))) ?_
      | (refine F.hold hA 2000 ?_; cbv))
    refine OK.branch (fun _ => ?_) (fun h => absurd hl3 (eqF hA h))
    refine F.hold hA 4 ?_
    cbv
    refine OK.need q1 ?_
    refine OK.more ?_
    refine Holds.value (s := .bool (.lit true)) rfl rfl rfl rfl (fun M a hS hF => ?_) ?_
    · rw [F.C] at hF ⊢
      have h50 := den_two (hF.2 50 _ rfl)
      have h51 := den_two (hF.2 51 _ rfl)
      have g0 : (A.get (⟨0, 0⟩ : Pr) [⟨17, 0⟩, ⟨4, 0⟩, ⟨16, 1⟩] 0) = ⟨17, 0⟩ := by subst hA; rfl
      refine ⟨.bool true, ?_, .bool (.lit true) .nil⟩
      rw [F.P]
      unfold execOp
      simp only []
      rw [show a.eval (.tmp 50) = _ from h50, show a.eval (.tmp 51) = _ from h51]
      exact aliveEq1 g0 M.w
    refine F.hold hA 6 ?_
    cbv
    refine OK.need q2 ?_
    refine OK.more ?_
    refine Holds.value (s := .bool (.lit true)) rfl rfl rfl rfl (fun M a hS hF => ?_) ?_
    · rw [F.C] at hF ⊢
      have h57 := den_two (hF.2 57 _ rfl)
      have h58 := den_two (hF.2 58 _ rfl)
      have g2 : (A.get (⟨0, 0⟩ : Pr) [⟨17, 0⟩, ⟨4, 0⟩, ⟨16, 1⟩] 2) = ⟨16, 1⟩ := by subst hA; rfl
      refine ⟨.bool true, ?_, .bool (.lit true) .nil⟩
      rw [F.P]
      unfold execOp
      simp only []
      rw [show a.eval (.tmp 57) = _ from h57, show a.eval (.tmp 58) = _ from h58]
      exact aliveEq2 g2 M.w
    have hl8 : A.len [(0 : Int), 0, 0, 4, 4, 4, 4, 4] = 8 := by subst hA; rfl
    repeat' (first
      | refine OK.drawn (by decide +kernel) ?_
      | refine OK.tree ⟨lookT tis, fun _ => true, []⟩ (by decide +kernel) ?_
      | refine OK.both ?_ ?_
      | refine OK.need (by first | assumption | (rw [hA]; first | (show (_ : Int) ≠ _; decide) | (show (0 : Int) ≤ _; decide) | (show (0 : Int) ≤ _ ∧ _ < (256 : Int); decide))) ?_
      | refine OK.need ?_ ?_
      | (refine OK.branch ?_ ?_ <;> intro h)
      | (refine F.hold hA 2000 ?_; cbv))
    refine F.ret (rs' := [.bool (.e (A.cmp .eql (A.len [(0 : Int), 0, 0, 4, 4, 4, 4, 4]) 8))]) (H' := []) (F.cv ⟨rfl⟩ (by cbv; repeat (first | apply WkL.any | exact WkL.nil _ | refine WkL.eq rfl ?_)) (WkH.nil _)) rfl ⟨_, rfl, rfl, ?_⟩
    rw [hl8]
    subst hA
    rfl
  · rw [alive_unpack] at hu; cases hu
end Go.L1

-- S23
namespace Go.L1
open Go Go.Sx Go.Proofs Go.L5
set_option maxRecDepth 20000
set_option linter.unusedVariables false
set_option linter.unusedSimpArgs false
structure BuGood (counts : List Int) (limit : Int) (l : List Int) (cs : List Coin) : Prop where
  nw : ¬ WrongB counts limit
  ic : IsCoins counts cs
  few : cs.length ≤ 2 ^ limit.toNat
  l : l = lensAll cs limit.toNat counts.length
theorem build_good {counts : List Int} {limit e : Int} {l : List Int} (h : BuildIs counts limit l e) (h0 : e = 0) : ∃ cs, BuGood counts limit l cs := by
  have hw : ¬ WrongB counts limit := fun hw => by have := (h.wr hw).1; omega
  obtain ⟨cs, h1, h2, h3⟩ := h.ok hw
  have hf : cs.length ≤ 2 ^ limit.toNat := Nat.le_of_not_lt fun hlt => by have := (h2 hlt).1; omega
  exact ⟨cs, hw, h1, hf, (h3 hf).2⟩
theorem nw_facts {counts : List Int} {limit : Int} (h : ¬ WrongB counts limit) : 1 ≤ limit ∧ limit ≤ 15 ∧ counts.length ≤ 320 ∧ ∀ c ∈ counts, 0 ≤ c ∧ c ≤ 1099511627776 := by
  have hq := buQ (A := .std) rfl h
  exact ⟨hq.lo, hq.hi, hq.n, hq.pos⟩
theorem lensAll_two {cs : List Coin} {d len : Nat} (h : cs.length ≠ 1) : lensAll cs d len = lensOf cs d len := by unfold lensAll; rw [if_neg h]
theorem all_at {counts : List Int} {limit : Int} {l : List Int} {cs : List Coin} (h : BuGood counts limit l cs) : l.length = counts.length ∧ ∀ (t : Nat) (c : Int), counts[t]? = some c → ∃ x, l[t]? = some x ∧ (0 < c → 1 ≤ x ∧ x ≤ limit) ∧ (c ≤ 0 → x = 0) := by
  obtain ⟨f1, f2, f3, f4⟩ := nw_facts h.nw
  have hall := h.ic.all
  have hl := h.l
  rcases Nat.lt_or_ge cs.length 2 with h2 | h2
  · match cs, h2, hall, hl with
    | [], _, hall, hl =>
      rw [lensAll_two (by simp), lensOf_nil] at hl
      subst hl
      refine ⟨by simp, fun t c hc => ⟨0, ?_, fun h0 => ?_, fun _ => rfl⟩⟩
      · rw [List.getElem?_replicate, if_pos (List.getElem?_eq_some_iff.1 hc).1]
      · have := (hall.mem (.node c t [])).2 ⟨t, c, hc, h0, rfl⟩
        cases this
    | [x], _, hall, hl =>
      obtain ⟨t0, c0, h3, h4, rfl⟩ := (hall.mem x).1 (by simp)
      have hlen := (List.getElem?_eq_some_iff.1 h3).1
      have hl : l = (List.replicate counts.length (0 : Int)).set t0 1 := hl
      subst hl
      refine ⟨by simp, fun t c hc => ?_⟩
      have htl := (List.getElem?_eq_some_iff.1 hc).1
      rw [List.getElem?_set]
      by_cases ht : t0 = t
      · subst ht
        rw [h3] at hc; cases hc
        exact ⟨1, by rw [if_pos rfl, if_pos (by rw [List.length_replicate]; exact hlen)], fun _ => ⟨by omega, f1⟩, fun h => by omega⟩
      · refine ⟨0, by rw [if_neg ht, List.getElem?_replicate, if_pos htl], fun h0 => ?_, fun _ => rfl⟩
        have := (hall.mem (.node c t [])).2 ⟨t, c, hc, h0, rfl⟩
        rw [List.mem_singleton] at this
        cases this
        exact absurd rfl ht
    | _ :: _ :: _, h2, _, _ => simp at h2; omega
  · rw [lensAll_two (by omega)] at hl
    obtain ⟨is, hv, hL⟩ := lens_ok hall (d := limit.toNat) (by omega) h2 h.few
    rw [← hl] at hL
    refine ⟨hL.len, fun t c hc => ?_⟩
    rcases Int.lt_or_le 0 c with h0 | h0
    · obtain ⟨p, hp⟩ := hL.place t c hc h0
      obtain ⟨t', e1, _, e3⟩ := hL.used p _ hp
      have e1 : (t : Int) = t' := e1
      have e1 : t = t' := by omega
      subst e1
      have := hL.one p (List.getElem?_eq_some_iff.1 hp).1
      exact ⟨_, e3, fun _ => ⟨by omega, by omega⟩, fun h => by omega⟩
    · exact ⟨0, hL.un t c hc h0, fun h => by omega, fun _ => rfl⟩
theorem good_order {counts : List Int} {limit : Int} {l : List Int} {cs : List Coin} (h : BuGood counts limit l cs) {a b : Nat} {x y : Int} (ha : counts[a]? = some x) (hb : counts[b]? = some y) (hxy : y < x) (hy : 0 < y) : ∃ u v, l[a]? = some u ∧ l[b]? = some v ∧ u ≤ v := by
  obtain ⟨f1, f2, f3, f4⟩ := nw_facts h.nw
  have hall := h.ic.all
  have hl := h.l
  have m1 := (hall.mem (.node x a [])).2 ⟨a, x, ha, by omega, rfl⟩
  have m2 := (hall.mem (.node y b [])).2 ⟨b, y, hb, hy, rfl⟩
  have h2 : 2 ≤ cs.length := by
    match cs, m1, m2 with
    | [z], m1, m2 =>
      rw [List.mem_singleton] at m1 m2
      rw [← m1] at m2
      cases m2; omega
    | _ :: _ :: _, _, _ => simp
  rw [lensAll_two (by omega)] at hl
  obtain ⟨is, hv, hL⟩ := lens_ok hall (d := limit.toNat) (by omega) h2 h.few
  rw [← hl] at hL
  exact hL.order hall.rise ha hb hxy hy
theorem costL_tot : ∀ (counts l : List Int), (∀ (t : Nat) (c x : Int), counts[t]? = some c → l[t]? = some x → (0 ≤ c ∧ c ≤ 1099511627776) ∧ (0 < c → 1 ≤ x ∧ x ≤ 15)) → costL counts l = tot counts l
  | c :: a, x :: b, h => by
    have ih := costL_tot a b fun t c x h1 h2 => h (t + 1) c x (by simpa using h1) (by simpa using h2)
    have h0 := h 0 c x rfl rfl
    rw [costL, ih]
    unfold tot
    rw [List.zipWith_cons_cons, isum]
    congr 1
    unfold termC
    by_cases hc : 0 < c
    · have := h0.2 hc
      rw [if_pos ⟨hc, h0.1.2, by omega, this.2⟩]
    · have : c = 0 := by omega
      subst this
      rw [if_neg (by omega), Int.zero_mul]
  | [], _, _ => by simp [costL, tot, isum]
  | _ :: _, [], _ => by simp [costL, tot, isum]
theorem costL_zero : ∀ (counts : List Int) (n : Nat), costL counts (List.replicate n 0) = 0
  | [], _ => by simp [costL]
  | _ :: _, 0 => by simp [costL]
  | c :: a, n + 1 => by
    rw [List.replicate_succ, costL, costL_zero a n]
    unfold termC
    rw [if_neg (by omega)]; rfl
theorem costL_set : ∀ (counts : List Int) (n t : Nat) (c : Int), counts[t]? = some c → t < n → costL counts ((List.replicate n 0).set t 1) = termC c 1
  | [], _, t, _, h, _ => by simp at h
  | x :: a, 0, t, c, _, h => by omega
  | x :: a, n + 1, 0, c, h, _ => by
    simp at h
    subst h
    rw [List.replicate_succ, List.set_cons_zero, costL, costL_zero]; omega
  | x :: a, n + 1, t + 1, c, h, hn => by
    rw [List.replicate_succ, List.set_cons_succ, costL, costL_set a n t c (by simpa using h) (by omega)]
    unfold termC
    rw [if_neg (by omega)]; omega
theorem good_cost {counts : List Int} {limit : Int} {l : List Int} {cs : List Coin} (h : BuGood counts limit l cs) : costL counts l = costN (cs.map Coin.wt) limit.toNat := by
  obtain ⟨f1, f2, f3, f4⟩ := nw_facts h.nw
  have hall := h.ic.all
  have hl := h.l
  rcases Nat.lt_or_ge cs.length 2 with h2 | h2
  · match cs, h2, hall, hl with
    | [], _, hall, hl =>
      rw [lensAll_two (by simp), lensOf_nil] at hl
      subst hl
      rw [costL_zero]; rfl
    | [x], _, hall, hl =>
      obtain ⟨t0, c0, h3, h4, rfl⟩ := (hall.mem x).1 (by simp)
      have hlen := (List.getElem?_eq_some_iff.1 h3).1
      have hl : l = (List.replicate counts.length (0 : Int)).set t0 1 := hl
      rw [hl, costL_set counts _ t0 c0 h3 hlen]
      have := f4 c0 (List.mem_of_getElem? h3)
      unfold termC
      rw [if_pos ⟨h4, this.2, by omega, by omega⟩, Int.mul_one]
      rfl
    | _ :: _ :: _, h2, _, _ => simp at h2; omega
  · have hat := all_at h
    rw [lensAll_two (by omega)] at hl
    rw [costL_tot counts l fun t c x h1 h3 => ⟨f4 c (List.mem_of_getElem? h1), fun h0 => by
      obtain ⟨x', e1, e2, _⟩ := hat.2 t c h1
      rw [h3] at e1; cases e1
      have := e2 h0
      omega⟩, hl, lensOf_tot hall (fun c hc => (f4 c hc).1), costN_two (by rw [List.length_map]; exact h2), List.length_map]
theorem riseN {cs : List Coin} (h : Rise Coin.wt cs) : RiseN (cs.map Coin.wt) := rise_map.2 h
theorem costN_level {cs : List Coin} (h : Rise Coin.wt cs) {d : Nat} (hd : 1 ≤ d) (hn : cs.length ≤ 2 ^ d) : costN (cs.map Coin.wt) (d + 1) ≤ costN (cs.map Coin.wt) d := by
  rcases Nat.lt_or_ge cs.length 2 with h2 | h2
  · match cs, h2 with
    | [], _ => exact Int.le_refl _
    | [x], _ => exact Int.le_refl _
    | _ :: _ :: _, h2 => simp at h2; omega
  · rw [costN_two (by rw [List.length_map]; exact h2), costN_two (by rw [List.length_map]; exact h2), List.length_map]
    refine dom_sum (nrows_level (riseN h) d) _ ?_
    rw [← rows_map, List.length_map]
    exact rows_has cs (by omega) hd hn
/-- A greater limit makes no greater cost. -/
theorem more_limit {counts : List Int} {limit e e2 : Int} {l m : List Int} (h : BuildIs counts limit l e) (h0 : e = 0) (hl : limit ≤ 14) (h2 : BuildIs counts (limit + 1) m e2) : e2 = 0 ∧ costL counts m ≤ costL counts l := by
  obtain ⟨cs, hg⟩ := build_good h h0
  obtain ⟨f1, f2, f3, f4⟩ := nw_facts hg.nw
  have hw : ¬ WrongB counts (limit + 1) := by
    rintro (h3 | h3 | h3 | h3)
    · exact hg.nw (.inl h3)
    · exact hg.nw (.inr (.inl h3))
    · omega
    · omega
  obtain ⟨cs2, c1, c2, c3⟩ := h2.ok hw
  have hcs : cs2 = cs := c1.uniq hg.ic
  subst hcs
  have e3 : (limit + 1).toNat = limit.toNat + 1 := by omega
  have hp : cs2.length ≤ 2 ^ (limit + 1).toNat := by rw [e3, Nat.pow_succ]; have := hg.few; omega
  have h4 := (c3 hp).1
  obtain ⟨cs3, hg2⟩ := build_good h2 h4
  have hcs : cs3 = cs2 := hg2.ic.uniq hg.ic
  subst hcs
  refine ⟨h4, ?_⟩
  rw [good_cost hg, good_cost hg2, e3]
  exact costN_level hg.ic.all.rise (by omega) hg.few
end Go.L1
