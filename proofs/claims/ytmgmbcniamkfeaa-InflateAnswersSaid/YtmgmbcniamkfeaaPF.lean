/- Own work of the session: part PF of a proof that the program's functions do what the statement says (a symbolic executor, contracts of the functions, plain laws). -/
import Derived.Test.YtmgmbcniamkfeaaPE
set_option linter.all false
-- C1
namespace Go.L1
open Go Go.Sx Go.Proofs Go.Huff
set_option maxRecDepth 20000
set_option linter.unusedVariables false
set_option linter.unusedSimpArgs false
theorem conv15 {A : Leaf} (hA : A = .std) {x : Int} (h0 : 0 ≤ x) (h1 : x ≤ 15) : A.conv .u64 x = x := by
  subst hA
  exact l_conv_u64 h0 (by omega)
theorem refroom_ok (ls : List Int) : FOK Try.prog C1 18 (fun _ => true) [.ro (.ints .i64 ls)] []
    (fun rs H => ∃ r ok, rs = [.int .i64 r, .bool (.e ok)] ∧ H = [] ∧ RoomIs ls r ok) := by
  refine fok_of (B := ⟨lookT tis, fun _ => true, []⟩) (tab1 _) (zero1 _) cod1 mix1 Try.func18 (by kernel_rfl) rfl rfl rfl fun X F => ?_
  obtain ⟨A, hA⟩ : ∃ A, A = Leaf.std := ⟨_, rfl⟩
  refine F.hold hA 2000 ?_
  cbv
  repeat' (first
    | refine OK.drawn (by decide +kernel) ?_
    | refine OK.tree ⟨lookT tis, fun _ => true, []⟩ (by decide +kernel) ?_
    | refine OK.both ?_ ?_
    | refine OK.need (by first | assumption | (rw [hA]; first | (show (_ : Int) ≠ _; decide) | (show (0 : Int) ≤ _; decide) | (show (0 : Int) ≤ _ ∧ _ < (256 : Int); decide))) ?_
    | refine OK.need ?_ ?_
    | (refine OK.branch ?_ ?_ <;> intro h)
    | (refine F.hold hA 2000 ?_; cbv))
  · refine F.retE rfl ⟨_, _, rfl, rfl, .inr ⟨rfl, ?_, rfl⟩⟩
    try clear hBk
    try clear F
    rw [std_eq] at hA; subst hA
    try simp (disch := omega) only [lf, decide_eq_true_eq, decide_eq_false_iff_not, Int.not_lt, Int.not_le, Bool.not_eq_true', Bool.not_eq_false', Bool.not_true, Bool.not_false, gt_iff_lt, ge_iff_le, Int.toNat_natCast, Bool.true_eq_false, Bool.false_eq_true, beq_iff_eq, Bool.not_eq_eq_eq_not, ne_eq, lT_len, lT_get] at *
    try simp (disch := omega) only [lf, decide_eq_true_eq, decide_eq_false_iff_not, Int.not_lt, Int.not_le, Bool.not_eq_true', Bool.not_eq_false', Bool.not_true, Bool.not_false, gt_iff_lt, ge_iff_le, Int.toNat_natCast, Bool.true_eq_false, Bool.false_eq_true, beq_iff_eq, Bool.not_eq_eq_eq_not, ne_eq, lT_len, lT_get] at *
    omega
  refine F.loop (V := Int × Int) [0] (RoomInv ls) (fun w => (ls.length - w.2).toNat) (fun w => [(4, .int .i64 w.1), (5, .int .i64 w.2)]) (fun w => []) (_, _) (by cbv; repeat (first | exact WkH.nil _ | apply WkH.gone | refine WkH.eq rfl ?_)) (by cbv; repeat (first | apply WkL.any | exact WkL.nil _ | refine WkL.eq rfl ?_ | refine WkL.bool rfl ?_)) (by cbv; exact ⟨rfl⟩) ?_ ?_
  · exact ⟨0, Nat.zero_le _, rfl, rfl, fun x hx => by cases hx⟩
  rintro ⟨n, i⟩ hI Bk hBk
  have hl : Nat.le ls.length 320 := by
    try clear hBk
    try clear F
    rw [std_eq] at hA; subst hA
    try simp (disch := omega) only [lf, decide_eq_true_eq, decide_eq_false_iff_not, Int.not_lt, Int.not_le, Bool.not_eq_true', Bool.not_eq_false', Bool.not_true, Bool.not_false, gt_iff_lt, ge_iff_le, Int.toNat_natCast, Bool.true_eq_false, Bool.false_eq_true, beq_iff_eq, Bool.not_eq_eq_eq_not, ne_eq, lT_len, lT_get] at *
    try simp (disch := omega) only [lf, decide_eq_true_eq, decide_eq_false_iff_not, Int.not_lt, Int.not_le, Bool.not_eq_true', Bool.not_eq_false', Bool.not_true, Bool.not_false, gt_iff_lt, ge_iff_le, Int.toNat_natCast, Bool.true_eq_false, Bool.false_eq_true, beq_iff_eq, Bool.not_eq_eq_eq_not, ne_eq, lT_len, lT_get] at *
    show ls.length ≤ 320
    omega
  repeat (first
    | refine OK.drawn (by decide +kernel) ?_
    | refine OK.tree ⟨lookT tis, fun _ => true, []⟩ (by decide +kernel) ?_
    | refine OK.need (by first | assumption | (rw [hA]; first | (show (_ : Int) ≠ _; decide) | (show (0 : Int) ≤ _; decide) | (show (0 : Int) ≤ _ ∧ _ < (256 : Int); decide))) ?_
    | (refine F.hold hA 2000 ?_; cbv))
  refine OK.branch (fun h1 => ?_) (fun h1 => ?_)
  · obtain ⟨j, hat⟩ := roomAt hA hl hI h1
    have q1 := hat.q1
    repeat' (first
      | refine OK.drawn (by decide +kernel) ?_
      | refine OK.tree ⟨lookT tis, fun _ => true, []⟩ (by decide +kernel) ?_
      | refine OK.both ?_ ?_
      | refine OK.need (by first | assumption | (rw [hA]; first | (show (_ : Int) ≠ _; decide) | (show (0 : Int) ≤ _; decide) | (show (0 : Int) ≤ _ ∧ _ < (256 : Int); decide))) ?_
      | refine OK.need ?_ ?_
      | (refine OK.branch ?_ ?_ <;> intro h)
      | (refine F.hold hA 2000 ?_; cbv))
    · refine F.retE rfl ⟨_, _, rfl, rfl, .inr ⟨rfl, fun hh => ?_, rfl⟩⟩
      obtain ⟨hb1, hb2⟩ := hat.bnd hh.2
      subst hA
      have h := of_decide_eq_true h
      omega
    · refine F.retE rfl ⟨_, _, rfl, rfl, .inr ⟨rfl, fun hh => ?_, rfl⟩⟩
      obtain ⟨hb1, hb2⟩ := hat.bnd hh.2
      subst hA
      have h := of_decide_eq_true h
      omega
    · subst hA
      have k1 : ¬ 15 < Leaf.std.get 0 ls i := by rename_i a b; exact of_decide_eq_false b
      have k2 : 0 < Leaf.std.get 0 ls i := of_decide_eq_true h
      have k3 := conv15 rfl (x := Leaf.std.get 0 ls i) (by omega) (by omega)
      show (0 : Int) ≤ Leaf.std.conv .u64 (Leaf.std.get 0 ls i)
      rw [k3]
      omega
    · refine OK.back (hBk _ _ (_, _) (by cbv; repeat (first | exact WkH.nil _ | apply WkH.gone | refine WkH.eq rfl ?_)) (by cbv; repeat (first | apply WkL.any | exact WkL.nil _ | refine WkL.eq rfl ?_ | refine WkL.bool rfl ?_)) (by cbv; exact ⟨rfl⟩) ?_ ?_)
      all_goals
        have k0 : ¬ A.get 0 ls i < 0 := by subst hA; rename_i a b; exact of_decide_eq_false a
        have k1 : ¬ 15 < A.get 0 ls i := by subst hA; rename_i a b; exact of_decide_eq_false b
        have k2 : 0 < A.get 0 ls i := by subst hA; exact of_decide_eq_true h
        have k3 := conv15 hA (x := A.get 0 ls i) (by omega) (by omega)
      · exact (hat.next hA hl k0 k1 _ (.inl ⟨k2, congrArg (fun z => A.ar .add .i64 n (A.ar .shr .i64 32768 z)) k3⟩)).1
      · exact (hat.next hA hl k0 k1 _ (.inl ⟨k2, congrArg (fun z => A.ar .add .i64 n (A.ar .shr .i64 32768 z)) k3⟩)).2
    · refine OK.back (hBk _ _ (_, _) (by cbv; repeat (first | exact WkH.nil _ | apply WkH.gone | refine WkH.eq rfl ?_)) (by cbv; repeat (first | apply WkL.any | exact WkL.nil _ | refine WkL.eq rfl ?_ | refine WkL.bool rfl ?_)) (by cbv; exact ⟨rfl⟩) ?_ ?_)
      all_goals
        have k0 : ¬ A.get 0 ls i < 0 := by subst hA; rename_i a b; exact of_decide_eq_false a
        have k1 : ¬ 15 < A.get 0 ls i := by subst hA; rename_i a b; exact of_decide_eq_false b
        have k2 : ¬ 0 < A.get 0 ls i := by subst hA; exact of_decide_eq_false h
      · exact (hat.next hA hl k0 k1 _ (.inr ⟨k2, rfl⟩)).1
      · exact (hat.next hA hl k0 k1 _ (.inr ⟨k2, rfl⟩)).2
  · repeat' (first
      | refine OK.drawn (by decide +kernel) ?_
      | refine OK.tree ⟨lookT tis, fun _ => true, []⟩ (by decide +kernel) ?_
      | refine OK.both ?_ ?_
      | refine OK.need (by first | assumption | (rw [hA]; first | (show (_ : Int) ≠ _; decide) | (show (0 : Int) ≤ _; decide) | (show (0 : Int) ≤ _ ∧ _ < (256 : Int); decide))) ?_
      | refine OK.need ?_ ?_
      | (refine OK.branch ?_ ?_ <;> intro h)
      | (refine F.hold hA 2000 ?_; cbv))
    refine F.retE rfl ⟨_, _, rfl, rfl, .inl ⟨rfl, ?_⟩⟩
    obtain ⟨j, e1, e2, e3, e4⟩ := hI
    simp only at e2 e3
    have hj : j = ls.length := by
      subst hA
      have : ¬ i < (ls.length : Int) := of_decide_eq_false h1
      omega
    rw [hj, List.take_length] at e3 e4
    exact ⟨hl, e4, e3⟩
end Go.L1

-- H5
namespace Go.L1
open Go Go.Sx Go.Proofs Go.Huff
set_option linter.unusedVariables false
set_option linter.unusedSimpArgs false
/-- The bits of a code, the first one first. -/
def rbits (l c : Nat) : List UInt8 := (List.range l).map fun k => UInt8.ofNat (c / 2 ^ (l - 1 - k) % 2)
/-- The rows when the lengths below l are done, and of l the symbols below j. -/
def rowN (ls : List Int) (l j : Nat) : List (Option (List UInt8)) := (List.range ls.length).map fun s => if 0 < len ls s ∧ (len ls s < l ∨ len ls s = l ∧ s < j) then some (rbits (len ls s) (code ls s)) else none
def O3Inv (l c : Nat) (w : Int × List UInt8) : Prop := ∃ k : Nat, k ≤ l ∧ w.1 = (l : Int) - 1 - k ∧ w.2 = (List.range k).map fun k => UInt8.ofNat (c / 2 ^ (l - 1 - k) % 2)
structure O3At (A : Leaf) (l c : Nat) (cd k : Int) (xs : List UInt8) : Prop where
  q0 : A.nn (A.conv .u64 k)
  q4 : A.isB (A.conv .u8 (A.ar .and .i64 (A.ar .shr .i64 cd (A.conv .u64 k)) 1))
  q3 : A.small (A.len (A.app xs [A.i2b (A.conv .u8 (A.ar .and .i64 (A.ar .shr .i64 cd (A.conv .u64 k)) 1))])) 1
  nx : O3Inv l c (A.ar .sub .i64 k 1, A.app xs [A.i2b (A.conv .u8 (A.ar .and .i64 (A.ar .shr .i64 cd (A.conv .u64 k)) 1))])
  mu : (A.ar .sub .i64 k 1 + 1).toNat < (k + 1).toNat
theorem o3At {A : Leaf} {l c : Nat} {cd k : Int} {xs : List UInt8} (hA : A = .std) (hl : l ≤ 15) (hc : cd = c) (hc2 : c < 2 ^ 15) (h : O3Inv l c (k, xs)) (h1 : A.cmp .geq k 0 = true) : O3At A l c cd k xs := by
  obtain ⟨j, hj, hk, hx⟩ := h
  simp only at hk hx
  subst hA
  have h1 : (0 : Int) ≤ k := of_decide_eq_true h1
  have e1 : Leaf.std.conv .u64 k = k := l_conv_u64 h1 (by omega)
  have e2 : Leaf.std.ar .shr .i64 cd k = ((c / 2 ^ (l - 1 - j) : Nat) : Int) := by
    show LAr .shr .i64 cd k = _
    rw [l_shr_i64 h1 (by omega), hc, show k.toNat = l - 1 - j from by omega]
    simp
  have e3 : Leaf.std.ar .and .i64 ((c / 2 ^ (l - 1 - j) : Nat) : Int) 1 = ((c / 2 ^ (l - 1 - j) % 2 : Nat) : Int) := by
    show LAr .and .i64 _ 1 = _
    rw [l_and1_i64]; simp
  have hm : c / 2 ^ (l - 1 - j) % 2 < 2 := Nat.mod_lt _ (by decide)
  have e4 : Leaf.std.conv .u8 ((c / 2 ^ (l - 1 - j) % 2 : Nat) : Int) = ((c / 2 ^ (l - 1 - j) % 2 : Nat) : Int) := l_conv_u8 (by omega) (by omega)
  have e5 : Leaf.std.conv .u8 (Leaf.std.ar .and .i64 (Leaf.std.ar .shr .i64 cd (Leaf.std.conv .u64 k)) 1) = ((c / 2 ^ (l - 1 - j) % 2 : Nat) : Int) := by rw [e1, e2, e3, e4]
  have e6 : Leaf.std.ar .sub .i64 k 1 = k - 1 := sub_i64 (by omega) (by omega)
  have hxl : xs.length = j := by rw [hx]; simp
  have eb : Leaf.std.i2b (Leaf.std.conv .u8 (Leaf.std.ar .and .i64 (Leaf.std.ar .shr .i64 cd (Leaf.std.conv .u64 k)) 1)) = UInt8.ofNat (c / 2 ^ (l - 1 - j) % 2) := by
    rw [e5]; show UInt8.ofNat ((c / 2 ^ (l - 1 - j) % 2 : Nat) : Int).toNat = _; rw [Int.toNat_natCast]
  refine ⟨by rw [e1]; exact h1, ?_, ?_, ⟨j + 1, by omega, by rw [e6]; simp only; omega, ?_⟩, by rw [e6]; omega⟩
  · rw [e5]; show (0 : Int) ≤ _ ∧ _ < (256 : Int); omega
  · have e : Leaf.std.len (Leaf.std.app xs [Leaf.std.i2b (Leaf.std.conv .u8 (Leaf.std.ar .and .i64 (Leaf.std.ar .shr .i64 cd (Leaf.std.conv .u64 k)) 1))]) = ((j + 1 : Nat) : Int) := by
      show (((xs ++ [_]).length : Nat) : Int) = _
      rw [List.length_append, List.length_singleton, hxl]
    rw [e]
    show (0 : Int) ≤ _ ∧ _ ≤ (140737488355328 : Int) ∧ _ * ((1 : Nat) : Int) ≤ (140737488355328 : Int)
    omega
  · show xs ++ [Leaf.std.i2b _] = _
    rw [eb, hx, List.range_succ, List.map_append, List.map_cons, List.map_nil]
theorem O3Inv.zero (l c : Nat) : O3Inv l c ((l : Int) - 1, []) := ⟨0, Nat.zero_le _, by simp, rfl⟩
theorem O3Inv.fin {l c : Nat} {k : Int} {xs : List UInt8} {A : Leaf} (hA : A = .std) (h : O3Inv l c (k, xs)) (h1 : A.cmp .geq k 0 = false) : xs = rbits l c := by
  obtain ⟨j, hj, hk, hx⟩ := h
  simp only at hk hx
  subst hA
  have h1 : ¬ (0 : Int) ≤ k := of_decide_eq_false h1
  have : j = l := by omega
  subst this
  exact hx
theorem rowN_len (ls : List Int) (l j : Nat) : (rowN ls l j).length = ls.length := by simp [rowN]
theorem rowN_get {ls : List Int} (l j : Nat) {s : Nat} (hs : s < ls.length) : (rowN ls l j)[s]'(by rw [rowN_len]; exact hs) = if 0 < len ls s ∧ (len ls s < l ∨ len ls s = l ∧ s < j) then some (rbits (len ls s) (code ls s)) else none := by simp [rowN]
theorem rowN_end (ls : List Int) (l : Nat) : rowN ls l ls.length = rowN ls (l + 1) 0 := by
  apply List.ext_getElem
  · simp [rowN_len]
  · intro s h1 h2
    have hs : s < ls.length := by rwa [rowN_len] at h1
    rw [rowN_get _ _ hs, rowN_get _ _ hs]
    have : (0 < len ls s ∧ (len ls s < l ∨ len ls s = l ∧ s < ls.length)) ↔ (0 < len ls s ∧ (len ls s < l + 1 ∨ len ls s = l + 1 ∧ s < 0)) := by omega
    simp only [this]
theorem rowN_skip {ls : List Int} {l j : Nat} (hj : j < ls.length) (h : len ls j ≠ l) : rowN ls l (j + 1) = rowN ls l j := by
  apply List.ext_getElem
  · simp [rowN_len]
  · intro s h1 h2
    have hs : s < ls.length := by rwa [rowN_len] at h1
    rw [rowN_get _ _ hs, rowN_get _ _ hs]
    have : (0 < len ls s ∧ (len ls s < l ∨ len ls s = l ∧ s < j + 1)) ↔ (0 < len ls s ∧ (len ls s < l ∨ len ls s = l ∧ s < j)) := by
      by_cases e : s = j
      · subst e; omega
      · omega
    simp only [this]
theorem rowN_set {ls : List Int} {l j : Nat} (hj : j < ls.length) (h0 : 0 < l) (h : len ls j = l) : (rowN ls l j).set j (some (rbits l (code ls j))) = rowN ls l (j + 1) := by
  apply List.ext_getElem
  · simp [rowN_len]
  · intro s h1 h2
    have hs : s < ls.length := by rw [rowN_len] at h2; exact h2
    rw [List.getElem_set]
    by_cases e : j = s
    · subst e
      rw [if_pos rfl, rowN_get l (j + 1) hs, if_pos (by omega), h]
    · rw [if_neg e, rowN_get l j hs, rowN_get l (j + 1) hs]
      have : (0 < len ls s ∧ (len ls s < l ∨ len ls s = l ∧ s < j)) ↔ (0 < len ls s ∧ (len ls s < l ∨ len ls s = l ∧ s < j + 1)) := by omega
      simp only [this]
theorem rowN_none {ls : List Int} {l j : Nat} (hj : j < ls.length) (h : len ls j = l) : (rowN ls l j).getD j none = none := by
  have hl : j < (rowN ls l j).length := by rw [rowN_len]; exact hj
  rw [List.getD_eq_getElem?_getD, List.getElem?_eq_getElem hl, rowN_get _ _ hj, if_neg (by omega)]
  rfl
theorem rowN_zero (ls : List Int) : rowN ls 1 0 = List.replicate ls.length none := by
  apply List.ext_getElem
  · simp [rowN_len]
  · intro s h1 h2
    have hs : s < ls.length := by rw [rowN_len] at h1; exact h1
    rw [rowN_get _ _ hs, if_neg (by omega)]
    simp
def O1Inv (ls : List Int) (w : Int × Int × List (Option (List UInt8))) : Prop := ∃ l : Nat, l ≤ 15 ∧ w.1 = (fst ls l + cnt ls l : Nat) ∧ w.2.1 = (l + 1 : Nat) ∧ w.2.2 = rowN ls (l + 1) 0
def O2Inv (ls : List Int) (l : Int) (w : Int × Int × List (Option (List UInt8))) : Prop := ∃ j : Nat, j ≤ ls.length ∧ w.1 = (fst ls l.toNat + (ls.take j).count l : Nat) ∧ w.2.1 = j ∧ w.2.2 = rowN ls l.toNat j
structure RdyR (ls : List Int) : Prop where
  le : ls.length ≤ 320
  b : InB ls
  r : roomN ls ≤ 32768
theorem O1Inv.zero (ls : List Int) : O1Inv ls (0, 1, List.replicate ls.length none) := ⟨0, by decide, rfl, rfl, (rowN_zero ls).symm⟩
theorem O1Inv.o2 {A : Leaf} {ls : List Int} {cd l : Int} {rows : List (Option (List UInt8))} (hA : A = .std) (hR : RdyR ls) (h : O1Inv ls (cd, l, rows)) (h1 : A.cmp .leq l 15 = true) : O2Inv ls l (A.ar .mul .i64 cd 2, 0, rows) := by
  obtain ⟨L, hL, e1, e2, e3⟩ := h
  simp only at e1 e2 e3
  subst hA
  have h1 : l ≤ 15 := of_decide_eq_true h1
  have hk := kraft hR.b hR.r hL
  have hp : 2 ^ L ≤ 2 ^ 15 := Nat.pow_le_pow_right (by decide) hL
  have el : l.toNat = L + 1 := by omega
  refine ⟨0, Nat.zero_le _, ?_, rfl, ?_⟩
  · show Leaf.std.ar .mul .i64 cd 2 = _
    have em : Leaf.std.ar .mul .i64 cd 2 = cd * 2 := mul_i64 (by omega) (by omega)
    rw [em, e1, el, List.take_zero, List.count_nil, fst]
    omega
  · show rows = _
    rw [e3, el]
theorem O2Inv.o1 {A : Leaf} {ls : List Int} {cd cd2 l j : Int} {rows rows2 : List (Option (List UInt8))} (hA : A = .std) (hR : RdyR ls) (h : O1Inv ls (cd, l, rows)) (h1 : A.cmp .leq l 15 = true) (h2 : O2Inv ls l (cd2, j, rows2)) (h3 : A.cmp .lss j (A.len ls) = false) :
    O1Inv ls (cd2, A.ar .add .i64 l 1, rows2) ∧ (16 - A.ar .add .i64 l 1).toNat < (16 - l).toNat := by
  obtain ⟨L, hL, _, e2, _⟩ := h
  obtain ⟨J, hJ, k1, k2, k3⟩ := h2
  simp only at e2 k1 k2 k3
  subst hA
  have h1 : l ≤ 15 := of_decide_eq_true h1
  have h3 : ¬ j < (ls.length : Int) := of_decide_eq_false h3
  have hJ2 : J = ls.length := by omega
  subst hJ2
  have el : l.toNat = L + 1 := by omega
  have ea : Leaf.std.ar .add .i64 l 1 = l + 1 := add_i64 (by omega) (by omega)
  refine ⟨⟨L + 1, by omega, ?_, by rw [ea]; simp only; omega, ?_⟩, by rw [ea]; omega⟩
  · show cd2 = _
    rw [k1, el, List.take_length]
    unfold cnt
    rw [if_neg (by omega), e2]
  · show rows2 = _
    rw [k3, el, rowN_end]
structure LIn (l : Int) : Prop where
  lo : 1 ≤ l
  hi : l ≤ 15
theorem O1Inv.lin {A : Leaf} {ls : List Int} {cd l : Int} {rows : List (Option (List UInt8))} (hA : A = .std) (h : O1Inv ls (cd, l, rows)) (h1 : A.cmp .leq l 15 = true) : LIn l := by
  obtain ⟨L, hL, e1, e2, e3⟩ := h
  simp only at e2
  subst hA
  have h1 : l ≤ 15 := of_decide_eq_true h1
  exact ⟨by omega, h1⟩
structure O2At (A : Leaf) (ls : List Int) (l cd j : Int) (rows : List (Option (List UInt8))) : Prop where
  q1 : A.inb j (A.len ls)
  q5 : A.inb j (A.len rows)
  skip : A.cmp .neq (A.get 0 ls j) l = true → O2Inv ls l (cd, A.ar .add .i64 j 1, rows)
  mu : (ls.length - A.ar .add .i64 j 1).toNat < (ls.length - j).toNat
  set : A.cmp .neq (A.get 0 ls j) l = false → (0 ≤ j ∧ j < rows.length ∧ A.get none rows j = none ∧ cd = cd.toNat ∧ cd.toNat < 2 ^ 15 ∧
    ∀ xs, xs = rbits l.toNat cd.toNat → O2Inv ls l (A.ar .add .i64 cd 1, A.ar .add .i64 j 1, A.set rows j (some xs)))
theorem O2Inv.at_ {A : Leaf} {ls : List Int} {cd l j : Int} {rows : List (Option (List UInt8))} (hA : A = .std) (hR : RdyR ls) (hl : LIn l) (h : O2Inv ls l (cd, j, rows)) (h1 : A.cmp .lss j (A.len ls) = true) : O2At A ls l cd j rows := by
  obtain ⟨J, hJ, k1, k2, k3⟩ := h
  simp only at k1 k2 k3
  obtain ⟨l1, l2⟩ := hl
  subst hA
  have h1 : j < (ls.length : Int) := of_decide_eq_true h1
  have hJ : J < ls.length := by omega
  have hn := hR.le
  have ea : Leaf.std.ar .add .i64 j 1 = ((J + 1 : Nat) : Int) := by rw [k2, add_i64 (by omega) (by omega)]; omega
  have eg : Leaf.std.get 0 ls j = ls[J] := by show ls.getD j.toNat 0 = _; rw [k2, Int.toNat_natCast]; simp [hJ]
  have eD : ls.getD J 0 = ls[J] := by simp [hJ]
  have hrl : rows.length = ls.length := by rw [k3, rowN_len]
  have ht : ls.take (J + 1) = ls.take J ++ [ls[J]] := List.take_succ_eq_append_getElem hJ
  refine ⟨?_, ?_, fun hne => ?_, by rw [ea]; omega, fun he => ?_⟩
  · show (0 : Int) ≤ j ∧ j < (ls.length : Int); omega
  · show (0 : Int) ≤ j ∧ j < (rows.length : Int); omega
  · rw [eg] at hne
    have hne : (!(ls[J] == l)) = true := hne
    have hne : ls[J] ≠ l := by simpa using hne
    refine ⟨J + 1, by omega, ?_, by rw [ea], ?_⟩
    · show cd = _
      rw [k1, ht, List.count_append, List.count_singleton, if_neg (by simpa using hne)]
      omega
    · show rows = _
      rw [k3, rowN_skip hJ]
      unfold len; rw [eD]
      have := hR.b _ (List.getElem_mem hJ)
      omega
  · rw [eg] at he
    have he : (!(ls[J] == l)) = false := he
    have he : ls[J] = l := by simpa using he
    have hlen : len ls J = l.toNat := by unfold len; rw [eD, he]
    have hcode : cd = (code ls J : Nat) := by
      rw [k1]; unfold code rank; rw [hlen, eD, he]
    have hcl := code_lt hR.b hR.r hJ (by omega)
    have hp : 2 ^ len ls J ≤ 2 ^ 15 := Nat.pow_le_pow_right (by decide) (by omega)
    refine ⟨by omega, by omega, ?_, by omega, by omega, fun xs hx => ⟨J + 1, by omega, ?_, by rw [ea], ?_⟩⟩
    · show rows.getD j.toNat none = none
      rw [k2, Int.toNat_natCast, k3, rowN_none hJ hlen]
    · show Leaf.std.ar .add .i64 cd 1 = _
      have e2 : Leaf.std.ar .add .i64 cd 1 = cd + 1 := add_i64 (by omega) (by omega)
      rw [e2, k1, ht, List.count_append, List.count_singleton, if_pos (by simpa using he)]
      omega
    · show rows.set j.toNat (some xs) = _
      rw [k2, Int.toNat_natCast, k3, hx, ← rowN_set hJ (by omega) hlen, show cd.toNat = code ls J from by omega]
end Go.L1

-- C2
namespace Go.L1
open Go Go.Sx Go.Proofs Go.Huff
set_option maxRecDepth 20000
set_option linter.unusedVariables false
set_option linter.unusedSimpArgs false
def mp (rows : List (Option (List UInt8))) : List (List UInt8) := rows.map fun o => o.getD []
/-- What the document's New tells. -/
def RefNewIs (ls : List Int) (rs : List (SV T1)) (H : List (Ch T1)) : Prop :=
  (∃ e, rs = [.val (.pointer none), .int .i64 e] ∧ H = [] ∧ ((e = 11 ∧ ¬ (ls.length ≤ 320 ∧ InB ls)) ∨ (e = 10 ∧ (ls.length ≤ 320 ∧ InB ls) ∧ 32768 < roomN ls))) ∨
  (∃ rows : List (List UInt8), rs = [.ptr 1 0, .int .i64 0] ∧ H = [.gone, .cells 41 [.ro (.recs 4 rows), .int .i64 (roomN ls)]] ∧ RdyR ls ∧ rows = mp (rowN ls 16 0))
theorem holeNil {A : Leaf} (hA : A = .std) {rows : List (Option (List UInt8))} {j : Int} (h : A.get none rows j = none) : (Row.recs 3 rows : Row T1).get C1 .std j = [.val (.slice none 0 0)] := by
  subst hA
  show enc1 3 (Leaf.std.get none rows j) = _
  exact congrArg (fun o : Option (List UInt8) => enc1 3 o) h
theorem LIn.n {l : Int} (h : LIn l) : l.toNat ≤ 15 := by obtain ⟨a, b⟩ := h; omega
theorem o3z {A : Leaf} (hA : A = .std) {l : Int} (h : LIn l) (c : Nat) : O3Inv l.toNat c (A.ar .sub .i64 l 1, []) := by
  obtain ⟨a, b⟩ := h
  subst hA
  have e : Leaf.std.ar .sub .i64 l 1 = (l.toNat : Int) - 1 := by
    have := sub_i64 (a := l) (b := 1) (by omega) (by omega)
    rw [this]; omega
  rw [e]
  exact O3Inv.zero _ _
theorem cl_len {A : Leaf} (hA : A = .std) {rows : List (Option (List UInt8))} {j : Int} {o : Option (List UInt8)} : (Row.recs 3 (A.set rows j o) : Row T1).length = (Row.recs 3 rows : Row T1).length := by
  subst hA
  show (rows.set j.toNat o).length = rows.length
  simp
theorem cl_cells {A : Leaf} (hA : A = .std) {rows : List (Option (List UInt8))} {j : Int} {o : Option (List UInt8)} : ∀ k e, k ≠ j.toNat → (Row.recs 3 (A.set rows j o) : Row T1).cells C1 k = some e → (Row.recs 3 rows : Row T1).cells C1 k = some e := by
  subst hA
  intro k e hk h
  have h : ((rows.set j.toNat o)[k]?).map (enc1 3) = some e := h
  rw [List.getElem?_set_ne (Ne.symm hk)] at h
  exact h
theorem cl_at {A : Leaf} (hA : A = .std) {rows : List (Option (List UInt8))} {j : Int} {xs : List UInt8} (g1 : 0 ≤ j) (g2 : j < rows.length) : ∀ e, (Row.recs 3 (A.set rows j (some xs)) : Row T1).cells C1 j.toNat = some e → e = [.ro (.bytes xs)] := by
  subst hA
  intro e h
  have h : ((rows.set j.toNat (some xs))[j.toNat]?).map (enc1 3) = some e := h
  rw [List.getElem?_set_self (by omega)] at h
  have h : enc1 3 (some xs) = e := Option.some.inj h
  exact h.symm
theorem mp_len (rows : List (Option (List UInt8))) : (Row.recs 4 (mp rows) : Row T1).length = (Row.recs 3 rows : Row T1).length := by
  show (mp rows).length = rows.length
  simp [mp]
theorem mp_cells (M : Mem) (rows : List (Option (List UInt8))) : ∀ k e', (Row.recs 4 (mp rows) : Row T1).cells C1 k = some e' → ∃ e, (Row.recs 3 rows : Row T1).cells C1 k = some e ∧ ∀ vs, Den C1 M e vs → Den C1 M e' vs := by
  intro k e' h
  have h : ((mp rows)[k]?).map (enc1 4) = some e' := h
  obtain ⟨b, hb, rfl⟩ := Option.map_eq_some_iff.1 h
  have hb2 : @Eq (Option (List UInt8)) ((rows.map fun o : Option (List UInt8) => o.getD [])[k]?) (some b) := hb
  rw [List.getElem?_map] at hb2
  obtain ⟨o, ho, hob⟩ := Option.map_eq_some_iff.1 hb2
  have hob : b = (o.getD [] : List UInt8) := hob.symm
  subst hob
  refine ⟨enc1 3 o, ?_, fun vs hv => ?_⟩
  · show (rows[k]?).map (enc1 3) = _
    rw [ho]; rfl
  · cases o with
    | some b => exact hv
    | none =>
      have hv : Den C1 M [.val (.slice none 0 0)] vs := hv
      cases hv with
      | val _ _ h =>
        cases h
        exact zcell_ok (s := .ro (.bytes [])) (v := .slice none 0 0) rfl M .nil
theorem mk_small {A : Leaf} (hA : A = .std) {ls : List Int} {n : Int} {ok : Bool} (hr : RoomIs ls n ok) (h : A.bnot ok = false) : A.small (A.len ls) 24 := by
  subst hA
  rcases hr with ⟨_, h1, _⟩ | ⟨rfl, _⟩
  · show (0 : Int) ≤ (ls.length : Int) ∧ (ls.length : Int) ≤ (140737488355328 : Int) ∧ (ls.length : Int) * ((24 : Nat) : Int) ≤ (140737488355328 : Int)
    omega
  · cases h
theorem mk_slb {A : Leaf} (hA : A = .std) (ls : List Int) : A.slb 0 (A.len ls) (A.len ls) := by
  subst hA
  show (0 : Int) ≤ 0 ∧ (0 : Int) ≤ (ls.length : Int) ∧ (ls.length : Int) ≤ (ls.length : Int)
  omega
theorem rdyR {A : Leaf} (hA : A = .std) {ls : List Int} {n : Int} {ok : Bool} (hr : RoomIs ls n ok) (h : A.bnot ok = false) (h2 : A.cmp .gtr n 32768 = false) : RdyR ls ∧ n = roomN ls := by
  subst hA
  have h2 : ¬ (32768 : Int) < n := of_decide_eq_false h2
  rcases hr with ⟨_, h1, h3, h4⟩ | ⟨rfl, _⟩
  · exact ⟨⟨h1, h3, by omega⟩, h4⟩
  · cases h
theorem O1Inv.end_ {A : Leaf} (hA : A = .std) {ls : List Int} {cd l : Int} {rows : List (Option (List UInt8))} (h : O1Inv ls (cd, l, rows)) (h1 : A.cmp .leq l 15 = false) : rows = rowN ls 16 0 := by
  obtain ⟨L, hL, e1, e2, e3⟩ := h
  simp only at e2 e3
  subst hA
  have h1 : ¬ l ≤ 15 := of_decide_eq_false h1
  have : L = 15 := by omega
  subst this
  exact e3
set_option maxHeartbeats 4000000 in
theorem refnew_ok (ls : List Int) : FOK Try.prog C1 20 (fun _ => false) [.ro (.ints .i64 ls)] []
    (RefNewIs ls) := by
  refine fok_of (B := ⟨lookT tis, fun _ => false, []⟩) (tab1 _) (zero1 _) cod1 mix1 Try.func20 (by kernel_rfl) rfl rfl rfl fun X F => ?_
  obtain ⟨A, hA⟩ : ∃ A, A = Leaf.std := ⟨_, rfl⟩
  refine F.hold hA 2000 ?_
  cbv
  repeat' (first
    | refine OK.drawn (by decide +kernel) ?_
    | refine OK.tree ⟨lookT tis, fun _ => true, []⟩ (by decide +kernel) ?_
    | refine OK.both ?_ ?_
    | refine OK.need (by first | assumption | (rw [hA]; first | (show (_ : Int) ≠ _; decide) | (show (0 : Int) ≤ _; decide) | (show (0 : Int) ≤ _ ∧ _ < (256 : Int); decide))) ?_
    | refine OK.need ?_ ?_
    | (refine OK.branch ?_ ?_ <;> intro h)
    | (refine F.hold hA 2000 ?_; cbv))
  refine F.call [] (refroom_ok ls) rfl rfl rfl fun rs H' hq => ?_
  obtain ⟨n, ok, rfl, rfl, hr⟩ := hq
  refine ⟨rfl, ?_⟩
  repeat' (first
    | refine OK.drawn (by decide +kernel) ?_
    | refine OK.tree ⟨lookT tis, fun _ => true, []⟩ (by decide +kernel) ?_
    | refine OK.both ?_ ?_
    | refine OK.need (by first | assumption | (rw [hA]; first | (show (_ : Int) ≠ _; decide) | (show (0 : Int) ≤ _; decide) | (show (0 : Int) ≤ _ ∧ _ < (256 : Int); decide))) ?_
    | refine OK.need ?_ ?_
    | (refine OK.branch ?_ ?_ <;> intro h)
    | (refine F.hold hA 2000 ?_; cbv))
  · refine F.ret0 (.inl ⟨_, rfl, rfl, .inl ⟨rfl, ?_⟩⟩)
    rcases hr with ⟨rfl, _⟩ | ⟨_, hr, _⟩
    · subst hA; cases h
    · exact hr
  · refine F.ret0 (.inl ⟨_, rfl, rfl, .inr ⟨rfl, ?_⟩⟩)
    subst hA
    have h : (32768 : Int) < n := of_decide_eq_true h
    rcases hr with ⟨_, h1, h2, h3⟩ | ⟨rfl, _⟩
    · exact ⟨⟨h1, h2⟩, by omega⟩
    · have h0 := ‹Leaf.std.bnot false = false›; cases h0
  · exact mk_small hA hr ‹A.bnot ok = false›
  · exact mk_slb hA _
  · exact mk_slb hA _
  obtain ⟨hR, hn⟩ := rdyR hA hr ‹A.bnot ok = false› ‹A.cmp .gtr n 32768 = false›
  refine F.loop (V := Int × Int × List (Option (List UInt8))) [0, 4, 6] (O1Inv ls) (fun w => (16 - w.2.1).toNat) (fun w => [(7, .int .i64 w.1), (8, .int .i64 w.2.1)]) (fun w => [(0, .row 38 (.recs 3 w.2.2))]) (_, _, _) (by cbv; repeat (first | exact WkH.nil _ | apply WkH.gone | refine WkH.eq rfl ?_)) (by cbv; repeat (first | apply WkL.any | exact WkL.nil _ | refine WkL.eq rfl ?_ | refine WkL.bool rfl ?_)) (by cbv; exact ⟨rfl⟩) ?_ ?_
  · subst hA; exact O1Inv.zero ls
  rintro ⟨cd, l, rows⟩ hI BkO hBkO
  repeat (first
    | refine OK.drawn (by decide +kernel) ?_
    | refine OK.tree ⟨lookT tis, fun _ => true, []⟩ (by decide +kernel) ?_
    | refine OK.need (by first | assumption | (rw [hA]; first | (show (_ : Int) ≠ _; decide) | (show (0 : Int) ≤ _; decide) | (show (0 : Int) ≤ _ ∧ _ < (256 : Int); decide))) ?_
    | (refine F.hold hA 2000 ?_; cbv))
  refine OK.branch (fun b1 => ?_) (fun b1 => ?_)
  · have hlin := hI.lin hA b1
    repeat (first
      | refine OK.drawn (by decide +kernel) ?_
      | refine OK.tree ⟨lookT tis, fun _ => true, []⟩ (by decide +kernel) ?_
      | refine OK.need (by first | assumption | (rw [hA]; first | (show (_ : Int) ≠ _; decide) | (show (0 : Int) ≤ _; decide) | (show (0 : Int) ≤ _ ∧ _ < (256 : Int); decide))) ?_
      | (refine F.hold hA 2000 ?_; cbv))
    refine F.loop (V := Int × Int × List (Option (List UInt8))) [0, 4, 6, 8] (O2Inv ls l) (fun w => (ls.length - w.2.1).toNat) (fun w => [(7, .int .i64 w.1), (9, .int .i64 w.2.1)]) (fun w => [(0, .row 38 (.recs 3 w.2.2))]) (_, _, _) (by cbv; repeat (first | exact WkH.nil _ | apply WkH.gone | refine WkH.eq rfl ?_)) (by cbv; repeat (first | apply WkL.any | exact WkL.nil _ | refine WkL.eq rfl ?_ | refine WkL.bool rfl ?_)) (by cbv; exact ⟨rfl⟩) ?_ ?_
    · exact hI.o2 hA hR b1
    rintro ⟨cd2, j, rows2⟩ hI2 Bk hBk
    repeat (first
      | refine OK.drawn (by decide +kernel) ?_
      | refine OK.tree ⟨lookT tis, fun _ => true, []⟩ (by decide +kernel) ?_
      | refine OK.need (by first | assumption | (rw [hA]; first | (show (_ : Int) ≠ _; decide) | (show (0 : Int) ≤ _; decide) | (show (0 : Int) ≤ _ ∧ _ < (256 : Int); decide))) ?_
      | (refine F.hold hA 2000 ?_; cbv))
    refine OK.branch (fun b2 => ?_) (fun b2 => ?_)
    · have h2 := hI2.at_ hA hR hlin b2
      have q1 := h2.q1
      repeat (first
        | refine OK.drawn (by decide +kernel) ?_
        | refine OK.tree ⟨lookT tis, fun _ => true, []⟩ (by decide +kernel) ?_
        | refine OK.need (by first | assumption | (rw [hA]; first | (show (_ : Int) ≠ _; decide) | (show (0 : Int) ≤ _; decide) | (show (0 : Int) ≤ _ ∧ _ < (256 : Int); decide))) ?_
        | (refine F.hold hA 2000 ?_; cbv))
      refine OK.branch (fun b3 => ?_) (fun b3 => ?_)
      · repeat' (first
          | refine OK.drawn (by decide +kernel) ?_
          | refine OK.tree ⟨lookT tis, fun _ => true, []⟩ (by decide +kernel) ?_
          | refine OK.both ?_ ?_
          | refine OK.need (by first | assumption | (rw [hA]; first | (show (_ : Int) ≠ _; decide) | (show (0 : Int) ≤ _; decide) | (show (0 : Int) ≤ _ ∧ _ < (256 : Int); decide))) ?_
          | refine OK.need ?_ ?_
          | (refine OK.branch ?_ ?_ <;> intro h)
          | (refine F.hold hA 2000 ?_; cbv))
        refine OK.back (hBk _ _ (_, _, _) (by cbv; repeat (first | exact WkH.nil _ | apply WkH.gone | refine WkH.eq rfl ?_)) (by cbv; repeat (first | apply WkL.any | exact WkL.nil _ | refine WkL.eq rfl ?_ | refine WkL.bool rfl ?_)) (by cbv; exact ⟨rfl⟩) ?_ ?_)
        · exact h2.skip b3
        · exact h2.mu
      · obtain ⟨g1, g2, g3, g4, g5, g6⟩ := h2.set b3
        refine F.open 0 j rfl rfl ⟨g1, g2⟩ (s := .val (.slice none 0 0)) (holeNil hA g3) ?_
        refine F.adoptHole 0 5 (ek := .byte) rfl rfl ?_
        repeat (first
          | refine OK.drawn (by decide +kernel) ?_
          | refine OK.tree ⟨lookT tis, fun _ => true, []⟩ (by decide +kernel) ?_
          | refine OK.need (by first | assumption | (rw [hA]; first | (show (_ : Int) ≠ _; decide) | (show (0 : Int) ≤ _; decide) | (show (0 : Int) ≤ _ ∧ _ < (256 : Int); decide))) ?_
          | (refine F.hold hA 2000 ?_; cbv))
        refine F.loop (V := Int × List UInt8) [0, 4, 6, 7, 8, 9] (O3Inv l.toNat cd2.toNat) (fun w => (w.1 + 1).toNat) (fun w => [(10, .int .i64 w.1)]) (fun w => [(0, .hole 38 (.recs 3 rows2) j (.own 2)), (2, .row 5 (.bytes w.2))]) (_, _) (by cbv; repeat (first | exact WkH.nil _ | apply WkH.gone | refine WkH.eq rfl ?_)) (by cbv; repeat (first | apply WkL.any | exact WkL.nil _ | refine WkL.eq rfl ?_ | refine WkL.bool rfl ?_)) (by cbv; exact ⟨rfl⟩) ?_ ?_
        · exact o3z hA hlin _
        rintro ⟨k, xs⟩ hI3 Bk3 hBk3
        repeat (first
          | refine OK.drawn (by decide +kernel) ?_
          | refine OK.tree ⟨lookT tis, fun _ => true, []⟩ (by decide +kernel) ?_
          | refine OK.need (by first | assumption | (rw [hA]; first | (show (_ : Int) ≠ _; decide) | (show (0 : Int) ≤ _; decide) | (show (0 : Int) ≤ _ ∧ _ < (256 : Int); decide))) ?_
          | (refine F.hold hA 2000 ?_; cbv))
        refine OK.branch (fun b4 => ?_) (fun b4 => ?_)
        · have h3 := o3At hA hlin.n g4 g5 hI3 b4
          have q0 := h3.q0
          have q3 := h3.q3
          have q4 := h3.q4
          have q5 := h2.q5
          have hBk := hBk3
          repeat' (first
            | contradiction
            | exact trivial
            | refine OK.drawn (by decide +kernel) ?_
            | refine OK.tree ⟨lookT tis, fun _ => true, []⟩ (by decide +kernel) ?_
            | refine OK.both ?_ ?_
            | refine OK.need (by first | assumption | (rw [hA]; first | (show (_ : Int) ≠ _; decide) | (show (0 : Int) ≤ _; decide) | (show (0 : Int) ≤ _ ∧ _ < (256 : Int); decide))) ?_
            | refine OK.need ?_ ?_
            | (refine OK.branch ?_ ?_ <;> intro h)
            | (refine F.hold hA 2000 ?_; cbv))
          all_goals
            refine OK.back (hBk _ _ (_, _) (by cbv; repeat (first | exact WkH.nil _ | apply WkH.gone | refine WkH.eq rfl ?_)) (by cbv; repeat (first | apply WkL.any | exact WkL.nil _ | refine WkL.eq rfl ?_ | refine WkL.bool rfl ?_)) (by cbv; exact ⟨rfl⟩) ?_ ?_)
            · exact h3.nx
            · exact h3.mu
        · refine F.frz 2 rfl ?_
          refine F.close 0 (.recs 3 (A.set rows2 j (some xs))) rfl (cl_len hA) rfl (cl_cells hA) (cl_at hA g1 g2) ?_
          repeat (first
            | refine OK.drawn (by decide +kernel) ?_
            | refine OK.tree ⟨lookT tis, fun _ => true, []⟩ (by decide +kernel) ?_
            | refine OK.need (by first | assumption | (rw [hA]; first | (show (_ : Int) ≠ _; decide) | (show (0 : Int) ≤ _; decide) | (show (0 : Int) ≤ _ ∧ _ < (256 : Int); decide))) ?_
            | (refine F.hold hA 2000 ?_; cbv))
          refine OK.back (hBk _ _ (_, _, _) (by cbv; repeat (first | exact WkH.nil _ | apply WkH.gone | refine WkH.eq rfl ?_)) (by cbv; repeat (first | apply WkL.any | exact WkL.nil _ | refine WkL.eq rfl ?_ | refine WkL.bool rfl ?_)) (by cbv; exact ⟨rfl⟩) ?_ ?_)
          · exact g6 _ (hI3.fin hA b4)
          · exact h2.mu
    · clear hBk
      have hBk := hBkO
      repeat' (first
        | refine OK.drawn (by decide +kernel) ?_
        | refine OK.tree ⟨lookT tis, fun _ => true, []⟩ (by decide +kernel) ?_
        | refine OK.both ?_ ?_
        | refine OK.need (by first | assumption | (rw [hA]; first | (show (_ : Int) ≠ _; decide) | (show (0 : Int) ≤ _; decide) | (show (0 : Int) ≤ _ ∧ _ < (256 : Int); decide))) ?_
        | refine OK.need ?_ ?_
        | (refine OK.branch ?_ ?_ <;> intro h)
        | (refine F.hold hA 2000 ?_; cbv))
      refine OK.back (hBk _ _ (_, _, _) (by cbv; repeat (first | exact WkH.nil _ | apply WkH.gone | refine WkH.eq rfl ?_)) (by cbv; repeat (first | apply WkL.any | exact WkL.nil _ | refine WkL.eq rfl ?_ | refine WkL.bool rfl ?_)) (by cbv; exact ⟨rfl⟩) ?_ ?_)
      · exact (O2Inv.o1 hA hR hI b1 hI2 b2).1
      · exact (O2Inv.o1 hA hR hI b1 hI2 b2).2
  · repeat' (first
      | refine OK.drawn (by decide +kernel) ?_
      | refine OK.tree ⟨lookT tis, fun _ => true, []⟩ (by decide +kernel) ?_
      | refine OK.both ?_ ?_
      | refine OK.need (by first | assumption | (rw [hA]; first | (show (_ : Int) ≠ _; decide) | (show (0 : Int) ≤ _; decide) | (show (0 : Int) ≤ _ ∧ _ < (256 : Int); decide))) ?_
      | refine OK.need ?_ ?_
      | (refine OK.branch ?_ ?_ <;> intro h)
      | (refine F.hold hA 2000 ?_; cbv))
    refine F.ret (rs' := [.ptr 1 0, .int .i64 0]) (H' := [.gone, .cells 41 [.ro (.recs 4 (mp rows)), .int .i64 n]]) ((Cv.chunk (c := 0) (y := .row 38 (.recs 4 (mp rows))) rfl rfl rfl fun M hm => ChOK.map (mp_len rows) (by rw [F.C]; rfl) (by rw [F.C]; exact mp_cells M rows) hm).trans (Cv.freeze F.cod 0 rfl)) rfl ?_
    exact .inr ⟨_, rfl, by rw [hn], hR, by rw [O1Inv.end_ hA hI b1]⟩
end Go.L1

-- H6
namespace Go.L1
open Go Go.Sx Go.Proofs Go.Huff
set_option linter.unusedVariables false
set_option linter.unusedSimpArgs false
/-- A row of bits, one in each byte. -/
def brow (N m : Nat) : List UInt8 := (List.range m).map fun i => UInt8.ofNat (N / 2 ^ i % 2)
theorem brow_len (N m : Nat) : (brow N m).length = m := by simp [brow]
theorem brow_get (N : Nat) {m i : Nat} (h : i < m) : (brow N m).getD i 0 = UInt8.ofNat (N / 2 ^ i % 2) := by
  rw [List.getD_eq_getElem?_getD, List.getElem?_eq_getElem (by rw [brow_len]; exact h)]
  simp [brow]
theorem rbits_len (l c : Nat) : (rbits l c).length = l := by simp [rbits]
theorem rbits_get (c : Nat) {l i : Nat} (h : i < l) : (rbits l c).getD i 0 = UInt8.ofNat (c / 2 ^ (l - 1 - i) % 2) := by
  rw [List.getD_eq_getElem?_getD, List.getElem?_eq_getElem (by rw [rbits_len]; exact h)]
  simp [rbits]
theorem ofNat_bit {a b : Nat} (ha : a < 2) (hb : b < 2) : UInt8.ofNat a = UInt8.ofNat b ↔ a = b := by
  rcases Nat.lt_or_ge a 1 with h1 | h1 <;> rcases Nat.lt_or_ge b 1 with h2 | h2
  · have : a = 0 := by omega
    have : b = 0 := by omega
    subst a b; simp
  · have : a = 0 := by omega
    have : b = 1 := by omega
    subst a b; decide
  · have : a = 1 := by omega
    have : b = 0 := by omega
    subst a b; decide
  · have : a = 1 := by omega
    have : b = 1 := by omega
    subst a b; simp
/-- The first k bits of a code of l bits are those of V, or not. -/
def Pre (l c V k : Nat) (f : Bool) : Prop := f = true ↔ c / 2 ^ (l - k) = revN k V
theorem Pre.step {l c V k : Nat} (hk : k < l) (h : Pre l c V k true) : Pre l c V (k + 1) (decide (UInt8.ofNat (c / 2 ^ (l - 1 - k) % 2) = UInt8.ofNat (V / 2 ^ k % 2))) := by
  have h := h.1 rfl
  unfold Pre
  rw [decide_eq_true_iff, ofNat_bit (Nat.mod_lt _ (by decide)) (Nat.mod_lt _ (by decide))]
  have e : c / 2 ^ (l - k) = c / 2 ^ (l - 1 - k) / 2 := by
    rw [show l - k = l - 1 - k + 1 from by omega, Nat.pow_succ, Nat.div_div_eq_div_mul]
  rw [e] at h
  rw [show l - (k + 1) = l - 1 - k from by omega]
  simp only [revN]
  omega
theorem Pre.no {l c V k j : Nat} (hk : k ≤ j) (hj : j ≤ l) (h : Pre l c V k false) : c / 2 ^ (l - j) ≠ revN j V := fun hh => by
  have h2 : c / 2 ^ (l - k) = revN k V := by
    have e : l - k = (l - j) + (j - k) := by omega
    rw [e, Nat.pow_add, ← Nat.div_div_eq_div_mul, hh]
    have := revN_pre k (j - k) V
    rwa [show k + (j - k) = j from by omega] at this
  exact absurd (h.2 h2) (by decide)
def Lng (ls : List Int) (V left s : Nat) : Prop := left < len ls s ∧ code ls s / 2 ^ (len ls s - left) = revN left V
/-- The document's outer loop: so many symbols are asked. -/
def NOInv (ls : List Int) (V left : Nat) (w : Bool × Int) : Prop := ∃ s : Nat, w.2 = s ∧ s ≤ ls.length ∧ (∀ t, t < s → ¬ Hit ls V left t) ∧ (w.1 = true ↔ ∃ t, t < s ∧ Lng ls V left t)
/-- The inner loop. -/
def NIInv (l c V left : Nat) (w : Bool × Int) : Prop := ∃ k : Nat, w.2 = k ∧ k ≤ l ∧ k ≤ left ∧ Pre l c V k w.1
theorem NIInv.zero (l c V left : Nat) (h : c < 2 ^ l) : NIInv l c V left (true, 0) := ⟨0, rfl, Nat.zero_le _, Nat.zero_le _, by unfold Pre; simp [revN, Nat.div_eq_of_lt h]⟩
theorem NOInv.zero (ls : List Int) (V left : Nat) : NOInv ls V left (false, 0) := ⟨0, rfl, Nat.zero_le _, fun t h => absurd h (by omega), by simp⟩
/-- At the inner loop's end. -/
theorem NIInv.hit {ls : List Int} {V left s : Nat} {k : Int} (hs : s < ls.length) (h0 : 0 < len ls s) (h : NIInv (len ls s) (code ls s) V left (true, k)) (hk : k = (len ls s : Nat)) : Hit ls V left s := by
  obtain ⟨j, e, h1, h2, h3⟩ := h
  simp only at e h3
  have : j = len ls s := by omega
  subst this
  have h3 := h3.1 rfl
  rw [Nat.sub_self, Nat.pow_zero, Nat.div_one] at h3
  exact ⟨hs, h0, h2, h3⟩
theorem NIInv.miss {ls : List Int} {V left s : Nat} {k : Int} {f : Bool} (h : NIInv (len ls s) (code ls s) V left (f, k)) (h1 : f = false ∨ k ≠ (len ls s : Nat)) (h2 : f = false ∨ k = (len ls s : Nat) ∨ k = (left : Nat)) :
    ¬ Hit ls V left s ∧ (f = true ↔ Lng ls V left s) := by
  obtain ⟨j, e, k1, k2, k3⟩ := h
  simp only at e k3
  cases f with
  | false =>
    refine ⟨fun hh => ?_, by simp, fun hh => ?_⟩
    · have := k3.no k1 (Nat.le_refl _)
      rw [Nat.sub_self, Nat.pow_zero, Nat.div_one] at this
      exact this hh.2.2.2
    · exact absurd hh.2 (k3.no k2 (by have := hh.1; omega))
  | true =>
    have hne : k ≠ (len ls s : Nat) := by rcases h1 with h | h; cases h; exact h
    have hl : j = left := by rcases h2 with h | h | h; cases h; exact absurd h hne; omega
    subst hl
    have hlt : j < len ls s := by omega
    exact ⟨fun hh => by have := hh.2.2.1; omega, fun _ => ⟨hlt, k3.1 rfl⟩, fun _ => rfl⟩
theorem NOInv.next {ls : List Int} {V left s : Nat} {f g : Bool} (h : NOInv ls V left (f, (s : Int))) (hs : s < ls.length) (h1 : ¬ Hit ls V left s) (h2 : g = true ↔ Lng ls V left s) : NOInv ls V left (f || g, ((s + 1 : Nat) : Int)) := by
  obtain ⟨t, e, k1, k2, k3⟩ := h
  simp only at e k3
  have : t = s := by omega
  subst this
  refine ⟨t + 1, rfl, by omega, fun u hu => ?_, ?_⟩
  · by_cases e : u = t
    · subst e; exact h1
    · exact k2 u (by omega)
  · show (f || g) = true ↔ _
    rw [Bool.or_eq_true, k3, h2]
    constructor
    · rintro (⟨u, h, h'⟩ | h)
      · exact ⟨u, by omega, h'⟩
      · exact ⟨t, by omega, h⟩
    · rintro ⟨u, h, h'⟩
      by_cases e : u = t
      · subst e; exact .inr h'
      · exact .inl ⟨u, by omega, h'⟩
theorem NOInv.skip {ls : List Int} {V left s : Nat} {f : Bool} (h : NOInv ls V left (f, (s : Int))) (hs : s < ls.length) (h1 : len ls s = 0) : NOInv ls V left (f, ((s + 1 : Nat) : Int)) := by
  have := h.next (g := false) hs (fun hh => by have := hh.2.1; omega) ⟨(fun hh => by cases hh), (fun hh => by have := hh.1; omega)⟩
  rwa [Bool.or_false] at this
theorem NOInv.end_ {ls : List Int} {V left : Nat} {f : Bool} {s : Int} (h : NOInv ls V left (f, s)) (hs : ls.length ≤ s) (hz : f = true ∨ left = 0) : NextIs ls V left 0 0 15 := by
  obtain ⟨t, e, k1, k2, k3⟩ := h
  simp only at e k3
  have : t = ls.length := by omega
  subst this
  refine .inr ⟨fun s hh => k2 s hh.1 hh, rfl, rfl, .inl ⟨rfl, ?_⟩⟩
  rcases hz with h | h
  · obtain ⟨u, h1, h2, h3⟩ := k3.1 h
    exact .inr ⟨u, h1, h2, h3⟩
  · exact .inl h
theorem NOInv.form {ls : List Int} {V left : Nat} {s : Int} (h : NOInv ls V left (false, s)) (hs : ls.length ≤ s) (hz : 0 < left) : NextIs ls V left 0 0 10 := by
  obtain ⟨t, e, k1, k2, k3⟩ := h
  simp only at e k3
  have : t = ls.length := by omega
  subst this
  refine .inr ⟨fun s hh => k2 s hh.1 hh, rfl, rfl, .inr ⟨rfl, hz, fun ⟨u, h1, h2, h3⟩ => ?_⟩⟩
  exact absurd (k3.2 ⟨u, h1, h2, h3⟩) (by decide)
end Go.L1

-- C3
namespace Go.L1
open Go Go.Sx Go.Proofs Go.Huff
set_option maxRecDepth 20000
set_option linter.unusedVariables false
set_option linter.unusedSimpArgs false
structure ORows (ls : List Int) (rows : List (List UInt8)) : Prop where
  ln : rows.length = ls.length
  at_ : ∀ s, s < ls.length → rows.getD s [] = rbits (len ls s) (code ls s)
structure RPre (row : List UInt8) (N m : Nat) (p : Int) : Prop where
  r : row = brow N m
  mx : m ≤ 1000000
  lo : 0 ≤ p
  hi : p ≤ m
def RefNext (ls : List Int) (N m : Nat) (p sym k e : Int) : Prop := NextIs ls (N / 2 ^ p.toNat) (m - p).toNat sym k e
structure IAt (A : Leaf) (ls : List Int) (N m : Nat) (p : Int) (row w : List UInt8) (f g : Bool) (s k : Int) : Prop where
  q1 : A.cmp .lss k (A.len w) = true → A.inb k (A.len w)
  q2 : A.cmp .lss (A.ar .add .i64 p k) (A.len row) = true → A.inb (A.ar .add .i64 p k) (A.len row)
  nx : A.cmp .lss k (A.len w) = true → A.cmp .lss (A.ar .add .i64 p k) (A.len row) = true → g = true →
    NIInv (len ls s.toNat) (code ls s.toNat) (N / 2 ^ p.toNat) (m - p).toNat (A.cmp .eql (A.b2i (A.get 0 w k)) (A.b2i (A.get 0 row (A.ar .add .i64 p k))), A.ar .add .i64 k 1)
  mu : A.cmp .lss k (A.len w) = true → (len ls s.toNat - A.ar .add .i64 k 1).toNat < (len ls s.toNat - k).toNat
  hit : g = true → A.cmp .eql k (A.len w) = true → RefNext ls N m p s (A.len w) 0
  miss : A.cmp .lss k (A.len w) = false ∨ A.cmp .lss (A.ar .add .i64 p k) (A.len row) = false ∨ g = false → g = false ∨ A.cmp .eql k (A.len w) = false →
    NOInv ls (N / 2 ^ p.toNat) (m - p).toNat (f || g, A.ar .add .i64 s 1)
theorem IAt.miss1 {A : Leaf} {ls : List Int} {N m : Nat} {p : Int} {row w : List UInt8} {f g : Bool} {s k : Int} (h : IAt A ls N m p row w f g s k) (hf : f = true)
    (h1 : A.cmp .lss k (A.len w) = false ∨ A.cmp .lss (A.ar .add .i64 p k) (A.len row) = false ∨ g = false) (h2 : g = false ∨ A.cmp .eql k (A.len w) = false) : NOInv ls (N / 2 ^ p.toNat) (m - p).toNat (true, A.ar .add .i64 s 1) := by
  subst hf
  exact h.miss h1 h2
theorem IAt.miss2 {A : Leaf} {ls : List Int} {N m : Nat} {p : Int} {row w : List UInt8} {f g : Bool} {s k : Int} (h : IAt A ls N m p row w f g s k) (hf : f = false)
    (h1 : A.cmp .lss k (A.len w) = false ∨ A.cmp .lss (A.ar .add .i64 p k) (A.len row) = false ∨ g = false) (h2 : g = false ∨ A.cmp .eql k (A.len w) = false) : NOInv ls (N / 2 ^ p.toNat) (m - p).toNat (g, A.ar .add .i64 s 1) := by
  subst hf
  have := h.miss h1 h2
  rwa [Bool.false_or] at this
structure OAt (A : Leaf) (ls : List Int) (rows : List (List UInt8)) (row : List UInt8) (N m : Nat) (p : Int) (f : Bool) (s : Int) : Prop where
  q1 : A.inb s (A.len rows)
  skip : A.cmp .eql (A.len (A.get [] rows s)) 0 = true → NOInv ls (N / 2 ^ p.toNat) (m - p).toNat (f, A.ar .add .i64 s 1)
  mu : (ls.length - A.ar .add .i64 s 1).toNat < (ls.length - s).toNat
  zero : A.cmp .eql (A.len (A.get [] rows s)) 0 = false → NIInv (len ls s.toNat) (code ls s.toNat) (N / 2 ^ p.toNat) (m - p).toNat (true, 0)
  inn : A.cmp .eql (A.len (A.get [] rows s)) 0 = false → ∀ g k, NIInv (len ls s.toNat) (code ls s.toNat) (N / 2 ^ p.toNat) (m - p).toNat (g, k) → IAt A ls N m p row (A.get [] rows s) f g s k
theorem oAt {A : Leaf} {ls : List Int} {rows : List (List UInt8)} {row : List UInt8} {N m : Nat} {p : Int} {f : Bool} {s : Int} (hA : A = .std) (hR : RdyR ls) (ho : ORows ls rows) (hp : RPre row N m p)
    (hI : NOInv ls (N / 2 ^ p.toNat) (m - p).toNat (f, s)) (b1 : A.cmp .lss s (A.len rows) = true) : OAt A ls rows row N m p f s := by
  obtain ⟨t, e, _⟩ := id hI
  simp only at e
  subst e hA
  have b1 : (t : Int) < (rows.length : Int) := of_decide_eq_true b1
  have ht : t < ls.length := by have := ho.ln; omega
  have hle := hR.le
  have hl15 := len_le hR.b t
  obtain ⟨r, mx, lo, hi⟩ := hp
  have es : Leaf.std.ar .add .i64 (t : Int) 1 = ((t + 1 : Nat) : Int) := by rw [add_i64 (by omega) (by omega)]; omega
  have ew : Leaf.std.get [] rows (t : Int) = rbits (len ls t) (code ls t) := by
    show rows.getD ((t : Int).toNat) [] = _
    rw [Int.toNat_natCast]; exact ho.at_ t ht
  have el : Leaf.std.len (Leaf.std.get [] rows (t : Int)) = (len ls t : Nat) := by rw [ew]; show (((rbits _ _).length : Nat) : Int) = _; rw [rbits_len]
  have erl : Leaf.std.len row = (m : Int) := by show ((row.length : Nat) : Int) = _; rw [r, brow_len]
  refine ⟨?_, fun h => ?_, by rw [es]; omega, fun h => ?_, fun h g k hk => ?_⟩
  · show (0 : Int) ≤ (t : Int) ∧ (t : Int) < (rows.length : Int); omega
  · rw [el] at h
    have h : ((len ls t : Nat) : Int) = 0 := by simpa [Leaf.std] using h
    rw [es]
    exact hI.skip ht (by omega)
  · rw [Int.toNat_natCast]
    refine NIInv.zero _ _ _ _ ?_
    rw [el] at h
    have h : ¬ ((len ls t : Nat) : Int) = 0 := by simpa [Leaf.std] using h
    exact code_lt hR.b hR.r ht (by omega)
  · rw [el] at h
    have h0 : 0 < len ls t := by
      have h : ¬ ((len ls t : Nat) : Int) = 0 := by simpa [Leaf.std] using h
      omega
    rw [Int.toNat_natCast] at hk
    obtain ⟨j, e, k1, k2, k3⟩ := id hk
    simp only at e k3
    subst e
    have ep : Leaf.std.ar .add .i64 p (j : Int) = p + j := by rw [add_i64 (by omega) (by omega)]
    have ej : Leaf.std.ar .add .i64 (j : Int) 1 = ((j + 1 : Nat) : Int) := by rw [add_i64 (by omega) (by omega)]; omega
    refine ⟨fun a => ?_, fun a => ?_, fun a b c => ?_, fun a => ?_, fun a b => ?_, fun a b => ?_⟩
    · rw [el] at a ⊢
      have a : (j : Int) < _ := of_decide_eq_true a
      show (0 : Int) ≤ (j : Int) ∧ (j : Int) < _; omega
    · rw [erl, ep] at a ⊢
      have a : p + (j : Int) < _ := of_decide_eq_true a
      show (0 : Int) ≤ p + (j : Int) ∧ p + (j : Int) < _; omega
    · rw [el] at a
      rw [erl, ep] at b
      have a : (j : Int) < _ := of_decide_eq_true a
      have b : p + (j : Int) < _ := of_decide_eq_true b
      subst c
      rw [Int.toNat_natCast, ej, ep, ew]
      refine ⟨j + 1, rfl, by omega, by omega, ?_⟩
      have k4 := k3.step (by omega)
      have e1 : Leaf.std.get 0 (rbits (len ls t) (code ls t)) (j : Int) = UInt8.ofNat (code ls t / 2 ^ (len ls t - 1 - j) % 2) := by
        show (rbits _ _).getD ((j : Int).toNat) 0 = _
        rw [Int.toNat_natCast, rbits_get _ (by omega)]
      have e2 : Leaf.std.get 0 row (p + j) = UInt8.ofNat (N / 2 ^ p.toNat / 2 ^ j % 2) := by
        show row.getD (p + j).toNat 0 = _
        rw [r, brow_get _ (by omega), show (p + (j : Int)).toNat = p.toNat + j from by omega, Nat.pow_add, Nat.div_div_eq_div_mul]
      rw [e1, e2]
      refine Eq.mp (congrArg _ ?_) k4
      generalize UInt8.ofNat (code ls t / 2 ^ (len ls t - 1 - j) % 2) = x
      generalize UInt8.ofNat (N / 2 ^ p.toNat / 2 ^ j % 2) = y
      show _ = (((x.toNat : Int)) == ((y.toNat : Int)))
      by_cases h : x = y
      · subst h; simp
      · have h2 : ¬ ((x.toNat : Int)) = y.toNat := fun hh => h (UInt8.toNat_inj.1 (by omega))
        simp [h, h2]
    · rw [el] at a
      have a : (j : Int) < _ := of_decide_eq_true a
      rw [Int.toNat_natCast, ej]
      omega
    · rw [el] at b ⊢
      have b : (j : Int) = ((len ls t : Nat) : Int) := by simpa [Leaf.std] using b
      subst a
      exact .inl ⟨rfl, t, hk.hit ht h0 b, rfl, rfl⟩
    · rw [es]
      rw [el] at a b
      rw [erl, ep] at a
      have h1 : g = false ∨ ((j : Nat) : Int) ≠ ((len ls t : Nat) : Int) := by
        rcases b with b | b
        · exact .inl b
        · exact .inr (by simpa [Leaf.std] using b)
      have h2 : g = false ∨ ((j : Nat) : Int) = ((len ls t : Nat) : Int) ∨ ((j : Nat) : Int) = (((m : Int) - p).toNat : Nat) := by
        rcases a with a | a | a
        · have a : ¬ (j : Int) < _ := of_decide_eq_false a
          exact .inr (.inl (by omega))
        · have a : ¬ p + (j : Int) < _ := of_decide_eq_false a
          exact .inr (.inr (by omega))
        · exact .inl a
      obtain ⟨m1, m2⟩ := hk.miss h1 h2
      exact hI.next ht m1 m2
structure OEnd (A : Leaf) (ls : List Int) (row : List UInt8) (N m : Nat) (p : Int) (f : Bool) : Prop where
  a : f = true ∨ A.cmp .geq p (A.len row) = true → RefNext ls N m p 0 0 15
  b : f = false → A.cmp .geq p (A.len row) = false → RefNext ls N m p 0 0 10
theorem oEnd {A : Leaf} {ls : List Int} {rows : List (List UInt8)} {row : List UInt8} {N m : Nat} {p : Int} {f : Bool} {s : Int} (hA : A = .std) (ho : ORows ls rows) (hp : RPre row N m p)
    (hI : NOInv ls (N / 2 ^ p.toNat) (m - p).toNat (f, s)) (b1 : A.cmp .lss s (A.len rows) = false) : OEnd A ls row N m p f := by
  subst hA
  have b1 : ¬ s < (rows.length : Int) := of_decide_eq_false b1
  have hl := ho.ln
  obtain ⟨r, mx, lo, hi⟩ := hp
  have erl : Leaf.std.len row = (m : Int) := by show ((row.length : Nat) : Int) = _; rw [r, brow_len]
  refine ⟨fun h => hI.end_ (by omega) ?_, fun h h2 => ?_⟩
  · rcases h with h | h
    · exact .inl h
    · rw [erl] at h
      have h : (m : Int) ≤ p := of_decide_eq_true h
      exact .inr (by omega)
  · subst h
    rw [erl] at h2
    have h2 : ¬ (m : Int) ≤ p := of_decide_eq_false h2
    exact hI.form (by omega) (by omega)
theorem refnext_ok (ls : List Int) (rows : List (List UInt8)) (row : List UInt8) (N m : Nat) (n p : Int) (hR : RdyR ls) (ho : ORows ls rows) (hp : RPre row N m p) : FOK Try.prog C1 30 (fun _ => true) [.ptr 0 0, .ro (.bytes row), .int .i64 p] [.cells 41 [.ro (.recs 4 rows), .int .i64 n]]
    (fun rs H => ∃ sym k e, rs = [.int .i64 sym, .int .i64 k, .int .i64 e] ∧ H = [.cells 41 [.ro (.recs 4 rows), .int .i64 n]] ∧ RefNext ls N m p sym k e) := by
  refine fok_of (B := ⟨lookT tis, fun _ => true, []⟩) (tab1 _) (zero1 _) cod1 mix1 Try.func30 (by kernel_rfl) rfl rfl rfl fun X F => ?_
  obtain ⟨A, hA⟩ : ∃ A, A = Leaf.std := ⟨_, rfl⟩
  refine F.hold hA 2000 ?_
  cbv
  repeat' (first
    | refine OK.drawn (by decide +kernel) ?_
    | refine OK.tree ⟨lookT tis, fun _ => true, []⟩ (by decide +kernel) ?_
    | refine OK.both ?_ ?_
    | refine OK.need (by first | assumption | (rw [hA]; first | (show (_ : Int) ≠ _; decide) | (show (0 : Int) ≤ _; decide) | (show (0 : Int) ≤ _ ∧ _ < (256 : Int); decide))) ?_
    | refine OK.need ?_ ?_
    | (refine OK.branch ?_ ?_ <;> intro h)
    | (refine F.hold hA 2000 ?_; cbv))
  refine F.loop (V := Bool × Int) [0, 1, 2] (NOInv ls (N / 2 ^ p.toNat) (m - p).toNat) (fun w => (ls.length - w.2).toNat) (fun w => [(9, .bool (.e w.1)), (10, .int .i64 w.2)]) (fun w => []) (_, _) (by cbv; repeat (first | exact WkH.nil _ | apply WkH.gone | refine WkH.eq rfl ?_)) (by cbv; repeat (first | apply WkL.any | exact WkL.nil _ | refine WkL.eq rfl ?_ | refine WkL.bool rfl ?_)) (by cbv; exact ⟨rfl⟩) ?_ ?_
  · exact NOInv.zero _ _ _
  rintro ⟨f, s⟩ hI BkO hBkO
  repeat (first
    | refine OK.drawn (by decide +kernel) ?_
    | refine OK.tree ⟨lookT tis, fun _ => true, []⟩ (by decide +kernel) ?_
    | refine OK.need (by first | assumption | (rw [hA]; first | (show (_ : Int) ≠ _; decide) | (show (0 : Int) ≤ _; decide) | (show (0 : Int) ≤ _ ∧ _ < (256 : Int); decide))) ?_
    | (refine F.hold hA 2000 ?_; cbv))
  refine OK.branch (fun b1 => ?_) (fun b1 => ?_)
  · have hat := oAt hA hR ho hp hI b1
    have q1 := hat.q1
    repeat (first
      | refine OK.drawn (by decide +kernel) ?_
      | refine OK.tree ⟨lookT tis, fun _ => true, []⟩ (by decide +kernel) ?_
      | refine OK.need (by first | assumption | (rw [hA]; first | (show (_ : Int) ≠ _; decide) | (show (0 : Int) ≤ _; decide) | (show (0 : Int) ≤ _ ∧ _ < (256 : Int); decide))) ?_
      | (refine F.hold hA 2000 ?_; cbv))
    refine OK.branch (fun b2 => ?_) (fun b2 => ?_)
    · have hBk := hBkO
      repeat' (first
        | refine OK.drawn (by decide +kernel) ?_
        | refine OK.tree ⟨lookT tis, fun _ => true, []⟩ (by decide +kernel) ?_
        | refine OK.both ?_ ?_
        | refine OK.need (by first | assumption | (rw [hA]; first | (show (_ : Int) ≠ _; decide) | (show (0 : Int) ≤ _; decide) | (show (0 : Int) ≤ _ ∧ _ < (256 : Int); decide))) ?_
        | refine OK.need ?_ ?_
        | (refine OK.branch ?_ ?_ <;> intro h)
        | (refine F.hold hA 2000 ?_; cbv))
      refine OK.back (hBk _ _ (_, _) (by cbv; repeat (first | exact WkH.nil _ | apply WkH.gone | refine WkH.eq rfl ?_)) (by cbv; repeat (first | apply WkL.any | exact WkL.nil _ | refine WkL.eq rfl ?_ | refine WkL.bool rfl ?_)) (by cbv; exact ⟨rfl⟩) ?_ ?_)
      · exact hat.skip b2
      · exact hat.mu
    · have hinn := hat.inn b2
      repeat (first
        | refine OK.drawn (by decide +kernel) ?_
        | refine OK.tree ⟨lookT tis, fun _ => true, []⟩ (by decide +kernel) ?_
        | refine OK.need (by first | assumption | (rw [hA]; first | (show (_ : Int) ≠ _; decide) | (show (0 : Int) ≤ _; decide) | (show (0 : Int) ≤ _ ∧ _ < (256 : Int); decide))) ?_
        | (refine F.hold hA 2000 ?_; cbv))
      refine F.loop (V := Bool × Int) [0, 1, 2, 9, 10, 11] (NIInv (len ls s.toNat) (code ls s.toNat) (N / 2 ^ p.toNat) (m - p).toNat) (fun w => (len ls s.toNat - w.2).toNat) (fun w => [(12, .bool (.e w.1)), (13, .int .i64 w.2)]) (fun w => []) (_, _) (by cbv; repeat (first | exact WkH.nil _ | apply WkH.gone | refine WkH.eq rfl ?_)) (by cbv; repeat (first | apply WkL.any | exact WkL.nil _ | refine WkL.eq rfl ?_ | refine WkL.bool rfl ?_)) (by cbv; exact ⟨rfl⟩) ?_ ?_
      · exact hat.zero b2
      rintro ⟨g, k⟩ hI2 Bk hBk
      have hin := hinn g k hI2
      clear hinn
      repeat (first
        | refine OK.drawn (by decide +kernel) ?_
        | refine OK.tree ⟨lookT tis, fun _ => true, []⟩ (by decide +kernel) ?_
        | refine OK.need (by first | assumption | (rw [hA]; first | (show (_ : Int) ≠ _; decide) | (show (0 : Int) ≤ _; decide) | (show (0 : Int) ≤ _ ∧ _ < (256 : Int); decide))) ?_
        | (refine F.hold hA 2000 ?_; cbv))
      refine OK.branch (fun b3 => ?_) (fun b3 => ?_)
      · have q2 := hin.q1 b3
        repeat (first
          | refine OK.drawn (by decide +kernel) ?_
          | refine OK.tree ⟨lookT tis, fun _ => true, []⟩ (by decide +kernel) ?_
          | refine OK.need (by first | assumption | (rw [hA]; first | (show (_ : Int) ≠ _; decide) | (show (0 : Int) ≤ _; decide) | (show (0 : Int) ≤ _ ∧ _ < (256 : Int); decide))) ?_
          | (refine F.hold hA 2000 ?_; cbv))
        refine OK.branch (fun b4 => ?_) (fun b4 => ?_)
        · have q3 := hin.q2 b4
          repeat (first
            | refine OK.drawn (by decide +kernel) ?_
            | refine OK.tree ⟨lookT tis, fun _ => true, []⟩ (by decide +kernel) ?_
            | refine OK.need (by first | assumption | (rw [hA]; first | (show (_ : Int) ≠ _; decide) | (show (0 : Int) ≤ _; decide) | (show (0 : Int) ≤ _ ∧ _ < (256 : Int); decide))) ?_
            | (refine F.hold hA 2000 ?_; cbv))
          refine OK.branch (fun b5 => ?_) (fun b5 => ?_)
          · repeat' (first
              | refine OK.drawn (by decide +kernel) ?_
              | refine OK.tree ⟨lookT tis, fun _ => true, []⟩ (by decide +kernel) ?_
              | refine OK.both ?_ ?_
              | refine OK.need (by first | assumption | (rw [hA]; first | (show (_ : Int) ≠ _; decide) | (show (0 : Int) ≤ _; decide) | (show (0 : Int) ≤ _ ∧ _ < (256 : Int); decide))) ?_
              | refine OK.need ?_ ?_
              | (refine OK.branch ?_ ?_ <;> intro h)
              | (refine F.hold hA 2000 ?_; cbv))
            all_goals
              refine OK.back (hBk _ _ (_, _) (by cbv; repeat (first | exact WkH.nil _ | apply WkH.gone | refine WkH.eq rfl ?_)) (by cbv; repeat (first | apply WkL.any | exact WkL.nil _ | refine WkL.eq rfl ?_ | refine WkL.bool rfl ?_)) (by cbv; exact ⟨rfl⟩) ?_ ?_)
              · exact hin.nx b3 b4 b5
              · exact hin.mu b3
          · skip
            repeat' (first
              | contradiction
              | exact absurd (‹g = true›.symm.trans ‹g = false›) (by decide)
              | refine OK.drawn (by decide +kernel) ?_
              | refine OK.tree ⟨lookT tis, fun _ => true, []⟩ (by decide +kernel) ?_
              | refine OK.both ?_ ?_
              | refine OK.need (by first | assumption | (rw [hA]; first | (show (_ : Int) ≠ _; decide) | (show (0 : Int) ≤ _; decide) | (show (0 : Int) ≤ _ ∧ _ < (256 : Int); decide))) ?_
              | refine OK.need ?_ ?_
              | (refine OK.branch ?_ ?_ <;> intro h)
              | (refine F.hold hA 2000 ?_; cbv))
            all_goals first
              | exact F.ret0 ⟨_, _, _, rfl, rfl, hin.hit ‹_› ‹_›⟩
              | skip
            all_goals
              have hBk := hBkO
              refine OK.back (hBk _ _ (_, _) (by cbv; repeat (first | exact WkH.nil _ | apply WkH.gone | refine WkH.eq rfl ?_)) (by cbv; repeat (first | apply WkL.any | exact WkL.nil _ | refine WkL.eq rfl ?_ | refine WkL.bool rfl ?_)) (by cbv; exact ⟨rfl⟩) ?_ ?_)
              · first
                  | exact hin.miss1 (by assumption) (by first | exact .inl (by assumption) | exact .inr (.inl (by assumption)) | exact .inr (.inr (by assumption))) (by first | exact .inl (by assumption) | exact .inr (by assumption))
                  | exact hin.miss2 (by assumption) (by first | exact .inl (by assumption) | exact .inr (.inl (by assumption)) | exact .inr (.inr (by assumption))) (by first | exact .inl (by assumption) | exact .inr (by assumption))
              · exact hat.mu
        · skip
          repeat' (first
            | contradiction
            | exact absurd (‹g = true›.symm.trans ‹g = false›) (by decide)
            | refine OK.drawn (by decide +kernel) ?_
            | refine OK.tree ⟨lookT tis, fun _ => true, []⟩ (by decide +kernel) ?_
            | refine OK.both ?_ ?_
            | refine OK.need (by first | assumption | (rw [hA]; first | (show (_ : Int) ≠ _; decide) | (show (0 : Int) ≤ _; decide) | (show (0 : Int) ≤ _ ∧ _ < (256 : Int); decide))) ?_
            | refine OK.need ?_ ?_
            | (refine OK.branch ?_ ?_ <;> intro h)
            | (refine F.hold hA 2000 ?_; cbv))
          all_goals first
            | exact F.ret0 ⟨_, _, _, rfl, rfl, hin.hit ‹_› ‹_›⟩
            | skip
          all_goals
            have hBk := hBkO
            refine OK.back (hBk _ _ (_, _) (by cbv; repeat (first | exact WkH.nil _ | apply WkH.gone | refine WkH.eq rfl ?_)) (by cbv; repeat (first | apply WkL.any | exact WkL.nil _ | refine WkL.eq rfl ?_ | refine WkL.bool rfl ?_)) (by cbv; exact ⟨rfl⟩) ?_ ?_)
            · first
                | exact hin.miss1 (by assumption) (by first | exact .inl (by assumption) | exact .inr (.inl (by assumption)) | exact .inr (.inr (by assumption))) (by first | exact .inl (by assumption) | exact .inr (by assumption))
                | exact hin.miss2 (by assumption) (by first | exact .inl (by assumption) | exact .inr (.inl (by assumption)) | exact .inr (.inr (by assumption))) (by first | exact .inl (by assumption) | exact .inr (by assumption))
            · exact hat.mu
      · skip
        repeat' (first
          | contradiction
          | exact absurd (‹g = true›.symm.trans ‹g = false›) (by decide)
          | refine OK.drawn (by decide +kernel) ?_
          | refine OK.tree ⟨lookT tis, fun _ => true, []⟩ (by decide +kernel) ?_
          | refine OK.both ?_ ?_
          | refine OK.need (by first | assumption | (rw [hA]; first | (show (_ : Int) ≠ _; decide) | (show (0 : Int) ≤ _; decide) | (show (0 : Int) ≤ _ ∧ _ < (256 : Int); decide))) ?_
          | refine OK.need ?_ ?_
          | (refine OK.branch ?_ ?_ <;> intro h)
          | (refine F.hold hA 2000 ?_; cbv))
        all_goals first
          | exact F.ret0 ⟨_, _, _, rfl, rfl, hin.hit ‹_› ‹_›⟩
          | skip
        all_goals
          have hBk := hBkO
          refine OK.back (hBk _ _ (_, _) (by cbv; repeat (first | exact WkH.nil _ | apply WkH.gone | refine WkH.eq rfl ?_)) (by cbv; repeat (first | apply WkL.any | exact WkL.nil _ | refine WkL.eq rfl ?_ | refine WkL.bool rfl ?_)) (by cbv; exact ⟨rfl⟩) ?_ ?_)
          · first
              | exact hin.miss1 (by assumption) (by first | exact .inl (by assumption) | exact .inr (.inl (by assumption)) | exact .inr (.inr (by assumption))) (by first | exact .inl (by assumption) | exact .inr (by assumption))
              | exact hin.miss2 (by assumption) (by first | exact .inl (by assumption) | exact .inr (.inl (by assumption)) | exact .inr (.inr (by assumption))) (by first | exact .inl (by assumption) | exact .inr (by assumption))
          · exact hat.mu
  · have hend := oEnd hA ho hp hI b1
    repeat' (first
      | refine OK.drawn (by decide +kernel) ?_
      | refine OK.tree ⟨lookT tis, fun _ => true, []⟩ (by decide +kernel) ?_
      | refine OK.both ?_ ?_
      | refine OK.need (by first | assumption | (rw [hA]; first | (show (_ : Int) ≠ _; decide) | (show (0 : Int) ≤ _; decide) | (show (0 : Int) ≤ _ ∧ _ < (256 : Int); decide))) ?_
      | refine OK.need ?_ ?_
      | (refine OK.branch ?_ ?_ <;> intro h)
      | (refine F.hold hA 2000 ?_; cbv))
    · exact F.ret0 ⟨_, _, _, rfl, rfl, hend.a (.inl ‹_›)⟩
    · exact F.ret0 ⟨_, _, _, rfl, rfl, hend.a (.inr ‹_›)⟩
    · exact F.ret0 ⟨_, _, _, rfl, rfl, hend.b ‹_› ‹_›⟩
end Go.L1

-- C4
namespace Go.L1
open Go Go.Sx Go.Proofs Go.Huff
set_option maxRecDepth 20000
set_option linter.unusedVariables false
set_option linter.unusedSimpArgs false
theorem neq_self {A : Leaf} (hA : A = .std) {x : Int} (h : A.cmp .neq x x = true) : False := by
  subst hA
  have h : (!(x == x)) = true := h
  simp at h
theorem mp_rows {ls : List Int} (h : InB ls) : ORows ls (mp (rowN ls 16 0)) := by
  refine ⟨by simp [mp, rowN_len], fun s hs => ?_⟩
  have hl : s < (rowN ls 16 0).length := by rw [rowN_len]; exact hs
  unfold mp
  rw [List.getD_eq_getElem?_getD, List.getElem?_map, List.getElem?_eq_getElem hl, rowN_get _ _ hs]
  have h15 := len_le h s
  by_cases h0 : 0 < len ls s
  · rw [if_pos ⟨h0, .inl (by omega)⟩]; rfl
  · rw [if_neg (by omega)]
    have : len ls s = 0 := by omega
    rw [this]; rfl
structure RowOK (bs : List UInt8) (row : List UInt8) : Prop where
  l : bs.length ≤ 300
  r : row = brow (valBytes bs) (8 * bs.length)
theorem RowOK.pre {bs row : List UInt8} {p : Int} (h : RowOK bs row) (hp : RdOK bs p) : RPre row (valBytes bs) (8 * bs.length) p :=
  ⟨h.r, by have := h.l; omega, hp.rd.lo, by have := hp.hi; omega⟩
end Go.L1

-- C5
namespace Go.L1
open Go Go.Sx Go.Proofs Go.Huff
set_option maxRecDepth 20000
set_option linter.unusedVariables false
set_option linter.unusedSimpArgs false
end Go.L1

-- H7
namespace Go.L1
open Go Go.Sx Go.Proofs Go.Huff
set_option linter.unusedVariables false
set_option linter.unusedSimpArgs false
theorem mny_succ (ls : List Int) (l : Nat) : ls.countP (fun x => decide (0 < x ∧ x ≤ ((l + 1 : Nat) : Int))) = ls.countP (fun x => decide (0 < x ∧ x ≤ (l : Int))) + cnt ls (l + 1) := by
  unfold cnt
  rw [if_neg (by omega)]
  induction ls with
  | nil => rfl
  | cons y ls ih =>
    rw [List.countP_cons, List.countP_cons, List.count_cons, ih]
    simp only [decide_eq_true_eq, beq_iff_eq]
    split <;> split <;> split <;> omega
theorem st_mny (ls : List Int) : ∀ l, st ls l + cnt ls l = ls.countP (fun x => decide (0 < x ∧ x ≤ (l : Int)))
  | 0 => by
    have h : ls.countP (fun x => decide (0 < x ∧ x ≤ ((0 : Nat) : Int))) = 0 := by
      rw [List.countP_eq_zero]
      intro x _
      simp
    rw [h]; simp [st, cnt]
  | l + 1 => by
    have e : st ls (l + 1) = st ls l + cnt ls l := rfl
    rw [e, st_mny ls l, mny_succ]
end Go.L1
