/- Own work of the session: part LF of a proof that the program's functions do what the statement says (a symbolic executor, contracts of the functions, plain laws). -/
import Derived.Test.YtmgmbcniamkfeaaLB
set_option linter.all false
-- C1
namespace Go.L1
open Go Go.Sx Go.Proofs Go.Huff
set_option maxRecDepth 20000
set_option linter.unusedVariables false
set_option linter.unusedSimpArgs false
theorem conv15 {A : Leaf} (hA : A = .std) {x : Int} (h0 : 0 ≤ x) (h1 : x ≤ 15) : A.conv .u64 x = x := by
  subst hA
  exact l_conv_u64 h0 (by omega)
theorem refroom_ok (ls : List Int) : FOK Try.prog C1 18 (fun _ => true) [.ro (.ints .i64 ls)] []
    (fun rs H => ∃ r ok, rs = [.int .i64 r, .bool (.e ok)] ∧ H = [] ∧ RoomIs ls r ok) := by
  refine fok_of (B := ⟨lookT tis, fun _ => true⟩) (tab1 _) (zero1 _) cod1 mix1 Try.func18 (by kernel_rfl) rfl rfl rfl fun X F => ?_
  obtain ⟨A, hA⟩ : ∃ A, A = Leaf.std := ⟨_, rfl⟩
  refine F.hold hA 2000 ?_
  cbv
  repeat' (first
    | refine OK.drawn (by decide +kernel) ?_
    | refine OK.tree ⟨lookT tis, fun _ => true⟩ (by decide +kernel) ?_
    | refine OK.both ?_ ?_
    | refine OK.need (by first | assumption | (rw [hA]; first | (show (_ : Int) ≠ _; decide) | (show (0 : Int) ≤ _; decide) | (show (0 : Int) ≤ _ ∧ _ < (256 : Int); decide))) ?_
    | refine OK.need ?_ ?_
    | (refine OK.branch ?_ ?_ <;> intro h)
    | (refine F.hold hA 2000 ?_; cbv))
  · refine F.retE rfl ⟨_, _, rfl, rfl, .inr ⟨rfl, ?_, rfl⟩⟩
    try clear hBk
    try clear F
    rw [std_eq] at hA; subst hA
    try simp (disch := omega) only [lf, decide_eq_true_eq, decide_eq_false_iff_not, Int.not_lt, Int.not_le, Bool.not_eq_true', Bool.not_eq_false', Bool.not_true, Bool.not_false, gt_iff_lt, ge_iff_le, Int.toNat_natCast, Bool.true_eq_false, Bool.false_eq_true, beq_iff_eq, Bool.not_eq_eq_eq_not, ne_eq, lT_len, lT_get] at *
    try simp (disch := omega) only [lf, decide_eq_true_eq, decide_eq_false_iff_not, Int.not_lt, Int.not_le, Bool.not_eq_true', Bool.not_eq_false', Bool.not_true, Bool.not_false, gt_iff_lt, ge_iff_le, Int.toNat_natCast, Bool.true_eq_false, Bool.false_eq_true, beq_iff_eq, Bool.not_eq_eq_eq_not, ne_eq, lT_len, lT_get] at *
    omega
  refine F.loop (V := Int × Int) [0] (RoomInv ls) (fun w => (ls.length - w.2).toNat) (fun w => [(4, .int .i64 w.1), (5, .int .i64 w.2)]) (fun w => []) (_, _) (by cbv; repeat (first | exact WkH.nil _ | apply WkH.gone | refine WkH.eq rfl ?_)) (by cbv; repeat (first | apply WkL.any | exact WkL.nil _ | refine WkL.eq rfl ?_ | refine WkL.bool rfl ?_)) (by cbv; exact ⟨rfl⟩) ?_ ?_
  · exact ⟨0, Nat.zero_le _, rfl, rfl, fun x hx => by cases hx⟩
  rintro ⟨n, i⟩ hI Bk hBk
  have hl : Nat.le ls.length 320 := by
    try clear hBk
    try clear F
    rw [std_eq] at hA; subst hA
    try simp (disch := omega) only [lf, decide_eq_true_eq, decide_eq_false_iff_not, Int.not_lt, Int.not_le, Bool.not_eq_true', Bool.not_eq_false', Bool.not_true, Bool.not_false, gt_iff_lt, ge_iff_le, Int.toNat_natCast, Bool.true_eq_false, Bool.false_eq_true, beq_iff_eq, Bool.not_eq_eq_eq_not, ne_eq, lT_len, lT_get] at *
    try simp (disch := omega) only [lf, decide_eq_true_eq, decide_eq_false_iff_not, Int.not_lt, Int.not_le, Bool.not_eq_true', Bool.not_eq_false', Bool.not_true, Bool.not_false, gt_iff_lt, ge_iff_le, Int.toNat_natCast, Bool.true_eq_false, Bool.false_eq_true, beq_iff_eq, Bool.not_eq_eq_eq_not, ne_eq, lT_len, lT_get] at *
    show ls.length ≤ 320
    omega
  repeat (first
    | refine OK.drawn (by decide +kernel) ?_
    | refine OK.tree ⟨lookT tis, fun _ => true⟩ (by decide +kernel) ?_
    | refine OK.need (by first | assumption | (rw [hA]; first | (show (_ : Int) ≠ _; decide) | (show (0 : Int) ≤ _; decide) | (show (0 : Int) ≤ _ ∧ _ < (256 : Int); decide))) ?_
    | (refine F.hold hA 2000 ?_; cbv))
  refine OK.branch (fun h1 => ?_) (fun h1 => ?_)
  · obtain ⟨j, hat⟩ := roomAt hA hl hI h1
    have q1 := hat.q1
    repeat' (first
      | refine OK.drawn (by decide +kernel) ?_
      | refine OK.tree ⟨lookT tis, fun _ => true⟩ (by decide +kernel) ?_
      | refine OK.both ?_ ?_
      | refine OK.need (by first | assumption | (rw [hA]; first | (show (_ : Int) ≠ _; decide) | (show (0 : Int) ≤ _; decide) | (show (0 : Int) ≤ _ ∧ _ < (256 : Int); decide))) ?_
      | refine OK.need ?_ ?_
      | (refine OK.branch ?_ ?_ <;> intro h)
      | (refine F.hold hA 2000 ?_; cbv))
    · refine F.retE rfl ⟨_, _, rfl, rfl, .inr ⟨rfl, fun hh => ?_, rfl⟩⟩
      obtain ⟨hb1, hb2⟩ := hat.bnd hh.2
      subst hA
      have h := of_decide_eq_true h
      omega
    · refine F.retE rfl ⟨_, _, rfl, rfl, .inr ⟨rfl, fun hh => ?_, rfl⟩⟩
      obtain ⟨hb1, hb2⟩ := hat.bnd hh.2
      subst hA
      have h := of_decide_eq_true h
      omega
    · subst hA
      have k1 : ¬ 15 < Leaf.std.get 0 ls i := by rename_i a b; exact of_decide_eq_false b
      have k2 : 0 < Leaf.std.get 0 ls i := of_decide_eq_true h
      have k3 := conv15 rfl (x := Leaf.std.get 0 ls i) (by omega) (by omega)
      show (0 : Int) ≤ Leaf.std.conv .u64 (Leaf.std.get 0 ls i)
      rw [k3]
      omega
    · refine OK.back (hBk _ _ (_, _) (by cbv; repeat (first | exact WkH.nil _ | apply WkH.gone | refine WkH.eq rfl ?_)) (by cbv; repeat (first | apply WkL.any | exact WkL.nil _ | refine WkL.eq rfl ?_ | refine WkL.bool rfl ?_)) (by cbv; exact ⟨rfl⟩) ?_ ?_)
      all_goals
        have k0 : ¬ A.get 0 ls i < 0 := by subst hA; rename_i a b; exact of_decide_eq_false a
        have k1 : ¬ 15 < A.get 0 ls i := by subst hA; rename_i a b; exact of_decide_eq_false b
        have k2 : 0 < A.get 0 ls i := by subst hA; exact of_decide_eq_true h
        have k3 := conv15 hA (x := A.get 0 ls i) (by omega) (by omega)
      · exact (hat.next hA hl k0 k1 _ (.inl ⟨k2, congrArg (fun z => A.ar .add .i64 n (A.ar .shr .i64 32768 z)) k3⟩)).1
      · exact (hat.next hA hl k0 k1 _ (.inl ⟨k2, congrArg (fun z => A.ar .add .i64 n (A.ar .shr .i64 32768 z)) k3⟩)).2
    · refine OK.back (hBk _ _ (_, _) (by cbv; repeat (first | exact WkH.nil _ | apply WkH.gone | refine WkH.eq rfl ?_)) (by cbv; repeat (first | apply WkL.any | exact WkL.nil _ | refine WkL.eq rfl ?_ | refine WkL.bool rfl ?_)) (by cbv; exact ⟨rfl⟩) ?_ ?_)
      all_goals
        have k0 : ¬ A.get 0 ls i < 0 := by subst hA; rename_i a b; exact of_decide_eq_false a
        have k1 : ¬ 15 < A.get 0 ls i := by subst hA; rename_i a b; exact of_decide_eq_false b
        have k2 : ¬ 0 < A.get 0 ls i := by subst hA; exact of_decide_eq_false h
      · exact (hat.next hA hl k0 k1 _ (.inr ⟨k2, rfl⟩)).1
      · exact (hat.next hA hl k0 k1 _ (.inr ⟨k2, rfl⟩)).2
  · repeat' (first
      | refine OK.drawn (by decide +kernel) ?_
      | refine OK.tree ⟨lookT tis, fun _ => true⟩ (by decide +kernel) ?_
      | refine OK.both ?_ ?_
      | refine OK.need (by first | assumption | (rw [hA]; first | (show (_ : Int) ≠ _; decide) | (show (0 : Int) ≤ _; decide) | (show (0 : Int) ≤ _ ∧ _ < (256 : Int); decide))) ?_
      | refine OK.need ?_ ?_
      | (refine OK.branch ?_ ?_ <;> intro h)
      | (refine F.hold hA 2000 ?_; cbv))
    refine F.retE rfl ⟨_, _, rfl, rfl, .inl ⟨rfl, ?_⟩⟩
    obtain ⟨j, e1, e2, e3, e4⟩ := hI
    simp only at e2 e3
    have hj : j = ls.length := by
      subst hA
      have : ¬ i < (ls.length : Int) := of_decide_eq_false h1
      omega
    rw [hj, List.take_length] at e3 e4
    exact ⟨hl, e4, e3⟩
end Go.L1

-- H5
namespace Go.L1
open Go Go.Sx Go.Proofs Go.Huff
set_option linter.unusedVariables false
set_option linter.unusedSimpArgs false
/-- The bits of a code, the first one first. -/
def rbits (l c : Nat) : List UInt8 := (List.range l).map fun k => UInt8.ofNat (c / 2 ^ (l - 1 - k) % 2)
/-- The rows when the lengths below l are done, and of l the symbols below j. -/
def rowN (ls : List Int) (l j : Nat) : List (Option (List UInt8)) := (List.range ls.length).map fun s => if 0 < len ls s ∧ (len ls s < l ∨ len ls s = l ∧ s < j) then some (rbits (len ls s) (code ls s)) else none
def O3Inv (l c : Nat) (w : Int × List UInt8) : Prop := ∃ k : Nat, k ≤ l ∧ w.1 = (l : Int) - 1 - k ∧ w.2 = (List.range k).map fun k => UInt8.ofNat (c / 2 ^ (l - 1 - k) % 2)
structure O3At (A : Leaf) (l c : Nat) (cd k : Int) (xs : List UInt8) : Prop where
  q0 : A.nn (A.conv .u64 k)
  q4 : A.isB (A.conv .u8 (A.ar .and .i64 (A.ar .shr .i64 cd (A.conv .u64 k)) 1))
  q3 : A.small (A.len (A.app xs [A.i2b (A.conv .u8 (A.ar .and .i64 (A.ar .shr .i64 cd (A.conv .u64 k)) 1))])) 1
  nx : O3Inv l c (A.ar .sub .i64 k 1, A.app xs [A.i2b (A.conv .u8 (A.ar .and .i64 (A.ar .shr .i64 cd (A.conv .u64 k)) 1))])
  mu : (A.ar .sub .i64 k 1 + 1).toNat < (k + 1).toNat
theorem o3At {A : Leaf} {l c : Nat} {cd k : Int} {xs : List UInt8} (hA : A = .std) (hl : l ≤ 15) (hc : cd = c) (hc2 : c < 2 ^ 15) (h : O3Inv l c (k, xs)) (h1 : A.cmp .geq k 0 = true) : O3At A l c cd k xs := by
  obtain ⟨j, hj, hk, hx⟩ := h
  simp only at hk hx
  subst hA
  have h1 : (0 : Int) ≤ k := of_decide_eq_true h1
  have e1 : Leaf.std.conv .u64 k = k := l_conv_u64 h1 (by omega)
  have e2 : Leaf.std.ar .shr .i64 cd k = ((c / 2 ^ (l - 1 - j) : Nat) : Int) := by
    show LAr .shr .i64 cd k = _
    rw [l_shr_i64 h1 (by omega), hc, show k.toNat = l - 1 - j from by omega]
    simp
  have e3 : Leaf.std.ar .and .i64 ((c / 2 ^ (l - 1 - j) : Nat) : Int) 1 = ((c / 2 ^ (l - 1 - j) % 2 : Nat) : Int) := by
    show LAr .and .i64 _ 1 = _
    rw [l_and1_i64]; simp
  have hm : c / 2 ^ (l - 1 - j) % 2 < 2 := Nat.mod_lt _ (by decide)
  have e4 : Leaf.std.conv .u8 ((c / 2 ^ (l - 1 - j) % 2 : Nat) : Int) = ((c / 2 ^ (l - 1 - j) % 2 : Nat) : Int) := l_conv_u8 (by omega) (by omega)
  have e5 : Leaf.std.conv .u8 (Leaf.std.ar .and .i64 (Leaf.std.ar .shr .i64 cd (Leaf.std.conv .u64 k)) 1) = ((c / 2 ^ (l - 1 - j) % 2 : Nat) : Int) := by rw [e1, e2, e3, e4]
  have e6 : Leaf.std.ar .sub .i64 k 1 = k - 1 := sub_i64 (by omega) (by omega)
  have hxl : xs.length = j := by rw [hx]; simp
  have eb : Leaf.std.i2b (Leaf.std.conv .u8 (Leaf.std.ar .and .i64 (Leaf.std.ar .shr .i64 cd (Leaf.std.conv .u64 k)) 1)) = UInt8.ofNat (c / 2 ^ (l - 1 - j) % 2) := by
    rw [e5]; show UInt8.ofNat ((c / 2 ^ (l - 1 - j) % 2 : Nat) : Int).toNat = _; rw [Int.toNat_natCast]
  refine ⟨by rw [e1]; exact h1, ?_, ?_, ⟨j + 1, by omega, by rw [e6]; simp only; omega, ?_⟩, by rw [e6]; omega⟩
  · rw [e5]; show (0 : Int) ≤ _ ∧ _ < (256 : Int); omega
  · have e : Leaf.std.len (Leaf.std.app xs [Leaf.std.i2b (Leaf.std.conv .u8 (Leaf.std.ar .and .i64 (Leaf.std.ar .shr .i64 cd (Leaf.std.conv .u64 k)) 1))]) = ((j + 1 : Nat) : Int) := by
      show (((xs ++ [_]).length : Nat) : Int) = _
      rw [List.length_append, List.length_singleton, hxl]
    rw [e]
    show (0 : Int) ≤ _ ∧ _ ≤ (140737488355328 : Int) ∧ _ * ((1 : Nat) : Int) ≤ (140737488355328 : Int)
    omega
  · show xs ++ [Leaf.std.i2b _] = _
    rw [eb, hx, List.range_succ, List.map_append, List.map_cons, List.map_nil]
theorem O3Inv.zero (l c : Nat) : O3Inv l c ((l : Int) - 1, []) := ⟨0, Nat.zero_le _, by simp, rfl⟩
theorem O3Inv.fin {l c : Nat} {k : Int} {xs : List UInt8} {A : Leaf} (hA : A = .std) (h : O3Inv l c (k, xs)) (h1 : A.cmp .geq k 0 = false) : xs = rbits l c := by
  obtain ⟨j, hj, hk, hx⟩ := h
  simp only at hk hx
  subst hA
  have h1 : ¬ (0 : Int) ≤ k := of_decide_eq_false h1
  have : j = l := by omega
  subst this
  exact hx
theorem rowN_len (ls : List Int) (l j : Nat) : (rowN ls l j).length = ls.length := by simp [rowN]
theorem rowN_get {ls : List Int} (l j : Nat) {s : Nat} (hs : s < ls.length) : (rowN ls l j)[s]'(by rw [rowN_len]; exact hs) = if 0 < len ls s ∧ (len ls s < l ∨ len ls s = l ∧ s < j) then some (rbits (len ls s) (code ls s)) else none := by simp [rowN]
theorem rowN_end (ls : List Int) (l : Nat) : rowN ls l ls.length = rowN ls (l + 1) 0 := by
  apply List.ext_getElem
  · simp [rowN_len]
  · intro s h1 h2
    have hs : s < ls.length := by rwa [rowN_len] at h1
    rw [rowN_get _ _ hs, rowN_get _ _ hs]
    have : (0 < len ls s ∧ (len ls s < l ∨ len ls s = l ∧ s < ls.length)) ↔ (0 < len ls s ∧ (len ls s < l + 1 ∨ len ls s = l + 1 ∧ s < 0)) := by omega
    simp only [this]
theorem rowN_skip {ls : List Int} {l j : Nat} (hj : j < ls.length) (h : len ls j ≠ l) : rowN ls l (j + 1) = rowN ls l j := by
  apply List.ext_getElem
  · simp [rowN_len]
  · intro s h1 h2
    have hs : s < ls.length := by rwa [rowN_len] at h1
    rw [rowN_get _ _ hs, rowN_get _ _ hs]
    have : (0 < len ls s ∧ (len ls s < l ∨ len ls s = l ∧ s < j + 1)) ↔ (0 < len ls s ∧ (len ls s < l ∨ len ls s = l ∧ s < j)) := by
      by_cases e : s = j
      · subst e; omega
      · omega
    simp only [this]
theorem rowN_set {ls : List Int} {l j : Nat} (hj : j < ls.length) (h0 : 0 < l) (h : len ls j = l) : (rowN ls l j).set j (some (rbits l (code ls j))) = rowN ls l (j + 1) := by
  apply List.ext_getElem
  · simp [rowN_len]
  · intro s h1 h2
    have hs : s < ls.length := by rw [rowN_len] at h2; exact h2
    rw [List.getElem_set]
    by_cases e : j = s
    · subst e
      rw [if_pos rfl, rowN_get l (j + 1) hs, if_pos (by omega), h]
    · rw [if_neg e, rowN_get l j hs, rowN_get l (j + 1) hs]
      have : (0 < len ls s ∧ (len ls s < l ∨ len ls s = l ∧ s < j)) ↔ (0 < len ls s ∧ (len ls s < l ∨ len ls s = l ∧ s < j + 1)) := by omega
      simp only [this]
theorem rowN_none {ls : List Int} {l j : Nat} (hj : j < ls.length) (h : len ls j = l) : (rowN ls l j).getD j none = none := by
  have hl : j < (rowN ls l j).length := by rw [rowN_len]; exact hj
  rw [List.getD_eq_getElem?_getD, List.getElem?_eq_getElem hl, rowN_get _ _ hj, if_neg (by omega)]
  rfl
theorem rowN_zero (ls : List Int) : rowN ls 1 0 = List.replicate ls.length none := by
  apply List.ext_getElem
  · simp [rowN_len]
  · intro s h1 h2
    have hs : s < ls.length := by rw [rowN_len] at h1; exact h1
    rw [rowN_get _ _ hs, if_neg (by omega)]
    simp
def O1Inv (ls : List Int) (w : Int × Int × List (Option (List UInt8))) : Prop := ∃ l : Nat, l ≤ 15 ∧ w.1 = (fst ls l + cnt ls l : Nat) ∧ w.2.1 = (l + 1 : Nat) ∧ w.2.2 = rowN ls (l + 1) 0
def O2Inv (ls : List Int) (l : Int) (w : Int × Int × List (Option (List UInt8))) : Prop := ∃ j : Nat, j ≤ ls.length ∧ w.1 = (fst ls l.toNat + (ls.take j).count l : Nat) ∧ w.2.1 = j ∧ w.2.2 = rowN ls l.toNat j
structure RdyR (ls : List Int) : Prop where
  le : ls.length ≤ 320
  b : InB ls
  r : roomN ls ≤ 32768
theorem O1Inv.zero (ls : List Int) : O1Inv ls (0, 1, List.replicate ls.length none) := ⟨0, by decide, rfl, rfl, (rowN_zero ls).symm⟩
theorem O1Inv.o2 {A : Leaf} {ls : List Int} {cd l : Int} {rows : List (Option (List UInt8))} (hA : A = .std) (hR : RdyR ls) (h : O1Inv ls (cd, l, rows)) (h1 : A.cmp .leq l 15 = true) : O2Inv ls l (A.ar .mul .i64 cd 2, 0, rows) := by
  obtain ⟨L, hL, e1, e2, e3⟩ := h
  simp only at e1 e2 e3
  subst hA
  have h1 : l ≤ 15 := of_decide_eq_true h1
  have hk := kraft hR.b hR.r hL
  have hp : 2 ^ L ≤ 2 ^ 15 := Nat.pow_le_pow_right (by decide) hL
  have el : l.toNat = L + 1 := by omega
  refine ⟨0, Nat.zero_le _, ?_, rfl, ?_⟩
  · show Leaf.std.ar .mul .i64 cd 2 = _
    have em : Leaf.std.ar .mul .i64 cd 2 = cd * 2 := mul_i64 (by omega) (by omega)
    rw [em, e1, el, List.take_zero, List.count_nil, fst]
    omega
  · show rows = _
    rw [e3, el]
theorem O2Inv.o1 {A : Leaf} {ls : List Int} {cd cd2 l j : Int} {rows rows2 : List (Option (List UInt8))} (hA : A = .std) (hR : RdyR ls) (h : O1Inv ls (cd, l, rows)) (h1 : A.cmp .leq l 15 = true) (h2 : O2Inv ls l (cd2, j, rows2)) (h3 : A.cmp .lss j (A.len ls) = false) :
    O1Inv ls (cd2, A.ar .add .i64 l 1, rows2) ∧ (16 - A.ar .add .i64 l 1).toNat < (16 - l).toNat := by
  obtain ⟨L, hL, _, e2, _⟩ := h
  obtain ⟨J, hJ, k1, k2, k3⟩ := h2
  simp only at e2 k1 k2 k3
  subst hA
  have h1 : l ≤ 15 := of_decide_eq_true h1
  have h3 : ¬ j < (ls.length : Int) := of_decide_eq_false h3
  have hJ2 : J = ls.length := by omega
  subst hJ2
  have el : l.toNat = L + 1 := by omega
  have ea : Leaf.std.ar .add .i64 l 1 = l + 1 := add_i64 (by omega) (by omega)
  refine ⟨⟨L + 1, by omega, ?_, by rw [ea]; simp only; omega, ?_⟩, by rw [ea]; omega⟩
  · show cd2 = _
    rw [k1, el, List.take_length]
    unfold cnt
    rw [if_neg (by omega), e2]
  · show rows2 = _
    rw [k3, el, rowN_end]
structure LIn (l : Int) : Prop where
  lo : 1 ≤ l
  hi : l ≤ 15
theorem O1Inv.lin {A : Leaf} {ls : List Int} {cd l : Int} {rows : List (Option (List UInt8))} (hA : A = .std) (h : O1Inv ls (cd, l, rows)) (h1 : A.cmp .leq l 15 = true) : LIn l := by
  obtain ⟨L, hL, e1, e2, e3⟩ := h
  simp only at e2
  subst hA
  have h1 : l ≤ 15 := of_decide_eq_true h1
  exact ⟨by omega, h1⟩
structure O2At (A : Leaf) (ls : List Int) (l cd j : Int) (rows : List (Option (List UInt8))) : Prop where
  q1 : A.inb j (A.len ls)
  q5 : A.inb j (A.len rows)
  skip : A.cmp .neq (A.get 0 ls j) l = true → O2Inv ls l (cd, A.ar .add .i64 j 1, rows)
  mu : (ls.length - A.ar .add .i64 j 1).toNat < (ls.length - j).toNat
  set : A.cmp .neq (A.get 0 ls j) l = false → (0 ≤ j ∧ j < rows.length ∧ A.get none rows j = none ∧ cd = cd.toNat ∧ cd.toNat < 2 ^ 15 ∧
    ∀ xs, xs = rbits l.toNat cd.toNat → O2Inv ls l (A.ar .add .i64 cd 1, A.ar .add .i64 j 1, A.set rows j (some xs)))
theorem O2Inv.at_ {A : Leaf} {ls : List Int} {cd l j : Int} {rows : List (Option (List UInt8))} (hA : A = .std) (hR : RdyR ls) (hl : LIn l) (h : O2Inv ls l (cd, j, rows)) (h1 : A.cmp .lss j (A.len ls) = true) : O2At A ls l cd j rows := by
  obtain ⟨J, hJ, k1, k2, k3⟩ := h
  simp only at k1 k2 k3
  obtain ⟨l1, l2⟩ := hl
  subst hA
  have h1 : j < (ls.length : Int) := of_decide_eq_true h1
  have hJ : J < ls.length := by omega
  have hn := hR.le
  have ea : Leaf.std.ar .add .i64 j 1 = ((J + 1 : Nat) : Int) := by rw [k2, add_i64 (by omega) (by omega)]; omega
  have eg : Leaf.std.get 0 ls j = ls[J] := by show ls.getD j.toNat 0 = _; rw [k2, Int.toNat_natCast]; simp [hJ]
  have eD : ls.getD J 0 = ls[J] := by simp [hJ]
  have hrl : rows.length = ls.length := by rw [k3, rowN_len]
  have ht : ls.take (J + 1) = ls.take J ++ [ls[J]] := List.take_succ_eq_append_getElem hJ
  refine ⟨?_, ?_, fun hne => ?_, by rw [ea]; omega, fun he => ?_⟩
  · show (0 : Int) ≤ j ∧ j < (ls.length : Int); omega
  · show (0 : Int) ≤ j ∧ j < (rows.length : Int); omega
  · rw [eg] at hne
    have hne : (!(ls[J] == l)) = true := hne
    have hne : ls[J] ≠ l := by simpa using hne
    refine ⟨J + 1, by omega, ?_, by rw [ea], ?_⟩
    · show cd = _
      rw [k1, ht, List.count_append, List.count_singleton, if_neg (by simpa using hne)]
      omega
    · show rows = _
      rw [k3, rowN_skip hJ]
      unfold len; rw [eD]
      have := hR.b _ (List.getElem_mem hJ)
      omega
  · rw [eg] at he
    have he : (!(ls[J] == l)) = false := he
    have he : ls[J] = l := by simpa using he
    have hlen : len ls J = l.toNat := by unfold len; rw [eD, he]
    have hcode : cd = (code ls J : Nat) := by
      rw [k1]; unfold code rank; rw [hlen, eD, he]
    have hcl := code_lt hR.b hR.r hJ (by omega)
    have hp : 2 ^ len ls J ≤ 2 ^ 15 := Nat.pow_le_pow_right (by decide) (by omega)
    refine ⟨by omega, by omega, ?_, by omega, by omega, fun xs hx => ⟨J + 1, by omega, ?_, by rw [ea], ?_⟩⟩
    · show rows.getD j.toNat none = none
      rw [k2, Int.toNat_natCast, k3, rowN_none hJ hlen]
    · show Leaf.std.ar .add .i64 cd 1 = _
      have e2 : Leaf.std.ar .add .i64 cd 1 = cd + 1 := add_i64 (by omega) (by omega)
      rw [e2, k1, ht, List.count_append, List.count_singleton, if_pos (by simpa using he)]
      omega
    · show rows.set j.toNat (some xs) = _
      rw [k2, Int.toNat_natCast, k3, hx, ← rowN_set hJ (by omega) hlen, show cd.toNat = code ls J from by omega]
end Go.L1

-- C2
namespace Go.L1
open Go Go.Sx Go.Proofs Go.Huff
set_option maxRecDepth 20000
set_option linter.unusedVariables false
set_option linter.unusedSimpArgs false
def mp (rows : List (Option (List UInt8))) : List (List UInt8) := rows.map fun o => o.getD []
/-- What the document's New tells. -/
def RefNewIs (ls : List Int) (rs : List (SV T1)) (H : List (Ch T1)) : Prop :=
  (∃ e, rs = [.val (.pointer none), .int .i64 e] ∧ H = [] ∧ ((e = 11 ∧ ¬ (ls.length ≤ 320 ∧ InB ls)) ∨ (e = 10 ∧ (ls.length ≤ 320 ∧ InB ls) ∧ 32768 < roomN ls))) ∨
  (∃ rows : List (List UInt8), rs = [.ptr 1 0, .int .i64 0] ∧ H = [.gone, .cells 41 [.ro (.recs 4 rows), .int .i64 (roomN ls)]] ∧ RdyR ls ∧ rows = mp (rowN ls 16 0))
theorem holeNil {A : Leaf} (hA : A = .std) {rows : List (Option (List UInt8))} {j : Int} (h : A.get none rows j = none) : (Row.recs 3 rows : Row T1).get C1 .std j = [.val (.slice none 0 0)] := by
  subst hA
  show enc1 3 (Leaf.std.get none rows j) = _
  exact congrArg (fun o : Option (List UInt8) => enc1 3 o) h
theorem LIn.n {l : Int} (h : LIn l) : l.toNat ≤ 15 := by obtain ⟨a, b⟩ := h; omega
theorem o3z {A : Leaf} (hA : A = .std) {l : Int} (h : LIn l) (c : Nat) : O3Inv l.toNat c (A.ar .sub .i64 l 1, []) := by
  obtain ⟨a, b⟩ := h
  subst hA
  have e : Leaf.std.ar .sub .i64 l 1 = (l.toNat : Int) - 1 := by
    have := sub_i64 (a := l) (b := 1) (by omega) (by omega)
    rw [this]; omega
  rw [e]
  exact O3Inv.zero _ _
theorem cl_len {A : Leaf} (hA : A = .std) {rows : List (Option (List UInt8))} {j : Int} {o : Option (List UInt8)} : (Row.recs 3 (A.set rows j o) : Row T1).length = (Row.recs 3 rows : Row T1).length := by
  subst hA
  show (rows.set j.toNat o).length = rows.length
  simp
theorem cl_cells {A : Leaf} (hA : A = .std) {rows : List (Option (List UInt8))} {j : Int} {o : Option (List UInt8)} : ∀ k e, k ≠ j.toNat → (Row.recs 3 (A.set rows j o) : Row T1).cells C1 k = some e → (Row.recs 3 rows : Row T1).cells C1 k = some e := by
  subst hA
  intro k e hk h
  have h : ((rows.set j.toNat o)[k]?).map (enc1 3) = some e := h
  rw [List.getElem?_set_ne (Ne.symm hk)] at h
  exact h
theorem cl_at {A : Leaf} (hA : A = .std) {rows : List (Option (List UInt8))} {j : Int} {xs : List UInt8} (g1 : 0 ≤ j) (g2 : j < rows.length) : ∀ e, (Row.recs 3 (A.set rows j (some xs)) : Row T1).cells C1 j.toNat = some e → e = [.ro (.bytes xs)] := by
  subst hA
  intro e h
  have h : ((rows.set j.toNat (some xs))[j.toNat]?).map (enc1 3) = some e := h
  rw [List.getElem?_set_self (by omega)] at h
  have h : enc1 3 (some xs) = e := Option.some.inj h
  exact h.symm
theorem mp_len (rows : List (Option (List UInt8))) : (Row.recs 4 (mp rows) : Row T1).length = (Row.recs 3 rows : Row T1).length := by
  show (mp rows).length = rows.length
  simp [mp]
theorem mp_cells (M : Mem) (rows : List (Option (List UInt8))) : ∀ k e', (Row.recs 4 (mp rows) : Row T1).cells C1 k = some e' → ∃ e, (Row.recs 3 rows : Row T1).cells C1 k = some e ∧ ∀ vs, Den C1 M e vs → Den C1 M e' vs := by
  intro k e' h
  have h : ((mp rows)[k]?).map (enc1 4) = some e' := h
  obtain ⟨b, hb, rfl⟩ := Option.map_eq_some_iff.1 h
  have hb2 : @Eq (Option (List UInt8)) ((rows.map fun o : Option (List UInt8) => o.getD [])[k]?) (some b) := hb
  rw [List.getElem?_map] at hb2
  obtain ⟨o, ho, hob⟩ := Option.map_eq_some_iff.1 hb2
  have hob : b = (o.getD [] : List UInt8) := hob.symm
  subst hob
  refine ⟨enc1 3 o, ?_, fun vs hv => ?_⟩
  · show (rows[k]?).map (enc1 3) = _
    rw [ho]; rfl
  · cases o with
    | some b => exact hv
    | none =>
      have hv : Den C1 M [.val (.slice none 0 0)] vs := hv
      cases hv with
      | val _ _ h =>
        cases h
        exact zcell_ok (s := .ro (.bytes [])) (v := .slice none 0 0) rfl M .nil
theorem mk_small {A : Leaf} (hA : A = .std) {ls : List Int} {n : Int} {ok : Bool} (hr : RoomIs ls n ok) (h : A.bnot ok = false) : A.small (A.len ls) 24 := by
  subst hA
  rcases hr with ⟨_, h1, _⟩ | ⟨rfl, _⟩
  · show (0 : Int) ≤ (ls.length : Int) ∧ (ls.length : Int) ≤ (140737488355328 : Int) ∧ (ls.length : Int) * ((24 : Nat) : Int) ≤ (140737488355328 : Int)
    omega
  · cases h
theorem mk_slb {A : Leaf} (hA : A = .std) (ls : List Int) : A.slb 0 (A.len ls) (A.len ls) := by
  subst hA
  show (0 : Int) ≤ 0 ∧ (0 : Int) ≤ (ls.length : Int) ∧ (ls.length : Int) ≤ (ls.length : Int)
  omega
theorem rdyR {A : Leaf} (hA : A = .std) {ls : List Int} {n : Int} {ok : Bool} (hr : RoomIs ls n ok) (h : A.bnot ok = false) (h2 : A.cmp .gtr n 32768 = false) : RdyR ls ∧ n = roomN ls := by
  subst hA
  have h2 : ¬ (32768 : Int) < n := of_decide_eq_false h2
  rcases hr with ⟨_, h1, h3, h4⟩ | ⟨rfl, _⟩
  · exact ⟨⟨h1, h3, by omega⟩, h4⟩
  · cases h
theorem O1Inv.end_ {A : Leaf} (hA : A = .std) {ls : List Int} {cd l : Int} {rows : List (Option (List UInt8))} (h : O1Inv ls (cd, l, rows)) (h1 : A.cmp .leq l 15 = false) : rows = rowN ls 16 0 := by
  obtain ⟨L, hL, e1, e2, e3⟩ := h
  simp only at e2 e3
  subst hA
  have h1 : ¬ l ≤ 15 := of_decide_eq_false h1
  have : L = 15 := by omega
  subst this
  exact e3
set_option maxHeartbeats 4000000 in
theorem refnew_ok (ls : List Int) : FOK Try.prog C1 20 (fun _ => false) [.ro (.ints .i64 ls)] []
    (RefNewIs ls) := by
  refine fok_of (B := ⟨lookT tis, fun _ => false⟩) (tab1 _) (zero1 _) cod1 mix1 Try.func20 (by kernel_rfl) rfl rfl rfl fun X F => ?_
  obtain ⟨A, hA⟩ : ∃ A, A = Leaf.std := ⟨_, rfl⟩
  refine F.hold hA 2000 ?_
  cbv
  repeat' (first
    | refine OK.drawn (by decide +kernel) ?_
    | refine OK.tree ⟨lookT tis, fun _ => true⟩ (by decide +kernel) ?_
    | refine OK.both ?_ ?_
    | refine OK.need (by first | assumption | (rw [hA]; first | (show (_ : Int) ≠ _; decide) | (show (0 : Int) ≤ _; decide) | (show (0 : Int) ≤ _ ∧ _ < (256 : Int); decide))) ?_
    | refine OK.need ?_ ?_
    | (refine OK.branch ?_ ?_ <;> intro h)
    | (refine F.hold hA 2000 ?_; cbv))
  refine F.call [] (refroom_ok ls) rfl rfl rfl fun rs H' hq => ?_
  obtain ⟨n, ok, rfl, rfl, hr⟩ := hq
  refine ⟨rfl, ?_⟩
  repeat' (first
    | refine OK.drawn (by decide +kernel) ?_
    | refine OK.tree ⟨lookT tis, fun _ => true⟩ (by decide +kernel) ?_
    | refine OK.both ?_ ?_
    | refine OK.need (by first | assumption | (rw [hA]; first | (show (_ : Int) ≠ _; decide) | (show (0 : Int) ≤ _; decide) | (show (0 : Int) ≤ _ ∧ _ < (256 : Int); decide))) ?_
    | refine OK.need ?_ ?_
    | (refine OK.branch ?_ ?_ <;> intro h)
    | (refine F.hold hA 2000 ?_; cbv))
  · refine F.ret0 (.inl ⟨_, rfl, rfl, .inl ⟨rfl, ?_⟩⟩)
    rcases hr with ⟨rfl, _⟩ | ⟨_, hr, _⟩
    · subst hA; cases h
    · exact hr
  · refine F.ret0 (.inl ⟨_, rfl, rfl, .inr ⟨rfl, ?_⟩⟩)
    subst hA
    have h : (32768 : Int) < n := of_decide_eq_true h
    rcases hr with ⟨_, h1, h2, h3⟩ | ⟨rfl, _⟩
    · exact ⟨⟨h1, h2⟩, by omega⟩
    · have h0 := ‹Leaf.std.bnot false = false›; cases h0
  · exact mk_small hA hr ‹A.bnot ok = false›
  · exact mk_slb hA _
  · exact mk_slb hA _
  obtain ⟨hR, hn⟩ := rdyR hA hr ‹A.bnot ok = false› ‹A.cmp .gtr n 32768 = false›
  refine F.loop (V := Int × Int × List (Option (List UInt8))) [0, 4, 6] (O1Inv ls) (fun w => (16 - w.2.1).toNat) (fun w => [(7, .int .i64 w.1), (8, .int .i64 w.2.1)]) (fun w => [(0, .row 38 (.recs 3 w.2.2))]) (_, _, _) (by cbv; repeat (first | exact WkH.nil _ | apply WkH.gone | refine WkH.eq rfl ?_)) (by cbv; repeat (first | apply WkL.any | exact WkL.nil _ | refine WkL.eq rfl ?_ | refine WkL.bool rfl ?_)) (by cbv; exact ⟨rfl⟩) ?_ ?_
  · subst hA; exact O1Inv.zero ls
  rintro ⟨cd, l, rows⟩ hI BkO hBkO
  repeat (first
    | refine OK.drawn (by decide +kernel) ?_
    | refine OK.tree ⟨lookT tis, fun _ => true⟩ (by decide +kernel) ?_
    | refine OK.need (by first | assumption | (rw [hA]; first | (show (_ : Int) ≠ _; decide) | (show (0 : Int) ≤ _; decide) | (show (0 : Int) ≤ _ ∧ _ < (256 : Int); decide))) ?_
    | (refine F.hold hA 2000 ?_; cbv))
  refine OK.branch (fun b1 => ?_) (fun b1 => ?_)
  · have hlin := hI.lin hA b1
    repeat (first
      | refine OK.drawn (by decide +kernel) ?_
      | refine OK.tree ⟨lookT tis, fun _ => true⟩ (by decide +kernel) ?_
      | refine OK.need (by first | assumption | (rw [hA]; first | (show (_ : Int) ≠ _; decide) | (show (0 : Int) ≤ _; decide) | (show (0 : Int) ≤ _ ∧ _ < (256 : Int); decide))) ?_
      | (refine F.hold hA 2000 ?_; cbv))
    refine F.loop (V := Int × Int × List (Option (List UInt8))) [0, 4, 6, 8] (O2Inv ls l) (fun w => (ls.length - w.2.1).toNat) (fun w => [(7, .int .i64 w.1), (9, .int .i64 w.2.1)]) (fun w => [(0, .row 38 (.recs 3 w.2.2))]) (_, _, _) (by cbv; repeat (first | exact WkH.nil _ | apply WkH.gone | refine WkH.eq rfl ?_)) (by cbv; repeat (first | apply WkL.any | exact WkL.nil _ | refine WkL.eq rfl ?_ | refine WkL.bool rfl ?_)) (by cbv; exact ⟨rfl⟩) ?_ ?_
    · exact hI.o2 hA hR b1
    rintro ⟨cd2, j, rows2⟩ hI2 Bk hBk
    repeat (first
      | refine OK.drawn (by decide +kernel) ?_
      | refine OK.tree ⟨lookT tis, fun _ => true⟩ (by decide +kernel) ?_
      | refine OK.need (by first | assumption | (rw [hA]; first | (show (_ : Int) ≠ _; decide) | (show (0 : Int) ≤ _; decide) | (show (0 : Int) ≤ _ ∧ _ < (256 : Int); decide))) ?_
      | (refine F.hold hA 2000 ?_; cbv))
    refine OK.branch (fun b2 => ?_) (fun b2 => ?_)
    · have h2 := hI2.at_ hA hR hlin b2
      have q1 := h2.q1
      repeat (first
        | refine OK.drawn (by decide +kernel) ?_
        | refine OK.tree ⟨lookT tis, fun _ => true⟩ (by decide +kernel) ?_
        | refine OK.need (by first | assumption | (rw [hA]; first | (show (_ : Int) ≠ _; decide) | (show (0 : Int) ≤ _; decide) | (show (0 : Int) ≤ _ ∧ _ < (256 : Int); decide))) ?_
        | (refine F.hold hA 2000 ?_; cbv))
      refine OK.branch (fun b3 => ?_) (fun b3 => ?_)
      · repeat' (first
          | refine OK.drawn (by decide +kernel) ?_
          | refine OK.tree ⟨lookT tis, fun _ => true⟩ (by decide +kernel) ?_
          | refine OK.both ?_ ?_
          | refine OK.need (by first | assumption | (rw [hA]; first | (show (_ : Int) ≠ _; decide) | (show (0 : Int) ≤ _; decide) | (show (0 : Int) ≤ _ ∧ _ < (256 : Int); decide))) ?_
          | refine OK.need ?_ ?_
          | (refine OK.branch ?_ ?_ <;> intro h)
          | (refine F.hold hA 2000 ?_; cbv))
        refine OK.back (hBk _ _ (_, _, _) (by cbv; repeat (first | exact WkH.nil _ | apply WkH.gone | refine WkH.eq rfl ?_)) (by cbv; repeat (first | apply WkL.any | exact WkL.nil _ | refine WkL.eq rfl ?_ | refine WkL.bool rfl ?_)) (by cbv; exact ⟨rfl⟩) ?_ ?_)
        · exact h2.skip b3
        · exact h2.mu
      · obtain ⟨g1, g2, g3, g4, g5, g6⟩ := h2.set b3
        refine F.open 0 j rfl rfl ⟨g1, g2⟩ (s := .val (.slice none 0 0)) (holeNil hA g3) ?_
        refine F.adoptHole 0 5 (ek := .byte) rfl rfl ?_
        repeat (first
          | refine OK.drawn (by decide +kernel) ?_
          | refine OK.tree ⟨lookT tis, fun _ => true⟩ (by decide +kernel) ?_
          | refine OK.need (by first | assumption | (rw [hA]; first | (show (_ : Int) ≠ _; decide) | (show (0 : Int) ≤ _; decide) | (show (0 : Int) ≤ _ ∧ _ < (256 : Int); decide))) ?_
          | (refine F.hold hA 2000 ?_; cbv))
        refine F.loop (V := Int × List UInt8) [0, 4, 6, 7, 8, 9] (O3Inv l.toNat cd2.toNat) (fun w => (w.1 + 1).toNat) (fun w => [(10, .int .i64 w.1)]) (fun w => [(0, .hole 38 (.recs 3 rows2) j (.own 2)), (2, .row 5 (.bytes w.2))]) (_, _) (by cbv; repeat (first | exact WkH.nil _ | apply WkH.gone | refine WkH.eq rfl ?_)) (by cbv; repeat (first | apply WkL.any | exact WkL.nil _ | refine WkL.eq rfl ?_ | refine WkL.bool rfl ?_)) (by cbv; exact ⟨rfl⟩) ?_ ?_
        · exact o3z hA hlin _
        rintro ⟨k, xs⟩ hI3 Bk3 hBk3
        repeat (first
          | refine OK.drawn (by decide +kernel) ?_
          | refine OK.tree ⟨lookT tis, fun _ => true⟩ (by decide +kernel) ?_
          | refine OK.need (by first | assumption | (rw [hA]; first | (show (_ : Int) ≠ _; decide) | (show (0 : Int) ≤ _; decide) | (show (0 : Int) ≤ _ ∧ _ < (256 : Int); decide))) ?_
          | (refine F.hold hA 2000 ?_; cbv))
        refine OK.branch (fun b4 => ?_) (fun b4 => ?_)
        · have h3 := o3At hA hlin.n g4 g5 hI3 b4
          have q0 := h3.q0
          have q3 := h3.q3
          have q4 := h3.q4
          have q5 := h2.q5
          have hBk := hBk3
          repeat' (first
            | contradiction
            | exact trivial
            | refine OK.drawn (by decide +kernel) ?_
            | refine OK.tree ⟨lookT tis, fun _ => true⟩ (by decide +kernel) ?_
            | refine OK.both ?_ ?_
            | refine OK.need (by first | assumption | (rw [hA]; first | (show (_ : Int) ≠ _; decide) | (show (0 : Int) ≤ _; decide) | (show (0 : Int) ≤ _ ∧ _ < (256 : Int); decide))) ?_
            | refine OK.need ?_ ?_
            | (refine OK.branch ?_ ?_ <;> intro h)
            | (refine F.hold hA 2000 ?_; cbv))
          all_goals
            refine OK.back (hBk _ _ (_, _) (by cbv; repeat (first | exact WkH.nil _ | apply WkH.gone | refine WkH.eq rfl ?_)) (by cbv; repeat (first | apply WkL.any | exact WkL.nil _ | refine WkL.eq rfl ?_ | refine WkL.bool rfl ?_)) (by cbv; exact ⟨rfl⟩) ?_ ?_)
            · exact h3.nx
            · exact h3.mu
        · refine F.frz 2 rfl ?_
          refine F.close 0 (.recs 3 (A.set rows2 j (some xs))) rfl (cl_len hA) rfl (cl_cells hA) (cl_at hA g1 g2) ?_
          repeat (first
            | refine OK.drawn (by decide +kernel) ?_
            | refine OK.tree ⟨lookT tis, fun _ => true⟩ (by decide +kernel) ?_
            | refine OK.need (by first | assumption | (rw [hA]; first | (show (_ : Int) ≠ _; decide) | (show (0 : Int) ≤ _; decide) | (show (0 : Int) ≤ _ ∧ _ < (256 : Int); decide))) ?_
            | (refine F.hold hA 2000 ?_; cbv))
          refine OK.back (hBk _ _ (_, _, _) (by cbv; repeat (first | exact WkH.nil _ | apply WkH.gone | refine WkH.eq rfl ?_)) (by cbv; repeat (first | apply WkL.any | exact WkL.nil _ | refine WkL.eq rfl ?_ | refine WkL.bool rfl ?_)) (by cbv; exact ⟨rfl⟩) ?_ ?_)
          · exact g6 _ (hI3.fin hA b4)
          · exact h2.mu
    · clear hBk
      have hBk := hBkO
      repeat' (first
        | refine OK.drawn (by decide +kernel) ?_
        | refine OK.tree ⟨lookT tis, fun _ => true⟩ (by decide +kernel) ?_
        | refine OK.both ?_ ?_
        | refine OK.need (by first | assumption | (rw [hA]; first | (show (_ : Int) ≠ _; decide) | (show (0 : Int) ≤ _; decide) | (show (0 : Int) ≤ _ ∧ _ < (256 : Int); decide))) ?_
        | refine OK.need ?_ ?_
        | (refine OK.branch ?_ ?_ <;> intro h)
        | (refine F.hold hA 2000 ?_; cbv))
      refine OK.back (hBk _ _ (_, _, _) (by cbv; repeat (first | exact WkH.nil _ | apply WkH.gone | refine WkH.eq rfl ?_)) (by cbv; repeat (first | apply WkL.any | exact WkL.nil _ | refine WkL.eq rfl ?_ | refine WkL.bool rfl ?_)) (by cbv; exact ⟨rfl⟩) ?_ ?_)
      · exact (O2Inv.o1 hA hR hI b1 hI2 b2).1
      · exact (O2Inv.o1 hA hR hI b1 hI2 b2).2
  · repeat' (first
      | refine OK.drawn (by decide +kernel) ?_
      | refine OK.tree ⟨lookT tis, fun _ => true⟩ (by decide +kernel) ?_
      | refine OK.both ?_ ?_
      | refine OK.need (by first | assumption | (rw [hA]; first | (show (_ : Int) ≠ _; decide) | (show (0 : Int) ≤ _; decide) | (show (0 : Int) ≤ _ ∧ _ < (256 : Int); decide))) ?_
      | refine OK.need ?_ ?_
      | (refine OK.branch ?_ ?_ <;> intro h)
      | (refine F.hold hA 2000 ?_; cbv))
    refine F.ret (rs' := [.ptr 1 0, .int .i64 0]) (H' := [.gone, .cells 41 [.ro (.recs 4 (mp rows)), .int .i64 n]]) ((Cv.chunk (c := 0) (y := .row 38 (.recs 4 (mp rows))) rfl rfl rfl fun M hm => ChOK.map (mp_len rows) (by rw [F.C]; rfl) (by rw [F.C]; exact mp_cells M rows) hm).trans (Cv.freeze F.cod 0 rfl)) rfl ?_
    exact .inr ⟨_, rfl, by rw [hn], hR, by rw [O1Inv.end_ hA hI b1]⟩
end Go.L1
