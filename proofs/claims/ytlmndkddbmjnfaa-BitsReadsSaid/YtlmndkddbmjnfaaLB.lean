/- Own work of the session: part LB of a proof that the program's functions do what the statement says (a symbolic executor, contracts of the functions, plain laws). -/
import Derived.Test.YtlmndkddbmjnfaaLA
import Derived.Test.YtlmndkddbmjnfaaSxB
import Derived.Test.YtlmndkddbmjnfaaRows
import Derived.WalkKit
import Derived.ProofKit
import Derived.OpenShut
import Derived.ShutString
import Derived.ChangeOld
import Derived.SizedLaws
set_option linter.all false
-- A28
namespace Go.L1
open Go Go.Sx Go.Proofs
set_option maxRecDepth 20000
set_option linter.unusedVariables false
set_option linter.unusedSimpArgs false
/-- A call, as data may have it. -/
def ClIn (x : Cl) : Prop := (0 ≤ x.v ∧ x.v ≤ 4294967295) ∧ x.b.length ≤ 4611686018427387904
def ClsIn (calls : List Cl) : Prop := ∀ x ∈ calls, ClIn x
structure WrI (calls : List Cl) (j : Nat) (last m : Int) (xs l : List UInt8) : Prop where
  le : j ≤ calls.length
  w : WR l last m xs
  len : l.length ≤ 39 * j + 8 * sumB (calls.take j)
  c : calls.length ≤ 100
  s : sumB calls ≤ 2000
def WrInv (calls : List Cl) (w : Int × Int × Int × List UInt8 × List UInt8) : Prop := ∃ j : Nat, w.1 = j ∧ WrI calls j w.2.1 w.2.2.1 w.2.2.2.1 w.2.2.2.2
def WrT (calls : List Cl) (i l1 m1 : Int) (ys l : List UInt8) : Prop := ∃ j : Nat, i = j ∧ j < calls.length ∧ WrI calls (j + 1) l1 m1 ys l
structure WrAt (calls : List Cl) (i last m : Int) (xs l : List UInt8) (c : Cl) : Prop where
  w : WR l last m xs
  sm : SmallL l
  arg : PutArg c.v c.v.toNat l
  raw : SmallR c.b
  sm2 : l.length ≤ 100000000
  nx : ∀ l1 m1 ys l', WR l' l1 m1 ys → l'.length ≤ l.length + 39 + 8 * c.b.length → WrT calls i l1 m1 ys l'
theorem WrI.at {A : Leaf} {calls : List Cl} {i last m : Int} {xs l : List UInt8} (hA : A = .std) (hok : ClsIn calls) (h : WrInv calls (i, last, m, xs, l)) (hi : A.cmp .lss i (A.len calls) = true) :
    WrAt calls i last m xs l (A.get ⟨0, 0, 0, []⟩ calls i) := by
  subst hA
  obtain ⟨j, e, ⟨h1, h2, h3, h4, h5⟩⟩ := h
  simp only at e h1 h2 h3
  subst e
  have hj : j < calls.length := by simpa [Leaf.std] using hi
  have hg : Leaf.std.get (⟨0, 0, 0, []⟩ : Cl) calls j = calls[j] := by
    show calls.getD (j : Int).toNat _ = _
    rw [Int.toNat_natCast, List.getD_eq_getElem?_getD, List.getElem?_eq_getElem hj]; rfl
  rw [hg]
  obtain ⟨⟨k1, k2⟩, k3⟩ := hok _ (List.getElem_mem hj)
  have hsum := sumB_snoc (calls.take j) calls[j]
  rw [← List.take_succ_eq_append_getElem hj] at hsum
  have hle : sumB (calls.take (j + 1)) ≤ sumB calls := by
    have : sumB calls = sumB (calls.take (j + 1)) + sumB (calls.drop (j + 1)) := by
      conv => lhs; rw [← List.take_append_drop (j + 1) calls]
      unfold sumB
      rw [List.map_append, List.sum_append]
    omega
  refine ⟨h2, by unfold SmallL; omega, ⟨by omega, by omega, by omega⟩, by unfold SmallR; omega, by omega, fun l1 m1 ys l' q1 q2 => ⟨j, rfl, hj, by omega, q1, by omega, h4, h5⟩⟩
theorem WrT.w {calls : List Cl} {i l1 m1 : Int} {ys l : List UInt8} (h : WrT calls i l1 m1 ys l) : WR l l1 m1 ys := by obtain ⟨j, _, _, h⟩ := h; exact h.w
theorem WR.bits {l1 m1 : Int} {ys l : List UInt8} (h : WR l l1 m1 ys) : Bits01 l := by obtain ⟨⟨a, b, _, _, h⟩, _⟩ := h; exact h.b
theorem WrT.inv {calls : List Cl} {i l1 m1 : Int} {ys l : List UInt8} (h : WrT calls i l1 m1 ys l) : WrInv calls (LAr .add .i64 i 1, l1, m1, ys, l) ∧ (calls.length - LAr .add .i64 i 1).toNat < (calls.length - i).toNat := by
  obtain ⟨j, rfl, hj, h⟩ := h
  have := h.c
  rw [l_add_i64 (by omega) (by omega)]
  exact ⟨⟨j + 1, by simp, h⟩, by omega⟩
theorem OutIs.len {l ys : List UInt8} (h : OutIs l ys) : ys.length = (l.length + 7) / 8 := by unfold OutIs at h; rw [h, bytesOf_length]
theorem putBits_bad {n : Int} {v : Nat} (h : BadN n) : putBits n v = [] := if_neg h
theorem WrT.bad {calls : List Cl} {i l1 m1 : Int} {ys l : List UInt8} {n : Int} {v : Nat} (h : WrT calls i l1 m1 ys (l ++ putBits n v)) (hn : BadN n) : WrT calls i l1 m1 ys l := by
  rw [putBits_bad hn, List.append_nil] at h; exact h
theorem WrT.good {calls : List Cl} {i l1 m1 : Int} {ys l zs : List UInt8} {n : Int} {v : Nat} (h : WrT calls i l1 m1 ys (l ++ putBits n v)) (hn : 0 ≤ n ∧ n ≤ 32) (hz : zs = l ++ bitsOf n.toNat v) : WrT calls i l1 m1 ys zs := by
  have e : putBits n v = bitsOf n.toNat v := if_pos hn
  rw [e, ← hz] at h; exact h
theorem LenIs.dif {l : List UInt8} {r : Int} (hl : LenIs l r) {A : Leaf} (hA : A = .std) (h : A.cmp .neq r (A.len l) = true) : False := by
  unfold LenIs at hl
  subst hA
  rw [hl] at h
  simp [Leaf.std] at h
theorem OutIs.dif {l ys zs : List UInt8} (h : OutIs l ys) (h2 : zs = bytesOf ((l.length + 7) / 8) (valBits l)) {r : Bool} (hs : SameRes ys zs r) : r = true := by
  unfold OutIs at h
  exact hs.2 (h.trans h2.symm)
theorem WR.le {l1 m1 : Int} {ys l : List UInt8} (h : WR l l1 m1 ys) : l.length ≤ 1000000000 := h.len
theorem WrT.eq {calls : List Cl} {i l1 m1 : Int} {ys l zs : List UInt8} (h : WrT calls i l1 m1 ys l) (hz : zs = l) : WrT calls i l1 m1 ys zs := by rw [hz]; exact h
theorem WrAt.sm10 {calls : List Cl} {i l1 m1 : Int} {ys l : List UInt8} {c : Cl} (h : WrAt calls i l1 m1 ys l c) : l.length ≤ 100000000 := h.sm2
theorem OutIs.le {l ys : List UInt8} (h : OutIs l ys) {l1 m1 : Int} {xs : List UInt8} (w : WR l l1 m1 xs) : ys.length ≤ 100000000000 := by
  have := w.len
  rw [h.len]; omega
theorem writes_ok (calls : List Cl) (v n : Int) (hok : ClsIn calls) (hs : SmallB calls) (hv : RevPre v n v.toNat) : FOK Try.prog C1 3 (fun _ => false) [.ro (.recs 0 calls), .int .u32 v, .int .i64 n] [] Yes := by
  refine fok_of (B := ⟨lookT tis, fun _ => false⟩) (tab1 _) (zero1 _) cod1 mix1 Try.func3 (by kernel_rfl) rfl rfl rfl fun X F => ?_
  obtain ⟨A, hA⟩ : ∃ A, A = Leaf.std := ⟨_, rfl⟩
  refine F.hold hA 2000 ?_
  cbv
  repeat' (first
    | refine OK.drawn (by decide +kernel) ?_
    | refine OK.tree ⟨fun _ => ⟨.other, 0, 0, .no⟩, fun _ => true⟩ (by decide +kernel) ?_
    | refine OK.both ?_ ?_
    | refine OK.need (by first | assumption | (rw [hA]; first | (show (_ : Int) ≠ _; decide) | (show (0 : Int) ≤ _; decide) | (show (0 : Int) ≤ _ ∧ _ < (256 : Int); decide))) ?_
    | refine OK.need ?_ ?_
    | (refine OK.branch ?_ ?_ <;> intro h)
    | (refine F.hold hA 2000 ?_; cbv))
  refine F.call [] (alive_ok) rfl rfl rfl fun rs H' hq => ?_
  obtain ⟨b, rfl, rfl, rfl⟩ := hq
  refine ⟨rfl, ?_⟩
  repeat' (first
    | refine OK.drawn (by decide +kernel) ?_
    | refine OK.tree ⟨fun _ => ⟨.other, 0, 0, .no⟩, fun _ => true⟩ (by decide +kernel) ?_
    | refine OK.both ?_ ?_
    | refine OK.need (by first | assumption | (rw [hA]; first | (show (_ : Int) ≠ _; decide) | (show (0 : Int) ≤ _; decide) | (show (0 : Int) ≤ _ ∧ _ < (256 : Int); decide))) ?_
    | refine OK.need ?_ ?_
    | (refine OK.branch ?_ ?_ <;> intro h)
    | (refine F.hold hA 2000 ?_; cbv))
  · exfalso; subst hA; cases h
  refine F.call [] (great_nil calls hs) rfl rfl rfl fun rs H' hq => ?_
  obtain ⟨b, rfl, rfl, hg⟩ := hq
  refine ⟨rfl, ?_⟩
  repeat' (first
    | refine OK.drawn (by decide +kernel) ?_
    | refine OK.tree ⟨fun _ => ⟨.other, 0, 0, .no⟩, fun _ => true⟩ (by decide +kernel) ?_
    | refine OK.both ?_ ?_
    | refine OK.need (by first | assumption | (rw [hA]; first | (show (_ : Int) ≠ _; decide) | (show (0 : Int) ≤ _; decide) | (show (0 : Int) ≤ _ ∧ _ < (256 : Int); decide))) ?_
    | refine OK.need ?_ ?_
    | (refine OK.branch ?_ ?_ <;> intro h)
    | (refine F.hold hA 2000 ?_; cbv))
  · exact F.ret0 ⟨_, rfl, rfl⟩
  have hg := hg h
  have hg : Nat.le calls.length 100 ∧ Nat.le (sumB calls) 2000 := hg
  refine F.call [] (newWriter_ok) rfl rfl rfl fun rs H' hq => ?_
  obtain ⟨rfl, rfl⟩ := hq
  refine ⟨rfl, ?_⟩
  repeat' (first
    | refine OK.drawn (by decide +kernel) ?_
    | refine OK.tree ⟨fun _ => ⟨.other, 0, 0, .no⟩, fun _ => true⟩ (by decide +kernel) ?_
    | refine OK.both ?_ ?_
    | refine OK.need (by first | assumption | (rw [hA]; first | (show (_ : Int) ≠ _; decide) | (show (0 : Int) ≤ _; decide) | (show (0 : Int) ≤ _ ∧ _ < (256 : Int); decide))) ?_
    | refine OK.need ?_ ?_
    | (refine OK.branch ?_ ?_ <;> intro h)
    | (refine F.hold hA 2000 ?_; cbv))
  refine OK.loopCv (Cv.adoptIn F.cod 2 0 5 (ek := .byte) rfl rfl rfl) ?_
  refine F.loop (V := Int × Int × Int × List UInt8 × List UInt8) [0, 1, 2, 7, 8] (WrInv calls) (fun w => (calls.length - w.1).toNat) (fun w => [(9, .int .i64 w.1)]) (fun w => [(0, .cells 59 [.own 1, .int .u64 w.2.1, .int .i64 w.2.2.1]), (1, .row 5 (.bytes w.2.2.2.1)), (3, .row 5 (.bytes w.2.2.2.2))]) (_, _, _, _, _) (by cbv; repeat (first | exact WkH.nil _ | apply WkH.gone | refine WkH.eq rfl ?_)) (by cbv; repeat (first | apply WkL.any | exact WkL.nil _ | refine WkL.eq rfl ?_)) (by cbv; exact ⟨rfl⟩) ?_ ?_
  · exact ⟨0, rfl, Nat.zero_le _, WR.nil, Nat.zero_le _, hg.1, hg.2⟩
  rintro ⟨i, last, m, xs, l⟩ hI Bk hBk
  refine F.hold hA 2000 ?_
  cbv
  refine OK.branch (fun h1 => ?_) (fun h1 => ?_)
  · have hat := WrI.at hA hok hI h1
    repeat' (first
      | refine OK.drawn (by decide +kernel) ?_
      | refine OK.tree ⟨fun _ => ⟨.other, 0, 0, .no⟩, fun _ => true⟩ (by decide +kernel) ?_
      | refine OK.both ?_ ?_
      | refine OK.need (by first | assumption | (rw [hA]; first | (show (_ : Int) ≠ _; decide) | (show (0 : Int) ≤ _; decide) | (show (0 : Int) ≤ _ ∧ _ < (256 : Int); decide))) ?_
      | refine OK.need ?_ ?_
      | (refine OK.branch ?_ ?_ <;> intro h)
      | (refine F.hold hA 2000 ?_; cbv))
    · obtain ⟨j, hj, _⟩ := hI
      simp only at hj
      try clear hBk
      try clear F
      rw [std_eq] at hA; subst hA
      try simp (disch := omega) only [lf, decide_eq_true_eq, decide_eq_false_iff_not, Int.not_lt, Int.not_le, Bool.not_eq_true', Bool.not_eq_false', Bool.not_true, Bool.not_false, gt_iff_lt, ge_iff_le, Int.toNat_natCast, Bool.true_eq_false, Bool.false_eq_true, beq_iff_eq, Bool.not_eq_eq_eq_not, ne_eq, lT_len, lT_get] at *
      try simp (disch := omega) only [lf, decide_eq_true_eq, decide_eq_false_iff_not, Int.not_lt, Int.not_le, Bool.not_eq_true', Bool.not_eq_false', Bool.not_true, Bool.not_false, gt_iff_lt, ge_iff_le, Int.toNat_natCast, Bool.true_eq_false, Bool.false_eq_true, beq_iff_eq, Bool.not_eq_eq_eq_not, ne_eq, lT_len, lT_get] at *
      omega
    · refine F.call [0, 1] (putW _ _ _ _ _ _ _ hat.w hat.arg) rfl rfl rfl fun rs H' hq => ?_
      obtain ⟨l1, m1, ys, rfl, rfl, hw⟩ := hq
      refine ⟨rfl, ?_⟩
      have hT := hat.nx _ _ _ _ hw (by rw [List.length_append]; exact Nat.le_trans (Nat.add_le_add_left (putBits_len _ _) _) (by omega))
      refine F.hold hA 2000 ?_
      cbv
      refine OK.branch (fun h2 => ?_) (fun h2 => ?_)
      refine F.hold hA 2000 ?_
      cbv
      refine OK.branch (fun h3 => ?_) (fun h3 => ?_)
      · have hn : 0 ≤ (A.get ⟨0, 0, 0, []⟩ calls i).n ∧ (A.get ⟨0, 0, 0, []⟩ calls i).n ≤ 32 := by
          subst hA
          exact ⟨of_decide_eq_true h2, of_decide_eq_true h3⟩
        refine F.hold hA 2000 ?_
        cbv
        refine F.call [2, 3] (refPut_ok _ _ (A.get ⟨0, 0, 0, []⟩ calls i).n.toNat (A.get ⟨0, 0, 0, []⟩ calls i).v.toNat l ⟨(Int.toNat_of_nonneg hn.1).symm, hat.arg.v', (by omega), hat.arg.v, hat.w.le⟩) rfl rfl rfl fun rs H' hq => ?_
        obtain ⟨zs, rfl, rfl, hz⟩ := hq
        refine ⟨rfl, ?_⟩
        replace hT := hT.good hn hz
        repeat' (first
          | refine OK.drawn (by decide +kernel) ?_
          | refine OK.tree ⟨fun _ => ⟨.other, 0, 0, .no⟩, fun _ => true⟩ (by decide +kernel) ?_
          | refine OK.both ?_ ?_
          | refine OK.need (by first | assumption | (rw [hA]; first | (show (_ : Int) ≠ _; decide) | (show (0 : Int) ≤ _; decide) | (show (0 : Int) ≤ _ ∧ _ < (256 : Int); decide))) ?_
          | refine OK.need ?_ ?_
          | (refine OK.branch ?_ ?_ <;> intro h)
          | (refine F.hold hA 2000 ?_; cbv))
        all_goals
          refine F.call [0, 1] (lenW _ _ _ _ hT.w) rfl rfl rfl fun rs H' hq => ?_
          obtain ⟨r, rfl, rfl, hlen⟩ := hq
          refine ⟨rfl, ?_⟩
          refine F.hold hA 2000 ?_
          cbv
          refine OK.branch (fun h9 => ?_) (fun h9 => ?_)
          · exact (LenIs.dif hlen hA h9).elim
          refine F.hold hA 2000 ?_
          cbv
          refine F.call [0, 1] (outW _ _ _ _ hT.w) rfl rfl rfl fun rs H' hq => ?_
          obtain ⟨os, rfl, rfl, hos⟩ := hq
          refine ⟨rfl, ?_⟩
          refine F.hold hA 2000 ?_
          cbv
          refine F.call [2, 3] (refOut_ok _ hT.w.le hT.w.bits) rfl rfl rfl fun rs H' hq => ?_
          obtain ⟨ps, rfl, rfl, hps⟩ := hq
          refine ⟨rfl, ?_⟩
          refine F.hold hA 2000 ?_
          cbv
          refine F.callFrz 5 rfl rfl rfl rfl ?_
          refine F.callFrz 6 rfl rfl rfl rfl ?_
          refine F.call [] (same_ok _ _ (hos.le hT.w)) rfl rfl rfl fun rs H' hq => ?_
          obtain ⟨s, rfl, rfl, hs⟩ := hq
          refine ⟨rfl, ?_⟩
          obtain rfl := hos.dif hps hs
          repeat' (first
            | refine OK.drawn (by decide +kernel) ?_
            | refine OK.tree ⟨fun _ => ⟨.other, 0, 0, .no⟩, fun _ => true⟩ (by decide +kernel) ?_
            | refine OK.both ?_ ?_
            | refine OK.need (by first | assumption | (rw [hA]; first | (show (_ : Int) ≠ _; decide) | (show (0 : Int) ≤ _; decide) | (show (0 : Int) ≤ _ ∧ _ < (256 : Int); decide))) ?_
            | refine OK.need ?_ ?_
            | (refine OK.branch ?_ ?_ <;> intro h)
            | (refine F.hold hA 2000 ?_; cbv))
          any_goals (first | (exfalso; cases h; done) | (exfalso; subst hA; revert h; decide))
          refine OK.back (hBk _ _ (_, _, _, _, _) (by cbv; repeat (first | exact WkH.nil _ | apply WkH.gone | refine WkH.eq rfl ?_)) (by cbv; repeat (first | apply WkL.any | exact WkL.nil _ | refine WkL.eq rfl ?_)) (by cbv; exact ⟨rfl⟩) ?_ ?_)
          · subst hA
            exact hT.inv.1
          · subst hA
            exact hT.inv.2
      · have hn : BadN (A.get ⟨0, 0, 0, []⟩ calls i).n := by
          subst hA
          exact fun hh => of_decide_eq_false h3 hh.2
        replace hT := hT.bad hn
        repeat' (first
          | refine OK.drawn (by decide +kernel) ?_
          | refine OK.tree ⟨fun _ => ⟨.other, 0, 0, .no⟩, fun _ => true⟩ (by decide +kernel) ?_
          | refine OK.both ?_ ?_
          | refine OK.need (by first | assumption | (rw [hA]; first | (show (_ : Int) ≠ _; decide) | (show (0 : Int) ≤ _; decide) | (show (0 : Int) ≤ _ ∧ _ < (256 : Int); decide))) ?_
          | refine OK.need ?_ ?_
          | (refine OK.branch ?_ ?_ <;> intro h)
          | (refine F.hold hA 2000 ?_; cbv))
        all_goals
          refine F.call [0, 1] (lenW _ _ _ _ hT.w) rfl rfl rfl fun rs H' hq => ?_
          obtain ⟨r, rfl, rfl, hlen⟩ := hq
          refine ⟨rfl, ?_⟩
          refine F.hold hA 2000 ?_
          cbv
          refine OK.branch (fun h9 => ?_) (fun h9 => ?_)
          · exact (LenIs.dif hlen hA h9).elim
          refine F.hold hA 2000 ?_
          cbv
          refine F.call [0, 1] (outW _ _ _ _ hT.w) rfl rfl rfl fun rs H' hq => ?_
          obtain ⟨os, rfl, rfl, hos⟩ := hq
          refine ⟨rfl, ?_⟩
          refine F.hold hA 2000 ?_
          cbv
          refine F.call [2, 3] (refOut_ok _ hT.w.le hT.w.bits) rfl rfl rfl fun rs H' hq => ?_
          obtain ⟨ps, rfl, rfl, hps⟩ := hq
          refine ⟨rfl, ?_⟩
          refine F.hold hA 2000 ?_
          cbv
          refine F.callFrz 5 rfl rfl rfl rfl ?_
          refine F.callFrz 6 rfl rfl rfl rfl ?_
          refine F.call [] (same_ok _ _ (hos.le hT.w)) rfl rfl rfl fun rs H' hq => ?_
          obtain ⟨s, rfl, rfl, hs⟩ := hq
          refine ⟨rfl, ?_⟩
          obtain rfl := hos.dif hps hs
          repeat' (first
            | refine OK.drawn (by decide +kernel) ?_
            | refine OK.tree ⟨fun _ => ⟨.other, 0, 0, .no⟩, fun _ => true⟩ (by decide +kernel) ?_
            | refine OK.both ?_ ?_
            | refine OK.need (by first | assumption | (rw [hA]; first | (show (_ : Int) ≠ _; decide) | (show (0 : Int) ≤ _; decide) | (show (0 : Int) ≤ _ ∧ _ < (256 : Int); decide))) ?_
            | refine OK.need ?_ ?_
            | (refine OK.branch ?_ ?_ <;> intro h)
            | (refine F.hold hA 2000 ?_; cbv))
          any_goals (first | (exfalso; cases h; done) | (exfalso; subst hA; revert h; decide))
          refine OK.back (hBk _ _ (_, _, _, _, _) (by cbv; repeat (first | exact WkH.nil _ | apply WkH.gone | refine WkH.eq rfl ?_)) (by cbv; repeat (first | apply WkL.any | exact WkL.nil _ | refine WkL.eq rfl ?_)) (by cbv; exact ⟨rfl⟩) ?_ ?_)
          · subst hA
            exact hT.inv.1
          · subst hA
            exact hT.inv.2
      · have hn : BadN (A.get ⟨0, 0, 0, []⟩ calls i).n := by
          subst hA
          exact fun hh => of_decide_eq_false h2 hh.1
        replace hT := hT.bad hn
        repeat' (first
          | refine OK.drawn (by decide +kernel) ?_
          | refine OK.tree ⟨fun _ => ⟨.other, 0, 0, .no⟩, fun _ => true⟩ (by decide +kernel) ?_
          | refine OK.both ?_ ?_
          | refine OK.need (by first | assumption | (rw [hA]; first | (show (_ : Int) ≠ _; decide) | (show (0 : Int) ≤ _; decide) | (show (0 : Int) ≤ _ ∧ _ < (256 : Int); decide))) ?_
          | refine OK.need ?_ ?_
          | (refine OK.branch ?_ ?_ <;> intro h)
          | (refine F.hold hA 2000 ?_; cbv))
        all_goals
          refine F.call [0, 1] (lenW _ _ _ _ hT.w) rfl rfl rfl fun rs H' hq => ?_
          obtain ⟨r, rfl, rfl, hlen⟩ := hq
          refine ⟨rfl, ?_⟩
          refine F.hold hA 2000 ?_
          cbv
          refine OK.branch (fun h9 => ?_) (fun h9 => ?_)
          · exact (LenIs.dif hlen hA h9).elim
          refine F.hold hA 2000 ?_
          cbv
          refine F.call [0, 1] (outW _ _ _ _ hT.w) rfl rfl rfl fun rs H' hq => ?_
          obtain ⟨os, rfl, rfl, hos⟩ := hq
          refine ⟨rfl, ?_⟩
          refine F.hold hA 2000 ?_
          cbv
          refine F.call [2, 3] (refOut_ok _ hT.w.le hT.w.bits) rfl rfl rfl fun rs H' hq => ?_
          obtain ⟨ps, rfl, rfl, hps⟩ := hq
          refine ⟨rfl, ?_⟩
          refine F.hold hA 2000 ?_
          cbv
          refine F.callFrz 5 rfl rfl rfl rfl ?_
          refine F.callFrz 6 rfl rfl rfl rfl ?_
          refine F.call [] (same_ok _ _ (hos.le hT.w)) rfl rfl rfl fun rs H' hq => ?_
          obtain ⟨s, rfl, rfl, hs⟩ := hq
          refine ⟨rfl, ?_⟩
          obtain rfl := hos.dif hps hs
          repeat' (first
            | refine OK.drawn (by decide +kernel) ?_
            | refine OK.tree ⟨fun _ => ⟨.other, 0, 0, .no⟩, fun _ => true⟩ (by decide +kernel) ?_
            | refine OK.both ?_ ?_
            | refine OK.need (by first | assumption | (rw [hA]; first | (show (_ : Int) ≠ _; decide) | (show (0 : Int) ≤ _; decide) | (show (0 : Int) ≤ _ ∧ _ < (256 : Int); decide))) ?_
            | refine OK.need ?_ ?_
            | (refine OK.branch ?_ ?_ <;> intro h)
            | (refine F.hold hA 2000 ?_; cbv))
          any_goals (first | (exfalso; cases h; done) | (exfalso; subst hA; revert h; decide))
          refine OK.back (hBk _ _ (_, _, _, _, _) (by cbv; repeat (first | exact WkH.nil _ | apply WkH.gone | refine WkH.eq rfl ?_)) (by cbv; repeat (first | apply WkL.any | exact WkL.nil _ | refine WkL.eq rfl ?_)) (by cbv; exact ⟨rfl⟩) ?_ ?_)
          · subst hA
            exact hT.inv.1
          · subst hA
            exact hT.inv.2
    · refine F.call [0, 1] (alignW _ _ _ _ hat.w hat.sm) rfl rfl rfl fun rs H' hq => ?_
      obtain ⟨l1, m1, ys, rfl, rfl, hw⟩ := hq
      refine ⟨rfl, ?_⟩
      have hbl := padOf_lt l.length
      have hT := hat.nx _ _ _ _ hw (by rw [List.length_append, List.length_replicate]; omega)
      refine F.hold hA 2000 ?_
      cbv
      refine F.call [2, 3] (refAlign_ok l (Nat.le_trans hat.sm (by decide))) rfl rfl rfl fun rs H' hq => ?_
      obtain ⟨zs, rfl, rfl, hz⟩ := hq
      refine ⟨rfl, ?_⟩
      rw [← hz] at hT
      repeat' (first
        | refine OK.drawn (by decide +kernel) ?_
        | refine OK.tree ⟨fun _ => ⟨.other, 0, 0, .no⟩, fun _ => true⟩ (by decide +kernel) ?_
        | refine OK.both ?_ ?_
        | refine OK.need (by first | assumption | (rw [hA]; first | (show (_ : Int) ≠ _; decide) | (show (0 : Int) ≤ _; decide) | (show (0 : Int) ≤ _ ∧ _ < (256 : Int); decide))) ?_
        | refine OK.need ?_ ?_
        | (refine OK.branch ?_ ?_ <;> intro h)
        | (refine F.hold hA 2000 ?_; cbv))
      all_goals
        refine F.call [0, 1] (lenW _ _ _ _ hT.w) rfl rfl rfl fun rs H' hq => ?_
        obtain ⟨r, rfl, rfl, hlen⟩ := hq
        refine ⟨rfl, ?_⟩
        refine F.hold hA 2000 ?_
        cbv
        refine OK.branch (fun h9 => ?_) (fun h9 => ?_)
        · exact (LenIs.dif hlen hA h9).elim
        refine F.hold hA 2000 ?_
        cbv
        refine F.call [0, 1] (outW _ _ _ _ hT.w) rfl rfl rfl fun rs H' hq => ?_
        obtain ⟨os, rfl, rfl, hos⟩ := hq
        refine ⟨rfl, ?_⟩
        refine F.hold hA 2000 ?_
        cbv
        refine F.call [2, 3] (refOut_ok _ hT.w.le hT.w.bits) rfl rfl rfl fun rs H' hq => ?_
        obtain ⟨ps, rfl, rfl, hps⟩ := hq
        refine ⟨rfl, ?_⟩
        refine F.hold hA 2000 ?_
        cbv
        refine F.callFrz 5 rfl rfl rfl rfl ?_
        refine F.callFrz 6 rfl rfl rfl rfl ?_
        refine F.call [] (same_ok _ _ (hos.le hT.w)) rfl rfl rfl fun rs H' hq => ?_
        obtain ⟨s, rfl, rfl, hs⟩ := hq
        refine ⟨rfl, ?_⟩
        obtain rfl := hos.dif hps hs
        repeat' (first
          | refine OK.drawn (by decide +kernel) ?_
          | refine OK.tree ⟨fun _ => ⟨.other, 0, 0, .no⟩, fun _ => true⟩ (by decide +kernel) ?_
          | refine OK.both ?_ ?_
          | refine OK.need (by first | assumption | (rw [hA]; first | (show (_ : Int) ≠ _; decide) | (show (0 : Int) ≤ _; decide) | (show (0 : Int) ≤ _ ∧ _ < (256 : Int); decide))) ?_
          | refine OK.need ?_ ?_
          | (refine OK.branch ?_ ?_ <;> intro h)
          | (refine F.hold hA 2000 ?_; cbv))
        any_goals (first | (exfalso; cases h; done) | (exfalso; subst hA; revert h; decide))
        refine OK.back (hBk _ _ (_, _, _, _, _) (by cbv; repeat (first | exact WkH.nil _ | apply WkH.gone | refine WkH.eq rfl ?_)) (by cbv; repeat (first | apply WkL.any | exact WkL.nil _ | refine WkL.eq rfl ?_)) (by cbv; exact ⟨rfl⟩) ?_ ?_)
        · subst hA
          exact hT.inv.1
        · subst hA
          exact hT.inv.2
    · refine F.call [0, 1] (rawW _ _ _ _ _ hat.w hat.sm hat.raw) rfl rfl rfl fun rs H' hq => ?_
      obtain ⟨l1, m1, ys, rfl, rfl, hw⟩ := hq
      refine ⟨rfl, ?_⟩
      have hbl := padOf_lt l.length
      have hT := hat.nx _ _ _ _ hw (by rw [List.length_append, List.length_append, List.length_replicate, bytesBits_length]; omega)
      refine F.hold hA 2000 ?_
      cbv
      refine F.call [2, 3] (refRaw_ok l _ hat.sm10 hat.raw) rfl rfl rfl fun rs H' hq => ?_
      obtain ⟨zs, rfl, rfl, hz⟩ := hq
      refine ⟨rfl, ?_⟩
      replace hT := hT.eq hz
      repeat' (first
        | refine OK.drawn (by decide +kernel) ?_
        | refine OK.tree ⟨fun _ => ⟨.other, 0, 0, .no⟩, fun _ => true⟩ (by decide +kernel) ?_
        | refine OK.both ?_ ?_
        | refine OK.need (by first | assumption | (rw [hA]; first | (show (_ : Int) ≠ _; decide) | (show (0 : Int) ≤ _; decide) | (show (0 : Int) ≤ _ ∧ _ < (256 : Int); decide))) ?_
        | refine OK.need ?_ ?_
        | (refine OK.branch ?_ ?_ <;> intro h)
        | (refine F.hold hA 2000 ?_; cbv))
      all_goals
        refine F.call [0, 1] (lenW _ _ _ _ hT.w) rfl rfl rfl fun rs H' hq => ?_
        obtain ⟨r, rfl, rfl, hlen⟩ := hq
        refine ⟨rfl, ?_⟩
        refine F.hold hA 2000 ?_
        cbv
        refine OK.branch (fun h9 => ?_) (fun h9 => ?_)
        · exact (LenIs.dif hlen hA h9).elim
        refine F.hold hA 2000 ?_
        cbv
        refine F.call [0, 1] (outW _ _ _ _ hT.w) rfl rfl rfl fun rs H' hq => ?_
        obtain ⟨os, rfl, rfl, hos⟩ := hq
        refine ⟨rfl, ?_⟩
        refine F.hold hA 2000 ?_
        cbv
        refine F.call [2, 3] (refOut_ok _ hT.w.le hT.w.bits) rfl rfl rfl fun rs H' hq => ?_
        obtain ⟨ps, rfl, rfl, hps⟩ := hq
        refine ⟨rfl, ?_⟩
        refine F.hold hA 2000 ?_
        cbv
        refine F.callFrz 5 rfl rfl rfl rfl ?_
        refine F.callFrz 6 rfl rfl rfl rfl ?_
        refine F.call [] (same_ok _ _ (hos.le hT.w)) rfl rfl rfl fun rs H' hq => ?_
        obtain ⟨s, rfl, rfl, hs⟩ := hq
        refine ⟨rfl, ?_⟩
        obtain rfl := hos.dif hps hs
        repeat' (first
          | refine OK.drawn (by decide +kernel) ?_
          | refine OK.tree ⟨fun _ => ⟨.other, 0, 0, .no⟩, fun _ => true⟩ (by decide +kernel) ?_
          | refine OK.both ?_ ?_
          | refine OK.need (by first | assumption | (rw [hA]; first | (show (_ : Int) ≠ _; decide) | (show (0 : Int) ≤ _; decide) | (show (0 : Int) ≤ _ ∧ _ < (256 : Int); decide))) ?_
          | refine OK.need ?_ ?_
          | (refine OK.branch ?_ ?_ <;> intro h)
          | (refine F.hold hA 2000 ?_; cbv))
        any_goals (first | (exfalso; cases h; done) | (exfalso; subst hA; revert h; decide))
        refine OK.back (hBk _ _ (_, _, _, _, _) (by cbv; repeat (first | exact WkH.nil _ | apply WkH.gone | refine WkH.eq rfl ?_)) (by cbv; repeat (first | apply WkL.any | exact WkL.nil _ | refine WkL.eq rfl ?_)) (by cbv; exact ⟨rfl⟩) ?_ ?_)
        · subst hA
          exact hT.inv.1
        · subst hA
          exact hT.inv.2
    all_goals
      have hT := hat.nx _ _ _ _ hat.w (by omega)
      repeat' (first
        | refine OK.drawn (by decide +kernel) ?_
        | refine OK.tree ⟨fun _ => ⟨.other, 0, 0, .no⟩, fun _ => true⟩ (by decide +kernel) ?_
        | refine OK.both ?_ ?_
        | refine OK.need (by first | assumption | (rw [hA]; first | (show (_ : Int) ≠ _; decide) | (show (0 : Int) ≤ _; decide) | (show (0 : Int) ≤ _ ∧ _ < (256 : Int); decide))) ?_
        | refine OK.need ?_ ?_
        | (refine OK.branch ?_ ?_ <;> intro h)
        | (refine F.hold hA 2000 ?_; cbv))
      all_goals
        refine F.call [0, 1] (lenW _ _ _ _ hT.w) rfl rfl rfl fun rs H' hq => ?_
        obtain ⟨r, rfl, rfl, hlen⟩ := hq
        refine ⟨rfl, ?_⟩
        refine F.hold hA 2000 ?_
        cbv
        refine OK.branch (fun h9 => ?_) (fun h9 => ?_)
        · exact (LenIs.dif hlen hA h9).elim
        refine F.hold hA 2000 ?_
        cbv
        refine F.call [0, 1] (outW _ _ _ _ hT.w) rfl rfl rfl fun rs H' hq => ?_
        obtain ⟨os, rfl, rfl, hos⟩ := hq
        refine ⟨rfl, ?_⟩
        refine F.hold hA 2000 ?_
        cbv
        refine F.call [2, 3] (refOut_ok _ hT.w.le hT.w.bits) rfl rfl rfl fun rs H' hq => ?_
        obtain ⟨ps, rfl, rfl, hps⟩ := hq
        refine ⟨rfl, ?_⟩
        refine F.hold hA 2000 ?_
        cbv
        refine F.callFrz 5 rfl rfl rfl rfl ?_
        refine F.callFrz 6 rfl rfl rfl rfl ?_
        refine F.call [] (same_ok _ _ (hos.le hT.w)) rfl rfl rfl fun rs H' hq => ?_
        obtain ⟨s, rfl, rfl, hs⟩ := hq
        refine ⟨rfl, ?_⟩
        obtain rfl := hos.dif hps hs
        repeat' (first
          | refine OK.drawn (by decide +kernel) ?_
          | refine OK.tree ⟨fun _ => ⟨.other, 0, 0, .no⟩, fun _ => true⟩ (by decide +kernel) ?_
          | refine OK.both ?_ ?_
          | refine OK.need (by first | assumption | (rw [hA]; first | (show (_ : Int) ≠ _; decide) | (show (0 : Int) ≤ _; decide) | (show (0 : Int) ≤ _ ∧ _ < (256 : Int); decide))) ?_
          | refine OK.need ?_ ?_
          | (refine OK.branch ?_ ?_ <;> intro h)
          | (refine F.hold hA 2000 ?_; cbv))
        any_goals (first | (exfalso; cases h; done) | (exfalso; subst hA; revert h; decide))
        refine OK.back (hBk _ _ (_, _, _, _, _) (by cbv; repeat (first | exact WkH.nil _ | apply WkH.gone | refine WkH.eq rfl ?_)) (by cbv; repeat (first | apply WkL.any | exact WkL.nil _ | refine WkL.eq rfl ?_)) (by cbv; exact ⟨rfl⟩) ?_ ?_)
        · subst hA
          exact hT.inv.1
        · subst hA
          exact hT.inv.2
  · refine F.hold hA 2000 ?_
    cbv
    refine F.call [] (rev_ok v n _ hv) rfl rfl rfl fun rs H' hq => ?_
    obtain ⟨r1, rfl, rfl, hr1⟩ := hq
    refine ⟨rfl, ?_⟩
    refine F.hold hA 2000 ?_
    cbv
    refine F.call [] (refRev_ok v n _ hv) rfl rfl rfl fun rs H' hq => ?_
    obtain ⟨r2, rfl, rfl, hr2⟩ := hq
    refine ⟨rfl, ?_⟩
    refine F.hold hA 2000 ?_
    cbv
    refine F.ret0 ⟨_, rfl, ?_⟩
    subst hA
    unfold RevRes at hr1 hr2
    rw [hr1, hr2]
    exact beq_self_eq_true _
end Go.L1

-- L1Row
namespace Go.L1
open Go Go.Sx Go.Proofs Go.Proofs.Ytlmndkddbmjnfaa
open Go.ChangeShapes Go.WideShapes Go.ChangeAt Go.RowKit

/-- A call, as data may have it. -/
def ClOK (x : Cl) : Prop := (IntKind.i64.min ≤ x.what ∧ x.what ≤ IntKind.i64.max) ∧ (IntKind.i64.min ≤ x.n ∧ x.n ≤ IntKind.i64.max) ∧ (IntKind.u32.min ≤ x.v ∧ x.v ≤ IntKind.u32.max) ∧ x.b.length ≤ reachBytes

section
variable {w : World} {H : Type} {enc : TypeId × Value → H} {sp : Nat → Bool} {held : Bool}

theorem opens_bytes : Opens (T := T1) C1 Try.prog w enc sp held 29 (fun xs => [.ro (.bytes xs)]) (fun xs : List UInt8 => xs.length ≤ reachBytes) := by
  intro fuel cs x h hz
  have hel : Opens (T := T1) C1 Try.prog w enc sp held 5 (fun b : UInt8 => [.int .u8 b.toNat]) (fun _ => True) := by
    intro fuel cs x h hz
    obtain ⟨n, hn, hd⟩ := Opens.int (C := C1) (enc := enc) (sp := sp) (held := held) Try.underlying5 fuel cs x h hz
    refine ⟨UInt8.ofNat n.toNat, trivial, fun M hw hD => ?_⟩
    have := hd M hw hD
    have h2 : ((UInt8.ofNat n.toNat).toNat : Int) = n := by
      rw [min_u8, max_u8] at hn
      simp
      omega
    show Den C1 M [.int .u8 _] cs
    rw [h2]; exact this
  obtain ⟨ys, h1, h2⟩ := Opens.slice (C := C1) Try.underlying29 hel Row.bytes (fun _ => rfl) (fun _ _ => rfl) (fun _ => by kernel_rfl) (by decide +kernel) fuel cs x h hz
  have hb : Try.prog.bytesOf 5 = 1 := by kernel_rfl
  rw [hb] at h1
  exact ⟨ys, by simpa using h1.2, h2⟩

theorem opens_call : Opens (T := T1) C1 Try.prog w enc sp held 33 (C1.enc 0) ClOK := by
  intro fuel cs x h hz
  obtain ⟨xs, n, _, rfl, hlen, hxs, hf⟩ := DataW.trod_struct Try.underlying33 h
  have hc : Try.prog.cellsOf 33 = 4 := by kernel_rfl
  rw [hc] at hlen
  match cs, hlen with
  | [c0, c1, c2, c3], _ =>
    have hs3 : Try.prog.cellsOf 3 = 1 := by kernel_rfl
    have hs23 : Try.prog.cellsOf 23 = 1 := by kernel_rfl
    have hs29 : Try.prog.cellsOf 29 = 1 := by kernel_rfl
    have hxl : xs.length = 4 := hxs
    have h0 : DataW.trod enc Try.prog w 0 sp held n 3 (([c0, c1, c2, c3].drop 0).take (Try.prog.cellsOf 3)) = xs[0]? := hf 0 _ rfl
    have h1 : DataW.trod enc Try.prog w 0 sp held n 3 (([c0, c1, c2, c3].drop 1).take (Try.prog.cellsOf 3)) = xs[1]? := hf 1 _ rfl
    have h2 : DataW.trod enc Try.prog w 0 sp held n 23 (([c0, c1, c2, c3].drop 2).take (Try.prog.cellsOf 23)) = xs[2]? := hf 2 _ rfl
    have h3 : DataW.trod enc Try.prog w 0 sp held n 29 (([c0, c1, c2, c3].drop 3).take (Try.prog.cellsOf 29)) = xs[3]? := hf 3 _ rfl
    rw [hs3, List.getElem?_eq_getElem (by omega)] at h0 h1
    rw [hs23, List.getElem?_eq_getElem (by omega)] at h2
    rw [hs29, List.getElem?_eq_getElem (by omega)] at h3
    have w0 : ∀ (i : Nat) (t : TypeId) d, [3, 3, 23, 29][i]? = some t → xs[i]? = some d → ∀ n ∈ d.1.weights Try.prog t, n ≤ reachBytes := fun i t d ht hd n hn => hz n (by
      simp only [DataW.weights, Try.underlying33]
      exact DataW.weights_mem_each (ts := [3, 3, 23, 29]) ht (by rw [List.getElem?_map, hd]; rfl) n hn)
    obtain ⟨a, ha, da⟩ := Opens.int (C := C1) Try.underlying3 _ _ _ h0 (w0 0 _ _ rfl (List.getElem?_eq_getElem _))
    obtain ⟨b, hb, db⟩ := Opens.int (C := C1) Try.underlying3 _ _ _ h1 (w0 1 _ _ rfl (List.getElem?_eq_getElem _))
    obtain ⟨c, hc', dc⟩ := Opens.int (C := C1) Try.underlying23 _ _ _ h2 (w0 2 _ _ rfl (List.getElem?_eq_getElem _))
    obtain ⟨d, hd, dd⟩ := opens_bytes _ _ _ h3 (w0 3 _ _ rfl (List.getElem?_eq_getElem _))
    refine ⟨⟨a, b, c, d⟩, ⟨ha, hb, hc', hd⟩, fun M hw hD => ?_⟩
    exact (((da M hw hD).append (db M hw hD)).append (dc M hw hD)).append (dd M hw hD)

theorem opens_calls : Opens (T := T1) C1 Try.prog w enc sp held 22 (fun xs => [.ro (.recs 0 xs)]) (fun xs : List Cl => (∀ x ∈ xs, ClOK x) ∧ xs.length * Try.prog.bytesOf 33 ≤ reachBytes) :=
  Opens.slice (C := C1) Try.underlying22 opens_call (fun xs => .recs 0 xs) (fun _ => rfl) (fun _ _ => rfl) (fun _ => by kernel_rfl) (by decide +kernel)
end

theorem own : ownKnob Try.prog.godebug = none := by kernel_rfl
theorem laidOut : laidOutB Try.prog = true := by kernel_rfl

/-- What the law's function is shown to do. -/
def WritesOK : Prop := ∀ (calls : List Cl) (v n : Int), (∀ x ∈ calls, ClOK x) → calls.length ≤ reachBytes → (IntKind.u32.min ≤ v ∧ v ≤ IntKind.u32.max) → (IntKind.i64.min ≤ n ∧ n ≤ IntKind.i64.max) →
  FOK Try.prog C1 3 (fun _ => false) [.ro (.recs 0 calls), .int .u32 v, .int .i64 n] [] Yes

set_option maxRecDepth 100000 in
theorem writes_lifted (hyp : WritesOK) (os : Os) (started : os.Started) (H : Type) (enc : TypeId × Value → H) :
    ReturnsInHanded {} Try.checked os 3 .any (Rows.bitsWritesSpec.pre6 enc Try.prog Try.f3 Rows.bitsWritesRow.domain false) (Rows.bitsWritesSpec.post enc Try.prog Try.f3 false true false false) := by
  refine returnsInHanded_of_change_sized (C := Try.checked) own started (by kernel_rfl) Try.func3
    (ChangeSpec.witness6 (enc := enc) (C := Try.checked) false ⟨#[], #[.slice none 0 0, .int .u32 0, .int .i64 0], []⟩ 8 (by kernel_rfl) (by kernel_rfl) (by kernel_rfl) (by kernel_rfl)) ?_
  intro W base args ds gs before hval0 hW hcnd hsz0 _
  have hsz : (DataW.weightsEach Try.prog (Try.f3.params.toList ++ Rows.bitsWritesSpec.plain.varTypes Try.prog) (ds ++ gs)).all (· ≤ reachBytes) = true := hsz0
  have hval : ∀ (j : Nat) t v, Try.f3.params[j]? = some t → args[j]? = some v → Value.okWide Try.prog W .any base t v := hval0
  have hW' := hW
  obtain ⟨p, q, hA0, hV, rfl, hfz, hnd⟩ := hW
  have hA : DataW.TrodAll enc Try.prog W 0 (fun _ => true) true Try.f3.params.toList args.toList ds p := hA0
  rw [Try.params3] at hA hval hsz
  obtain ⟨v0, vs0, d0, ds0, p0, q0, hargs, rfl, rfl, h0, r0⟩ := trodAll_cons hA
  obtain ⟨v1, vs1, d1, ds1, p1, q1, rfl, rfl, rfl, h1, r1⟩ := trodAll_cons r0
  obtain ⟨v2, vs2, d2, ds2, p2, q2, rfl, rfl, rfl, h2, r2⟩ := trodAll_cons r1
  obtain ⟨rfl, rfl, rfl⟩ := trodAll_nil r2
  obtain rfl : args = #[v0, v1, v2] := by cases args; simp_all
  obtain ⟨rfl, rfl⟩ := trodVars_none hV
  obtain ⟨a0, len0, cap0, rfl⟩ := okWide_slice Try.underlying22 (hval 0 22 v0 rfl rfl)
  have k0 := h0
  have lt0 : ∀ x ∈ p0, x.block < W.heap.size := by obtain ⟨m, hm⟩ := k0; exact DataW.trod_lt m _ _ _ hm
  obtain ⟨a1, rfl, rfl, rfl, w1⟩ := open_int Try.underlying23 (hval 1 23 v1 rfl rfl) h1
  obtain ⟨a2, rfl, rfl, rfl, w2⟩ := open_int Try.underlying3 (hval 2 3 v2 rfl rfl) h2
  obtain ⟨calls, ⟨hc1, hc2⟩, hden⟩ := opens_calls _ _ _ h0.choose_spec (fun n hn => of_decide_eq_true (List.all_eq_true.1 hsz n (DataW.weights_mem_each (j := 0) rfl rfl n hn)))
  have hb33 : Try.prog.bytesOf 33 = 48 := by kernel_rfl
  rw [hb33] at hc2
  refine (law_calls (W := W) (vals := #[.slice a0 len0 cap0, .int .u32 a1, .int .i64 a2]) (hyp calls a1 a2 hc1 (by omega) (by simpa [Lit.wf] using w1) (by simpa [Lit.wf] using w2)) rfl fun M hw hD i s u hs hu => ?_).mono fun e W' ⟨he, bel⟩ => ?_
  · match i with
    | 0 => simp at hs hu; subst hs; subst hu; exact hden M hw hD
    | 1 => simp at hs hu; subst hs; subst hu; exact Den.int _ _ .nil
    | 2 => simp at hs hu; subst hs; subst hu; exact Den.int _ _ .nil
    | i + 3 => simp at hs
  · subst he
    exact ⟨_, rfl, _, _, _, [], _, [], hW', trodAll_mk1 (shut_bool Try.underlying4 _), trodAll_cons_mk (Below.trod laidOut (by kernel_rfl) (of_decide_eq_true (by kernel_rfl)) k0 bel lt0) (trodAll_cons_mk (shut_int Try.underlying23 w1) (trodAll_cons_mk (shut_int Try.underlying3 w2) trodAll_mk0)), rfl, bel.frame _, fun h => by cases h⟩

theorem writes_row (hyp : WritesOK) : Rows.BitsWritesSaid :=
  OpenClaim.holds_of_wide 3 Try.f3 rfl rfl rfl rfl rfl rfl rfl ⟨rfl, rfl, rfl, rfl, rfl⟩ rfl rfl rfl rfl rfl (by kernel_rfl) Try.func3 (by kernel_rfl)
    (of_decide_eq_true (by kernel_rfl)) (by unfold Func.isWrapper; first | (rw [if_pos (by decide +kernel)]; kernel_rfl) | (rw [if_neg (by decide +kernel)]; exact ⟨rfl, rfl⟩))
    (fun os started H enc _ => writes_lifted hyp os started H enc)
end Go.L1

-- L1W
namespace Go.L1
open Go Go.Sx Go.Proofs Go.Proofs.Ytlmndkddbmjnfaa
theorem clsIn {calls : List Cl} (h : ∀ x ∈ calls, ClOK x) : ClsIn calls := by
  intro x hx
  obtain ⟨_, _, h3, h4⟩ := h x hx
  rw [min_u32, max_u32] at h3
  exact ⟨h3, Nat.le_trans h4 (by decide)⟩
theorem smallB {calls : List Cl} (h : ClsIn calls) : SmallB calls := fun x hx => (h x hx).2
theorem writesOK : WritesOK := by
  intro calls v n h1 h2 h3 h4
  rw [min_u32, max_u32] at h3
  exact writes_ok calls v n (clsIn h1) (smallB (clsIn h1)) ⟨by omega, by omega⟩
theorem writes_holds : Rows.BitsWritesSaid := writes_row writesOK
end Go.L1
