/- Own work of the session: part LM of a proof that the program's functions do what the statement says (a symbolic executor, contracts of the functions, plain laws). -/
import Derived.Test.YtmgmbcniamkfeaaLC
import Derived.Test.YtmgmbcniamkfeaaLH
import Derived.Test.YtmgmbcniamkfeaaLL
set_option linter.all false
-- B9
namespace Go.L1
open Go Go.Sx Go.Proofs Go.Huff
set_option maxRecDepth 20000
set_option linter.unusedVariables false
set_option linter.unusedSimpArgs false
theorem revN_mod (n v : Nat) : revN n (v % 2 ^ n) = revN n v := by
  apply Nat.eq_of_testBit_eq
  intro i
  rw [revN_bit, revN_bit, Nat.testBit_mod_two_pow]
  by_cases h : i < n
  · simp [h, show n - 1 - i < n from by omega]
  · simp [h]
structure PreAt (A : Leaf) (a b v n w m : Int) (is : Bool) : Prop where
  q : A.cmp .leq n m = true → A.nn (A.conv .u64 n)
  bad : is = true → A.cmp .neq a b = true → A.cmp .leq n m = true → A.cmp .eql (A.ar .and .u32 w (A.ar .sub .u32 (A.ar .shl .u32 1 (A.conv .u64 n)) 1)) v = true → False
theorem preAt {A : Leaf} {ls : List Int} {v n w m a b : Int} {ok is : Bool} (hA : A = .std) (hf : Fine ls) (hv : BitIs ls a v n ok) (hw : BitIs ls b w m is) (hok : A.bnot ok = false) : PreAt A a b v n w m is := by
  subst hA
  rcases hv with ⟨_, s, rfl, hs, ls1, rfl, rfl⟩ | ⟨hv, _⟩
  case inr => subst hv; cases hok
  have hl1 := len_le hf.inb s
  have e1 : Leaf.std.conv .u64 ((len ls s : Nat) : Int) = ((len ls s : Nat) : Int) := l_conv_u64 (by omega) (by omega)
  refine ⟨fun _ => by rw [e1]; show (0 : Int) ≤ _; omega, fun his hab hnm he => ?_⟩
  rcases hw with ⟨_, t, rfl, ht, lt1, rfl, rfl⟩ | ⟨hw, _⟩
  case inr => rw [hw] at his; cases his
  have hl2 := len_le hf.inb t
  have hnm : ((len ls s : Nat) : Int) ≤ (len ls t : Nat) := of_decide_eq_true hnm
  have hab : s ≠ t := by
    intro h; subst h
    have hab : (!((s : Int) == (s : Int))) = true := hab
    simp at hab
  have r2 := revN_lt (len ls t) (code ls t)
  have p1 : 2 ^ len ls s ≤ 2 ^ 15 := Nat.pow_le_pow_right (by decide) hl1
  have p2 : 2 ^ len ls t ≤ 2 ^ 15 := Nat.pow_le_pow_right (by decide) hl2
  have p3 := Nat.two_pow_pos (len ls s)
  have c1 := code_lt hf.inb hf.room hs ls1
  have c2 := code_lt hf.inb hf.room ht lt1
  rw [e1] at he
  have he : ((LAr .and .u32 ((revN (len ls t) (code ls t) : Nat) : Int) (LAr .sub .u32 (LAr .shl .u32 1 ((len ls s : Nat) : Int)) 1)) == ((revN (len ls s) (code ls s) : Nat) : Int)) = true := he
  have e2 : LAr .shl .u32 1 ((len ls s : Nat) : Int) = ((2 ^ len ls s : Nat) : Int) := by
    have := shl_nat (a := 1) (b := len ls s) (by omega) (by omega)
    simpa using this
  have e3 : LAr .sub .u32 ((2 ^ len ls s : Nat) : Int) 1 = ((2 ^ len ls s - 1 : Nat) : Int) := by
    have := l_sub_u32 (a := ((2 ^ len ls s : Nat) : Int)) (b := 1) (by omega) (by omega)
    rw [this]; omega
  have e4 : LAr .and .u32 ((revN (len ls t) (code ls t) : Nat) : Int) ((2 ^ len ls s - 1 : Nat) : Int) = ((revN (len ls t) (code ls t) % 2 ^ len ls s : Nat) : Int) := by
    rw [l_and_u32 (by omega) (by omega) (by omega) (by omega), Int.toNat_natCast, Int.toNat_natCast, Nat.and_two_pow_sub_one_eq_mod]
  rw [e2, e3, e4, beq_iff_eq] at he
  have he : revN (len ls t) (code ls t) % 2 ^ len ls s = revN (len ls s) (code ls s) := by omega
  refine prefix_free hf.inb hs ht ls1 hab (by omega) ?_
  have k1 := revN_pre (len ls s) (len ls t - len ls s) (revN (len ls t) (code ls t))
  rw [show len ls s + (len ls t - len ls s) = len ls t from by omega, revN_rev, Nat.mod_eq_of_lt c2] at k1
  rw [k1, ← revN_mod, he, revN_rev, Nat.mod_eq_of_lt c1]
/-- Of a complete code all bits begin with some code. -/
theorem full_hit {ls : List Int} (hf : Fine ls) (hr : roomN ls = 32768) {V left : Nat} (hl : 15 ≤ left) : ∃ s, Hit ls V left s := by
  have hx := revN_lt 15 V
  have hpart : ∀ d, d ≤ 15 → revN 15 V < Go.Huff.part ls d → ∃ l, l < d ∧ Go.Huff.part ls l ≤ revN 15 V ∧ revN 15 V < Go.Huff.part ls (l + 1) := by
    intro d
    induction d with
    | zero => intro _ h; rw [part_zero] at h; omega
    | succ d ih =>
      intro hd h
      rcases Nat.lt_or_ge (revN 15 V) (Go.Huff.part ls d) with h1 | h1
      · obtain ⟨l, a, b⟩ := ih (by omega) h1; exact ⟨l, by omega, b⟩
      · exact ⟨d, by omega, h1, h⟩
  obtain ⟨l, l1, l2, l3⟩ := hpart 15 (by omega) (by rw [part_all hf.inb, hr]; omega)
  rw [part_eq ls l (by omega)] at l2
  rw [part_eq ls (l + 1) (by omega)] at l3
  have e : 15 - l = 15 - (l + 1) + 1 := by omega
  rw [e, Nat.pow_succ, Nat.mul_comm (2 ^ (15 - (l + 1))) 2, ← Nat.mul_assoc, Nat.mul_comm _ 2] at l2
  have l2 : fst ls (l + 1) * 2 ^ (15 - (l + 1)) ≤ revN 15 V := l2
  have hp := Nat.two_pow_pos (15 - (l + 1))
  have k := revN_pre (l + 1) (15 - (l + 1)) V
  rw [show l + 1 + (15 - (l + 1)) = 15 from by omega] at k
  have k2 := (Nat.le_div_iff_mul_le hp).2 l2
  have k3 := (Nat.div_lt_iff_lt_mul hp).2 l3
  rw [k] at k2 k3
  obtain ⟨s, s1, s2, s3⟩ := ex_code (ls := ls) (l := l + 1) (c := revN (l + 1) V) (by omega) k2 k3
  exact ⟨s, s1, by omega, by omega, by rw [s2]; exact s3⟩
theorem three {A : Leaf} (hA : A = .std) (x y z : Int) : (A.isB (A.conv .u8 x) ∧ A.isB (A.conv .u8 y)) ∧ A.isB (A.conv .u8 z) := by
  subst hA
  have h : ∀ x : Int, (0 : Int) ≤ IntKind.u8.wrap x ∧ IntKind.u8.wrap x < 256 := fun x => by
    simp only [IntKind.wrap, IntKind.signed, IntKind.bits]
    simp
    omega
  exact ⟨⟨h x, h y⟩, h z⟩
theorem rd3 (x y z : UInt8) : RdOK [x, y, z] 0 := by
  have e : ([x, y, z] : List UInt8).length = 3 := rfl
  refine ⟨⟨?_, by decide, by decide⟩, ?_⟩ <;> rw [e] <;> decide
theorem nx3 {ls : List Int} {x y z : UInt8} {r sym e p' : Int} {b : Bool} {A : Leaf} (hA : A = .std) (hf : Fine ls) (hr : r = roomN ls) (hb : CompIs r b) (h : A.bnot b = false) (hn : NextRes ls [x, y, z] 0 sym e p') : A.cmp .eql e 0 = true := by
  subst hA
  obtain ⟨n, hn, _⟩ := hn
  obtain ⟨s, hs⟩ := full_hit (V := bitsV [x, y, z] 0) (left := leftN [x, y, z] 0) hf (by
    have h : (!b) = false := h
    rw [hb] at h
    simp at h
    omega) (by show 15 ≤ 24; omega)
  rcases hn with ⟨rfl, _⟩ | ⟨hn, _⟩
  · rfl
  · exact absurd hs (hn s)
set_option maxHeartbeats 4000000 in
theorem prefix_ok (ls : List Int) (more : Int) : FOK Try.prog C1 4 (fun _ => false) [.ro (.ints .i64 ls), .int .u32 more] [] Yes := by
  refine fok_of (B := ⟨lookT tis, fun _ => false, []⟩) (tab1 _) (zero1 _) cod1 mix1 Try.func4 (by kernel_rfl) rfl rfl rfl fun X F => ?_
  obtain ⟨A, hA⟩ : ∃ A, A = Leaf.std := ⟨_, rfl⟩
  refine F.hold hA 2000 ?_
  cbv
  repeat' (first
    | refine OK.drawn (by decide +kernel) ?_
    | refine OK.tree ⟨lookT tis, fun _ => true, []⟩ (by decide +kernel) ?_
    | refine OK.both ?_ ?_
    | refine OK.need (by first | assumption | (rw [hA]; first | (show (_ : Int) ≠ _; decide) | (show (0 : Int) ≤ _; decide) | (show (0 : Int) ≤ _ ∧ _ < (256 : Int); decide))) ?_
    | refine OK.need ?_ ?_
    | (refine OK.branch ?_ ?_ <;> intro h)
    | (refine F.hold hA 2000 ?_; cbv))
  refine F.call [] (alive_ok) rfl rfl rfl fun rs H' hq => ?_
  obtain ⟨b, rfl, rfl, rfl⟩ := hq
  refine ⟨rfl, ?_⟩
  repeat' (first
    | refine OK.drawn (by decide +kernel) ?_
    | refine OK.tree ⟨lookT tis, fun _ => true, []⟩ (by decide +kernel) ?_
    | refine OK.both ?_ ?_
    | refine OK.need (by first | assumption | (rw [hA]; first | (show (_ : Int) ≠ _; decide) | (show (0 : Int) ≤ _; decide) | (show (0 : Int) ≤ _ ∧ _ < (256 : Int); decide))) ?_
    | refine OK.need ?_ ?_
    | (refine OK.branch ?_ ?_ <;> intro h)
    | (refine F.hold hA 2000 ?_; cbv))
  · exfalso; subst hA; cases h
  · exact F.ret0 ⟨_, rfl, rfl⟩
  refine F.call [] (new_ok ls) rfl rfl rfl fun rs H' hq => ?_
  rcases hq with ⟨e, rfl, rfl, hbad⟩ | ⟨ws, fs, cs, ss, os, r, rfl, rfl, hc⟩
  · refine ⟨rfl, ?_⟩
    repeat' (first
      | refine OK.drawn (by decide +kernel) ?_
      | refine OK.tree ⟨lookT tis, fun _ => true, []⟩ (by decide +kernel) ?_
      | refine OK.both ?_ ?_
      | refine OK.need (by first | assumption | (rw [hA]; first | (show (_ : Int) ≠ _; decide) | (show (0 : Int) ≤ _; decide) | (show (0 : Int) ≤ _ ∧ _ < (256 : Int); decide))) ?_
      | refine OK.need ?_ ?_
      | (refine OK.branch ?_ ?_ <;> intro h)
      | (refine F.hold hA 2000 ?_; cbv))
    all_goals exact F.ret0 ⟨_, rfl, rfl⟩
  refine ⟨rfl, ?_⟩
  repeat' (first
    | refine OK.drawn (by decide +kernel) ?_
    | refine OK.tree ⟨lookT tis, fun _ => true, []⟩ (by decide +kernel) ?_
    | refine OK.both ?_ ?_
    | refine OK.need (by first | assumption | (rw [hA]; first | (show (_ : Int) ≠ _; decide) | (show (0 : Int) ≤ _; decide) | (show (0 : Int) ≤ _ ∧ _ < (256 : Int); decide))) ?_
    | refine OK.need ?_ ?_
    | (refine OK.branch ?_ ?_ <;> intro h)
    | (refine F.hold hA 2000 ?_; cbv))
  · exact F.ret (H' := []) (F.cv ⟨rfl⟩ (.eq rfl (.nil _)) (.nil _)) rfl ⟨_, rfl, rfl⟩
  refine F.loop (V := Int) [0, 1, 5] (UpTo ls) (fun i => (ls.length - i).toNat) (fun i => [(7, .int .i64 i)]) (fun _ => []) _ (by cbv; repeat (first | exact WkH.nil _ | apply WkH.gone | refine WkH.eq rfl ?_)) (by cbv; repeat (first | apply WkL.any | exact WkL.nil _ | refine WkL.eq rfl ?_ | refine WkL.bool rfl ?_)) (by cbv; exact ⟨rfl⟩) ?_ ?_
  · exact ⟨0, rfl, Nat.zero_le _⟩
  rintro a hI BkO hBkO
  repeat (first
    | refine OK.drawn (by decide +kernel) ?_
    | refine OK.tree ⟨lookT tis, fun _ => true, []⟩ (by decide +kernel) ?_
    | refine OK.need (by first | assumption | (rw [hA]; first | (show (_ : Int) ≠ _; decide) | (show (0 : Int) ≤ _; decide) | (show (0 : Int) ≤ _ ∧ _ < (256 : Int); decide))) ?_
    | (refine F.hold hA 2000 ?_; cbv))
  refine OK.branch (fun b1 => ?_) (fun b1 => ?_)
  · repeat (first
      | refine OK.drawn (by decide +kernel) ?_
      | refine OK.tree ⟨lookT tis, fun _ => true, []⟩ (by decide +kernel) ?_
      | refine OK.need (by first | assumption | (rw [hA]; first | (show (_ : Int) ≠ _; decide) | (show (0 : Int) ≤ _; decide) | (show (0 : Int) ≤ _ ∧ _ < (256 : Int); decide))) ?_
      | (refine F.hold hA 2000 ?_; cbv))
    refine F.call [1] (cbits_ok ls ws fs cs ss os r a hc) rfl rfl rfl fun rs H' hq => ?_
    obtain ⟨v, n, ok, rfl, rfl, hv⟩ := hq
    refine ⟨rfl, ?_⟩
    repeat (first
      | refine OK.drawn (by decide +kernel) ?_
      | refine OK.tree ⟨lookT tis, fun _ => true, []⟩ (by decide +kernel) ?_
      | refine OK.need (by first | assumption | (rw [hA]; first | (show (_ : Int) ≠ _; decide) | (show (0 : Int) ≤ _; decide) | (show (0 : Int) ≤ _ ∧ _ < (256 : Int); decide))) ?_
      | (refine F.hold hA 2000 ?_; cbv))
    refine OK.branch (fun b3 => ?_) (fun b3 => ?_)
    · have hBk := hBkO
      repeat' (first
        | refine OK.drawn (by decide +kernel) ?_
        | refine OK.tree ⟨lookT tis, fun _ => true, []⟩ (by decide +kernel) ?_
        | refine OK.both ?_ ?_
        | refine OK.need (by first | assumption | (rw [hA]; first | (show (_ : Int) ≠ _; decide) | (show (0 : Int) ≤ _; decide) | (show (0 : Int) ≤ _ ∧ _ < (256 : Int); decide))) ?_
        | refine OK.need ?_ ?_
        | (refine OK.branch ?_ ?_ <;> intro h)
        | (refine F.hold hA 2000 ?_; cbv))
      refine OK.back (hBk _ _ _ (by cbv; repeat (first | exact WkH.nil _ | apply WkH.gone | refine WkH.eq rfl ?_)) (by cbv; repeat (first | apply WkL.any | exact WkL.nil _ | refine WkL.eq rfl ?_ | refine WkL.bool rfl ?_)) (by cbv; exact ⟨rfl⟩) ?_ ?_)
      · exact (upTo hA hc.fine hI b1).1
      · exact (upTo hA hc.fine hI b1).2
    repeat (first
      | refine OK.drawn (by decide +kernel) ?_
      | refine OK.tree ⟨lookT tis, fun _ => true, []⟩ (by decide +kernel) ?_
      | refine OK.need (by first | assumption | (rw [hA]; first | (show (_ : Int) ≠ _; decide) | (show (0 : Int) ≤ _; decide) | (show (0 : Int) ≤ _ ∧ _ < (256 : Int); decide))) ?_
      | (refine F.hold hA 2000 ?_; cbv))
    refine F.loop (V := Int) [0, 1, 5, 7, 8, 9, 10] (UpTo ls) (fun i => (ls.length - i).toNat) (fun i => [(11, .int .i64 i)]) (fun _ => []) _ (by cbv; repeat (first | exact WkH.nil _ | apply WkH.gone | refine WkH.eq rfl ?_)) (by cbv; repeat (first | apply WkL.any | exact WkL.nil _ | refine WkL.eq rfl ?_ | refine WkL.bool rfl ?_)) (by cbv; exact ⟨rfl⟩) ?_ ?_
    · exact ⟨0, rfl, Nat.zero_le _⟩
    rintro b hI2 Bk hBk
    repeat (first
      | refine OK.drawn (by decide +kernel) ?_
      | refine OK.tree ⟨lookT tis, fun _ => true, []⟩ (by decide +kernel) ?_
      | refine OK.need (by first | assumption | (rw [hA]; first | (show (_ : Int) ≠ _; decide) | (show (0 : Int) ≤ _; decide) | (show (0 : Int) ≤ _ ∧ _ < (256 : Int); decide))) ?_
      | (refine F.hold hA 2000 ?_; cbv))
    refine OK.branch (fun b2 => ?_) (fun b2 => ?_)
    · repeat (first
        | refine OK.drawn (by decide +kernel) ?_
        | refine OK.tree ⟨lookT tis, fun _ => true, []⟩ (by decide +kernel) ?_
        | refine OK.need (by first | assumption | (rw [hA]; first | (show (_ : Int) ≠ _; decide) | (show (0 : Int) ≤ _; decide) | (show (0 : Int) ≤ _ ∧ _ < (256 : Int); decide))) ?_
        | (refine F.hold hA 2000 ?_; cbv))
      refine F.call [1] (cbits_ok ls ws fs cs ss os r b hc) rfl rfl rfl fun rs H' hq => ?_
      obtain ⟨w, m, is, rfl, rfl, hw⟩ := hq
      refine ⟨rfl, ?_⟩
      have hp := preAt hA hc.fine hv hw b3
      repeat' (first
        | refine OK.drawn (by decide +kernel) ?_
        | refine OK.tree ⟨lookT tis, fun _ => true, []⟩ (by decide +kernel) ?_
        | refine OK.both ?_ ?_
        | refine OK.need (by first | assumption | (rw [hA]; first | (show (_ : Int) ≠ _; decide) | (show (0 : Int) ≤ _; decide) | (show (0 : Int) ≤ _ ∧ _ < (256 : Int); decide))) ?_
        | refine OK.need ?_ ?_
        | (refine OK.branch ?_ ?_ <;> intro h)
        | (refine F.hold hA 2000 ?_; cbv))
      any_goals first
        | (exact hp.q ‹_›; done)
        | (exact (hp.bad ‹is = true› ‹A.cmp .neq a b = true› ‹A.cmp .leq n m = true› h).elim; done)
        | fail
      all_goals
        refine OK.back (hBk _ _ _ (by cbv; repeat (first | exact WkH.nil _ | apply WkH.gone | refine WkH.eq rfl ?_)) (by cbv; repeat (first | apply WkL.any | exact WkL.nil _ | refine WkL.eq rfl ?_ | refine WkL.bool rfl ?_)) (by cbv; exact ⟨rfl⟩) ?_ ?_)
        · exact (upTo hA hc.fine hI2 b2).1
        · exact (upTo hA hc.fine hI2 b2).2
    · clear hBk
      have hBk := hBkO
      repeat' (first
        | refine OK.drawn (by decide +kernel) ?_
        | refine OK.tree ⟨lookT tis, fun _ => true, []⟩ (by decide +kernel) ?_
        | refine OK.both ?_ ?_
        | refine OK.need (by first | assumption | (rw [hA]; first | (show (_ : Int) ≠ _; decide) | (show (0 : Int) ≤ _; decide) | (show (0 : Int) ≤ _ ∧ _ < (256 : Int); decide))) ?_
        | refine OK.need ?_ ?_
        | (refine OK.branch ?_ ?_ <;> intro h)
        | (refine F.hold hA 2000 ?_; cbv))
      refine OK.back (hBk _ _ _ (by cbv; repeat (first | exact WkH.nil _ | apply WkH.gone | refine WkH.eq rfl ?_)) (by cbv; repeat (first | apply WkL.any | exact WkL.nil _ | refine WkL.eq rfl ?_ | refine WkL.bool rfl ?_)) (by cbv; exact ⟨rfl⟩) ?_ ?_)
      · exact (upTo hA hc.fine hI b1).1
      · exact (upTo hA hc.fine hI b1).2
  · clear hBkO
    repeat' (first
      | refine OK.drawn (by decide +kernel) ?_
      | refine OK.tree ⟨lookT tis, fun _ => true, []⟩ (by decide +kernel) ?_
      | refine OK.both ?_ ?_
      | refine OK.need (by first | assumption | (rw [hA]; first | (show (_ : Int) ≠ _; decide) | (show (0 : Int) ≤ _; decide) | (show (0 : Int) ≤ _ ∧ _ < (256 : Int); decide))) ?_
      | refine OK.need ?_ ?_
      | (refine OK.branch ?_ ?_ <;> intro h)
      | (refine F.hold hA 2000 ?_; cbv))
    · exact three hA _ _ _
    refine F.callFrz 2 rfl rfl rfl rfl ?_
    refine F.call [] (newReader_ok _ (Nat.le_of_ble_eq_true rfl)) rfl rfl rfl fun rs H' hq => ?_
    obtain ⟨rfl, rfl⟩ := hq
    refine ⟨rfl, ?_⟩
    repeat' (first
      | refine OK.drawn (by decide +kernel) ?_
      | refine OK.tree ⟨lookT tis, fun _ => true, []⟩ (by decide +kernel) ?_
      | refine OK.both ?_ ?_
      | refine OK.need (by first | assumption | (rw [hA]; first | (show (_ : Int) ≠ _; decide) | (show (0 : Int) ≤ _; decide) | (show (0 : Int) ≤ _ ∧ _ < (256 : Int); decide))) ?_
      | refine OK.need ?_ ?_
      | (refine OK.branch ?_ ?_ <;> intro h)
      | (refine F.hold hA 2000 ?_; cbv))
    refine F.call [1, 4] (next_ok ls ws fs cs ss os r _ 0 hc (rd3 _ _ _)) rfl rfl rfl fun rs H' hq => ?_
    obtain ⟨sym, e, p', rfl, rfl, hn⟩ := hq
    refine ⟨rfl, ?_⟩
    repeat' (first
      | refine OK.drawn (by decide +kernel) ?_
      | refine OK.tree ⟨lookT tis, fun _ => true, []⟩ (by decide +kernel) ?_
      | refine OK.both ?_ ?_
      | refine OK.need (by first | assumption | (rw [hA]; first | (show (_ : Int) ≠ _; decide) | (show (0 : Int) ≤ _; decide) | (show (0 : Int) ≤ _ ∧ _ < (256 : Int); decide))) ?_
      | refine OK.need ?_ ?_
      | (refine OK.branch ?_ ?_ <;> intro h)
      | (refine F.hold hA 2000 ?_; cbv))
    refine F.call [1] (complete_ok _ _ _ _ _ _) rfl rfl rfl fun rs H' hq => ?_
    obtain ⟨b, rfl, rfl, hb⟩ := hq
    refine ⟨rfl, ?_⟩
    repeat' (first
      | refine OK.drawn (by decide +kernel) ?_
      | refine OK.tree ⟨lookT tis, fun _ => true, []⟩ (by decide +kernel) ?_
      | refine OK.both ?_ ?_
      | refine OK.need (by first | assumption | (rw [hA]; first | (show (_ : Int) ≠ _; decide) | (show (0 : Int) ≤ _; decide) | (show (0 : Int) ≤ _ ∧ _ < (256 : Int); decide))) ?_
      | refine OK.need ?_ ?_
      | (refine OK.branch ?_ ?_ <;> intro h)
      | (refine F.hold hA 2000 ?_; cbv))
    · exact F.ret (H' := []) (F.cv ⟨rfl⟩ (.eq rfl (.nil _)) (.nil _)) rfl ⟨_, rfl, rfl⟩
    · exact F.ret (H' := []) (F.cv ⟨rfl⟩ (.eq rfl (.nil _)) (.nil _)) rfl ⟨_, rfl, nx3 hA hc.fine hc.r hb h hn⟩
end Go.L1

-- H13
namespace Go.L1
open Go Go.Sx Go.Proofs Go.Huff
set_option linter.unusedVariables false
set_option linter.unusedSimpArgs false
set_option maxRecDepth 4000
theorem cputL_len {ls : List Int} (h : InB ls) (s : Int) : (cput ls s).length ≤ 15 := by
  unfold cput
  split
  · rw [bitsOf_length]; exact len_le h _
  · simp
structure Ys (L ys : List UInt8) : Prop where
  v : valBytes ys = valBits L
  n : ys.length = (L.length + 7) / 8
  b : Bits01 L
theorem Ys.of {L ys : List UInt8} {last m : Int} {xs : List UInt8} (hw : WR L last m xs) (h : OutIs L ys) : Ys L ys := by
  have hb : Bits01 L := by obtain ⟨⟨a, b, _, _, h⟩, _⟩ := hw; exact h.b
  refine ⟨h.val hb, ?_, hb⟩
  unfold OutIs at h; rw [h, bytesOf_length]
theorem Ys.mid {L ys a b c : List UInt8} (h : Ys L ys) (hL : L = a ++ b ++ c) : valBytes ys / 2 ^ a.length % 2 ^ b.length = valBits b := by
  have hb := h.b
  rw [h.v]
  subst hL
  exact (valBits_mid a b c (fun x hx => hb x (by simp [hx]))).resolve_right (fun hn => hn fun x hx => hb x (by simp [hx]))
theorem Ys.le {L ys a b c : List UInt8} (h : Ys L ys) (hL : L = a ++ b ++ c) : a.length + b.length ≤ 8 * ys.length := by
  have := h.n
  have h2 := congrArg List.length hL
  rw [List.length_append, List.length_append] at h2
  omega
theorem putBits_nat {n v : Nat} (h : n ≤ 32) : putBits n v = bitsOf n v := by
  unfold putBits
  rw [if_pos (by omega), Int.toNat_natCast]
theorem num_bits {L ys a c : List UInt8} {n v : Nat} (h : Ys L ys) (hn : n ≤ 32) (hv : v < 2 ^ n) (hL : L = a ++ putBits n v ++ c) : numR ys (a.length : Nat) n = .ok ((v : Nat), (a.length : Nat) + n) := by
  have h1 := h.mid hL
  have h2 := h.le hL
  rw [putBits_nat hn, bitsOf_length] at h1 h2
  rw [valBits_bitsOf, Nat.mod_eq_of_lt hv] at h1
  unfold numR
  rw [if_pos (by omega)]
  unfold bitsV
  rw [Int.toNat_natCast, h1]
theorem sym_bits {L ys a c : List UInt8} {ls : List Int} {s : Nat} (h : Ys L ys) (hf : Fine ls) (k2 : s < ls.length) (k3 : 0 < len ls s) (hL : L = a ++ cput ls (s : Int) ++ c) : symR ls ys (a.length : Nat) = .ok ((s : Int), (a.length : Nat) + (len ls s : Nat)) := by
  have h1 := h.mid hL
  have h2 := h.le hL
  have hcp : cput ls (s : Int) = bitsOf (len ls s) (revN (len ls s) (code ls s)) := by
    unfold cput; rw [if_pos (by omega), Int.toNat_natCast]
  rw [hcp, bitsOf_length] at h1 h2
  rw [valBits_bitsOf, Nat.mod_eq_of_lt (revN_lt _ _)] at h1
  have hcode := code_lt hf.inb hf.room k2 k3
  refine symR_hit hf.inb ⟨k2, k3, by unfold leftN; omega, ?_⟩
  unfold bitsV
  rw [Int.toNat_natCast, ← revN_mod, h1, revN_rev, Nat.mod_eq_of_lt hcode]
theorem fA_len : fixA.length = 288 := by decide +kernel
theorem fB_len : fixB.length = 32 := by decide +kernel
theorem fA_fine : Fine fixA := ⟨by rw [fA_len]; decide, fixA_inb, by decide +kernel⟩
theorem fB_fine : Fine fixB := ⟨by rw [fB_len]; decide, fixB_inb, by decide +kernel⟩
theorem fA_pos : ∀ s : Nat, s < 288 → 0 < len fixA s := by
  have : ∀ i : Fin 288, 0 < len fixA i.1 := by decide +kernel
  exact fun i hi => this ⟨i, hi⟩
theorem fB_pos : ∀ s : Nat, s < 32 → 0 < len fixB s := by
  have : ∀ i : Fin 32, 0 < len fixB i.1 := by decide +kernel
  exact fun i hi => this ⟨i, hi⟩
theorem cput_length {ls : List Int} {s : Nat} (h : s < ls.length) : (cput ls (s : Int)).length = len ls s := by
  unfold cput; rw [if_pos (by omega), Int.toNat_natCast, bitsOf_length]
def litB (lit : List UInt8) : List UInt8 := lit.flatMap fun c => cput fixA (c.toNat : Int)
theorem litB_app (a b : List UInt8) : litB (a ++ b) = litB a ++ litB b := by unfold litB; rw [List.flatMap_append]
theorem litB_one (c : UInt8) : litB [c] = cput fixA (c.toNat : Int) := by simp [litB]
theorem lits_run {L ys : List UInt8} (h : Ys L ys) {lim : Int} : ∀ (lit a c out : List UInt8) (f : Nat) (k : Int), L = a ++ litB lit ++ c → (out.length : Int) + lit.length ≤ lim →
    symsR fixA fixB ys lim (f + lit.length) (a.length : Nat) out k = symsR fixA fixB ys lim f ((a ++ litB lit).length : Nat) (out ++ lit) (k + lit.length)
  | [], a, c, out, f, k, hL, hl => by simp [litB]
  | x :: lit, a, c, out, f, k, hL, hl => by
    have e1 : litB (x :: lit) = cput fixA (x.toNat : Int) ++ litB lit := by
      rw [show x :: lit = [x] ++ lit from rfl, litB_app, litB_one]
    have hx : x.toNat < 288 := by have := x.toNat_lt; omega
    rw [e1] at hL
    have hs := sym_bits (s := x.toNat) (a := a) (c := litB lit ++ c) h fA_fine (by rw [fA_len]; exact hx) (fA_pos _ hx) (by rw [hL]; simp only [List.append_assoc])
    have ih := lits_run h (lim := lim) lit (a ++ cput fixA (x.toNat : Int)) c (out ++ [x]) f (k + 1) (by rw [hL]; simp only [List.append_assoc]) (by simp only [List.length_append, List.length_cons, List.length_nil] at hl ⊢; omega)
    rw [show f + (x :: lit).length = (f + lit.length) + 1 from by simp only [List.length_cons]; omega]
    rw [show symsR fixA fixB ys lim (f + lit.length + 1) (a.length : Nat) out k = (symR fixA ys (a.length : Nat) >>= fun x => match x with
      | (s, p) => if s = 256 then .ok (p, out, k + 1)
        else if s < 256 then (roomR lim out 1 >>= fun _ => symsR fixA fixB ys lim (f + lit.length) p (out ++ [UInt8.ofNat s.toNat]) (k + 1))
        else (backR fixB ys lim s p out >>= fun x => match x with | (p, out) => symsR fixA fixB ys lim (f + lit.length) p out (k + 1))) from rfl]
    rw [hs]
    simp only [bind, Except.bind]
    have hx2 := x.toNat_lt
    rw [if_neg (by omega), if_pos (by omega)]
    have e2 : roomR lim out 1 = .ok () := by unfold roomR; rw [if_pos (by simp only [List.length_cons] at hl; omega)]
    have e3 : UInt8.ofNat ((x.toNat : Nat) : Int).toNat = x := by rw [Int.toNat_natCast]; simp
    rw [e2, e3]
    have e4 : ((a.length : Nat) : Int) + (len fixA x.toNat : Nat) = ((a ++ cput fixA (x.toNat : Int)).length : Nat) := by
      rw [List.length_append, cput_length (by rw [fA_len]; exact hx)]; omega
    simp only [e4]
    rw [ih, e1]
    simp only [List.append_assoc, List.length_cons, List.singleton_append]
    congr 1
    omega
theorem lapp (a b : List UInt8) {n : Nat} (h : b.length = n) : ((a.length : Nat) : Int) + (n : Nat) = ((a ++ b).length : Nat) := by rw [List.length_append, h]; omega
structure FixP (lit : List UInt8) (sym base extra far dist more : Int) (n m : Nat) : Prop where
  ll : lit.length ≤ 600
  e1 : lenR sym = .ok (base, n)
  e2 : distR far = .ok (dist, m)
  n5 : n ≤ 5
  m13 : m ≤ 13
  b : 3 ≤ base ∧ base ≤ 258
  d : 1 ≤ dist
  x0 : 0 ≤ extra
  x1 : extra < 2 ^ n
  y0 : 0 ≤ more
  y1 : more < 2 ^ m
def fixL (lit : List UInt8) (sym extra far more : Int) (n m : Nat) : List UInt8 := putBits 3 3 ++ litB lit ++ cput fixA sym ++ putBits n extra.toNat ++ cput fixB far ++ putBits m more.toNat ++ cput fixA 256
theorem lenR_rg {s b : Int} {e : Nat} (h : lenR s = .ok (b, e)) : 257 ≤ s ∧ s ≤ 285 := by
  unfold lenR at h
  split at h
  · cases h
  · omega
theorem distR_rg {s b : Int} {e : Nat} (h : distR s = .ok (b, e)) : 0 ≤ s ∧ s ≤ 29 := by
  unfold distR at h
  split at h
  · cases h
  · omega
theorem syms_succ (first other : List Int) (xs : List UInt8) (lim : Int) (f : Nat) (p : Int) (out : List UInt8) (k : Int) : symsR first other xs lim (f + 1) p out k = (symR first xs p >>= fun x => match x with
      | (s, p) => if s = 256 then .ok (p, out, k + 1)
        else if s < 256 then (roomR lim out 1 >>= fun _ => symsR first other xs lim f p (out ++ [UInt8.ofNat s.toNat]) (k + 1))
        else (backR other xs lim s p out >>= fun x => match x with | (p, out) => symsR first other xs lim f p out (k + 1))) := rfl
theorem infl_fixed {lit ys : List UInt8} {sym base extra far dist more : Int} {n m : Nat} (hp : FixP lit sym base extra far dist more n m) (h : Ys (fixL lit sym extra far more n m) ys) :
    (dist + more ≤ lit.length → ∃ used, inflR ys 5000 = .ok (copyN (dist + more).toNat (base + extra).toNat lit, used, (lit.length : Int) + 2, 1)) ∧ (lit.length < dist + more → inflR ys 5000 = .error 10) := by
  obtain ⟨ll, r1, r2, n5, m13, b, d, x0, x1, y0, y1⟩ := hp
  have hs := lenR_rg r1
  have hf := distR_rg r2
  obtain ⟨s, rfl⟩ : ∃ s : Nat, sym = s := ⟨sym.toNat, by omega⟩
  obtain ⟨t, rfl⟩ : ∃ t : Nat, far = t := ⟨far.toNat, by omega⟩
  have hx31 : extra ≤ 31 := by
    have : (2 : Int) ^ n ≤ 32 := by
      have := Nat.pow_le_pow_right (n := 2) (by decide) n5
      have e : (2 : Int) ^ n = ((2 ^ n : Nat) : Int) := by simp
      omega
    omega
  obtain ⟨x, rfl⟩ : ∃ x : Nat, extra = x := ⟨extra.toNat, by omega⟩
  obtain ⟨y, rfl⟩ : ∃ y : Nat, more = y := ⟨more.toNat, by omega⟩
  have hx : x < 2 ^ n := by exact_mod_cast x1
  have hy : y < 2 ^ m := by exact_mod_cast y1
  have e0 : putBits 3 3 = putBits (1 : Nat) 1 ++ putBits (2 : Nat) 1 := by decide
  obtain ⟨L, hL⟩ : ∃ L, L = fixL lit s x t y n m := ⟨_, rfl⟩
  rw [← hL] at h
  unfold fixL at hL
  simp only [Int.toNat_natCast] at hL
  have n1 : numR ys 0 1 = .ok (1, 1) := by
    have := num_bits (a := []) (n := 1) (v := 1) h (by decide) (by decide) (c := putBits (2 : Nat) 1 ++ litB lit ++ cput fixA (s : Int) ++ putBits n x ++ cput fixB (t : Int) ++ putBits m y ++ cput fixA 256) (by rw [hL, e0]; simp only [List.append_assoc, List.nil_append])
    exact this
  have n2 : numR ys 1 2 = .ok (1, 3) := by
    have := num_bits (a := putBits (1 : Nat) 1) (n := 2) (v := 1) h (by decide) (by decide) (c := litB lit ++ cput fixA (s : Int) ++ putBits n x ++ cput fixB (t : Int) ++ putBits m y ++ cput fixA 256) (by rw [hL, e0]; simp only [List.append_assoc])
    exact this
  have e3 : fuel = (fuel - lit.length) + lit.length := by unfold fuel; omega
  have n3 := lits_run h lit (putBits 3 3) (cput fixA (s : Int) ++ putBits n x ++ cput fixB (t : Int) ++ putBits m y ++ cput fixA 256) [] (fuel - lit.length) 0 (lim := 5000) (by rw [hL]; simp only [List.append_assoc]) (by simp only [List.length_nil]; omega)
  rw [← e3, List.nil_append, Int.zero_add] at n3
  have e3' : (((putBits 3 3).length : Nat) : Int) = 3 := rfl
  rw [e3'] at n3
  obtain ⟨f1, hf1⟩ : ∃ f1, fuel - lit.length = f1 + 1 + 1 := ⟨fuel - lit.length - 2, by unfold fuel; omega⟩
  rw [hf1] at n3
  have n4 := sym_bits (a := putBits 3 3 ++ litB lit) (c := putBits n x ++ cput fixB (t : Int) ++ putBits m y ++ cput fixA 256) (s := s) h fA_fine (by rw [fA_len]; omega) (fA_pos _ (by omega)) (by rw [hL]; simp only [List.append_assoc])
  have l4 : (((putBits 3 3 ++ litB lit).length : Nat) : Int) + (len fixA s : Nat) = ((putBits 3 3 ++ litB lit ++ cput fixA (s : Int)).length : Nat) := by
    exact lapp _ _ (cput_length (by rw [fA_len]; omega))
  rw [l4] at n4
  have n5' := num_bits (a := putBits 3 3 ++ litB lit ++ cput fixA (s : Int)) (c := cput fixB (t : Int) ++ putBits m y ++ cput fixA 256) h (by omega : n ≤ 32) hx (by rw [hL]; simp only [List.append_assoc])
  have l5 : (((putBits 3 3 ++ litB lit ++ cput fixA (s : Int)).length : Nat) : Int) + (n : Nat) = ((putBits 3 3 ++ litB lit ++ cput fixA (s : Int) ++ putBits n x).length : Nat) := by
    exact lapp _ _ (by rw [putBits_nat (by omega), bitsOf_length])
  rw [l5] at n5'
  have n6 := sym_bits (a := putBits 3 3 ++ litB lit ++ cput fixA (s : Int) ++ putBits n x) (c := putBits m y ++ cput fixA 256) (s := t) h fB_fine (by rw [fB_len]; omega) (fB_pos _ (by omega)) (by rw [hL]; simp only [List.append_assoc])
  have l6 : (((putBits 3 3 ++ litB lit ++ cput fixA (s : Int) ++ putBits n x).length : Nat) : Int) + (len fixB t : Nat) = ((putBits 3 3 ++ litB lit ++ cput fixA (s : Int) ++ putBits n x ++ cput fixB (t : Int)).length : Nat) := by
    exact lapp _ _ (cput_length (by rw [fB_len]; omega))
  rw [l6] at n6
  have n7 := num_bits (a := putBits 3 3 ++ litB lit ++ cput fixA (s : Int) ++ putBits n x ++ cput fixB (t : Int)) (c := cput fixA 256) h (by omega : m ≤ 32) hy hL
  have l7 : (((putBits 3 3 ++ litB lit ++ cput fixA (s : Int) ++ putBits n x ++ cput fixB (t : Int)).length : Nat) : Int) + (m : Nat) = ((putBits 3 3 ++ litB lit ++ cput fixA (s : Int) ++ putBits n x ++ cput fixB (t : Int) ++ putBits m y).length : Nat) := by
    exact lapp _ _ (by rw [putBits_nat (by omega), bitsOf_length])
  rw [l7] at n7
  have n8 := sym_bits (a := putBits 3 3 ++ litB lit ++ cput fixA (s : Int) ++ putBits n x ++ cput fixB (t : Int) ++ putBits m y) (c := []) (s := 256) h fA_fine (by rw [fA_len]; omega) (fA_pos _ (by omega)) (by rw [hL, List.append_nil]; rfl)
  generalize (((putBits 3 3 ++ litB lit).length : Nat) : Int) = q0 at *
  generalize (((putBits 3 3 ++ litB lit ++ cput fixA (s : Int)).length : Nat) : Int) = q1 at *
  generalize (((putBits 3 3 ++ litB lit ++ cput fixA (s : Int) ++ putBits n x).length : Nat) : Int) = q2 at *
  generalize (((putBits 3 3 ++ litB lit ++ cput fixA (s : Int) ++ putBits n x ++ cput fixB (t : Int)).length : Nat) : Int) = q3 at *
  generalize (((putBits 3 3 ++ litB lit ++ cput fixA (s : Int) ++ putBits n x ++ cput fixB (t : Int) ++ putBits m y).length : Nat) : Int) = q4 at *
  have hroom : roomR 5000 lit (base + x) = .ok () := by unfold roomR; rw [if_pos (by omega)]
  have hback : backR fixB ys 5000 s q1 lit = if dist + y ≤ lit.length then .ok (q4, copyN (dist + y).toNat (base + x).toNat lit) else .error 10 := by
    unfold backR
    simp only [bind, Except.bind, r1, n5', n6, r2, n7, hroom]
  have hrun : symsR fixA fixB ys 5000 fuel 3 [] 0 = if dist + y ≤ lit.length then .ok (q4 + (len fixA 256 : Nat), copyN (dist + y).toNat (base + x).toNat lit, (lit.length : Int) + 1 + 1) else .error 10 := by
    rw [n3, syms_succ, n4]
    simp only [bind, Except.bind]
    rw [if_neg (by omega), if_neg (by omega), hback]
    by_cases hd : dist + y ≤ lit.length
    · rw [if_pos hd, if_pos hd]
      simp only
      rw [syms_succ, n8]
      simp only [bind, Except.bind]
      rw [if_pos (by omega)]
    · rw [if_neg hd, if_neg hd]
  have hmax : max (5000 : Int) 0 = 5000 := rfl
  obtain ⟨f2, hf2⟩ : ∃ f2, fuel = f2 + 1 := ⟨fuel - 1, by unfold fuel; omega⟩
  have hblock : blockR ys 5000 0 [] 0 = if dist + y ≤ lit.length then .ok (true, q4 + (len fixA 256 : Nat), copyN (dist + y).toNat (base + x).toNat lit, (lit.length : Int) + 1 + 1) else .error 10 := by
    unfold blockR
    simp only [bind, Except.bind, n1, n2]
    rw [if_neg (by decide), if_pos trivial, hrun]
    by_cases hd : dist + y ≤ lit.length
    · rw [if_pos hd, if_pos hd]; rfl
    · rw [if_neg hd, if_neg hd]
  refine ⟨fun hd => ⟨(q4 + (len fixA 256 : Nat) + 7) / 8, ?_⟩, fun hd => ?_⟩
  · rw [if_pos hd] at hblock
    unfold inflR
    rw [hmax, hf2]
    unfold blocksR
    simp only [bind, Except.bind, hblock, if_true]
    exact congrArg Except.ok (Prod.ext rfl (Prod.ext rfl (Prod.ext (by simp only; omega) rfl)))
  · rw [if_neg (by omega)] at hblock
    unfold inflR
    rw [hmax, hf2]
    unfold blocksR
    simp only [bind, Except.bind, hblock]
end Go.L1

-- D24
namespace Go.L1
open Go Go.Sx Go.Proofs Go.Huff
set_option maxRecDepth 20000
set_option linter.unusedVariables false
set_option linter.unusedSimpArgs false
theorem bnot_f {A : Leaf} (hA : A = .std) (h : A.bnot false = false) : False := by subst hA; cases h
theorem nnConv {A : Leaf} {n : Int} (hA : A = .std) (h0 : 0 ≤ n) (h1 : n ≤ 13) : A.nn (A.conv .u64 n) := by
  subst hA
  rw [conv_u64 (by omega) (by omega)]
  exact h0
theorem shl1 {A : Leaf} {n : Int} (hA : A = .std) (h0 : 0 ≤ n) (h1 : n ≤ 13) : A.ar .shl .i64 1 (A.conv .u64 n) = 2 ^ n.toNat := by
  subst hA
  rw [conv_u64 (by omega) (by omega), (shl_small (a := 1) (b := n) (by omega) (by omega) h0 h1).1, Int.one_mul]
theorem fixP_of {A : Leaf} {lit : List UInt8} {sym base extra far dist more n m : Int} (hA : A = .std) (hl : LngIs sym base n true) (hd : DstIs far dist m true)
    (h1 : A.cmp .gtr (A.len lit) 600 = false) (h2 : A.cmp .lss extra 0 = false) (h3 : A.cmp .lss more 0 = false) (h4 : A.cmp .geq extra (A.ar .shl .i64 1 (A.conv .u64 n)) = false) (h5 : A.cmp .geq more (A.ar .shl .i64 1 (A.conv .u64 m)) = false) :
    FixP lit sym base extra far dist more n.toNat m.toNat := by
  rcases hl with ⟨_, g1, g2, g3, g4, g5⟩ | ⟨g, _⟩
  case inr => cases g
  rcases hd with ⟨_, k1, k2, k3, k4, k5⟩ | ⟨g, _⟩
  case inr => cases g
  rw [shl1 hA g1 (by omega)] at h4
  rw [shl1 hA k1 k2] at h5
  subst hA
  have h1 : ¬ (600 : Int) < lit.length := of_decide_eq_false h1
  have h2 : ¬ extra < 0 := of_decide_eq_false h2
  have h3 : ¬ more < 0 := of_decide_eq_false h3
  have h4 : ¬ extra ≥ 2 ^ n.toNat := of_decide_eq_false h4
  have h5 : ¬ more ≥ 2 ^ m.toNat := of_decide_eq_false h5
  exact ⟨by omega, g5, k5, by omega, by omega, ⟨g3, g4⟩, k3, by omega, by omega, by omega, by omega⟩
structure Lb (L : List UInt8) (b : Nat) : Prop where
  le : L.length ≤ b
theorem Lb.cput {L : List UInt8} {b : Nat} (h : Lb L b) {ls : List Int} (hi : InB ls) (s : Int) : Lb (L ++ Go.L1.cput ls s) (b + 15) := ⟨by have := h.le; have := cputL_len hi s; rw [List.length_append]; omega⟩
theorem Lb.put {L : List UInt8} {b : Nat} (h : Lb L b) (n : Int) (v : Nat) : Lb (L ++ putBits n v) (b + 32) := ⟨by have := h.le; have := putBits_len n v; rw [List.length_append]; omega⟩
theorem Lb.ok {L : List UInt8} {b : Nat} (h : Lb L b) (hb : b ≤ 100000) : LenOK L := ⟨by have := h.le; omega⟩
theorem litB_len (l : List UInt8) : (litB l).length ≤ 15 * l.length := by
  induction l with
  | nil => simp [litB]
  | cons a l ih =>
    have h1 := cputL_len fixA_inb (a.toNat : Int)
    rw [show a :: l = [a] ++ l from rfl, litB_app, litB_one, List.length_append, List.length_append]
    simp only [List.length_cons, List.length_nil]
    omega
theorem lb_lit {l : List UInt8} (h : l.length ≤ 600) : Lb (putBits 3 3 ++ litB l) 9100 := ⟨by
  have h1 := litB_len l
  have h2 := putBits_len 3 3
  rw [List.length_append]; omega⟩
def LfInv (lit : List UInt8) (w : Int × Int × Int × List UInt8 × List UInt8) : Prop := ∃ j : Nat, w.1 = j ∧ j ≤ lit.length ∧ WR (putBits 3 3 ++ litB (lit.take j)) w.2.1 w.2.2.1 w.2.2.2.1 ∧ w.2.2.2.2 = lit.take j
structure LfA (A : Leaf) (lit : List UInt8) (i last m : Int) (xs out L : List UInt8) : Prop where
  q0 : A.inb i (A.len lit)
  w : WR L last m xs
  lo : LenOK L
  q1 : A.isB (A.b2i (A.get 0 lit i))
  sm : A.small (A.len (A.app out [A.i2b (A.b2i (A.get 0 lit i))])) 1
  nx : ∀ l1 m1 ys, WR (L ++ Go.L1.cput fixA (A.conv .i64 (A.b2i (A.get 0 lit i)))) l1 m1 ys → LfInv lit (A.ar .add .i64 i 1, l1, m1, ys, A.app out [A.i2b (A.b2i (A.get 0 lit i))])
  mu : (lit.length - A.ar .add .i64 i 1).toNat < (lit.length - i).toNat
theorem lfA {A : Leaf} {lit : List UInt8} {i last m : Int} {xs out : List UInt8} (hA : A = .std) (hl : lit.length ≤ 600) (hI : LfInv lit (i, last, m, xs, out)) (b1 : A.cmp .lss i (A.len lit) = true) : ∃ L, LfA A lit i last m xs out L := by
  obtain ⟨j, h1, h2, h3, h4⟩ := hI
  simp only at h1 h3 h4
  subst hA
  have b1 : i < (lit.length : Int) := of_decide_eq_true b1
  have hj : j < lit.length := by omega
  have htl : (lit.take j).length = j := by rw [List.length_take]; omega
  obtain ⟨c, hc⟩ : ∃ c, c = lit[j] := ⟨_, rfl⟩
  have eg : Leaf.std.get 0 lit i = c := by
    show lit.getD i.toNat 0 = _
    rw [h1, Int.toNat_natCast, hc]; simp [hj]
  have hcl := c.toNat_lt
  have ec : Leaf.std.conv .i64 (Leaf.std.b2i c) = (c.toNat : Int) := conv_i64 (by show (-9223372036854775808 : Int) ≤ (c.toNat : Int); omega) (by show (c.toNat : Int) ≤ _; omega)
  have eb : Leaf.std.i2b (Leaf.std.b2i c) = c := by
    show UInt8.ofNat (((c.toNat : Nat) : Int)).toNat = _
    rw [Int.toNat_natCast, UInt8.ofNat_toNat]
  have ea : Leaf.std.ar .add .i64 i 1 = ((j + 1 : Nat) : Int) := by rw [h1, add_i64 (by omega) (by omega)]; omega
  have htk : lit.take (j + 1) = lit.take j ++ [c] := by rw [List.take_add_one, List.getElem?_eq_getElem hj, hc]; rfl
  refine ⟨_, ⟨?_, h3, (lb_lit (l := lit.take j) (by omega)).ok (by decide), ?_, ?_, fun l1 m1 ys hw => ?_, ?_⟩⟩
  · show (0 : Int) ≤ i ∧ i < (lit.length : Int); omega
  · rw [eg]; show (0 : Int) ≤ ((c.toNat : Nat) : Int) ∧ ((c.toNat : Nat) : Int) < 256; omega
  · rw [eg, eb, h4]
    exact slSmall (n := j + 1) (by omega) (by rw [show Leaf.std.app (lit.take j) [c] = lit.take j ++ [c] from rfl, List.length_append, htl]; rfl)
  · rw [eg, ec] at hw
    rw [eg, eb, ea]
    refine ⟨j + 1, rfl, by omega, ?_, ?_⟩
    · rw [htk, litB_app, litB_one, ← List.append_assoc]
      exact hw
    · show out ++ [c] = _
      rw [htk, h4]
  · rw [ea, h1]; omega
structure LfF (lit : List UInt8) (last m : Int) (xs out : List UInt8) : Prop where
  w : WR (putBits 3 3 ++ litB lit) last m xs
  o : out = lit
theorem lfF {A : Leaf} {lit : List UInt8} {i last m : Int} {xs out : List UInt8} (hA : A = .std) (hI : LfInv lit (i, last, m, xs, out)) (b1 : A.cmp .lss i (A.len lit) = false) : LfF lit last m xs out := by
  obtain ⟨j, h1, h2, h3, h4⟩ := hI
  simp only at h1 h3 h4
  subst hA
  have b1 : ¬ i < (lit.length : Int) := of_decide_eq_false b1
  obtain rfl : j = lit.length := by omega
  rw [List.take_length] at h3 h4
  exact ⟨h3, h4⟩
theorem conv32 {A : Leaf} {x : Int} {n : Nat} (hA : A = .std) (h0 : 0 ≤ x) (h1 : x < 2 ^ n) (hn : n ≤ 13) {l : List UInt8} (hl : LenOK l) : PutArg (A.conv .u32 x) x.toNat l := by
  subst hA
  have h2 : (2 : Int) ^ n ≤ 8192 := by
    have := Nat.pow_le_pow_right (n := 2) (by decide) hn
    have e : (2 : Int) ^ n = ((2 ^ n : Nat) : Int) := by simp
    omega
  exact ⟨by rw [conv_u32 (by omega) (by omega)]; omega, by omega, hl.le⟩
theorem fcAt {A : Leaf} {out o : List UInt8} {base x far y i : Int} (hA : A = .std) (e1 : A.ar .add .i64 base x = base + x) (e2 : A.ar .add .i64 far y = far + y) (n0 : 0 ≤ base + x ∧ base + x ≤ 1000) (f0 : 1 ≤ far + y) (f1 : far + y ≤ out.length) (l : out.length ≤ 600)
    (hI : CpInv out (far + y).toNat (base + x).toNat (i, o)) (b1 : A.cmp .lss i (A.ar .add .i64 base x) = true) : CpAt A out o base x far y i := by
  rw [e1] at b1
  obtain ⟨j, k1, k2, k3⟩ := hI
  simp only at k1 k3
  subst hA k1
  have b1 : (j : Int) < base + x := of_decide_eq_true b1
  have ol : o.length = out.length + j := by rw [k3, copyN_len]
  have ea : Leaf.std.ar .add .i64 (j : Int) 1 = ((j + 1 : Nat) : Int) := by rw [add_i64 (by omega) (by omega)]; omega
  have es : Leaf.std.ar .sub .i64 (Leaf.std.len o) (far + y) = ((o.length - (far + y).toNat : Nat) : Int) := by
    have := sub_i64 (a := (o.length : Int)) (b := far + y) (by omega) (by omega)
    show Leaf.std.ar .sub .i64 (o.length : Int) (far + y) = _
    rw [this]; omega
  have eg : Leaf.std.get 0 o ((o.length - (far + y).toNat : Nat) : Int) = o.getD (o.length - (far + y).toNat) 0 := by show o.getD _ 0 = _; rw [Int.toNat_natCast]
  have eb : Leaf.std.i2b (Leaf.std.b2i (o.getD (o.length - (far + y).toNat) 0)) = o.getD (o.length - (far + y).toNat) 0 := by
    show UInt8.ofNat ((((o.getD (o.length - (far + y).toNat) 0).toNat : Nat) : Int)).toNat = _
    rw [Int.toNat_natCast, UInt8.ofNat_toNat]
  have hb := (o.getD (o.length - (far + y).toNat) 0).toNat_lt
  constructor
  · rw [e2, es]; show (0 : Int) ≤ _ ∧ _ < (o.length : Int); omega
  · rw [e2, es, eg]
    show (0 : Int) ≤ (((o.getD (o.length - (far + y).toNat) 0).toNat : Nat) : Int) ∧ (((o.getD (o.length - (far + y).toNat) 0).toNat : Nat) : Int) < (256 : Int); omega
  · rw [e2, es, eg, eb]
    have e : Leaf.std.len (Leaf.std.app o [o.getD (o.length - (far + y).toNat) 0]) = ((o.length + 1 : Nat) : Int) := by
      show (((o ++ [_]).length : Nat) : Int) = _
      rw [List.length_append]; rfl
    rw [e]
    show (0 : Int) ≤ _ ∧ _ ≤ (140737488355328 : Int) ∧ _ * ((1 : Nat) : Int) ≤ (140737488355328 : Int)
    omega
  · rw [e2, es, eg, eb, ea]
    refine ⟨j + 1, rfl, by omega, ?_⟩
    show o ++ [_] = _
    rw [copyN_succ, ← k3]
  · rw [ea]; omega
structure FxD (A : Leaf) (lit : List UInt8) (base extra dist more : Int) : Prop where
  n : A.ar .add .i64 base extra = base + extra
  f : A.ar .add .i64 dist more = dist + more
  n0 : 0 ≤ base + extra ∧ base + extra ≤ 1000
  f0 : 1 ≤ dist + more
  gt : A.cmp .gtr (A.ar .add .i64 dist more) (A.len lit) = true → lit.length < dist + more
  gf : A.cmp .gtr (A.ar .add .i64 dist more) (A.len lit) = false → dist + more ≤ lit.length
theorem fxD {A : Leaf} {lit : List UInt8} {sym base extra far dist more n m : Int} (hA : A = .std) (hd : DstIs far dist m true) (hp : FixP lit sym base extra far dist more n.toNat m.toNat) : FxD A lit base extra dist more := by
  rcases hd with ⟨_, _, _, _, k4, _⟩ | ⟨g, _⟩
  case inr => cases g
  obtain ⟨ll, r1, r2, n5, m13, b, d, x0, x1, y0, y1⟩ := hp
  have hx : (2 : Int) ^ n.toNat ≤ 32 := by
    have := Nat.pow_le_pow_right (n := 2) (by decide) n5
    have e : (2 : Int) ^ n.toNat = ((2 ^ n.toNat : Nat) : Int) := by simp
    omega
  have hy : (2 : Int) ^ m.toNat ≤ 8192 := by
    have := Nat.pow_le_pow_right (n := 2) (by decide) m13
    have e : (2 : Int) ^ m.toNat = ((2 ^ m.toNat : Nat) : Int) := by simp
    omega
  subst hA
  have e2 : Leaf.std.ar .add .i64 dist more = dist + more := add_i64 (by omega) (by omega)
  refine ⟨add_i64 (by omega) (by omega), e2, by omega, by omega, fun h => ?_, fun h => ?_⟩
  · rw [e2] at h
    exact of_decide_eq_true h
  · rw [e2] at h
    have h : ¬ (lit.length : Int) < dist + more := of_decide_eq_false h
    omega
theorem fcFin {A : Leaf} {out o : List UInt8} {base x far y i : Int} (hA : A = .std) (e1 : A.ar .add .i64 base x = base + x) (n0 : 0 ≤ base + x ∧ base + x ≤ 1000)
    (hI : CpInv out (far + y).toNat (base + x).toNat (i, o)) (b1 : A.cmp .lss i (A.ar .add .i64 base x) = false) : o = copyN (far + y).toNat (base + x).toNat out := by
  rw [e1] at b1
  obtain ⟨j, k1, k2, k3⟩ := hI
  simp only at k1 k3
  subst hA k1
  have b1 : ¬ (j : Int) < base + x := of_decide_eq_false b1
  have : j = (base + x).toNat := by omega
  subst this
  exact k3
theorem fxSteps {A : Leaf} {out : List UInt8} {k : Int} (hA : A = .std) (h : out.length ≤ 600) (hk : (out.length : Int) + 2 = k) : A.cmp .eql k (A.ar .add .i64 (A.len out) 2) = true := by
  subst hA
  show (k == Leaf.std.ar .add .i64 (out.length : Int) 2) = true
  rw [add_i64 (by omega) (by omega), hk]
  simp
theorem fixed_law (lit : List UInt8) (sym extra far more : Int) : FOK Try.prog C1 14 (fun _ => false) [.ro (.bytes lit), .int .i64 sym, .int .i64 extra, .int .i64 far, .int .i64 more] [] Yes := by
  refine fok_of (B := ⟨lookT tis, fun _ => false, []⟩) (tab1 _) (zero1 _) cod1 mix1 Try.func14 (by kernel_rfl) rfl rfl rfl fun X F => ?_
  obtain ⟨A, hA⟩ : ∃ A, A = Leaf.std := ⟨_, rfl⟩
  refine F.hold hA 2000 ?_
  cbv
  repeat' (first
    | refine OK.drawn (by decide +kernel) ?_
    | refine OK.tree ⟨lookT tis, fun _ => true, []⟩ (by decide +kernel) ?_
    | refine OK.both ?_ ?_
    | refine OK.need (by first | assumption | (rw [hA]; first | (show (_ : Int) ≠ _; decide) | (show (0 : Int) ≤ _; decide) | (show (0 : Int) ≤ _ ∧ _ < (256 : Int); decide))) ?_
    | refine OK.need ?_ ?_
    | (refine OK.branch ?_ ?_ <;> intro h)
    | (refine F.hold hA 2000 ?_; cbv))
  refine F.call [] (alive6_ok) rfl rfl rfl fun rs H' hq => ?_
  obtain ⟨b, rfl, rfl, rfl⟩ := hq
  refine ⟨rfl, ?_⟩
  repeat' (first
    | contradiction
    | exact (bnot_t hA (by assumption)).elim
    | refine OK.drawn (by decide +kernel) ?_
    | refine OK.tree ⟨lookT tis, fun _ => true, []⟩ (by decide +kernel) ?_
    | refine OK.both ?_ ?_
    | refine OK.need (by first | assumption | (rw [hA]; first | (show (_ : Int) ≠ _; decide) | (show (0 : Int) ≤ _; decide) | (show (0 : Int) ≤ _ ∧ _ < (256 : Int); decide))) ?_
    | refine OK.need ?_ ?_
    | (refine OK.branch ?_ ?_ <;> intro h)
    | (refine F.hold hA 2000 ?_; cbv))
  refine F.call [] (length_ok sym) rfl rfl rfl fun rs H' hq => ?_
  obtain ⟨base, n, ok, rfl, rfl, hl⟩ := hq
  refine ⟨rfl, ?_⟩
  repeat (first
    | refine OK.drawn (by decide +kernel) ?_
    | refine OK.tree ⟨lookT tis, fun _ => true, []⟩ (by decide +kernel) ?_
    | refine OK.need (by first | assumption | (rw [hA]; first | (show (_ : Int) ≠ _; decide) | (show (0 : Int) ≤ _; decide) | (show (0 : Int) ≤ _ ∧ _ < (256 : Int); decide))) ?_
    | (refine F.hold hA 2000 ?_; cbv))
  refine F.call [] (distance_ok far) rfl rfl rfl fun rs H' hq => ?_
  obtain ⟨dist, m, ok2, rfl, rfl, hd⟩ := hq
  refine ⟨rfl, ?_⟩
  have hl0 := hl
  have hd0 := hd
  rcases hl0 with ⟨rfl, g1, g2, _⟩ | ⟨rfl, rfl, rfl, _⟩
  case inr =>
    repeat' (first
      | contradiction
      | exact (bnot_f hA (by assumption)).elim
      | refine OK.drawn (by decide +kernel) ?_
      | refine OK.tree ⟨lookT tis, fun _ => true, []⟩ (by decide +kernel) ?_
      | refine OK.both ?_ ?_
      | refine OK.need (by first | assumption | (rw [hA]; first | (show (_ : Int) ≠ _; decide) | (show (0 : Int) ≤ _; decide) | (show (0 : Int) ≤ _ ∧ _ < (256 : Int); decide))) ?_
      | refine OK.need ?_ ?_
      | (refine OK.branch ?_ ?_ <;> intro h)
      | (refine F.hold hA 2000 ?_; cbv))
    all_goals exact F.ret0 ⟨_, rfl, rfl⟩
  rcases hd0 with ⟨rfl, k1, k2, _⟩ | ⟨rfl, rfl, rfl, _⟩
  case inr =>
    repeat' (first
      | contradiction
      | exact (bnot_t hA (by assumption)).elim
      | exact (bnot_f hA (by assumption)).elim
      | refine OK.drawn (by decide +kernel) ?_
      | refine OK.tree ⟨lookT tis, fun _ => true, []⟩ (by decide +kernel) ?_
      | refine OK.both ?_ ?_
      | refine OK.need (by first | assumption | (rw [hA]; first | (show (_ : Int) ≠ _; decide) | (show (0 : Int) ≤ _; decide) | (show (0 : Int) ≤ _ ∧ _ < (256 : Int); decide))) ?_
      | refine OK.need ?_ ?_
      | (refine OK.branch ?_ ?_ <;> intro h)
      | (refine F.hold hA 2000 ?_; cbv))
    all_goals exact F.ret0 ⟨_, rfl, rfl⟩
  have q1 := nnConv (n := n) hA g1 (by omega)
  have q2 := nnConv (n := m) hA k1 k2
  repeat' (first
    | contradiction
    | exact (bnot_t hA (by assumption)).elim
    | refine OK.drawn (by decide +kernel) ?_
    | refine OK.tree ⟨lookT tis, fun _ => true, []⟩ (by decide +kernel) ?_
    | refine OK.both ?_ ?_
    | refine OK.need (by first | assumption | (rw [hA]; first | (show (_ : Int) ≠ _; decide) | (show (0 : Int) ≤ _; decide) | (show (0 : Int) ≤ _ ∧ _ < (256 : Int); decide))) ?_
    | refine OK.need ?_ ?_
    | (refine OK.branch ?_ ?_ <;> intro h)
    | (refine F.hold hA 2000 ?_; cbv))
  iterate 5
    rotate_left 0
    exact F.ret0 ⟨_, rfl, rfl⟩
  have hp := fixP_of (extra := extra) (more := more) hA hl hd (by assumption) (by assumption) (by assumption) (by assumption) (by assumption)
  refine F.call [] (fixed_ok) rfl rfl rfl fun rs H' hq => ?_
  obtain ⟨xa, xb, rfl, rfl, hx⟩ := hq
  refine ⟨rfl, ?_⟩
  obtain ⟨rfl, rfl⟩ := hx
  repeat (first
    | refine OK.drawn (by decide +kernel) ?_
    | refine OK.tree ⟨lookT tis, fun _ => true, []⟩ (by decide +kernel) ?_
    | refine OK.need (by first | assumption | (rw [hA]; first | (show (_ : Int) ≠ _; decide) | (show (0 : Int) ≤ _; decide) | (show (0 : Int) ≤ _ ∧ _ < (256 : Int); decide))) ?_
    | (refine F.hold hA 2000 ?_; cbv))
  refine F.call [] (new_ok fixA) rfl rfl rfl fun rs H' hq => ?_
  rcases hq with ⟨e, rfl, rfl, hbad⟩ | ⟨ws, fs, cs, ss, os, r, rfl, rfl, hc⟩
  · exfalso
    rcases hbad with ⟨_, hb⟩ | ⟨_, _, hb⟩
    · exact hb ⟨fA_fine.le, fA_fine.inb⟩
    · have := fA_fine.room; omega
  generalize hfa : fixA = fa at hc
  refine ⟨rfl, ?_⟩
  repeat (first
    | refine OK.drawn (by decide +kernel) ?_
    | refine OK.tree ⟨lookT tis, fun _ => true, []⟩ (by decide +kernel) ?_
    | refine OK.need (by first | assumption | (rw [hA]; first | (show (_ : Int) ≠ _; decide) | (show (0 : Int) ≤ _; decide) | (show (0 : Int) ≤ _ ∧ _ < (256 : Int); decide))) ?_
    | (refine F.hold hA 2000 ?_; cbv))
  refine F.call [] (new_ok fixB) rfl rfl rfl fun rs H' hq => ?_
  rcases hq with ⟨e, rfl, rfl, hbad⟩ | ⟨ws2, fs2, cs2, ss2, os2, r2, rfl, rfl, hc2⟩
  · exfalso
    rcases hbad with ⟨_, hb⟩ | ⟨_, _, hb⟩
    · exact hb ⟨fB_fine.le, fB_fine.inb⟩
    · have := fB_fine.room; omega
  generalize hfb : fixB = fb at hc2
  refine ⟨rfl, ?_⟩
  repeat' (first
    | contradiction
    | exact (neq_self hA (by assumption)).elim
    | refine OK.drawn (by decide +kernel) ?_
    | refine OK.tree ⟨lookT tis, fun _ => true, []⟩ (by decide +kernel) ?_
    | refine OK.both ?_ ?_
    | refine OK.need (by first | assumption | (rw [hA]; first | (show (_ : Int) ≠ _; decide) | (show (0 : Int) ≤ _; decide) | (show (0 : Int) ≤ _ ∧ _ < (256 : Int); decide))) ?_
    | refine OK.need ?_ ?_
    | (refine OK.branch ?_ ?_ <;> intro h)
    | (refine F.hold hA 2000 ?_; cbv))
  refine F.call [] (newWriter_ok) rfl rfl rfl fun rs H' hq => ?_
  obtain ⟨rfl, rfl⟩ := hq
  refine ⟨rfl, ?_⟩
  repeat (first
    | refine OK.drawn (by decide +kernel) ?_
    | refine OK.tree ⟨lookT tis, fun _ => true, []⟩ (by decide +kernel) ?_
    | refine OK.need (by first | assumption | (rw [hA]; first | (show (_ : Int) ≠ _; decide) | (show (0 : Int) ≤ _; decide) | (show (0 : Int) ≤ _ ∧ _ < (256 : Int); decide))) ?_
    | (refine F.hold hA 2000 ?_; cbv))
  refine F.call [4, 5] (putW 3 3 3 [] 0 0 [] WR.nil ⟨rfl, by decide, by decide⟩) rfl rfl rfl fun rs H' hq => ?_
  obtain ⟨last0, m0, xs0, rfl, rfl, hw0⟩ := hq
  refine ⟨rfl, ?_⟩
  repeat (first
    | refine OK.drawn (by decide +kernel) ?_
    | refine OK.tree ⟨lookT tis, fun _ => true, []⟩ (by decide +kernel) ?_
    | refine OK.need (by first | assumption | (rw [hA]; first | (show (_ : Int) ≠ _; decide) | (show (0 : Int) ≤ _; decide) | (show (0 : Int) ≤ _ ∧ _ < (256 : Int); decide))) ?_
    | (refine F.hold hA 2000 ?_; cbv))
  have hll := hp.ll
  refine F.loop (V := Int × Int × Int × List UInt8 × List UInt8) [0, 1, 2, 3, 4, 11, 12, 14, 15, 19, 21, 23] (LfInv lit) (fun w => (lit.length - w.1).toNat) (fun w => [(24, .own 6), (25, .int .i64 w.1)]) (fun w => [(4, .cells 88 [.own 5, .int .u64 w.2.1, .int .i64 w.2.2.1]), (5, .row 5 (.bytes w.2.2.2.1)), (6, .row 5 (.bytes w.2.2.2.2))]) (_, _, _, _, _) (by cbv; repeat (first | exact WkH.nil _ | apply WkH.gone | refine WkH.eq rfl ?_)) (by cbv; repeat (first | apply WkL.any | exact WkL.nil _ | refine WkL.eq rfl ?_ | refine WkL.bool rfl ?_)) (by cbv; exact ⟨rfl⟩) ?_ ?_
  · exact ⟨0, rfl, Nat.zero_le _, hw0, rfl⟩
  clear hw0
  rintro ⟨i, last, mm, xs, out⟩ hI Bk hBk
  repeat (first
    | refine OK.drawn (by decide +kernel) ?_
    | refine OK.tree ⟨lookT tis, fun _ => true, []⟩ (by decide +kernel) ?_
    | refine OK.need (by first | assumption | (rw [hA]; first | (show (_ : Int) ≠ _; decide) | (show (0 : Int) ≤ _; decide) | (show (0 : Int) ≤ _ ∧ _ < (256 : Int); decide))) ?_
    | (refine F.hold hA 2000 ?_; cbv))
  refine OK.branch (fun b1 => ?_) (fun b1 => ?_)
  · obtain ⟨L, hat⟩ := lfA hA hll hI b1
    have q0 := hat.q0
    have qb := hat.q1
    have qs := hat.sm
    repeat (first
      | refine OK.drawn (by decide +kernel) ?_
      | refine OK.tree ⟨lookT tis, fun _ => true, []⟩ (by decide +kernel) ?_
      | refine OK.need (by first | assumption | (rw [hA]; first | (show (_ : Int) ≠ _; decide) | (show (0 : Int) ≤ _; decide) | (show (0 : Int) ≤ _ ∧ _ < (256 : Int); decide))) ?_
      | (refine F.hold hA 2000 ?_; cbv))
    refine F.call [1, 4, 5] (cputW_ok fa ws fs cs ss os r _ L last mm xs hc hat.w hat.lo) rfl rfl rfl fun rs H' hq => ?_
    obtain ⟨okp, l1, m1, ys, rfl, rfl, _, hw1⟩ := hq
    refine ⟨rfl, ?_⟩
    rw [← hfa] at hw1
    have hnx := hat.nx _ _ _ hw1
    repeat' (first
      | refine OK.drawn (by decide +kernel) ?_
      | refine OK.tree ⟨lookT tis, fun _ => true, []⟩ (by decide +kernel) ?_
      | refine OK.both ?_ ?_
      | refine OK.need (by first | assumption | (rw [hA]; first | (show (_ : Int) ≠ _; decide) | (show (0 : Int) ≤ _; decide) | (show (0 : Int) ≤ _ ∧ _ < (256 : Int); decide))) ?_
      | refine OK.need ?_ ?_
      | (refine OK.branch ?_ ?_ <;> intro h)
      | (refine F.hold hA 2000 ?_; cbv))
    refine OK.back (hBk _ _ (_, _, _, _, _) (by cbv; repeat (first | exact WkH.nil _ | apply WkH.gone | refine WkH.eq rfl ?_)) (by cbv; repeat (first | apply WkL.any | exact WkL.nil _ | refine WkL.eq rfl ?_ | refine WkL.bool rfl ?_)) (by cbv; exact ⟨rfl⟩) ?_ ?_)
    · exact hnx
    · exact hat.mu
  have hF := lfF hA hI b1
  clear hBk hI
  obtain ⟨hw, rfl⟩ := hF
  repeat (first
    | refine OK.drawn (by decide +kernel) ?_
    | refine OK.tree ⟨lookT tis, fun _ => true, []⟩ (by decide +kernel) ?_
    | refine OK.need (by first | assumption | (rw [hA]; first | (show (_ : Int) ≠ _; decide) | (show (0 : Int) ≤ _; decide) | (show (0 : Int) ≤ _ ∧ _ < (256 : Int); decide))) ?_
    | (refine F.hold hA 2000 ?_; cbv))
  have c0 := lb_lit hll
  refine F.call [1, 4, 5] (cputW_ok fa ws fs cs ss os r sym _ last mm xs hc hw (c0.ok (by decide))) rfl rfl rfl fun rs H' hq => ?_
  obtain ⟨ok1, l1, m1, x1, rfl, rfl, _, hw1⟩ := hq
  refine ⟨rfl, ?_⟩
  rw [← hfa] at hw1
  have c1 := c0.cput fixA_inb sym
  clear hw
  repeat (first
    | refine OK.drawn (by decide +kernel) ?_
    | refine OK.tree ⟨lookT tis, fun _ => true, []⟩ (by decide +kernel) ?_
    | refine OK.need (by first | assumption | (rw [hA]; first | (show (_ : Int) ≠ _; decide) | (show (0 : Int) ≤ _; decide) | (show (0 : Int) ≤ _ ∧ _ < (256 : Int); decide))) ?_
    | (refine F.hold hA 2000 ?_; cbv))
  refine F.call [4, 5] (putW n _ extra.toNat _ l1 m1 x1 hw1 (conv32 hA hp.x0 hp.x1 (by omega) (c1.ok (by decide)))) rfl rfl rfl fun rs H' hq => ?_
  obtain ⟨l2, m2, x2, rfl, rfl, hw2⟩ := hq
  refine ⟨rfl, ?_⟩
  have c2 := c1.put n extra.toNat
  clear hw1
  repeat (first
    | refine OK.drawn (by decide +kernel) ?_
    | refine OK.tree ⟨lookT tis, fun _ => true, []⟩ (by decide +kernel) ?_
    | refine OK.need (by first | assumption | (rw [hA]; first | (show (_ : Int) ≠ _; decide) | (show (0 : Int) ≤ _; decide) | (show (0 : Int) ≤ _ ∧ _ < (256 : Int); decide))) ?_
    | (refine F.hold hA 2000 ?_; cbv))
  refine F.call [3, 4, 5] (cputW_ok fb ws2 fs2 cs2 ss2 os2 r2 far _ l2 m2 x2 hc2 hw2 (c2.ok (by decide))) rfl rfl rfl fun rs H' hq => ?_
  obtain ⟨ok2, l3, m3, x3, rfl, rfl, _, hw3⟩ := hq
  refine ⟨rfl, ?_⟩
  rw [← hfb] at hw3
  have c3 := c2.cput fixB_inb far
  clear hw2
  repeat (first
    | refine OK.drawn (by decide +kernel) ?_
    | refine OK.tree ⟨lookT tis, fun _ => true, []⟩ (by decide +kernel) ?_
    | refine OK.need (by first | assumption | (rw [hA]; first | (show (_ : Int) ≠ _; decide) | (show (0 : Int) ≤ _; decide) | (show (0 : Int) ≤ _ ∧ _ < (256 : Int); decide))) ?_
    | (refine F.hold hA 2000 ?_; cbv))
  refine F.call [4, 5] (putW m _ more.toNat _ l3 m3 x3 hw3 (conv32 hA hp.y0 hp.y1 (by omega) (c3.ok (by decide)))) rfl rfl rfl fun rs H' hq => ?_
  obtain ⟨l4, m4, x4, rfl, rfl, hw4⟩ := hq
  refine ⟨rfl, ?_⟩
  have c4 := c3.put m more.toNat
  clear hw3
  repeat (first
    | refine OK.drawn (by decide +kernel) ?_
    | refine OK.tree ⟨lookT tis, fun _ => true, []⟩ (by decide +kernel) ?_
    | refine OK.need (by first | assumption | (rw [hA]; first | (show (_ : Int) ≠ _; decide) | (show (0 : Int) ≤ _; decide) | (show (0 : Int) ≤ _ ∧ _ < (256 : Int); decide))) ?_
    | (refine F.hold hA 2000 ?_; cbv))
  refine F.call [1, 4, 5] (cputW_ok fa ws fs cs ss os r 256 _ l4 m4 x4 hc hw4 (c4.ok (by decide))) rfl rfl rfl fun rs H' hq => ?_
  obtain ⟨ok3, l5, m5, x5, rfl, rfl, _, hw5⟩ := hq
  refine ⟨rfl, ?_⟩
  rw [← hfa] at hw5
  have c5 := c4.cput fixA_inb 256
  clear hw4
  repeat (first
    | refine OK.drawn (by decide +kernel) ?_
    | refine OK.tree ⟨lookT tis, fun _ => true, []⟩ (by decide +kernel) ?_
    | refine OK.need (by first | assumption | (rw [hA]; first | (show (_ : Int) ≠ _; decide) | (show (0 : Int) ≤ _; decide) | (show (0 : Int) ≤ _ ∧ _ < (256 : Int); decide))) ?_
    | (refine F.hold hA 2000 ?_; cbv))
  refine F.call [4, 5] (outW _ l5 m5 x5 hw5) rfl rfl rfl fun rs H' hq => ?_
  obtain ⟨ys, rfl, rfl, hos⟩ := hq
  refine ⟨rfl, ?_⟩
  have hY := Ys.of hw5 hos
  clear hw5 hos
  have hYl := hY.n
  have hc5 := c5.le
  have hY : Ys (fixL out sym extra far more n.toNat m.toNat) ys := by
    unfold fixL
    rw [Int.toNat_of_nonneg g1, Int.toNat_of_nonneg k1]
    exact hY
  clear c0 c1 c2 c3 c4 c5
  repeat (first
    | refine OK.drawn (by decide +kernel) ?_
    | refine OK.tree ⟨lookT tis, fun _ => true, []⟩ (by decide +kernel) ?_
    | refine OK.need (by first | assumption | (rw [hA]; first | (show (_ : Int) ≠ _; decide) | (show (0 : Int) ≤ _; decide) | (show (0 : Int) ≤ _ ∧ _ < (256 : Int); decide))) ?_
    | (refine F.hold hA 2000 ?_; cbv))
  refine F.callFrz 7 rfl rfl rfl rfl ?_
  have hF := infl_fixed hp hY
  refine F.call [] (inflate_ok ys 5000 ⟨by omega, by omega⟩) rfl rfl rfl fun rs H' hq => ?_
  by_cases hle : dist + more ≤ out.length
  case neg =>
    obtain ⟨rfl, rfl⟩ := hq.isErr (hF.2 (by omega))
    refine ⟨rfl, ?_⟩
    clear hq
    have hD := fxD hA hd hp
    repeat (first
      | refine OK.drawn (by decide +kernel) ?_
      | refine OK.tree ⟨lookT tis, fun _ => true, []⟩ (by decide +kernel) ?_
      | refine OK.need (by first | assumption | (rw [hA]; first | (show (_ : Int) ≠ _; decide) | (show (0 : Int) ≤ _; decide) | (show (0 : Int) ≤ _ ∧ _ < (256 : Int); decide))) ?_
      | (refine F.hold hA 2000 ?_; cbv))
    refine OK.branch (fun b2 => ?_) (fun b2 => absurd (hD.gf b2) hle)
    repeat (first
      | refine OK.drawn (by decide +kernel) ?_
      | refine OK.tree ⟨lookT tis, fun _ => true, []⟩ (by decide +kernel) ?_
      | refine OK.need (by first | assumption | (rw [hA]; first | (show (_ : Int) ≠ _; decide) | (show (0 : Int) ≤ _; decide) | (show (0 : Int) ≤ _ ∧ _ < (256 : Int); decide))) ?_
      | (refine F.hold hA 2000 ?_; cbv))
    exact F.ret0 ⟨_, rfl, by subst hA; rfl⟩
  obtain ⟨used, hu⟩ := hF.1 hle
  generalize hcp : copyN (dist + more).toNat (base + extra).toNat out = res at hu
  generalize hkk : (out.length : Int) + 2 = kk at hu
  obtain ⟨rfl, rfl⟩ := hq.isOk hu
  refine ⟨rfl, ?_⟩
  clear hq
  have hD := fxD hA hd hp
  repeat (first
    | refine OK.drawn (by decide +kernel) ?_
    | refine OK.tree ⟨lookT tis, fun _ => true, []⟩ (by decide +kernel) ?_
    | refine OK.need (by first | assumption | (rw [hA]; first | (show (_ : Int) ≠ _; decide) | (show (0 : Int) ≤ _; decide) | (show (0 : Int) ≤ _ ∧ _ < (256 : Int); decide))) ?_
    | (refine F.hold hA 2000 ?_; cbv))
  refine OK.branch (fun b2 => absurd hle (Int.not_le.2 (hD.gt b2))) (fun b2 => ?_)
  have hrl : res.length ≤ 100000 := by rw [← hcp, copyN_len]; have := hD.n0; omega
  have hkE : A.cmp .eql kk (A.ar .add .i64 (A.len out) 2) = true := fxSteps hA hll hkk
  clear hu hF hY hYl hc5 hkk
  repeat (first
    | refine OK.drawn (by decide +kernel) ?_
    | refine OK.tree ⟨lookT tis, fun _ => true, []⟩ (by decide +kernel) ?_
    | refine OK.need (by first | assumption | (rw [hA]; first | (show (_ : Int) ≠ _; decide) | (show (0 : Int) ≤ _; decide) | (show (0 : Int) ≤ _ ∧ _ < (256 : Int); decide))) ?_
    | (refine F.hold hA 2000 ?_; cbv))
  refine F.loop (V := Int × List UInt8) [0, 2, 11, 26, 27, 28] (CpInv out (dist + more).toNat (base + extra).toNat) (fun w => (base + extra - w.1).toNat) (fun w => [(24, .own 6), (29, .int .i64 w.1)]) (fun w => [(6, .row 5 (.bytes w.2))]) (_, _) (by cbv; repeat (first | exact WkH.nil _ | apply WkH.gone | refine WkH.eq rfl ?_)) (by cbv; repeat (first | apply WkL.any | exact WkL.nil _ | refine WkL.eq rfl ?_ | refine WkL.bool rfl ?_)) (by cbv; exact ⟨rfl⟩) ?_ ?_
  · exact ⟨0, rfl, Nat.zero_le _, rfl⟩
  rintro ⟨j, o⟩ hI Bk hBk
  repeat (first
    | refine OK.drawn (by decide +kernel) ?_
    | refine OK.tree ⟨lookT tis, fun _ => true, []⟩ (by decide +kernel) ?_
    | refine OK.need (by first | assumption | (rw [hA]; first | (show (_ : Int) ≠ _; decide) | (show (0 : Int) ≤ _; decide) | (show (0 : Int) ≤ _ ∧ _ < (256 : Int); decide))) ?_
    | (refine F.hold hA 2000 ?_; cbv))
  refine OK.branch (fun b3 => ?_) (fun b3 => ?_)
  · have hat := fcAt hA hD.n hD.f hD.n0 hD.f0 hle hll hI b3
    have q4 := hat.q1
    have q5 := hat.q2
    have q6 := hat.q3
    repeat' (first
      | refine OK.drawn (by decide +kernel) ?_
      | refine OK.tree ⟨lookT tis, fun _ => true, []⟩ (by decide +kernel) ?_
      | refine OK.both ?_ ?_
      | refine OK.need (by first | assumption | (rw [hA]; first | (show (_ : Int) ≠ _; decide) | (show (0 : Int) ≤ _; decide) | (show (0 : Int) ≤ _ ∧ _ < (256 : Int); decide))) ?_
      | refine OK.need ?_ ?_
      | (refine OK.branch ?_ ?_ <;> intro h)
      | (refine F.hold hA 2000 ?_; cbv))
    refine OK.back (hBk _ _ (_, _) (by cbv; repeat (first | exact WkH.nil _ | apply WkH.gone | refine WkH.eq rfl ?_)) (by cbv; repeat (first | apply WkL.any | exact WkL.nil _ | refine WkL.eq rfl ?_ | refine WkL.bool rfl ?_)) (by cbv; exact ⟨rfl⟩) ?_ ?_)
    · exact hat.nx
    · exact hat.mu
  have hfin := fcFin hA hD.n hD.n0 hI b3
  rw [hcp] at hfin
  subst hfin
  clear hBk hI
  repeat' (first
    | contradiction
    | exact (eql_self hA (by assumption)).elim
    | refine OK.drawn (by decide +kernel) ?_
    | refine OK.tree ⟨lookT tis, fun _ => true, []⟩ (by decide +kernel) ?_
    | refine OK.both ?_ ?_
    | refine OK.need (by first | assumption | (rw [hA]; first | (show (_ : Int) ≠ _; decide) | (show (0 : Int) ≤ _; decide) | (show (0 : Int) ≤ _ ∧ _ < (256 : Int); decide))) ?_
    | refine OK.need ?_ ?_
    | (refine OK.branch ?_ ?_ <;> intro h)
    | (refine F.hold hA 2000 ?_; cbv))
  refine F.callFrz 6 rfl rfl rfl rfl ?_
  refine F.callFrz 13 rfl rfl rfl rfl ?_
  refine F.call [] (same_ok o o (Nat.le_trans hrl (by decide))) rfl rfl rfl fun rs H' hq => ?_
  obtain ⟨r, rfl, rfl, hr⟩ := hq
  obtain rfl : r = true := hr.2 rfl
  refine ⟨rfl, ?_⟩
  clear hr
  repeat' (first
    | contradiction
    | exact (eql_self hA (by assumption)).elim
    | refine OK.drawn (by decide +kernel) ?_
    | refine OK.tree ⟨lookT tis, fun _ => true, []⟩ (by decide +kernel) ?_
    | refine OK.both ?_ ?_
    | refine OK.need (by first | assumption | (rw [hA]; first | (show (_ : Int) ≠ _; decide) | (show (0 : Int) ≤ _; decide) | (show (0 : Int) ≤ _ ∧ _ < (256 : Int); decide))) ?_
    | refine OK.need ?_ ?_
    | (refine OK.branch ?_ ?_ <;> intro h)
    | (refine F.hold hA 2000 ?_; cbv))
  exact F.ret0 ⟨_, rfl, hkE⟩
end Go.L1
