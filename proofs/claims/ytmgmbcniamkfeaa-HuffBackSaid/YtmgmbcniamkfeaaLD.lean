/- Own work of the session: part LD of a proof that the program's functions do what the statement says (a symbolic executor, contracts of the functions, plain laws). -/
import Derived.Test.YtmgmbcniamkfeaaLC
set_option linter.all false
-- B9
namespace Go.L1
open Go Go.Sx Go.Proofs Go.Huff
set_option maxRecDepth 20000
set_option linter.unusedVariables false
set_option linter.unusedSimpArgs false
theorem revN_mod (n v : Nat) : revN n (v % 2 ^ n) = revN n v := by
  apply Nat.eq_of_testBit_eq
  intro i
  rw [revN_bit, revN_bit, Nat.testBit_mod_two_pow]
  by_cases h : i < n
  · simp [h, show n - 1 - i < n from by omega]
  · simp [h]
structure PreAt (A : Leaf) (a b v n w m : Int) (is : Bool) : Prop where
  q : A.cmp .leq n m = true → A.nn (A.conv .u64 n)
  bad : is = true → A.cmp .neq a b = true → A.cmp .leq n m = true → A.cmp .eql (A.ar .and .u32 w (A.ar .sub .u32 (A.ar .shl .u32 1 (A.conv .u64 n)) 1)) v = true → False
theorem preAt {A : Leaf} {ls : List Int} {v n w m a b : Int} {ok is : Bool} (hA : A = .std) (hf : Fine ls) (hv : BitIs ls a v n ok) (hw : BitIs ls b w m is) (hok : A.bnot ok = false) : PreAt A a b v n w m is := by
  subst hA
  rcases hv with ⟨_, s, rfl, hs, ls1, rfl, rfl⟩ | ⟨hv, _⟩
  case inr => subst hv; cases hok
  have hl1 := len_le hf.inb s
  have e1 : Leaf.std.conv .u64 ((len ls s : Nat) : Int) = ((len ls s : Nat) : Int) := l_conv_u64 (by omega) (by omega)
  refine ⟨fun _ => by rw [e1]; show (0 : Int) ≤ _; omega, fun his hab hnm he => ?_⟩
  rcases hw with ⟨_, t, rfl, ht, lt1, rfl, rfl⟩ | ⟨hw, _⟩
  case inr => rw [hw] at his; cases his
  have hl2 := len_le hf.inb t
  have hnm : ((len ls s : Nat) : Int) ≤ (len ls t : Nat) := of_decide_eq_true hnm
  have hab : s ≠ t := by
    intro h; subst h
    have hab : (!((s : Int) == (s : Int))) = true := hab
    simp at hab
  have r2 := revN_lt (len ls t) (code ls t)
  have p1 : 2 ^ len ls s ≤ 2 ^ 15 := Nat.pow_le_pow_right (by decide) hl1
  have p2 : 2 ^ len ls t ≤ 2 ^ 15 := Nat.pow_le_pow_right (by decide) hl2
  have p3 := Nat.two_pow_pos (len ls s)
  have c1 := code_lt hf.inb hf.room hs ls1
  have c2 := code_lt hf.inb hf.room ht lt1
  rw [e1] at he
  have he : ((LAr .and .u32 ((revN (len ls t) (code ls t) : Nat) : Int) (LAr .sub .u32 (LAr .shl .u32 1 ((len ls s : Nat) : Int)) 1)) == ((revN (len ls s) (code ls s) : Nat) : Int)) = true := he
  have e2 : LAr .shl .u32 1 ((len ls s : Nat) : Int) = ((2 ^ len ls s : Nat) : Int) := by
    have := shl_nat (a := 1) (b := len ls s) (by omega) (by omega)
    simpa using this
  have e3 : LAr .sub .u32 ((2 ^ len ls s : Nat) : Int) 1 = ((2 ^ len ls s - 1 : Nat) : Int) := by
    have := l_sub_u32 (a := ((2 ^ len ls s : Nat) : Int)) (b := 1) (by omega) (by omega)
    rw [this]; omega
  have e4 : LAr .and .u32 ((revN (len ls t) (code ls t) : Nat) : Int) ((2 ^ len ls s - 1 : Nat) : Int) = ((revN (len ls t) (code ls t) % 2 ^ len ls s : Nat) : Int) := by
    rw [l_and_u32 (by omega) (by omega) (by omega) (by omega), Int.toNat_natCast, Int.toNat_natCast, Nat.and_two_pow_sub_one_eq_mod]
  rw [e2, e3, e4, beq_iff_eq] at he
  have he : revN (len ls t) (code ls t) % 2 ^ len ls s = revN (len ls s) (code ls s) := by omega
  refine prefix_free hf.inb hs ht ls1 hab (by omega) ?_
  have k1 := revN_pre (len ls s) (len ls t - len ls s) (revN (len ls t) (code ls t))
  rw [show len ls s + (len ls t - len ls s) = len ls t from by omega, revN_rev, Nat.mod_eq_of_lt c2] at k1
  rw [k1, ← revN_mod, he, revN_rev, Nat.mod_eq_of_lt c1]
/-- Of a complete code all bits begin with some code. -/
theorem full_hit {ls : List Int} (hf : Fine ls) (hr : roomN ls = 32768) {V left : Nat} (hl : 15 ≤ left) : ∃ s, Hit ls V left s := by
  have hx := revN_lt 15 V
  have hpart : ∀ d, d ≤ 15 → revN 15 V < Go.Huff.part ls d → ∃ l, l < d ∧ Go.Huff.part ls l ≤ revN 15 V ∧ revN 15 V < Go.Huff.part ls (l + 1) := by
    intro d
    induction d with
    | zero => intro _ h; rw [part_zero] at h; omega
    | succ d ih =>
      intro hd h
      rcases Nat.lt_or_ge (revN 15 V) (Go.Huff.part ls d) with h1 | h1
      · obtain ⟨l, a, b⟩ := ih (by omega) h1; exact ⟨l, by omega, b⟩
      · exact ⟨d, by omega, h1, h⟩
  obtain ⟨l, l1, l2, l3⟩ := hpart 15 (by omega) (by rw [part_all hf.inb, hr]; omega)
  rw [part_eq ls l (by omega)] at l2
  rw [part_eq ls (l + 1) (by omega)] at l3
  have e : 15 - l = 15 - (l + 1) + 1 := by omega
  rw [e, Nat.pow_succ, Nat.mul_comm (2 ^ (15 - (l + 1))) 2, ← Nat.mul_assoc, Nat.mul_comm _ 2] at l2
  have l2 : fst ls (l + 1) * 2 ^ (15 - (l + 1)) ≤ revN 15 V := l2
  have hp := Nat.two_pow_pos (15 - (l + 1))
  have k := revN_pre (l + 1) (15 - (l + 1)) V
  rw [show l + 1 + (15 - (l + 1)) = 15 from by omega] at k
  have k2 := (Nat.le_div_iff_mul_le hp).2 l2
  have k3 := (Nat.div_lt_iff_lt_mul hp).2 l3
  rw [k] at k2 k3
  obtain ⟨s, s1, s2, s3⟩ := ex_code (ls := ls) (l := l + 1) (c := revN (l + 1) V) (by omega) k2 k3
  exact ⟨s, s1, by omega, by omega, by rw [s2]; exact s3⟩
theorem three {A : Leaf} (hA : A = .std) (x y z : Int) : (A.isB (A.conv .u8 x) ∧ A.isB (A.conv .u8 y)) ∧ A.isB (A.conv .u8 z) := by
  subst hA
  have h : ∀ x : Int, (0 : Int) ≤ IntKind.u8.wrap x ∧ IntKind.u8.wrap x < 256 := fun x => by
    simp only [IntKind.wrap, IntKind.signed, IntKind.bits]
    simp
    omega
  exact ⟨⟨h x, h y⟩, h z⟩
theorem rd3 (x y z : UInt8) : RdOK [x, y, z] 0 := by
  have e : ([x, y, z] : List UInt8).length = 3 := rfl
  refine ⟨⟨?_, by decide, by decide⟩, ?_⟩ <;> rw [e] <;> decide
theorem nx3 {ls : List Int} {x y z : UInt8} {r sym e p' : Int} {b : Bool} {A : Leaf} (hA : A = .std) (hf : Fine ls) (hr : r = roomN ls) (hb : CompIs r b) (h : A.bnot b = false) (hn : NextRes ls [x, y, z] 0 sym e p') : A.cmp .eql e 0 = true := by
  subst hA
  obtain ⟨n, hn, _⟩ := hn
  obtain ⟨s, hs⟩ := full_hit (V := bitsV [x, y, z] 0) (left := leftN [x, y, z] 0) hf (by
    have h : (!b) = false := h
    rw [hb] at h
    simp at h
    omega) (by show 15 ≤ 24; omega)
  rcases hn with ⟨rfl, _⟩ | ⟨hn, _⟩
  · rfl
  · exact absurd hs (hn s)
set_option maxHeartbeats 4000000 in
theorem prefix_ok (ls : List Int) (more : Int) : FOK Try.prog C1 4 (fun _ => false) [.ro (.ints .i64 ls), .int .u32 more] [] Yes := by
  refine fok_of (B := ⟨lookT tis, fun _ => false⟩) (tab1 _) (zero1 _) cod1 mix1 Try.func4 (by kernel_rfl) rfl rfl rfl fun X F => ?_
  obtain ⟨A, hA⟩ : ∃ A, A = Leaf.std := ⟨_, rfl⟩
  refine F.hold hA 2000 ?_
  cbv
  repeat' (first
    | refine OK.drawn (by decide +kernel) ?_
    | refine OK.tree ⟨fun _ => ⟨.other, 0, 0, .no⟩, fun _ => true⟩ (by decide +kernel) ?_
    | refine OK.both ?_ ?_
    | refine OK.need (by first | assumption | (rw [hA]; first | (show (_ : Int) ≠ _; decide) | (show (0 : Int) ≤ _; decide) | (show (0 : Int) ≤ _ ∧ _ < (256 : Int); decide))) ?_
    | refine OK.need ?_ ?_
    | (refine OK.branch ?_ ?_ <;> intro h)
    | (refine F.hold hA 2000 ?_; cbv))
  refine F.call [] (alive_ok) rfl rfl rfl fun rs H' hq => ?_
  obtain ⟨b, rfl, rfl, rfl⟩ := hq
  refine ⟨rfl, ?_⟩
  repeat' (first
    | refine OK.drawn (by decide +kernel) ?_
    | refine OK.tree ⟨fun _ => ⟨.other, 0, 0, .no⟩, fun _ => true⟩ (by decide +kernel) ?_
    | refine OK.both ?_ ?_
    | refine OK.need (by first | assumption | (rw [hA]; first | (show (_ : Int) ≠ _; decide) | (show (0 : Int) ≤ _; decide) | (show (0 : Int) ≤ _ ∧ _ < (256 : Int); decide))) ?_
    | refine OK.need ?_ ?_
    | (refine OK.branch ?_ ?_ <;> intro h)
    | (refine F.hold hA 2000 ?_; cbv))
  · exfalso; subst hA; cases h
  · exact F.ret0 ⟨_, rfl, rfl⟩
  refine F.call [] (new_ok ls) rfl rfl rfl fun rs H' hq => ?_
  rcases hq with ⟨e, rfl, rfl, hbad⟩ | ⟨ws, fs, cs, ss, os, r, rfl, rfl, hc⟩
  · refine ⟨rfl, ?_⟩
    repeat' (first
      | refine OK.drawn (by decide +kernel) ?_
      | refine OK.tree ⟨fun _ => ⟨.other, 0, 0, .no⟩, fun _ => true⟩ (by decide +kernel) ?_
      | refine OK.both ?_ ?_
      | refine OK.need (by first | assumption | (rw [hA]; first | (show (_ : Int) ≠ _; decide) | (show (0 : Int) ≤ _; decide) | (show (0 : Int) ≤ _ ∧ _ < (256 : Int); decide))) ?_
      | refine OK.need ?_ ?_
      | (refine OK.branch ?_ ?_ <;> intro h)
      | (refine F.hold hA 2000 ?_; cbv))
    all_goals exact F.ret0 ⟨_, rfl, rfl⟩
  refine ⟨rfl, ?_⟩
  repeat' (first
    | refine OK.drawn (by decide +kernel) ?_
    | refine OK.tree ⟨fun _ => ⟨.other, 0, 0, .no⟩, fun _ => true⟩ (by decide +kernel) ?_
    | refine OK.both ?_ ?_
    | refine OK.need (by first | assumption | (rw [hA]; first | (show (_ : Int) ≠ _; decide) | (show (0 : Int) ≤ _; decide) | (show (0 : Int) ≤ _ ∧ _ < (256 : Int); decide))) ?_
    | refine OK.need ?_ ?_
    | (refine OK.branch ?_ ?_ <;> intro h)
    | (refine F.hold hA 2000 ?_; cbv))
  · exact F.ret (H' := []) (F.cv ⟨rfl⟩ (.eq rfl (.nil _)) (.nil _)) rfl ⟨_, rfl, rfl⟩
  refine F.loop (V := Int) [0, 1, 5] (UpTo ls) (fun i => (ls.length - i).toNat) (fun i => [(7, .int .i64 i)]) (fun _ => []) _ (by cbv; repeat (first | exact WkH.nil _ | apply WkH.gone | refine WkH.eq rfl ?_)) (by cbv; repeat (first | apply WkL.any | exact WkL.nil _ | refine WkL.eq rfl ?_)) (by cbv; exact ⟨rfl⟩) ?_ ?_
  · exact ⟨0, rfl, Nat.zero_le _⟩
  rintro a hI BkO hBkO
  repeat (first
    | refine OK.drawn (by decide +kernel) ?_
    | refine OK.tree ⟨fun _ => ⟨.other, 0, 0, .no⟩, fun _ => true⟩ (by decide +kernel) ?_
    | refine OK.need (by first | assumption | (rw [hA]; first | (show (_ : Int) ≠ _; decide) | (show (0 : Int) ≤ _; decide) | (show (0 : Int) ≤ _ ∧ _ < (256 : Int); decide))) ?_
    | (refine F.hold hA 2000 ?_; cbv))
  refine OK.branch (fun b1 => ?_) (fun b1 => ?_)
  · repeat (first
      | refine OK.drawn (by decide +kernel) ?_
      | refine OK.tree ⟨fun _ => ⟨.other, 0, 0, .no⟩, fun _ => true⟩ (by decide +kernel) ?_
      | refine OK.need (by first | assumption | (rw [hA]; first | (show (_ : Int) ≠ _; decide) | (show (0 : Int) ≤ _; decide) | (show (0 : Int) ≤ _ ∧ _ < (256 : Int); decide))) ?_
      | (refine F.hold hA 2000 ?_; cbv))
    refine F.call [1] (cbits_ok ls ws fs cs ss os r a hc) rfl rfl rfl fun rs H' hq => ?_
    obtain ⟨v, n, ok, rfl, rfl, hv⟩ := hq
    refine ⟨rfl, ?_⟩
    repeat (first
      | refine OK.drawn (by decide +kernel) ?_
      | refine OK.tree ⟨fun _ => ⟨.other, 0, 0, .no⟩, fun _ => true⟩ (by decide +kernel) ?_
      | refine OK.need (by first | assumption | (rw [hA]; first | (show (_ : Int) ≠ _; decide) | (show (0 : Int) ≤ _; decide) | (show (0 : Int) ≤ _ ∧ _ < (256 : Int); decide))) ?_
      | (refine F.hold hA 2000 ?_; cbv))
    refine OK.branch (fun b3 => ?_) (fun b3 => ?_)
    · have hBk := hBkO
      repeat' (first
        | refine OK.drawn (by decide +kernel) ?_
        | refine OK.tree ⟨fun _ => ⟨.other, 0, 0, .no⟩, fun _ => true⟩ (by decide +kernel) ?_
        | refine OK.both ?_ ?_
        | refine OK.need (by first | assumption | (rw [hA]; first | (show (_ : Int) ≠ _; decide) | (show (0 : Int) ≤ _; decide) | (show (0 : Int) ≤ _ ∧ _ < (256 : Int); decide))) ?_
        | refine OK.need ?_ ?_
        | (refine OK.branch ?_ ?_ <;> intro h)
        | (refine F.hold hA 2000 ?_; cbv))
      refine OK.back (hBk _ _ _ (by cbv; repeat (first | exact WkH.nil _ | apply WkH.gone | refine WkH.eq rfl ?_)) (by cbv; repeat (first | apply WkL.any | exact WkL.nil _ | refine WkL.eq rfl ?_)) (by cbv; exact ⟨rfl⟩) ?_ ?_)
      · exact (upTo hA hc.fine hI b1).1
      · exact (upTo hA hc.fine hI b1).2
    repeat (first
      | refine OK.drawn (by decide +kernel) ?_
      | refine OK.tree ⟨fun _ => ⟨.other, 0, 0, .no⟩, fun _ => true⟩ (by decide +kernel) ?_
      | refine OK.need (by first | assumption | (rw [hA]; first | (show (_ : Int) ≠ _; decide) | (show (0 : Int) ≤ _; decide) | (show (0 : Int) ≤ _ ∧ _ < (256 : Int); decide))) ?_
      | (refine F.hold hA 2000 ?_; cbv))
    refine F.loop (V := Int) [0, 1, 5, 7, 8, 9, 10] (UpTo ls) (fun i => (ls.length - i).toNat) (fun i => [(11, .int .i64 i)]) (fun _ => []) _ (by cbv; repeat (first | exact WkH.nil _ | apply WkH.gone | refine WkH.eq rfl ?_)) (by cbv; repeat (first | apply WkL.any | exact WkL.nil _ | refine WkL.eq rfl ?_)) (by cbv; exact ⟨rfl⟩) ?_ ?_
    · exact ⟨0, rfl, Nat.zero_le _⟩
    rintro b hI2 Bk hBk
    repeat (first
      | refine OK.drawn (by decide +kernel) ?_
      | refine OK.tree ⟨fun _ => ⟨.other, 0, 0, .no⟩, fun _ => true⟩ (by decide +kernel) ?_
      | refine OK.need (by first | assumption | (rw [hA]; first | (show (_ : Int) ≠ _; decide) | (show (0 : Int) ≤ _; decide) | (show (0 : Int) ≤ _ ∧ _ < (256 : Int); decide))) ?_
      | (refine F.hold hA 2000 ?_; cbv))
    refine OK.branch (fun b2 => ?_) (fun b2 => ?_)
    · repeat (first
        | refine OK.drawn (by decide +kernel) ?_
        | refine OK.tree ⟨fun _ => ⟨.other, 0, 0, .no⟩, fun _ => true⟩ (by decide +kernel) ?_
        | refine OK.need (by first | assumption | (rw [hA]; first | (show (_ : Int) ≠ _; decide) | (show (0 : Int) ≤ _; decide) | (show (0 : Int) ≤ _ ∧ _ < (256 : Int); decide))) ?_
        | (refine F.hold hA 2000 ?_; cbv))
      refine F.call [1] (cbits_ok ls ws fs cs ss os r b hc) rfl rfl rfl fun rs H' hq => ?_
      obtain ⟨w, m, is, rfl, rfl, hw⟩ := hq
      refine ⟨rfl, ?_⟩
      have hp := preAt hA hc.fine hv hw b3
      repeat' (first
        | refine OK.drawn (by decide +kernel) ?_
        | refine OK.tree ⟨fun _ => ⟨.other, 0, 0, .no⟩, fun _ => true⟩ (by decide +kernel) ?_
        | refine OK.both ?_ ?_
        | refine OK.need (by first | assumption | (rw [hA]; first | (show (_ : Int) ≠ _; decide) | (show (0 : Int) ≤ _; decide) | (show (0 : Int) ≤ _ ∧ _ < (256 : Int); decide))) ?_
        | refine OK.need ?_ ?_
        | (refine OK.branch ?_ ?_ <;> intro h)
        | (refine F.hold hA 2000 ?_; cbv))
      any_goals first
        | (exact hp.q ‹_›; done)
        | (exact (hp.bad ‹is = true› ‹A.cmp .neq a b = true› ‹A.cmp .leq n m = true› h).elim; done)
        | fail
      all_goals
        refine OK.back (hBk _ _ _ (by cbv; repeat (first | exact WkH.nil _ | apply WkH.gone | refine WkH.eq rfl ?_)) (by cbv; repeat (first | apply WkL.any | exact WkL.nil _ | refine WkL.eq rfl ?_)) (by cbv; exact ⟨rfl⟩) ?_ ?_)
        · exact (upTo hA hc.fine hI2 b2).1
        · exact (upTo hA hc.fine hI2 b2).2
    · clear hBk
      have hBk := hBkO
      repeat' (first
        | refine OK.drawn (by decide +kernel) ?_
        | refine OK.tree ⟨fun _ => ⟨.other, 0, 0, .no⟩, fun _ => true⟩ (by decide +kernel) ?_
        | refine OK.both ?_ ?_
        | refine OK.need (by first | assumption | (rw [hA]; first | (show (_ : Int) ≠ _; decide) | (show (0 : Int) ≤ _; decide) | (show (0 : Int) ≤ _ ∧ _ < (256 : Int); decide))) ?_
        | refine OK.need ?_ ?_
        | (refine OK.branch ?_ ?_ <;> intro h)
        | (refine F.hold hA 2000 ?_; cbv))
      refine OK.back (hBk _ _ _ (by cbv; repeat (first | exact WkH.nil _ | apply WkH.gone | refine WkH.eq rfl ?_)) (by cbv; repeat (first | apply WkL.any | exact WkL.nil _ | refine WkL.eq rfl ?_)) (by cbv; exact ⟨rfl⟩) ?_ ?_)
      · exact (upTo hA hc.fine hI b1).1
      · exact (upTo hA hc.fine hI b1).2
  · clear hBkO
    repeat' (first
      | refine OK.drawn (by decide +kernel) ?_
      | refine OK.tree ⟨fun _ => ⟨.other, 0, 0, .no⟩, fun _ => true⟩ (by decide +kernel) ?_
      | refine OK.both ?_ ?_
      | refine OK.need (by first | assumption | (rw [hA]; first | (show (_ : Int) ≠ _; decide) | (show (0 : Int) ≤ _; decide) | (show (0 : Int) ≤ _ ∧ _ < (256 : Int); decide))) ?_
      | refine OK.need ?_ ?_
      | (refine OK.branch ?_ ?_ <;> intro h)
      | (refine F.hold hA 2000 ?_; cbv))
    · exact three hA _ _ _
    refine F.callFrz 2 rfl rfl rfl rfl ?_
    refine F.call [] (newReader_ok _ (Nat.le_of_ble_eq_true rfl)) rfl rfl rfl fun rs H' hq => ?_
    obtain ⟨rfl, rfl⟩ := hq
    refine ⟨rfl, ?_⟩
    repeat' (first
      | refine OK.drawn (by decide +kernel) ?_
      | refine OK.tree ⟨fun _ => ⟨.other, 0, 0, .no⟩, fun _ => true⟩ (by decide +kernel) ?_
      | refine OK.both ?_ ?_
      | refine OK.need (by first | assumption | (rw [hA]; first | (show (_ : Int) ≠ _; decide) | (show (0 : Int) ≤ _; decide) | (show (0 : Int) ≤ _ ∧ _ < (256 : Int); decide))) ?_
      | refine OK.need ?_ ?_
      | (refine OK.branch ?_ ?_ <;> intro h)
      | (refine F.hold hA 2000 ?_; cbv))
    refine F.call [1, 4] (next_ok ls ws fs cs ss os r _ 0 hc (rd3 _ _ _)) rfl rfl rfl fun rs H' hq => ?_
    obtain ⟨sym, e, p', rfl, rfl, hn⟩ := hq
    refine ⟨rfl, ?_⟩
    repeat' (first
      | refine OK.drawn (by decide +kernel) ?_
      | refine OK.tree ⟨fun _ => ⟨.other, 0, 0, .no⟩, fun _ => true⟩ (by decide +kernel) ?_
      | refine OK.both ?_ ?_
      | refine OK.need (by first | assumption | (rw [hA]; first | (show (_ : Int) ≠ _; decide) | (show (0 : Int) ≤ _; decide) | (show (0 : Int) ≤ _ ∧ _ < (256 : Int); decide))) ?_
      | refine OK.need ?_ ?_
      | (refine OK.branch ?_ ?_ <;> intro h)
      | (refine F.hold hA 2000 ?_; cbv))
    refine F.call [1] (complete_ok _ _ _ _ _ _) rfl rfl rfl fun rs H' hq => ?_
    obtain ⟨b, rfl, rfl, hb⟩ := hq
    refine ⟨rfl, ?_⟩
    repeat' (first
      | refine OK.drawn (by decide +kernel) ?_
      | refine OK.tree ⟨fun _ => ⟨.other, 0, 0, .no⟩, fun _ => true⟩ (by decide +kernel) ?_
      | refine OK.both ?_ ?_
      | refine OK.need (by first | assumption | (rw [hA]; first | (show (_ : Int) ≠ _; decide) | (show (0 : Int) ≤ _; decide) | (show (0 : Int) ≤ _ ∧ _ < (256 : Int); decide))) ?_
      | refine OK.need ?_ ?_
      | (refine OK.branch ?_ ?_ <;> intro h)
      | (refine F.hold hA 2000 ?_; cbv))
    · exact F.ret (H' := []) (F.cv ⟨rfl⟩ (.eq rfl (.nil _)) (.nil _)) rfl ⟨_, rfl, rfl⟩
    · exact F.ret (H' := []) (F.cv ⟨rfl⟩ (.eq rfl (.nil _)) (.nil _)) rfl ⟨_, rfl, nx3 hA hc.fine hc.r hb h hn⟩
end Go.L1
