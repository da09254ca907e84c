/- Own work of the session: part LC of a proof that the program's functions do what the statement says (a symbolic executor, contracts of the functions, plain laws). -/
import Derived.Test.YtmgmbcniamkfeaaLB
set_option linter.all false
-- B8
namespace Go.L1
open Go Go.Sx Go.Proofs Go.Huff
set_option maxRecDepth 20000
set_option linter.unusedVariables false
set_option linter.unusedSimpArgs false
def UpTo (ls : List Int) (i : Int) : Prop := ∃ j : Nat, i = j ∧ j ≤ ls.length
theorem upTo {A : Leaf} {ls : List Int} {i : Int} (hA : A = .std) (hf : Fine ls) (h : UpTo ls i) (hi : A.cmp .lss i (A.len ls) = true) : UpTo ls (A.ar .add .i64 i 1) ∧ (ls.length - A.ar .add .i64 i 1).toNat < (ls.length - i).toNat := by
  obtain ⟨j, rfl, h2⟩ := h
  subst hA
  have hi : (j : Int) < (ls.length : Int) := of_decide_eq_true hi
  have hl := hf.le
  rw [add_i64 (by omega) (by omega)]
  exact ⟨⟨j + 1, by omega, by omega⟩, by omega⟩
theorem shl_nat {a b : Nat} (h1 : b ≤ 32) (h2 : a * 2 ^ b ≤ 4294967295) : LAr .shl .u32 (a : Int) (b : Int) = ((a * 2 ^ b : Nat) : Int) := by
  have e : (a : Int) * 2 ^ (b : Int).toNat = ((a * 2 ^ b : Nat) : Int) := by rw [Int.toNat_natCast]; push_cast; rfl
  have := l_shl_u32 (a := (a : Int)) (b := (b : Int)) (by omega) (by omega) (by rw [e]; omega) (by rw [e]; omega)
  rw [this, e]
def Bef (A : Leaf) (n m a b : Int) : Prop := A.cmp .lss n m = true ∨ (A.cmp .eql n m = true ∧ A.bnot (A.cmp .lss a b) = false)
structure OrdAt (A : Leaf) (v n w m : Int) (V W : Nat) : Prop where
  p1 : RevPre v n V
  p2 : RevPre w m W
  q1 : A.nn (A.conv .u64 (A.ar .sub .i64 15 n))
  q2 : A.nn (A.conv .u64 (A.ar .sub .i64 15 m))
  lt : ∀ {x y : Int}, RevRes V n x → RevRes W m y → A.cmp .geq (A.ar .shl .u32 x (A.conv .u64 (A.ar .sub .i64 15 n))) (A.ar .shl .u32 y (A.conv .u64 (A.ar .sub .i64 15 m))) = true → False
theorem ordAt {A : Leaf} {ls : List Int} {v n w m a b : Int} {ok is : Bool} (hA : A = .std) (hf : Fine ls) (hv : BitIs ls a v n ok) (hok : ok = true) (hw : BitIs ls b w m is) (his : A.bnot is = false) (h : Bef A n m a b) : ∃ V W, OrdAt A v n w m V W := by
  subst hA
  rcases hv with ⟨_, s, rfl, hs, ls1, rfl, rfl⟩ | ⟨hv, _⟩
  case inr => rw [hok] at hv; cases hv
  rcases hw with ⟨_, t, rfl, ht, lt1, rfl, rfl⟩ | ⟨hw, _⟩
  case inr => subst hw; cases his
  have hl1 := len_le hf.inb s
  have hl2 := len_le hf.inb t
  have r1 := revN_lt (len ls s) (code ls s)
  have r2 := revN_lt (len ls t) (code ls t)
  have p1 : 2 ^ len ls s ≤ 2 ^ 15 := Nat.pow_le_pow_right (by decide) hl1
  have p2 : 2 ^ len ls t ≤ 2 ^ 15 := Nat.pow_le_pow_right (by decide) hl2
  have c1 := code_lt hf.inb hf.room hs ls1
  have c2 := code_lt hf.inb hf.room ht lt1
  have e1 : Leaf.std.conv .u64 (Leaf.std.ar .sub .i64 15 ((len ls s : Nat) : Int)) = ((15 - len ls s : Nat) : Int) := by
    rw [sub_i64 (by omega) (by omega)]
    have := l_conv_u64 (a := 15 - ((len ls s : Nat) : Int)) (by omega) (by omega)
    exact this.trans (by omega)
  have e2 : Leaf.std.conv .u64 (Leaf.std.ar .sub .i64 15 ((len ls t : Nat) : Int)) = ((15 - len ls t : Nat) : Int) := by
    rw [sub_i64 (by omega) (by omega)]
    have := l_conv_u64 (a := 15 - ((len ls t : Nat) : Int)) (by omega) (by omega)
    exact this.trans (by omega)
  refine ⟨revN (len ls s) (code ls s), revN (len ls t) (code ls t), ⟨rfl, by omega⟩, ⟨rfl, by omega⟩, ?_, ?_, ?_⟩
  · rw [e1]; show (0 : Int) ≤ _; omega
  · rw [e2]; show (0 : Int) ≤ _; omega
  intro x y hx hy hxy
  unfold RevRes at hx hy
  rw [if_pos (by omega), Int.toNat_natCast, revN_rev, Nat.mod_eq_of_lt c1] at hx
  rw [if_pos (by omega), Int.toNat_natCast, revN_rev, Nat.mod_eq_of_lt c2] at hy
  have ho := code_order hf.inb hs ht ls1 lt1 (by
    rcases h with h | ⟨h1, h2⟩
    · have h : ((len ls s : Nat) : Int) < (len ls t : Nat) := of_decide_eq_true h
      exact .inl (by omega)
    · have h1 : (((len ls s : Nat) : Int) == (len ls t : Nat)) = true := h1
      have h2 : (!decide ((s : Int) < (t : Int))) = false := h2
      simp at h1 h2
      exact .inr ⟨by omega, by omega⟩)
  have hle : len ls s ≤ len ls t := by
    rcases h with h | ⟨h1, h2⟩
    · have h : ((len ls s : Nat) : Int) < (len ls t : Nat) := of_decide_eq_true h
      omega
    · have h1 : (((len ls s : Nat) : Int) == (len ls t : Nat)) = true := h1
      simp at h1
      omega
  have k1 : (2 : Nat) ^ len ls s * 2 ^ (15 - len ls s) = 2 ^ 15 := by rw [← Nat.pow_add]; congr 1; omega
  have k2 : (2 : Nat) ^ len ls t * 2 ^ (15 - len ls t) = 2 ^ 15 := by rw [← Nat.pow_add]; congr 1; omega
  have k3 : (2 : Nat) ^ (15 - len ls s) = 2 ^ (len ls t - len ls s) * 2 ^ (15 - len ls t) := by rw [← Nat.pow_add]; congr 1; omega
  have m1 : code ls s * 2 ^ (15 - len ls s) ≤ 2 ^ 15 := by rw [← k1]; exact Nat.mul_le_mul_right _ (by omega)
  have m2 : code ls t * 2 ^ (15 - len ls t) ≤ 2 ^ 15 := by rw [← k2]; exact Nat.mul_le_mul_right _ (by omega)
  have m3 := Nat.mul_le_mul_right (2 ^ (15 - len ls t)) ho
  rw [Nat.mul_assoc, ← k3, Nat.add_mul, Nat.one_mul] at m3
  have hp := Nat.two_pow_pos (15 - len ls s)
  rw [e1, e2, hx, hy] at hxy
  have s1 := shl_nat (a := code ls s) (b := 15 - len ls s) (by omega) (by omega)
  have s2 := shl_nat (a := code ls t) (b := 15 - len ls t) (by omega) (by omega)
  have hxy : LAr .shl .u32 ((code ls t : Nat) : Int) ((15 - len ls t : Nat) : Int) ≤ LAr .shl .u32 ((code ls s : Nat) : Int) ((15 - len ls s : Nat) : Int) := of_decide_eq_true hxy
  rw [s1, s2] at hxy
  omega
def Eqz (a b : Int) : Prop := a = b
set_option maxHeartbeats 4000000 in
theorem order_ok (ls : List Int) : FOK Try.prog C1 5 (fun _ => false) [.ro (.ints .i64 ls)] [] Yes := by
  refine fok_of (B := ⟨lookT tis, fun _ => false, []⟩) (tab1 _) (zero1 _) cod1 mix1 Try.func5 (by kernel_rfl) rfl rfl rfl fun X F => ?_
  obtain ⟨A, hA⟩ : ∃ A, A = Leaf.std := ⟨_, rfl⟩
  refine F.hold hA 2000 ?_
  cbv
  repeat' (first
    | refine OK.drawn (by decide +kernel) ?_
    | refine OK.tree ⟨lookT tis, fun _ => true, []⟩ (by decide +kernel) ?_
    | refine OK.both ?_ ?_
    | refine OK.need (by first | assumption | (rw [hA]; first | (show (_ : Int) ≠ _; decide) | (show (0 : Int) ≤ _; decide) | (show (0 : Int) ≤ _ ∧ _ < (256 : Int); decide))) ?_
    | refine OK.need ?_ ?_
    | (refine OK.branch ?_ ?_ <;> intro h)
    | (refine F.hold hA 2000 ?_; cbv))
  refine F.call [] (alive_ok) rfl rfl rfl fun rs H' hq => ?_
  obtain ⟨b, rfl, rfl, rfl⟩ := hq
  refine ⟨rfl, ?_⟩
  repeat' (first
    | refine OK.drawn (by decide +kernel) ?_
    | refine OK.tree ⟨lookT tis, fun _ => true, []⟩ (by decide +kernel) ?_
    | refine OK.both ?_ ?_
    | refine OK.need (by first | assumption | (rw [hA]; first | (show (_ : Int) ≠ _; decide) | (show (0 : Int) ≤ _; decide) | (show (0 : Int) ≤ _ ∧ _ < (256 : Int); decide))) ?_
    | refine OK.need ?_ ?_
    | (refine OK.branch ?_ ?_ <;> intro h)
    | (refine F.hold hA 2000 ?_; cbv))
  · exfalso; subst hA; cases h
  · exact F.ret0 ⟨_, rfl, rfl⟩
  refine F.call [] (new_ok ls) rfl rfl rfl fun rs H' hq => ?_
  rcases hq with ⟨e, rfl, rfl, hbad⟩ | ⟨ws, fs, cs, ss, os, r, rfl, rfl, hc⟩
  · refine ⟨rfl, ?_⟩
    have he : Eqz e 11 ∨ Eqz e 10 := by rcases hbad with ⟨h, _⟩ | ⟨h, _⟩; exact .inl h; exact .inr h
    repeat' (first
      | refine OK.drawn (by decide +kernel) ?_
      | refine OK.tree ⟨lookT tis, fun _ => true, []⟩ (by decide +kernel) ?_
      | refine OK.both ?_ ?_
      | refine OK.need (by first | assumption | (rw [hA]; first | (show (_ : Int) ≠ _; decide) | (show (0 : Int) ≤ _; decide) | (show (0 : Int) ≤ _ ∧ _ < (256 : Int); decide))) ?_
      | refine OK.need ?_ ?_
      | (refine OK.branch ?_ ?_ <;> intro h)
      | (refine F.hold hA 2000 ?_; cbv))
    all_goals exact F.ret0 ⟨_, rfl, rfl⟩
  refine ⟨rfl, ?_⟩
  repeat' (first
    | refine OK.drawn (by decide +kernel) ?_
    | refine OK.tree ⟨lookT tis, fun _ => true, []⟩ (by decide +kernel) ?_
    | refine OK.both ?_ ?_
    | refine OK.need (by first | assumption | (rw [hA]; first | (show (_ : Int) ≠ _; decide) | (show (0 : Int) ≤ _; decide) | (show (0 : Int) ≤ _ ∧ _ < (256 : Int); decide))) ?_
    | refine OK.need ?_ ?_
    | (refine OK.branch ?_ ?_ <;> intro h)
    | (refine F.hold hA 2000 ?_; cbv))
  · exact F.ret (H' := []) (F.cv ⟨rfl⟩ (.eq rfl (.nil _)) (.nil _)) rfl ⟨_, rfl, rfl⟩
  refine F.loop (V := Int) [0, 3] (UpTo ls) (fun i => (ls.length - i).toNat) (fun i => [(5, .int .i64 i)]) (fun _ => []) _ (by cbv; repeat (first | exact WkH.nil _ | apply WkH.gone | refine WkH.eq rfl ?_)) (by cbv; repeat (first | apply WkL.any | exact WkL.nil _ | refine WkL.eq rfl ?_ | refine WkL.bool rfl ?_)) (by cbv; exact ⟨rfl⟩) ?_ ?_
  · exact ⟨0, rfl, Nat.zero_le _⟩
  rintro a hI BkO hBkO
  repeat (first
    | refine OK.drawn (by decide +kernel) ?_
    | refine OK.tree ⟨lookT tis, fun _ => true, []⟩ (by decide +kernel) ?_
    | refine OK.need (by first | assumption | (rw [hA]; first | (show (_ : Int) ≠ _; decide) | (show (0 : Int) ≤ _; decide) | (show (0 : Int) ≤ _ ∧ _ < (256 : Int); decide))) ?_
    | (refine F.hold hA 2000 ?_; cbv))
  refine OK.branch (fun b1 => ?_) (fun b1 => ?_)
  · repeat (first
      | refine OK.drawn (by decide +kernel) ?_
      | refine OK.tree ⟨lookT tis, fun _ => true, []⟩ (by decide +kernel) ?_
      | refine OK.need (by first | assumption | (rw [hA]; first | (show (_ : Int) ≠ _; decide) | (show (0 : Int) ≤ _; decide) | (show (0 : Int) ≤ _ ∧ _ < (256 : Int); decide))) ?_
      | (refine F.hold hA 2000 ?_; cbv))
    refine F.call [1] (cbits_ok ls ws fs cs ss os r a hc) rfl rfl rfl fun rs H' hq => ?_
    obtain ⟨v, n, ok, rfl, rfl, hv⟩ := hq
    refine ⟨rfl, ?_⟩
    repeat (first
      | refine OK.drawn (by decide +kernel) ?_
      | refine OK.tree ⟨lookT tis, fun _ => true, []⟩ (by decide +kernel) ?_
      | refine OK.need (by first | assumption | (rw [hA]; first | (show (_ : Int) ≠ _; decide) | (show (0 : Int) ≤ _; decide) | (show (0 : Int) ≤ _ ∧ _ < (256 : Int); decide))) ?_
      | (refine F.hold hA 2000 ?_; cbv))
    refine F.loop (V := Int) [0, 3, 5, 6, 7, 8] (UpTo ls) (fun i => (ls.length - i).toNat) (fun i => [(9, .int .i64 i)]) (fun _ => []) _ (by cbv; repeat (first | exact WkH.nil _ | apply WkH.gone | refine WkH.eq rfl ?_)) (by cbv; repeat (first | apply WkL.any | exact WkL.nil _ | refine WkL.eq rfl ?_ | refine WkL.bool rfl ?_)) (by cbv; exact ⟨rfl⟩) ?_ ?_
    · exact ⟨0, rfl, Nat.zero_le _⟩
    rintro b hI2 Bk hBk
    repeat (first
      | refine OK.drawn (by decide +kernel) ?_
      | refine OK.tree ⟨lookT tis, fun _ => true, []⟩ (by decide +kernel) ?_
      | refine OK.need (by first | assumption | (rw [hA]; first | (show (_ : Int) ≠ _; decide) | (show (0 : Int) ≤ _; decide) | (show (0 : Int) ≤ _ ∧ _ < (256 : Int); decide))) ?_
      | (refine F.hold hA 2000 ?_; cbv))
    refine OK.branch (fun b2 => ?_) (fun b2 => ?_)
    · repeat (first
        | refine OK.drawn (by decide +kernel) ?_
        | refine OK.tree ⟨lookT tis, fun _ => true, []⟩ (by decide +kernel) ?_
        | refine OK.need (by first | assumption | (rw [hA]; first | (show (_ : Int) ≠ _; decide) | (show (0 : Int) ≤ _; decide) | (show (0 : Int) ≤ _ ∧ _ < (256 : Int); decide))) ?_
        | (refine F.hold hA 2000 ?_; cbv))
      refine OK.branch (fun b3 => ?_) (fun b3 => ?_)
      · repeat (first
          | refine OK.drawn (by decide +kernel) ?_
          | refine OK.tree ⟨lookT tis, fun _ => true, []⟩ (by decide +kernel) ?_
          | refine OK.need (by first | assumption | (rw [hA]; first | (show (_ : Int) ≠ _; decide) | (show (0 : Int) ≤ _; decide) | (show (0 : Int) ≤ _ ∧ _ < (256 : Int); decide))) ?_
          | (refine F.hold hA 2000 ?_; cbv))
        refine F.call [1] (cbits_ok ls ws fs cs ss os r b hc) rfl rfl rfl fun rs H' hq => ?_
        obtain ⟨w, m, is, rfl, rfl, hw⟩ := hq
        refine ⟨rfl, ?_⟩
        repeat' (first
          | refine OK.drawn (by decide +kernel) ?_
          | refine OK.tree ⟨lookT tis, fun _ => true, []⟩ (by decide +kernel) ?_
          | refine OK.both ?_ ?_
          | refine OK.need (by first | assumption | (rw [hA]; first | (show (_ : Int) ≠ _; decide) | (show (0 : Int) ≤ _; decide) | (show (0 : Int) ≤ _ ∧ _ < (256 : Int); decide))) ?_
          | refine OK.need ?_ ?_
          | (refine OK.branch ?_ ?_ <;> intro h)
          | (refine F.hold hA 2000 ?_; cbv))
        refine OK.back (hBk _ _ _ (by cbv; repeat (first | exact WkH.nil _ | apply WkH.gone | refine WkH.eq rfl ?_)) (by cbv; repeat (first | apply WkL.any | exact WkL.nil _ | refine WkL.eq rfl ?_ | refine WkL.bool rfl ?_)) (by cbv; exact ⟨rfl⟩) ?_ ?_)
        · exact (upTo hA hc.fine hI2 b2).1
        · exact (upTo hA hc.fine hI2 b2).2
        · obtain ⟨V, W, hab⟩ := ordAt hA hc.fine hv b3 hw ‹A.bnot is = false› (.inl h)
          refine F.call [] (rev_ok v n _ hab.p1) rfl rfl rfl fun rs H' hq => ?_
          obtain ⟨x, rfl, rfl, hx⟩ := hq
          refine ⟨rfl, ?_⟩
          repeat' (first
            | refine OK.drawn (by decide +kernel) ?_
            | refine OK.tree ⟨lookT tis, fun _ => true, []⟩ (by decide +kernel) ?_
            | refine OK.both ?_ ?_
            | refine OK.need (by first | assumption | (rw [hA]; first | (show (_ : Int) ≠ _; decide) | (show (0 : Int) ≤ _; decide) | (show (0 : Int) ≤ _ ∧ _ < (256 : Int); decide))) ?_
            | refine OK.need ?_ ?_
            | (refine OK.branch ?_ ?_ <;> intro h)
            | (refine F.hold hA 2000 ?_; cbv))
          · exact hab.q1
          refine F.call [] (rev_ok w m _ hab.p2) rfl rfl rfl fun rs H' hq => ?_
          obtain ⟨y, rfl, rfl, hy⟩ := hq
          refine ⟨rfl, ?_⟩
          repeat' (first
            | refine OK.drawn (by decide +kernel) ?_
            | refine OK.tree ⟨lookT tis, fun _ => true, []⟩ (by decide +kernel) ?_
            | refine OK.both ?_ ?_
            | refine OK.need (by first | assumption | (rw [hA]; first | (show (_ : Int) ≠ _; decide) | (show (0 : Int) ≤ _; decide) | (show (0 : Int) ≤ _ ∧ _ < (256 : Int); decide))) ?_
            | refine OK.need ?_ ?_
            | (refine OK.branch ?_ ?_ <;> intro h)
            | (refine F.hold hA 2000 ?_; cbv))
          · exact hab.q2
          · exact (hab.lt hx hy h).elim
          refine OK.back (hBk _ _ _ (by cbv; repeat (first | exact WkH.nil _ | apply WkH.gone | refine WkH.eq rfl ?_)) (by cbv; repeat (first | apply WkL.any | exact WkL.nil _ | refine WkL.eq rfl ?_ | refine WkL.bool rfl ?_)) (by cbv; exact ⟨rfl⟩) ?_ ?_)
          · exact (upTo hA hc.fine hI2 b2).1
          · exact (upTo hA hc.fine hI2 b2).2
        refine OK.back (hBk _ _ _ (by cbv; repeat (first | exact WkH.nil _ | apply WkH.gone | refine WkH.eq rfl ?_)) (by cbv; repeat (first | apply WkL.any | exact WkL.nil _ | refine WkL.eq rfl ?_ | refine WkL.bool rfl ?_)) (by cbv; exact ⟨rfl⟩) ?_ ?_)
        · exact (upTo hA hc.fine hI2 b2).1
        · exact (upTo hA hc.fine hI2 b2).2
        · obtain ⟨V, W, hab⟩ := ordAt hA hc.fine hv b3 hw ‹A.bnot is = false› (.inr ⟨‹_›, h⟩)
          refine F.call [] (rev_ok v n _ hab.p1) rfl rfl rfl fun rs H' hq => ?_
          obtain ⟨x, rfl, rfl, hx⟩ := hq
          refine ⟨rfl, ?_⟩
          repeat' (first
            | refine OK.drawn (by decide +kernel) ?_
            | refine OK.tree ⟨lookT tis, fun _ => true, []⟩ (by decide +kernel) ?_
            | refine OK.both ?_ ?_
            | refine OK.need (by first | assumption | (rw [hA]; first | (show (_ : Int) ≠ _; decide) | (show (0 : Int) ≤ _; decide) | (show (0 : Int) ≤ _ ∧ _ < (256 : Int); decide))) ?_
            | refine OK.need ?_ ?_
            | (refine OK.branch ?_ ?_ <;> intro h)
            | (refine F.hold hA 2000 ?_; cbv))
          · exact hab.q1
          refine F.call [] (rev_ok w m _ hab.p2) rfl rfl rfl fun rs H' hq => ?_
          obtain ⟨y, rfl, rfl, hy⟩ := hq
          refine ⟨rfl, ?_⟩
          repeat' (first
            | refine OK.drawn (by decide +kernel) ?_
            | refine OK.tree ⟨lookT tis, fun _ => true, []⟩ (by decide +kernel) ?_
            | refine OK.both ?_ ?_
            | refine OK.need (by first | assumption | (rw [hA]; first | (show (_ : Int) ≠ _; decide) | (show (0 : Int) ≤ _; decide) | (show (0 : Int) ≤ _ ∧ _ < (256 : Int); decide))) ?_
            | refine OK.need ?_ ?_
            | (refine OK.branch ?_ ?_ <;> intro h)
            | (refine F.hold hA 2000 ?_; cbv))
          · exact hab.q2
          · exact (hab.lt hx hy h).elim
          refine OK.back (hBk _ _ _ (by cbv; repeat (first | exact WkH.nil _ | apply WkH.gone | refine WkH.eq rfl ?_)) (by cbv; repeat (first | apply WkL.any | exact WkL.nil _ | refine WkL.eq rfl ?_ | refine WkL.bool rfl ?_)) (by cbv; exact ⟨rfl⟩) ?_ ?_)
          · exact (upTo hA hc.fine hI2 b2).1
          · exact (upTo hA hc.fine hI2 b2).2
        refine OK.back (hBk _ _ _ (by cbv; repeat (first | exact WkH.nil _ | apply WkH.gone | refine WkH.eq rfl ?_)) (by cbv; repeat (first | apply WkL.any | exact WkL.nil _ | refine WkL.eq rfl ?_ | refine WkL.bool rfl ?_)) (by cbv; exact ⟨rfl⟩) ?_ ?_)
        · exact (upTo hA hc.fine hI2 b2).1
        · exact (upTo hA hc.fine hI2 b2).2
      clear hBk
      have hBk := hBkO
      repeat' (first
        | refine OK.drawn (by decide +kernel) ?_
        | refine OK.tree ⟨lookT tis, fun _ => true, []⟩ (by decide +kernel) ?_
        | refine OK.both ?_ ?_
        | refine OK.need (by first | assumption | (rw [hA]; first | (show (_ : Int) ≠ _; decide) | (show (0 : Int) ≤ _; decide) | (show (0 : Int) ≤ _ ∧ _ < (256 : Int); decide))) ?_
        | refine OK.need ?_ ?_
        | (refine OK.branch ?_ ?_ <;> intro h)
        | (refine F.hold hA 2000 ?_; cbv))
      refine OK.back (hBk _ _ _ (by cbv; repeat (first | exact WkH.nil _ | apply WkH.gone | refine WkH.eq rfl ?_)) (by cbv; repeat (first | apply WkL.any | exact WkL.nil _ | refine WkL.eq rfl ?_ | refine WkL.bool rfl ?_)) (by cbv; exact ⟨rfl⟩) ?_ ?_)
      · exact (upTo hA hc.fine hI b1).1
      · exact (upTo hA hc.fine hI b1).2
    clear hBk
    have hBk := hBkO
    repeat' (first
      | refine OK.drawn (by decide +kernel) ?_
      | refine OK.tree ⟨lookT tis, fun _ => true, []⟩ (by decide +kernel) ?_
      | refine OK.both ?_ ?_
      | refine OK.need (by first | assumption | (rw [hA]; first | (show (_ : Int) ≠ _; decide) | (show (0 : Int) ≤ _; decide) | (show (0 : Int) ≤ _ ∧ _ < (256 : Int); decide))) ?_
      | refine OK.need ?_ ?_
      | (refine OK.branch ?_ ?_ <;> intro h)
      | (refine F.hold hA 2000 ?_; cbv))
    refine OK.back (hBk _ _ _ (by cbv; repeat (first | exact WkH.nil _ | apply WkH.gone | refine WkH.eq rfl ?_)) (by cbv; repeat (first | apply WkL.any | exact WkL.nil _ | refine WkL.eq rfl ?_ | refine WkL.bool rfl ?_)) (by cbv; exact ⟨rfl⟩) ?_ ?_)
    · exact (upTo hA hc.fine hI b1).1
    · exact (upTo hA hc.fine hI b1).2
  · repeat' (first
      | refine OK.drawn (by decide +kernel) ?_
      | refine OK.tree ⟨lookT tis, fun _ => true, []⟩ (by decide +kernel) ?_
      | refine OK.both ?_ ?_
      | refine OK.need (by first | assumption | (rw [hA]; first | (show (_ : Int) ≠ _; decide) | (show (0 : Int) ≤ _; decide) | (show (0 : Int) ≤ _ ∧ _ < (256 : Int); decide))) ?_
      | refine OK.need ?_ ?_
      | (refine OK.branch ?_ ?_ <;> intro h)
      | (refine F.hold hA 2000 ?_; cbv))
    exact F.ret (H' := []) (F.cv ⟨rfl⟩ (.eq rfl (.nil _)) (.nil _)) rfl ⟨_, rfl, rfl⟩
end Go.L1
