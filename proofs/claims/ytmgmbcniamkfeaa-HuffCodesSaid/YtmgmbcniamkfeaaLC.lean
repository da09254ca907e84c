/- Own work of the session: part LC of a proof that the program's functions do what the statement says (a symbolic executor, contracts of the functions, plain laws). -/
import Derived.Test.YtmgmbcniamkfeaaLB
import Derived.Test.YtmgmbcniamkfeaaLA
import Derived.Test.YtmgmbcniamkfeaaSxB
import Derived.Test.YtmgmbcniamkfeaaRows
import Derived.WalkKit
import Derived.ProofKit
import Derived.OpenShut
import Derived.ShutString
import Derived.ChangeOld
import Derived.SizedLaws
set_option linter.all false
-- B8
namespace Go.L1
open Go Go.Sx Go.Proofs Go.Huff
set_option maxRecDepth 20000
set_option linter.unusedVariables false
set_option linter.unusedSimpArgs false
def UpTo (ls : List Int) (i : Int) : Prop := ∃ j : Nat, i = j ∧ j ≤ ls.length
theorem upTo {A : Leaf} {ls : List Int} {i : Int} (hA : A = .std) (hf : Fine ls) (h : UpTo ls i) (hi : A.cmp .lss i (A.len ls) = true) : UpTo ls (A.ar .add .i64 i 1) ∧ (ls.length - A.ar .add .i64 i 1).toNat < (ls.length - i).toNat := by
  obtain ⟨j, rfl, h2⟩ := h
  subst hA
  have hi : (j : Int) < (ls.length : Int) := of_decide_eq_true hi
  have hl := hf.le
  rw [add_i64 (by omega) (by omega)]
  exact ⟨⟨j + 1, by omega, by omega⟩, by omega⟩
theorem shl_nat {a b : Nat} (h1 : b ≤ 32) (h2 : a * 2 ^ b ≤ 4294967295) : LAr .shl .u32 (a : Int) (b : Int) = ((a * 2 ^ b : Nat) : Int) := by
  have e : (a : Int) * 2 ^ (b : Int).toNat = ((a * 2 ^ b : Nat) : Int) := by rw [Int.toNat_natCast]; push_cast; rfl
  have := l_shl_u32 (a := (a : Int)) (b := (b : Int)) (by omega) (by omega) (by rw [e]; omega) (by rw [e]; omega)
  rw [this, e]
def Bef (A : Leaf) (n m a b : Int) : Prop := A.cmp .lss n m = true ∨ (A.cmp .eql n m = true ∧ A.bnot (A.cmp .lss a b) = false)
structure OrdAt (A : Leaf) (v n w m : Int) (V W : Nat) : Prop where
  p1 : RevPre v n V
  p2 : RevPre w m W
  q1 : A.nn (A.conv .u64 (A.ar .sub .i64 15 n))
  q2 : A.nn (A.conv .u64 (A.ar .sub .i64 15 m))
  lt : ∀ {x y : Int}, RevRes V n x → RevRes W m y → A.cmp .geq (A.ar .shl .u32 x (A.conv .u64 (A.ar .sub .i64 15 n))) (A.ar .shl .u32 y (A.conv .u64 (A.ar .sub .i64 15 m))) = true → False
theorem ordAt {A : Leaf} {ls : List Int} {v n w m a b : Int} {ok is : Bool} (hA : A = .std) (hf : Fine ls) (hv : BitIs ls a v n ok) (hok : ok = true) (hw : BitIs ls b w m is) (his : A.bnot is = false) (h : Bef A n m a b) : ∃ V W, OrdAt A v n w m V W := by
  subst hA
  rcases hv with ⟨_, s, rfl, hs, ls1, rfl, rfl⟩ | ⟨hv, _⟩
  case inr => rw [hok] at hv; cases hv
  rcases hw with ⟨_, t, rfl, ht, lt1, rfl, rfl⟩ | ⟨hw, _⟩
  case inr => subst hw; cases his
  have hl1 := len_le hf.inb s
  have hl2 := len_le hf.inb t
  have r1 := revN_lt (len ls s) (code ls s)
  have r2 := revN_lt (len ls t) (code ls t)
  have p1 : 2 ^ len ls s ≤ 2 ^ 15 := Nat.pow_le_pow_right (by decide) hl1
  have p2 : 2 ^ len ls t ≤ 2 ^ 15 := Nat.pow_le_pow_right (by decide) hl2
  have c1 := code_lt hf.inb hf.room hs ls1
  have c2 := code_lt hf.inb hf.room ht lt1
  have e1 : Leaf.std.conv .u64 (Leaf.std.ar .sub .i64 15 ((len ls s : Nat) : Int)) = ((15 - len ls s : Nat) : Int) := by
    rw [sub_i64 (by omega) (by omega)]
    have := l_conv_u64 (a := 15 - ((len ls s : Nat) : Int)) (by omega) (by omega)
    exact this.trans (by omega)
  have e2 : Leaf.std.conv .u64 (Leaf.std.ar .sub .i64 15 ((len ls t : Nat) : Int)) = ((15 - len ls t : Nat) : Int) := by
    rw [sub_i64 (by omega) (by omega)]
    have := l_conv_u64 (a := 15 - ((len ls t : Nat) : Int)) (by omega) (by omega)
    exact this.trans (by omega)
  refine ⟨revN (len ls s) (code ls s), revN (len ls t) (code ls t), ⟨rfl, by omega⟩, ⟨rfl, by omega⟩, ?_, ?_, ?_⟩
  · rw [e1]; show (0 : Int) ≤ _; omega
  · rw [e2]; show (0 : Int) ≤ _; omega
  intro x y hx hy hxy
  unfold RevRes at hx hy
  rw [if_pos (by omega), Int.toNat_natCast, revN_rev, Nat.mod_eq_of_lt c1] at hx
  rw [if_pos (by omega), Int.toNat_natCast, revN_rev, Nat.mod_eq_of_lt c2] at hy
  have ho := code_order hf.inb hs ht ls1 lt1 (by
    rcases h with h | ⟨h1, h2⟩
    · have h : ((len ls s : Nat) : Int) < (len ls t : Nat) := of_decide_eq_true h
      exact .inl (by omega)
    · have h1 : (((len ls s : Nat) : Int) == (len ls t : Nat)) = true := h1
      have h2 : (!decide ((s : Int) < (t : Int))) = false := h2
      simp at h1 h2
      exact .inr ⟨by omega, by omega⟩)
  have hle : len ls s ≤ len ls t := by
    rcases h with h | ⟨h1, h2⟩
    · have h : ((len ls s : Nat) : Int) < (len ls t : Nat) := of_decide_eq_true h
      omega
    · have h1 : (((len ls s : Nat) : Int) == (len ls t : Nat)) = true := h1
      simp at h1
      omega
  have k1 : (2 : Nat) ^ len ls s * 2 ^ (15 - len ls s) = 2 ^ 15 := by rw [← Nat.pow_add]; congr 1; omega
  have k2 : (2 : Nat) ^ len ls t * 2 ^ (15 - len ls t) = 2 ^ 15 := by rw [← Nat.pow_add]; congr 1; omega
  have k3 : (2 : Nat) ^ (15 - len ls s) = 2 ^ (len ls t - len ls s) * 2 ^ (15 - len ls t) := by rw [← Nat.pow_add]; congr 1; omega
  have m1 : code ls s * 2 ^ (15 - len ls s) ≤ 2 ^ 15 := by rw [← k1]; exact Nat.mul_le_mul_right _ (by omega)
  have m2 : code ls t * 2 ^ (15 - len ls t) ≤ 2 ^ 15 := by rw [← k2]; exact Nat.mul_le_mul_right _ (by omega)
  have m3 := Nat.mul_le_mul_right (2 ^ (15 - len ls t)) ho
  rw [Nat.mul_assoc, ← k3, Nat.add_mul, Nat.one_mul] at m3
  have hp := Nat.two_pow_pos (15 - len ls s)
  rw [e1, e2, hx, hy] at hxy
  have s1 := shl_nat (a := code ls s) (b := 15 - len ls s) (by omega) (by omega)
  have s2 := shl_nat (a := code ls t) (b := 15 - len ls t) (by omega) (by omega)
  have hxy : LAr .shl .u32 ((code ls t : Nat) : Int) ((15 - len ls t : Nat) : Int) ≤ LAr .shl .u32 ((code ls s : Nat) : Int) ((15 - len ls s : Nat) : Int) := of_decide_eq_true hxy
  rw [s1, s2] at hxy
  omega
def Eqz (a b : Int) : Prop := a = b
set_option maxHeartbeats 4000000 in
theorem order_ok (ls : List Int) : FOK Try.prog C1 5 (fun _ => false) [.ro (.ints .i64 ls)] [] Yes := by
  refine fok_of (B := ⟨lookT tis, fun _ => false⟩) (tab1 _) (zero1 _) cod1 mix1 Try.func5 (by kernel_rfl) rfl rfl rfl fun X F => ?_
  obtain ⟨A, hA⟩ : ∃ A, A = Leaf.std := ⟨_, rfl⟩
  refine F.hold hA 2000 ?_
  cbv
  repeat' (first
    | refine OK.drawn (by decide +kernel) ?_
    | refine OK.tree ⟨lookT tis, fun _ => true⟩ (by decide +kernel) ?_
    | refine OK.both ?_ ?_
    | refine OK.need (by first | assumption | (rw [hA]; first | (show (_ : Int) ≠ _; decide) | (show (0 : Int) ≤ _; decide) | (show (0 : Int) ≤ _ ∧ _ < (256 : Int); decide))) ?_
    | refine OK.need ?_ ?_
    | (refine OK.branch ?_ ?_ <;> intro h)
    | (refine F.hold hA 2000 ?_; cbv))
  refine F.call [] (alive_ok) rfl rfl rfl fun rs H' hq => ?_
  obtain ⟨b, rfl, rfl, rfl⟩ := hq
  refine ⟨rfl, ?_⟩
  repeat' (first
    | refine OK.drawn (by decide +kernel) ?_
    | refine OK.tree ⟨lookT tis, fun _ => true⟩ (by decide +kernel) ?_
    | refine OK.both ?_ ?_
    | refine OK.need (by first | assumption | (rw [hA]; first | (show (_ : Int) ≠ _; decide) | (show (0 : Int) ≤ _; decide) | (show (0 : Int) ≤ _ ∧ _ < (256 : Int); decide))) ?_
    | refine OK.need ?_ ?_
    | (refine OK.branch ?_ ?_ <;> intro h)
    | (refine F.hold hA 2000 ?_; cbv))
  · exfalso; subst hA; cases h
  · exact F.ret0 ⟨_, rfl, rfl⟩
  refine F.call [] (new_ok ls) rfl rfl rfl fun rs H' hq => ?_
  rcases hq with ⟨e, rfl, rfl, hbad⟩ | ⟨ws, fs, cs, ss, os, r, rfl, rfl, hc⟩
  · refine ⟨rfl, ?_⟩
    have he : Eqz e 11 ∨ Eqz e 10 := by rcases hbad with ⟨h, _⟩ | ⟨h, _⟩; exact .inl h; exact .inr h
    repeat' (first
      | refine OK.drawn (by decide +kernel) ?_
      | refine OK.tree ⟨lookT tis, fun _ => true⟩ (by decide +kernel) ?_
      | refine OK.both ?_ ?_
      | refine OK.need (by first | assumption | (rw [hA]; first | (show (_ : Int) ≠ _; decide) | (show (0 : Int) ≤ _; decide) | (show (0 : Int) ≤ _ ∧ _ < (256 : Int); decide))) ?_
      | refine OK.need ?_ ?_
      | (refine OK.branch ?_ ?_ <;> intro h)
      | (refine F.hold hA 2000 ?_; cbv))
    all_goals exact F.ret0 ⟨_, rfl, rfl⟩
  refine ⟨rfl, ?_⟩
  repeat' (first
    | refine OK.drawn (by decide +kernel) ?_
    | refine OK.tree ⟨lookT tis, fun _ => true⟩ (by decide +kernel) ?_
    | refine OK.both ?_ ?_
    | refine OK.need (by first | assumption | (rw [hA]; first | (show (_ : Int) ≠ _; decide) | (show (0 : Int) ≤ _; decide) | (show (0 : Int) ≤ _ ∧ _ < (256 : Int); decide))) ?_
    | refine OK.need ?_ ?_
    | (refine OK.branch ?_ ?_ <;> intro h)
    | (refine F.hold hA 2000 ?_; cbv))
  · exact F.ret (H' := []) (F.cv ⟨rfl⟩ (.eq rfl (.nil _)) (.nil _)) rfl ⟨_, rfl, rfl⟩
  refine F.loop (V := Int) [0, 3] (UpTo ls) (fun i => (ls.length - i).toNat) (fun i => [(5, .int .i64 i)]) (fun _ => []) _ (by cbv; repeat (first | exact WkH.nil _ | apply WkH.gone | refine WkH.eq rfl ?_)) (by cbv; repeat (first | apply WkL.any | exact WkL.nil _ | refine WkL.eq rfl ?_ | refine WkL.bool rfl ?_)) (by cbv; exact ⟨rfl⟩) ?_ ?_
  · exact ⟨0, rfl, Nat.zero_le _⟩
  rintro a hI BkO hBkO
  repeat (first
    | refine OK.drawn (by decide +kernel) ?_
    | refine OK.tree ⟨lookT tis, fun _ => true⟩ (by decide +kernel) ?_
    | refine OK.need (by first | assumption | (rw [hA]; first | (show (_ : Int) ≠ _; decide) | (show (0 : Int) ≤ _; decide) | (show (0 : Int) ≤ _ ∧ _ < (256 : Int); decide))) ?_
    | (refine F.hold hA 2000 ?_; cbv))
  refine OK.branch (fun b1 => ?_) (fun b1 => ?_)
  · repeat (first
      | refine OK.drawn (by decide +kernel) ?_
      | refine OK.tree ⟨lookT tis, fun _ => true⟩ (by decide +kernel) ?_
      | refine OK.need (by first | assumption | (rw [hA]; first | (show (_ : Int) ≠ _; decide) | (show (0 : Int) ≤ _; decide) | (show (0 : Int) ≤ _ ∧ _ < (256 : Int); decide))) ?_
      | (refine F.hold hA 2000 ?_; cbv))
    refine F.call [1] (cbits_ok ls ws fs cs ss os r a hc) rfl rfl rfl fun rs H' hq => ?_
    obtain ⟨v, n, ok, rfl, rfl, hv⟩ := hq
    refine ⟨rfl, ?_⟩
    repeat (first
      | refine OK.drawn (by decide +kernel) ?_
      | refine OK.tree ⟨lookT tis, fun _ => true⟩ (by decide +kernel) ?_
      | refine OK.need (by first | assumption | (rw [hA]; first | (show (_ : Int) ≠ _; decide) | (show (0 : Int) ≤ _; decide) | (show (0 : Int) ≤ _ ∧ _ < (256 : Int); decide))) ?_
      | (refine F.hold hA 2000 ?_; cbv))
    refine F.loop (V := Int) [0, 3, 5, 6, 7, 8] (UpTo ls) (fun i => (ls.length - i).toNat) (fun i => [(9, .int .i64 i)]) (fun _ => []) _ (by cbv; repeat (first | exact WkH.nil _ | apply WkH.gone | refine WkH.eq rfl ?_)) (by cbv; repeat (first | apply WkL.any | exact WkL.nil _ | refine WkL.eq rfl ?_ | refine WkL.bool rfl ?_)) (by cbv; exact ⟨rfl⟩) ?_ ?_
    · exact ⟨0, rfl, Nat.zero_le _⟩
    rintro b hI2 Bk hBk
    repeat (first
      | refine OK.drawn (by decide +kernel) ?_
      | refine OK.tree ⟨lookT tis, fun _ => true⟩ (by decide +kernel) ?_
      | refine OK.need (by first | assumption | (rw [hA]; first | (show (_ : Int) ≠ _; decide) | (show (0 : Int) ≤ _; decide) | (show (0 : Int) ≤ _ ∧ _ < (256 : Int); decide))) ?_
      | (refine F.hold hA 2000 ?_; cbv))
    refine OK.branch (fun b2 => ?_) (fun b2 => ?_)
    · repeat (first
        | refine OK.drawn (by decide +kernel) ?_
        | refine OK.tree ⟨lookT tis, fun _ => true⟩ (by decide +kernel) ?_
        | refine OK.need (by first | assumption | (rw [hA]; first | (show (_ : Int) ≠ _; decide) | (show (0 : Int) ≤ _; decide) | (show (0 : Int) ≤ _ ∧ _ < (256 : Int); decide))) ?_
        | (refine F.hold hA 2000 ?_; cbv))
      refine OK.branch (fun b3 => ?_) (fun b3 => ?_)
      · repeat (first
          | refine OK.drawn (by decide +kernel) ?_
          | refine OK.tree ⟨lookT tis, fun _ => true⟩ (by decide +kernel) ?_
          | refine OK.need (by first | assumption | (rw [hA]; first | (show (_ : Int) ≠ _; decide) | (show (0 : Int) ≤ _; decide) | (show (0 : Int) ≤ _ ∧ _ < (256 : Int); decide))) ?_
          | (refine F.hold hA 2000 ?_; cbv))
        refine F.call [1] (cbits_ok ls ws fs cs ss os r b hc) rfl rfl rfl fun rs H' hq => ?_
        obtain ⟨w, m, is, rfl, rfl, hw⟩ := hq
        refine ⟨rfl, ?_⟩
        repeat' (first
          | refine OK.drawn (by decide +kernel) ?_
          | refine OK.tree ⟨lookT tis, fun _ => true⟩ (by decide +kernel) ?_
          | refine OK.both ?_ ?_
          | refine OK.need (by first | assumption | (rw [hA]; first | (show (_ : Int) ≠ _; decide) | (show (0 : Int) ≤ _; decide) | (show (0 : Int) ≤ _ ∧ _ < (256 : Int); decide))) ?_
          | refine OK.need ?_ ?_
          | (refine OK.branch ?_ ?_ <;> intro h)
          | (refine F.hold hA 2000 ?_; cbv))
        refine OK.back (hBk _ _ _ (by cbv; repeat (first | exact WkH.nil _ | apply WkH.gone | refine WkH.eq rfl ?_)) (by cbv; repeat (first | apply WkL.any | exact WkL.nil _ | refine WkL.eq rfl ?_ | refine WkL.bool rfl ?_)) (by cbv; exact ⟨rfl⟩) ?_ ?_)
        · exact (upTo hA hc.fine hI2 b2).1
        · exact (upTo hA hc.fine hI2 b2).2
        · obtain ⟨V, W, hab⟩ := ordAt hA hc.fine hv b3 hw ‹A.bnot is = false› (.inl h)
          refine F.call [] (rev_ok v n _ hab.p1) rfl rfl rfl fun rs H' hq => ?_
          obtain ⟨x, rfl, rfl, hx⟩ := hq
          refine ⟨rfl, ?_⟩
          repeat' (first
            | refine OK.drawn (by decide +kernel) ?_
            | refine OK.tree ⟨lookT tis, fun _ => true⟩ (by decide +kernel) ?_
            | refine OK.both ?_ ?_
            | refine OK.need (by first | assumption | (rw [hA]; first | (show (_ : Int) ≠ _; decide) | (show (0 : Int) ≤ _; decide) | (show (0 : Int) ≤ _ ∧ _ < (256 : Int); decide))) ?_
            | refine OK.need ?_ ?_
            | (refine OK.branch ?_ ?_ <;> intro h)
            | (refine F.hold hA 2000 ?_; cbv))
          · exact hab.q1
          refine F.call [] (rev_ok w m _ hab.p2) rfl rfl rfl fun rs H' hq => ?_
          obtain ⟨y, rfl, rfl, hy⟩ := hq
          refine ⟨rfl, ?_⟩
          repeat' (first
            | refine OK.drawn (by decide +kernel) ?_
            | refine OK.tree ⟨lookT tis, fun _ => true⟩ (by decide +kernel) ?_
            | refine OK.both ?_ ?_
            | refine OK.need (by first | assumption | (rw [hA]; first | (show (_ : Int) ≠ _; decide) | (show (0 : Int) ≤ _; decide) | (show (0 : Int) ≤ _ ∧ _ < (256 : Int); decide))) ?_
            | refine OK.need ?_ ?_
            | (refine OK.branch ?_ ?_ <;> intro h)
            | (refine F.hold hA 2000 ?_; cbv))
          · exact hab.q2
          · exact (hab.lt hx hy h).elim
          refine OK.back (hBk _ _ _ (by cbv; repeat (first | exact WkH.nil _ | apply WkH.gone | refine WkH.eq rfl ?_)) (by cbv; repeat (first | apply WkL.any | exact WkL.nil _ | refine WkL.eq rfl ?_ | refine WkL.bool rfl ?_)) (by cbv; exact ⟨rfl⟩) ?_ ?_)
          · exact (upTo hA hc.fine hI2 b2).1
          · exact (upTo hA hc.fine hI2 b2).2
        refine OK.back (hBk _ _ _ (by cbv; repeat (first | exact WkH.nil _ | apply WkH.gone | refine WkH.eq rfl ?_)) (by cbv; repeat (first | apply WkL.any | exact WkL.nil _ | refine WkL.eq rfl ?_ | refine WkL.bool rfl ?_)) (by cbv; exact ⟨rfl⟩) ?_ ?_)
        · exact (upTo hA hc.fine hI2 b2).1
        · exact (upTo hA hc.fine hI2 b2).2
        · obtain ⟨V, W, hab⟩ := ordAt hA hc.fine hv b3 hw ‹A.bnot is = false› (.inr ⟨‹_›, h⟩)
          refine F.call [] (rev_ok v n _ hab.p1) rfl rfl rfl fun rs H' hq => ?_
          obtain ⟨x, rfl, rfl, hx⟩ := hq
          refine ⟨rfl, ?_⟩
          repeat' (first
            | refine OK.drawn (by decide +kernel) ?_
            | refine OK.tree ⟨lookT tis, fun _ => true⟩ (by decide +kernel) ?_
            | refine OK.both ?_ ?_
            | refine OK.need (by first | assumption | (rw [hA]; first | (show (_ : Int) ≠ _; decide) | (show (0 : Int) ≤ _; decide) | (show (0 : Int) ≤ _ ∧ _ < (256 : Int); decide))) ?_
            | refine OK.need ?_ ?_
            | (refine OK.branch ?_ ?_ <;> intro h)
            | (refine F.hold hA 2000 ?_; cbv))
          · exact hab.q1
          refine F.call [] (rev_ok w m _ hab.p2) rfl rfl rfl fun rs H' hq => ?_
          obtain ⟨y, rfl, rfl, hy⟩ := hq
          refine ⟨rfl, ?_⟩
          repeat' (first
            | refine OK.drawn (by decide +kernel) ?_
            | refine OK.tree ⟨lookT tis, fun _ => true⟩ (by decide +kernel) ?_
            | refine OK.both ?_ ?_
            | refine OK.need (by first | assumption | (rw [hA]; first | (show (_ : Int) ≠ _; decide) | (show (0 : Int) ≤ _; decide) | (show (0 : Int) ≤ _ ∧ _ < (256 : Int); decide))) ?_
            | refine OK.need ?_ ?_
            | (refine OK.branch ?_ ?_ <;> intro h)
            | (refine F.hold hA 2000 ?_; cbv))
          · exact hab.q2
          · exact (hab.lt hx hy h).elim
          refine OK.back (hBk _ _ _ (by cbv; repeat (first | exact WkH.nil _ | apply WkH.gone | refine WkH.eq rfl ?_)) (by cbv; repeat (first | apply WkL.any | exact WkL.nil _ | refine WkL.eq rfl ?_ | refine WkL.bool rfl ?_)) (by cbv; exact ⟨rfl⟩) ?_ ?_)
          · exact (upTo hA hc.fine hI2 b2).1
          · exact (upTo hA hc.fine hI2 b2).2
        refine OK.back (hBk _ _ _ (by cbv; repeat (first | exact WkH.nil _ | apply WkH.gone | refine WkH.eq rfl ?_)) (by cbv; repeat (first | apply WkL.any | exact WkL.nil _ | refine WkL.eq rfl ?_ | refine WkL.bool rfl ?_)) (by cbv; exact ⟨rfl⟩) ?_ ?_)
        · exact (upTo hA hc.fine hI2 b2).1
        · exact (upTo hA hc.fine hI2 b2).2
      clear hBk
      have hBk := hBkO
      repeat' (first
        | refine OK.drawn (by decide +kernel) ?_
        | refine OK.tree ⟨lookT tis, fun _ => true⟩ (by decide +kernel) ?_
        | refine OK.both ?_ ?_
        | refine OK.need (by first | assumption | (rw [hA]; first | (show (_ : Int) ≠ _; decide) | (show (0 : Int) ≤ _; decide) | (show (0 : Int) ≤ _ ∧ _ < (256 : Int); decide))) ?_
        | refine OK.need ?_ ?_
        | (refine OK.branch ?_ ?_ <;> intro h)
        | (refine F.hold hA 2000 ?_; cbv))
      refine OK.back (hBk _ _ _ (by cbv; repeat (first | exact WkH.nil _ | apply WkH.gone | refine WkH.eq rfl ?_)) (by cbv; repeat (first | apply WkL.any | exact WkL.nil _ | refine WkL.eq rfl ?_ | refine WkL.bool rfl ?_)) (by cbv; exact ⟨rfl⟩) ?_ ?_)
      · exact (upTo hA hc.fine hI b1).1
      · exact (upTo hA hc.fine hI b1).2
    clear hBk
    have hBk := hBkO
    repeat' (first
      | refine OK.drawn (by decide +kernel) ?_
      | refine OK.tree ⟨lookT tis, fun _ => true⟩ (by decide +kernel) ?_
      | refine OK.both ?_ ?_
      | refine OK.need (by first | assumption | (rw [hA]; first | (show (_ : Int) ≠ _; decide) | (show (0 : Int) ≤ _; decide) | (show (0 : Int) ≤ _ ∧ _ < (256 : Int); decide))) ?_
      | refine OK.need ?_ ?_
      | (refine OK.branch ?_ ?_ <;> intro h)
      | (refine F.hold hA 2000 ?_; cbv))
    refine OK.back (hBk _ _ _ (by cbv; repeat (first | exact WkH.nil _ | apply WkH.gone | refine WkH.eq rfl ?_)) (by cbv; repeat (first | apply WkL.any | exact WkL.nil _ | refine WkL.eq rfl ?_ | refine WkL.bool rfl ?_)) (by cbv; exact ⟨rfl⟩) ?_ ?_)
    · exact (upTo hA hc.fine hI b1).1
    · exact (upTo hA hc.fine hI b1).2
  · repeat' (first
      | refine OK.drawn (by decide +kernel) ?_
      | refine OK.tree ⟨lookT tis, fun _ => true⟩ (by decide +kernel) ?_
      | refine OK.both ?_ ?_
      | refine OK.need (by first | assumption | (rw [hA]; first | (show (_ : Int) ≠ _; decide) | (show (0 : Int) ≤ _; decide) | (show (0 : Int) ≤ _ ∧ _ < (256 : Int); decide))) ?_
      | refine OK.need ?_ ?_
      | (refine OK.branch ?_ ?_ <;> intro h)
      | (refine F.hold hA 2000 ?_; cbv))
    exact F.ret (H' := []) (F.cv ⟨rfl⟩ (.eq rfl (.nil _)) (.nil _)) rfl ⟨_, rfl, rfl⟩
end Go.L1

-- L4Rows
namespace Go.L1
open Go Go.Sx Go.Proofs Go.Proofs.Ytmgmbcniamkfeaa
open Go.ChangeShapes Go.WideShapes Go.ChangeAt Go.RowKit
section
variable {w : World} {H : Type} {enc : TypeId × Value → H} {sp : Nat → Bool} {held : Bool}
theorem opens_bytes : Opens (T := T1) C1 Try.prog w enc sp held 38 (fun xs => [.ro (.bytes xs)]) (fun xs : List UInt8 => xs.length ≤ reachBytes) := by
  intro fuel cs x h hz
  have hel : Opens (T := T1) C1 Try.prog w enc sp held 5 (fun b : UInt8 => [.int .u8 b.toNat]) (fun _ => True) := by
    intro fuel cs x h hz
    obtain ⟨n, hn, hd⟩ := Opens.int (C := C1) (enc := enc) (sp := sp) (held := held) Try.underlying5 fuel cs x h hz
    refine ⟨UInt8.ofNat n.toNat, trivial, fun M hw hD => ?_⟩
    have := hd M hw hD
    have h2 : ((UInt8.ofNat n.toNat).toNat : Int) = n := by
      rw [min_u8, max_u8] at hn
      simp
      omega
    show Den C1 M [.int .u8 _] cs
    rw [h2]; exact this
  obtain ⟨ys, h1, h2⟩ := Opens.slice (C := C1) Try.underlying38 hel Row.bytes (fun _ => rfl) (fun _ _ => rfl) (fun _ => by kernel_rfl) (by decide +kernel) fuel cs x h hz
  have hb : Try.prog.bytesOf 5 = 1 := by kernel_rfl
  rw [hb] at h1
  exact ⟨ys, by simpa using h1.2, h2⟩
theorem opens_bytes2 : Opens (T := T1) C1 Try.prog w enc sp held 38 (fun xs => [.ro (.bytes xs)]) (fun xs : List UInt8 => (∀ x ∈ xs, True) ∧ xs.length * Try.prog.bytesOf 5 ≤ reachBytes) := by
  intro fuel cs x h hz
  obtain ⟨y, h1, h2⟩ := opens_bytes fuel cs x h hz
  have hb : Try.prog.bytesOf 5 = 1 := by kernel_rfl
  exact ⟨y, ⟨fun _ _ => trivial, by rw [hb]; omega⟩, h2⟩
theorem opens_ints : Opens (T := T1) C1 Try.prog w enc sp held 22 (fun xs => [.ro (.ints .i64 xs)]) (fun xs : List Int => (∀ x ∈ xs, IntKind.i64.min ≤ x ∧ x ≤ IntKind.i64.max) ∧ xs.length * Try.prog.bytesOf 3 ≤ reachBytes) :=
  Opens.slice (C := C1) Try.underlying22 (Opens.int (C := C1) Try.underlying3) (fun xs => .ints .i64 xs) (fun _ => rfl) (fun _ _ => rfl) (fun _ => by kernel_rfl) (by decide +kernel)
end
theorem own : ownKnob Try.prog.godebug = none := by kernel_rfl
theorem laidOut : laidOutB Try.prog = true := by kernel_rfl
/-- What the law's function is shown to do. -/
def orderOK : Prop := ∀ (lengths : List Int), (∀ x ∈ lengths, IntKind.i64.min ≤ x ∧ x ≤ IntKind.i64.max) → lengths.length * 8 ≤ reachBytes → FOK Try.prog C1 5 (fun _ => false) [.ro (.ints .i64 lengths)] [] Yes
set_option maxRecDepth 100000 in
theorem order_lifted (hyp : orderOK) (os : Os) (started : os.Started) (H : Type) (enc : TypeId × Value → H) :
    ReturnsInHanded {} Try.checked os 5 .any (Rows.huffOrderSpec.pre6 enc Try.prog Try.f5 Rows.huffOrderRow.domain false) (Rows.huffOrderSpec.post enc Try.prog Try.f5 false true false false) := by
  refine returnsInHanded_of_change_sized (C := Try.checked) own started (by kernel_rfl) Try.func5
    (ChangeSpec.witness6 (enc := enc) (C := Try.checked) false ⟨#[], #[.slice none 0 0], []⟩ 8 (by kernel_rfl) (by kernel_rfl) (by kernel_rfl) (by kernel_rfl)) ?_
  intro W base args ds gs before hval0 hW hcnd hsz0 _
  have hsz : (DataW.weightsEach Try.prog (Try.f5.params.toList ++ Rows.huffOrderSpec.plain.varTypes Try.prog) (ds ++ gs)).all (· ≤ reachBytes) = true := hsz0
  have hval : ∀ (j : Nat) t v, Try.f5.params[j]? = some t → args[j]? = some v → Value.okWide Try.prog W .any base t v := hval0
  have hW' := hW
  obtain ⟨p, q, hA0, hV, rfl, hfz, hnd⟩ := hW
  have hA : DataW.TrodAll enc Try.prog W 0 (fun _ => true) true Try.f5.params.toList args.toList ds p := hA0
  rw [Try.params5] at hA hval hsz
  obtain ⟨v0, vs0, d0, ds0, p0, q0, hargs, rfl, rfl, h0, r0⟩ := trodAll_cons hA
  obtain ⟨rfl, rfl, rfl⟩ := trodAll_nil r0
  obtain rfl : args = #[v0] := by cases args; simp_all
  obtain ⟨rfl, rfl⟩ := trodVars_none hV
  obtain ⟨a0, len0, cap0, rfl⟩ := okWide_slice Try.underlying22 (hval 0 22 v0 rfl rfl)
  have k0 := h0
  have lt0 : ∀ x ∈ p0, x.block < W.heap.size := by obtain ⟨m, hm⟩ := k0; exact DataW.trod_lt m _ _ _ hm
  obtain ⟨y0, ⟨hi0, hl0⟩, hden0⟩ := opens_ints _ _ _ h0.choose_spec (fun n hn => of_decide_eq_true (List.all_eq_true.1 hsz n (DataW.weights_mem_each (j := 0) rfl rfl n hn)))
  have hb0 : Try.prog.bytesOf 3 = 8 := by kernel_rfl
  rw [hb0] at hl0
  refine (law_calls (W := W) (vals := #[.slice a0 len0 cap0]) (hyp y0 hi0 hl0) rfl fun M hw hD i s u hs hu => ?_).mono fun e W' ⟨he, bel⟩ => ?_
  · match i with
    | 0 => simp at hs hu; subst hs; subst hu; exact hden0 M hw hD
    | i + 1 => simp at hs
  · subst he
    exact ⟨_, rfl, _, _, _, [], _, [], hW', trodAll_mk1 (shut_bool Try.underlying4 _), trodAll_cons_mk (Below.trod laidOut (by kernel_rfl) (of_decide_eq_true (by kernel_rfl)) k0 bel lt0) trodAll_mk0, rfl, bel.frame _, fun h => by cases h⟩
theorem order_row (hyp : orderOK) : Rows.HuffOrderSaid :=
  OpenClaim.holds_of_wide 5 Try.f5 rfl rfl rfl rfl rfl rfl rfl ⟨rfl, rfl, rfl, rfl, rfl⟩ rfl rfl rfl rfl rfl (by kernel_rfl) Try.func5 (by kernel_rfl)
    (of_decide_eq_true (by kernel_rfl)) (by unfold Func.isWrapper; first | (rw [if_pos (by decide +kernel)]; kernel_rfl) | (rw [if_neg (by decide +kernel)]; exact ⟨rfl, rfl⟩))
    (fun os started H enc _ => order_lifted hyp os started H enc)
/-- What the law's function is shown to do. -/
def prefixOK : Prop := ∀ (lengths : List Int) (more : Int), (∀ x ∈ lengths, IntKind.i64.min ≤ x ∧ x ≤ IntKind.i64.max) → lengths.length * 8 ≤ reachBytes → (IntKind.u32.min ≤ more ∧ more ≤ IntKind.u32.max) → FOK Try.prog C1 4 (fun _ => false) [.ro (.ints .i64 lengths), .int .u32 more] [] Yes
set_option maxRecDepth 100000 in
theorem prefix_lifted (hyp : prefixOK) (os : Os) (started : os.Started) (H : Type) (enc : TypeId × Value → H) :
    ReturnsInHanded {} Try.checked os 4 .any (Rows.huffPrefixSpec.pre6 enc Try.prog Try.f4 Rows.huffPrefixRow.domain false) (Rows.huffPrefixSpec.post enc Try.prog Try.f4 false true false false) := by
  refine returnsInHanded_of_change_sized (C := Try.checked) own started (by kernel_rfl) Try.func4
    (ChangeSpec.witness6 (enc := enc) (C := Try.checked) false ⟨#[], #[.slice none 0 0, .int .u32 0], []⟩ 8 (by kernel_rfl) (by kernel_rfl) (by kernel_rfl) (by kernel_rfl)) ?_
  intro W base args ds gs before hval0 hW hcnd hsz0 _
  have hsz : (DataW.weightsEach Try.prog (Try.f4.params.toList ++ Rows.huffPrefixSpec.plain.varTypes Try.prog) (ds ++ gs)).all (· ≤ reachBytes) = true := hsz0
  have hval : ∀ (j : Nat) t v, Try.f4.params[j]? = some t → args[j]? = some v → Value.okWide Try.prog W .any base t v := hval0
  have hW' := hW
  obtain ⟨p, q, hA0, hV, rfl, hfz, hnd⟩ := hW
  have hA : DataW.TrodAll enc Try.prog W 0 (fun _ => true) true Try.f4.params.toList args.toList ds p := hA0
  rw [Try.params4] at hA hval hsz
  obtain ⟨v0, vs0, d0, ds0, p0, q0, hargs, rfl, rfl, h0, r0⟩ := trodAll_cons hA
  obtain ⟨v1, vs1, d1, ds1, p1, q1, rfl, rfl, rfl, h1, r1⟩ := trodAll_cons r0
  obtain ⟨rfl, rfl, rfl⟩ := trodAll_nil r1
  obtain rfl : args = #[v0, v1] := by cases args; simp_all
  obtain ⟨rfl, rfl⟩ := trodVars_none hV
  obtain ⟨a0, len0, cap0, rfl⟩ := okWide_slice Try.underlying22 (hval 0 22 v0 rfl rfl)
  have k0 := h0
  have lt0 : ∀ x ∈ p0, x.block < W.heap.size := by obtain ⟨m, hm⟩ := k0; exact DataW.trod_lt m _ _ _ hm
  obtain ⟨y0, ⟨hi0, hl0⟩, hden0⟩ := opens_ints _ _ _ h0.choose_spec (fun n hn => of_decide_eq_true (List.all_eq_true.1 hsz n (DataW.weights_mem_each (j := 0) rfl rfl n hn)))
  have hb0 : Try.prog.bytesOf 3 = 8 := by kernel_rfl
  rw [hb0] at hl0
  obtain ⟨y1, rfl, rfl, rfl, w1⟩ := open_int Try.underlying35 (hval 1 35 v1 rfl rfl) h1
  refine (law_calls (W := W) (vals := #[.slice a0 len0 cap0, .int .u32 y1]) (hyp y0 y1 hi0 hl0 (by simpa [Lit.wf] using w1)) rfl fun M hw hD i s u hs hu => ?_).mono fun e W' ⟨he, bel⟩ => ?_
  · match i with
    | 0 => simp at hs hu; subst hs; subst hu; exact hden0 M hw hD
    | 1 => simp at hs hu; subst hs; subst hu; exact Den.int _ _ .nil
    | i + 2 => simp at hs
  · subst he
    exact ⟨_, rfl, _, _, _, [], _, [], hW', trodAll_mk1 (shut_bool Try.underlying4 _), trodAll_cons_mk (Below.trod laidOut (by kernel_rfl) (of_decide_eq_true (by kernel_rfl)) k0 bel lt0) (trodAll_cons_mk (shut_int Try.underlying35 w1) trodAll_mk0), rfl, bel.frame _, fun h => by cases h⟩
theorem prefix_row (hyp : prefixOK) : Rows.HuffPrefixSaid :=
  OpenClaim.holds_of_wide 4 Try.f4 rfl rfl rfl rfl rfl rfl rfl ⟨rfl, rfl, rfl, rfl, rfl⟩ rfl rfl rfl rfl rfl (by kernel_rfl) Try.func4 (by kernel_rfl)
    (of_decide_eq_true (by kernel_rfl)) (by unfold Func.isWrapper; first | (rw [if_pos (by decide +kernel)]; kernel_rfl) | (rw [if_neg (by decide +kernel)]; exact ⟨rfl, rfl⟩))
    (fun os started H enc _ => prefix_lifted hyp os started H enc)
/-- What the law's function is shown to do. -/
def hbackOK : Prop := ∀ (lengths : List Int) (syms : List Int), (∀ x ∈ lengths, IntKind.i64.min ≤ x ∧ x ≤ IntKind.i64.max) → lengths.length * 8 ≤ reachBytes → (∀ x ∈ syms, IntKind.i64.min ≤ x ∧ x ≤ IntKind.i64.max) → syms.length * 8 ≤ reachBytes → FOK Try.prog C1 7 (fun _ => false) [.ro (.ints .i64 lengths), .ro (.ints .i64 syms)] [] Yes
set_option maxRecDepth 100000 in
theorem hback_lifted (hyp : hbackOK) (os : Os) (started : os.Started) (H : Type) (enc : TypeId × Value → H) :
    ReturnsInHanded {} Try.checked os 7 .any (Rows.huffBackSpec.pre6 enc Try.prog Try.f7 Rows.huffBackRow.domain false) (Rows.huffBackSpec.post enc Try.prog Try.f7 false true false false) := by
  refine returnsInHanded_of_change_sized (C := Try.checked) own started (by kernel_rfl) Try.func7
    (ChangeSpec.witness6 (enc := enc) (C := Try.checked) false ⟨#[], #[.slice none 0 0, .slice none 0 0], []⟩ 8 (by kernel_rfl) (by kernel_rfl) (by kernel_rfl) (by kernel_rfl)) ?_
  intro W base args ds gs before hval0 hW hcnd hsz0 _
  have hsz : (DataW.weightsEach Try.prog (Try.f7.params.toList ++ Rows.huffBackSpec.plain.varTypes Try.prog) (ds ++ gs)).all (· ≤ reachBytes) = true := hsz0
  have hval : ∀ (j : Nat) t v, Try.f7.params[j]? = some t → args[j]? = some v → Value.okWide Try.prog W .any base t v := hval0
  have hW' := hW
  obtain ⟨p, q, hA0, hV, rfl, hfz, hnd⟩ := hW
  have hA : DataW.TrodAll enc Try.prog W 0 (fun _ => true) true Try.f7.params.toList args.toList ds p := hA0
  rw [Try.params7] at hA hval hsz
  obtain ⟨v0, vs0, d0, ds0, p0, q0, hargs, rfl, rfl, h0, r0⟩ := trodAll_cons hA
  obtain ⟨v1, vs1, d1, ds1, p1, q1, rfl, rfl, rfl, h1, r1⟩ := trodAll_cons r0
  obtain ⟨rfl, rfl, rfl⟩ := trodAll_nil r1
  obtain rfl : args = #[v0, v1] := by cases args; simp_all
  obtain ⟨rfl, rfl⟩ := trodVars_none hV
  obtain ⟨a0, len0, cap0, rfl⟩ := okWide_slice Try.underlying22 (hval 0 22 v0 rfl rfl)
  obtain ⟨a1, len1, cap1, rfl⟩ := okWide_slice Try.underlying22 (hval 1 22 v1 rfl rfl)
  have k0 := h0
  have lt0 : ∀ x ∈ p0, x.block < W.heap.size := by obtain ⟨m, hm⟩ := k0; exact DataW.trod_lt m _ _ _ hm
  have k1 := h1
  have lt1 : ∀ x ∈ p1, x.block < W.heap.size := by obtain ⟨m, hm⟩ := k1; exact DataW.trod_lt m _ _ _ hm
  obtain ⟨y0, ⟨hi0, hl0⟩, hden0⟩ := opens_ints _ _ _ h0.choose_spec (fun n hn => of_decide_eq_true (List.all_eq_true.1 hsz n (DataW.weights_mem_each (j := 0) rfl rfl n hn)))
  have hb0 : Try.prog.bytesOf 3 = 8 := by kernel_rfl
  rw [hb0] at hl0
  obtain ⟨y1, ⟨hi1, hl1⟩, hden1⟩ := opens_ints _ _ _ h1.choose_spec (fun n hn => of_decide_eq_true (List.all_eq_true.1 hsz n (DataW.weights_mem_each (j := 1) rfl rfl n hn)))
  have hb1 : Try.prog.bytesOf 3 = 8 := by kernel_rfl
  rw [hb1] at hl1
  refine (law_calls (W := W) (vals := #[.slice a0 len0 cap0, .slice a1 len1 cap1]) (hyp y0 y1 hi0 hl0 hi1 hl1) rfl fun M hw hD i s u hs hu => ?_).mono fun e W' ⟨he, bel⟩ => ?_
  · match i with
    | 0 => simp at hs hu; subst hs; subst hu; exact hden0 M hw hD
    | 1 => simp at hs hu; subst hs; subst hu; exact hden1 M hw hD
    | i + 2 => simp at hs
  · subst he
    exact ⟨_, rfl, _, _, _, [], _, [], hW', trodAll_mk1 (shut_bool Try.underlying4 _), trodAll_cons_mk (Below.trod laidOut (by kernel_rfl) (of_decide_eq_true (by kernel_rfl)) k0 bel lt0) (trodAll_cons_mk (Below.trod laidOut (by kernel_rfl) (of_decide_eq_true (by kernel_rfl)) k1 bel lt1) trodAll_mk0), rfl, bel.frame _, fun h => by cases h⟩
theorem hback_row (hyp : hbackOK) : Rows.HuffBackSaid :=
  OpenClaim.holds_of_wide 7 Try.f7 rfl rfl rfl rfl rfl rfl rfl ⟨rfl, rfl, rfl, rfl, rfl⟩ rfl rfl rfl rfl rfl (by kernel_rfl) Try.func7 (by kernel_rfl)
    (of_decide_eq_true (by kernel_rfl)) (by unfold Func.isWrapper; first | (rw [if_pos (by decide +kernel)]; kernel_rfl) | (rw [if_neg (by decide +kernel)]; exact ⟨rfl, rfl⟩))
    (fun os started H enc _ => hback_lifted hyp os started H enc)
/-- What the law's function is shown to do. -/
def codesOK : Prop := ∀ (lengths : List Int) (counts : List Int), (∀ x ∈ lengths, IntKind.i64.min ≤ x ∧ x ≤ IntKind.i64.max) → lengths.length * 8 ≤ reachBytes → (∀ x ∈ counts, IntKind.i64.min ≤ x ∧ x ≤ IntKind.i64.max) → counts.length * 8 ≤ reachBytes → FOK Try.prog C1 3 (fun _ => false) [.ro (.ints .i64 lengths), .ro (.ints .i64 counts)] [] Yes
set_option maxRecDepth 100000 in
theorem codes_lifted (hyp : codesOK) (os : Os) (started : os.Started) (H : Type) (enc : TypeId × Value → H) :
    ReturnsInHanded {} Try.checked os 3 .any (Rows.huffCodesSpec.pre6 enc Try.prog Try.f3 Rows.huffCodesRow.domain false) (Rows.huffCodesSpec.post enc Try.prog Try.f3 false true false false) := by
  refine returnsInHanded_of_change_sized (C := Try.checked) own started (by kernel_rfl) Try.func3
    (ChangeSpec.witness6 (enc := enc) (C := Try.checked) false ⟨#[], #[.slice none 0 0, .slice none 0 0], []⟩ 8 (by kernel_rfl) (by kernel_rfl) (by kernel_rfl) (by kernel_rfl)) ?_
  intro W base args ds gs before hval0 hW hcnd hsz0 _
  have hsz : (DataW.weightsEach Try.prog (Try.f3.params.toList ++ Rows.huffCodesSpec.plain.varTypes Try.prog) (ds ++ gs)).all (· ≤ reachBytes) = true := hsz0
  have hval : ∀ (j : Nat) t v, Try.f3.params[j]? = some t → args[j]? = some v → Value.okWide Try.prog W .any base t v := hval0
  have hW' := hW
  obtain ⟨p, q, hA0, hV, rfl, hfz, hnd⟩ := hW
  have hA : DataW.TrodAll enc Try.prog W 0 (fun _ => true) true Try.f3.params.toList args.toList ds p := hA0
  rw [Try.params3] at hA hval hsz
  obtain ⟨v0, vs0, d0, ds0, p0, q0, hargs, rfl, rfl, h0, r0⟩ := trodAll_cons hA
  obtain ⟨v1, vs1, d1, ds1, p1, q1, rfl, rfl, rfl, h1, r1⟩ := trodAll_cons r0
  obtain ⟨rfl, rfl, rfl⟩ := trodAll_nil r1
  obtain rfl : args = #[v0, v1] := by cases args; simp_all
  obtain ⟨rfl, rfl⟩ := trodVars_none hV
  obtain ⟨a0, len0, cap0, rfl⟩ := okWide_slice Try.underlying22 (hval 0 22 v0 rfl rfl)
  obtain ⟨a1, len1, cap1, rfl⟩ := okWide_slice Try.underlying22 (hval 1 22 v1 rfl rfl)
  have k0 := h0
  have lt0 : ∀ x ∈ p0, x.block < W.heap.size := by obtain ⟨m, hm⟩ := k0; exact DataW.trod_lt m _ _ _ hm
  have k1 := h1
  have lt1 : ∀ x ∈ p1, x.block < W.heap.size := by obtain ⟨m, hm⟩ := k1; exact DataW.trod_lt m _ _ _ hm
  obtain ⟨y0, ⟨hi0, hl0⟩, hden0⟩ := opens_ints _ _ _ h0.choose_spec (fun n hn => of_decide_eq_true (List.all_eq_true.1 hsz n (DataW.weights_mem_each (j := 0) rfl rfl n hn)))
  have hb0 : Try.prog.bytesOf 3 = 8 := by kernel_rfl
  rw [hb0] at hl0
  obtain ⟨y1, ⟨hi1, hl1⟩, hden1⟩ := opens_ints _ _ _ h1.choose_spec (fun n hn => of_decide_eq_true (List.all_eq_true.1 hsz n (DataW.weights_mem_each (j := 1) rfl rfl n hn)))
  have hb1 : Try.prog.bytesOf 3 = 8 := by kernel_rfl
  rw [hb1] at hl1
  refine (law_calls (W := W) (vals := #[.slice a0 len0 cap0, .slice a1 len1 cap1]) (hyp y0 y1 hi0 hl0 hi1 hl1) rfl fun M hw hD i s u hs hu => ?_).mono fun e W' ⟨he, bel⟩ => ?_
  · match i with
    | 0 => simp at hs hu; subst hs; subst hu; exact hden0 M hw hD
    | 1 => simp at hs hu; subst hs; subst hu; exact hden1 M hw hD
    | i + 2 => simp at hs
  · subst he
    exact ⟨_, rfl, _, _, _, [], _, [], hW', trodAll_mk1 (shut_bool Try.underlying4 _), trodAll_cons_mk (Below.trod laidOut (by kernel_rfl) (of_decide_eq_true (by kernel_rfl)) k0 bel lt0) (trodAll_cons_mk (Below.trod laidOut (by kernel_rfl) (of_decide_eq_true (by kernel_rfl)) k1 bel lt1) trodAll_mk0), rfl, bel.frame _, fun h => by cases h⟩
theorem codes_row (hyp : codesOK) : Rows.HuffCodesSaid :=
  OpenClaim.holds_of_wide 3 Try.f3 rfl rfl rfl rfl rfl rfl rfl ⟨rfl, rfl, rfl, rfl, rfl⟩ rfl rfl rfl rfl rfl (by kernel_rfl) Try.func3 (by kernel_rfl)
    (of_decide_eq_true (by kernel_rfl)) (by unfold Func.isWrapper; first | (rw [if_pos (by decide +kernel)]; kernel_rfl) | (rw [if_neg (by decide +kernel)]; exact ⟨rfl, rfl⟩))
    (fun os started H enc _ => codes_lifted hyp os started H enc)
/-- What the law's function is shown to do. -/
def readsOK : Prop := ∀ (lengths : List Int) (b : List UInt8) (skip : Int), (∀ x ∈ lengths, IntKind.i64.min ≤ x ∧ x ≤ IntKind.i64.max) → lengths.length * 8 ≤ reachBytes → (∀ x ∈ b, True) → b.length * 1 ≤ reachBytes → (IntKind.i64.min ≤ skip ∧ skip ≤ IntKind.i64.max) → FOK Try.prog C1 6 (fun _ => false) [.ro (.ints .i64 lengths), .ro (.bytes b), .int .i64 skip] [] Yes
set_option maxRecDepth 100000 in
theorem reads_lifted (hyp : readsOK) (os : Os) (started : os.Started) (H : Type) (enc : TypeId × Value → H) :
    ReturnsInHanded {} Try.checked os 6 .any (Rows.huffReadsSpec.pre6 enc Try.prog Try.f6 Rows.huffReadsRow.domain false) (Rows.huffReadsSpec.post enc Try.prog Try.f6 false true false false) := by
  refine returnsInHanded_of_change_sized (C := Try.checked) own started (by kernel_rfl) Try.func6
    (ChangeSpec.witness6 (enc := enc) (C := Try.checked) false ⟨#[], #[.slice none 0 0, .slice none 0 0, .int .i64 0], []⟩ 8 (by kernel_rfl) (by kernel_rfl) (by kernel_rfl) (by kernel_rfl)) ?_
  intro W base args ds gs before hval0 hW hcnd hsz0 _
  have hsz : (DataW.weightsEach Try.prog (Try.f6.params.toList ++ Rows.huffReadsSpec.plain.varTypes Try.prog) (ds ++ gs)).all (· ≤ reachBytes) = true := hsz0
  have hval : ∀ (j : Nat) t v, Try.f6.params[j]? = some t → args[j]? = some v → Value.okWide Try.prog W .any base t v := hval0
  have hW' := hW
  obtain ⟨p, q, hA0, hV, rfl, hfz, hnd⟩ := hW
  have hA : DataW.TrodAll enc Try.prog W 0 (fun _ => true) true Try.f6.params.toList args.toList ds p := hA0
  rw [Try.params6] at hA hval hsz
  obtain ⟨v0, vs0, d0, ds0, p0, q0, hargs, rfl, rfl, h0, r0⟩ := trodAll_cons hA
  obtain ⟨v1, vs1, d1, ds1, p1, q1, rfl, rfl, rfl, h1, r1⟩ := trodAll_cons r0
  obtain ⟨v2, vs2, d2, ds2, p2, q2, rfl, rfl, rfl, h2, r2⟩ := trodAll_cons r1
  obtain ⟨rfl, rfl, rfl⟩ := trodAll_nil r2
  obtain rfl : args = #[v0, v1, v2] := by cases args; simp_all
  obtain ⟨rfl, rfl⟩ := trodVars_none hV
  obtain ⟨a0, len0, cap0, rfl⟩ := okWide_slice Try.underlying22 (hval 0 22 v0 rfl rfl)
  obtain ⟨a1, len1, cap1, rfl⟩ := okWide_slice Try.underlying38 (hval 1 38 v1 rfl rfl)
  have k0 := h0
  have lt0 : ∀ x ∈ p0, x.block < W.heap.size := by obtain ⟨m, hm⟩ := k0; exact DataW.trod_lt m _ _ _ hm
  have k1 := h1
  have lt1 : ∀ x ∈ p1, x.block < W.heap.size := by obtain ⟨m, hm⟩ := k1; exact DataW.trod_lt m _ _ _ hm
  obtain ⟨y0, ⟨hi0, hl0⟩, hden0⟩ := opens_ints _ _ _ h0.choose_spec (fun n hn => of_decide_eq_true (List.all_eq_true.1 hsz n (DataW.weights_mem_each (j := 0) rfl rfl n hn)))
  have hb0 : Try.prog.bytesOf 3 = 8 := by kernel_rfl
  rw [hb0] at hl0
  obtain ⟨y1, ⟨hi1, hl1⟩, hden1⟩ := opens_bytes2 _ _ _ h1.choose_spec (fun n hn => of_decide_eq_true (List.all_eq_true.1 hsz n (DataW.weights_mem_each (j := 1) rfl rfl n hn)))
  have hb1 : Try.prog.bytesOf 5 = 1 := by kernel_rfl
  rw [hb1] at hl1
  obtain ⟨y2, rfl, rfl, rfl, w2⟩ := open_int Try.underlying3 (hval 2 3 v2 rfl rfl) h2
  refine (law_calls (W := W) (vals := #[.slice a0 len0 cap0, .slice a1 len1 cap1, .int .i64 y2]) (hyp y0 y1 y2 hi0 hl0 hi1 hl1 (by simpa [Lit.wf] using w2)) rfl fun M hw hD i s u hs hu => ?_).mono fun e W' ⟨he, bel⟩ => ?_
  · match i with
    | 0 => simp at hs hu; subst hs; subst hu; exact hden0 M hw hD
    | 1 => simp at hs hu; subst hs; subst hu; exact hden1 M hw hD
    | 2 => simp at hs hu; subst hs; subst hu; exact Den.int _ _ .nil
    | i + 3 => simp at hs
  · subst he
    exact ⟨_, rfl, _, _, _, [], _, [], hW', trodAll_mk1 (shut_bool Try.underlying4 _), trodAll_cons_mk (Below.trod laidOut (by kernel_rfl) (of_decide_eq_true (by kernel_rfl)) k0 bel lt0) (trodAll_cons_mk (Below.trod laidOut (by kernel_rfl) (of_decide_eq_true (by kernel_rfl)) k1 bel lt1) (trodAll_cons_mk (shut_int Try.underlying3 w2) trodAll_mk0)), rfl, bel.frame _, fun h => by cases h⟩
theorem reads_row (hyp : readsOK) : Rows.HuffReadsSaid :=
  OpenClaim.holds_of_wide 6 Try.f6 rfl rfl rfl rfl rfl rfl rfl ⟨rfl, rfl, rfl, rfl, rfl⟩ rfl rfl rfl rfl rfl (by kernel_rfl) Try.func6 (by kernel_rfl)
    (of_decide_eq_true (by kernel_rfl)) (by unfold Func.isWrapper; first | (rw [if_pos (by decide +kernel)]; kernel_rfl) | (rw [if_neg (by decide +kernel)]; exact ⟨rfl, rfl⟩))
    (fun os started H enc _ => reads_lifted hyp os started H enc)
end Go.L1
