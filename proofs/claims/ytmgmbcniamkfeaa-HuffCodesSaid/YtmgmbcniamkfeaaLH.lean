/- Own work of the session: part LH of a proof that the program's functions do what the statement says (a symbolic executor, contracts of the functions, plain laws). -/
import Derived.Test.YtmgmbcniamkfeaaLC
import Derived.Test.YtmgmbcniamkfeaaLF
import Derived.Test.YtmgmbcniamkfeaaLG
set_option linter.all false
-- C5
namespace Go.L1
open Go Go.Sx Go.Proofs Go.Huff
set_option maxRecDepth 20000
set_option linter.unusedVariables false
set_option linter.unusedSimpArgs false
theorem cmp_self {A : Leaf} (hA : A = .std) {x : Int} (h : A.cmp .neq x x = true) : False := by
  subst hA
  have h : (!(x == x)) = true := h
  simp at h
structure Le400 (ls : List Int) : Prop where
  l : ls.length ≤ 400
theorem cpSmall {A : Leaf} {ls : List Int} (hA : A = .std) (h : Le400 ls) : A.small (A.len (A.app [] ls)) 8 := by
  subst hA
  have := h.l
  show (0 : Int) ≤ ((([] ++ ls).length : Nat) : Int) ∧ ((([] ++ ls).length : Nat) : Int) ≤ (140737488355328 : Int) ∧ ((([] ++ ls).length : Nat) : Int) * ((8 : Nat) : Int) ≤ (140737488355328 : Int)
  simp; omega
theorem copyInts_ok (ls : List Int) (hl : Le400 ls) : FOK Try.prog C1 16 (fun _ => false) [.ro (.ints .i64 ls)] [] (fun rs H => rs = [.own 0] ∧ H = [.row 3 (.ints .i64 ls)]) := by
  refine fok_of (B := ⟨lookT tis, fun _ => false⟩) (tab1 _) (zero1 _) cod1 mix1 Try.func16 (by kernel_rfl) rfl rfl rfl fun X F => ?_
  obtain ⟨A, hA⟩ : ∃ A, A = Leaf.std := ⟨_, rfl⟩
  refine F.hold hA 2000 ?_
  cbv
  repeat' (first
    | refine OK.drawn (by decide +kernel) ?_
    | refine OK.tree ⟨lookT tis, fun _ => true⟩ (by decide +kernel) ?_
    | refine OK.both ?_ ?_
    | refine OK.need (by first | assumption | (rw [hA]; first | (show (_ : Int) ≠ _; decide) | (show (0 : Int) ≤ _; decide) | (show (0 : Int) ≤ _ ∧ _ < (256 : Int); decide))) ?_
    | refine OK.need ?_ ?_
    | (refine OK.branch ?_ ?_ <;> intro h)
    | (refine F.hold hA 2000 ?_; cbv))
  · exact cpSmall hA hl
  subst hA
  exact F.ret0 ⟨rfl, rfl⟩
def UpI (ls : List Int) (i : Int) : Prop := ∃ j : Nat, i = j ∧ j ≤ ls.length
structure SmAt (A : Leaf) (ls : List Int) (i : Int) : Prop where
  q : A.inb i (A.len ls)
  nx : UpI ls (A.ar .add .i64 i 1)
  mu : (ls.length - A.ar .add .i64 i 1).toNat < (ls.length - i).toNat
theorem smAt {A : Leaf} {ls : List Int} {i : Int} (hA : A = .std) (hl : Le400 ls) (h : UpI ls i) (h1 : A.cmp .lss i (A.len ls) = true) : SmAt A ls i := by
  obtain ⟨j, rfl, hj⟩ := h
  have hl := hl.l
  subst hA
  have h1 : (j : Int) < (ls.length : Int) := of_decide_eq_true h1
  have ea : Leaf.std.ar .add .i64 (j : Int) 1 = ((j + 1 : Nat) : Int) := by rw [add_i64 (by omega) (by omega)]; omega
  refine ⟨?_, ⟨j + 1, ea, by omega⟩, by rw [ea]; omega⟩
  show (0 : Int) ≤ (j : Int) ∧ (j : Int) < (ls.length : Int); omega
theorem sameInts_ok (ls : List Int) (hl : Le400 ls) : FOK Try.prog C1 21 (fun _ => true) [.ro (.ints .i64 ls), .ro (.ints .i64 ls)] [] (fun rs H => rs = [.bool (.lit true)] ∧ H = []) := by
  refine fok_of (B := ⟨lookT tis, fun _ => true⟩) (tab1 _) (zero1 _) cod1 mix1 Try.func21 (by kernel_rfl) rfl rfl rfl fun X F => ?_
  obtain ⟨A, hA⟩ : ∃ A, A = Leaf.std := ⟨_, rfl⟩
  refine F.hold hA 2000 ?_
  cbv
  repeat (first
    | refine OK.drawn (by decide +kernel) ?_
    | refine OK.tree ⟨lookT tis, fun _ => true⟩ (by decide +kernel) ?_
    | refine OK.need (by first | assumption | (rw [hA]; first | (show (_ : Int) ≠ _; decide) | (show (0 : Int) ≤ _; decide) | (show (0 : Int) ≤ _ ∧ _ < (256 : Int); decide))) ?_
    | (refine F.hold hA 2000 ?_; cbv))
  refine OK.branch (fun b1 => (cmp_self hA b1).elim) (fun b1 => ?_)
  repeat (first
    | refine OK.drawn (by decide +kernel) ?_
    | refine OK.tree ⟨lookT tis, fun _ => true⟩ (by decide +kernel) ?_
    | refine OK.need (by first | assumption | (rw [hA]; first | (show (_ : Int) ≠ _; decide) | (show (0 : Int) ≤ _; decide) | (show (0 : Int) ≤ _ ∧ _ < (256 : Int); decide))) ?_
    | (refine F.hold hA 2000 ?_; cbv))
  refine F.loop (V := Int) [0, 1] (UpI ls) (fun i => (ls.length - i).toNat) (fun i => [(5, .int .i64 i)]) (fun i => []) _ (by cbv; repeat (first | exact WkH.nil _ | apply WkH.gone | refine WkH.eq rfl ?_)) (by cbv; repeat (first | apply WkL.any | exact WkL.nil _ | refine WkL.eq rfl ?_ | refine WkL.bool rfl ?_)) (by cbv; exact ⟨rfl⟩) ?_ ?_
  · exact ⟨0, rfl, Nat.zero_le _⟩
  rintro i hI Bk hBk
  repeat (first
    | refine OK.drawn (by decide +kernel) ?_
    | refine OK.tree ⟨lookT tis, fun _ => true⟩ (by decide +kernel) ?_
    | refine OK.need (by first | assumption | (rw [hA]; first | (show (_ : Int) ≠ _; decide) | (show (0 : Int) ≤ _; decide) | (show (0 : Int) ≤ _ ∧ _ < (256 : Int); decide))) ?_
    | (refine F.hold hA 2000 ?_; cbv))
  refine OK.branch (fun b2 => ?_) (fun b2 => ?_)
  · have hat := smAt hA hl hI b2
    have q := hat.q
    repeat (first
      | refine OK.drawn (by decide +kernel) ?_
      | refine OK.tree ⟨lookT tis, fun _ => true⟩ (by decide +kernel) ?_
      | refine OK.need (by first | assumption | (rw [hA]; first | (show (_ : Int) ≠ _; decide) | (show (0 : Int) ≤ _; decide) | (show (0 : Int) ≤ _ ∧ _ < (256 : Int); decide))) ?_
      | (refine F.hold hA 2000 ?_; cbv))
    refine OK.branch (fun b3 => (cmp_self hA b3).elim) (fun b3 => ?_)
    repeat (first
      | refine OK.drawn (by decide +kernel) ?_
      | refine OK.tree ⟨lookT tis, fun _ => true⟩ (by decide +kernel) ?_
      | refine OK.need (by first | assumption | (rw [hA]; first | (show (_ : Int) ≠ _; decide) | (show (0 : Int) ≤ _; decide) | (show (0 : Int) ≤ _ ∧ _ < (256 : Int); decide))) ?_
      | (refine F.hold hA 2000 ?_; cbv))
    refine OK.back (hBk _ _ _ (by cbv; repeat (first | exact WkH.nil _ | apply WkH.gone | refine WkH.eq rfl ?_)) (by cbv; repeat (first | apply WkL.any | exact WkL.nil _ | refine WkL.eq rfl ?_ | refine WkL.bool rfl ?_)) (by cbv; exact ⟨rfl⟩) ?_ ?_)
    · exact hat.nx
    · exact hat.mu
  · repeat (first
      | refine OK.drawn (by decide +kernel) ?_
      | refine OK.tree ⟨lookT tis, fun _ => true⟩ (by decide +kernel) ?_
      | refine OK.need (by first | assumption | (rw [hA]; first | (show (_ : Int) ≠ _; decide) | (show (0 : Int) ≤ _; decide) | (show (0 : Int) ≤ _ ∧ _ < (256 : Int); decide))) ?_
      | (refine F.hold hA 2000 ?_; cbv))
    exact F.ret0 ⟨rfl, rfl⟩
end Go.L1

-- H7
namespace Go.L1
open Go Go.Sx Go.Proofs Go.Huff
set_option linter.unusedVariables false
set_option linter.unusedSimpArgs false
def manyN (ls : List Int) (j : Nat) : Nat := (ls.take j).countP fun x => decide (0 < x)
def CdInv (ls counts : List Int) (w : Int × Int × Int) : Prop := ∃ j : Nat, w.2.2 = (j : Int) - 1 ∧ j ≤ ls.length + 2 ∧ w.1 = (manyN ls (j - 1) : Nat) ∧ w.2.1 = costN ls counts (j - 1)
theorem mny_succ (ls : List Int) (l : Nat) : ls.countP (fun x => decide (0 < x ∧ x ≤ ((l + 1 : Nat) : Int))) = ls.countP (fun x => decide (0 < x ∧ x ≤ (l : Int))) + cnt ls (l + 1) := by
  unfold cnt
  rw [if_neg (by omega)]
  induction ls with
  | nil => rfl
  | cons y ls ih =>
    rw [List.countP_cons, List.countP_cons, List.count_cons, ih]
    simp only [decide_eq_true_eq, beq_iff_eq]
    split <;> split <;> split <;> omega
theorem st_mny (ls : List Int) : ∀ l, st ls l + cnt ls l = ls.countP (fun x => decide (0 < x ∧ x ≤ (l : Int)))
  | 0 => by
    have h : ls.countP (fun x => decide (0 < x ∧ x ≤ ((0 : Nat) : Int))) = 0 := by
      rw [List.countP_eq_zero]
      intro x _
      simp
    rw [h]; simp [st, cnt]
  | l + 1 => by
    have e : st ls (l + 1) = st ls l + cnt ls l := rfl
    rw [e, st_mny ls l, mny_succ]
theorem many_all {ls : List Int} (h : InB ls) {j : Nat} (hj : ls.length ≤ j) : manyN ls j = st ls 15 + cnt ls 15 := by
  rw [st_mny]
  unfold manyN
  rw [List.take_of_length_le hj]
  refine List.countP_congr fun x hx => ?_
  have := (h x hx).2
  simp; omega
theorem many_succ {ls : List Int} (h : InB ls) {j : Nat} (hj : j < ls.length) : manyN ls (j + 1) = manyN ls j + if 0 < len ls j then 1 else 0 := by
  unfold manyN
  rw [List.take_succ_eq_append_getElem hj, List.countP_append, List.countP_singleton]
  have e : len ls j = ls[j].toNat := by unfold len; simp [hj]
  rw [e]
  congr 1
  by_cases h0 : 0 < ls[j]
  · rw [if_pos (by simpa using h0), if_pos (by omega)]
  · rw [if_neg (by simpa using h0), if_neg (by omega)]
theorem many_le (ls : List Int) (j : Nat) : manyN ls j ≤ ls.length := by
  unfold manyN
  have h1 := List.countP_le_length (p := fun x : Int => decide (0 < x)) (l := ls.take j)
  rw [List.length_take] at h1
  omega
theorem many_out {ls : List Int} {j : Nat} (hj : ls.length ≤ j) : manyN ls (j + 1) = manyN ls j := by
  unfold manyN
  rw [List.take_of_length_le (by omega), List.take_of_length_le hj]
theorem len_out {ls : List Int} {j : Nat} (hj : ls.length ≤ j) : len ls j = 0 := by
  unfold len
  rw [List.getD_eq_getElem?_getD, List.getElem?_eq_none hj]
  rfl
theorem cost1_len0 {ls : List Int} (counts : List Int) {j : Nat} (h : len ls j = 0) : cost1 ls counts j = 0 := by
  unfold cost1
  rw [h]
  simp
theorem cost1_out {ls counts : List Int} {j : Nat} (h : counts.length ≤ j) : cost1 ls counts j = 0 := by
  unfold cost1
  rw [List.getD_eq_getElem?_getD, List.getElem?_eq_none h]
  simp
theorem costN_cap {ls counts : List Int} : ∀ {j : Nat}, min ls.length counts.length ≤ j → costN ls counts j = costN ls counts (min ls.length counts.length)
  | j, h => by
    rcases Nat.eq_or_lt_of_le h with h | h
    · rw [← h]
    · obtain ⟨k, rfl⟩ : ∃ k, j = k + 1 := ⟨j - 1, by omega⟩
      rw [costN, costN_cap (by omega : min ls.length counts.length ≤ k)]
      have : cost1 ls counts k = 0 := by
        rcases Nat.le_total ls.length counts.length with h2 | h2
        · exact cost1_len0 _ (len_out (by omega))
        · exact cost1_out (by omega)
      rw [this, Int.add_zero]
theorem revN_bits {n v k : Nat} (h : k < n) : revN n v / 2 ^ k % 2 = v / 2 ^ (n - 1 - k) % 2 := by
  have h1 := revN_bit n v k
  rw [Nat.testBit_eq_decide_div_mod_eq, Nat.testBit_eq_decide_div_mod_eq] at h1
  simp only [h, decide_true, Bool.true_and, decide_eq_decide] at h1
  have a1 : revN n v / 2 ^ k % 2 < 2 := Nat.mod_lt _ (by decide)
  have a2 : v / 2 ^ (n - 1 - k) % 2 < 2 := Nat.mod_lt _ (by decide)
  omega
def UpS (size k : Int) : Prop := 0 ≤ k ∧ k ≤ size
structure BAt (A : Leaf) (w : List UInt8) (v size k : Int) : Prop where
  q : A.inb k (A.len w)
  nn : A.nn (A.conv .u64 k)
  d : A.cmp .neq (A.conv .u8 (A.ar .and .u32 (A.ar .shr .u32 v (A.conv .u64 k)) 1)) (A.b2i (A.get 0 w k)) = true → False
  nx : UpS size (A.ar .add .i64 k 1)
  mu : (size - A.ar .add .i64 k 1).toNat < (size - k).toNat
/-- A symbol that there is. -/
structure CdR (A : Leaf) (rows : List (List UInt8)) (s v size : Int) (has : Bool) : Prop where
  q : A.inb s (A.len rows)
  d1 : A.bnot (A.beq has (A.cmp .gtr (A.len (A.get [] rows s)) 0)) = true → False
  d2 : A.cmp .neq size (A.len (A.get [] rows s)) = true → False
  z : UpS size 0
  at_ : ∀ k, UpS size k → A.cmp .lss k size = true → BAt A (A.get [] rows s) v size k
theorem cdR {A : Leaf} {ls : List Int} {rows : List (List UInt8)} {s v size : Int} {has : Bool} (hA : A = .std) (hR : RdyR ls) (ho : ORows ls rows) (hv : BitIs ls s v size has) (h0 : A.cmp .geq s 0 = true) (h1 : A.cmp .lss s (A.len ls) = true) : CdR A rows s v size has := by
  subst hA
  have h0 : (0 : Int) ≤ s := of_decide_eq_true h0
  have h1 : s < (ls.length : Int) := of_decide_eq_true h1
  obtain ⟨t, rfl⟩ : ∃ t : Nat, s = t := ⟨s.toNat, by omega⟩
  have ht : t < ls.length := by omega
  have h15 := len_le hR.b t
  have ew : Leaf.std.get [] rows (t : Int) = rbits (len ls t) (code ls t) := by
    show rows.getD ((t : Int).toNat) [] = _
    rw [Int.toNat_natCast]; exact ho.at_ t ht
  have el : Leaf.std.len (Leaf.std.get [] rows (t : Int)) = (len ls t : Nat) := by rw [ew]; show (((rbits _ _).length : Nat) : Int) = _; rw [rbits_len]
  have hs : size = (len ls t : Nat) ∧ (has = true ↔ 0 < len ls t) ∧ (0 < len ls t → v = (revN (len ls t) (code ls t) : Nat)) := by
    rcases hv with ⟨rfl, u, hu, _, h2, h3, h4⟩ | ⟨rfl, rfl, rfl, hz⟩
    · have : u = t := by omega
      subst this
      exact ⟨h4, by simp [h2], fun _ => h3⟩
    · have := hz t rfl ht
      exact ⟨by omega, by simp; omega, fun h => absurd h (by omega)⟩
  obtain ⟨e1, e2, e3⟩ := hs
  refine ⟨?_, ?_, ?_, ⟨by omega, by omega⟩, fun k hk hk2 => ?_⟩
  · show (0 : Int) ≤ (t : Int) ∧ (t : Int) < (rows.length : Int)
    have := ho.ln; omega
  · rw [el]
    intro h
    have h : (!(has == decide ((0 : Int) < (len ls t : Nat)))) = true := h
    by_cases hp : 0 < len ls t
    · have e := e2.2 hp
      subst e
      simp at h; omega
    · have e : has = false := by
        cases has with
        | false => rfl
        | true => exact absurd (e2.1 rfl) hp
      subst e
      simp at h; omega
  · rw [el, e1]
    intro h
    have h : (!(((len ls t : Nat) : Int) == ((len ls t : Nat) : Int))) = true := h
    simp at h
  · obtain ⟨k1, k2⟩ := hk
    have hk2 : k < size := of_decide_eq_true hk2
    obtain ⟨j, rfl⟩ : ∃ j : Nat, k = j := ⟨k.toNat, by omega⟩
    have hj : j < len ls t := by omega
    have ea : Leaf.std.ar .add .i64 (j : Int) 1 = ((j + 1 : Nat) : Int) := by rw [add_i64 (by omega) (by omega)]; omega
    have ec : Leaf.std.conv .u64 ((j : Nat) : Int) = ((j : Nat) : Int) := l_conv_u64 (by omega) (by omega)
    refine ⟨?_, ?_, ?_, ⟨by rw [ea]; omega, by rw [ea]; omega⟩, by rw [ea]; omega⟩
    · rw [el]; show (0 : Int) ≤ (j : Int) ∧ (j : Int) < _; omega
    · rw [ec]; show (0 : Int) ≤ _; omega
    · rw [ew, ec, e3 (by omega)]
      have g : Leaf.std.get 0 (rbits (len ls t) (code ls t)) (j : Int) = UInt8.ofNat (code ls t / 2 ^ (len ls t - 1 - j) % 2) := by
        show (rbits _ _).getD ((j : Int).toNat) 0 = _
        rw [Int.toNat_natCast, rbits_get _ hj]
      rw [g]
      have hm : code ls t / 2 ^ (len ls t - 1 - j) % 2 < 2 := Nat.mod_lt _ (by decide)
      have e : Leaf.std.conv .u8 (Leaf.std.ar .and .u32 (Leaf.std.ar .shr .u32 ((revN (len ls t) (code ls t) : Nat) : Int) (j : Int)) 1) = ((code ls t / 2 ^ (len ls t - 1 - j) % 2 : Nat) : Int) := by
        show LConv .u8 (LAr .and .u32 (LAr .shr .u32 ((revN (len ls t) (code ls t) : Nat) : Int) (j : Int)) 1) = _
        rw [l_shr_u32 (by omega) (by omega), l_and1_u32, Int.toNat_natCast]
        have e2 : ((revN (len ls t) (code ls t) : Nat) : Int) / 2 ^ j % 2 = ((code ls t / 2 ^ (len ls t - 1 - j) % 2 : Nat) : Int) := by
          rw [← revN_bits hj]; simp
        rw [e2, l_conv_u8 (by omega) (by omega)]
      rw [e]
      intro h
      have h : (!(((code ls t / 2 ^ (len ls t - 1 - j) % 2 : Nat) : Int) == ((UInt8.ofNat (code ls t / 2 ^ (len ls t - 1 - j) % 2)).toNat : Int))) = true := h
      have e4 : (UInt8.ofNat (code ls t / 2 ^ (len ls t - 1 - j) % 2)).toNat = code ls t / 2 ^ (len ls t - 1 - j) % 2 := by
        rw [UInt8.toNat_ofNat']; omega
      rw [e4] at h
      simp at h
/-- One that there isn't. -/
theorem cdO {A : Leaf} {ls : List Int} {s v size : Int} {has : Bool} (hA : A = .std) (hv : BitIs ls s v size has) (h : A.cmp .geq s 0 = false ∨ A.cmp .lss s (A.len ls) = false) : has = false ∧ size = 0 ∧ v = 0 := by
  subst hA
  rcases hv with ⟨rfl, u, hu, h1, h2, h3, h4⟩ | ⟨rfl, rfl, rfl, hz⟩
  · exfalso
    rcases h with h | h
    · have h : ¬ (0 : Int) ≤ s := of_decide_eq_false h
      omega
    · have h : ¬ s < (ls.length : Int) := of_decide_eq_false h
      omega
  · exact ⟨rfl, rfl, rfl⟩
structure CdN (A : Leaf) (ls counts : List Int) (many cost s size : Int) (has : Bool) : Prop where
  no : has = false → CdInv ls counts (many, cost, A.ar .add .i64 s 1)
  mu : (ls.length + 1 - A.ar .add .i64 s 1).toNat < (ls.length + 1 - s).toNat
  q : has = true → A.cmp .lss s (A.len counts) = true → A.inb s (A.len counts)
  yes : has = true → A.cmp .lss s (A.len counts) = true → A.cmp .gtr (A.get 0 counts s) 0 = true → A.cmp .leq (A.get 0 counts s) 1099511627776 = true →
    CdInv ls counts (A.ar .add .i64 many 1, A.ar .add .i64 cost (A.ar .mul .i64 (A.get 0 counts s) size), A.ar .add .i64 s 1)
  nay : has = true → A.cmp .lss s (A.len counts) = false ∨ A.cmp .gtr (A.get 0 counts s) 0 = false ∨ A.cmp .leq (A.get 0 counts s) 1099511627776 = false →
    CdInv ls counts (A.ar .add .i64 many 1, cost, A.ar .add .i64 s 1)
theorem cdN {A : Leaf} {ls counts : List Int} {many cost s v size : Int} {has : Bool} (hA : A = .std) (hR : RdyR ls) (hI : CdInv ls counts (many, cost, s)) (h1 : A.cmp .leq s (A.len ls) = true) (hv : BitIs ls s v size has) : CdN A ls counts many cost s size has := by
  obtain ⟨j, e1, hj, e2, e3⟩ := hI
  simp only at e1 e2 e3
  subst hA
  have h1 : s ≤ (ls.length : Int) := of_decide_eq_true h1
  have hle := hR.le
  have ea : Leaf.std.ar .add .i64 s 1 = ((j + 1 : Nat) : Int) - 1 := by rw [add_i64 (by omega) (by omega)]; omega
  have hml := many_le ls (j - 1)
  have hcl := costN_le hR.b counts (j - 1)
  have hz : has = false → ∀ t : Nat, s = t → len ls t = 0 := by
    rintro h t ht
    rcases hv with ⟨rfl, _⟩ | ⟨_, _, _, hz⟩
    · cases h
    · rcases Nat.lt_or_ge t ls.length with h2 | h2
      · exact hz t ht h2
      · exact len_out h2
  have hy : has = true → ∃ t : Nat, s = t ∧ j = t + 1 ∧ t < ls.length ∧ 0 < len ls t ∧ size = (len ls t : Nat) := by
    rintro h
    rcases hv with ⟨_, u, hu, h1, h2, h3, h4⟩ | ⟨rfl, _⟩
    · exact ⟨u, hu, by omega, h1, h2, h4⟩
    · cases h
  refine ⟨fun h => ?_, by rw [ea]; omega, fun h a => ?_, fun h a b c => ?_, fun h a => ?_⟩
  · refine ⟨j + 1, ea, by omega, ?_, ?_⟩
    · show many = _
      rcases Nat.eq_zero_or_pos j with h0 | h0
      · subst h0; exact e2
      · obtain ⟨t, rfl⟩ : ∃ t, j = t + 1 := ⟨j - 1, by omega⟩
        have hl := hz h t (by omega)
        rw [e2]
        simp only [Nat.add_sub_cancel]
        rcases Nat.lt_or_ge t ls.length with h2 | h2
        · rw [many_succ hR.b h2, hl]; simp
        · rw [many_out h2]
    · show cost = _
      rcases Nat.eq_zero_or_pos j with h0 | h0
      · subst h0; exact e3
      · obtain ⟨t, rfl⟩ : ∃ t, j = t + 1 := ⟨j - 1, by omega⟩
        have hl := hz h t (by omega)
        rw [e3]
        simp only [Nat.add_sub_cancel]
        rw [costN, cost1_len0 _ hl, Int.add_zero]
  · obtain ⟨t, rfl, _⟩ := hy h
    have a : (t : Int) < (counts.length : Int) := of_decide_eq_true a
    show (0 : Int) ≤ (t : Int) ∧ (t : Int) < (counts.length : Int); omega
  · obtain ⟨t, rfl, rfl, k1, k2, rfl⟩ := hy h
    have a : (t : Int) < (counts.length : Int) := of_decide_eq_true a
    have eg : Leaf.std.get 0 counts (t : Int) = counts.getD t 0 := by show counts.getD ((t : Int).toNat) 0 = _; rw [Int.toNat_natCast]
    rw [eg] at b c ⊢
    have b : (0 : Int) < counts.getD t 0 := of_decide_eq_true b
    have c : counts.getD t 0 ≤ (1099511627776 : Int) := of_decide_eq_true c
    have h15 := len_le hR.b t
    simp only [Nat.add_sub_cancel] at e2 e3 hml hcl
    have hc1 : cost1 ls counts t = counts.getD t 0 * ((len ls t : Nat) : Int) := by unfold cost1; rw [if_pos ⟨b, c⟩]
    have hb := cost1_le hR.b counts t
    rw [hc1] at hb
    have em : Leaf.std.ar .mul .i64 (counts.getD t 0) ((len ls t : Nat) : Int) = counts.getD t 0 * ((len ls t : Nat) : Int) := mul_i64 (by omega) (by omega)
    have ec : Leaf.std.ar .add .i64 cost (counts.getD t 0 * ((len ls t : Nat) : Int)) = cost + counts.getD t 0 * ((len ls t : Nat) : Int) := by
      refine add_i64 ?_ ?_
      · omega
      · have : (16492674416640 : Int) * t ≤ 16492674416640 * 320 := by omega
        omega
    have en : Leaf.std.ar .add .i64 many 1 = many + 1 := add_i64 (by omega) (by omega)
    rw [em, ec, en, ea]
    refine ⟨t + 1 + 1, rfl, by omega, ?_, ?_⟩
    · simp only [Nat.add_sub_cancel]
      rw [many_succ hR.b k1, if_pos k2, e2]; omega
    · simp only [Nat.add_sub_cancel]
      rw [costN, hc1, e3]
  · obtain ⟨t, rfl, rfl, k1, k2, rfl⟩ := hy h
    simp only [Nat.add_sub_cancel] at e2 e3 hml hcl
    have eg : Leaf.std.get 0 counts (t : Int) = counts.getD t 0 := by show counts.getD ((t : Int).toNat) 0 = _; rw [Int.toNat_natCast]
    have hc1 : cost1 ls counts t = 0 := by
      rcases a with a | a | a
      · have a : ¬ (t : Int) < (counts.length : Int) := of_decide_eq_false a
        exact cost1_out (by omega)
      · rw [eg] at a
        have a : ¬ (0 : Int) < counts.getD t 0 := of_decide_eq_false a
        unfold cost1; rw [if_neg (fun h => a h.1)]
      · rw [eg] at a
        have a : ¬ counts.getD t 0 ≤ (1099511627776 : Int) := of_decide_eq_false a
        unfold cost1; rw [if_neg (fun h => a h.2)]
    have en : Leaf.std.ar .add .i64 many 1 = many + 1 := add_i64 (by omega) (by omega)
    rw [en, ea]
    refine ⟨t + 1 + 1, rfl, by omega, ?_, ?_⟩
    · simp only [Nat.add_sub_cancel]
      rw [many_succ hR.b k1, if_pos k2, e2]; omega
    · simp only [Nat.add_sub_cancel]
      rw [costN, hc1, e3, Int.add_zero]
structure CdFin (A : Leaf) (n : Int) (ls counts os : List Int) (many cost r : Int) : Prop where
  d1 : ∀ k, SymsIs os k → A.cmp .eql k many = false → False
  d2 : ∀ b, CompIs r b → A.beq b (A.cmp .eql n 32768) = false → False
  d3 : ∀ k, CostIs ls counts k → A.cmp .eql k cost = true
theorem cdFin {A : Leaf} {n : Int} {ok : Bool} {ls counts : List Int} {ws : List Pr} {fs cs ss os : List Int} {r many cost s : Int} (hA : A = .std) (hc : CodeOK ls ws fs cs ss os r) (hn : RoomIs ls n ok) (hI : CdInv ls counts (many, cost, s)) (h1 : A.cmp .leq s (A.len ls) = false) : CdFin A n ls counts os many cost r := by
  obtain ⟨j, e1, hj, e2, e3⟩ := hI
  simp only at e1 e2 e3
  subst hA
  have h1 : ¬ s ≤ (ls.length : Int) := of_decide_eq_false h1
  have hj2 : j = ls.length + 2 := by omega
  subst hj2
  have er : n = r := by
    rcases hn with ⟨_, _, _, h⟩ | ⟨_, h, _⟩
    · rw [h, hc.r]
    · exact absurd ⟨hc.fine.le, hc.fine.inb⟩ h
  subst er
  refine ⟨fun k hk h => ?_, fun b hb h => ?_, fun k hk => ?_⟩
  · have h : (k == many) = false := h
    unfold SymsIs at hk
    rw [hk, e2, many_all hc.fine.inb (by omega), hc.o.ln] at h
    simp at h
  · unfold CompIs at hb
    have h : (b == (n == (32768 : Int))) = false := h
    subst hb
    by_cases h2 : n = 32768
    · subst h2; simp at h
    · have : (n == (32768 : Int)) = false := by simpa using h2
      rw [this] at h; simp [h2] at h
  · show (k == cost) = true
    unfold CostIs at hk
    rw [hk, e3, costN_cap (j := ls.length + 2 - 1) (by omega)]
    simp
end Go.L1

-- C6
namespace Go.L1
open Go Go.Sx Go.Proofs Go.Huff
set_option maxRecDepth 20000
set_option linter.unusedVariables false
set_option linter.unusedSimpArgs false
theorem RoomIs.uniq {ls : List Int} {n m : Int} {a b : Bool} (h1 : RoomIs ls n a) (h2 : RoomIs ls m b) : n = m ∧ a = b := by
  rcases h1 with ⟨rfl, a1, a2, rfl⟩ | ⟨rfl, a1, rfl⟩ <;> rcases h2 with ⟨rfl, b1, b2, rfl⟩ | ⟨rfl, b1, rfl⟩
  · exact ⟨rfl, rfl⟩
  · exact absurd ⟨a1, a2⟩ b1
  · exact absurd ⟨b1, b2⟩ a1
  · exact ⟨rfl, rfl⟩
theorem beq_self {A : Leaf} (hA : A = .std) {b : Bool} (h : A.bnot (A.beq b b) = true) : False := by
  subst hA
  have h : (!(b == b)) = true := h
  simp at h
theorem le400 {A : Leaf} {ls : List Int} (hA : A = .std) (h : A.cmp .gtr (A.len ls) 400 = false) : Le400 ls := by
  subst hA
  have h : ¬ (400 : Int) < (ls.length : Int) := of_decide_eq_false h
  exact ⟨by omega⟩
theorem none1 {A : Leaf} (hA : A = .std) : A.bnot (A.beq false (A.cmp .gtr (A.len ([] : List UInt8)) 0)) = true → False := by
  subst hA
  intro h; cases h
theorem none2 {A : Leaf} (hA : A = .std) : A.cmp .neq 0 (A.len ([] : List UInt8)) = true → False := by
  subst hA
  intro h; cases h
theorem none3 {A : Leaf} {k : Int} (hA : A = .std) (h : UpS 0 k) : A.cmp .lss k 0 = true → False := by
  subst hA
  intro h2
  have h2 : k < 0 := of_decide_eq_true h2
  have := h.1
  omega
theorem codes_ok (ls counts : List Int) : FOK Try.prog C1 3 (fun _ => false) [.ro (.ints .i64 ls), .ro (.ints .i64 counts)] [] Yes := by
  refine fok_of (B := ⟨lookT tis, fun _ => false⟩) (tab1 _) (zero1 _) cod1 mix1 Try.func3 (by kernel_rfl) rfl rfl rfl fun X F => ?_
  obtain ⟨A, hA⟩ : ∃ A, A = Leaf.std := ⟨_, rfl⟩
  refine F.hold hA 2000 ?_
  cbv
  repeat' (first
    | refine OK.drawn (by decide +kernel) ?_
    | refine OK.tree ⟨lookT tis, fun _ => true⟩ (by decide +kernel) ?_
    | refine OK.both ?_ ?_
    | refine OK.need (by first | assumption | (rw [hA]; first | (show (_ : Int) ≠ _; decide) | (show (0 : Int) ≤ _; decide) | (show (0 : Int) ≤ _ ∧ _ < (256 : Int); decide))) ?_
    | refine OK.need ?_ ?_
    | (refine OK.branch ?_ ?_ <;> intro h)
    | (refine F.hold hA 2000 ?_; cbv))
  refine F.call [] (alive_ok) rfl rfl rfl fun rs H' hq => ?_
  obtain ⟨b, rfl, rfl, rfl⟩ := hq
  refine ⟨rfl, ?_⟩
  repeat' (first
    | refine OK.drawn (by decide +kernel) ?_
    | refine OK.tree ⟨lookT tis, fun _ => true⟩ (by decide +kernel) ?_
    | refine OK.both ?_ ?_
    | refine OK.need (by first | assumption | (rw [hA]; first | (show (_ : Int) ≠ _; decide) | (show (0 : Int) ≤ _; decide) | (show (0 : Int) ≤ _ ∧ _ < (256 : Int); decide))) ?_
    | refine OK.need ?_ ?_
    | (refine OK.branch ?_ ?_ <;> intro h)
    | (refine F.hold hA 2000 ?_; cbv))
  · exfalso; subst hA; cases h
  · exact F.ret0 ⟨_, rfl, rfl⟩
  · exact F.ret0 ⟨_, rfl, rfl⟩
  have hl := le400 hA ‹A.cmp .gtr (A.len ls) 400 = false›
  have hl2 := le400 hA ‹A.cmp .gtr (A.len counts) 400 = false›
  refine F.call [] (copyInts_ok ls hl) rfl rfl rfl fun rs H' hq => ?_
  obtain ⟨rfl, rfl⟩ := hq
  refine ⟨rfl, ?_⟩
  repeat (first
    | refine OK.drawn (by decide +kernel) ?_
    | refine OK.tree ⟨lookT tis, fun _ => true⟩ (by decide +kernel) ?_
    | refine OK.need (by first | assumption | (rw [hA]; first | (show (_ : Int) ≠ _; decide) | (show (0 : Int) ≤ _; decide) | (show (0 : Int) ≤ _ ∧ _ < (256 : Int); decide))) ?_
    | (refine F.hold hA 2000 ?_; cbv))
  refine F.callFrz 0 rfl rfl rfl rfl ?_
  refine F.call [] (room_ok ls) rfl rfl rfl fun rs H' hq => ?_
  obtain ⟨n, ok, rfl, rfl, hrm⟩ := hq
  refine ⟨rfl, ?_⟩
  repeat (first
    | refine OK.drawn (by decide +kernel) ?_
    | refine OK.tree ⟨lookT tis, fun _ => true⟩ (by decide +kernel) ?_
    | refine OK.need (by first | assumption | (rw [hA]; first | (show (_ : Int) ≠ _; decide) | (show (0 : Int) ≤ _; decide) | (show (0 : Int) ≤ _ ∧ _ < (256 : Int); decide))) ?_
    | (refine F.hold hA 2000 ?_; cbv))
  refine F.call [] (refroom_ok ls) rfl rfl rfl fun rs H' hq => ?_
  obtain ⟨m, is, rfl, rfl, hrm2⟩ := hq
  refine ⟨rfl, ?_⟩
  obtain ⟨rfl, rfl⟩ := hrm.uniq hrm2
  clear hrm2
  repeat (first
    | refine OK.drawn (by decide +kernel) ?_
    | refine OK.tree ⟨lookT tis, fun _ => true⟩ (by decide +kernel) ?_
    | refine OK.need (by first | assumption | (rw [hA]; first | (show (_ : Int) ≠ _; decide) | (show (0 : Int) ≤ _; decide) | (show (0 : Int) ≤ _ ∧ _ < (256 : Int); decide))) ?_
    | (refine F.hold hA 2000 ?_; cbv))
  refine F.call [] (new_ok ls) rfl rfl rfl fun rs H' hq => ?_
  rcases hq with ⟨e, rfl, rfl, ⟨rfl, hbad⟩ | ⟨rfl, hbad⟩⟩ | ⟨ws, fs, cs, ss, os, r, rfl, rfl, hc⟩
  · refine ⟨rfl, ?_⟩
    repeat (first
      | refine OK.drawn (by decide +kernel) ?_
      | refine OK.tree ⟨lookT tis, fun _ => true⟩ (by decide +kernel) ?_
      | refine OK.need (by first | assumption | (rw [hA]; first | (show (_ : Int) ≠ _; decide) | (show (0 : Int) ≤ _; decide) | (show (0 : Int) ≤ _ ∧ _ < (256 : Int); decide))) ?_
      | (refine F.hold hA 2000 ?_; cbv))
    refine F.call [] (refnew_ok ls) rfl rfl rfl fun rs H' hq => ?_
    rcases hq with ⟨e, rfl, rfl, ⟨rfl, hb2⟩ | ⟨rfl, hb2⟩⟩ | ⟨rows, rfl, rfl, hR, hrows⟩
    · refine ⟨rfl, ?_⟩
      repeat' (first
        | contradiction
        | exact (neq_self hA (by assumption)).elim
        | exact (beq_self hA (by assumption)).elim
        | refine OK.drawn (by decide +kernel) ?_
        | refine OK.tree ⟨lookT tis, fun _ => true⟩ (by decide +kernel) ?_
        | refine OK.both ?_ ?_
        | refine OK.need (by first | assumption | (rw [hA]; first | (show (_ : Int) ≠ _; decide) | (show (0 : Int) ≤ _; decide) | (show (0 : Int) ≤ _ ∧ _ < (256 : Int); decide))) ?_
        | refine OK.need ?_ ?_
        | (refine OK.branch ?_ ?_ <;> intro h)
        | (refine F.hold hA 2000 ?_; cbv))
      refine F.call [] (sameInts_ok ls hl) rfl rfl rfl fun rs H' hq => ?_
      obtain ⟨rfl, rfl⟩ := hq
      refine ⟨rfl, ?_⟩
      repeat' (first
        | contradiction
        | exact (neq_self hA (by assumption)).elim
        | exact (beq_self hA (by assumption)).elim
        | refine OK.drawn (by decide +kernel) ?_
        | refine OK.tree ⟨lookT tis, fun _ => true⟩ (by decide +kernel) ?_
        | refine OK.both ?_ ?_
        | refine OK.need (by first | assumption | (rw [hA]; first | (show (_ : Int) ≠ _; decide) | (show (0 : Int) ≤ _; decide) | (show (0 : Int) ≤ _ ∧ _ < (256 : Int); decide))) ?_
        | refine OK.need ?_ ?_
        | (refine OK.branch ?_ ?_ <;> intro h)
        | (refine F.hold hA 2000 ?_; cbv))
      all_goals exact F.ret0 ⟨_, rfl, rfl⟩
    · exact absurd hb2.1 hbad
    · exact absurd ⟨hR.le, hR.b⟩ hbad
  · refine ⟨rfl, ?_⟩
    repeat' (first
      | refine OK.drawn (by decide +kernel) ?_
      | refine OK.tree ⟨lookT tis, fun _ => true⟩ (by decide +kernel) ?_
      | refine OK.both ?_ ?_
      | refine OK.need (by first | assumption | (rw [hA]; first | (show (_ : Int) ≠ _; decide) | (show (0 : Int) ≤ _; decide) | (show (0 : Int) ≤ _ ∧ _ < (256 : Int); decide))) ?_
      | refine OK.need ?_ ?_
      | (refine OK.branch ?_ ?_ <;> intro h)
      | (refine F.hold hA 2000 ?_; cbv))
    refine F.call [] (refnew_ok ls) rfl rfl rfl fun rs H' hq => ?_
    rcases hq with ⟨e, rfl, rfl, ⟨rfl, hb2⟩ | ⟨rfl, hb2⟩⟩ | ⟨rows, rfl, rfl, hR, hrows⟩
    · exact absurd hbad.1 hb2
    · refine ⟨rfl, ?_⟩
      repeat' (first
        | contradiction
        | exact (neq_self hA (by assumption)).elim
        | exact (beq_self hA (by assumption)).elim
        | refine OK.drawn (by decide +kernel) ?_
        | refine OK.tree ⟨lookT tis, fun _ => true⟩ (by decide +kernel) ?_
        | refine OK.both ?_ ?_
        | refine OK.need (by first | assumption | (rw [hA]; first | (show (_ : Int) ≠ _; decide) | (show (0 : Int) ≤ _; decide) | (show (0 : Int) ≤ _ ∧ _ < (256 : Int); decide))) ?_
        | refine OK.need ?_ ?_
        | (refine OK.branch ?_ ?_ <;> intro h)
        | (refine F.hold hA 2000 ?_; cbv))
      refine F.call [] (sameInts_ok ls hl) rfl rfl rfl fun rs H' hq => ?_
      obtain ⟨rfl, rfl⟩ := hq
      refine ⟨rfl, ?_⟩
      repeat' (first
        | contradiction
        | exact (neq_self hA (by assumption)).elim
        | exact (beq_self hA (by assumption)).elim
        | refine OK.drawn (by decide +kernel) ?_
        | refine OK.tree ⟨lookT tis, fun _ => true⟩ (by decide +kernel) ?_
        | refine OK.both ?_ ?_
        | refine OK.need (by first | assumption | (rw [hA]; first | (show (_ : Int) ≠ _; decide) | (show (0 : Int) ≤ _; decide) | (show (0 : Int) ≤ _ ∧ _ < (256 : Int); decide))) ?_
        | refine OK.need ?_ ?_
        | (refine OK.branch ?_ ?_ <;> intro h)
        | (refine F.hold hA 2000 ?_; cbv))
      all_goals exact F.ret0 ⟨_, rfl, rfl⟩
    · exact absurd hR.r (by have := hbad.2; omega)
  refine ⟨rfl, ?_⟩
  repeat (first
    | refine OK.drawn (by decide +kernel) ?_
    | refine OK.tree ⟨lookT tis, fun _ => true⟩ (by decide +kernel) ?_
    | refine OK.need (by first | assumption | (rw [hA]; first | (show (_ : Int) ≠ _; decide) | (show (0 : Int) ≤ _; decide) | (show (0 : Int) ≤ _ ∧ _ < (256 : Int); decide))) ?_
    | (refine F.hold hA 2000 ?_; cbv))
  refine F.call [] (refnew_ok ls) rfl rfl rfl fun rs H' hq => ?_
  rcases hq with ⟨e, rfl, rfl, ⟨rfl, hb2⟩ | ⟨rfl, hb2⟩⟩ | ⟨rows, rfl, rfl, hR, hrows⟩
  · exact absurd ⟨hc.fine.le, hc.fine.inb⟩ hb2
  · exact absurd hc.fine.room (by have := hb2.2; omega)
  refine ⟨rfl, ?_⟩
  generalize ((roomN ls : Nat) : Int) = rn
  have hor : ORows ls rows := hrows ▸ mp_rows hR.b
  clear hrows
  repeat' (first
    | contradiction
    | exact (neq_self hA (by assumption)).elim
    | exact (beq_self hA (by assumption)).elim
    | refine OK.drawn (by decide +kernel) ?_
    | refine OK.tree ⟨lookT tis, fun _ => true⟩ (by decide +kernel) ?_
    | refine OK.both ?_ ?_
    | refine OK.need (by first | assumption | (rw [hA]; first | (show (_ : Int) ≠ _; decide) | (show (0 : Int) ≤ _; decide) | (show (0 : Int) ≤ _ ∧ _ < (256 : Int); decide))) ?_
    | refine OK.need ?_ ?_
    | (refine OK.branch ?_ ?_ <;> intro h)
    | (refine F.hold hA 2000 ?_; cbv))
  refine F.call [] (sameInts_ok ls hl) rfl rfl rfl fun rs H' hq => ?_
  obtain ⟨rfl, rfl⟩ := hq
  refine ⟨rfl, ?_⟩
  repeat' (first
    | contradiction
    | exact (neq_self hA (by assumption)).elim
    | exact (beq_self hA (by assumption)).elim
    | refine OK.drawn (by decide +kernel) ?_
    | refine OK.tree ⟨lookT tis, fun _ => true⟩ (by decide +kernel) ?_
    | refine OK.both ?_ ?_
    | refine OK.need (by first | assumption | (rw [hA]; first | (show (_ : Int) ≠ _; decide) | (show (0 : Int) ≤ _; decide) | (show (0 : Int) ≤ _ ∧ _ < (256 : Int); decide))) ?_
    | refine OK.need ?_ ?_
    | (refine OK.branch ?_ ?_ <;> intro h)
    | (refine F.hold hA 2000 ?_; cbv))
  refine F.loop (V := Int × Int × Int) [0, 1, 8, 10, 12] (CdInv ls counts) (fun w => (ls.length + 1 - w.2.2).toNat) (fun w => [(14, .int .i64 w.1), (15, .int .i64 w.2.1), (16, .int .i64 w.2.2)]) (fun w => []) (_, _, _) (by cbv; repeat (first | exact WkH.nil _ | apply WkH.gone | refine WkH.eq rfl ?_)) (by cbv; repeat (first | apply WkL.any | exact WkL.nil _ | refine WkL.eq rfl ?_ | refine WkL.bool rfl ?_)) (by cbv; exact ⟨rfl⟩) ?_ ?_
  · exact ⟨0, rfl, Nat.zero_le _, rfl, rfl⟩
  rintro ⟨many, cost, s⟩ hI BkO hBkO
  repeat (first
    | refine OK.drawn (by decide +kernel) ?_
    | refine OK.tree ⟨lookT tis, fun _ => true⟩ (by decide +kernel) ?_
    | refine OK.need (by first | assumption | (rw [hA]; first | (show (_ : Int) ≠ _; decide) | (show (0 : Int) ≤ _; decide) | (show (0 : Int) ≤ _ ∧ _ < (256 : Int); decide))) ?_
    | (refine F.hold hA 2000 ?_; cbv))
  refine OK.branch (fun b1 => ?_) (fun b1 => ?_)
  · repeat (first
      | refine OK.drawn (by decide +kernel) ?_
      | refine OK.tree ⟨lookT tis, fun _ => true⟩ (by decide +kernel) ?_
      | refine OK.need (by first | assumption | (rw [hA]; first | (show (_ : Int) ≠ _; decide) | (show (0 : Int) ≤ _; decide) | (show (0 : Int) ≤ _ ∧ _ < (256 : Int); decide))) ?_
      | (refine F.hold hA 2000 ?_; cbv))
    refine F.call [2] (cbits_ok ls ws fs cs ss os r s hc) rfl rfl rfl fun rs H' hq => ?_
    obtain ⟨v, size, has, rfl, rfl, hv⟩ := hq
    refine ⟨rfl, ?_⟩
    have hcn := cdN hA hR hI b1 hv
    repeat (first
      | refine OK.drawn (by decide +kernel) ?_
      | refine OK.tree ⟨lookT tis, fun _ => true⟩ (by decide +kernel) ?_
      | refine OK.need (by first | assumption | (rw [hA]; first | (show (_ : Int) ≠ _; decide) | (show (0 : Int) ≤ _; decide) | (show (0 : Int) ≤ _ ∧ _ < (256 : Int); decide))) ?_
      | (refine F.hold hA 2000 ?_; cbv))
    refine OK.branch (fun b2 => ?_) (fun b2 => ?_)
    · repeat (first
        | refine OK.drawn (by decide +kernel) ?_
        | refine OK.tree ⟨lookT tis, fun _ => true⟩ (by decide +kernel) ?_
        | refine OK.need (by first | assumption | (rw [hA]; first | (show (_ : Int) ≠ _; decide) | (show (0 : Int) ≤ _; decide) | (show (0 : Int) ≤ _ ∧ _ < (256 : Int); decide))) ?_
        | (refine F.hold hA 2000 ?_; cbv))
      refine OK.branch (fun b3 => ?_) (fun b3 => ?_)
      · have hat := cdR hA hR hor hv b2 b3
        have q1 := hat.q
        repeat (first
          | refine OK.drawn (by decide +kernel) ?_
          | refine OK.tree ⟨lookT tis, fun _ => true⟩ (by decide +kernel) ?_
          | refine OK.need (by first | assumption | (rw [hA]; first | (show (_ : Int) ≠ _; decide) | (show (0 : Int) ≤ _; decide) | (show (0 : Int) ≤ _ ∧ _ < (256 : Int); decide))) ?_
          | (refine F.hold hA 2000 ?_; cbv))
        refine OK.branch (fun b4 => (hat.d1 b4).elim) (fun b4 => ?_)
        repeat (first
          | refine OK.drawn (by decide +kernel) ?_
          | refine OK.tree ⟨lookT tis, fun _ => true⟩ (by decide +kernel) ?_
          | refine OK.need (by first | assumption | (rw [hA]; first | (show (_ : Int) ≠ _; decide) | (show (0 : Int) ≤ _; decide) | (show (0 : Int) ≤ _ ∧ _ < (256 : Int); decide))) ?_
          | (refine F.hold hA 2000 ?_; cbv))
        refine OK.branch (fun b5 => (hat.d2 b5).elim) (fun b5 => ?_)
        repeat (first
          | refine OK.drawn (by decide +kernel) ?_
          | refine OK.tree ⟨lookT tis, fun _ => true⟩ (by decide +kernel) ?_
          | refine OK.need (by first | assumption | (rw [hA]; first | (show (_ : Int) ≠ _; decide) | (show (0 : Int) ≤ _; decide) | (show (0 : Int) ≤ _ ∧ _ < (256 : Int); decide))) ?_
          | (refine F.hold hA 2000 ?_; cbv))
        refine F.loop (V := Int) [0, 1, 8, 10, 12, 14, 15, 16, 17, 18, 19, 20] (UpS size) (fun k => (size - k).toNat) (fun k => [(21, .int .i64 k)]) (fun k => []) _ (by cbv; repeat (first | exact WkH.nil _ | apply WkH.gone | refine WkH.eq rfl ?_)) (by cbv; repeat (first | apply WkL.any | exact WkL.nil _ | refine WkL.eq rfl ?_ | refine WkL.bool rfl ?_)) (by cbv; exact ⟨rfl⟩) ?_ ?_
        · exact hat.z
        rintro k hI2 Bk hBk
        repeat (first
          | refine OK.drawn (by decide +kernel) ?_
          | refine OK.tree ⟨lookT tis, fun _ => true⟩ (by decide +kernel) ?_
          | refine OK.need (by first | assumption | (rw [hA]; first | (show (_ : Int) ≠ _; decide) | (show (0 : Int) ≤ _; decide) | (show (0 : Int) ≤ _ ∧ _ < (256 : Int); decide))) ?_
          | (refine F.hold hA 2000 ?_; cbv))
        refine OK.branch (fun b6 => ?_) (fun b6 => ?_)
        · have hk := hat.at_ k hI2 b6
          have q2 := hk.q
          have q3 := hk.nn
          repeat (first
            | refine OK.drawn (by decide +kernel) ?_
            | refine OK.tree ⟨lookT tis, fun _ => true⟩ (by decide +kernel) ?_
            | refine OK.need (by first | assumption | (rw [hA]; first | (show (_ : Int) ≠ _; decide) | (show (0 : Int) ≤ _; decide) | (show (0 : Int) ≤ _ ∧ _ < (256 : Int); decide))) ?_
            | (refine F.hold hA 2000 ?_; cbv))
          refine OK.branch (fun b7 => (hk.d b7).elim) (fun b7 => ?_)
          repeat (first
            | refine OK.drawn (by decide +kernel) ?_
            | refine OK.tree ⟨lookT tis, fun _ => true⟩ (by decide +kernel) ?_
            | refine OK.need (by first | assumption | (rw [hA]; first | (show (_ : Int) ≠ _; decide) | (show (0 : Int) ≤ _; decide) | (show (0 : Int) ≤ _ ∧ _ < (256 : Int); decide))) ?_
            | (refine F.hold hA 2000 ?_; cbv))
          refine OK.back (hBk _ _ _ (by cbv; repeat (first | exact WkH.nil _ | apply WkH.gone | refine WkH.eq rfl ?_)) (by cbv; repeat (first | apply WkL.any | exact WkL.nil _ | refine WkL.eq rfl ?_ | refine WkL.bool rfl ?_)) (by cbv; exact ⟨rfl⟩) ?_ ?_)
          · exact hk.nx
          · exact hk.mu
        · clear hBk
          repeat (first
            | refine OK.drawn (by decide +kernel) ?_
            | refine OK.tree ⟨lookT tis, fun _ => true⟩ (by decide +kernel) ?_
            | refine OK.need (by first | assumption | (rw [hA]; first | (show (_ : Int) ≠ _; decide) | (show (0 : Int) ≤ _; decide) | (show (0 : Int) ≤ _ ∧ _ < (256 : Int); decide))) ?_
            | (refine F.hold hA 2000 ?_; cbv))
          have hBk := hBkO
          refine OK.branch (fun b8 => ?_) (fun b8 => ?_)
          · repeat (first
              | refine OK.drawn (by decide +kernel) ?_
              | refine OK.tree ⟨lookT tis, fun _ => true⟩ (by decide +kernel) ?_
              | refine OK.need (by first | assumption | (rw [hA]; first | (show (_ : Int) ≠ _; decide) | (show (0 : Int) ≤ _; decide) | (show (0 : Int) ≤ _ ∧ _ < (256 : Int); decide))) ?_
              | (refine F.hold hA 2000 ?_; cbv))
            refine OK.branch (fun b9 => ?_) (fun b9 => ?_)
            · have q9 := hcn.q b8 b9
              repeat (first
                | refine OK.drawn (by decide +kernel) ?_
                | refine OK.tree ⟨lookT tis, fun _ => true⟩ (by decide +kernel) ?_
                | refine OK.need (by first | assumption | (rw [hA]; first | (show (_ : Int) ≠ _; decide) | (show (0 : Int) ≤ _; decide) | (show (0 : Int) ≤ _ ∧ _ < (256 : Int); decide))) ?_
                | (refine F.hold hA 2000 ?_; cbv))
              refine OK.branch (fun b10 => ?_) (fun b10 => ?_)
              · repeat (first
                  | refine OK.drawn (by decide +kernel) ?_
                  | refine OK.tree ⟨lookT tis, fun _ => true⟩ (by decide +kernel) ?_
                  | refine OK.need (by first | assumption | (rw [hA]; first | (show (_ : Int) ≠ _; decide) | (show (0 : Int) ≤ _; decide) | (show (0 : Int) ≤ _ ∧ _ < (256 : Int); decide))) ?_
                  | (refine F.hold hA 2000 ?_; cbv))
                refine OK.branch (fun b11 => ?_) (fun b11 => ?_)
                · repeat (first
                    | refine OK.drawn (by decide +kernel) ?_
                    | refine OK.tree ⟨lookT tis, fun _ => true⟩ (by decide +kernel) ?_
                    | refine OK.need (by first | assumption | (rw [hA]; first | (show (_ : Int) ≠ _; decide) | (show (0 : Int) ≤ _; decide) | (show (0 : Int) ≤ _ ∧ _ < (256 : Int); decide))) ?_
                    | (refine F.hold hA 2000 ?_; cbv))
                  refine OK.back (hBk _ _ (_, _, _) (by cbv; repeat (first | exact WkH.nil _ | apply WkH.gone | refine WkH.eq rfl ?_)) (by cbv; repeat (first | apply WkL.any | exact WkL.nil _ | refine WkL.eq rfl ?_ | refine WkL.bool rfl ?_)) (by cbv; exact ⟨rfl⟩) ?_ ?_)
                  · exact hcn.yes b8 b9 b10 b11
                  · exact hcn.mu
                · repeat (first
                    | refine OK.drawn (by decide +kernel) ?_
                    | refine OK.tree ⟨lookT tis, fun _ => true⟩ (by decide +kernel) ?_
                    | refine OK.need (by first | assumption | (rw [hA]; first | (show (_ : Int) ≠ _; decide) | (show (0 : Int) ≤ _; decide) | (show (0 : Int) ≤ _ ∧ _ < (256 : Int); decide))) ?_
                    | (refine F.hold hA 2000 ?_; cbv))
                  refine OK.back (hBk _ _ (_, _, _) (by cbv; repeat (first | exact WkH.nil _ | apply WkH.gone | refine WkH.eq rfl ?_)) (by cbv; repeat (first | apply WkL.any | exact WkL.nil _ | refine WkL.eq rfl ?_ | refine WkL.bool rfl ?_)) (by cbv; exact ⟨rfl⟩) ?_ ?_)
                  · exact hcn.nay b8 (.inr (.inr b11))
                  · exact hcn.mu
              · repeat (first
                  | refine OK.drawn (by decide +kernel) ?_
                  | refine OK.tree ⟨lookT tis, fun _ => true⟩ (by decide +kernel) ?_
                  | refine OK.need (by first | assumption | (rw [hA]; first | (show (_ : Int) ≠ _; decide) | (show (0 : Int) ≤ _; decide) | (show (0 : Int) ≤ _ ∧ _ < (256 : Int); decide))) ?_
                  | (refine F.hold hA 2000 ?_; cbv))
                refine OK.back (hBk _ _ (_, _, _) (by cbv; repeat (first | exact WkH.nil _ | apply WkH.gone | refine WkH.eq rfl ?_)) (by cbv; repeat (first | apply WkL.any | exact WkL.nil _ | refine WkL.eq rfl ?_ | refine WkL.bool rfl ?_)) (by cbv; exact ⟨rfl⟩) ?_ ?_)
                · exact hcn.nay b8 (.inr (.inl b10))
                · exact hcn.mu
            · repeat (first
                | refine OK.drawn (by decide +kernel) ?_
                | refine OK.tree ⟨lookT tis, fun _ => true⟩ (by decide +kernel) ?_
                | refine OK.need (by first | assumption | (rw [hA]; first | (show (_ : Int) ≠ _; decide) | (show (0 : Int) ≤ _; decide) | (show (0 : Int) ≤ _ ∧ _ < (256 : Int); decide))) ?_
                | (refine F.hold hA 2000 ?_; cbv))
              refine OK.back (hBk _ _ (_, _, _) (by cbv; repeat (first | exact WkH.nil _ | apply WkH.gone | refine WkH.eq rfl ?_)) (by cbv; repeat (first | apply WkL.any | exact WkL.nil _ | refine WkL.eq rfl ?_ | refine WkL.bool rfl ?_)) (by cbv; exact ⟨rfl⟩) ?_ ?_)
              · exact hcn.nay b8 (.inl b9)
              · exact hcn.mu
          · repeat (first
              | refine OK.drawn (by decide +kernel) ?_
              | refine OK.tree ⟨lookT tis, fun _ => true⟩ (by decide +kernel) ?_
              | refine OK.need (by first | assumption | (rw [hA]; first | (show (_ : Int) ≠ _; decide) | (show (0 : Int) ≤ _; decide) | (show (0 : Int) ≤ _ ∧ _ < (256 : Int); decide))) ?_
              | (refine F.hold hA 2000 ?_; cbv))
            refine OK.back (hBk _ _ (_, _, _) (by cbv; repeat (first | exact WkH.nil _ | apply WkH.gone | refine WkH.eq rfl ?_)) (by cbv; repeat (first | apply WkL.any | exact WkL.nil _ | refine WkL.eq rfl ?_ | refine WkL.bool rfl ?_)) (by cbv; exact ⟨rfl⟩) ?_ ?_)
            · exact hcn.no b8
            · exact hcn.mu
      · obtain ⟨rfl, rfl, rfl⟩ := cdO hA hv (.inr b3)
        repeat (first
          | refine OK.drawn (by decide +kernel) ?_
          | refine OK.tree ⟨lookT tis, fun _ => true⟩ (by decide +kernel) ?_
          | refine OK.need (by first | assumption | (rw [hA]; first | (show (_ : Int) ≠ _; decide) | (show (0 : Int) ≤ _; decide) | (show (0 : Int) ≤ _ ∧ _ < (256 : Int); decide))) ?_
          | (refine F.hold hA 2000 ?_; cbv))
        refine OK.branch (fun b4 => (none1 hA b4).elim) (fun b4 => ?_)
        repeat (first
          | refine OK.drawn (by decide +kernel) ?_
          | refine OK.tree ⟨lookT tis, fun _ => true⟩ (by decide +kernel) ?_
          | refine OK.need (by first | assumption | (rw [hA]; first | (show (_ : Int) ≠ _; decide) | (show (0 : Int) ≤ _; decide) | (show (0 : Int) ≤ _ ∧ _ < (256 : Int); decide))) ?_
          | (refine F.hold hA 2000 ?_; cbv))
        refine OK.branch (fun b5 => (none2 hA b5).elim) (fun b5 => ?_)
        repeat (first
          | refine OK.drawn (by decide +kernel) ?_
          | refine OK.tree ⟨lookT tis, fun _ => true⟩ (by decide +kernel) ?_
          | refine OK.need (by first | assumption | (rw [hA]; first | (show (_ : Int) ≠ _; decide) | (show (0 : Int) ≤ _; decide) | (show (0 : Int) ≤ _ ∧ _ < (256 : Int); decide))) ?_
          | (refine F.hold hA 2000 ?_; cbv))
        refine F.loop (V := Int) [0, 1, 8, 10, 12, 14, 15, 16, 17, 18, 19] (UpS 0) (fun k => (0 - k).toNat) (fun k => [(21, .int .i64 k)]) (fun k => []) _ (by cbv; repeat (first | exact WkH.nil _ | apply WkH.gone | refine WkH.eq rfl ?_)) (by cbv; repeat (first | apply WkL.any | exact WkL.nil _ | refine WkL.eq rfl ?_ | refine WkL.bool rfl ?_)) (by cbv; exact ⟨rfl⟩) ?_ ?_
        · exact ⟨Int.le_refl _, Int.le_refl _⟩
        rintro k hI2 Bk hBk
        repeat (first
          | refine OK.drawn (by decide +kernel) ?_
          | refine OK.tree ⟨lookT tis, fun _ => true⟩ (by decide +kernel) ?_
          | refine OK.need (by first | assumption | (rw [hA]; first | (show (_ : Int) ≠ _; decide) | (show (0 : Int) ≤ _; decide) | (show (0 : Int) ≤ _ ∧ _ < (256 : Int); decide))) ?_
          | (refine F.hold hA 2000 ?_; cbv))
        refine OK.branch (fun b6 => (none3 hA hI2 b6).elim) (fun b6 => ?_)
        clear hBk
        repeat (first
          | refine OK.drawn (by decide +kernel) ?_
          | refine OK.tree ⟨lookT tis, fun _ => true⟩ (by decide +kernel) ?_
          | refine OK.need (by first | assumption | (rw [hA]; first | (show (_ : Int) ≠ _; decide) | (show (0 : Int) ≤ _; decide) | (show (0 : Int) ≤ _ ∧ _ < (256 : Int); decide))) ?_
          | (refine F.hold hA 2000 ?_; cbv))
        have hBk := hBkO
        refine OK.branch (fun b8 => ?_) (fun b8 => ?_)
        · repeat (first
            | refine OK.drawn (by decide +kernel) ?_
            | refine OK.tree ⟨lookT tis, fun _ => true⟩ (by decide +kernel) ?_
            | refine OK.need (by first | assumption | (rw [hA]; first | (show (_ : Int) ≠ _; decide) | (show (0 : Int) ≤ _; decide) | (show (0 : Int) ≤ _ ∧ _ < (256 : Int); decide))) ?_
            | (refine F.hold hA 2000 ?_; cbv))
          refine OK.branch (fun b9 => ?_) (fun b9 => ?_)
          · have q9 := hcn.q b8 b9
            repeat (first
              | refine OK.drawn (by decide +kernel) ?_
              | refine OK.tree ⟨lookT tis, fun _ => true⟩ (by decide +kernel) ?_
              | refine OK.need (by first | assumption | (rw [hA]; first | (show (_ : Int) ≠ _; decide) | (show (0 : Int) ≤ _; decide) | (show (0 : Int) ≤ _ ∧ _ < (256 : Int); decide))) ?_
              | (refine F.hold hA 2000 ?_; cbv))
            refine OK.branch (fun b10 => ?_) (fun b10 => ?_)
            · repeat (first
                | refine OK.drawn (by decide +kernel) ?_
                | refine OK.tree ⟨lookT tis, fun _ => true⟩ (by decide +kernel) ?_
                | refine OK.need (by first | assumption | (rw [hA]; first | (show (_ : Int) ≠ _; decide) | (show (0 : Int) ≤ _; decide) | (show (0 : Int) ≤ _ ∧ _ < (256 : Int); decide))) ?_
                | (refine F.hold hA 2000 ?_; cbv))
              refine OK.branch (fun b11 => ?_) (fun b11 => ?_)
              · repeat (first
                  | refine OK.drawn (by decide +kernel) ?_
                  | refine OK.tree ⟨lookT tis, fun _ => true⟩ (by decide +kernel) ?_
                  | refine OK.need (by first | assumption | (rw [hA]; first | (show (_ : Int) ≠ _; decide) | (show (0 : Int) ≤ _; decide) | (show (0 : Int) ≤ _ ∧ _ < (256 : Int); decide))) ?_
                  | (refine F.hold hA 2000 ?_; cbv))
                refine OK.back (hBk _ _ (_, _, _) (by cbv; repeat (first | exact WkH.nil _ | apply WkH.gone | refine WkH.eq rfl ?_)) (by cbv; repeat (first | apply WkL.any | exact WkL.nil _ | refine WkL.eq rfl ?_ | refine WkL.bool rfl ?_)) (by cbv; exact ⟨rfl⟩) ?_ ?_)
                · exact hcn.yes b8 b9 b10 b11
                · exact hcn.mu
              · repeat (first
                  | refine OK.drawn (by decide +kernel) ?_
                  | refine OK.tree ⟨lookT tis, fun _ => true⟩ (by decide +kernel) ?_
                  | refine OK.need (by first | assumption | (rw [hA]; first | (show (_ : Int) ≠ _; decide) | (show (0 : Int) ≤ _; decide) | (show (0 : Int) ≤ _ ∧ _ < (256 : Int); decide))) ?_
                  | (refine F.hold hA 2000 ?_; cbv))
                refine OK.back (hBk _ _ (_, _, _) (by cbv; repeat (first | exact WkH.nil _ | apply WkH.gone | refine WkH.eq rfl ?_)) (by cbv; repeat (first | apply WkL.any | exact WkL.nil _ | refine WkL.eq rfl ?_ | refine WkL.bool rfl ?_)) (by cbv; exact ⟨rfl⟩) ?_ ?_)
                · exact hcn.nay b8 (.inr (.inr b11))
                · exact hcn.mu
            · repeat (first
                | refine OK.drawn (by decide +kernel) ?_
                | refine OK.tree ⟨lookT tis, fun _ => true⟩ (by decide +kernel) ?_
                | refine OK.need (by first | assumption | (rw [hA]; first | (show (_ : Int) ≠ _; decide) | (show (0 : Int) ≤ _; decide) | (show (0 : Int) ≤ _ ∧ _ < (256 : Int); decide))) ?_
                | (refine F.hold hA 2000 ?_; cbv))
              refine OK.back (hBk _ _ (_, _, _) (by cbv; repeat (first | exact WkH.nil _ | apply WkH.gone | refine WkH.eq rfl ?_)) (by cbv; repeat (first | apply WkL.any | exact WkL.nil _ | refine WkL.eq rfl ?_ | refine WkL.bool rfl ?_)) (by cbv; exact ⟨rfl⟩) ?_ ?_)
              · exact hcn.nay b8 (.inr (.inl b10))
              · exact hcn.mu
          · repeat (first
              | refine OK.drawn (by decide +kernel) ?_
              | refine OK.tree ⟨lookT tis, fun _ => true⟩ (by decide +kernel) ?_
              | refine OK.need (by first | assumption | (rw [hA]; first | (show (_ : Int) ≠ _; decide) | (show (0 : Int) ≤ _; decide) | (show (0 : Int) ≤ _ ∧ _ < (256 : Int); decide))) ?_
              | (refine F.hold hA 2000 ?_; cbv))
            refine OK.back (hBk _ _ (_, _, _) (by cbv; repeat (first | exact WkH.nil _ | apply WkH.gone | refine WkH.eq rfl ?_)) (by cbv; repeat (first | apply WkL.any | exact WkL.nil _ | refine WkL.eq rfl ?_ | refine WkL.bool rfl ?_)) (by cbv; exact ⟨rfl⟩) ?_ ?_)
            · exact hcn.nay b8 (.inl b9)
            · exact hcn.mu
        · repeat (first
            | refine OK.drawn (by decide +kernel) ?_
            | refine OK.tree ⟨lookT tis, fun _ => true⟩ (by decide +kernel) ?_
            | refine OK.need (by first | assumption | (rw [hA]; first | (show (_ : Int) ≠ _; decide) | (show (0 : Int) ≤ _; decide) | (show (0 : Int) ≤ _ ∧ _ < (256 : Int); decide))) ?_
            | (refine F.hold hA 2000 ?_; cbv))
          refine OK.back (hBk _ _ (_, _, _) (by cbv; repeat (first | exact WkH.nil _ | apply WkH.gone | refine WkH.eq rfl ?_)) (by cbv; repeat (first | apply WkL.any | exact WkL.nil _ | refine WkL.eq rfl ?_ | refine WkL.bool rfl ?_)) (by cbv; exact ⟨rfl⟩) ?_ ?_)
          · exact hcn.no b8
          · exact hcn.mu
    · obtain ⟨rfl, rfl, rfl⟩ := cdO hA hv (.inl b2)
      repeat (first
        | refine OK.drawn (by decide +kernel) ?_
        | refine OK.tree ⟨lookT tis, fun _ => true⟩ (by decide +kernel) ?_
        | refine OK.need (by first | assumption | (rw [hA]; first | (show (_ : Int) ≠ _; decide) | (show (0 : Int) ≤ _; decide) | (show (0 : Int) ≤ _ ∧ _ < (256 : Int); decide))) ?_
        | (refine F.hold hA 2000 ?_; cbv))
      refine OK.branch (fun b4 => (none1 hA b4).elim) (fun b4 => ?_)
      repeat (first
        | refine OK.drawn (by decide +kernel) ?_
        | refine OK.tree ⟨lookT tis, fun _ => true⟩ (by decide +kernel) ?_
        | refine OK.need (by first | assumption | (rw [hA]; first | (show (_ : Int) ≠ _; decide) | (show (0 : Int) ≤ _; decide) | (show (0 : Int) ≤ _ ∧ _ < (256 : Int); decide))) ?_
        | (refine F.hold hA 2000 ?_; cbv))
      refine OK.branch (fun b5 => (none2 hA b5).elim) (fun b5 => ?_)
      repeat (first
        | refine OK.drawn (by decide +kernel) ?_
        | refine OK.tree ⟨lookT tis, fun _ => true⟩ (by decide +kernel) ?_
        | refine OK.need (by first | assumption | (rw [hA]; first | (show (_ : Int) ≠ _; decide) | (show (0 : Int) ≤ _; decide) | (show (0 : Int) ≤ _ ∧ _ < (256 : Int); decide))) ?_
        | (refine F.hold hA 2000 ?_; cbv))
      refine F.loop (V := Int) [0, 1, 8, 10, 12, 14, 15, 16, 17, 18, 19] (UpS 0) (fun k => (0 - k).toNat) (fun k => [(21, .int .i64 k)]) (fun k => []) _ (by cbv; repeat (first | exact WkH.nil _ | apply WkH.gone | refine WkH.eq rfl ?_)) (by cbv; repeat (first | apply WkL.any | exact WkL.nil _ | refine WkL.eq rfl ?_ | refine WkL.bool rfl ?_)) (by cbv; exact ⟨rfl⟩) ?_ ?_
      · exact ⟨Int.le_refl _, Int.le_refl _⟩
      rintro k hI2 Bk hBk
      repeat (first
        | refine OK.drawn (by decide +kernel) ?_
        | refine OK.tree ⟨lookT tis, fun _ => true⟩ (by decide +kernel) ?_
        | refine OK.need (by first | assumption | (rw [hA]; first | (show (_ : Int) ≠ _; decide) | (show (0 : Int) ≤ _; decide) | (show (0 : Int) ≤ _ ∧ _ < (256 : Int); decide))) ?_
        | (refine F.hold hA 2000 ?_; cbv))
      refine OK.branch (fun b6 => (none3 hA hI2 b6).elim) (fun b6 => ?_)
      clear hBk
      repeat (first
        | refine OK.drawn (by decide +kernel) ?_
        | refine OK.tree ⟨lookT tis, fun _ => true⟩ (by decide +kernel) ?_
        | refine OK.need (by first | assumption | (rw [hA]; first | (show (_ : Int) ≠ _; decide) | (show (0 : Int) ≤ _; decide) | (show (0 : Int) ≤ _ ∧ _ < (256 : Int); decide))) ?_
        | (refine F.hold hA 2000 ?_; cbv))
      have hBk := hBkO
      refine OK.branch (fun b8 => ?_) (fun b8 => ?_)
      · repeat (first
          | refine OK.drawn (by decide +kernel) ?_
          | refine OK.tree ⟨lookT tis, fun _ => true⟩ (by decide +kernel) ?_
          | refine OK.need (by first | assumption | (rw [hA]; first | (show (_ : Int) ≠ _; decide) | (show (0 : Int) ≤ _; decide) | (show (0 : Int) ≤ _ ∧ _ < (256 : Int); decide))) ?_
          | (refine F.hold hA 2000 ?_; cbv))
        refine OK.branch (fun b9 => ?_) (fun b9 => ?_)
        · have q9 := hcn.q b8 b9
          repeat (first
            | refine OK.drawn (by decide +kernel) ?_
            | refine OK.tree ⟨lookT tis, fun _ => true⟩ (by decide +kernel) ?_
            | refine OK.need (by first | assumption | (rw [hA]; first | (show (_ : Int) ≠ _; decide) | (show (0 : Int) ≤ _; decide) | (show (0 : Int) ≤ _ ∧ _ < (256 : Int); decide))) ?_
            | (refine F.hold hA 2000 ?_; cbv))
          refine OK.branch (fun b10 => ?_) (fun b10 => ?_)
          · repeat (first
              | refine OK.drawn (by decide +kernel) ?_
              | refine OK.tree ⟨lookT tis, fun _ => true⟩ (by decide +kernel) ?_
              | refine OK.need (by first | assumption | (rw [hA]; first | (show (_ : Int) ≠ _; decide) | (show (0 : Int) ≤ _; decide) | (show (0 : Int) ≤ _ ∧ _ < (256 : Int); decide))) ?_
              | (refine F.hold hA 2000 ?_; cbv))
            refine OK.branch (fun b11 => ?_) (fun b11 => ?_)
            · repeat (first
                | refine OK.drawn (by decide +kernel) ?_
                | refine OK.tree ⟨lookT tis, fun _ => true⟩ (by decide +kernel) ?_
                | refine OK.need (by first | assumption | (rw [hA]; first | (show (_ : Int) ≠ _; decide) | (show (0 : Int) ≤ _; decide) | (show (0 : Int) ≤ _ ∧ _ < (256 : Int); decide))) ?_
                | (refine F.hold hA 2000 ?_; cbv))
              refine OK.back (hBk _ _ (_, _, _) (by cbv; repeat (first | exact WkH.nil _ | apply WkH.gone | refine WkH.eq rfl ?_)) (by cbv; repeat (first | apply WkL.any | exact WkL.nil _ | refine WkL.eq rfl ?_ | refine WkL.bool rfl ?_)) (by cbv; exact ⟨rfl⟩) ?_ ?_)
              · exact hcn.yes b8 b9 b10 b11
              · exact hcn.mu
            · repeat (first
                | refine OK.drawn (by decide +kernel) ?_
                | refine OK.tree ⟨lookT tis, fun _ => true⟩ (by decide +kernel) ?_
                | refine OK.need (by first | assumption | (rw [hA]; first | (show (_ : Int) ≠ _; decide) | (show (0 : Int) ≤ _; decide) | (show (0 : Int) ≤ _ ∧ _ < (256 : Int); decide))) ?_
                | (refine F.hold hA 2000 ?_; cbv))
              refine OK.back (hBk _ _ (_, _, _) (by cbv; repeat (first | exact WkH.nil _ | apply WkH.gone | refine WkH.eq rfl ?_)) (by cbv; repeat (first | apply WkL.any | exact WkL.nil _ | refine WkL.eq rfl ?_ | refine WkL.bool rfl ?_)) (by cbv; exact ⟨rfl⟩) ?_ ?_)
              · exact hcn.nay b8 (.inr (.inr b11))
              · exact hcn.mu
          · repeat (first
              | refine OK.drawn (by decide +kernel) ?_
              | refine OK.tree ⟨lookT tis, fun _ => true⟩ (by decide +kernel) ?_
              | refine OK.need (by first | assumption | (rw [hA]; first | (show (_ : Int) ≠ _; decide) | (show (0 : Int) ≤ _; decide) | (show (0 : Int) ≤ _ ∧ _ < (256 : Int); decide))) ?_
              | (refine F.hold hA 2000 ?_; cbv))
            refine OK.back (hBk _ _ (_, _, _) (by cbv; repeat (first | exact WkH.nil _ | apply WkH.gone | refine WkH.eq rfl ?_)) (by cbv; repeat (first | apply WkL.any | exact WkL.nil _ | refine WkL.eq rfl ?_ | refine WkL.bool rfl ?_)) (by cbv; exact ⟨rfl⟩) ?_ ?_)
            · exact hcn.nay b8 (.inr (.inl b10))
            · exact hcn.mu
        · repeat (first
            | refine OK.drawn (by decide +kernel) ?_
            | refine OK.tree ⟨lookT tis, fun _ => true⟩ (by decide +kernel) ?_
            | refine OK.need (by first | assumption | (rw [hA]; first | (show (_ : Int) ≠ _; decide) | (show (0 : Int) ≤ _; decide) | (show (0 : Int) ≤ _ ∧ _ < (256 : Int); decide))) ?_
            | (refine F.hold hA 2000 ?_; cbv))
          refine OK.back (hBk _ _ (_, _, _) (by cbv; repeat (first | exact WkH.nil _ | apply WkH.gone | refine WkH.eq rfl ?_)) (by cbv; repeat (first | apply WkL.any | exact WkL.nil _ | refine WkL.eq rfl ?_ | refine WkL.bool rfl ?_)) (by cbv; exact ⟨rfl⟩) ?_ ?_)
          · exact hcn.nay b8 (.inl b9)
          · exact hcn.mu
      · repeat (first
          | refine OK.drawn (by decide +kernel) ?_
          | refine OK.tree ⟨lookT tis, fun _ => true⟩ (by decide +kernel) ?_
          | refine OK.need (by first | assumption | (rw [hA]; first | (show (_ : Int) ≠ _; decide) | (show (0 : Int) ≤ _; decide) | (show (0 : Int) ≤ _ ∧ _ < (256 : Int); decide))) ?_
          | (refine F.hold hA 2000 ?_; cbv))
        refine OK.back (hBk _ _ (_, _, _) (by cbv; repeat (first | exact WkH.nil _ | apply WkH.gone | refine WkH.eq rfl ?_)) (by cbv; repeat (first | apply WkL.any | exact WkL.nil _ | refine WkL.eq rfl ?_ | refine WkL.bool rfl ?_)) (by cbv; exact ⟨rfl⟩) ?_ ?_)
        · exact hcn.no b8
        · exact hcn.mu
  · have hfin := cdFin hA hc hrm hI b1
    repeat (first
      | refine OK.drawn (by decide +kernel) ?_
      | refine OK.tree ⟨lookT tis, fun _ => true⟩ (by decide +kernel) ?_
      | refine OK.need (by first | assumption | (rw [hA]; first | (show (_ : Int) ≠ _; decide) | (show (0 : Int) ≤ _; decide) | (show (0 : Int) ≤ _ ∧ _ < (256 : Int); decide))) ?_
      | (refine F.hold hA 2000 ?_; cbv))
    refine F.call [2] (symbols_ok ws fs cs ss os r) rfl rfl rfl fun rs H' hq => ?_
    obtain ⟨k1, rfl, rfl, hk1⟩ := hq
    refine ⟨rfl, ?_⟩
    repeat (first
      | refine OK.drawn (by decide +kernel) ?_
      | refine OK.tree ⟨lookT tis, fun _ => true⟩ (by decide +kernel) ?_
      | refine OK.need (by first | assumption | (rw [hA]; first | (show (_ : Int) ≠ _; decide) | (show (0 : Int) ≤ _; decide) | (show (0 : Int) ≤ _ ∧ _ < (256 : Int); decide))) ?_
      | (refine F.hold hA 2000 ?_; cbv))
    refine OK.branch (fun b2 => ?_) (fun b2 => (hfin.d1 _ hk1 b2).elim)
    repeat (first
      | refine OK.drawn (by decide +kernel) ?_
      | refine OK.tree ⟨lookT tis, fun _ => true⟩ (by decide +kernel) ?_
      | refine OK.need (by first | assumption | (rw [hA]; first | (show (_ : Int) ≠ _; decide) | (show (0 : Int) ≤ _; decide) | (show (0 : Int) ≤ _ ∧ _ < (256 : Int); decide))) ?_
      | (refine F.hold hA 2000 ?_; cbv))
    refine F.call [2] (complete_ok ws fs cs ss os r) rfl rfl rfl fun rs H' hq => ?_
    obtain ⟨k2, rfl, rfl, hk2⟩ := hq
    refine ⟨rfl, ?_⟩
    repeat (first
      | refine OK.drawn (by decide +kernel) ?_
      | refine OK.tree ⟨lookT tis, fun _ => true⟩ (by decide +kernel) ?_
      | refine OK.need (by first | assumption | (rw [hA]; first | (show (_ : Int) ≠ _; decide) | (show (0 : Int) ≤ _; decide) | (show (0 : Int) ≤ _ ∧ _ < (256 : Int); decide))) ?_
      | (refine F.hold hA 2000 ?_; cbv))
    refine OK.branch (fun b3 => ?_) (fun b3 => (hfin.d2 _ hk2 b3).elim)
    repeat (first
      | refine OK.drawn (by decide +kernel) ?_
      | refine OK.tree ⟨lookT tis, fun _ => true⟩ (by decide +kernel) ?_
      | refine OK.need (by first | assumption | (rw [hA]; first | (show (_ : Int) ≠ _; decide) | (show (0 : Int) ≤ _; decide) | (show (0 : Int) ≤ _ ∧ _ < (256 : Int); decide))) ?_
      | (refine F.hold hA 2000 ?_; cbv))
    refine F.call [2] (cost_ok ls ws fs cs ss os r counts hc) rfl rfl rfl fun rs H' hq => ?_
    obtain ⟨k3, rfl, rfl, hk3⟩ := hq
    refine ⟨rfl, ?_⟩
    repeat (first
      | refine OK.drawn (by decide +kernel) ?_
      | refine OK.tree ⟨lookT tis, fun _ => true⟩ (by decide +kernel) ?_
      | refine OK.need (by first | assumption | (rw [hA]; first | (show (_ : Int) ≠ _; decide) | (show (0 : Int) ≤ _; decide) | (show (0 : Int) ≤ _ ∧ _ < (256 : Int); decide))) ?_
      | (refine F.hold hA 2000 ?_; cbv))
    exact F.ret (H' := []) (F.cv ⟨rfl⟩ (.eq rfl (.nil _)) (.nil _)) rfl ⟨_, rfl, hfin.d3 _ hk3⟩
end Go.L1
