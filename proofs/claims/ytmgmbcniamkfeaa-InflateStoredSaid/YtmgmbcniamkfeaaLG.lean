/- Own work of the session: part LG of a proof that the program's functions do what the statement says (a symbolic executor, contracts of the functions, plain laws). -/
import Derived.Test.YtmgmbcniamkfeaaLF
set_option linter.all false
-- H7
namespace Go.L1
open Go Go.Sx Go.Proofs Go.Huff
set_option linter.unusedVariables false
set_option linter.unusedSimpArgs false
def manyN (ls : List Int) (j : Nat) : Nat := (ls.take j).countP fun x => decide (0 < x)
def CdInv (ls counts : List Int) (w : Int × Int × Int) : Prop := ∃ j : Nat, w.2.2 = (j : Int) - 1 ∧ j ≤ ls.length + 2 ∧ w.1 = (manyN ls (j - 1) : Nat) ∧ w.2.1 = costN ls counts (j - 1)
theorem mny_succ (ls : List Int) (l : Nat) : ls.countP (fun x => decide (0 < x ∧ x ≤ ((l + 1 : Nat) : Int))) = ls.countP (fun x => decide (0 < x ∧ x ≤ (l : Int))) + cnt ls (l + 1) := by
  unfold cnt
  rw [if_neg (by omega)]
  induction ls with
  | nil => rfl
  | cons y ls ih =>
    rw [List.countP_cons, List.countP_cons, List.count_cons, ih]
    simp only [decide_eq_true_eq, beq_iff_eq]
    split <;> split <;> split <;> omega
theorem st_mny (ls : List Int) : ∀ l, st ls l + cnt ls l = ls.countP (fun x => decide (0 < x ∧ x ≤ (l : Int)))
  | 0 => by
    have h : ls.countP (fun x => decide (0 < x ∧ x ≤ ((0 : Nat) : Int))) = 0 := by
      rw [List.countP_eq_zero]
      intro x _
      simp
    rw [h]; simp [st, cnt]
  | l + 1 => by
    have e : st ls (l + 1) = st ls l + cnt ls l := rfl
    rw [e, st_mny ls l, mny_succ]
theorem many_all {ls : List Int} (h : InB ls) {j : Nat} (hj : ls.length ≤ j) : manyN ls j = st ls 15 + cnt ls 15 := by
  rw [st_mny]
  unfold manyN
  rw [List.take_of_length_le hj]
  refine List.countP_congr fun x hx => ?_
  have := (h x hx).2
  simp; omega
theorem many_succ {ls : List Int} (h : InB ls) {j : Nat} (hj : j < ls.length) : manyN ls (j + 1) = manyN ls j + if 0 < len ls j then 1 else 0 := by
  unfold manyN
  rw [List.take_succ_eq_append_getElem hj, List.countP_append, List.countP_singleton]
  have e : len ls j = ls[j].toNat := by unfold len; simp [hj]
  rw [e]
  congr 1
  by_cases h0 : 0 < ls[j]
  · rw [if_pos (by simpa using h0), if_pos (by omega)]
  · rw [if_neg (by simpa using h0), if_neg (by omega)]
theorem many_le (ls : List Int) (j : Nat) : manyN ls j ≤ ls.length := by
  unfold manyN
  have h1 := List.countP_le_length (p := fun x : Int => decide (0 < x)) (l := ls.take j)
  rw [List.length_take] at h1
  omega
theorem many_out {ls : List Int} {j : Nat} (hj : ls.length ≤ j) : manyN ls (j + 1) = manyN ls j := by
  unfold manyN
  rw [List.take_of_length_le (by omega), List.take_of_length_le hj]
theorem len_out {ls : List Int} {j : Nat} (hj : ls.length ≤ j) : len ls j = 0 := by
  unfold len
  rw [List.getD_eq_getElem?_getD, List.getElem?_eq_none hj]
  rfl
theorem cost1_len0 {ls : List Int} (counts : List Int) {j : Nat} (h : len ls j = 0) : cost1 ls counts j = 0 := by
  unfold cost1
  rw [h]
  simp
theorem cost1_out {ls counts : List Int} {j : Nat} (h : counts.length ≤ j) : cost1 ls counts j = 0 := by
  unfold cost1
  rw [List.getD_eq_getElem?_getD, List.getElem?_eq_none h]
  simp
theorem costN_cap {ls counts : List Int} : ∀ {j : Nat}, min ls.length counts.length ≤ j → costN ls counts j = costN ls counts (min ls.length counts.length)
  | j, h => by
    rcases Nat.eq_or_lt_of_le h with h | h
    · rw [← h]
    · obtain ⟨k, rfl⟩ : ∃ k, j = k + 1 := ⟨j - 1, by omega⟩
      rw [costN, costN_cap (by omega : min ls.length counts.length ≤ k)]
      have : cost1 ls counts k = 0 := by
        rcases Nat.le_total ls.length counts.length with h2 | h2
        · exact cost1_len0 _ (len_out (by omega))
        · exact cost1_out (by omega)
      rw [this, Int.add_zero]
theorem revN_bits {n v k : Nat} (h : k < n) : revN n v / 2 ^ k % 2 = v / 2 ^ (n - 1 - k) % 2 := by
  have h1 := revN_bit n v k
  rw [Nat.testBit_eq_decide_div_mod_eq, Nat.testBit_eq_decide_div_mod_eq] at h1
  simp only [h, decide_true, Bool.true_and, decide_eq_decide] at h1
  have a1 : revN n v / 2 ^ k % 2 < 2 := Nat.mod_lt _ (by decide)
  have a2 : v / 2 ^ (n - 1 - k) % 2 < 2 := Nat.mod_lt _ (by decide)
  omega
def UpS (size k : Int) : Prop := 0 ≤ k ∧ k ≤ size
structure BAt (A : Leaf) (w : List UInt8) (v size k : Int) : Prop where
  q : A.inb k (A.len w)
  nn : A.nn (A.conv .u64 k)
  d : A.cmp .neq (A.conv .u8 (A.ar .and .u32 (A.ar .shr .u32 v (A.conv .u64 k)) 1)) (A.b2i (A.get 0 w k)) = true → False
  nx : UpS size (A.ar .add .i64 k 1)
  mu : (size - A.ar .add .i64 k 1).toNat < (size - k).toNat
/-- A symbol that there is. -/
structure CdR (A : Leaf) (rows : List (List UInt8)) (s v size : Int) (has : Bool) : Prop where
  q : A.inb s (A.len rows)
  d1 : A.bnot (A.beq has (A.cmp .gtr (A.len (A.get [] rows s)) 0)) = true → False
  d2 : A.cmp .neq size (A.len (A.get [] rows s)) = true → False
  z : UpS size 0
  at_ : ∀ k, UpS size k → A.cmp .lss k size = true → BAt A (A.get [] rows s) v size k
theorem cdR {A : Leaf} {ls : List Int} {rows : List (List UInt8)} {s v size : Int} {has : Bool} (hA : A = .std) (hR : RdyR ls) (ho : ORows ls rows) (hv : BitIs ls s v size has) (h0 : A.cmp .geq s 0 = true) (h1 : A.cmp .lss s (A.len ls) = true) : CdR A rows s v size has := by
  subst hA
  have h0 : (0 : Int) ≤ s := of_decide_eq_true h0
  have h1 : s < (ls.length : Int) := of_decide_eq_true h1
  obtain ⟨t, rfl⟩ : ∃ t : Nat, s = t := ⟨s.toNat, by omega⟩
  have ht : t < ls.length := by omega
  have h15 := len_le hR.b t
  have ew : Leaf.std.get [] rows (t : Int) = rbits (len ls t) (code ls t) := by
    show rows.getD ((t : Int).toNat) [] = _
    rw [Int.toNat_natCast]; exact ho.at_ t ht
  have el : Leaf.std.len (Leaf.std.get [] rows (t : Int)) = (len ls t : Nat) := by rw [ew]; show (((rbits _ _).length : Nat) : Int) = _; rw [rbits_len]
  have hs : size = (len ls t : Nat) ∧ (has = true ↔ 0 < len ls t) ∧ (0 < len ls t → v = (revN (len ls t) (code ls t) : Nat)) := by
    rcases hv with ⟨rfl, u, hu, _, h2, h3, h4⟩ | ⟨rfl, rfl, rfl, hz⟩
    · have : u = t := by omega
      subst this
      exact ⟨h4, by simp [h2], fun _ => h3⟩
    · have := hz t rfl ht
      exact ⟨by omega, by simp; omega, fun h => absurd h (by omega)⟩
  obtain ⟨e1, e2, e3⟩ := hs
  refine ⟨?_, ?_, ?_, ⟨by omega, by omega⟩, fun k hk hk2 => ?_⟩
  · show (0 : Int) ≤ (t : Int) ∧ (t : Int) < (rows.length : Int)
    have := ho.ln; omega
  · rw [el]
    intro h
    have h : (!(has == decide ((0 : Int) < (len ls t : Nat)))) = true := h
    by_cases hp : 0 < len ls t
    · have e := e2.2 hp
      subst e
      simp at h; omega
    · have e : has = false := by
        cases has with
        | false => rfl
        | true => exact absurd (e2.1 rfl) hp
      subst e
      simp at h; omega
  · rw [el, e1]
    intro h
    have h : (!(((len ls t : Nat) : Int) == ((len ls t : Nat) : Int))) = true := h
    simp at h
  · obtain ⟨k1, k2⟩ := hk
    have hk2 : k < size := of_decide_eq_true hk2
    obtain ⟨j, rfl⟩ : ∃ j : Nat, k = j := ⟨k.toNat, by omega⟩
    have hj : j < len ls t := by omega
    have ea : Leaf.std.ar .add .i64 (j : Int) 1 = ((j + 1 : Nat) : Int) := by rw [add_i64 (by omega) (by omega)]; omega
    have ec : Leaf.std.conv .u64 ((j : Nat) : Int) = ((j : Nat) : Int) := l_conv_u64 (by omega) (by omega)
    refine ⟨?_, ?_, ?_, ⟨by rw [ea]; omega, by rw [ea]; omega⟩, by rw [ea]; omega⟩
    · rw [el]; show (0 : Int) ≤ (j : Int) ∧ (j : Int) < _; omega
    · rw [ec]; show (0 : Int) ≤ _; omega
    · rw [ew, ec, e3 (by omega)]
      have g : Leaf.std.get 0 (rbits (len ls t) (code ls t)) (j : Int) = UInt8.ofNat (code ls t / 2 ^ (len ls t - 1 - j) % 2) := by
        show (rbits _ _).getD ((j : Int).toNat) 0 = _
        rw [Int.toNat_natCast, rbits_get _ hj]
      rw [g]
      have hm : code ls t / 2 ^ (len ls t - 1 - j) % 2 < 2 := Nat.mod_lt _ (by decide)
      have e : Leaf.std.conv .u8 (Leaf.std.ar .and .u32 (Leaf.std.ar .shr .u32 ((revN (len ls t) (code ls t) : Nat) : Int) (j : Int)) 1) = ((code ls t / 2 ^ (len ls t - 1 - j) % 2 : Nat) : Int) := by
        show LConv .u8 (LAr .and .u32 (LAr .shr .u32 ((revN (len ls t) (code ls t) : Nat) : Int) (j : Int)) 1) = _
        rw [l_shr_u32 (by omega) (by omega), l_and1_u32, Int.toNat_natCast]
        have e2 : ((revN (len ls t) (code ls t) : Nat) : Int) / 2 ^ j % 2 = ((code ls t / 2 ^ (len ls t - 1 - j) % 2 : Nat) : Int) := by
          rw [← revN_bits hj]; simp
        rw [e2, l_conv_u8 (by omega) (by omega)]
      rw [e]
      intro h
      have h : (!(((code ls t / 2 ^ (len ls t - 1 - j) % 2 : Nat) : Int) == ((UInt8.ofNat (code ls t / 2 ^ (len ls t - 1 - j) % 2)).toNat : Int))) = true := h
      have e4 : (UInt8.ofNat (code ls t / 2 ^ (len ls t - 1 - j) % 2)).toNat = code ls t / 2 ^ (len ls t - 1 - j) % 2 := by
        rw [UInt8.toNat_ofNat']; omega
      rw [e4] at h
      simp at h
/-- One that there isn't. -/
theorem cdO {A : Leaf} {ls : List Int} {s v size : Int} {has : Bool} (hA : A = .std) (hv : BitIs ls s v size has) (h : A.cmp .geq s 0 = false ∨ A.cmp .lss s (A.len ls) = false) : has = false ∧ size = 0 ∧ v = 0 := by
  subst hA
  rcases hv with ⟨rfl, u, hu, h1, h2, h3, h4⟩ | ⟨rfl, rfl, rfl, hz⟩
  · exfalso
    rcases h with h | h
    · have h : ¬ (0 : Int) ≤ s := of_decide_eq_false h
      omega
    · have h : ¬ s < (ls.length : Int) := of_decide_eq_false h
      omega
  · exact ⟨rfl, rfl, rfl⟩
structure CdN (A : Leaf) (ls counts : List Int) (many cost s size : Int) (has : Bool) : Prop where
  no : has = false → CdInv ls counts (many, cost, A.ar .add .i64 s 1)
  mu : (ls.length + 1 - A.ar .add .i64 s 1).toNat < (ls.length + 1 - s).toNat
  q : has = true → A.cmp .lss s (A.len counts) = true → A.inb s (A.len counts)
  yes : has = true → A.cmp .lss s (A.len counts) = true → A.cmp .gtr (A.get 0 counts s) 0 = true → A.cmp .leq (A.get 0 counts s) 1099511627776 = true →
    CdInv ls counts (A.ar .add .i64 many 1, A.ar .add .i64 cost (A.ar .mul .i64 (A.get 0 counts s) size), A.ar .add .i64 s 1)
  nay : has = true → A.cmp .lss s (A.len counts) = false ∨ A.cmp .gtr (A.get 0 counts s) 0 = false ∨ A.cmp .leq (A.get 0 counts s) 1099511627776 = false →
    CdInv ls counts (A.ar .add .i64 many 1, cost, A.ar .add .i64 s 1)
theorem cdN {A : Leaf} {ls counts : List Int} {many cost s v size : Int} {has : Bool} (hA : A = .std) (hR : RdyR ls) (hI : CdInv ls counts (many, cost, s)) (h1 : A.cmp .leq s (A.len ls) = true) (hv : BitIs ls s v size has) : CdN A ls counts many cost s size has := by
  obtain ⟨j, e1, hj, e2, e3⟩ := hI
  simp only at e1 e2 e3
  subst hA
  have h1 : s ≤ (ls.length : Int) := of_decide_eq_true h1
  have hle := hR.le
  have ea : Leaf.std.ar .add .i64 s 1 = ((j + 1 : Nat) : Int) - 1 := by rw [add_i64 (by omega) (by omega)]; omega
  have hml := many_le ls (j - 1)
  have hcl := costN_le hR.b counts (j - 1)
  have hz : has = false → ∀ t : Nat, s = t → len ls t = 0 := by
    rintro h t ht
    rcases hv with ⟨rfl, _⟩ | ⟨_, _, _, hz⟩
    · cases h
    · rcases Nat.lt_or_ge t ls.length with h2 | h2
      · exact hz t ht h2
      · exact len_out h2
  have hy : has = true → ∃ t : Nat, s = t ∧ j = t + 1 ∧ t < ls.length ∧ 0 < len ls t ∧ size = (len ls t : Nat) := by
    rintro h
    rcases hv with ⟨_, u, hu, h1, h2, h3, h4⟩ | ⟨rfl, _⟩
    · exact ⟨u, hu, by omega, h1, h2, h4⟩
    · cases h
  refine ⟨fun h => ?_, by rw [ea]; omega, fun h a => ?_, fun h a b c => ?_, fun h a => ?_⟩
  · refine ⟨j + 1, ea, by omega, ?_, ?_⟩
    · show many = _
      rcases Nat.eq_zero_or_pos j with h0 | h0
      · subst h0; exact e2
      · obtain ⟨t, rfl⟩ : ∃ t, j = t + 1 := ⟨j - 1, by omega⟩
        have hl := hz h t (by omega)
        rw [e2]
        simp only [Nat.add_sub_cancel]
        rcases Nat.lt_or_ge t ls.length with h2 | h2
        · rw [many_succ hR.b h2, hl]; simp
        · rw [many_out h2]
    · show cost = _
      rcases Nat.eq_zero_or_pos j with h0 | h0
      · subst h0; exact e3
      · obtain ⟨t, rfl⟩ : ∃ t, j = t + 1 := ⟨j - 1, by omega⟩
        have hl := hz h t (by omega)
        rw [e3]
        simp only [Nat.add_sub_cancel]
        rw [costN, cost1_len0 _ hl, Int.add_zero]
  · obtain ⟨t, rfl, _⟩ := hy h
    have a : (t : Int) < (counts.length : Int) := of_decide_eq_true a
    show (0 : Int) ≤ (t : Int) ∧ (t : Int) < (counts.length : Int); omega
  · obtain ⟨t, rfl, rfl, k1, k2, rfl⟩ := hy h
    have a : (t : Int) < (counts.length : Int) := of_decide_eq_true a
    have eg : Leaf.std.get 0 counts (t : Int) = counts.getD t 0 := by show counts.getD ((t : Int).toNat) 0 = _; rw [Int.toNat_natCast]
    rw [eg] at b c ⊢
    have b : (0 : Int) < counts.getD t 0 := of_decide_eq_true b
    have c : counts.getD t 0 ≤ (1099511627776 : Int) := of_decide_eq_true c
    have h15 := len_le hR.b t
    simp only [Nat.add_sub_cancel] at e2 e3 hml hcl
    have hc1 : cost1 ls counts t = counts.getD t 0 * ((len ls t : Nat) : Int) := by unfold cost1; rw [if_pos ⟨b, c⟩]
    have hb := cost1_le hR.b counts t
    rw [hc1] at hb
    have em : Leaf.std.ar .mul .i64 (counts.getD t 0) ((len ls t : Nat) : Int) = counts.getD t 0 * ((len ls t : Nat) : Int) := mul_i64 (by omega) (by omega)
    have ec : Leaf.std.ar .add .i64 cost (counts.getD t 0 * ((len ls t : Nat) : Int)) = cost + counts.getD t 0 * ((len ls t : Nat) : Int) := by
      refine add_i64 ?_ ?_
      · omega
      · have : (16492674416640 : Int) * t ≤ 16492674416640 * 320 := by omega
        omega
    have en : Leaf.std.ar .add .i64 many 1 = many + 1 := add_i64 (by omega) (by omega)
    rw [em, ec, en, ea]
    refine ⟨t + 1 + 1, rfl, by omega, ?_, ?_⟩
    · simp only [Nat.add_sub_cancel]
      rw [many_succ hR.b k1, if_pos k2, e2]; omega
    · simp only [Nat.add_sub_cancel]
      rw [costN, hc1, e3]
  · obtain ⟨t, rfl, rfl, k1, k2, rfl⟩ := hy h
    simp only [Nat.add_sub_cancel] at e2 e3 hml hcl
    have eg : Leaf.std.get 0 counts (t : Int) = counts.getD t 0 := by show counts.getD ((t : Int).toNat) 0 = _; rw [Int.toNat_natCast]
    have hc1 : cost1 ls counts t = 0 := by
      rcases a with a | a | a
      · have a : ¬ (t : Int) < (counts.length : Int) := of_decide_eq_false a
        exact cost1_out (by omega)
      · rw [eg] at a
        have a : ¬ (0 : Int) < counts.getD t 0 := of_decide_eq_false a
        unfold cost1; rw [if_neg (fun h => a h.1)]
      · rw [eg] at a
        have a : ¬ counts.getD t 0 ≤ (1099511627776 : Int) := of_decide_eq_false a
        unfold cost1; rw [if_neg (fun h => a h.2)]
    have en : Leaf.std.ar .add .i64 many 1 = many + 1 := add_i64 (by omega) (by omega)
    rw [en, ea]
    refine ⟨t + 1 + 1, rfl, by omega, ?_, ?_⟩
    · simp only [Nat.add_sub_cancel]
      rw [many_succ hR.b k1, if_pos k2, e2]; omega
    · simp only [Nat.add_sub_cancel]
      rw [costN, hc1, e3, Int.add_zero]
structure CdFin (A : Leaf) (n : Int) (ls counts os : List Int) (many cost r : Int) : Prop where
  d1 : ∀ k, SymsIs os k → A.cmp .eql k many = false → False
  d2 : ∀ b, CompIs r b → A.beq b (A.cmp .eql n 32768) = false → False
  d3 : ∀ k, CostIs ls counts k → A.cmp .eql k cost = true
theorem cdFin {A : Leaf} {n : Int} {ok : Bool} {ls counts : List Int} {ws : List Pr} {fs cs ss os : List Int} {r many cost s : Int} (hA : A = .std) (hc : CodeOK ls ws fs cs ss os r) (hn : RoomIs ls n ok) (hI : CdInv ls counts (many, cost, s)) (h1 : A.cmp .leq s (A.len ls) = false) : CdFin A n ls counts os many cost r := by
  obtain ⟨j, e1, hj, e2, e3⟩ := hI
  simp only at e1 e2 e3
  subst hA
  have h1 : ¬ s ≤ (ls.length : Int) := of_decide_eq_false h1
  have hj2 : j = ls.length + 2 := by omega
  subst hj2
  have er : n = r := by
    rcases hn with ⟨_, _, _, h⟩ | ⟨_, h, _⟩
    · rw [h, hc.r]
    · exact absurd ⟨hc.fine.le, hc.fine.inb⟩ h
  subst er
  refine ⟨fun k hk h => ?_, fun b hb h => ?_, fun k hk => ?_⟩
  · have h : (k == many) = false := h
    unfold SymsIs at hk
    rw [hk, e2, many_all hc.fine.inb (by omega), hc.o.ln] at h
    simp at h
  · unfold CompIs at hb
    have h : (b == (n == (32768 : Int))) = false := h
    subst hb
    by_cases h2 : n = 32768
    · subst h2; simp at h
    · have : (n == (32768 : Int)) = false := by simpa using h2
      rw [this] at h; simp [h2] at h
  · show (k == cost) = true
    unfold CostIs at hk
    rw [hk, e3, costN_cap (j := ls.length + 2 - 1) (by omega)]
    simp
end Go.L1
