/- Own work of the session: part LC of a proof that the program's functions do what the statement says (a symbolic executor, contracts of the functions, plain laws). -/
import Derived.Test.YtlmndkddbmjnfaaLB
set_option linter.all false
-- A29
namespace Go.L1
open Go Go.Sx Go.Proofs
set_option maxRecDepth 20000
set_option linter.unusedVariables false
set_option linter.unusedSimpArgs false

theorem valBytes_bytesOf (k N : Nat) : valBytes (bytesOf k N) = N % 256 ^ k := by
  induction k generalizing N with
  | zero => simp [bytesOf, valBytes_nil, Nat.mod_one]
  | succ k ih =>
    have h : N % 256 < 256 := Nat.mod_lt _ (by decide)
    have e : (UInt8.ofNat (N % 256)).toNat = N % 256 := by simp
    rw [bytesOf, valBytes_cons, ih, e, Nat.pow_succ, Nat.mul_comm (256 ^ k), Nat.mod_mul]
/-- What Out tells, read as a number. -/
theorem OutIs.val {l ys : List UInt8} (h : OutIs l ys) (hb : Bits01 l) : valBytes ys = valBits l := by
  unfold OutIs at h
  rw [h, valBytes_bytesOf]
  have h1 := valBits_lt hb
  have h2 : 2 ^ l.length ≤ 256 ^ ((l.length + 7) / 8) := by
    have : (256 : Nat) = 2 ^ 8 := by decide
    rw [this, ← Nat.pow_mul]
    exact Nat.pow_le_pow_right (by decide) (by omega)
  exact Nat.mod_eq_of_lt (Nat.lt_of_lt_of_le h1 h2)
theorem valBits_mid (a b c : List UInt8) (hb : Bits01 b) : valBits (a ++ b ++ c) / 2 ^ a.length % 2 ^ b.length = valBits b ∨ ¬ Bits01 a := by
  by_cases ha : Bits01 a
  · left
    rw [List.append_assoc, valBits_append, Nat.add_mul_div_left _ _ (Nat.two_pow_pos _), Nat.div_eq_of_lt (valBits_lt ha), Nat.zero_add, valBits_append, Nat.add_mul_mod_self_left, Nat.mod_eq_of_lt (valBits_lt hb)]
  · exact .inr ha
theorem revN_rev (n v : Nat) : revN n (revN n v) = v % 2 ^ n := by
  refine Nat.eq_of_testBit_eq fun i => ?_
  rw [revN_bit, revN_bit, Nat.testBit_mod_two_pow]
  by_cases h : i < n
  · have e : n - 1 - (n - 1 - i) = i := by omega
    have h2 : n - 1 - i < n := by omega
    rw [e]
    simp [h, h2]
  · simp [h]
/-- The lower bits of a number, as the law asks for them. -/
theorem mask32 (v n : Int) (h0 : 0 ≤ n) (h1 : n ≤ 32) (hv : 0 ≤ v ∧ v ≤ 4294967295) : LAr .and .u32 v (LAr .sub .u32 (LAr .shl .u32 1 n) 1) = v % 2 ^ n.toNat := by
  rcases Int.lt_or_eq_of_le h1 with h | h
  · rw [l_shl1_u32 h0 (by omega), l_mask_u32 v (by omega)]
  · subst h
    have e : LAr .sub .u32 (LAr .shl .u32 1 32) 1 = ((2 ^ 32 - 1 : Nat) : Int) := by decide
    rw [e, and_mask_k .u32 v 32 (by decide)]
    rfl

/-- The bits of the first so many numbers. -/
def bb (values sizes : List Int) (j : Nat) : List UInt8 := (List.range j).flatMap fun k => putBits (sizes.getD k 0) (values.getD k 0).toNat
theorem bb_succ (values sizes : List Int) (j : Nat) : bb values sizes (j + 1) = bb values sizes j ++ putBits (sizes.getD j 0) (values.getD j 0).toNat := by
  simp [bb, List.range_succ]
theorem bb_len (values sizes : List Int) (j : Nat) : (bb values sizes j).length ≤ 32 * j := by
  induction j with
  | zero => simp [bb]
  | succ j ih =>
    rw [bb_succ, List.length_append]
    have := putBits_len (sizes.getD j 0) (values.getD j 0).toNat
    omega
theorem bb_le (values sizes : List Int) {j m : Nat} (h : j ≤ m) : ∃ c, bb values sizes m = bb values sizes j ++ c := by
  obtain ⟨k, rfl⟩ := Nat.exists_eq_add_of_le h
  induction k with
  | zero => exact ⟨[], by simp⟩
  | succ k ih =>
    obtain ⟨c, hc⟩ := ih (by omega)
    exact ⟨_, by rw [← Nat.add_assoc, bb_succ, hc, List.append_assoc]⟩
def ValsIn (values : List Int) : Prop := ∀ x ∈ values, 0 ≤ x ∧ x ≤ 4294967295
def SizesIn (sizes : List Int) : Prop := ∀ x ∈ sizes, -9223372036854775808 ≤ x ∧ x ≤ 9223372036854775807
theorem bits01_put (n : Int) (v : Nat) : Bits01 (putBits n v) := by
  unfold putBits
  split
  · exact bits01_bitsOf _ _
  · intro b hb; cases hb
theorem bb_bits (values sizes : List Int) (j : Nat) : Bits01 (bb values sizes j) := by
  induction j with
  | zero => intro b hb; simp [bb] at hb
  | succ j ih => rw [bb_succ]; exact ih.append (bits01_put _ _)
/-- The number at its place. -/
theorem bb_at (values sizes : List Int) {j m : Nat} (h : j < m) {n : Int} (hn : sizes.getD j 0 = n) (h0 : 0 ≤ n ∧ n ≤ 32) :
    valBits (bb values sizes m) / 2 ^ (bb values sizes j).length % 2 ^ n.toNat = (values.getD j 0).toNat % 2 ^ n.toNat ∧ (bb values sizes (j + 1)).length = (bb values sizes j).length + n.toNat ∧ (bb values sizes (j + 1)).length ≤ (bb values sizes m).length := by
  obtain ⟨c, hc⟩ := bb_le values sizes (show j + 1 ≤ m from h)
  have hs := bb_succ values sizes j
  have hp : putBits (sizes.getD j 0) (values.getD j 0).toNat = bitsOf n.toNat (values.getD j 0).toNat := by rw [hn]; exact if_pos h0
  rw [hp] at hs
  refine ⟨?_, by rw [hs, List.length_append, bitsOf_length], by rw [hc, List.length_append]; omega⟩
  have := (valBits_mid (bb values sizes j) (bitsOf n.toNat (values.getD j 0).toNat) c (bits01_bitsOf _ _)).resolve_right (fun h => h (bb_bits _ _ _))
  rw [← hs, ← hc, bitsOf_length, valBits_bitsOf] at this
  exact this
end Go.L1

-- A30
namespace Go.L1
open Go Go.Sx Go.Proofs
set_option maxRecDepth 20000
set_option linter.unusedVariables false
set_option linter.unusedSimpArgs false
structure BkI (values sizes : List Int) (j : Nat) (last m : Int) (xs : List UInt8) : Prop where
  le : j ≤ values.length
  w : WR (bb values sizes j) last m xs
  ok : ∀ k, k < j → 0 ≤ sizes.getD k 0 ∧ sizes.getD k 0 ≤ 32
structure BkG (values sizes : List Int) : Prop where
  c : values.length ≤ 200
  s : values.length ≤ sizes.length
  t : sizes.length ≤ 2000
  v : ValsIn values
  z : SizesIn sizes
def BkInv (values sizes : List Int) (w : Int × Int × Int × List UInt8) : Prop := ∃ j : Nat, w.1 = j ∧ BkI values sizes j w.2.1 w.2.2.1 w.2.2.2
structure BkAt (A : Leaf) (values sizes : List Int) (i last m : Int) (xs : List UInt8) (j : Nat) : Prop where
  ej : i = j
  lt : j < values.length
  q1 : A.inb i (A.len sizes)
  q2 : A.inb i (A.len values)
  gv : A.get 0 values i = values.getD j 0
  gs : A.get 0 sizes i = sizes.getD j 0
  vr : 0 ≤ values.getD j 0 ∧ values.getD j 0 ≤ 4294967295
  w : WR (bb values sizes j) last m xs
  ok : ∀ k, k < j → 0 ≤ sizes.getD k 0 ∧ sizes.getD k 0 ≤ 32
  arg : PutArg (A.get 0 values i) (values.getD j 0).toNat (bb values sizes j)
theorem getD_mem {l : List Int} {j : Nat} (h : j < l.length) : l.getD j 0 ∈ l := by
  rw [List.getD_eq_getElem?_getD, List.getElem?_eq_getElem h]; exact List.getElem_mem h
theorem BkI.at {A : Leaf} {values sizes : List Int} {i last m : Int} {xs : List UInt8} (hA : A = .std) (hg : BkG values sizes) (h : BkInv values sizes (i, last, m, xs)) (hi : A.cmp .lss i (A.len values) = true) :
    ∃ j, BkAt A values sizes i last m xs j := by
  subst hA
  obtain ⟨j, e, ⟨h1, h2, h3⟩⟩ := h
  simp only at e h2
  subst e
  have hj : j < values.length := by
    have := of_decide_eq_true hi
    have : (j : Int) < (values.length : Int) := this
    omega
  have hs := hg.s
  have hc := hg.c
  have hb := bb_len values sizes j
  have hv := hg.v _ (getD_mem hj)
  refine ⟨j, rfl, hj, ?_, ?_, rfl, rfl, hv, h2, h3, ?_, by omega, by omega⟩
  · show (0 : Int) ≤ j ∧ (j : Int) < (sizes.length : Int); omega
  · show (0 : Int) ≤ j ∧ (j : Int) < (values.length : Int); omega
  · show values.getD j 0 = _; omega
theorem BkAt.inv {A : Leaf} {values sizes : List Int} {i last m l1 m1 : Int} {xs ys : List UInt8} {j : Nat} (h : BkAt A values sizes i last m xs j) (hA : A = .std) (hg : BkG values sizes)
    (hw : WR (bb values sizes j ++ putBits (A.get 0 sizes i) (values.getD j 0).toNat) l1 m1 ys) (h1 : A.cmp .lss (A.get 0 sizes i) 0 = false) (h2 : A.cmp .gtr (A.get 0 sizes i) 32 = false) :
    BkInv values sizes (A.ar .add .i64 i 1, l1, m1, ys) ∧ (values.length - A.ar .add .i64 i 1).toNat < (values.length - i).toNat := by
  have hc := hg.c
  have hlt := h.lt
  have hj := h.ej
  rw [h.gs] at hw h1 h2
  rw [← bb_succ] at hw
  subst hA
  have h1 := of_decide_eq_false h1
  have h2 := of_decide_eq_false h2
  have e : Leaf.std.ar .add .i64 i 1 = ((j + 1 : Nat) : Int) := by rw [hj, add_i64 (by omega) (by omega)]; omega
  rw [e]
  refine ⟨⟨j + 1, rfl, by omega, hw, fun k hk => ?_⟩, by omega⟩
  rcases Nat.lt_or_eq_of_le (Nat.le_of_lt_succ hk) with hk | hk
  · exact h.ok k hk
  · subst hk; omega
structure BkFin (values sizes : List Int) (last m : Int) (xs : List UInt8) : Prop where
  w : WR (bb values sizes values.length) last m xs
  ok : ∀ k, k < values.length → 0 ≤ sizes.getD k 0 ∧ sizes.getD k 0 ≤ 32
theorem BkI.fin {A : Leaf} {values sizes : List Int} {i last m : Int} {xs : List UInt8} (hA : A = .std) (h : BkInv values sizes (i, last, m, xs)) (hi : A.cmp .lss i (A.len values) = false) : BkFin values sizes last m xs := by
  subst hA
  obtain ⟨j, e, ⟨h1, h2, h3⟩⟩ := h
  simp only at e h2
  subst e
  have : ¬ (j : Int) < (values.length : Int) := of_decide_eq_false hi
  have hj : j = values.length := by omega
  subst hj
  exact ⟨h2, h3⟩
def BkInv2 (values sizes : List Int) (w : Int × Int) : Prop := ∃ j : Nat, w.1 = j ∧ j ≤ values.length ∧ w.2 = (bb values sizes j).length
structure Bk2At (A : Leaf) (values sizes : List Int) (ys : List UInt8) (i p n : Int) (W : Nat) : Prop where
  q1 : A.inb i (A.len sizes)
  q2 : A.inb i (A.len values)
  q3 : A.nn (A.conv .u64 n)
  rd : RdPre ys p
  lt : W < 2 ^ 32
  want : A.ar .and .u32 (A.get 0 values i) (A.ar .sub .u32 (A.ar .shl .u32 1 (A.conv .u64 n)) 1) = W
  pk : ∀ r, PeekIs ys p n r → r = W
  bt : ∀ v r p', BitsRes ys p n v r p' → r = true ∧ v = W ∧ BkInv2 values sizes (A.ar .add .i64 i 1, p')
  rv : ∀ a b, RevRes W n a → RevRes a.toNat n b → b = W
  mu : (values.length - A.ar .add .i64 i 1).toNat < (values.length - i).toNat
theorem bk2At {A : Leaf} {values sizes : List Int} {i p last m : Int} {xs ys : List UInt8} (hA : A = .std) (hg : BkG values sizes) (hf : BkFin values sizes last m xs) (hos : OutIs (bb values sizes values.length) ys)
    (h : BkInv2 values sizes (i, p)) (hi : A.cmp .lss i (A.len values) = true) : ∃ W, Bk2At A values sizes ys i p (A.get 0 sizes i) W := by
  subst hA
  obtain ⟨j, e1, e2, e3⟩ := h
  simp only at e1 e2 e3
  subst e1 e3
  have hj : j < values.length := by
    have : (j : Int) < (values.length : Int) := of_decide_eq_true hi
    omega
  have hs := hg.s
  have hc := hg.c
  have hb := bb_len values sizes j
  have hv := hg.v _ (getD_mem hj)
  have hok := hf.ok j hj
  have hgs : Leaf.std.get 0 sizes (j : Int) = sizes.getD j 0 := rfl
  have hgv : Leaf.std.get 0 values (j : Int) = values.getD j 0 := rfl
  obtain ⟨k1, k2, k3⟩ := bb_at values sizes hj rfl hok
  have hval := hos.val (bb_bits _ _ _)
  have hyl := hos.len
  have hbm := bb_len values sizes values.length
  rw [hgs]
  generalize hn : sizes.getD j 0 = n at *
  have hcv : LConv .u64 n = n := l_conv_u64 (by omega) (by omega)
  have hW : (values.getD j 0).toNat % 2 ^ n.toNat < 2 ^ n.toNat := Nat.mod_lt _ (Nat.two_pow_pos _)
  have h32 : 2 ^ n.toNat ≤ 2 ^ 32 := Nat.pow_le_pow_right (by decide) (by omega)
  have eadd : Leaf.std.ar .add .i64 (j : Int) 1 = ((j + 1 : Nat) : Int) := by rw [add_i64 (by omega) (by omega)]; omega
  have hword : valBytes ys / 2 ^ (bb values sizes j).length % 2 ^ n.toNat = (values.getD j 0).toNat % 2 ^ n.toNat := by rw [hval, k1]
  refine ⟨(values.getD j 0).toNat % 2 ^ n.toNat, ?_, ?_, ?_, ⟨by omega, by omega, by omega⟩, by omega, ?_, fun r hr => ?_, fun v r p' hr => ?_, fun a b h1 h2 => ?_, ?_⟩
  · show (0 : Int) ≤ j ∧ (j : Int) < (sizes.length : Int); omega
  · show (0 : Int) ≤ j ∧ (j : Int) < (values.length : Int); omega
  · show (0 : Int) ≤ LConv .u64 n; omega
  · show LAr .and .u32 (values.getD j 0) (LAr .sub .u32 (LAr .shl .u32 1 (LConv .u64 n)) 1) = _
    rw [hcv, mask32 _ _ hok.1 hok.2 hv]
    have : values.getD j 0 = ((values.getD j 0).toNat : Int) := by omega
    rw [this]
    simp
  · unfold PeekIs at hr
    rw [if_pos hok, Int.toNat_natCast, hword] at hr
    exact hr
  · rcases hr with ⟨a1, a2, a3, a4, a5, a6⟩ | ⟨a1, a2, _⟩
    · rw [Int.toNat_natCast, hword] at a6
      refine ⟨a1, a6, j + 1, eadd, by omega, ?_⟩
      show p' = _
      rw [a5, k2]; omega
    · exact absurd ⟨hok.1, hok.2, by omega⟩ a2
  · unfold RevRes at h1 h2
    rw [if_pos hok] at h1 h2
    rw [h2, h1, Int.toNat_natCast, revN_rev, Nat.mod_mod]
  · rw [eadd]; omega
theorem RevRes.pre {v : Nat} {n a : Int} (h : RevRes v n a) : RevPre a n a.toNat := by
  unfold RevRes at h
  split at h
  · rename_i hn
    have h1 := revN_lt n.toNat v
    have h2 : 2 ^ n.toNat ≤ 2 ^ 32 := Nat.pow_le_pow_right (by decide) (by omega)
    exact ⟨by omega, by omega⟩
  · exact ⟨by omega, by omega⟩
def IsN (v : Int) (W : Nat) : Prop := v = W
theorem IsN.dif {A : Leaf} {v w : Int} {W : Nat} (hv : IsN v W) (hw : IsN w W) (hA : A = .std) (h : A.cmp .neq v w = true) : False := by
  unfold IsN at hv hw
  subst hA
  rw [hv, hw] at h
  have h : (((W : Int) != (W : Int)) : Bool) = true := h
  simp at h
set_option maxHeartbeats 4000000 in
theorem back_ok (values sizes : List Int) (hv : ValsIn values) (hz : SizesIn sizes) : FOK Try.prog C1 4 (fun _ => false) [.ro (.ints .u32 values), .ro (.ints .i64 sizes)] [] Yes := by
  refine fok_of (B := ⟨lookT tis, fun _ => false⟩) (tab1 _) (zero1 _) cod1 mix1 Try.func4 (by kernel_rfl) rfl rfl rfl fun X F => ?_
  obtain ⟨A, hA⟩ : ∃ A, A = Leaf.std := ⟨_, rfl⟩
  refine F.hold hA 2000 ?_
  cbv
  repeat' (first
    | refine OK.drawn (by decide +kernel) ?_
    | refine OK.tree ⟨fun _ => ⟨.other, 0, 0, .no⟩, fun _ => true⟩ (by decide +kernel) ?_
    | refine OK.both ?_ ?_
    | refine OK.need (by first | assumption | (rw [hA]; first | (show (_ : Int) ≠ _; decide) | (show (0 : Int) ≤ _; decide) | (show (0 : Int) ≤ _ ∧ _ < (256 : Int); decide))) ?_
    | refine OK.need ?_ ?_
    | (refine OK.branch ?_ ?_ <;> intro h)
    | (refine F.hold hA 2000 ?_; cbv))
  refine F.call [] (alive_ok) rfl rfl rfl fun rs H' hq => ?_
  obtain ⟨b, rfl, rfl, rfl⟩ := hq
  refine ⟨rfl, ?_⟩
  repeat' (first
    | refine OK.drawn (by decide +kernel) ?_
    | refine OK.tree ⟨fun _ => ⟨.other, 0, 0, .no⟩, fun _ => true⟩ (by decide +kernel) ?_
    | refine OK.both ?_ ?_
    | refine OK.need (by first | assumption | (rw [hA]; first | (show (_ : Int) ≠ _; decide) | (show (0 : Int) ≤ _; decide) | (show (0 : Int) ≤ _ ∧ _ < (256 : Int); decide))) ?_
    | refine OK.need ?_ ?_
    | (refine OK.branch ?_ ?_ <;> intro h)
    | (refine F.hold hA 2000 ?_; cbv))
  · exfalso; subst hA; cases h
  any_goals exact F.ret0 ⟨_, rfl, rfl⟩
  have hg : BkG values sizes := by
    try clear hBk
    try clear F
    rw [std_eq] at hA; subst hA
    try simp (disch := omega) only [lf, decide_eq_true_eq, decide_eq_false_iff_not, Int.not_lt, Int.not_le, Bool.not_eq_true', Bool.not_eq_false', Bool.not_true, Bool.not_false, gt_iff_lt, ge_iff_le, Int.toNat_natCast, Bool.true_eq_false, Bool.false_eq_true, beq_iff_eq, Bool.not_eq_eq_eq_not, ne_eq, lT_len, lT_get] at *
    try simp (disch := omega) only [lf, decide_eq_true_eq, decide_eq_false_iff_not, Int.not_lt, Int.not_le, Bool.not_eq_true', Bool.not_eq_false', Bool.not_true, Bool.not_false, gt_iff_lt, ge_iff_le, Int.toNat_natCast, Bool.true_eq_false, Bool.false_eq_true, beq_iff_eq, Bool.not_eq_eq_eq_not, ne_eq, lT_len, lT_get] at *
    exact ⟨by omega, by omega, by omega, hv, hz⟩
  refine F.call [] (newWriter_ok) rfl rfl rfl fun rs H' hq => ?_
  obtain ⟨rfl, rfl⟩ := hq
  refine ⟨rfl, ?_⟩
  refine F.hold hA 2000 ?_
  cbv
  refine F.loop (V := Int × Int × Int × List UInt8) [0, 1, 5] (BkInv values sizes) (fun w => (values.length - w.1).toNat) (fun w => [(6, .int .i64 w.1)]) (fun w => [(0, .cells 59 [.own 1, .int .u64 w.2.1, .int .i64 w.2.2.1]), (1, .row 5 (.bytes w.2.2.2))]) (_, _, _, _) (by cbv; repeat (first | exact WkH.nil _ | apply WkH.gone | refine WkH.eq rfl ?_)) (by cbv; repeat (first | apply WkL.any | exact WkL.nil _ | refine WkL.eq rfl ?_)) (by cbv; exact ⟨rfl⟩) ?_ ?_
  · exact ⟨0, rfl, Nat.zero_le _, WR.nil, fun k hk => by omega⟩
  rintro ⟨i, last, m, xs⟩ hI Bk hBk
  refine F.hold hA 2000 ?_
  cbv
  refine OK.branch (fun h1 => ?_) (fun h1 => ?_)
  · obtain ⟨j, hat⟩ := BkI.at hA hg hI h1
    have q1 := hat.q1
    have q2 := hat.q2
    refine F.hold hA 2000 ?_
    cbv
    refine OK.need q1 ?_
    refine OK.branch (fun h2 => ?_) (fun h2 => ?_)
    · refine F.hold hA 2000 ?_
      cbv
      exact F.ret0 ⟨_, rfl, rfl⟩
    refine F.hold hA 2000 ?_
    cbv
    refine OK.need q1 ?_
    refine OK.branch (fun h3 => ?_) (fun h3 => ?_)
    · refine F.hold hA 2000 ?_
      cbv
      exact F.ret0 ⟨_, rfl, rfl⟩
    repeat' (first
      | refine OK.drawn (by decide +kernel) ?_
      | refine OK.tree ⟨fun _ => ⟨.other, 0, 0, .no⟩, fun _ => true⟩ (by decide +kernel) ?_
      | refine OK.both ?_ ?_
      | refine OK.need (by first | assumption | (rw [hA]; first | (show (_ : Int) ≠ _; decide) | (show (0 : Int) ≤ _; decide) | (show (0 : Int) ≤ _ ∧ _ < (256 : Int); decide))) ?_
      | refine OK.need ?_ ?_
      | (refine OK.branch ?_ ?_ <;> intro h)
      | (refine F.hold hA 2000 ?_; cbv))
    refine F.call [0, 1] (putW _ _ _ _ _ _ _ hat.w hat.arg) rfl rfl rfl fun rs H' hq => ?_
    obtain ⟨l1, m1, ys, rfl, rfl, hw⟩ := hq
    refine ⟨rfl, ?_⟩
    repeat' (first
      | refine OK.drawn (by decide +kernel) ?_
      | refine OK.tree ⟨fun _ => ⟨.other, 0, 0, .no⟩, fun _ => true⟩ (by decide +kernel) ?_
      | refine OK.both ?_ ?_
      | refine OK.need (by first | assumption | (rw [hA]; first | (show (_ : Int) ≠ _; decide) | (show (0 : Int) ≤ _; decide) | (show (0 : Int) ≤ _ ∧ _ < (256 : Int); decide))) ?_
      | refine OK.need ?_ ?_
      | (refine OK.branch ?_ ?_ <;> intro h)
      | (refine F.hold hA 2000 ?_; cbv))
    refine OK.back (hBk _ _ (_, _, _, _) (by cbv; repeat (first | exact WkH.nil _ | apply WkH.gone | refine WkH.eq rfl ?_)) (by cbv; repeat (first | apply WkL.any | exact WkL.nil _ | refine WkL.eq rfl ?_)) (by cbv; exact ⟨rfl⟩) ?_ ?_)
    · exact (hat.inv hA hg hw h2 h3).1
    · exact (hat.inv hA hg hw h2 h3).2
  have hf := BkI.fin hA hI h1
  refine F.hold hA 2000 ?_
  cbv
  refine F.call [0, 1] (outW _ _ _ _ hf.w) rfl rfl rfl fun rs H' hq => ?_
  obtain ⟨ys, rfl, rfl, hos⟩ := hq
  refine ⟨rfl, ?_⟩
  refine F.hold hA 2000 ?_
  cbv
  refine F.callFrz 2 rfl rfl rfl rfl ?_
  refine F.call [] (newReader_ok ys (hos.le hf.w)) rfl rfl rfl fun rs H' hq => ?_
  obtain ⟨rfl, rfl⟩ := hq
  refine ⟨rfl, ?_⟩
  refine F.hold hA 2000 ?_
  cbv
  refine F.loop (V := Int × Int) [0, 1, 5, 7] (BkInv2 values sizes) (fun w => (values.length - w.1).toNat) (fun w => [(8, .int .i64 w.1)]) (fun w => [(4, .cells 62 [.ro (.bytes ys), .int .i64 w.2])]) (_, _) (by cbv; repeat (first | exact WkH.nil _ | apply WkH.gone | refine WkH.eq rfl ?_)) (by cbv; repeat (first | apply WkL.any | exact WkL.nil _ | refine WkL.eq rfl ?_)) (by cbv; exact ⟨rfl⟩) ?_ ?_
  · exact ⟨0, rfl, Nat.zero_le _, rfl⟩
  rintro ⟨i2, p⟩ hI2 Bk2 hBk
  refine F.hold hA 2000 ?_
  cbv
  refine OK.branch (fun h2 => ?_) (fun h2 => ?_)
  · obtain ⟨W, hat⟩ := bk2At hA hg hf hos hI2 h2
    have q1 := hat.q1
    have q2 := hat.q2
    have q3 := hat.q3
    repeat' (first
      | refine OK.drawn (by decide +kernel) ?_
      | refine OK.tree ⟨fun _ => ⟨.other, 0, 0, .no⟩, fun _ => true⟩ (by decide +kernel) ?_
      | refine OK.both ?_ ?_
      | refine OK.need (by first | assumption | (rw [hA]; first | (show (_ : Int) ≠ _; decide) | (show (0 : Int) ≤ _; decide) | (show (0 : Int) ≤ _ ∧ _ < (256 : Int); decide))) ?_
      | refine OK.need ?_ ?_
      | (refine OK.branch ?_ ?_ <;> intro h)
      | (refine F.hold hA 2000 ?_; cbv))
    have hw : IsN _ W := hat.want
    refine F.call [4] (peek_ok ys p _ hat.rd) rfl rfl rfl fun rs H' hq => ?_
    obtain ⟨v, rfl, rfl, hv⟩ := hq
    refine ⟨rfl, ?_⟩
    have hv : IsN v W := hat.pk _ hv
    repeat' (first
      | refine OK.drawn (by decide +kernel) ?_
      | refine OK.tree ⟨fun _ => ⟨.other, 0, 0, .no⟩, fun _ => true⟩ (by decide +kernel) ?_
      | refine OK.both ?_ ?_
      | refine OK.need (by first | assumption | (rw [hA]; first | (show (_ : Int) ≠ _; decide) | (show (0 : Int) ≤ _; decide) | (show (0 : Int) ≤ _ ∧ _ < (256 : Int); decide))) ?_
      | refine OK.need ?_ ?_
      | (refine OK.branch ?_ ?_ <;> intro h)
      | (refine F.hold hA 2000 ?_; cbv))
    refine F.call [4] (bits_ok ys p _ hat.rd) rfl rfl rfl fun rs H' hq => ?_
    obtain ⟨v2, r, p', rfl, rfl, hb⟩ := hq
    refine ⟨rfl, ?_⟩
    obtain ⟨rfl, hv2, hinv⟩ := hat.bt _ _ _ hb
    have hv2 : IsN v2 W := hv2
    clear hb
    repeat' (first
      | refine OK.drawn (by decide +kernel) ?_
      | refine OK.tree ⟨fun _ => ⟨.other, 0, 0, .no⟩, fun _ => true⟩ (by decide +kernel) ?_
      | refine OK.both ?_ ?_
      | refine OK.need (by first | assumption | (rw [hA]; first | (show (_ : Int) ≠ _; decide) | (show (0 : Int) ≤ _; decide) | (show (0 : Int) ≤ _ ∧ _ < (256 : Int); decide))) ?_
      | refine OK.need ?_ ?_
      | (refine OK.branch ?_ ?_ <;> intro h)
      | (refine F.hold hA 2000 ?_; cbv))
    any_goals (first | (exfalso; cases h; done) | (exfalso; exact hv2.dif hw hA h) | (exfalso; exact hv.dif hw hA h) | (exfalso; subst hA; revert h; decide))
    all_goals
      refine F.call [] (rev_ok v2 _ W ⟨hv2, hat.lt⟩) rfl rfl rfl fun rs H' hq => ?_
      obtain ⟨a, rfl, rfl, ha⟩ := hq
      refine ⟨rfl, ?_⟩
      repeat' (first
        | refine OK.drawn (by decide +kernel) ?_
        | refine OK.tree ⟨fun _ => ⟨.other, 0, 0, .no⟩, fun _ => true⟩ (by decide +kernel) ?_
        | refine OK.both ?_ ?_
        | refine OK.need (by first | assumption | (rw [hA]; first | (show (_ : Int) ≠ _; decide) | (show (0 : Int) ≤ _; decide) | (show (0 : Int) ≤ _ ∧ _ < (256 : Int); decide))) ?_
        | refine OK.need ?_ ?_
        | (refine OK.branch ?_ ?_ <;> intro h)
        | (refine F.hold hA 2000 ?_; cbv))
      refine F.call [] (rev_ok a _ a.toNat ha.pre) rfl rfl rfl fun rs H' hq => ?_
      obtain ⟨b, rfl, rfl, hb⟩ := hq
      refine ⟨rfl, ?_⟩
      have hb2 : IsN b W := hat.rv _ _ ha hb
      repeat' (first
        | refine OK.drawn (by decide +kernel) ?_
        | refine OK.tree ⟨fun _ => ⟨.other, 0, 0, .no⟩, fun _ => true⟩ (by decide +kernel) ?_
        | refine OK.both ?_ ?_
        | refine OK.need (by first | assumption | (rw [hA]; first | (show (_ : Int) ≠ _; decide) | (show (0 : Int) ≤ _; decide) | (show (0 : Int) ≤ _ ∧ _ < (256 : Int); decide))) ?_
        | refine OK.need ?_ ?_
        | (refine OK.branch ?_ ?_ <;> intro h)
        | (refine F.hold hA 2000 ?_; cbv))
      any_goals (first | (exfalso; cases h; done) | (exfalso; exact hb2.dif hw hA h) | (exfalso; subst hA; revert h; decide))
      refine OK.back (hBk _ _ (_, _) (by cbv; repeat (first | exact WkH.nil _ | apply WkH.gone | refine WkH.eq rfl ?_)) (by cbv; repeat (first | apply WkL.any | exact WkL.nil _ | refine WkL.eq rfl ?_)) (by cbv; exact ⟨rfl⟩) ?_ ?_)
      · exact hinv
      · exact hat.mu
  obtain ⟨j, ej, hj, ep⟩ : BkInv2 values sizes (i2, p) := hI2
  simp only at ej ep
  have hjl : j = values.length := by
    subst hA
    have : ¬ i2 < (values.length : Int) := of_decide_eq_false h2
    omega
  subst hjl
  have hrd : RdPre ys p := by
    have hyl := hos.len
    have hbm := bb_len values sizes values.length
    have hc := hg.c
    exact ⟨by omega, by omega, by omega⟩
  have hpl : LenIs (bb values sizes values.length) p := ep
  repeat' (first
    | refine OK.drawn (by decide +kernel) ?_
    | refine OK.tree ⟨fun _ => ⟨.other, 0, 0, .no⟩, fun _ => true⟩ (by decide +kernel) ?_
    | refine OK.both ?_ ?_
    | refine OK.need (by first | assumption | (rw [hA]; first | (show (_ : Int) ≠ _; decide) | (show (0 : Int) ≤ _; decide) | (show (0 : Int) ≤ _ ∧ _ < (256 : Int); decide))) ?_
    | refine OK.need ?_ ?_
    | (refine OK.branch ?_ ?_ <;> intro h)
    | (refine F.hold hA 2000 ?_; cbv))
  refine F.call [4] (left_ok ys p hrd) rfl rfl rfl fun rs H' hq => ?_
  obtain ⟨r, rfl, rfl, hr⟩ := hq
  refine ⟨rfl, ?_⟩
  have hr : LeftIs ys p r := hr
  repeat' (first
    | refine OK.drawn (by decide +kernel) ?_
    | refine OK.tree ⟨fun _ => ⟨.other, 0, 0, .no⟩, fun _ => true⟩ (by decide +kernel) ?_
    | refine OK.both ?_ ?_
    | refine OK.need (by first | assumption | (rw [hA]; first | (show (_ : Int) ≠ _; decide) | (show (0 : Int) ≤ _; decide) | (show (0 : Int) ≤ _ ∧ _ < (256 : Int); decide))) ?_
    | refine OK.need ?_ ?_
    | (refine OK.branch ?_ ?_ <;> intro h)
    | (refine F.hold hA 2000 ?_; cbv))
  · refine F.call [4] (at_ok ys p) rfl rfl rfl fun rs H' hq => ?_
    obtain ⟨rfl, rfl⟩ := hq
    refine ⟨rfl, ?_⟩
    repeat' (first
      | refine OK.drawn (by decide +kernel) ?_
      | refine OK.tree ⟨fun _ => ⟨.other, 0, 0, .no⟩, fun _ => true⟩ (by decide +kernel) ?_
      | refine OK.both ?_ ?_
      | refine OK.need (by first | assumption | (rw [hA]; first | (show (_ : Int) ≠ _; decide) | (show (0 : Int) ≤ _; decide) | (show (0 : Int) ≤ _ ∧ _ < (256 : Int); decide))) ?_
      | refine OK.need ?_ ?_
      | (refine OK.branch ?_ ?_ <;> intro h)
      | (refine F.hold hA 2000 ?_; cbv))
    refine F.call [0, 1] (lenW _ _ _ _ hf.w) rfl rfl rfl fun rs H' hq => ?_
    obtain ⟨r2, rfl, rfl, hl2⟩ := hq
    refine ⟨rfl, ?_⟩
    repeat' (first
      | refine OK.drawn (by decide +kernel) ?_
      | refine OK.tree ⟨fun _ => ⟨.other, 0, 0, .no⟩, fun _ => true⟩ (by decide +kernel) ?_
      | refine OK.both ?_ ?_
      | refine OK.need (by first | assumption | (rw [hA]; first | (show (_ : Int) ≠ _; decide) | (show (0 : Int) ≤ _; decide) | (show (0 : Int) ≤ _ ∧ _ < (256 : Int); decide))) ?_
      | refine OK.need ?_ ?_
      | (refine OK.branch ?_ ?_ <;> intro h)
      | (refine F.hold hA 2000 ?_; cbv))
    refine F.ret0 ⟨_, rfl, ?_⟩
    subst hA
    have e : p = r2 := by unfold LenIs at hpl hl2; rw [hpl, hl2]
    rw [e]
    exact beq_self_eq_true _
  · exfalso
    subst hA
    have h : ¬ r < 8 := of_decide_eq_false h
    have hyl := hos.len
    unfold LeftIs at hr
    unfold LenIs at hpl
    omega
end Go.L1

-- A31
namespace Go.L1
open Go Go.Sx Go.Proofs
set_option maxRecDepth 20000
set_option linter.unusedVariables false
set_option linter.unusedSimpArgs false
theorem bitsOf_add (a b v : Nat) : bitsOf (a + b) v = bitsOf a v ++ bitsOf b (v / 2 ^ a) := by
  induction b with
  | zero => simp [bitsOf]
  | succ b ih => rw [← Nat.add_assoc, bitsOf_succ, bitsOf_succ, ih, List.append_assoc, Nat.div_div_eq_div_mul, ← Nat.pow_add]
structure JnG (v n cut : Int) : Prop where
  hv : 0 ≤ v ∧ v ≤ 4294967295
  hn : 0 ≤ n ∧ n ≤ 32
  hc : 0 ≤ cut ∧ cut ≤ n
/-- The bits of a round. -/
def jl (f n : Int) (v : Nat) : List UInt8 := [] ++ putBits f 341 ++ putBits n v
theorem jl_join {v n cut : Int} (hg : JnG v n cut) (f : Int) : [] ++ putBits f 341 ++ putBits cut v.toNat ++ putBits (n - cut) (v.toNat / 2 ^ cut.toNat) = jl f n v.toNat := by
  obtain ⟨h1, h2, h3⟩ := hg
  unfold jl
  have e1 : putBits n v.toNat = bitsOf n.toNat v.toNat := if_pos h2
  have e2 : putBits cut v.toNat = bitsOf cut.toNat v.toNat := if_pos (by omega)
  have e3 : putBits (n - cut) (v.toNat / 2 ^ cut.toNat) = bitsOf (n - cut).toNat (v.toNat / 2 ^ cut.toNat) := if_pos (by omega)
  have e4 : n.toNat = cut.toNat + (n - cut).toNat := by omega
  rw [e1, e2, e3, e4, bitsOf_add, List.append_assoc, List.append_assoc]
def FrInv (f : Int) : Prop := 0 ≤ f ∧ f ≤ 9
structure JnAt (A : Leaf) (v n cut f : Int) : Prop where
  f0 : 0 ≤ f ∧ f ≤ 8
  aA : PutArg v v.toNat ([] ++ putBits f 341)
  aC : PutArg (A.conv .u32 (A.ar .shr .u64 (A.conv .u64 v) (A.conv .u64 cut))) (v.toNat / 2 ^ cut.toNat) ([] ++ putBits f 341 ++ putBits cut v.toNat)
  nc : A.ar .sub .i64 n cut = n - cut
  q3 : A.nn (A.conv .u64 cut)
  q4 : A.nn (A.conv .u64 n)
  fn : A.ar .add .i64 f n = f + n
  len : (jl f n v.toNat).length = f + n
theorem jnAt {A : Leaf} {v n cut f : Int} (hA : A = .std) (hg : JnG v n cut) (hI : FrInv f) (h1 : A.cmp .lss f 9 = true) : JnAt A v n cut f := by
  subst hA
  obtain ⟨g1, g2, g3⟩ := hg
  obtain ⟨i1, i2⟩ := hI
  have h1 : f < 9 := of_decide_eq_true h1
  have k1 := putBits_len f 341
  have k2 := putBits_len cut v.toNat
  have c1 : LConv .u64 cut = cut := l_conv_u64 (by omega) (by omega)
  have c2 : LConv .u64 v = v := l_conv_u64 (by omega) (by omega)
  have c3 : LConv .u64 n = n := l_conv_u64 (by omega) (by omega)
  have hd : v.toNat / 2 ^ cut.toNat ≤ v.toNat := Nat.div_le_self _ _
  have e : v / 2 ^ cut.toNat = ((v.toNat / 2 ^ cut.toNat : Nat) : Int) := by
    have : v = (v.toNat : Int) := by omega
    rw [this]; simp
  refine ⟨by omega, ⟨by omega, by omega, ?_⟩, ⟨?_, by omega, ?_⟩, sub_i64 (by omega) (by omega), ?_, ?_, add_i64 (by omega) (by omega), ?_⟩
  · rw [List.nil_append]; omega
  · show LConv .u32 (LAr .shr .u64 (LConv .u64 v) (LConv .u64 cut)) = _
    rw [c1, c2, l_shr_u64 (by omega) (by omega), e]
    generalize v.toNat / 2 ^ cut.toNat = q at *
    exact l_conv_u32 (by omega) (by omega)
  · rw [List.nil_append, List.length_append]; omega
  · show 0 ≤ LConv .u64 cut; omega
  · show 0 ≤ LConv .u64 n; omega
  · unfold jl
    have e1 : putBits f 341 = bitsOf f.toNat 341 := if_pos (by omega)
    have e2 : putBits n v.toNat = bitsOf n.toNat v.toNat := if_pos g2
    rw [e1, e2, List.nil_append, List.length_append, bitsOf_length, bitsOf_length]; omega
theorem LenIs.ne {l : List UInt8} {a b : Int} (ha : LenIs l a) (hb : LenIs l b) {A : Leaf} (hA : A = .std) (h : A.cmp .neq a b = true) : False := by
  unfold LenIs at ha hb
  subst hA
  rw [ha, hb] at h
  have h : (((l.length : Int) != (l.length : Int)) : Bool) = true := h
  simp at h
theorem JnAt.fl {A : Leaf} {v n cut f : Int} (h : JnAt A v n cut f) : LenIs (jl f n v.toNat) (A.ar .add .i64 f n) := by unfold LenIs; rw [h.fn, h.len]
theorem jn_len {A : Leaf} {v n cut f : Int} (h : JnAt A v n cut f) {ys : List UInt8} (ho : OutIs (jl f n v.toNat) ys) : (ys.length : Int) = (f + n + 7) / 8 := by
  have := ho.len
  have := h.len
  omega
theorem jn_rd {A : Leaf} {v n cut f : Int} (hg : JnG v n cut) (h : JnAt A v n cut f) {ys : List UInt8} (ho : OutIs (jl f n v.toNat) ys) (p : Int) (hp : 0 ≤ p ∧ p ≤ f + n) : RdPre ys p := by
  have := jn_len h ho
  have := h.f0
  obtain ⟨g1, g2, g3⟩ := hg
  exact ⟨by omega, by omega, by omega⟩
theorem jn_val {A : Leaf} {v n cut f : Int} (hg : JnG v n cut) (h : JnAt A v n cut f) {ys : List UInt8} (ho : OutIs (jl f n v.toNat) ys) : valBytes ys / 2 ^ f.toNat = v.toNat % 2 ^ n.toNat := by
  have hf := h.f0
  obtain ⟨g1, g2, g3⟩ := hg
  have e1 : putBits f 341 = bitsOf f.toNat 341 := if_pos (by omega)
  have e2 : putBits n v.toNat = bitsOf n.toNat v.toNat := if_pos g2
  have hb : Bits01 (jl f n v.toNat) := by unfold jl; rw [List.nil_append]; exact (bits01_put _ _).append (bits01_put _ _)
  rw [ho.val hb]
  unfold jl
  rw [e1, e2, List.nil_append, valBits_append, bitsOf_length, valBits_bitsOf, valBits_bitsOf, Nat.add_mul_div_left _ _ (Nat.two_pow_pos _), Nat.div_eq_of_lt (Nat.mod_lt _ (Nat.two_pow_pos _)), Nat.zero_add]
theorem jn_skip {A : Leaf} {v n cut f : Int} (hg : JnG v n cut) (h : JnAt A v n cut f) {ys : List UInt8} (ho : OutIs (jl f n v.toNat) ys) {r : Bool} {p : Int} (hs : SkipRes ys 0 f r p) : r = true ∧ p = f := by
  have := jn_len h ho
  have := h.f0
  obtain ⟨g1, g2, g3⟩ := hg
  rcases hs with ⟨a1, a2, a3, a4⟩ | ⟨a1, a2, a3⟩
  · exact ⟨a1, by omega⟩
  · exact absurd ⟨by omega, by omega⟩ a2
def IsM (v : Int) (W : Nat) : Prop := v = W
theorem jn_b1 {A : Leaf} {v n cut f : Int} (hg : JnG v n cut) (h : JnAt A v n cut f) {ys : List UInt8} (ho : OutIs (jl f n v.toNat) ys) {x : Int} {r : Bool} {p : Int} (hs : BitsRes ys f cut x r p) : r = true ∧ p = f + cut ∧ IsM x (v.toNat % 2 ^ cut.toNat) := by
  have := jn_len h ho
  have hf := h.f0
  have hval := jn_val hg h ho
  obtain ⟨g1, g2, g3⟩ := hg
  rcases hs with ⟨a1, a2, a3, a4, a5, a6⟩ | ⟨a1, a2, a3⟩
  · refine ⟨a1, a5, ?_⟩
    rw [hval] at a6
    have e : (2 : Nat) ^ n.toNat = 2 ^ cut.toNat * 2 ^ (n - cut).toNat := by rw [← Nat.pow_add]; congr 1; omega
    rw [e, Nat.mod_mul_right_mod] at a6
    exact a6
  · exact absurd ⟨by omega, by omega, by omega⟩ a2
theorem jn_b2 {A : Leaf} {v n cut f : Int} (hg : JnG v n cut) (h : JnAt A v n cut f) {ys : List UInt8} (ho : OutIs (jl f n v.toNat) ys) {y : Int} {r : Bool} {p : Int} (hs : BitsRes ys (f + cut) (A.ar .sub .i64 n cut) y r p) : r = true ∧ IsM y (v.toNat / 2 ^ cut.toNat % 2 ^ (n - cut).toNat) := by
  have := jn_len h ho
  have hf := h.f0
  have hval := jn_val hg h ho
  rw [h.nc] at hs
  obtain ⟨g1, g2, g3⟩ := hg
  rcases hs with ⟨a1, a2, a3, a4, a5, a6⟩ | ⟨a1, a2, a3⟩
  · refine ⟨a1, ?_⟩
    have e0 : (f + cut).toNat = f.toNat + cut.toNat := by omega
    have e : (2 : Nat) ^ n.toNat = 2 ^ cut.toNat * 2 ^ (n - cut).toNat := by rw [← Nat.pow_add]; congr 1; omega
    rw [e0, Nat.pow_add, ← Nat.div_div_eq_div_mul, hval, e, Nat.mod_mul_right_div_self, Nat.mod_mod] at a6
    exact a6
  · exact absurd ⟨by omega, by omega, by omega⟩ a2
theorem jn_fin {A : Leaf} {v n cut : Int} (hA : A = .std) (hg : JnG v n cut) {x y : Int} (hx : IsM x (v.toNat % 2 ^ cut.toNat)) (hy : IsM y (v.toNat / 2 ^ cut.toNat % 2 ^ (n - cut).toNat))
    (hd : A.cmp .neq (A.conv .u32 (A.ar .or .u64 (A.conv .u64 x) (A.ar .shl .u64 (A.conv .u64 y) (A.conv .u64 cut)))) (A.conv .u32 (A.ar .and .u64 (A.conv .u64 v) (A.ar .sub .u64 (A.ar .shl .u64 1 (A.conv .u64 n)) 1))) = true) : False := by
  subst hA
  obtain ⟨g1, g2, g3⟩ := hg
  unfold IsM at hx hy
  have c1 : LConv .u64 cut = cut := l_conv_u64 (by omega) (by omega)
  have c2 : LConv .u64 v = v := l_conv_u64 (by omega) (by omega)
  have c3 : LConv .u64 n = n := l_conv_u64 (by omega) (by omega)
  have p1 : (2 : Nat) ^ cut.toNat ≤ 2 ^ 32 := Nat.pow_le_pow_right (by decide) (by omega)
  have p2 : (2 : Nat) ^ n.toNat ≤ 2 ^ 32 := Nat.pow_le_pow_right (by decide) (by omega)
  have e : (2 : Nat) ^ n.toNat = 2 ^ cut.toNat * 2 ^ (n - cut).toNat := by rw [← Nat.pow_add]; congr 1; omega
  have hX : v.toNat % 2 ^ cut.toNat < 2 ^ cut.toNat := Nat.mod_lt _ (Nat.two_pow_pos _)
  have hY : v.toNat / 2 ^ cut.toNat % 2 ^ (n - cut).toNat < 2 ^ (n - cut).toNat := Nat.mod_lt _ (Nat.two_pow_pos _)
  have hsum : v.toNat % 2 ^ cut.toNat + 2 ^ cut.toNat * (v.toNat / 2 ^ cut.toNat % 2 ^ (n - cut).toNat) = v.toNat % 2 ^ n.toNat := by rw [e, Nat.mod_mul]
  have hYs : v.toNat / 2 ^ cut.toNat % 2 ^ (n - cut).toNat * 2 ^ cut.toNat + 2 ^ cut.toNat ≤ 2 ^ n.toNat := by
    rw [e]
    have := Nat.mul_le_mul_right (2 ^ cut.toNat) (Nat.succ_le_of_lt hY)
    rw [Nat.succ_mul] at this
    rw [Nat.mul_comm (2 ^ cut.toNat)]
    exact this
  have hw : v.toNat % 2 ^ n.toNat < 2 ^ n.toNat := Nat.mod_lt _ (Nat.two_pow_pos _)
  have hpd : (2 : Nat) ^ (n - cut).toNat ≤ 2 ^ n.toNat := Nat.pow_le_pow_right (by decide) (by omega)
  have hor := Nat.two_pow_add_eq_or_of_lt hX (v.toNat / 2 ^ cut.toNat % 2 ^ (n - cut).toNat)
  have emask : LAr .and .u64 v (LAr .sub .u64 (LAr .shl .u64 1 n) 1) = ((v.toNat % 2 ^ n.toNat : Nat) : Int) := by
    rw [l_shl1_u64 (by omega) (by omega), l_mask_u64 v (by omega)]
    have : v = (v.toNat : Int) := by omega
    conv => lhs; rw [this]
    simp
  generalize hXe : v.toNat % 2 ^ cut.toNat = X at *
  generalize hYe : v.toNat / 2 ^ cut.toNat % 2 ^ (n - cut).toNat = Y at *
  generalize hWe : v.toNat % 2 ^ n.toNat = W at *
  have cx : LConv .u64 x = x := l_conv_u64 (by omega) (by omega)
  have cy : LConv .u64 y = y := l_conv_u64 (by omega) (by omega)
  have esh : LAr .shl .u64 y cut = ((Y * 2 ^ cut.toNat : Nat) : Int) := by
    have hc' : ((Y * 2 ^ cut.toNat : Nat) : Int) = y * 2 ^ cut.toNat := by rw [hy]; simp
    rw [hc']
    refine l_shl_u64 (by omega) (by omega) ?_ ?_
    · rw [← hc']; omega
    · rw [← hc']; omega
  have eor : LAr .or .u64 x (LAr .shl .u64 y cut) = (W : Int) := by
    rw [esh, l_or_u64 (by omega) (by omega) (by omega) (by omega), hx, Int.toNat_natCast, Int.toNat_natCast, Nat.or_comm, Nat.mul_comm Y, ← hor]
    omega
  have h2 : (LConv .u32 (LAr .or .u64 (LConv .u64 x) (LAr .shl .u64 (LConv .u64 y) (LConv .u64 cut))) != LConv .u32 (LAr .and .u64 (LConv .u64 v) (LAr .sub .u64 (LAr .shl .u64 1 (LConv .u64 n)) 1))) = true := hd
  rw [c1, c2, c3, cx, cy, eor, emask] at h2
  simp at h2
set_option maxHeartbeats 4000000 in
theorem join_ok (v n cut : Int) (hv : 0 ≤ v ∧ v ≤ 4294967295) : FOK Try.prog C1 5 (fun _ => false) [.int .u32 v, .int .i64 n, .int .i64 cut] [] Yes := by
  refine fok_of (B := ⟨lookT tis, fun _ => false⟩) (tab1 _) (zero1 _) cod1 mix1 Try.func5 (by kernel_rfl) rfl rfl rfl fun X F => ?_
  obtain ⟨A, hA⟩ : ∃ A, A = Leaf.std := ⟨_, rfl⟩
  refine F.hold hA 2000 ?_
  cbv
  repeat' (first
    | refine OK.drawn (by decide +kernel) ?_
    | refine OK.tree ⟨fun _ => ⟨.other, 0, 0, .no⟩, fun _ => true⟩ (by decide +kernel) ?_
    | refine OK.both ?_ ?_
    | refine OK.need (by first | assumption | (rw [hA]; first | (show (_ : Int) ≠ _; decide) | (show (0 : Int) ≤ _; decide) | (show (0 : Int) ≤ _ ∧ _ < (256 : Int); decide))) ?_
    | refine OK.need ?_ ?_
    | (refine OK.branch ?_ ?_ <;> intro h)
    | (refine F.hold hA 2000 ?_; cbv))
  refine F.call [] (alive_ok) rfl rfl rfl fun rs H' hq => ?_
  obtain ⟨b, rfl, rfl, rfl⟩ := hq
  refine ⟨rfl, ?_⟩
  repeat' (first
    | refine OK.drawn (by decide +kernel) ?_
    | refine OK.tree ⟨fun _ => ⟨.other, 0, 0, .no⟩, fun _ => true⟩ (by decide +kernel) ?_
    | refine OK.both ?_ ?_
    | refine OK.need (by first | assumption | (rw [hA]; first | (show (_ : Int) ≠ _; decide) | (show (0 : Int) ≤ _; decide) | (show (0 : Int) ≤ _ ∧ _ < (256 : Int); decide))) ?_
    | refine OK.need ?_ ?_
    | (refine OK.branch ?_ ?_ <;> intro h)
    | (refine F.hold hA 2000 ?_; cbv))
  · exfalso; subst hA; cases h
  any_goals exact F.ret0 ⟨_, rfl, rfl⟩
  have hgg : JnG v n cut := by
    try clear hBk
    try clear F
    rw [std_eq] at hA; subst hA
    try simp (disch := omega) only [lf, decide_eq_true_eq, decide_eq_false_iff_not, Int.not_lt, Int.not_le, Bool.not_eq_true', Bool.not_eq_false', Bool.not_true, Bool.not_false, gt_iff_lt, ge_iff_le, Int.toNat_natCast, Bool.true_eq_false, Bool.false_eq_true, beq_iff_eq, Bool.not_eq_eq_eq_not, ne_eq, lT_len, lT_get] at *
    try simp (disch := omega) only [lf, decide_eq_true_eq, decide_eq_false_iff_not, Int.not_lt, Int.not_le, Bool.not_eq_true', Bool.not_eq_false', Bool.not_true, Bool.not_false, gt_iff_lt, ge_iff_le, Int.toNat_natCast, Bool.true_eq_false, Bool.false_eq_true, beq_iff_eq, Bool.not_eq_eq_eq_not, ne_eq, lT_len, lT_get] at *
    exact ⟨hv, by omega, by omega⟩
  refine F.loop (V := Int) [0, 1, 2] (FrInv) (fun w => (9 - w).toNat) (fun w => [(7, .int .i64 w)]) (fun w => []) _ (by cbv; repeat (first | exact WkH.nil _ | apply WkH.gone | refine WkH.eq rfl ?_)) (by cbv; repeat (first | apply WkL.any | exact WkL.nil _ | refine WkL.eq rfl ?_)) (by cbv; exact ⟨rfl⟩) ?_ ?_
  · exact ⟨by decide, by decide⟩
  rintro f hI Bk hBk
  refine F.hold hA 2000 ?_
  cbv
  refine OK.branch (fun h1 => ?_) (fun h1 => ?_)
  · have ha0 : PutArg 341 341 [] := ⟨rfl, by decide, by decide⟩
    repeat' (first
      | refine OK.drawn (by decide +kernel) ?_
      | refine OK.tree ⟨fun _ => ⟨.other, 0, 0, .no⟩, fun _ => true⟩ (by decide +kernel) ?_
      | refine OK.both ?_ ?_
      | refine OK.need (by first | assumption | (rw [hA]; first | (show (_ : Int) ≠ _; decide) | (show (0 : Int) ≤ _; decide) | (show (0 : Int) ≤ _ ∧ _ < (256 : Int); decide))) ?_
      | refine OK.need ?_ ?_
      | (refine OK.branch ?_ ?_ <;> intro h)
      | (refine F.hold hA 2000 ?_; cbv))
    refine F.call [] (newWriter_ok) rfl rfl rfl fun rs H' hq => ?_
    obtain ⟨rfl, rfl⟩ := hq
    refine ⟨rfl, ?_⟩
    repeat' (first
      | refine OK.drawn (by decide +kernel) ?_
      | refine OK.tree ⟨fun _ => ⟨.other, 0, 0, .no⟩, fun _ => true⟩ (by decide +kernel) ?_
      | refine OK.both ?_ ?_
      | refine OK.need (by first | assumption | (rw [hA]; first | (show (_ : Int) ≠ _; decide) | (show (0 : Int) ≤ _; decide) | (show (0 : Int) ≤ _ ∧ _ < (256 : Int); decide))) ?_
      | refine OK.need ?_ ?_
      | (refine OK.branch ?_ ?_ <;> intro h)
      | (refine F.hold hA 2000 ?_; cbv))
    refine F.call [] (newWriter_ok) rfl rfl rfl fun rs H' hq => ?_
    obtain ⟨rfl, rfl⟩ := hq
    refine ⟨rfl, ?_⟩
    repeat' (first
      | refine OK.drawn (by decide +kernel) ?_
      | refine OK.tree ⟨fun _ => ⟨.other, 0, 0, .no⟩, fun _ => true⟩ (by decide +kernel) ?_
      | refine OK.both ?_ ?_
      | refine OK.need (by first | assumption | (rw [hA]; first | (show (_ : Int) ≠ _; decide) | (show (0 : Int) ≤ _; decide) | (show (0 : Int) ≤ _ ∧ _ < (256 : Int); decide))) ?_
      | refine OK.need ?_ ?_
      | (refine OK.branch ?_ ?_ <;> intro h)
      | (refine F.hold hA 2000 ?_; cbv))
    refine F.call [0, 1] (putW _ _ _ _ _ _ _ WR.nil ha0) rfl rfl rfl fun rs H' hq => ?_
    obtain ⟨l1, m1, xs1, rfl, rfl, hw1⟩ := hq
    refine ⟨rfl, ?_⟩
    repeat' (first
      | refine OK.drawn (by decide +kernel) ?_
      | refine OK.tree ⟨fun _ => ⟨.other, 0, 0, .no⟩, fun _ => true⟩ (by decide +kernel) ?_
      | refine OK.both ?_ ?_
      | refine OK.need (by first | assumption | (rw [hA]; first | (show (_ : Int) ≠ _; decide) | (show (0 : Int) ≤ _; decide) | (show (0 : Int) ≤ _ ∧ _ < (256 : Int); decide))) ?_
      | refine OK.need ?_ ?_
      | (refine OK.branch ?_ ?_ <;> intro h)
      | (refine F.hold hA 2000 ?_; cbv))
    refine F.call [2, 3] (putW _ _ _ _ _ _ _ WR.nil ha0) rfl rfl rfl fun rs H' hq => ?_
    obtain ⟨l2, m2, xs2, rfl, rfl, hw2⟩ := hq
    refine ⟨rfl, ?_⟩
    have hat := jnAt hA hgg hI h1
    have q3 := hat.q3
    have q4 := hat.q4
    repeat' (first
      | refine OK.drawn (by decide +kernel) ?_
      | refine OK.tree ⟨fun _ => ⟨.other, 0, 0, .no⟩, fun _ => true⟩ (by decide +kernel) ?_
      | refine OK.both ?_ ?_
      | refine OK.need (by first | assumption | (rw [hA]; first | (show (_ : Int) ≠ _; decide) | (show (0 : Int) ≤ _; decide) | (show (0 : Int) ≤ _ ∧ _ < (256 : Int); decide))) ?_
      | refine OK.need ?_ ?_
      | (refine OK.branch ?_ ?_ <;> intro h)
      | (refine F.hold hA 2000 ?_; cbv))
    refine F.call [0, 1] (putW _ _ _ _ _ _ _ hw1 hat.aA) rfl rfl rfl fun rs H' hq => ?_
    obtain ⟨l1, m1, xs1, rfl, rfl, hw1⟩ := hq
    refine ⟨rfl, ?_⟩
    repeat' (first
      | refine OK.drawn (by decide +kernel) ?_
      | refine OK.tree ⟨fun _ => ⟨.other, 0, 0, .no⟩, fun _ => true⟩ (by decide +kernel) ?_
      | refine OK.both ?_ ?_
      | refine OK.need (by first | assumption | (rw [hA]; first | (show (_ : Int) ≠ _; decide) | (show (0 : Int) ≤ _; decide) | (show (0 : Int) ≤ _ ∧ _ < (256 : Int); decide))) ?_
      | refine OK.need ?_ ?_
      | (refine OK.branch ?_ ?_ <;> intro h)
      | (refine F.hold hA 2000 ?_; cbv))
    refine F.call [2, 3] (putW _ _ _ _ _ _ _ hw2 hat.aA) rfl rfl rfl fun rs H' hq => ?_
    obtain ⟨l2, m2, xs2, rfl, rfl, hw2⟩ := hq
    refine ⟨rfl, ?_⟩
    repeat' (first
      | refine OK.drawn (by decide +kernel) ?_
      | refine OK.tree ⟨fun _ => ⟨.other, 0, 0, .no⟩, fun _ => true⟩ (by decide +kernel) ?_
      | refine OK.both ?_ ?_
      | refine OK.need (by first | assumption | (rw [hA]; first | (show (_ : Int) ≠ _; decide) | (show (0 : Int) ≤ _; decide) | (show (0 : Int) ≤ _ ∧ _ < (256 : Int); decide))) ?_
      | refine OK.need ?_ ?_
      | (refine OK.branch ?_ ?_ <;> intro h)
      | (refine F.hold hA 2000 ?_; cbv))
    refine F.call [2, 3] (putW _ _ _ _ _ _ _ hw2 hat.aC) rfl rfl rfl fun rs H' hq => ?_
    obtain ⟨l2, m2, xs2, rfl, rfl, hw2⟩ := hq
    refine ⟨rfl, ?_⟩
    have hnc := hat.nc
    replace hw2 : WR (jl f n v.toNat) l2 m2 xs2 := by rw [← jl_join hgg f, ← hnc]; exact hw2
    replace hw1 : WR (jl f n v.toNat) l1 m1 xs1 := hw1
    repeat' (first
      | refine OK.drawn (by decide +kernel) ?_
      | refine OK.tree ⟨fun _ => ⟨.other, 0, 0, .no⟩, fun _ => true⟩ (by decide +kernel) ?_
      | refine OK.both ?_ ?_
      | refine OK.need (by first | assumption | (rw [hA]; first | (show (_ : Int) ≠ _; decide) | (show (0 : Int) ≤ _; decide) | (show (0 : Int) ≤ _ ∧ _ < (256 : Int); decide))) ?_
      | refine OK.need ?_ ?_
      | (refine OK.branch ?_ ?_ <;> intro h)
      | (refine F.hold hA 2000 ?_; cbv))
    refine F.call [0, 1] (outW _ _ _ _ hw1) rfl rfl rfl fun rs H' hq => ?_
    obtain ⟨os, rfl, rfl, hos⟩ := hq
    refine ⟨rfl, ?_⟩
    repeat' (first
      | refine OK.drawn (by decide +kernel) ?_
      | refine OK.tree ⟨fun _ => ⟨.other, 0, 0, .no⟩, fun _ => true⟩ (by decide +kernel) ?_
      | refine OK.both ?_ ?_
      | refine OK.need (by first | assumption | (rw [hA]; first | (show (_ : Int) ≠ _; decide) | (show (0 : Int) ≤ _; decide) | (show (0 : Int) ≤ _ ∧ _ < (256 : Int); decide))) ?_
      | refine OK.need ?_ ?_
      | (refine OK.branch ?_ ?_ <;> intro h)
      | (refine F.hold hA 2000 ?_; cbv))
    refine F.call [2, 3] (outW _ _ _ _ hw2) rfl rfl rfl fun rs H' hq => ?_
    obtain ⟨ps, rfl, rfl, hps⟩ := hq
    refine ⟨rfl, ?_⟩
    repeat' (first
      | refine OK.drawn (by decide +kernel) ?_
      | refine OK.tree ⟨fun _ => ⟨.other, 0, 0, .no⟩, fun _ => true⟩ (by decide +kernel) ?_
      | refine OK.both ?_ ?_
      | refine OK.need (by first | assumption | (rw [hA]; first | (show (_ : Int) ≠ _; decide) | (show (0 : Int) ≤ _; decide) | (show (0 : Int) ≤ _ ∧ _ < (256 : Int); decide))) ?_
      | refine OK.need ?_ ?_
      | (refine OK.branch ?_ ?_ <;> intro h)
      | (refine F.hold hA 2000 ?_; cbv))
    refine F.callFrz 4 rfl rfl rfl rfl ?_
    refine F.callFrz 5 rfl rfl rfl rfl ?_
    refine F.call [] (same_ok _ _ (hos.le hw1)) rfl rfl rfl fun rs H' hq => ?_
    obtain ⟨s, rfl, rfl, hs⟩ := hq
    refine ⟨rfl, ?_⟩
    obtain rfl := hos.dif hps hs
    repeat' (first
      | refine OK.drawn (by decide +kernel) ?_
      | refine OK.tree ⟨fun _ => ⟨.other, 0, 0, .no⟩, fun _ => true⟩ (by decide +kernel) ?_
      | refine OK.both ?_ ?_
      | refine OK.need (by first | assumption | (rw [hA]; first | (show (_ : Int) ≠ _; decide) | (show (0 : Int) ≤ _; decide) | (show (0 : Int) ≤ _ ∧ _ < (256 : Int); decide))) ?_
      | refine OK.need ?_ ?_
      | (refine OK.branch ?_ ?_ <;> intro h)
      | (refine F.hold hA 2000 ?_; cbv))
    any_goals (first | (exfalso; cases h; done) | (exfalso; subst hA; revert h; decide))
    refine F.call [0, 1] (lenW _ _ _ _ hw1) rfl rfl rfl fun rs H' hq => ?_
    obtain ⟨r1, rfl, rfl, hr1⟩ := hq
    refine ⟨rfl, ?_⟩
    repeat' (first
      | refine OK.drawn (by decide +kernel) ?_
      | refine OK.tree ⟨fun _ => ⟨.other, 0, 0, .no⟩, fun _ => true⟩ (by decide +kernel) ?_
      | refine OK.both ?_ ?_
      | refine OK.need (by first | assumption | (rw [hA]; first | (show (_ : Int) ≠ _; decide) | (show (0 : Int) ≤ _; decide) | (show (0 : Int) ≤ _ ∧ _ < (256 : Int); decide))) ?_
      | refine OK.need ?_ ?_
      | (refine OK.branch ?_ ?_ <;> intro h)
      | (refine F.hold hA 2000 ?_; cbv))
    refine F.call [2, 3] (lenW _ _ _ _ hw2) rfl rfl rfl fun rs H' hq => ?_
    obtain ⟨r2, rfl, rfl, hr2⟩ := hq
    refine ⟨rfl, ?_⟩
    repeat' (first
      | refine OK.drawn (by decide +kernel) ?_
      | refine OK.tree ⟨fun _ => ⟨.other, 0, 0, .no⟩, fun _ => true⟩ (by decide +kernel) ?_
      | refine OK.both ?_ ?_
      | refine OK.need (by first | assumption | (rw [hA]; first | (show (_ : Int) ≠ _; decide) | (show (0 : Int) ≤ _; decide) | (show (0 : Int) ≤ _ ∧ _ < (256 : Int); decide))) ?_
      | refine OK.need ?_ ?_
      | (refine OK.branch ?_ ?_ <;> intro h)
      | (refine F.hold hA 2000 ?_; cbv))
    any_goals (first | (exfalso; cases h; done) | (exfalso; exact hr1.ne hr2 hA h) | fail)
    refine F.call [0, 1] (lenW _ _ _ _ hw1) rfl rfl rfl fun rs H' hq => ?_
    obtain ⟨r3, rfl, rfl, hr3⟩ := hq
    refine ⟨rfl, ?_⟩
    repeat' (first
      | refine OK.drawn (by decide +kernel) ?_
      | refine OK.tree ⟨fun _ => ⟨.other, 0, 0, .no⟩, fun _ => true⟩ (by decide +kernel) ?_
      | refine OK.both ?_ ?_
      | refine OK.need (by first | assumption | (rw [hA]; first | (show (_ : Int) ≠ _; decide) | (show (0 : Int) ≤ _; decide) | (show (0 : Int) ≤ _ ∧ _ < (256 : Int); decide))) ?_
      | refine OK.need ?_ ?_
      | (refine OK.branch ?_ ?_ <;> intro h)
      | (refine F.hold hA 2000 ?_; cbv))
    any_goals (first | (exfalso; cases h; done) | (exfalso; exact hr3.ne hat.fl hA h) | fail)
    refine F.call [0, 1] (outW _ _ _ _ hw1) rfl rfl rfl fun rs H' hq => ?_
    obtain ⟨os2, rfl, rfl, hos2⟩ := hq
    refine ⟨rfl, ?_⟩
    repeat' (first
      | refine OK.drawn (by decide +kernel) ?_
      | refine OK.tree ⟨fun _ => ⟨.other, 0, 0, .no⟩, fun _ => true⟩ (by decide +kernel) ?_
      | refine OK.both ?_ ?_
      | refine OK.need (by first | assumption | (rw [hA]; first | (show (_ : Int) ≠ _; decide) | (show (0 : Int) ≤ _; decide) | (show (0 : Int) ≤ _ ∧ _ < (256 : Int); decide))) ?_
      | refine OK.need ?_ ?_
      | (refine OK.branch ?_ ?_ <;> intro h)
      | (refine F.hold hA 2000 ?_; cbv))
    refine F.callFrz 6 rfl rfl rfl rfl ?_
    refine F.call [] (newReader_ok os2 (hos2.le hw1)) rfl rfl rfl fun rs H' hq => ?_
    obtain ⟨rfl, rfl⟩ := hq
    refine ⟨rfl, ?_⟩
    have hr0 := jn_rd hgg hat hos2 0 ⟨by decide, by have := hat.f0; have := hgg.hn; omega⟩
    have hrf := jn_rd hgg hat hos2 f ⟨hat.f0.1, by have := hgg.hn; omega⟩
    have hrc := jn_rd hgg hat hos2 (f + cut) ⟨by have := hat.f0; have := hgg.hc; omega, by have := hgg.hc; omega⟩
    repeat' (first
      | refine OK.drawn (by decide +kernel) ?_
      | refine OK.tree ⟨fun _ => ⟨.other, 0, 0, .no⟩, fun _ => true⟩ (by decide +kernel) ?_
      | refine OK.both ?_ ?_
      | refine OK.need (by first | assumption | (rw [hA]; first | (show (_ : Int) ≠ _; decide) | (show (0 : Int) ≤ _; decide) | (show (0 : Int) ≤ _ ∧ _ < (256 : Int); decide))) ?_
      | refine OK.need ?_ ?_
      | (refine OK.branch ?_ ?_ <;> intro h)
      | (refine F.hold hA 2000 ?_; cbv))
    refine F.call [8] (skip_ok os2 0 f hr0) rfl rfl rfl fun rs H' hq => ?_
    obtain ⟨r, p', rfl, rfl, hsk⟩ := hq
    refine ⟨rfl, ?_⟩
    obtain ⟨rfl, rfl⟩ := jn_skip hgg hat hos2 hsk
    repeat' (first
      | refine OK.drawn (by decide +kernel) ?_
      | refine OK.tree ⟨fun _ => ⟨.other, 0, 0, .no⟩, fun _ => true⟩ (by decide +kernel) ?_
      | refine OK.both ?_ ?_
      | refine OK.need (by first | assumption | (rw [hA]; first | (show (_ : Int) ≠ _; decide) | (show (0 : Int) ≤ _; decide) | (show (0 : Int) ≤ _ ∧ _ < (256 : Int); decide))) ?_
      | refine OK.need ?_ ?_
      | (refine OK.branch ?_ ?_ <;> intro h)
      | (refine F.hold hA 2000 ?_; cbv))
    any_goals (first | (exfalso; cases h; done) | (exfalso; subst hA; revert h; decide) | fail)
    refine F.call [8] (bits_ok os2 _ cut hrf) rfl rfl rfl fun rs H' hq => ?_
    obtain ⟨x, r, p2, rfl, rfl, hb1⟩ := hq
    refine ⟨rfl, ?_⟩
    obtain ⟨rfl, hp2, hx⟩ := jn_b1 hgg hat hos2 hb1
    clear hb1
    repeat' (first
      | refine OK.drawn (by decide +kernel) ?_
      | refine OK.tree ⟨fun _ => ⟨.other, 0, 0, .no⟩, fun _ => true⟩ (by decide +kernel) ?_
      | refine OK.both ?_ ?_
      | refine OK.need (by first | assumption | (rw [hA]; first | (show (_ : Int) ≠ _; decide) | (show (0 : Int) ≤ _; decide) | (show (0 : Int) ≤ _ ∧ _ < (256 : Int); decide))) ?_
      | refine OK.need ?_ ?_
      | (refine OK.branch ?_ ?_ <;> intro h)
      | (refine F.hold hA 2000 ?_; cbv))
    have hrc2 : RdPre os2 p2 := by rw [hp2]; exact hrc
    refine F.call [8] (bits_ok os2 p2 _ hrc2) rfl rfl rfl fun rs H' hq => ?_
    obtain ⟨y, r, p3, rfl, rfl, hb2⟩ := hq
    refine ⟨rfl, ?_⟩
    rw [hp2] at hb2
    obtain ⟨rfl, hy⟩ := jn_b2 hgg hat hos2 hb2
    clear hb2
    repeat' (first
      | refine OK.drawn (by decide +kernel) ?_
      | refine OK.tree ⟨fun _ => ⟨.other, 0, 0, .no⟩, fun _ => true⟩ (by decide +kernel) ?_
      | refine OK.both ?_ ?_
      | refine OK.need (by first | assumption | (rw [hA]; first | (show (_ : Int) ≠ _; decide) | (show (0 : Int) ≤ _; decide) | (show (0 : Int) ≤ _ ∧ _ < (256 : Int); decide))) ?_
      | refine OK.need ?_ ?_
      | (refine OK.branch ?_ ?_ <;> intro h)
      | (refine F.hold hA 2000 ?_; cbv))
    any_goals (first | (exfalso; cases h; done) | (exfalso; exact jn_fin hA hgg hx hy h) | (exfalso; subst hA; revert h; decide) | fail)
    refine OK.back (hBk _ _ _ (by cbv; repeat (first | exact WkH.nil _ | apply WkH.gone | refine WkH.eq rfl ?_)) (by cbv; repeat (first | apply WkL.any | exact WkL.nil _ | refine WkL.eq rfl ?_)) (by cbv; exact ⟨rfl⟩) ?_ ?_)
    · obtain ⟨i1, i2⟩ := hI
      subst hA
      have h1 := of_decide_eq_true h1
      show FrInv (Leaf.std.ar .add .i64 _ 1)
      rw [add_i64 (by omega) (by omega)]
      exact ⟨by omega, by omega⟩
    · obtain ⟨i1, i2⟩ := hI
      subst hA
      have h1 := of_decide_eq_true h1
      show (9 - Leaf.std.ar .add .i64 _ 1).toNat < _
      rw [add_i64 (by omega) (by omega)]
      omega
  · refine F.hold hA 2000 ?_
    cbv
    exact F.ret0 ⟨_, rfl, rfl⟩
end Go.L1

-- L1Rows2
namespace Go.L1
open Go Go.Sx Go.Proofs Go.Proofs.Ytlmndkddbmjnfaa
open Go.ChangeShapes Go.WideShapes Go.ChangeAt Go.RowKit
section
variable {w : World} {H : Type} {enc : TypeId × Value → H} {sp : Nat → Bool} {held : Bool}
theorem opens_bytes2 : Opens (T := T1) C1 Try.prog w enc sp held 29 (fun xs => [.ro (.bytes xs)]) (fun xs : List UInt8 => (∀ x ∈ xs, True) ∧ xs.length * Try.prog.bytesOf 5 ≤ reachBytes) := by
  intro fuel cs x h hz
  obtain ⟨y, h1, h2⟩ := opens_bytes fuel cs x h hz
  have hb : Try.prog.bytesOf 5 = 1 := by kernel_rfl
  exact ⟨y, ⟨fun _ _ => trivial, by rw [hb]; omega⟩, h2⟩
theorem opens_u32s : Opens (T := T1) C1 Try.prog w enc sp held 41 (fun xs => [.ro (.ints .u32 xs)]) (fun xs : List Int => (∀ x ∈ xs, IntKind.u32.min ≤ x ∧ x ≤ IntKind.u32.max) ∧ xs.length * Try.prog.bytesOf 23 ≤ reachBytes) :=
  Opens.slice (C := C1) Try.underlying41 (Opens.int (C := C1) Try.underlying23) (fun xs => .ints .u32 xs) (fun _ => rfl) (fun _ _ => rfl) (fun _ => by kernel_rfl) (by decide +kernel)
theorem opens_ints : Opens (T := T1) C1 Try.prog w enc sp held 42 (fun xs => [.ro (.ints .i64 xs)]) (fun xs : List Int => (∀ x ∈ xs, IntKind.i64.min ≤ x ∧ x ≤ IntKind.i64.max) ∧ xs.length * Try.prog.bytesOf 3 ≤ reachBytes) :=
  Opens.slice (C := C1) Try.underlying42 (Opens.int (C := C1) Try.underlying3) (fun xs => .ints .i64 xs) (fun _ => rfl) (fun _ _ => rfl) (fun _ => by kernel_rfl) (by decide +kernel)
end
/-- What the law's function is shown to do. -/
def backOK : Prop := ∀ (values : List Int) (sizes : List Int), (∀ x ∈ values, IntKind.u32.min ≤ x ∧ x ≤ IntKind.u32.max) → values.length * 4 ≤ reachBytes → (∀ x ∈ sizes, IntKind.i64.min ≤ x ∧ x ≤ IntKind.i64.max) → sizes.length * 8 ≤ reachBytes → FOK Try.prog C1 4 (fun _ => false) [.ro (.ints .u32 values), .ro (.ints .i64 sizes)] [] Yes
set_option maxRecDepth 100000 in
theorem back_lifted (hyp : backOK) (os : Os) (started : os.Started) (H : Type) (enc : TypeId × Value → H) :
    ReturnsInHanded {} Try.checked os 4 .any (Rows.bitsBackSpec.pre6 enc Try.prog Try.f4 Rows.bitsBackRow.domain false) (Rows.bitsBackSpec.post enc Try.prog Try.f4 false true false false) := by
  refine returnsInHanded_of_change_sized (C := Try.checked) own started (by kernel_rfl) Try.func4
    (ChangeSpec.witness6 (enc := enc) (C := Try.checked) false ⟨#[], #[.slice none 0 0, .slice none 0 0], []⟩ 8 (by kernel_rfl) (by kernel_rfl) (by kernel_rfl) (by kernel_rfl)) ?_
  intro W base args ds gs before hval0 hW hcnd hsz0 _
  have hsz : (DataW.weightsEach Try.prog (Try.f4.params.toList ++ Rows.bitsBackSpec.plain.varTypes Try.prog) (ds ++ gs)).all (· ≤ reachBytes) = true := hsz0
  have hval : ∀ (j : Nat) t v, Try.f4.params[j]? = some t → args[j]? = some v → Value.okWide Try.prog W .any base t v := hval0
  have hW' := hW
  obtain ⟨p, q, hA0, hV, rfl, hfz, hnd⟩ := hW
  have hA : DataW.TrodAll enc Try.prog W 0 (fun _ => true) true Try.f4.params.toList args.toList ds p := hA0
  rw [Try.params4] at hA hval hsz
  obtain ⟨v0, vs0, d0, ds0, p0, q0, hargs, rfl, rfl, h0, r0⟩ := trodAll_cons hA
  obtain ⟨v1, vs1, d1, ds1, p1, q1, rfl, rfl, rfl, h1, r1⟩ := trodAll_cons r0
  obtain ⟨rfl, rfl, rfl⟩ := trodAll_nil r1
  obtain rfl : args = #[v0, v1] := by cases args; simp_all
  obtain ⟨rfl, rfl⟩ := trodVars_none hV
  obtain ⟨a0, len0, cap0, rfl⟩ := okWide_slice Try.underlying41 (hval 0 41 v0 rfl rfl)
  obtain ⟨a1, len1, cap1, rfl⟩ := okWide_slice Try.underlying42 (hval 1 42 v1 rfl rfl)
  have k0 := h0
  have lt0 : ∀ x ∈ p0, x.block < W.heap.size := by obtain ⟨m, hm⟩ := k0; exact DataW.trod_lt m _ _ _ hm
  have k1 := h1
  have lt1 : ∀ x ∈ p1, x.block < W.heap.size := by obtain ⟨m, hm⟩ := k1; exact DataW.trod_lt m _ _ _ hm
  obtain ⟨y0, ⟨hi0, hl0⟩, hden0⟩ := opens_u32s _ _ _ h0.choose_spec (fun n hn => of_decide_eq_true (List.all_eq_true.1 hsz n (DataW.weights_mem_each (j := 0) rfl rfl n hn)))
  have hb0 : Try.prog.bytesOf 23 = 4 := by kernel_rfl
  rw [hb0] at hl0
  obtain ⟨y1, ⟨hi1, hl1⟩, hden1⟩ := opens_ints _ _ _ h1.choose_spec (fun n hn => of_decide_eq_true (List.all_eq_true.1 hsz n (DataW.weights_mem_each (j := 1) rfl rfl n hn)))
  have hb1 : Try.prog.bytesOf 3 = 8 := by kernel_rfl
  rw [hb1] at hl1
  refine (law_calls (W := W) (vals := #[.slice a0 len0 cap0, .slice a1 len1 cap1]) (hyp y0 y1 hi0 hl0 hi1 hl1) rfl fun M hw hD i s u hs hu => ?_).mono fun e W' ⟨he, bel⟩ => ?_
  · match i with
    | 0 => simp at hs hu; subst hs; subst hu; exact hden0 M hw hD
    | 1 => simp at hs hu; subst hs; subst hu; exact hden1 M hw hD
    | i + 2 => simp at hs
  · subst he
    exact ⟨_, rfl, _, _, _, [], _, [], hW', trodAll_mk1 (shut_bool Try.underlying4 _), trodAll_cons_mk (Below.trod laidOut (by kernel_rfl) (of_decide_eq_true (by kernel_rfl)) k0 bel lt0) (trodAll_cons_mk (Below.trod laidOut (by kernel_rfl) (of_decide_eq_true (by kernel_rfl)) k1 bel lt1) trodAll_mk0), rfl, bel.frame _, fun h => by cases h⟩
theorem back_row (hyp : backOK) : Rows.BitsBackSaid :=
  OpenClaim.holds_of_wide 4 Try.f4 rfl rfl rfl rfl rfl rfl rfl ⟨rfl, rfl, rfl, rfl, rfl⟩ rfl rfl rfl rfl rfl (by kernel_rfl) Try.func4 (by kernel_rfl)
    (of_decide_eq_true (by kernel_rfl)) (by unfold Func.isWrapper; first | (rw [if_pos (by decide +kernel)]; kernel_rfl) | (rw [if_neg (by decide +kernel)]; exact ⟨rfl, rfl⟩))
    (fun os started H enc _ => back_lifted hyp os started H enc)
/-- What the law's function is shown to do. -/
def joinOK : Prop := ∀ (v : Int) (n : Int) (cut : Int), (IntKind.u32.min ≤ v ∧ v ≤ IntKind.u32.max) → (IntKind.i64.min ≤ n ∧ n ≤ IntKind.i64.max) → (IntKind.i64.min ≤ cut ∧ cut ≤ IntKind.i64.max) → FOK Try.prog C1 5 (fun _ => false) [.int .u32 v, .int .i64 n, .int .i64 cut] [] Yes
set_option maxRecDepth 100000 in
theorem join_lifted (hyp : joinOK) (os : Os) (started : os.Started) (H : Type) (enc : TypeId × Value → H) :
    ReturnsInHanded {} Try.checked os 5 .any (Rows.bitsJoinSpec.pre6 enc Try.prog Try.f5 Rows.bitsJoinRow.domain false) (Rows.bitsJoinSpec.post enc Try.prog Try.f5 false true false false) := by
  refine returnsInHanded_of_change_sized (C := Try.checked) own started (by kernel_rfl) Try.func5
    (ChangeSpec.witness6 (enc := enc) (C := Try.checked) false ⟨#[], #[.int .u32 0, .int .i64 0, .int .i64 0], []⟩ 8 (by kernel_rfl) (by kernel_rfl) (by kernel_rfl) (by kernel_rfl)) ?_
  intro W base args ds gs before hval0 hW hcnd hsz0 _
  have hsz : (DataW.weightsEach Try.prog (Try.f5.params.toList ++ Rows.bitsJoinSpec.plain.varTypes Try.prog) (ds ++ gs)).all (· ≤ reachBytes) = true := hsz0
  have hval : ∀ (j : Nat) t v, Try.f5.params[j]? = some t → args[j]? = some v → Value.okWide Try.prog W .any base t v := hval0
  have hW' := hW
  obtain ⟨p, q, hA0, hV, rfl, hfz, hnd⟩ := hW
  have hA : DataW.TrodAll enc Try.prog W 0 (fun _ => true) true Try.f5.params.toList args.toList ds p := hA0
  rw [Try.params5] at hA hval hsz
  obtain ⟨v0, vs0, d0, ds0, p0, q0, hargs, rfl, rfl, h0, r0⟩ := trodAll_cons hA
  obtain ⟨v1, vs1, d1, ds1, p1, q1, rfl, rfl, rfl, h1, r1⟩ := trodAll_cons r0
  obtain ⟨v2, vs2, d2, ds2, p2, q2, rfl, rfl, rfl, h2, r2⟩ := trodAll_cons r1
  obtain ⟨rfl, rfl, rfl⟩ := trodAll_nil r2
  obtain rfl : args = #[v0, v1, v2] := by cases args; simp_all
  obtain ⟨rfl, rfl⟩ := trodVars_none hV
  obtain ⟨y0, rfl, rfl, rfl, w0⟩ := open_int Try.underlying23 (hval 0 23 v0 rfl rfl) h0
  obtain ⟨y1, rfl, rfl, rfl, w1⟩ := open_int Try.underlying3 (hval 1 3 v1 rfl rfl) h1
  obtain ⟨y2, rfl, rfl, rfl, w2⟩ := open_int Try.underlying3 (hval 2 3 v2 rfl rfl) h2
  refine (law_calls (W := W) (vals := #[.int .u32 y0, .int .i64 y1, .int .i64 y2]) (hyp y0 y1 y2 (by simpa [Lit.wf] using w0) (by simpa [Lit.wf] using w1) (by simpa [Lit.wf] using w2)) rfl fun M hw hD i s u hs hu => ?_).mono fun e W' ⟨he, bel⟩ => ?_
  · match i with
    | 0 => simp at hs hu; subst hs; subst hu; exact Den.int _ _ .nil
    | 1 => simp at hs hu; subst hs; subst hu; exact Den.int _ _ .nil
    | 2 => simp at hs hu; subst hs; subst hu; exact Den.int _ _ .nil
    | i + 3 => simp at hs
  · subst he
    exact ⟨_, rfl, _, _, _, [], _, [], hW', trodAll_mk1 (shut_bool Try.underlying4 _), trodAll_cons_mk (shut_int Try.underlying23 w0) (trodAll_cons_mk (shut_int Try.underlying3 w1) (trodAll_cons_mk (shut_int Try.underlying3 w2) trodAll_mk0)), rfl, bel.frame _, fun h => by cases h⟩
theorem join_row (hyp : joinOK) : Rows.BitsJoinSaid :=
  OpenClaim.holds_of_wide 5 Try.f5 rfl rfl rfl rfl rfl rfl rfl ⟨rfl, rfl, rfl, rfl, rfl⟩ rfl rfl rfl rfl rfl (by kernel_rfl) Try.func5 (by kernel_rfl)
    (of_decide_eq_true (by kernel_rfl)) (by unfold Func.isWrapper; first | (rw [if_pos (by decide +kernel)]; kernel_rfl) | (rw [if_neg (by decide +kernel)]; exact ⟨rfl, rfl⟩))
    (fun os started H enc _ => join_lifted hyp os started H enc)
/-- What the law's function is shown to do. -/
def readsOK : Prop := ∀ (b : List UInt8) (calls : List Cl) (peek : Int), (∀ x ∈ b, True) → b.length * 1 ≤ reachBytes → (∀ x ∈ calls, ClOK x) → calls.length * 48 ≤ reachBytes → (IntKind.i64.min ≤ peek ∧ peek ≤ IntKind.i64.max) → FOK Try.prog C1 6 (fun _ => false) [.ro (.bytes b), .ro (.recs 0 calls), .int .i64 peek] [] Yes
set_option maxRecDepth 100000 in
theorem reads_lifted (hyp : readsOK) (os : Os) (started : os.Started) (H : Type) (enc : TypeId × Value → H) :
    ReturnsInHanded {} Try.checked os 6 .any (Rows.bitsReadsSpec.pre6 enc Try.prog Try.f6 Rows.bitsReadsRow.domain false) (Rows.bitsReadsSpec.post enc Try.prog Try.f6 false true false false) := by
  refine returnsInHanded_of_change_sized (C := Try.checked) own started (by kernel_rfl) Try.func6
    (ChangeSpec.witness6 (enc := enc) (C := Try.checked) false ⟨#[], #[.slice none 0 0, .slice none 0 0, .int .i64 0], []⟩ 8 (by kernel_rfl) (by kernel_rfl) (by kernel_rfl) (by kernel_rfl)) ?_
  intro W base args ds gs before hval0 hW hcnd hsz0 _
  have hsz : (DataW.weightsEach Try.prog (Try.f6.params.toList ++ Rows.bitsReadsSpec.plain.varTypes Try.prog) (ds ++ gs)).all (· ≤ reachBytes) = true := hsz0
  have hval : ∀ (j : Nat) t v, Try.f6.params[j]? = some t → args[j]? = some v → Value.okWide Try.prog W .any base t v := hval0
  have hW' := hW
  obtain ⟨p, q, hA0, hV, rfl, hfz, hnd⟩ := hW
  have hA : DataW.TrodAll enc Try.prog W 0 (fun _ => true) true Try.f6.params.toList args.toList ds p := hA0
  rw [Try.params6] at hA hval hsz
  obtain ⟨v0, vs0, d0, ds0, p0, q0, hargs, rfl, rfl, h0, r0⟩ := trodAll_cons hA
  obtain ⟨v1, vs1, d1, ds1, p1, q1, rfl, rfl, rfl, h1, r1⟩ := trodAll_cons r0
  obtain ⟨v2, vs2, d2, ds2, p2, q2, rfl, rfl, rfl, h2, r2⟩ := trodAll_cons r1
  obtain ⟨rfl, rfl, rfl⟩ := trodAll_nil r2
  obtain rfl : args = #[v0, v1, v2] := by cases args; simp_all
  obtain ⟨rfl, rfl⟩ := trodVars_none hV
  obtain ⟨a0, len0, cap0, rfl⟩ := okWide_slice Try.underlying29 (hval 0 29 v0 rfl rfl)
  obtain ⟨a1, len1, cap1, rfl⟩ := okWide_slice Try.underlying22 (hval 1 22 v1 rfl rfl)
  have k0 := h0
  have lt0 : ∀ x ∈ p0, x.block < W.heap.size := by obtain ⟨m, hm⟩ := k0; exact DataW.trod_lt m _ _ _ hm
  have k1 := h1
  have lt1 : ∀ x ∈ p1, x.block < W.heap.size := by obtain ⟨m, hm⟩ := k1; exact DataW.trod_lt m _ _ _ hm
  obtain ⟨y0, ⟨hi0, hl0⟩, hden0⟩ := opens_bytes2 _ _ _ h0.choose_spec (fun n hn => of_decide_eq_true (List.all_eq_true.1 hsz n (DataW.weights_mem_each (j := 0) rfl rfl n hn)))
  have hb0 : Try.prog.bytesOf 5 = 1 := by kernel_rfl
  rw [hb0] at hl0
  obtain ⟨y1, ⟨hi1, hl1⟩, hden1⟩ := opens_calls _ _ _ h1.choose_spec (fun n hn => of_decide_eq_true (List.all_eq_true.1 hsz n (DataW.weights_mem_each (j := 1) rfl rfl n hn)))
  have hb1 : Try.prog.bytesOf 33 = 48 := by kernel_rfl
  rw [hb1] at hl1
  obtain ⟨y2, rfl, rfl, rfl, w2⟩ := open_int Try.underlying3 (hval 2 3 v2 rfl rfl) h2
  refine (law_calls (W := W) (vals := #[.slice a0 len0 cap0, .slice a1 len1 cap1, .int .i64 y2]) (hyp y0 y1 y2 hi0 hl0 hi1 hl1 (by simpa [Lit.wf] using w2)) rfl fun M hw hD i s u hs hu => ?_).mono fun e W' ⟨he, bel⟩ => ?_
  · match i with
    | 0 => simp at hs hu; subst hs; subst hu; exact hden0 M hw hD
    | 1 => simp at hs hu; subst hs; subst hu; exact hden1 M hw hD
    | 2 => simp at hs hu; subst hs; subst hu; exact Den.int _ _ .nil
    | i + 3 => simp at hs
  · subst he
    exact ⟨_, rfl, _, _, _, [], _, [], hW', trodAll_mk1 (shut_bool Try.underlying4 _), trodAll_cons_mk (Below.trod laidOut (by kernel_rfl) (of_decide_eq_true (by kernel_rfl)) k0 bel lt0) (trodAll_cons_mk (Below.trod laidOut (by kernel_rfl) (of_decide_eq_true (by kernel_rfl)) k1 bel lt1) (trodAll_cons_mk (shut_int Try.underlying3 w2) trodAll_mk0)), rfl, bel.frame _, fun h => by cases h⟩
theorem reads_row (hyp : readsOK) : Rows.BitsReadsSaid :=
  OpenClaim.holds_of_wide 6 Try.f6 rfl rfl rfl rfl rfl rfl rfl ⟨rfl, rfl, rfl, rfl, rfl⟩ rfl rfl rfl rfl rfl (by kernel_rfl) Try.func6 (by kernel_rfl)
    (of_decide_eq_true (by kernel_rfl)) (by unfold Func.isWrapper; first | (rw [if_pos (by decide +kernel)]; kernel_rfl) | (rw [if_neg (by decide +kernel)]; exact ⟨rfl, rfl⟩))
    (fun os started H enc _ => reads_lifted hyp os started H enc)
end Go.L1

-- L1Z
namespace Go.L1
open Go Go.Sx Go.Proofs Go.Proofs.Ytlmndkddbmjnfaa
theorem back_holds : Rows.BitsBackSaid := back_row fun values sizes h1 _ h3 _ =>
  back_ok values sizes (fun x hx => by have := h1 x hx; rw [min_u32, max_u32] at this; exact this) (fun x hx => by have := h3 x hx; rw [min_i64, max_i64] at this; exact this)
theorem join_holds : Rows.BitsJoinSaid := join_row fun v n cut h1 _ _ =>
  join_ok v n cut (by rw [min_u32, max_u32] at h1; exact h1)
end Go.L1
