/- Own work of the session: part LG of a proof that the program's functions do what the statement says (a symbolic executor, contracts of the functions, plain laws). -/
import Derived.Test.YtljlflcgpbenpaaLE
set_option linter.all false
-- S27
namespace Go.L1
open Go Go.Sx Go.Proofs Go.L5
set_option maxRecDepth 20000
set_option linter.unusedVariables false
set_option linter.unusedSimpArgs false
theorem lvl_zero : ∀ {is : List Nat} {p : Nat}, (∀ i ∈ is, i = 0) → lvl is p = 0
  | [], _, _ => rfl
  | i :: is, p, h => by
    rw [lvl_cons, lvl_zero fun j hj => h j (by simp [hj]), h i (by simp)]; simp
theorem flat_lvl {n : Nat} : ∀ {is : List Nat}, (∀ i ∈ is, i ≤ n) → is.Pairwise (fun a b => a < n → b = 0) → ∃ q, ∀ p, p < n → lvl is p = q ∨ lvl is p = q + 1
  | [], _, _ => ⟨0, fun p _ => .inl rfl⟩
  | i :: is, h1, h2 => by
    obtain ⟨h3, h4⟩ := List.pairwise_cons.1 h2
    rcases Nat.lt_or_ge i n with hi | hi
    · refine ⟨0, fun p hp => ?_⟩
      rw [lvl_cons, lvl_zero fun j hj => h3 j hj hi]
      split
      · exact .inr rfl
      · exact .inl rfl
    · obtain ⟨q, hq⟩ := flat_lvl (fun j hj => h1 j (by simp [hj])) h4
      refine ⟨q + 1, fun p hp => ?_⟩
      have := hq p hp
      rw [lvl_cons, if_pos (by omega)]
      omega
theorem sumTo_le {f : Nat → Nat} {B : Nat} : ∀ {n : Nat}, (∀ p, p < n → f p ≤ B) → sumTo f n ≤ n * B
  | 0, _ => by simp [sumTo]
  | n + 1, h => by
    have := sumTo_le (n := n) fun p hp => h p (by omega)
    have := h n (by omega)
    rw [sumTo, Nat.succ_mul]; omega
theorem le_sumTo {f : Nat → Nat} {B : Nat} : ∀ {n : Nat}, (∀ p, p < n → B ≤ f p) → n * B ≤ sumTo f n
  | 0, _ => by simp [sumTo]
  | n + 1, h => by
    have := le_sumTo (n := n) fun p hp => h p (by omega)
    have := h n (by omega)
    rw [sumTo, Nat.succ_mul]; omega
structure FlatL (l : List Int) (n : Nat) : Prop where
  len : l.length = n
  two : ∃ q : Nat, ∀ v ∈ l, v = (q : Int) ∨ v = (q : Int) + 1
  rng : ∀ v ∈ l, 1 ≤ v ∧ v ≤ 15
  lo : ∀ m : Nat, m ≤ 15 → (∃ v ∈ l, v = (m : Int)) → (∀ v ∈ l, (m : Int) ≤ v) → 2 ^ m ≤ n
  hi : ∀ m : Nat, (∀ v ∈ l, v ≤ (m : Int)) → n ≤ 2 ^ m
theorem leaves_rep {c : Int} (hc : 0 < c) : ∀ (n : Nat) (k : Int), (leaves k (List.replicate n c)).length = n
  | 0, _ => rfl
  | n + 1, k => by rw [List.replicate_succ, leaves, if_pos hc, List.length_cons, leaves_rep hc n (k + 1)]
theorem flat_of {n : Nat} {c limit : Int} {l : List Int} {e : Int} (hn : 2 ≤ n) (hn2 : n ≤ 300) (hc : 0 < c) (hc2 : c ≤ 1073741824) (h9 : 9 ≤ limit) (h15 : limit ≤ 15) (h : BuildIs (List.replicate n c) limit l e) : e = 0 ∧ FlatL l n := by
  have hw : ¬ WrongB (List.replicate n c) limit := by
    rintro (h3 | ⟨x, h3, h4⟩ | h3 | h3)
    · rw [List.length_replicate] at h3; omega
    · rw [(List.mem_replicate.1 h3).2] at h4
      unfold outP at h4
      rw [Bool.or_eq_true, decide_eq_true_eq, decide_eq_true_eq] at h4
      omega
    · omega
    · omega
  obtain ⟨cs, c1, _, c3⟩ := h.ok hw
  have hall := c1.all
  have hlen : cs.length = n := by rw [hall.perm.length_eq, leaves_rep hc]
  have h512 : 2 ^ 9 ≤ 2 ^ limit.toNat := Nat.pow_le_pow_right (by decide) (by omega)
  have hf : cs.length ≤ 2 ^ limit.toNat := by omega
  obtain ⟨he, hl⟩ := c3 hf
  rw [lensAll_two (by omega), List.length_replicate] at hl
  obtain ⟨is, hv, hL⟩ := lens_ok hall (d := limit.toNat) (by omega) (by omega) hf
  rw [List.length_replicate, ← hl] at hL
  have hflat : is.Pairwise fun a b => a < cs.length → b = 0 := hv.flat c fun x hx => by
    obtain ⟨t, c', h1, h2, rfl⟩ := (hall.mem x).1 hx
    have := (List.mem_replicate.1 (List.mem_of_getElem? h1)).2
    exact this
  obtain ⟨q, hq⟩ := flat_lvl (n := cs.length) hv.le hflat
  have hll : l.length = n := by rw [hL.len, List.length_replicate]
  have hof : ∀ v ∈ l, ∃ p, p < cs.length ∧ v = (lvl is p : Int) := fun v hv2 => by
    obtain ⟨t, ht⟩ := List.mem_iff_getElem?.1 hv2
    have htl := (List.getElem?_eq_some_iff.1 ht).1
    have hct : (List.replicate n c)[t]? = some c := by rw [List.getElem?_replicate, if_pos (by omega)]
    obtain ⟨p, hp⟩ := hL.place t c hct hc
    obtain ⟨t', e1, _, e3⟩ := hL.used p _ hp
    have e1 : (t : Int) = t' := e1
    have e1 : t = t' := by omega
    subst e1
    rw [ht] at e3
    exact ⟨p, (List.getElem?_eq_some_iff.1 hp).1, Option.some.inj e3⟩
  have hto : ∀ p, p < cs.length → (lvl is p : Int) ∈ l := fun p hp => by
    obtain ⟨t, _, _, e3⟩ := hL.used p _ (List.getElem?_eq_getElem hp)
    exact List.mem_of_getElem? e3
  refine ⟨he, hll, ⟨q, fun v hv2 => ?_⟩, fun v hv2 => ?_, fun m hm hex hmin => ?_, fun m hmax => ?_⟩
  · obtain ⟨p, hp, rfl⟩ := hof v hv2
    have := hq p hp
    omega
  · obtain ⟨p, hp, rfl⟩ := hof v hv2
    have := hL.one p hp
    omega
  · have hmd : m ≤ limit.toNat := by
      obtain ⟨v, hv2, hvm⟩ := hex
      obtain ⟨p, hp, rfl⟩ := hof v hv2
      have := hL.one p hp
      omega
    have h1 := sumTo_le (f := fun p => 2 ^ (limit.toNat - lvl is p)) (B := 2 ^ (limit.toNat - m)) (n := cs.length) fun p hp => by
      have := hmin _ (hto p hp)
      exact Nat.pow_le_pow_right (by decide) (by omega)
    rw [hL.sum, hlen] at h1
    have h2 : 2 ^ limit.toNat = 2 ^ m * 2 ^ (limit.toNat - m) := by rw [← Nat.pow_add]; congr 1; omega
    rw [h2] at h1
    exact Nat.le_of_mul_le_mul_right h1 (Nat.two_pow_pos _)
  · rcases Nat.lt_or_ge m limit.toNat with hm | hm
    · have h1 := le_sumTo (f := fun p => 2 ^ (limit.toNat - lvl is p)) (B := 2 ^ (limit.toNat - m)) (n := cs.length) fun p hp => by
        have := hmax _ (hto p hp)
        exact Nat.pow_le_pow_right (by decide) (by omega)
      rw [hL.sum, hlen] at h1
      have h2 : 2 ^ limit.toNat = 2 ^ m * 2 ^ (limit.toNat - m) := by rw [← Nat.pow_add]; congr 1; omega
      rw [h2] at h1
      exact Nat.le_of_mul_le_mul_right h1 (Nat.two_pow_pos _)
    · have := Nat.pow_le_pow_right (n := 2) (by decide) hm
      omega
end Go.L1

-- S28
namespace Go.L1
open Go Go.Sx Go.Proofs Go.L5
set_option maxRecDepth 20000
set_option linter.unusedVariables false
set_option linter.unusedSimpArgs false
structure FlG (many count limit : Int) : Prop where
  m1 : 2 ≤ many
  m2 : many ≤ 300
  c1 : 1 ≤ count
  c2 : count ≤ 1073741824
  l1 : 9 ≤ limit
  l2 : limit ≤ 15
theorem flG {A : Leaf} {many count limit : Int} (hA : A = .std) (a1 : A.cmp .lss many 2 = false) (a2 : A.cmp .gtr many 300 = false) (a3 : A.cmp .lss count 1 = false) (a4 : A.cmp .gtr count 1073741824 = false) (a5 : A.cmp .lss limit 9 = false) (a6 : A.cmp .gtr limit 15 = false) : FlG many count limit := by
  subst hA
  have a1 : ¬ many < 2 := of_decide_eq_false a1
  have a2 : ¬ 300 < many := of_decide_eq_false a2
  have a3 : ¬ count < 1 := of_decide_eq_false a3
  have a4 : ¬ 1073741824 < count := of_decide_eq_false a4
  have a5 : ¬ limit < 9 := of_decide_eq_false a5
  have a6 : ¬ 15 < limit := of_decide_eq_false a6
  exact ⟨by omega, by omega, by omega, by omega, by omega, by omega⟩
def FlW (many count : Int) (w : List Int × Int) : Prop := ∃ k : Nat, w.2 = k ∧ (k : Int) ≤ many ∧ w.1 = List.replicate k count
structure FlAt (A : Leaf) (many count : Int) (row : List Int) (i : Int) : Prop where
  sm : A.small (A.len (A.app row [count])) 8
  nx : FlW many count (A.app row [count], A.ar .add .i64 i 1)
  mu : (1000 - A.ar .add .i64 i 1).toNat < (1000 - i).toNat
theorem flAt {A : Leaf} {many count limit : Int} {row : List Int} {i : Int} (hA : A = .std) (hp : FlG many count limit) (hI : FlW many count (row, i)) (b : A.cmp .lss i many = true) : FlAt A many count row i := by
  obtain ⟨k, h1, h2, h3⟩ := hI
  simp only at h1 h3
  have hm := hp.m2
  subst hA h1 h3
  have b : (k : Int) < many := of_decide_eq_true b
  have e : Leaf.std.ar .add .i64 (k : Int) 1 = ((k + 1 : Nat) : Int) := by rw [add_i64 (by omega) (by omega)]; omega
  refine ⟨small_of (l := List.replicate k count ++ [_]) (by rw [List.length_append, List.length_singleton, List.length_replicate]; omega), ?_, by rw [e]; omega⟩
  rw [e]
  refine ⟨k + 1, rfl, by omega, ?_⟩
  show List.replicate k count ++ [count] = _
  rw [List.replicate_succ']
structure FlB (A : Leaf) (many : Int) (row l : List Int) (e : Int) : Prop where
  e0 : A.cmp .neq e 0 = true → False
  ll : A.cmp .neq (A.len l) many = true → False
  q0 : A.inb 0 (A.len l)
  n : (l.length : Int) = many
  f : FlatL l many.toNat
structure FlRow (many count : Int) (row : List Int) : Prop where
  e : row = List.replicate many.toNat count
  l : row.length ≤ 400
theorem flRow {A : Leaf} {many count limit : Int} {row : List Int} {i : Int} (hA : A = .std) (hp : FlG many count limit) (hI : FlW many count (row, i)) (b : A.cmp .lss i many = false) : FlRow many count row := by
  obtain ⟨k, h1, h2, h3⟩ := hI
  simp only at h1 h3
  have hm := hp.m2
  subst hA h1
  have b : ¬ (k : Int) < many := of_decide_eq_false b
  have : k = many.toNat := by omega
  subst this
  exact ⟨h3, by rw [h3, List.length_replicate]; omega⟩
theorem flB {A : Leaf} {many count limit : Int} {row l : List Int} {e : Int} (hA : A = .std) (hp : FlG many count limit) (hr : FlRow many count row) (h : BuildIs row limit l e) : FlB A many row l e := by
  obtain ⟨m1, m2, c1, c2, l1, l2⟩ := hp
  rw [hr.e] at h
  obtain ⟨he, hf⟩ := flat_of (by omega) (by omega) (by omega) c2 l1 l2 h
  have hl := hf.len
  refine ⟨fun hh => neqT hA hh he, fun hh => neqT hA hh (by subst hA; show (l.length : Int) = many; omega), ?_, by omega, hf⟩
  subst hA
  exact ⟨by decide, by show (0 : Int) < (l.length : Int); omega⟩
structure MmI (l : List Int) (a b : Int) (k : Nat) : Prop where
  le : k ≤ l.length
  ha : a ∈ l
  hb : b ∈ l
  bnd : ∀ (j : Nat) (v : Int), j < k → l[j]? = some v → a ≤ v ∧ v ≤ b
def MmW (l : List Int) (w : Int × Int × Int) : Prop := ∃ k : Nat, w.2.2 = k ∧ MmI l w.1 w.2.1 k
structure MmAt (A : Leaf) (l : List Int) (a b i : Int) : Prop where
  q : A.inb i (A.len l)
  nx : MmW l (A.imin a (A.get 0 l i), A.imax b (A.get 0 l i), A.ar .add .i64 i 1)
  mu : (1000 - A.ar .add .i64 i 1).toNat < (1000 - i).toNat
theorem mmAt {A : Leaf} {l : List Int} {many a b i : Int} (hA : A = .std) (hn : (l.length : Int) = many) (hm : many ≤ 300) (hI : MmW l (a, b, i)) (c : A.cmp .lss i many = true) : MmAt A l a b i := by
  obtain ⟨k, h1, h2, h3, h4, h5⟩ := hI
  simp only at h1 h2 h3 h4 h5
  subst hA h1
  have c : (k : Int) < many := of_decide_eq_true c
  have hk : k < l.length := by omega
  have eg : Leaf.std.get 0 l (k : Int) = l[k] := by show l.getD _ _ = _; rw [Int.toNat_natCast]; simp [hk]
  have e : Leaf.std.ar .add .i64 (k : Int) 1 = ((k + 1 : Nat) : Int) := by rw [add_i64 (by omega) (by omega)]; omega
  have hmem := List.getElem_mem hk
  rw [show MmAt Leaf.std l a b (k : Int) = MmAt Leaf.std l a b (k : Int) from rfl]
  refine ⟨⟨by omega, by show (k : Int) < (l.length : Int); omega⟩, ?_, by rw [e]; omega⟩
  rw [eg, e]
  have em : Leaf.std.imin a l[k] = if l[k] < a then l[k] else a := rfl
  have ex : Leaf.std.imax b l[k] = if b < l[k] then l[k] else b := rfl
  rw [em, ex]
  refine ⟨k + 1, rfl, by omega, ?_, ?_, fun j v hj hv => ?_⟩
  · show (if l[k] < a then l[k] else a) ∈ l
    split
    · exact hmem
    · exact h3
  · show (if b < l[k] then l[k] else b) ∈ l
    split
    · exact hmem
    · exact h4
  · show (if l[k] < a then l[k] else a) ≤ v ∧ v ≤ (if b < l[k] then l[k] else b)
    rcases Nat.lt_or_ge j k with h6 | h6
    · have := h5 j v h6 hv
      split <;> split <;> omega
    · have : j = k := by omega
      subst this
      rw [List.getElem?_eq_getElem hk] at hv
      cases hv
      split <;> split <;> omega
structure MmFin (A : Leaf) (many a b : Int) : Prop where
  d : A.cmp .leq (A.ar .sub .i64 b a) 1 = false → False
  na : A.nn (A.conv .u64 a)
  nb : A.nn (A.conv .u64 b)
  la : A.cmp .leq (A.ar .shl .i64 1 (A.conv .u64 a)) many = false → False
  lb : A.cmp .leq many (A.ar .shl .i64 1 (A.conv .u64 b)) = true
theorem mmFin {A : Leaf} {l : List Int} {many a b i : Int} (hA : A = .std) (hn : (l.length : Int) = many) (hf : FlatL l many.toNat) (hI : MmW l (a, b, i)) (c : A.cmp .lss i many = false) : MmFin A many a b := by
  obtain ⟨k, h1, h2, h3, h4, h5⟩ := hI
  simp only at h1 h2 h3 h4 h5
  subst hA h1
  have c : ¬ (k : Int) < many := of_decide_eq_false c
  have hbnd : ∀ v ∈ l, a ≤ v ∧ v ≤ b := fun v hv => by
    obtain ⟨j, hj⟩ := List.mem_iff_getElem?.1 hv
    have := (List.getElem?_eq_some_iff.1 hj).1
    exact h5 j v (by omega) hj
  have ra := hf.rng a h3
  have rb := hf.rng b h4
  obtain ⟨q, hq⟩ := hf.two
  have qa := hq a h3
  have qb := hq b h4
  obtain ⟨x, rfl⟩ : ∃ x : Nat, a = x := ⟨a.toNat, by omega⟩
  obtain ⟨y, rfl⟩ : ∃ y : Nat, b = y := ⟨b.toNat, by omega⟩
  have lo := hf.lo x (by omega) ⟨_, h3, rfl⟩ fun v hv => (hbnd v hv).1
  have hi := hf.hi y fun v hv => (hbnd v hv).2
  have cx : Leaf.std.conv .u64 (x : Int) = (x : Int) := l_conv_u64 (by omega) (by omega)
  have cy : Leaf.std.conv .u64 (y : Int) = (y : Int) := l_conv_u64 (by omega) (by omega)
  have sx : Leaf.std.ar .shl .i64 1 (x : Int) = ((2 ^ x : Nat) : Int) := by
    have := shl_lim (limit := (x : Int)) (by omega) (by omega)
    rwa [Int.toNat_natCast] at this
  have sy : Leaf.std.ar .shl .i64 1 (y : Int) = ((2 ^ y : Nat) : Int) := by
    have := shl_lim (limit := (y : Int)) (by omega) (by omega)
    rwa [Int.toNat_natCast] at this
  refine ⟨fun h => ?_, by rw [cx]; show (0 : Int) ≤ x; omega, by rw [cy]; show (0 : Int) ≤ y; omega, fun h => ?_, ?_⟩
  · rw [sub_i64 (by omega) (by omega)] at h
    have h : ¬ (y : Int) - x ≤ 1 := of_decide_eq_false h
    omega
  · rw [cx, sx] at h
    have h : ¬ ((2 ^ x : Nat) : Int) ≤ many := of_decide_eq_false h
    omega
  · rw [cy, sy]
    show decide (many ≤ ((2 ^ y : Nat) : Int)) = true
    rw [decide_eq_true_eq]
    omega
theorem mmIni {A : Leaf} {l : List Int} {many : Int} (hA : A = .std) (hn : (l.length : Int) = many) (h2 : 2 ≤ many) : MmW l (A.get 0 l 0, A.get 0 l 0, 0) := by
  have h0 : 0 < l.length := by omega
  have eg : A.get 0 l 0 = l[0] := by subst hA; show l.getD 0 _ = _; simp [h0]
  rw [eg]
  exact ⟨0, rfl, Nat.zero_le _, List.getElem_mem h0, List.getElem_mem h0, fun j v hj _ => by omega⟩
theorem flat_ok (many count limit : Int) : FOK Try.prog C1 6 (fun _ => false) [.int .i64 many, .int .i64 count, .int .i64 limit] [] Yes := by
  refine fok_of (B := ⟨lookT tis, fun _ => false, []⟩) (tab1 _) (zero1 _) cod1 mix1 Try.func6 (by kernel_rfl) rfl rfl rfl fun X F => ?_
  obtain ⟨A, hA⟩ : ∃ A, A = Leaf.std := ⟨_, rfl⟩
  refine F.hold hA 2000 ?_
  cbv
  repeat (first
    | refine OK.drawn (by decide +kernel) ?_
    | refine OK.tree ⟨lookT tis, fun _ => true, []⟩ (by decide +kernel) ?_
    | refine OK.need (by first | assumption | (rw [hA]; first | (show (_ : Int) ≠ _; decide) | (show (0 : Int) ≤ _; decide) | (show (0 : Int) ≤ _ ∧ _ < (256 : Int); decide))) ?_
    | (refine F.hold hA 2000 ?_; cbv))
  refine F.call [] (alive_ok) rfl rfl rfl fun rs H' hq => ?_
  obtain ⟨b, rfl, rfl, hb⟩ := hq
  refine ⟨rfl, ?_⟩
  repeat (first
    | refine OK.drawn (by decide +kernel) ?_
    | refine OK.tree ⟨lookT tis, fun _ => true, []⟩ (by decide +kernel) ?_
    | refine OK.need (by first | assumption | (rw [hA]; first | (show (_ : Int) ≠ _; decide) | (show (0 : Int) ≤ _; decide) | (show (0 : Int) ≤ _ ∧ _ < (256 : Int); decide))) ?_
    | (refine F.hold hA 2000 ?_; cbv))
  refine OK.branch (fun h => (notB hA hb h).elim) (fun _ => ?_)
  repeat (first
    | refine OK.drawn (by decide +kernel) ?_
    | refine OK.tree ⟨lookT tis, fun _ => true, []⟩ (by decide +kernel) ?_
    | refine OK.need (by first | assumption | (rw [hA]; first | (show (_ : Int) ≠ _; decide) | (show (0 : Int) ≤ _; decide) | (show (0 : Int) ≤ _ ∧ _ < (256 : Int); decide))) ?_
    | (refine F.hold hA 2000 ?_; cbv))
  refine OK.branch (fun _ => ?_) (fun a1 => ?_)
  · repeat (first
      | refine OK.drawn (by decide +kernel) ?_
      | refine OK.tree ⟨lookT tis, fun _ => true, []⟩ (by decide +kernel) ?_
      | refine OK.need (by first | assumption | (rw [hA]; first | (show (_ : Int) ≠ _; decide) | (show (0 : Int) ≤ _; decide) | (show (0 : Int) ≤ _ ∧ _ < (256 : Int); decide))) ?_
      | (refine F.hold hA 2000 ?_; cbv))
    exact F.ret0 ⟨_, rfl, rfl⟩
  repeat (first
    | refine OK.drawn (by decide +kernel) ?_
    | refine OK.tree ⟨lookT tis, fun _ => true, []⟩ (by decide +kernel) ?_
    | refine OK.need (by first | assumption | (rw [hA]; first | (show (_ : Int) ≠ _; decide) | (show (0 : Int) ≤ _; decide) | (show (0 : Int) ≤ _ ∧ _ < (256 : Int); decide))) ?_
    | (refine F.hold hA 2000 ?_; cbv))
  refine OK.branch (fun _ => ?_) (fun a2 => ?_)
  · repeat (first
      | refine OK.drawn (by decide +kernel) ?_
      | refine OK.tree ⟨lookT tis, fun _ => true, []⟩ (by decide +kernel) ?_
      | refine OK.need (by first | assumption | (rw [hA]; first | (show (_ : Int) ≠ _; decide) | (show (0 : Int) ≤ _; decide) | (show (0 : Int) ≤ _ ∧ _ < (256 : Int); decide))) ?_
      | (refine F.hold hA 2000 ?_; cbv))
    exact F.ret0 ⟨_, rfl, rfl⟩
  repeat (first
    | refine OK.drawn (by decide +kernel) ?_
    | refine OK.tree ⟨lookT tis, fun _ => true, []⟩ (by decide +kernel) ?_
    | refine OK.need (by first | assumption | (rw [hA]; first | (show (_ : Int) ≠ _; decide) | (show (0 : Int) ≤ _; decide) | (show (0 : Int) ≤ _ ∧ _ < (256 : Int); decide))) ?_
    | (refine F.hold hA 2000 ?_; cbv))
  refine OK.branch (fun _ => ?_) (fun a3 => ?_)
  · repeat (first
      | refine OK.drawn (by decide +kernel) ?_
      | refine OK.tree ⟨lookT tis, fun _ => true, []⟩ (by decide +kernel) ?_
      | refine OK.need (by first | assumption | (rw [hA]; first | (show (_ : Int) ≠ _; decide) | (show (0 : Int) ≤ _; decide) | (show (0 : Int) ≤ _ ∧ _ < (256 : Int); decide))) ?_
      | (refine F.hold hA 2000 ?_; cbv))
    exact F.ret0 ⟨_, rfl, rfl⟩
  repeat (first
    | refine OK.drawn (by decide +kernel) ?_
    | refine OK.tree ⟨lookT tis, fun _ => true, []⟩ (by decide +kernel) ?_
    | refine OK.need (by first | assumption | (rw [hA]; first | (show (_ : Int) ≠ _; decide) | (show (0 : Int) ≤ _; decide) | (show (0 : Int) ≤ _ ∧ _ < (256 : Int); decide))) ?_
    | (refine F.hold hA 2000 ?_; cbv))
  refine OK.branch (fun _ => ?_) (fun a4 => ?_)
  · repeat (first
      | refine OK.drawn (by decide +kernel) ?_
      | refine OK.tree ⟨lookT tis, fun _ => true, []⟩ (by decide +kernel) ?_
      | refine OK.need (by first | assumption | (rw [hA]; first | (show (_ : Int) ≠ _; decide) | (show (0 : Int) ≤ _; decide) | (show (0 : Int) ≤ _ ∧ _ < (256 : Int); decide))) ?_
      | (refine F.hold hA 2000 ?_; cbv))
    exact F.ret0 ⟨_, rfl, rfl⟩
  repeat (first
    | refine OK.drawn (by decide +kernel) ?_
    | refine OK.tree ⟨lookT tis, fun _ => true, []⟩ (by decide +kernel) ?_
    | refine OK.need (by first | assumption | (rw [hA]; first | (show (_ : Int) ≠ _; decide) | (show (0 : Int) ≤ _; decide) | (show (0 : Int) ≤ _ ∧ _ < (256 : Int); decide))) ?_
    | (refine F.hold hA 2000 ?_; cbv))
  refine OK.branch (fun _ => ?_) (fun a5 => ?_)
  · repeat (first
      | refine OK.drawn (by decide +kernel) ?_
      | refine OK.tree ⟨lookT tis, fun _ => true, []⟩ (by decide +kernel) ?_
      | refine OK.need (by first | assumption | (rw [hA]; first | (show (_ : Int) ≠ _; decide) | (show (0 : Int) ≤ _; decide) | (show (0 : Int) ≤ _ ∧ _ < (256 : Int); decide))) ?_
      | (refine F.hold hA 2000 ?_; cbv))
    exact F.ret0 ⟨_, rfl, rfl⟩
  repeat (first
    | refine OK.drawn (by decide +kernel) ?_
    | refine OK.tree ⟨lookT tis, fun _ => true, []⟩ (by decide +kernel) ?_
    | refine OK.need (by first | assumption | (rw [hA]; first | (show (_ : Int) ≠ _; decide) | (show (0 : Int) ≤ _; decide) | (show (0 : Int) ≤ _ ∧ _ < (256 : Int); decide))) ?_
    | (refine F.hold hA 2000 ?_; cbv))
  refine OK.branch (fun _ => ?_) (fun a6 => ?_)
  · repeat (first
      | refine OK.drawn (by decide +kernel) ?_
      | refine OK.tree ⟨lookT tis, fun _ => true, []⟩ (by decide +kernel) ?_
      | refine OK.need (by first | assumption | (rw [hA]; first | (show (_ : Int) ≠ _; decide) | (show (0 : Int) ≤ _; decide) | (show (0 : Int) ≤ _ ∧ _ < (256 : Int); decide))) ?_
      | (refine F.hold hA 2000 ?_; cbv))
    exact F.ret0 ⟨_, rfl, rfl⟩
  have hp := flG hA a1 a2 a3 a4 a5 a6
  repeat (first
    | refine OK.drawn (by decide +kernel) ?_
    | refine OK.tree ⟨lookT tis, fun _ => true, []⟩ (by decide +kernel) ?_
    | refine OK.need (by first | assumption | (rw [hA]; first | (show (_ : Int) ≠ _; decide) | (show (0 : Int) ≤ _; decide) | (show (0 : Int) ≤ _ ∧ _ < (256 : Int); decide))) ?_
    | (refine F.hold hA 2000 ?_; cbv))
  refine F.loop (V := List Int × Int) [0, 1, 2, 7] (FlW many count) (fun w => (1000 - w.2).toNat) (fun w => [(8, .int .i64 w.2)]) (fun w => [(0, .row 3 (.ints .i64 w.1))]) (_, _) (by cbv; repeat (first | exact WkH.nil _ | apply WkH.gone | refine WkH.eq rfl ?_)) (by cbv; repeat (first | apply WkL.any | exact WkL.nil _ | refine WkL.eq rfl ?_ | refine WkL.bool rfl ?_)) (by cbv; exact ⟨rfl⟩) ?_ ?_
  · exact ⟨0, rfl, Int.le_trans (by decide) hp.m1, rfl⟩
  rintro ⟨row, i⟩ hI Bk hBk
  repeat (first
    | refine OK.drawn (by decide +kernel) ?_
    | refine OK.tree ⟨lookT tis, fun _ => true, []⟩ (by decide +kernel) ?_
    | refine OK.need (by first | assumption | (rw [hA]; first | (show (_ : Int) ≠ _; decide) | (show (0 : Int) ≤ _; decide) | (show (0 : Int) ≤ _ ∧ _ < (256 : Int); decide))) ?_
    | (refine F.hold hA 2000 ?_; cbv))
  refine OK.branch (fun d0 => ?_) (fun d0 => ?_)
  · have hat := flAt hA hp hI d0
    have q1 := hat.sm
    repeat (first
      | refine OK.drawn (by decide +kernel) ?_
      | refine OK.tree ⟨lookT tis, fun _ => true, []⟩ (by decide +kernel) ?_
      | refine OK.need (by first | assumption | (rw [hA]; first | (show (_ : Int) ≠ _; decide) | (show (0 : Int) ≤ _; decide) | (show (0 : Int) ≤ _ ∧ _ < (256 : Int); decide))) ?_
      | (refine F.hold hA 2000 ?_; cbv))
    refine OK.back (hBk _ _ (_, _) (by cbv; repeat (first | exact WkH.nil _ | apply WkH.gone | refine WkH.eq rfl ?_)) (by cbv; repeat (first | apply WkL.any | exact WkL.nil _ | refine WkL.eq rfl ?_ | refine WkL.bool rfl ?_)) (by cbv; exact ⟨rfl⟩) ?_ ?_)
    · exact hat.nx
    · exact hat.mu
  · have hr := flRow hA hp hI d0
    repeat (first
      | refine OK.drawn (by decide +kernel) ?_
      | refine OK.tree ⟨lookT tis, fun _ => true, []⟩ (by decide +kernel) ?_
      | refine OK.need (by first | assumption | (rw [hA]; first | (show (_ : Int) ≠ _; decide) | (show (0 : Int) ≤ _; decide) | (show (0 : Int) ≤ _ ∧ _ < (256 : Int); decide))) ?_
      | (refine F.hold hA 2000 ?_; cbv))
    refine F.callFrz 0 rfl rfl rfl rfl ?_
    refine F.call [] (build_ok row limit hr.l) rfl rfl rfl fun rs H' hq => ?_
    obtain ⟨l, e, rfl, rfl, hbu⟩ := hq
    refine ⟨rfl, ?_⟩
    have hB := flB hA hp hr hbu
    have q0 := hB.q0
    have hln := hB.n
    repeat (first
      | refine OK.drawn (by decide +kernel) ?_
      | refine OK.tree ⟨lookT tis, fun _ => true, []⟩ (by decide +kernel) ?_
      | refine OK.need (by first | assumption | (rw [hA]; first | (show (_ : Int) ≠ _; decide) | (show (0 : Int) ≤ _; decide) | (show (0 : Int) ≤ _ ∧ _ < (256 : Int); decide))) ?_
      | (refine F.hold hA 2000 ?_; cbv))
    refine OK.branch (fun h => (hB.e0 h).elim) (fun _ => ?_)
    repeat (first
      | refine OK.drawn (by decide +kernel) ?_
      | refine OK.tree ⟨lookT tis, fun _ => true, []⟩ (by decide +kernel) ?_
      | refine OK.need (by first | assumption | (rw [hA]; first | (show (_ : Int) ≠ _; decide) | (show (0 : Int) ≤ _; decide) | (show (0 : Int) ≤ _ ∧ _ < (256 : Int); decide))) ?_
      | (refine F.hold hA 2000 ?_; cbv))
    refine OK.branch (fun h => (hB.ll h).elim) (fun _ => ?_)
    repeat (first
      | refine OK.drawn (by decide +kernel) ?_
      | refine OK.tree ⟨lookT tis, fun _ => true, []⟩ (by decide +kernel) ?_
      | refine OK.need (by first | assumption | (rw [hA]; first | (show (_ : Int) ≠ _; decide) | (show (0 : Int) ≤ _; decide) | (show (0 : Int) ≤ _ ∧ _ < (256 : Int); decide))) ?_
      | (refine F.hold hA 2000 ?_; cbv))
    refine F.loop (V := Int × Int × Int) [0, 9] (MmW l) (fun w => (1000 - w.2.2).toNat) (fun w => [(11, .int .i64 w.1), (12, .int .i64 w.2.1), (13, .int .i64 w.2.2)]) (fun w => []) (_, _, _) (by cbv; repeat (first | exact WkH.nil _ | apply WkH.gone | refine WkH.eq rfl ?_)) (by cbv; repeat (first | apply WkL.any | exact WkL.nil _ | refine WkL.eq rfl ?_ | refine WkL.bool rfl ?_)) (by cbv; exact ⟨rfl⟩) ?_ ?_
    · exact mmIni hA hB.n hp.m1
    rintro ⟨a, b2, j⟩ hI2 Bk2 hBk2
    repeat (first
      | refine OK.drawn (by decide +kernel) ?_
      | refine OK.tree ⟨lookT tis, fun _ => true, []⟩ (by decide +kernel) ?_
      | refine OK.need (by first | assumption | (rw [hA]; first | (show (_ : Int) ≠ _; decide) | (show (0 : Int) ≤ _; decide) | (show (0 : Int) ≤ _ ∧ _ < (256 : Int); decide))) ?_
      | (refine F.hold hA 2000 ?_; cbv))
    refine OK.branch (fun d1 => ?_) (fun d1 => ?_)
    · have hat := mmAt hA hB.n hp.m2 hI2 d1
      have q2 := hat.q
      have hBk := hBk2
      repeat (first
        | refine OK.drawn (by decide +kernel) ?_
        | refine OK.tree ⟨lookT tis, fun _ => true, []⟩ (by decide +kernel) ?_
        | refine OK.need (by first | assumption | (rw [hA]; first | (show (_ : Int) ≠ _; decide) | (show (0 : Int) ≤ _; decide) | (show (0 : Int) ≤ _ ∧ _ < (256 : Int); decide))) ?_
        | (refine F.hold hA 2000 ?_; cbv))
      refine OK.back (hBk _ _ (_, _, _) (by cbv; repeat (first | exact WkH.nil _ | apply WkH.gone | refine WkH.eq rfl ?_)) (by cbv; repeat (first | apply WkL.any | exact WkL.nil _ | refine WkL.eq rfl ?_ | refine WkL.bool rfl ?_)) (by cbv; exact ⟨rfl⟩) ?_ ?_)
      · exact hat.nx
      · exact hat.mu
    · have hfin := mmFin hA hB.n hB.f hI2 d1
      have q3 := hfin.na
      have q4 := hfin.nb
      repeat (first
        | refine OK.drawn (by decide +kernel) ?_
        | refine OK.tree ⟨lookT tis, fun _ => true, []⟩ (by decide +kernel) ?_
        | refine OK.need (by first | assumption | (rw [hA]; first | (show (_ : Int) ≠ _; decide) | (show (0 : Int) ≤ _; decide) | (show (0 : Int) ≤ _ ∧ _ < (256 : Int); decide))) ?_
        | (refine F.hold hA 2000 ?_; cbv))
      refine OK.branch (fun _ => ?_) (fun h => (hfin.d h).elim)
      repeat (first
        | refine OK.drawn (by decide +kernel) ?_
        | refine OK.tree ⟨lookT tis, fun _ => true, []⟩ (by decide +kernel) ?_
        | refine OK.need (by first | assumption | (rw [hA]; first | (show (_ : Int) ≠ _; decide) | (show (0 : Int) ≤ _; decide) | (show (0 : Int) ≤ _ ∧ _ < (256 : Int); decide))) ?_
        | (refine F.hold hA 2000 ?_; cbv))
      refine OK.branch (fun _ => ?_) (fun h => (hfin.la h).elim)
      repeat (first
        | refine OK.drawn (by decide +kernel) ?_
        | refine OK.tree ⟨lookT tis, fun _ => true, []⟩ (by decide +kernel) ?_
        | refine OK.need (by first | assumption | (rw [hA]; first | (show (_ : Int) ≠ _; decide) | (show (0 : Int) ≤ _; decide) | (show (0 : Int) ≤ _ ∧ _ < (256 : Int); decide))) ?_
        | (refine F.hold hA 2000 ?_; cbv))
      exact F.ret0 ⟨_, rfl, hfin.lb⟩
end Go.L1
