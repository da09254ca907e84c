/- Own work of the session: part LF of a proof that the program's functions do what the statement says (a symbolic executor, contracts of the functions, plain laws). -/
import Derived.Test.YtljlflcgpbenpaaLE
set_option linter.all false
-- S25
namespace Go.L1
open Go Go.Sx Go.Proofs Go.L5
set_option maxRecDepth 20000
set_option linter.unusedVariables false
set_option linter.unusedSimpArgs false
theorem leaves_wts : ∀ (l : List Int) (k : Int), (leaves k l).map Coin.wt = l.filter fun c => decide (0 < c)
  | [], k => rfl
  | c :: l, k => by
    rw [leaves, List.filter_cons]
    by_cases h : 0 < c
    · rw [if_pos h, if_pos (by simpa using h), List.map_cons, leaves_wts l (k + 1)]
    · rw [if_neg h, if_neg (by simpa using h), leaves_wts l (k + 1)]
/-- The weights of the coins: the counts that aren't 0, rising. -/
theorem coins_wts {counts : List Int} {cs : List Coin} (h : Coins counts cs) : (cs.map Coin.wt).Perm (counts.filter fun c => decide (0 < c)) ∧ RiseN (cs.map Coin.wt) :=
  ⟨by rw [← leaves_wts counts 0]; exact h.perm.map _, riseN h.rise⟩
theorem rise_scale {t : Int} (ht : 0 < t) {ws : List Int} (h : RiseN ws) : RiseN (ws.map (t * ·)) := by
  unfold RiseN Rise at *
  rw [List.pairwise_map]
  exact h.imp fun hab => Int.mul_le_mul_of_nonneg_left hab (by omega)
theorem pos_of_mul {t c : Int} (ht : 0 < t) (h : 0 < t * c) : 0 < c := by
  rcases Int.lt_or_le 0 c with h1 | h1
  · exact h1
  · have := Int.mul_nonpos_of_nonneg_of_nonpos (Int.le_of_lt ht) h1
    omega
theorem filter_scale {t : Int} (ht : 0 < t) : ∀ l : List Int, (l.map (t * ·)).filter (fun c => decide (0 < c)) = (l.filter fun c => decide (0 < c)).map (t * ·)
  | [] => rfl
  | c :: l => by
    rw [List.map_cons, List.filter_cons, List.filter_cons, filter_scale ht l]
    have : (0 < t * c) ↔ 0 < c := ⟨fun h => pos_of_mul ht h, fun h => Int.mul_pos ht h⟩
    by_cases h : 0 < c
    · rw [if_pos (by simpa using this.2 h), if_pos (by simpa using h), List.map_cons]
    · rw [if_neg (by simpa using fun h2 => h (this.1 h2)), if_neg (by simpa using h)]
theorem wts_scale {t : Int} (ht : 0 < t) {counts : List Int} {cs cs2 : List Coin} (h : Coins counts cs) (h2 : Coins (counts.map (t * ·)) cs2) : cs2.map Coin.wt = (cs.map Coin.wt).map (t * ·) := by
  obtain ⟨p1, r1⟩ := coins_wts h
  obtain ⟨p2, r2⟩ := coins_wts h2
  refine rise_perm r2 (rise_scale ht r1) ?_
  rw [filter_scale ht] at p2
  exact p2.trans (p1.map _).symm
structure SclP (counts : List Int) (t : Int) : Prop where
  lo : 1 ≤ t
  hi : t ≤ 100
  n : counts.length ≤ 300
  b : ∀ c ∈ counts, 0 ≤ c ∧ c ≤ 1073741824
theorem wrong_scale {counts : List Int} {t limit : Int} (hp : SclP counts t) : WrongB (counts.map (t * ·)) limit ↔ WrongB counts limit := by
  have h1 : ∀ c ∈ counts, outP (t * c) = false ∧ outP c = false := fun c hc => by
    have := hp.b c hc
    have h2 : 0 ≤ t * c := Int.mul_nonneg (by have := hp.lo; omega) this.1
    have h3 : t * c ≤ 100 * 1073741824 := Int.mul_le_mul hp.hi this.2 this.1 (by decide)
    unfold outP
    refine ⟨?_, ?_⟩ <;> (rw [Bool.or_eq_false_iff, decide_eq_false_iff_not, decide_eq_false_iff_not]; omega)
  unfold WrongB
  rw [List.length_map]
  have e1 : (∃ c ∈ counts.map (t * ·), outP c = true) ↔ False := by
    constructor
    · rintro ⟨c, hc, h⟩
      obtain ⟨x, hx, rfl⟩ := List.mem_map.1 hc
      rw [(h1 x hx).1] at h; cases h
    · exact fun h => h.elim
  have e2 : (∃ c ∈ counts, outP c = true) ↔ False := by
    constructor
    · rintro ⟨c, hc, h⟩
      rw [(h1 c hc).2] at h; cases h
    · exact fun h => h.elim
  rw [e1, e2]
theorem scale_err {counts : List Int} {t limit e e2 : Int} {l l2 : List Int} (hp : SclP counts t) (h : BuildIs counts limit l e) (h2 : BuildIs (counts.map (t * ·)) limit l2 e2) : e = e2 := by
  by_cases hw : WrongB counts limit
  · rw [(h.wr hw).1, (h2.wr ((wrong_scale hp).2 hw)).1]
  · obtain ⟨cs, c1, c2, c3⟩ := h.ok hw
    obtain ⟨cs2, d1, d2, d3⟩ := h2.ok fun hh => hw ((wrong_scale hp).1 hh)
    have hl : cs2.length = cs.length := by
      have := congrArg List.length (wts_scale (by have := hp.lo; omega) c1.all d1.all)
      simpa using this
    rcases Nat.lt_or_ge (2 ^ limit.toNat) cs.length with h3 | h3
    · rw [(c2 h3).1, (d2 (by omega)).1]
    · rw [(c3 h3).1, (d3 (by omega)).1]
theorem scale_cost {counts : List Int} {t limit e e2 : Int} {l l2 : List Int} (hp : SclP counts t) (h : BuildIs counts limit l e) (h2 : BuildIs (counts.map (t * ·)) limit l2 e2) (h0 : e = 0) (h02 : e2 = 0) : costL (counts.map (t * ·)) l2 = t * costL counts l := by
  obtain ⟨cs, hg⟩ := build_good h h0
  obtain ⟨cs2, hg2⟩ := build_good h2 h02
  have ht : 0 < t := by have := hp.lo; omega
  rw [good_cost hg, good_cost hg2, wts_scale ht hg.ic.all hg2.ic.all, costN_scale ht]
theorem nrows_nn {ws : List Int} (h0 : ∀ x ∈ ws, 0 ≤ x) : ∀ d, ∀ x ∈ nrows ws d, 0 ≤ x
  | 0, x, hx => by cases hx
  | d + 1, x, hx => by
    rw [nrows, (mrg_perm ..).mem_iff, List.mem_append] at hx
    rcases hx with hx | hx
    · exact h0 x hx
    · have := prn_ge (a := 0) (b := 0) _ (fun y hy => ⟨nrows_nn h0 d y hy, nrows_nn h0 d y hy⟩) x hx
      omega
theorem nrows_pair {a b : Int} (hab : a ≤ b) (ha : 0 ≤ a) : ∀ d, ∃ r, nrows [a, b] (d + 1) = a :: b :: r
  | 0 => ⟨[], by rw [nrows, nrows, prn, mrg_nil_right]; intro _ _ _ h; cases h⟩
  | d + 1 => by
    obtain ⟨r, hr⟩ := nrows_pair hab ha d
    rw [nrows, hr, prn, mrg_cons, if_pos (by show a ≤ a + b; omega), mrg_cons, if_pos (by show b ≤ a + b; omega)]
    exact ⟨_, rfl⟩
/-- One weight less. -/
theorem costN_less {ws ws' : List Int} {w : Int} (hr : RiseN ws) (hr' : RiseN ws') (hp : ws.Perm (w :: ws')) (h0 : ∀ x ∈ ws, 0 ≤ x) {d : Nat} (hd : 1 ≤ d) (hlen : 2 * ws.length - 2 ≤ (nrows ws d).length) : costN ws' d ≤ costN ws d := by
  have hl := hp.length_eq
  rw [List.length_cons] at hl
  have hdom : Dom 1 ws' ws := by
    rw [dom_iff hr' hr]
    intro v
    rw [cn_perm hp, cn_cons]
    split <;> omega
  rcases Nat.lt_or_ge ws'.length 2 with h2 | h2
  · match ws', h2, hl, hp with
    | [], _, hl, hp =>
      have : ws = [w] := List.perm_singleton.1 hp
      rw [this]
      show (0 : Int) ≤ w
      exact h0 w (by rw [this]; simp)
    | [x], _, hl, hp =>
      have hx : x ∈ ws := hp.mem_iff.2 (by simp)
      match ws, hl, hr, hx, h0 with
      | [a, b], _, hr, hx, h0 =>
        have hab : a ≤ b := by
          have := List.pairwise_cons.1 hr
          exact this.1 b (by simp)
        have ha := h0 a (by simp)
        have hb := h0 b (by simp)
        obtain ⟨d, rfl⟩ : ∃ e, d = e + 1 := ⟨d - 1, by omega⟩
        obtain ⟨r, hr2⟩ := nrows_pair hab ha d
        have e : costN [a, b] (d + 1) = a + (b + 0) := by
          rw [costN_two (by simp), hr2]; rfl
        rw [e]
        show x ≤ _
        simp at hx
        omega
  · rw [costN_two h2, costN_two (by omega)]
    have h2' := nrows_less hr hr' hdom d
    have h3 := dom_sum2 h2' (fun z hz => nrows_nn h0 d z hz) (m := 2 * ws'.length - 2) (by omega)
    rw [show 2 * ws'.length - 2 + 2 = 2 * ws.length - 2 by omega] at h3
    exact h3
structure LessIs (counts l : List Int) (limit e2 : Int) (l2 : List Int) : Prop where
  e : e2 = 0
  c : costL (counts.drop 1) l2 ≤ costL counts l
theorem less_cost {counts : List Int} {limit e e2 : Int} {l l2 : List Int} (h : BuildIs counts limit l e) (h0 : e = 0) (h2 : BuildIs (counts.drop 1) limit l2 e2) : LessIs counts l limit e2 l2 := by
  obtain ⟨cs, hg⟩ := build_good h h0
  obtain ⟨f1, f2, f3, f4⟩ := nw_facts hg.nw
  have hw : ¬ WrongB (counts.drop 1) limit := by
    rintro (h3 | ⟨c, h3, h4⟩ | h3 | h3)
    · rw [List.length_drop] at h3; omega
    · exact hg.nw (.inr (.inl ⟨c, List.mem_of_mem_drop h3, h4⟩))
    · omega
    · omega
  obtain ⟨cs2, c1, c2, c3⟩ := h2.ok hw
  obtain ⟨p1, r1⟩ := coins_wts hg.ic.all
  obtain ⟨p2, r2⟩ := coins_wts c1.all
  -- how the weights lie
  have hcase : (cs.map Coin.wt).Perm (cs2.map Coin.wt) ∨ ∃ w, (cs.map Coin.wt).Perm (w :: cs2.map Coin.wt) := by
    cases counts with
    | nil => exact .inl (p1.trans p2.symm)
    | cons c l =>
      rw [List.drop_one, List.tail_cons] at p2
      rw [List.filter_cons] at p1
      split at p1
      · exact .inr ⟨c, p1.trans (p2.symm.cons _)⟩
      · exact .inl (p1.trans p2.symm)
  have hlen : cs2.length ≤ cs.length := by
    rcases hcase with h3 | ⟨w, h3⟩
    · have := h3.length_eq; rw [List.length_map, List.length_map] at this; omega
    · have := h3.length_eq; rw [List.length_cons, List.length_map, List.length_map] at this; omega
  have h4 := (c3 (Nat.le_trans hlen hg.few)).1
  obtain ⟨cs3, hg2⟩ := build_good h2 h4
  have hcs : cs3 = cs2 := hg2.ic.uniq c1
  subst hcs
  refine ⟨h4, ?_⟩
  rw [good_cost hg, good_cost hg2]
  rcases hcase with h3 | ⟨w, h3⟩
  · rw [rise_perm r1 r2 h3]; exact Int.le_refl _
  · rcases Nat.eq_zero_or_pos cs.length with hz | hz
    · have := h3.length_eq
      rw [List.length_map, List.length_cons, hz] at this; omega
    · refine costN_less r1 r2 h3 (fun x hx => ?_) (by omega) ?_
      · obtain ⟨y, hy, rfl⟩ := List.mem_map.1 hx
        have := hg.ic.all.pos y hy
        omega
      · rw [← rows_map, List.length_map, List.length_map]
        exact rows_has cs hz (by omega) hg.few
end Go.L1

-- S26
namespace Go.L1
open Go Go.Sx Go.Proofs Go.L5
set_option maxRecDepth 20000
set_option linter.unusedVariables false
set_option linter.unusedSimpArgs false
structure ScG (counts : List Int) (t : Int) : Prop where
  n : counts.length ≤ 300
  lo : 1 ≤ t
  hi : t ≤ 100
theorem scG {A : Leaf} {counts : List Int} {t : Int} (hA : A = .std) (c1 : A.cmp .gtr (A.len counts) 300 = false) (c2 : A.cmp .lss t 1 = false) (c3 : A.cmp .gtr t 100 = false) : ScG counts t := by
  subst hA
  have c1 : ¬ (300 : Int) < (counts.length : Int) := of_decide_eq_false c1
  have c2 : ¬ t < 1 := of_decide_eq_false c2
  have c3 : ¬ 100 < t := of_decide_eq_false c3
  exact ⟨by omega, by omega, by omega⟩
structure MoI (counts : List Int) (t : Int) (row : List Int) (i : Int) (k : Nat) : Prop where
  ei : i = (k : Int)
  le : k ≤ counts.length
  row : row = (counts.take k).map (t * ·)
  b : ∀ c ∈ counts.take k, 0 ≤ c ∧ c ≤ 1073741824
def MoW (counts : List Int) (t : Int) (w : List Int × Int) : Prop := ∃ k, MoI counts t w.1 w.2 k
structure MoAt (A : Leaf) (counts : List Int) (t : Int) (row : List Int) (i : Int) : Prop where
  q : A.inb i (A.len counts)
  sm : A.small (A.len (A.app row [A.ar .mul .i64 (A.get 0 counts i) t])) 8
  nx : A.cmp .lss (A.get 0 counts i) 0 = false → A.cmp .gtr (A.get 0 counts i) 1073741824 = false → MoW counts t (A.app row [A.ar .mul .i64 (A.get 0 counts i) t], A.ar .add .i64 i 1)
  mu : (1000 - A.ar .add .i64 i 1).toNat < (1000 - i).toNat
theorem moAt {A : Leaf} {counts : List Int} {t : Int} {row : List Int} {i : Int} (hA : A = .std) (hp : ScG counts t) (hI : MoW counts t (row, i)) (b : A.cmp .lss i (A.len counts) = true) : MoAt A counts t row i := by
  obtain ⟨k, e1, e2, e3, e4⟩ := hI
  simp only at e1 e3
  have hn := hp.n
  subst hA e1
  have b : (k : Int) < (counts.length : Int) := of_decide_eq_true b
  have hk : k < counts.length := by omega
  have eg : Leaf.std.get 0 counts (k : Int) = counts[k] := by show counts.getD _ _ = _; rw [Int.toNat_natCast]; simp [hk]
  have e : Leaf.std.ar .add .i64 (k : Int) 1 = ((k + 1 : Nat) : Int) := by rw [add_i64 (by omega) (by omega)]; omega
  have hrl : row.length = k := by rw [e3, List.length_map, List.length_take]; omega
  refine ⟨⟨by omega, b⟩, small_of (l := row ++ [_]) (by rw [List.length_append, List.length_singleton]; omega), fun c1 c2 => ?_, by rw [e]; omega⟩
  rw [eg] at c1 c2 ⊢
  have c1 : ¬ counts[k] < 0 := of_decide_eq_false c1
  have c2 : ¬ 1073741824 < counts[k] := of_decide_eq_false c2
  have h1 := hp.lo
  have h2 := hp.hi
  have h3 : counts[k] * t ≤ 1073741824 * 100 := Int.mul_le_mul (by omega) h2 (by omega) (by decide)
  have h4 : 0 ≤ counts[k] * t := Int.mul_nonneg (by omega) (by omega)
  rw [e, mul_i64 (by omega) (by omega)]
  refine ⟨k + 1, rfl, by omega, ?_, fun c hc => ?_⟩
  · show row ++ [_] = _
    rw [List.take_succ_eq_append_getElem hk, List.map_append, ← e3, Int.mul_comm]; rfl
  · rw [List.take_succ_eq_append_getElem hk] at hc
    rcases List.mem_append.1 hc with hc | hc
    · exact e4 c hc
    · rw [List.mem_singleton] at hc; subst hc; omega
structure MoEnd (counts : List Int) (t : Int) (row : List Int) : Prop where
  e : row = counts.map (t * ·)
  p : SclP counts t
theorem moEnd {A : Leaf} {counts : List Int} {t : Int} {row : List Int} {i : Int} (hA : A = .std) (hp : ScG counts t) (hI : MoW counts t (row, i)) (b : A.cmp .lss i (A.len counts) = false) : MoEnd counts t row := by
  obtain ⟨k, e1, e2, e3, e4⟩ := hI
  simp only at e1 e3
  subst hA e1
  have b : ¬ (k : Int) < (counts.length : Int) := of_decide_eq_false b
  rw [List.take_of_length_le (by omega)] at e3 e4
  exact ⟨e3, hp.lo, hp.hi, hp.n, e4⟩
structure ScFin (A : Leaf) (counts row l l2 : List Int) (t : Int) : Prop where
  ll : l.length ≤ 400
  bl : l2.length ≤ 400
  rl : row.length ≤ 400
  fin : ∀ n1 n2, CostIs row l2 n1 → CostIs counts l n2 → A.cmp .neq n1 (A.ar .mul .i64 t n2) = true → False
theorem scFin {A : Leaf} {counts row l l2 : List Int} {t limit e e2 : Int} (hA : A = .std) (hm : MoEnd counts t row) (h : BuildIs counts limit l e) (h2 : BuildIs row limit l2 e2) (h0 : e = 0) (h02 : e2 = 0) : ScFin A counts row l l2 t := by
  have hp := hm.p
  have hn := hp.n
  rw [hm.e] at h2 ⊢
  obtain ⟨cs, hg⟩ := build_good h h0
  obtain ⟨cs2, hg2⟩ := build_good h2 h02
  have a1 := (all_at hg).1
  have a2 := (all_at hg2).1
  rw [List.length_map] at a2
  refine ⟨by omega, by omega, by rw [List.length_map]; omega, fun n1 n2 c1 c2 hne => ?_⟩
  have h3 := scale_cost hp h h2 h0 h02
  have h4 := neqT hA hne
  rw [c1.e, c2.e] at h4
  have h5 := costL_le counts l
  have h6 : t * costL counts l ≤ 100 * (16492674416640 * 300) := Int.mul_le_mul hp.hi (by omega) h5.1 (by decide)
  have h7 : 0 ≤ t * costL counts l := Int.mul_nonneg (by have := hp.lo; omega) h5.1
  subst hA
  rw [mul_i64 (by omega) (by omega)] at h4
  exact h4 h3
structure ScCut (A : Leaf) (counts : List Int) : Prop where
  q : A.slb 1 (A.len counts) (A.len counts)
  e : A.sub counts 1 (A.len counts) = counts.drop 1
  l : (A.sub counts 1 (A.len counts)).length ≤ 400
theorem scCut {A : Leaf} {counts : List Int} (hA : A = .std) (hn : counts.length ≤ 300) (b : A.cmp .eql (A.len counts) 0 = false) : ScCut A counts := by
  have h0 := eqF hA b
  subst hA
  have h0 : (counts.length : Int) ≠ 0 := h0
  have e : Leaf.std.sub counts 1 (Leaf.std.len counts) = counts.drop 1 := by
    show (counts.drop (1 : Int).toNat).take ((counts.length : Int) - 1).toNat = _
    rw [List.take_of_length_le (by rw [List.length_drop]; show _ ≤ _; have : (1 : Int).toNat = 1 := rfl; omega)]
    rfl
  refine ⟨?_, e, by rw [e, List.length_drop]; omega⟩
  show (0 : Int) ≤ 1 ∧ (1 : Int) ≤ (counts.length : Int) ∧ (counts.length : Int) ≤ (counts.length : Int)
  omega
structure ScLess (A : Leaf) (cut counts l l3 : List Int) (e3 : Int) : Prop where
  e : A.cmp .eql e3 0 = false → False
  cl : l3.length ≤ 400
  fin : ∀ n1 n2, CostIs cut l3 n1 → CostIs counts l n2 → A.cmp .leq n1 n2 = true
theorem scLess {A : Leaf} {counts l l3 : List Int} {limit e e3 : Int} (hA : A = .std) (hc : ScCut A counts) (hn : counts.length ≤ 300) (h : BuildIs counts limit l e) (h0 : e = 0) (h3 : BuildIs (A.sub counts 1 (A.len counts)) limit l3 e3) : ScLess A (A.sub counts 1 (A.len counts)) counts l l3 e3 := by
  rw [hc.e] at h3 ⊢
  obtain ⟨h4, h5⟩ := less_cost h h0 h3
  obtain ⟨cs3, hg3⟩ := build_good h3 h4
  have a3 := (all_at hg3).1
  rw [List.length_drop] at a3
  refine ⟨fun hh => eqF hA hh h4, by omega, fun n1 n2 c1 c2 => ?_⟩
  subst hA
  show decide (n1 ≤ n2) = true
  rw [decide_eq_true_eq, c1.e, c2.e]
  exact h5
theorem scale_ok (counts : List Int) (limit t : Int) : FOK Try.prog C1 5 (fun _ => false) [.ro (.ints .i64 counts), .int .i64 limit, .int .i64 t] [] Yes := by
  refine fok_of (B := ⟨lookT tis, fun _ => false, []⟩) (tab1 _) (zero1 _) cod1 mix1 Try.func5 (by kernel_rfl) rfl rfl rfl fun X F => ?_
  obtain ⟨A, hA⟩ : ∃ A, A = Leaf.std := ⟨_, rfl⟩
  refine F.hold hA 2000 ?_
  cbv
  repeat (first
    | refine OK.drawn (by decide +kernel) ?_
    | refine OK.tree ⟨lookT tis, fun _ => true, []⟩ (by decide +kernel) ?_
    | refine OK.need (by first | assumption | (rw [hA]; first | (show (_ : Int) ≠ _; decide) | (show (0 : Int) ≤ _; decide) | (show (0 : Int) ≤ _ ∧ _ < (256 : Int); decide))) ?_
    | (refine F.hold hA 2000 ?_; cbv))
  refine F.call [] (alive_ok) rfl rfl rfl fun rs H' hq => ?_
  obtain ⟨b, rfl, rfl, hb⟩ := hq
  refine ⟨rfl, ?_⟩
  repeat (first
    | refine OK.drawn (by decide +kernel) ?_
    | refine OK.tree ⟨lookT tis, fun _ => true, []⟩ (by decide +kernel) ?_
    | refine OK.need (by first | assumption | (rw [hA]; first | (show (_ : Int) ≠ _; decide) | (show (0 : Int) ≤ _; decide) | (show (0 : Int) ≤ _ ∧ _ < (256 : Int); decide))) ?_
    | (refine F.hold hA 2000 ?_; cbv))
  refine OK.branch (fun h => (notB hA hb h).elim) (fun _ => ?_)
  repeat (first
    | refine OK.drawn (by decide +kernel) ?_
    | refine OK.tree ⟨lookT tis, fun _ => true, []⟩ (by decide +kernel) ?_
    | refine OK.need (by first | assumption | (rw [hA]; first | (show (_ : Int) ≠ _; decide) | (show (0 : Int) ≤ _; decide) | (show (0 : Int) ≤ _ ∧ _ < (256 : Int); decide))) ?_
    | (refine F.hold hA 2000 ?_; cbv))
  refine OK.branch (fun c1 => ?_) (fun c1 => ?_)
  · repeat (first
      | refine OK.drawn (by decide +kernel) ?_
      | refine OK.tree ⟨lookT tis, fun _ => true, []⟩ (by decide +kernel) ?_
      | refine OK.need (by first | assumption | (rw [hA]; first | (show (_ : Int) ≠ _; decide) | (show (0 : Int) ≤ _; decide) | (show (0 : Int) ≤ _ ∧ _ < (256 : Int); decide))) ?_
      | (refine F.hold hA 2000 ?_; cbv))
    exact F.ret0 ⟨_, rfl, rfl⟩
  repeat (first
    | refine OK.drawn (by decide +kernel) ?_
    | refine OK.tree ⟨lookT tis, fun _ => true, []⟩ (by decide +kernel) ?_
    | refine OK.need (by first | assumption | (rw [hA]; first | (show (_ : Int) ≠ _; decide) | (show (0 : Int) ≤ _; decide) | (show (0 : Int) ≤ _ ∧ _ < (256 : Int); decide))) ?_
    | (refine F.hold hA 2000 ?_; cbv))
  refine OK.branch (fun c2 => ?_) (fun c2 => ?_)
  · repeat (first
      | refine OK.drawn (by decide +kernel) ?_
      | refine OK.tree ⟨lookT tis, fun _ => true, []⟩ (by decide +kernel) ?_
      | refine OK.need (by first | assumption | (rw [hA]; first | (show (_ : Int) ≠ _; decide) | (show (0 : Int) ≤ _; decide) | (show (0 : Int) ≤ _ ∧ _ < (256 : Int); decide))) ?_
      | (refine F.hold hA 2000 ?_; cbv))
    exact F.ret0 ⟨_, rfl, rfl⟩
  repeat (first
    | refine OK.drawn (by decide +kernel) ?_
    | refine OK.tree ⟨lookT tis, fun _ => true, []⟩ (by decide +kernel) ?_
    | refine OK.need (by first | assumption | (rw [hA]; first | (show (_ : Int) ≠ _; decide) | (show (0 : Int) ≤ _; decide) | (show (0 : Int) ≤ _ ∧ _ < (256 : Int); decide))) ?_
    | (refine F.hold hA 2000 ?_; cbv))
  refine OK.branch (fun c3 => ?_) (fun c3 => ?_)
  · repeat (first
      | refine OK.drawn (by decide +kernel) ?_
      | refine OK.tree ⟨lookT tis, fun _ => true, []⟩ (by decide +kernel) ?_
      | refine OK.need (by first | assumption | (rw [hA]; first | (show (_ : Int) ≠ _; decide) | (show (0 : Int) ≤ _; decide) | (show (0 : Int) ≤ _ ∧ _ < (256 : Int); decide))) ?_
      | (refine F.hold hA 2000 ?_; cbv))
    exact F.ret0 ⟨_, rfl, rfl⟩
  have hp := scG hA c1 c2 c3
  have hl4 : counts.length ≤ 400 := Nat.le_trans hp.n (by decide)
  repeat (first
    | refine OK.drawn (by decide +kernel) ?_
    | refine OK.tree ⟨lookT tis, fun _ => true, []⟩ (by decide +kernel) ?_
    | refine OK.need (by first | assumption | (rw [hA]; first | (show (_ : Int) ≠ _; decide) | (show (0 : Int) ≤ _; decide) | (show (0 : Int) ≤ _ ∧ _ < (256 : Int); decide))) ?_
    | (refine F.hold hA 2000 ?_; cbv))
  refine F.loop (V := List Int × Int) [0, 1, 2, 7] (MoW counts t) (fun w => (1000 - w.2).toNat) (fun w => [(8, .int .i64 w.2)]) (fun w => [(0, .row 3 (.ints .i64 w.1))]) (_, _) (by cbv; repeat (first | exact WkH.nil _ | apply WkH.gone | refine WkH.eq rfl ?_)) (by cbv; repeat (first | apply WkL.any | exact WkL.nil _ | refine WkL.eq rfl ?_ | refine WkL.bool rfl ?_)) (by cbv; exact ⟨rfl⟩) ?_ ?_
  · exact ⟨0, rfl, Nat.zero_le _, rfl, fun c hc => by cases hc⟩
  rintro ⟨row, i⟩ hI Bk hBk
  repeat (first
    | refine OK.drawn (by decide +kernel) ?_
    | refine OK.tree ⟨lookT tis, fun _ => true, []⟩ (by decide +kernel) ?_
    | refine OK.need (by first | assumption | (rw [hA]; first | (show (_ : Int) ≠ _; decide) | (show (0 : Int) ≤ _; decide) | (show (0 : Int) ≤ _ ∧ _ < (256 : Int); decide))) ?_
    | (refine F.hold hA 2000 ?_; cbv))
  refine OK.branch (fun d0 => ?_) (fun d0 => ?_)
  · have hat := moAt hA hp hI d0
    have q1 := hat.q
    have q2 := hat.sm
    repeat (first
      | refine OK.drawn (by decide +kernel) ?_
      | refine OK.tree ⟨lookT tis, fun _ => true, []⟩ (by decide +kernel) ?_
      | refine OK.need (by first | assumption | (rw [hA]; first | (show (_ : Int) ≠ _; decide) | (show (0 : Int) ≤ _; decide) | (show (0 : Int) ≤ _ ∧ _ < (256 : Int); decide))) ?_
      | (refine F.hold hA 2000 ?_; cbv))
    refine OK.branch (fun d1 => ?_) (fun d1 => ?_)
    · repeat (first
        | refine OK.drawn (by decide +kernel) ?_
        | refine OK.tree ⟨lookT tis, fun _ => true, []⟩ (by decide +kernel) ?_
        | refine OK.need (by first | assumption | (rw [hA]; first | (show (_ : Int) ≠ _; decide) | (show (0 : Int) ≤ _; decide) | (show (0 : Int) ≤ _ ∧ _ < (256 : Int); decide))) ?_
        | (refine F.hold hA 2000 ?_; cbv))
      exact F.ret0 ⟨_, rfl, rfl⟩
    repeat (first
      | refine OK.drawn (by decide +kernel) ?_
      | refine OK.tree ⟨lookT tis, fun _ => true, []⟩ (by decide +kernel) ?_
      | refine OK.need (by first | assumption | (rw [hA]; first | (show (_ : Int) ≠ _; decide) | (show (0 : Int) ≤ _; decide) | (show (0 : Int) ≤ _ ∧ _ < (256 : Int); decide))) ?_
      | (refine F.hold hA 2000 ?_; cbv))
    refine OK.branch (fun d2 => ?_) (fun d2 => ?_)
    · repeat (first
        | refine OK.drawn (by decide +kernel) ?_
        | refine OK.tree ⟨lookT tis, fun _ => true, []⟩ (by decide +kernel) ?_
        | refine OK.need (by first | assumption | (rw [hA]; first | (show (_ : Int) ≠ _; decide) | (show (0 : Int) ≤ _; decide) | (show (0 : Int) ≤ _ ∧ _ < (256 : Int); decide))) ?_
        | (refine F.hold hA 2000 ?_; cbv))
      exact F.ret0 ⟨_, rfl, rfl⟩
    repeat (first
      | refine OK.drawn (by decide +kernel) ?_
      | refine OK.tree ⟨lookT tis, fun _ => true, []⟩ (by decide +kernel) ?_
      | refine OK.need (by first | assumption | (rw [hA]; first | (show (_ : Int) ≠ _; decide) | (show (0 : Int) ≤ _; decide) | (show (0 : Int) ≤ _ ∧ _ < (256 : Int); decide))) ?_
      | (refine F.hold hA 2000 ?_; cbv))
    refine OK.back (hBk _ _ (_, _) (by cbv; repeat (first | exact WkH.nil _ | apply WkH.gone | refine WkH.eq rfl ?_)) (by cbv; repeat (first | apply WkL.any | exact WkL.nil _ | refine WkL.eq rfl ?_ | refine WkL.bool rfl ?_)) (by cbv; exact ⟨rfl⟩) ?_ ?_)
    · exact hat.nx d1 d2
    · exact hat.mu
  · have hm := moEnd hA hp hI d0
    have hrl : row.length ≤ 400 := by rw [hm.e, List.length_map]; exact hl4
    repeat (first
      | refine OK.drawn (by decide +kernel) ?_
      | refine OK.tree ⟨lookT tis, fun _ => true, []⟩ (by decide +kernel) ?_
      | refine OK.need (by first | assumption | (rw [hA]; first | (show (_ : Int) ≠ _; decide) | (show (0 : Int) ≤ _; decide) | (show (0 : Int) ≤ _ ∧ _ < (256 : Int); decide))) ?_
      | (refine F.hold hA 2000 ?_; cbv))
    refine F.call [] (build_ok counts limit hl4) rfl rfl rfl fun rs H' hq => ?_
    obtain ⟨l, e, rfl, rfl, hbu⟩ := hq
    refine ⟨rfl, ?_⟩
    repeat (first
      | refine OK.drawn (by decide +kernel) ?_
      | refine OK.tree ⟨lookT tis, fun _ => true, []⟩ (by decide +kernel) ?_
      | refine OK.need (by first | assumption | (rw [hA]; first | (show (_ : Int) ≠ _; decide) | (show (0 : Int) ≤ _; decide) | (show (0 : Int) ≤ _ ∧ _ < (256 : Int); decide))) ?_
      | (refine F.hold hA 2000 ?_; cbv))
    refine F.callFrz 0 rfl rfl rfl rfl ?_
    refine F.call [] (build_ok row limit hrl) rfl rfl rfl fun rs H' hq => ?_
    obtain ⟨l2, e2, rfl, rfl, hbu2⟩ := hq
    refine ⟨rfl, ?_⟩
    have hee : e = e2 := scale_err hm.p hbu (by rw [← hm.e]; exact hbu2)
    repeat (first
      | refine OK.drawn (by decide +kernel) ?_
      | refine OK.tree ⟨lookT tis, fun _ => true, []⟩ (by decide +kernel) ?_
      | refine OK.need (by first | assumption | (rw [hA]; first | (show (_ : Int) ≠ _; decide) | (show (0 : Int) ≤ _; decide) | (show (0 : Int) ≤ _ ∧ _ < (256 : Int); decide))) ?_
      | (refine F.hold hA 2000 ?_; cbv))
    refine OK.branch (fun h => absurd hee (neqT hA h)) (fun _ => ?_)
    repeat (first
      | refine OK.drawn (by decide +kernel) ?_
      | refine OK.tree ⟨lookT tis, fun _ => true, []⟩ (by decide +kernel) ?_
      | refine OK.need (by first | assumption | (rw [hA]; first | (show (_ : Int) ≠ _; decide) | (show (0 : Int) ≤ _; decide) | (show (0 : Int) ≤ _ ∧ _ < (256 : Int); decide))) ?_
      | (refine F.hold hA 2000 ?_; cbv))
    refine OK.branch (fun h => ?_) (fun h => ?_)
    · repeat (first
        | refine OK.drawn (by decide +kernel) ?_
        | refine OK.tree ⟨lookT tis, fun _ => true, []⟩ (by decide +kernel) ?_
        | refine OK.need (by first | assumption | (rw [hA]; first | (show (_ : Int) ≠ _; decide) | (show (0 : Int) ≤ _; decide) | (show (0 : Int) ≤ _ ∧ _ < (256 : Int); decide))) ?_
        | (refine F.hold hA 2000 ?_; cbv))
      exact F.ret0 ⟨_, rfl, rfl⟩
    have h0 := neqF hA h
    have h02 : e2 = 0 := hee.symm.trans h0
    have hf := scFin hA hm hbu hbu2 h0 h02
    repeat (first
      | refine OK.drawn (by decide +kernel) ?_
      | refine OK.tree ⟨lookT tis, fun _ => true, []⟩ (by decide +kernel) ?_
      | refine OK.need (by first | assumption | (rw [hA]; first | (show (_ : Int) ≠ _; decide) | (show (0 : Int) ≤ _; decide) | (show (0 : Int) ≤ _ ∧ _ < (256 : Int); decide))) ?_
      | (refine F.hold hA 2000 ?_; cbv))
    refine F.call [] (cost_ok row l2 hf.rl hf.bl) rfl rfl rfl fun rs H' hq => ?_
    obtain ⟨n1, rfl, rfl, hn1⟩ := hq
    refine ⟨rfl, ?_⟩
    repeat (first
      | refine OK.drawn (by decide +kernel) ?_
      | refine OK.tree ⟨lookT tis, fun _ => true, []⟩ (by decide +kernel) ?_
      | refine OK.need (by first | assumption | (rw [hA]; first | (show (_ : Int) ≠ _; decide) | (show (0 : Int) ≤ _; decide) | (show (0 : Int) ≤ _ ∧ _ < (256 : Int); decide))) ?_
      | (refine F.hold hA 2000 ?_; cbv))
    refine F.call [] (cost_ok counts l hl4 hf.ll) rfl rfl rfl fun rs H' hq => ?_
    obtain ⟨n2, rfl, rfl, hn2⟩ := hq
    refine ⟨rfl, ?_⟩
    repeat (first
      | refine OK.drawn (by decide +kernel) ?_
      | refine OK.tree ⟨lookT tis, fun _ => true, []⟩ (by decide +kernel) ?_
      | refine OK.need (by first | assumption | (rw [hA]; first | (show (_ : Int) ≠ _; decide) | (show (0 : Int) ≤ _; decide) | (show (0 : Int) ≤ _ ∧ _ < (256 : Int); decide))) ?_
      | (refine F.hold hA 2000 ?_; cbv))
    refine OK.branch (fun h => (hf.fin n1 n2 hn1 hn2 h).elim) (fun _ => ?_)
    repeat (first
      | refine OK.drawn (by decide +kernel) ?_
      | refine OK.tree ⟨lookT tis, fun _ => true, []⟩ (by decide +kernel) ?_
      | refine OK.need (by first | assumption | (rw [hA]; first | (show (_ : Int) ≠ _; decide) | (show (0 : Int) ≤ _; decide) | (show (0 : Int) ≤ _ ∧ _ < (256 : Int); decide))) ?_
      | (refine F.hold hA 2000 ?_; cbv))
    refine OK.branch (fun h => ?_) (fun h => ?_)
    · repeat (first
        | refine OK.drawn (by decide +kernel) ?_
        | refine OK.tree ⟨lookT tis, fun _ => true, []⟩ (by decide +kernel) ?_
        | refine OK.need (by first | assumption | (rw [hA]; first | (show (_ : Int) ≠ _; decide) | (show (0 : Int) ≤ _; decide) | (show (0 : Int) ≤ _ ∧ _ < (256 : Int); decide))) ?_
        | (refine F.hold hA 2000 ?_; cbv))
      exact F.ret0 ⟨_, rfl, rfl⟩
    have hcut := scCut hA hp.n h
    have q5 := hcut.q
    repeat (first
      | refine OK.drawn (by decide +kernel) ?_
      | refine OK.tree ⟨lookT tis, fun _ => true, []⟩ (by decide +kernel) ?_
      | refine OK.need (by first | assumption | (rw [hA]; first | (show (_ : Int) ≠ _; decide) | (show (0 : Int) ≤ _; decide) | (show (0 : Int) ≤ _ ∧ _ < (256 : Int); decide))) ?_
      | (refine F.hold hA 2000 ?_; cbv))
    refine F.call [] (build_ok _ limit hcut.l) rfl rfl rfl fun rs H' hq => ?_
    obtain ⟨l3, e3, rfl, rfl, hbu3⟩ := hq
    refine ⟨rfl, ?_⟩
    have hls := scLess hA hcut hp.n hbu h0 hbu3
    repeat (first
      | refine OK.drawn (by decide +kernel) ?_
      | refine OK.tree ⟨lookT tis, fun _ => true, []⟩ (by decide +kernel) ?_
      | refine OK.need (by first | assumption | (rw [hA]; first | (show (_ : Int) ≠ _; decide) | (show (0 : Int) ≤ _; decide) | (show (0 : Int) ≤ _ ∧ _ < (256 : Int); decide))) ?_
      | (refine F.hold hA 2000 ?_; cbv))
    refine OK.branch (fun _ => ?_) (fun h => (hls.e h).elim)
    repeat (first
      | refine OK.drawn (by decide +kernel) ?_
      | refine OK.tree ⟨lookT tis, fun _ => true, []⟩ (by decide +kernel) ?_
      | refine OK.need (by first | assumption | (rw [hA]; first | (show (_ : Int) ≠ _; decide) | (show (0 : Int) ≤ _; decide) | (show (0 : Int) ≤ _ ∧ _ < (256 : Int); decide))) ?_
      | (refine F.hold hA 2000 ?_; cbv))
    refine F.call [] (cost_ok _ l3 hcut.l hls.cl) rfl rfl rfl fun rs H' hq => ?_
    obtain ⟨n3, rfl, rfl, hn3⟩ := hq
    refine ⟨rfl, ?_⟩
    repeat (first
      | refine OK.drawn (by decide +kernel) ?_
      | refine OK.tree ⟨lookT tis, fun _ => true, []⟩ (by decide +kernel) ?_
      | refine OK.need (by first | assumption | (rw [hA]; first | (show (_ : Int) ≠ _; decide) | (show (0 : Int) ≤ _; decide) | (show (0 : Int) ≤ _ ∧ _ < (256 : Int); decide))) ?_
      | (refine F.hold hA 2000 ?_; cbv))
    refine F.call [] (cost_ok counts l hl4 hf.ll) rfl rfl rfl fun rs H' hq => ?_
    obtain ⟨n4, rfl, rfl, hn4⟩ := hq
    refine ⟨rfl, ?_⟩
    repeat (first
      | refine OK.drawn (by decide +kernel) ?_
      | refine OK.tree ⟨lookT tis, fun _ => true, []⟩ (by decide +kernel) ?_
      | refine OK.need (by first | assumption | (rw [hA]; first | (show (_ : Int) ≠ _; decide) | (show (0 : Int) ≤ _; decide) | (show (0 : Int) ≤ _ ∧ _ < (256 : Int); decide))) ?_
      | (refine F.hold hA 2000 ?_; cbv))
    exact F.ret0 ⟨_, rfl, hls.fin n3 n4 hn3 hn4⟩
end Go.L1
