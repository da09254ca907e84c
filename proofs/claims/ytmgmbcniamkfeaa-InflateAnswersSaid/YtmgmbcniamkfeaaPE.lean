/- Own work of the session: part PE of a proof that the program's functions do what the statement says (a symbolic executor, contracts of the functions, plain laws). -/
import Derived.Test.YtmgmbcniamkfeaaPD
set_option linter.all false
-- H1
namespace Go.Huff
/-- How many symbols have this length. -/
def cnt (ls : List Int) (l : Nat) : Nat := if l = 0 then 0 else ls.count (l : Int)
/-- The first code of a length. -/
def fst (ls : List Int) : Nat → Nat
  | 0 => 0
  | l + 1 => 2 * (fst ls l + cnt ls l)
/-- Where a length's symbols begin in the order. -/
def st (ls : List Int) : Nat → Nat
  | 0 => 0
  | l + 1 => st ls l + cnt ls l
/-- The room that one length takes. -/
def room1 (x : Int) : Nat := if 0 < x then 32768 / 2 ^ x.toNat else 0
def roomN (ls : List Int) : Nat := (ls.map room1).sum
/-- The lengths are in bounds. -/
def InB (ls : List Int) : Prop := ∀ x ∈ ls, 0 ≤ x ∧ x ≤ 15
/-- The room of the lengths up to l. -/
def part (ls : List Int) (l : Nat) : Nat := (ls.map fun (x : Int) => if 0 < x ∧ x ≤ (l : Int) then 2 ^ (15 - x.toNat) else 0).sum

theorem part_zero (ls : List Int) : part ls 0 = 0 := by
  induction ls with
  | nil => rfl
  | cons x ls ih =>
    unfold part at ih ⊢
    rw [List.map_cons, List.sum_cons, ih, if_neg (by omega)]
theorem part_succ (ls : List Int) (l : Nat) : part ls (l + 1) = part ls l + cnt ls (l + 1) * 2 ^ (15 - (l + 1)) := by
  induction ls with
  | nil => simp [part, cnt]
  | cons x ls ih =>
    unfold part cnt at ih ⊢
    rw [if_neg (by omega)] at ih ⊢
    rw [List.map_cons, List.map_cons, List.sum_cons, List.sum_cons, ih, List.count_cons]
    by_cases h : x = ((l + 1 : Nat) : Int)
    · subst h
      have e : ((l + 1 : Nat) : Int).toNat = l + 1 := by omega
      rw [if_pos (by omega), if_neg (by omega), if_pos (by simp), e, Nat.add_mul]
      omega
    · have e1 : (if 0 < x ∧ x ≤ ((l + 1 : Nat) : Int) then 2 ^ (15 - x.toNat) else 0) = (if 0 < x ∧ x ≤ (l : Int) then 2 ^ (15 - x.toNat) else 0) := by
        split <;> split <;> first | rfl | omega
      have e2 : (if (x == ((l + 1 : Nat) : Int)) = true then 1 else 0) = 0 := if_neg (by rw [beq_iff_eq]; exact h)
      rw [e1, e2]
      simp only [Nat.add_zero]
      omega
theorem part_eq (ls : List Int) : ∀ l, l ≤ 15 → part ls l = (fst ls l + cnt ls l) * 2 ^ (15 - l)
  | 0, _ => by rw [part_zero]; simp [fst, cnt]
  | l + 1, h => by
    have e : 15 - l = (15 - (l + 1)) + 1 := by omega
    rw [part_succ, part_eq ls l (by omega), fst, e, Nat.pow_succ]
    generalize fst ls l + cnt ls l = F
    generalize 2 ^ (15 - (l + 1)) = P
    rw [Nat.add_mul, Nat.mul_comm P 2, ← Nat.mul_assoc, Nat.mul_comm F 2]
theorem part_le (ls : List Int) (h : InB ls) (l : Nat) : part ls l ≤ roomN ls := by
  induction ls with
  | nil => exact Nat.le_refl _
  | cons x ls ih =>
    have h1 := ih (fun y hy => h y (by simp [hy]))
    have h2 := h x (by simp)
    unfold part roomN at h1 ⊢
    rw [List.map_cons, List.map_cons, List.sum_cons, List.sum_cons]
    have : (if 0 < x ∧ x ≤ (l : Int) then 2 ^ (15 - x.toNat) else 0) ≤ room1 x := by
      unfold room1
      split
      · rename_i hx
        rw [if_pos hx.1]
        have e : 32768 = 2 ^ (15 - x.toNat) * 2 ^ x.toNat := by
          rw [← Nat.pow_add]
          have : 15 - x.toNat + x.toNat = 15 := by omega
          rw [this]
        rw [e, Nat.mul_div_cancel _ (Nat.two_pow_pos _)]
        exact Nat.le_refl _
      · exact Nat.zero_le _
    omega
/-- The codes fit. -/
theorem kraft {ls : List Int} (h : InB ls) (hr : roomN ls ≤ 32768) {l : Nat} (hl : l ≤ 15) : fst ls l + cnt ls l ≤ 2 ^ l := by
  have h1 := part_le ls h l
  rw [part_eq ls l hl] at h1
  have h2 : (fst ls l + cnt ls l) * 2 ^ (15 - l) ≤ 2 ^ l * 2 ^ (15 - l) := by
    rw [← Nat.pow_add]
    have : l + (15 - l) = 15 := by omega
    rw [this]
    exact Nat.le_trans h1 hr
  exact Nat.le_of_mul_le_mul_right h2 (Nat.two_pow_pos _)
/-- A longer code's first one stands behind all shorter ones. -/
theorem fst_ge (ls : List Int) (n d : Nat) : 2 ^ (d + 1) * (fst ls n + cnt ls n) ≤ fst ls (n + d + 1) := by
  induction d with
  | zero => rw [Nat.add_zero, fst]; exact Nat.le_refl _
  | succ d ih =>
    rw [show n + (d + 1) + 1 = (n + d + 1) + 1 from by omega, fst, Nat.pow_succ]
    have : 2 ^ (d + 1) * 2 * (fst ls n + cnt ls n) = 2 * (2 ^ (d + 1) * (fst ls n + cnt ls n)) := by
      rw [Nat.mul_comm (2 ^ (d + 1)) 2, Nat.mul_assoc]
    rw [this]
    omega
theorem fst_gt {ls : List Int} {n m : Nat} (h : n < m) : 2 ^ (m - n) * (fst ls n + cnt ls n) ≤ fst ls m := by
  have := fst_ge ls n (m - n - 1)
  have e1 : m - n - 1 + 1 = m - n := by omega
  have e2 : n + (m - n - 1) + 1 = m := by omega
  rw [e1, e2] at this
  exact this
/-- A symbol's number among those of its length. -/
def rank (ls : List Int) (s : Nat) : Nat := (ls.take s).count (ls.getD s 0)
def len (ls : List Int) (s : Nat) : Nat := (ls.getD s 0).toNat
def code (ls : List Int) (s : Nat) : Nat := fst ls (len ls s) + rank ls s
theorem rank_lt {ls : List Int} (h : InB ls) {s : Nat} (hs : s < ls.length) (hl : 0 < len ls s) : rank ls s < cnt ls (len ls s) := by
  have hg : ls.getD s 0 = ls[s] := by simp [hs]
  have hb := h _ (List.getElem_mem hs)
  unfold rank cnt len at *
  rw [hg] at hl ⊢
  rw [if_neg (by omega)]
  have e : ((ls[s].toNat : Nat) : Int) = ls[s] := by omega
  rw [e]
  have hd : ls = ls.take s ++ ls[s] :: ls.drop (s + 1) := by simp
  have hc := congrArg (List.count ls[s]) hd
  rw [List.count_append, List.count_cons] at hc
  simp only [beq_self_eq_true, if_true] at hc
  omega
theorem code_lt {ls : List Int} (h : InB ls) (hr : roomN ls ≤ 32768) {s : Nat} (hs : s < ls.length) (hl : 0 < len ls s) : code ls s < 2 ^ len ls s := by
  have h1 := rank_lt h hs hl
  have hb : len ls s ≤ 15 := by
    have := h _ (List.getElem_mem hs)
    unfold len
    simp [hs]
    omega
  have h2 := kraft h hr hb
  unfold code
  omega
theorem rank_mono {ls : List Int} {a b : Nat} (hab : a < b) (hb : b < ls.length) (he : ls.getD a 0 = ls.getD b 0) : rank ls a < rank ls b := by
  have ha : a < ls.length := by omega
  unfold rank
  rw [← he]
  have hg : ls.getD a 0 = ls[a] := by simp [ha]
  have e : ls.take b = ls.take a ++ ls[a] :: (ls.drop (a + 1)).take (b - a - 1) := by
    conv => lhs; rw [← List.take_append_drop a ls]
    rw [List.take_append, List.drop_eq_getElem_cons ha, List.length_take, Nat.min_eq_left (by omega), List.take_take, Nat.min_eq_right (by omega)]
    congr 1
    obtain ⟨d, hd⟩ : ∃ d, b - a = d + 1 := ⟨b - a - 1, by omega⟩
    rw [hd, List.take_succ_cons]
    simp
  rw [e, List.count_append, hg, List.count_cons]
  simp only [beq_self_eq_true, if_true]
  omega
/-- The codes stand in order, by length, then by symbol. -/
theorem code_order {ls : List Int} (h : InB ls) {a b : Nat} (ha : a < ls.length) (hb : b < ls.length) (la : 0 < len ls a) (lb : 0 < len ls b) (hl : len ls a < len ls b ∨ len ls a = len ls b ∧ a < b) :
    (code ls a + 1) * 2 ^ (len ls b - len ls a) ≤ code ls b := by
  rcases hl with hl | ⟨hl, hab⟩
  · have h1 := rank_lt h ha la
    have h2 := fst_gt (ls := ls) hl
    have h3 : (code ls a + 1) * 2 ^ (len ls b - len ls a) ≤ (fst ls (len ls a) + cnt ls (len ls a)) * 2 ^ (len ls b - len ls a) := Nat.mul_le_mul_right _ (by unfold code; omega)
    rw [Nat.mul_comm] at h2
    unfold code at h3 ⊢
    omega
  · have he : ls.getD a 0 = ls.getD b 0 := by
      have h1 := h _ (List.getElem_mem ha)
      have h2 := h _ (List.getElem_mem hb)
      unfold len at hl
      simp [ha, hb] at hl ⊢
      omega
    have := rank_mono hab hb he
    rw [hl, Nat.sub_self, Nat.pow_zero, Nat.mul_one]
    unfold code
    rw [hl]
    omega
/-- No code is another one's beginning. -/
theorem prefix_free {ls : List Int} (h : InB ls) {a b : Nat} (ha : a < ls.length) (hb : b < ls.length) (la : 0 < len ls a) (hab : a ≠ b) (hl : len ls a ≤ len ls b) : code ls b / 2 ^ (len ls b - len ls a) ≠ code ls a := by
  intro he
  have lb : 0 < len ls b := by omega
  rcases Nat.lt_or_eq_of_le hl with hl | hl
  · have h1 := code_order h ha hb la lb (.inl hl)
    have h2 := (Nat.le_div_iff_mul_le (Nat.two_pow_pos (len ls b - len ls a))).2 h1
    omega
  · rw [hl, Nat.sub_self, Nat.pow_zero, Nat.div_one] at he
    rcases Nat.lt_or_gt_of_ne hab with h2 | h2
    · have h1 := code_order h ha hb la lb (.inr ⟨hl, h2⟩)
      rw [hl, Nat.sub_self, Nat.pow_zero, Nat.mul_one] at h1
      omega
    · have h1 := code_order h hb ha lb la (.inr ⟨hl.symm, h2⟩)
      rw [hl, Nat.sub_self, Nat.pow_zero, Nat.mul_one] at h1
      omega
end Go.Huff

-- B1
namespace Go.L1
open Go Go.Sx Go.Proofs Go.Huff
set_option maxRecDepth 20000
set_option linter.unusedVariables false
set_option linter.unusedSimpArgs false
def RoomIs (ls : List Int) (r : Int) (ok : Bool) : Prop := (ok = true ∧ ls.length ≤ 320 ∧ InB ls ∧ r = roomN ls) ∨ (ok = false ∧ ¬ (ls.length ≤ 320 ∧ InB ls) ∧ r = 0)
def RoomInv (ls : List Int) (w : Int × Int) : Prop := ∃ j : Nat, j ≤ ls.length ∧ w.2 = j ∧ w.1 = roomN (ls.take j) ∧ InB (ls.take j)
structure RoomAt (A : Leaf) (ls : List Int) (n i : Int) (j : Nat) : Prop where
  lt : j < ls.length
  ei : i = j
  en : n = roomN (ls.take j)
  inb : InB (ls.take j)
  q1 : A.inb i (A.len ls)
  g : A.get 0 ls i = ls.getD j 0
  bnd : InB ls → 0 ≤ A.get 0 ls i ∧ A.get 0 ls i ≤ 15
theorem roomAt {A : Leaf} {ls : List Int} {n i : Int} (hA : A = .std) (hl : ls.length ≤ 320) (h : RoomInv ls (n, i)) (hi : A.cmp .lss i (A.len ls) = true) : ∃ j, RoomAt A ls n i j := by
  obtain ⟨j, h1, h2, h3, h4⟩ := h
  subst hA
  simp only at h2 h3
  have hi : i < (ls.length : Int) := of_decide_eq_true hi
  have hj : j < ls.length := by omega
  have hg : Leaf.std.get 0 ls i = ls.getD j 0 := by show ls.getD i.toNat 0 = _; rw [h2, Int.toNat_natCast]
  refine ⟨j, hj, h2, h3, h4, ?_, hg, fun hb => ?_⟩
  · show (0 : Int) ≤ i ∧ i < (ls.length : Int); omega
  · rw [hg, List.getD_eq_getElem?_getD, List.getElem?_eq_getElem hj]
    exact hb _ (List.getElem_mem hj)
theorem roomN_le (l : List Int) : roomN l ≤ 32768 * l.length := by
  induction l with
  | nil => simp [roomN]
  | cons x l ih =>
    unfold roomN at ih ⊢
    rw [List.map_cons, List.sum_cons, List.length_cons]
    have : room1 x ≤ 32768 := by unfold room1; split; exact Nat.div_le_self _ _; decide
    omega
theorem RoomAt.next {A : Leaf} {ls : List Int} {n i : Int} {j : Nat} (h : RoomAt A ls n i j) (hA : A = .std) (hl : ls.length ≤ 320) (g0 : ¬ A.get 0 ls i < 0) (g1 : ¬ 15 < A.get 0 ls i) (n' : Int)
    (hn : (0 < A.get 0 ls i ∧ n' = A.ar .add .i64 n (A.ar .shr .i64 32768 (A.get 0 ls i))) ∨ (¬ 0 < A.get 0 ls i ∧ n' = n)) :
    RoomInv ls (n', A.ar .add .i64 i 1) ∧ (ls.length - A.ar .add .i64 i 1).toNat < (ls.length - i).toNat := by
  obtain ⟨h1, h2, h3, h4, _, h5, _⟩ := h
  rw [h5] at g0 g1 hn
  have e1 : A.ar .add .i64 i 1 = ((j + 1 : Nat) : Int) := by subst hA; rw [h2, add_i64 (by omega) (by omega)]; omega
  have hg : ls.getD j 0 = ls[j] := by simp [h1]
  have ht : ls.take (j + 1) = ls.take j ++ [ls[j]] := List.take_succ_eq_append_getElem h1
  have hr : roomN (ls.take (j + 1)) = roomN (ls.take j) + room1 (ls.getD j 0) := by
    rw [ht, hg]; unfold roomN
    rw [List.map_append, List.sum_append, List.map_cons, List.map_nil, List.sum_cons, List.sum_nil, Nat.add_zero]
  have hle := roomN_le (ls.take j)
  have hlt : (ls.take j).length ≤ j := by simp; omega
  refine ⟨⟨j + 1, by omega, e1, ?_, ?_⟩, by rw [e1]; omega⟩
  · show n' = _
    rw [hr]
    rcases hn with ⟨k1, k2⟩ | ⟨k1, k2⟩
    · have hd : 32768 / 2 ^ (ls.getD j 0).toNat ≤ 32768 := Nat.div_le_self _ _
      have e : LAr .shr .i64 32768 (ls.getD j 0) = ((32768 / 2 ^ (ls.getD j 0).toNat : Nat) : Int) := by
        rw [l_shr_i64 (by omega) (by omega)]; simp
      have hr1 : room1 (ls.getD j 0) = 32768 / 2 ^ (ls.getD j 0).toNat := if_pos k1
      rw [k2, hr1]
      subst hA
      show Leaf.std.ar .add .i64 n (LAr .shr .i64 32768 (ls.getD j 0)) = _
      rw [e, h3]
      generalize 32768 / 2 ^ (ls.getD j 0).toNat = q at *
      rw [add_i64 (by omega) (by omega)]
      omega
    · have hr1 : room1 (ls.getD j 0) = 0 := if_neg k1
      rw [k2, hr1, h3]; rfl
  · show InB (ls.take (j + 1))
    rw [ht]
    intro x hx
    rcases List.mem_append.1 hx with hx | hx
    · exact h4 x hx
    · rw [List.mem_singleton] at hx
      rw [hx, ← hg]; omega
theorem room_ok (ls : List Int) : FOK Try.prog C1 17 (fun _ => true) [.ro (.ints .i64 ls)] []
    (fun rs H => ∃ r ok, rs = [.int .i64 r, .bool (.e ok)] ∧ H = [] ∧ RoomIs ls r ok) := by
  refine fok_of (B := ⟨lookT tis, fun _ => true, []⟩) (tab1 _) (zero1 _) cod1 mix1 Try.func17 (by kernel_rfl) rfl rfl rfl fun X F => ?_
  obtain ⟨A, hA⟩ : ∃ A, A = Leaf.std := ⟨_, rfl⟩
  refine F.hold hA 2000 ?_
  cbv
  repeat' (first
    | refine OK.drawn (by decide +kernel) ?_
    | refine OK.tree ⟨lookT tis, fun _ => true, []⟩ (by decide +kernel) ?_
    | refine OK.both ?_ ?_
    | refine OK.need (by first | assumption | (rw [hA]; first | (show (_ : Int) ≠ _; decide) | (show (0 : Int) ≤ _; decide) | (show (0 : Int) ≤ _ ∧ _ < (256 : Int); decide))) ?_
    | refine OK.need ?_ ?_
    | (refine OK.branch ?_ ?_ <;> intro h)
    | (refine F.hold hA 2000 ?_; cbv))
  · refine F.retE rfl ⟨_, _, rfl, rfl, .inr ⟨rfl, ?_, rfl⟩⟩
    try clear hBk
    try clear F
    rw [std_eq] at hA; subst hA
    try simp (disch := omega) only [lf, decide_eq_true_eq, decide_eq_false_iff_not, Int.not_lt, Int.not_le, Bool.not_eq_true', Bool.not_eq_false', Bool.not_true, Bool.not_false, gt_iff_lt, ge_iff_le, Int.toNat_natCast, Bool.true_eq_false, Bool.false_eq_true, beq_iff_eq, Bool.not_eq_eq_eq_not, ne_eq, lT_len, lT_get] at *
    try simp (disch := omega) only [lf, decide_eq_true_eq, decide_eq_false_iff_not, Int.not_lt, Int.not_le, Bool.not_eq_true', Bool.not_eq_false', Bool.not_true, Bool.not_false, gt_iff_lt, ge_iff_le, Int.toNat_natCast, Bool.true_eq_false, Bool.false_eq_true, beq_iff_eq, Bool.not_eq_eq_eq_not, ne_eq, lT_len, lT_get] at *
    omega
  refine F.loop (V := Int × Int) [0, 10, 11] (RoomInv ls) (fun w => (ls.length - w.2).toNat) (fun w => [(4, .int .i64 w.1), (12, .int .i64 w.2)]) (fun w => []) (_, _) (by cbv; repeat (first | exact WkH.nil _ | apply WkH.gone | refine WkH.eq rfl ?_)) (by cbv; repeat (first | apply WkL.any | exact WkL.nil _ | refine WkL.eq rfl ?_ | refine WkL.bool rfl ?_)) (by cbv; exact ⟨rfl⟩) ?_ ?_
  · exact ⟨0, Nat.zero_le _, rfl, rfl, fun x hx => by cases hx⟩
  rintro ⟨n, i⟩ hI Bk hBk
  have hl : Nat.le ls.length 320 := by
    try clear hBk
    try clear F
    rw [std_eq] at hA; subst hA
    try simp (disch := omega) only [lf, decide_eq_true_eq, decide_eq_false_iff_not, Int.not_lt, Int.not_le, Bool.not_eq_true', Bool.not_eq_false', Bool.not_true, Bool.not_false, gt_iff_lt, ge_iff_le, Int.toNat_natCast, Bool.true_eq_false, Bool.false_eq_true, beq_iff_eq, Bool.not_eq_eq_eq_not, ne_eq, lT_len, lT_get] at *
    try simp (disch := omega) only [lf, decide_eq_true_eq, decide_eq_false_iff_not, Int.not_lt, Int.not_le, Bool.not_eq_true', Bool.not_eq_false', Bool.not_true, Bool.not_false, gt_iff_lt, ge_iff_le, Int.toNat_natCast, Bool.true_eq_false, Bool.false_eq_true, beq_iff_eq, Bool.not_eq_eq_eq_not, ne_eq, lT_len, lT_get] at *
    show ls.length ≤ 320
    omega
  repeat (first
    | refine OK.drawn (by decide +kernel) ?_
    | refine OK.tree ⟨lookT tis, fun _ => true, []⟩ (by decide +kernel) ?_
    | refine OK.need (by first | assumption | (rw [hA]; first | (show (_ : Int) ≠ _; decide) | (show (0 : Int) ≤ _; decide) | (show (0 : Int) ≤ _ ∧ _ < (256 : Int); decide))) ?_
    | (refine F.hold hA 2000 ?_; cbv))
  refine OK.branch (fun h1 => ?_) (fun h1 => ?_)
  · obtain ⟨j, hat⟩ := roomAt hA hl hI h1
    have q1 := hat.q1
    repeat' (first
      | refine OK.drawn (by decide +kernel) ?_
      | refine OK.tree ⟨lookT tis, fun _ => true, []⟩ (by decide +kernel) ?_
      | refine OK.both ?_ ?_
      | refine OK.need (by first | assumption | (rw [hA]; first | (show (_ : Int) ≠ _; decide) | (show (0 : Int) ≤ _; decide) | (show (0 : Int) ≤ _ ∧ _ < (256 : Int); decide))) ?_
      | refine OK.need ?_ ?_
      | (refine OK.branch ?_ ?_ <;> intro h)
      | (refine F.hold hA 2000 ?_; cbv))
    · refine F.retE rfl ⟨_, _, rfl, rfl, .inr ⟨rfl, fun hh => ?_, rfl⟩⟩
      obtain ⟨hb1, hb2⟩ := hat.bnd hh.2
      subst hA
      have h := of_decide_eq_true h
      omega
    · refine F.retE rfl ⟨_, _, rfl, rfl, .inr ⟨rfl, fun hh => ?_, rfl⟩⟩
      obtain ⟨hb1, hb2⟩ := hat.bnd hh.2
      subst hA
      have h := of_decide_eq_true h
      omega
    · subst hA
      show (0 : Int) ≤ Leaf.std.get 0 ls i
      have : 0 < Leaf.std.get 0 ls i := of_decide_eq_true h
      omega
    · refine OK.back (hBk _ _ (_, _) (by cbv; repeat (first | exact WkH.nil _ | apply WkH.gone | refine WkH.eq rfl ?_)) (by cbv; repeat (first | apply WkL.any | exact WkL.nil _ | refine WkL.eq rfl ?_ | refine WkL.bool rfl ?_)) (by cbv; exact ⟨rfl⟩) ?_ ?_)
      all_goals
        have k0 : ¬ A.get 0 ls i < 0 := by subst hA; rename_i a b; exact of_decide_eq_false a
        have k1 : ¬ 15 < A.get 0 ls i := by subst hA; rename_i a b; exact of_decide_eq_false b
        have k2 : 0 < A.get 0 ls i := by subst hA; exact of_decide_eq_true h
      · exact (hat.next hA hl k0 k1 _ (.inl ⟨k2, rfl⟩)).1
      · exact (hat.next hA hl k0 k1 _ (.inl ⟨k2, rfl⟩)).2
    · refine OK.back (hBk _ _ (_, _) (by cbv; repeat (first | exact WkH.nil _ | apply WkH.gone | refine WkH.eq rfl ?_)) (by cbv; repeat (first | apply WkL.any | exact WkL.nil _ | refine WkL.eq rfl ?_ | refine WkL.bool rfl ?_)) (by cbv; exact ⟨rfl⟩) ?_ ?_)
      all_goals
        have k0 : ¬ A.get 0 ls i < 0 := by subst hA; rename_i a b; exact of_decide_eq_false a
        have k1 : ¬ 15 < A.get 0 ls i := by subst hA; rename_i a b; exact of_decide_eq_false b
        have k2 : ¬ 0 < A.get 0 ls i := by subst hA; exact of_decide_eq_false h
      · exact (hat.next hA hl k0 k1 _ (.inr ⟨k2, rfl⟩)).1
      · exact (hat.next hA hl k0 k1 _ (.inr ⟨k2, rfl⟩)).2
  · repeat' (first
      | refine OK.drawn (by decide +kernel) ?_
      | refine OK.tree ⟨lookT tis, fun _ => true, []⟩ (by decide +kernel) ?_
      | refine OK.both ?_ ?_
      | refine OK.need (by first | assumption | (rw [hA]; first | (show (_ : Int) ≠ _; decide) | (show (0 : Int) ≤ _; decide) | (show (0 : Int) ≤ _ ∧ _ < (256 : Int); decide))) ?_
      | refine OK.need ?_ ?_
      | (refine OK.branch ?_ ?_ <;> intro h)
      | (refine F.hold hA 2000 ?_; cbv))
    refine F.retE rfl ⟨_, _, rfl, rfl, .inl ⟨rfl, ?_⟩⟩
    obtain ⟨j, e1, e2, e3, e4⟩ := hI
    simp only at e2 e3
    have hj : j = ls.length := by
      subst hA
      have : ¬ i < (ls.length : Int) := of_decide_eq_false h1
      omega
    rw [hj, List.take_length] at e3 e4
    exact ⟨hl, e4, e3⟩
end Go.L1

-- H3
namespace Go.L1
open Go Go.Sx Go.Proofs Go.Huff
set_option linter.unusedVariables false
def tab16 (f : Nat → Int) : List Int := (List.range 16).map f
theorem tab16_get (f : Nat → Int) {k : Nat} (h : k < 16) : (tab16 f).getD k 0 = f k := by
  unfold tab16
  rw [List.getD_eq_getElem?_getD, List.getElem?_map, List.getElem?_range h]; rfl
theorem tab16_set (f : Nat → Int) {i : Nat} (h : i < 16) (v : Int) : (tab16 f).set i v = tab16 (fun k => if k = i then v else f k) := by
  refine List.ext_getElem (by simp [tab16]) fun k h1 h2 => ?_
  simp only [tab16, List.getElem_set, List.getElem_map, List.getElem_range]
  by_cases hk : i = k
  · subst hk; simp
  · rw [if_neg hk, if_neg (fun h => hk h.symm)]
theorem tab16_congr {f g : Nat → Int} (h : ∀ k, k < 16 → f k = g k) : tab16 f = tab16 g := by
  unfold tab16
  refine List.map_congr_left fun k hk => h k (by simpa using hk)
/-- How many of the first j have a length; nothing of 0. -/
def seenF (ls : List Int) (j : Nat) (k : Nat) : Int := (((ls.take j).count (k : Int) : Nat) : Int)
def cntF (ls : List Int) (k : Nat) : Int := ((cnt ls k : Nat) : Int)
def fstF (ls : List Int) (l : Nat) (k : Nat) : Int := if k < l then ((fst ls k : Nat) : Int) else 0
def stF (ls : List Int) (l : Nat) (k : Nat) : Int := if k < l then ((st ls k : Nat) : Int) else 0
theorem count_take_succ {ls : List Int} {j : Nat} (h : j < ls.length) (x : Int) : (ls.take (j + 1)).count x = (ls.take j).count x + (if ls.getD j 0 = x then 1 else 0) := by
  have hg : ls.getD j 0 = ls[j] := by simp [h]
  rw [List.take_succ_eq_append_getElem h, List.count_append, hg, List.count_cons, List.count_nil]
  by_cases hx : ls[j] = x
  · simp [hx]
  · have : (ls[j] == x) = false := by simpa using hx
    rw [this, if_neg hx]
    simp
theorem seen_step {ls : List Int} {j : Nat} (h : j < ls.length) (hb : 0 ≤ ls.getD j 0 ∧ ls.getD j 0 ≤ 15) :
    (tab16 (seenF ls j)).set (ls.getD j 0).toNat (seenF ls j (ls.getD j 0).toNat + 1) = tab16 (seenF ls (j + 1)) := by
  rw [tab16_set _ (by omega)]
  refine tab16_congr fun k hk => ?_
  unfold seenF
  rw [count_take_succ h]
  by_cases hkk : k = (ls.getD j 0).toNat
  · rw [if_pos hkk, hkk, if_pos (by omega)]
    omega
  · rw [if_neg hkk, if_neg (by omega)]
    rfl
theorem cnt_le (ls : List Int) (k : Nat) : cnt ls k ≤ ls.length := by
  unfold cnt; split
  · omega
  · exact List.count_le_length
theorem st_mono (ls : List Int) {a b : Nat} (h : a < b) : st ls a + cnt ls a ≤ st ls b := by
  obtain ⟨d, rfl⟩ := Nat.exists_eq_add_of_lt h
  induction d with
  | zero => exact Nat.le_refl _
  | succ d ih =>
    have := ih (by omega)
    rw [show a + (d + 1) + 1 = (a + d + 1) + 1 from by omega, st]
    omega
theorem st_le (ls : List Int) (k : Nat) : st ls k ≤ k * ls.length := by
  induction k with
  | zero => simp [st]
  | succ k ih => have := cnt_le ls k; rw [st, Nat.add_mul]; omega
/-- A symbol's word, as New lays it down. -/
def wd (ls : List Int) (s : Nat) : Pr := if len ls s = 0 then ⟨0, 0⟩ else ⟨((revN (len ls s) (code ls s) : Nat) : Int), ((len ls s : Nat) : Int)⟩
def wds (ls : List Int) (j : Nat) : List Pr := (List.range ls.length).map fun s => if s < j then wd ls s else ⟨0, 0⟩
theorem wds_len (ls : List Int) (j : Nat) : (wds ls j).length = ls.length := by simp [wds]
theorem wds_get (ls : List Int) (j : Nat) {s : Nat} (h : s < ls.length) : (wds ls j).getD s ⟨0, 0⟩ = if s < j then wd ls s else ⟨0, 0⟩ := by
  unfold wds
  rw [List.getD_eq_getElem?_getD, List.getElem?_map, List.getElem?_range h]; rfl
theorem wds_set {ls : List Int} {j : Nat} (h : j < ls.length) : (wds ls j).set j (wd ls j) = wds ls (j + 1) := by
  refine List.ext_getElem (by simp [wds]) fun k h1 h2 => ?_
  simp only [wds, List.getElem_set, List.getElem_map, List.getElem_range]
  by_cases hk : j = k
  · subst hk; simp
  · rw [if_neg hk]
    by_cases h3 : k < j
    · rw [if_pos h3, if_pos (by omega)]
    · rw [if_neg h3, if_neg (by omega)]
theorem wds_skip {ls : List Int} {j : Nat} (h : j < ls.length) (h0 : len ls j = 0) : wds ls j = wds ls (j + 1) := by
  rw [← wds_set h]
  have : wd ls j = ⟨0, 0⟩ := if_pos h0
  rw [this]
  refine List.ext_getElem (by simp) fun k h1 h2 => ?_
  simp only [wds, List.getElem_set, List.getElem_map, List.getElem_range]
  by_cases hk : j = k
  · subst hk; simp
  · rw [if_neg hk]
theorem wds_zero (ls : List Int) : List.replicate ls.length ⟨0, 0⟩ = wds ls 0 := by
  refine List.ext_getElem (by simp [wds]) fun k h1 h2 => ?_
  simp [wds]
/-- The order of the symbols, as far as it is laid down. -/
structure OrdOK (ls : List Int) (j : Nat) (os : List Int) : Prop where
  ln : os.length = st ls 15 + cnt ls 15
  at_ : ∀ s, s < j → 0 < Huff.len ls s → os.getD (st ls (Huff.len ls s) + rank ls s) 0 = (s : Int)
theorem slot_lt {ls : List Int} (h : InB ls) {s : Nat} (hs : s < ls.length) (hl : 0 < len ls s) : st ls (len ls s) + rank ls s < st ls 15 + cnt ls 15 := by
  have h1 := rank_lt h hs hl
  have hb : len ls s ≤ 15 := by
    have := h _ (List.getElem_mem hs)
    unfold len
    simp [hs]
    omega
  rcases Nat.lt_or_eq_of_le hb with h2 | h2
  · have := st_mono ls h2
    omega
  · rw [h2] at h1 ⊢; omega
theorem slot_ne {ls : List Int} (h : InB ls) {a b : Nat} (ha : a < ls.length) (hb : b < ls.length) (la : 0 < len ls a) (lb : 0 < len ls b) (hab : a < b) : st ls (len ls a) + rank ls a ≠ st ls (len ls b) + rank ls b := by
  have h1 := rank_lt h ha la
  have h2 := rank_lt h hb lb
  rcases Nat.lt_trichotomy (len ls a) (len ls b) with h3 | h3 | h3
  · have := st_mono ls h3; omega
  · have he : ls.getD a 0 = ls.getD b 0 := by
      have k1 := h _ (List.getElem_mem ha)
      have k2 := h _ (List.getElem_mem hb)
      unfold len at h3
      simp [ha, hb] at h3 ⊢
      omega
    have := rank_mono hab hb he
    rw [h3]; omega
  · have := st_mono ls h3; omega
theorem OrdOK.next {ls : List Int} (h : InB ls) {j : Nat} {os : List Int} (ho : OrdOK ls j os) (hj : j < ls.length) (hl : 0 < len ls j) : OrdOK ls (j + 1) (os.set (st ls (len ls j) + rank ls j) (j : Int)) := by
  refine ⟨by rw [List.length_set]; exact ho.ln, fun s hs hl2 => ?_⟩
  rcases Nat.lt_or_eq_of_le (Nat.le_of_lt_succ hs) with h1 | h1
  · have := slot_ne h (by omega) hj hl2 hl h1
    rw [List.getD_eq_getElem?_getD, List.getElem?_set_ne (fun h => this h.symm), ← List.getD_eq_getElem?_getD]
    exact ho.at_ s h1 hl2
  · subst h1
    have := slot_lt h hj hl
    rw [List.getD_eq_getElem?_getD, List.getElem?_set_self (by rw [ho.ln]; exact this)]
    rfl
theorem OrdOK.skip {ls : List Int} {j : Nat} {os : List Int} (ho : OrdOK ls j os) (h0 : len ls j = 0) : OrdOK ls (j + 1) os := by
  refine ⟨ho.ln, fun s hs hl2 => ?_⟩
  rcases Nat.lt_or_eq_of_le (Nat.le_of_lt_succ hs) with h1 | h1
  · exact ho.at_ s h1 hl2
  · subst h1; omega
end Go.L1

-- B2
namespace Go.L1
open Go Go.Sx Go.Proofs Go.Huff
set_option maxRecDepth 20000
set_option linter.unusedVariables false
set_option linter.unusedSimpArgs false
/-- The lengths' code can be made. -/
structure Fine (ls : List Int) : Prop where
  le : ls.length ≤ 320
  inb : InB ls
  room : roomN ls ≤ 32768
def N1Inv (ls : List Int) (w : Int × List Int) : Prop := ∃ j : Nat, w.1 = j ∧ j ≤ ls.length ∧ w.2 = tab16 (seenF ls j)
structure N1At (A : Leaf) (ls : List Int) (i : Int) (cs : List Int) : Prop where
  q1 : A.inb i (A.len ls)
  q2 : A.inb (A.get 0 ls i) 16
  nx : N1Inv ls (A.ar .add .i64 i 1, A.set cs (A.get 0 ls i) (A.ar .add .i64 (A.get 0 cs (A.get 0 ls i)) 1))
  mu : (ls.length - A.ar .add .i64 i 1).toNat < (ls.length - i).toNat
theorem n1At {A : Leaf} {ls : List Int} {i : Int} {cs : List Int} (hA : A = .std) (hf : Fine ls) (h : N1Inv ls (i, cs)) (hi : A.cmp .lss i (A.len ls) = true) : N1At A ls i cs := by
  obtain ⟨j, h1, h2, h3⟩ := h
  simp only at h1 h3
  subst hA
  have hi : i < (ls.length : Int) := of_decide_eq_true hi
  have hj : j < ls.length := by omega
  have hl := hf.le
  have hb : 0 ≤ ls.getD j 0 ∧ ls.getD j 0 ≤ 15 := by
    rw [List.getD_eq_getElem?_getD, List.getElem?_eq_getElem hj]; exact hf.inb _ (List.getElem_mem hj)
  have hg : Leaf.std.get 0 ls i = ls.getD j 0 := by show ls.getD i.toNat 0 = _; rw [h1, Int.toNat_natCast]
  have e1 : Leaf.std.ar .add .i64 i 1 = ((j + 1 : Nat) : Int) := by rw [h1, add_i64 (by omega) (by omega)]; omega
  refine ⟨?_, ?_, ⟨j + 1, e1, by omega, ?_⟩, by rw [e1]; omega⟩
  · show (0 : Int) ≤ i ∧ i < (ls.length : Int); omega
  · rw [hg]; show (0 : Int) ≤ _ ∧ _ < (16 : Int); omega
  · show Leaf.std.set cs (Leaf.std.get 0 ls i) (Leaf.std.ar .add .i64 (Leaf.std.get 0 cs (Leaf.std.get 0 ls i)) 1) = _
    rw [hg]
    have hc : Leaf.std.get 0 cs (ls.getD j 0) = seenF ls j (ls.getD j 0).toNat := by
      show cs.getD (ls.getD j 0).toNat 0 = _
      rw [h3, tab16_get _ (by omega)]
    have hn : 0 ≤ seenF ls j (ls.getD j 0).toNat ∧ seenF ls j (ls.getD j 0).toNat ≤ 320 := by
      unfold seenF
      have h1 := List.count_le_length (l := ls.take j) (a := (((ls.getD j 0).toNat : Nat) : Int))
      have h2 : (ls.take j).length ≤ ls.length := by simp; omega
      omega
    rw [hc, add_i64 (by omega) (by omega), h3]
    exact seen_step hj hb
def N2Inv (ls : List Int) (w : Int × List Int × List Int) : Prop := ∃ l : Nat, w.1 = l ∧ 1 ≤ l ∧ l ≤ 16 ∧ w.2.1 = tab16 (fstF ls l) ∧ w.2.2 = tab16 (stF ls l)
def CntIs (ls : List Int) (cs : List Int) : Prop := cs = tab16 (cntF ls)
theorem n1End {A : Leaf} {ls : List Int} {i : Int} {cs : List Int} (hA : A = .std) (h : N1Inv ls (i, cs)) (hi : A.cmp .lss i (A.len ls) = false) : CntIs ls (A.set cs 0 0) := by
  obtain ⟨j, h1, h2, h3⟩ := h
  simp only at h1 h3
  subst hA
  have hi : ¬ i < (ls.length : Int) := of_decide_eq_false hi
  have hj : j = ls.length := by omega
  show cs.set (0 : Int).toNat 0 = _
  rw [h3, tab16_set _ (by decide)]
  refine tab16_congr fun k hk => ?_
  unfold seenF cntF cnt
  rw [hj, List.take_length]
  by_cases hk0 : k = 0
  · rw [if_pos (by simpa using hk0), if_pos hk0]; rfl
  · rw [if_neg (by simpa using hk0), if_neg hk0]
structure N2At (A : Leaf) (ls cs : List Int) (l : Int) (fs ss : List Int) : Prop where
  q1 : A.inb l 16
  q2 : A.inb (A.ar .sub .i64 l 1) 16
  nx : N2Inv ls (A.ar .add .i64 l 1, A.set fs l (A.ar .shl .i64 (A.ar .add .i64 (A.get 0 fs (A.ar .sub .i64 l 1)) (A.get 0 cs (A.ar .sub .i64 l 1))) 1), A.set ss l (A.ar .add .i64 (A.get 0 ss (A.ar .sub .i64 l 1)) (A.get 0 cs (A.ar .sub .i64 l 1))))
  mu : (16 - A.ar .add .i64 l 1).toNat < (16 - l).toNat
theorem n2At {A : Leaf} {ls cs fs ss : List Int} {l : Int} (hA : A = .std) (hf : Fine ls) (hc : CntIs ls cs) (h : N2Inv ls (l, fs, ss)) (hi : A.cmp .leq l 15 = true) : N2At A ls cs l fs ss := by
  obtain ⟨k, h1, h2, h3, h4, h5⟩ := h
  simp only at h1 h4 h5
  subst hA
  have hi : l ≤ 15 := of_decide_eq_true hi
  have e0 : Leaf.std.ar .sub .i64 l 1 = ((k - 1 : Nat) : Int) := by rw [h1, sub_i64 (by omega) (by omega)]; omega
  have e1 : Leaf.std.ar .add .i64 l 1 = ((k + 1 : Nat) : Int) := by rw [h1, add_i64 (by omega) (by omega)]; omega
  have hk := kraft hf.inb hf.room (l := k - 1) (by omega)
  have hp : 2 ^ (k - 1) ≤ 2 ^ 14 := Nat.pow_le_pow_right (by decide) (by omega)
  have hst := st_le ls (k - 1)
  have hcl := cnt_le ls (k - 1)
  have hle := hf.le
  have hm : (k - 1) * ls.length ≤ 15 * 320 := Nat.mul_le_mul (by omega) hle
  have ek : k = (k - 1) + 1 := by omega
  have g1 : Leaf.std.get 0 fs ((k - 1 : Nat) : Int) = (fst ls (k - 1) : Nat) := by
    show fs.getD ((k - 1 : Nat) : Int).toNat 0 = _
    rw [Int.toNat_natCast, h4, tab16_get _ (by omega)]; unfold fstF; rw [if_pos (by omega)]
  have g2 : Leaf.std.get 0 cs ((k - 1 : Nat) : Int) = (cnt ls (k - 1) : Nat) := by
    show cs.getD ((k - 1 : Nat) : Int).toNat 0 = _
    unfold CntIs at hc
    rw [Int.toNat_natCast, hc, tab16_get _ (by omega)]; rfl
  have g3 : Leaf.std.get 0 ss ((k - 1 : Nat) : Int) = (st ls (k - 1) : Nat) := by
    show ss.getD ((k - 1 : Nat) : Int).toNat 0 = _
    rw [Int.toNat_natCast, h5, tab16_get _ (by omega)]; unfold stF; rw [if_pos (by omega)]
  have ef : fst ls k = 2 * (fst ls (k - 1) + cnt ls (k - 1)) := by conv => lhs; rw [ek, fst]
  have es : st ls k = st ls (k - 1) + cnt ls (k - 1) := by conv => lhs; rw [ek, st]
  rw [show N2At Leaf.std ls cs l fs ss ↔ N2At Leaf.std ls cs l fs ss from Iff.rfl]
  refine ⟨?_, ?_, ⟨k + 1, e1, by omega, by omega, ?_, ?_⟩, by rw [e1]; omega⟩
  · show (0 : Int) ≤ l ∧ l < (16 : Int); omega
  · rw [e0]; show (0 : Int) ≤ _ ∧ _ < (16 : Int); omega
  · show fs.set l.toNat (Leaf.std.ar .shl .i64 (Leaf.std.ar .add .i64 (Leaf.std.get 0 fs (Leaf.std.ar .sub .i64 l 1)) (Leaf.std.get 0 cs (Leaf.std.ar .sub .i64 l 1))) 1) = _
    rw [e0, g1, g2, add_i64 (by omega) (by omega), h1, Int.toNat_natCast]
    have esh : Leaf.std.ar .shl .i64 ((fst ls (k - 1) : Nat) + (cnt ls (k - 1) : Nat) : Int) 1 = (fst ls k : Nat) := by
      have := l_shl_i64 (a := ((fst ls (k - 1) : Nat) + (cnt ls (k - 1) : Nat) : Int)) (b := 1) (by decide) (by decide) (by simp; omega) (by simp; omega)
      show LAr .shl .i64 _ 1 = _
      rw [this, ef]; simp; omega
    rw [esh, h4, tab16_set _ (by omega)]
    refine tab16_congr fun m hm => ?_
    unfold fstF
    by_cases hmk : m = k
    · rw [if_pos hmk, if_pos (by omega), hmk]
    · rw [if_neg hmk]
      by_cases h6 : m < k
      · rw [if_pos h6, if_pos (by omega)]
      · rw [if_neg h6, if_neg (by omega)]
  · show ss.set l.toNat (Leaf.std.ar .add .i64 (Leaf.std.get 0 ss (Leaf.std.ar .sub .i64 l 1)) (Leaf.std.get 0 cs (Leaf.std.ar .sub .i64 l 1))) = _
    rw [e0, g3, g2, add_i64 (by omega) (by omega), h1, Int.toNat_natCast, h5, tab16_set _ (by omega)]
    refine tab16_congr fun m hm => ?_
    unfold stF
    by_cases hmk : m = k
    · rw [if_pos hmk, if_pos (by omega), hmk, es]; omega
    · rw [if_neg hmk]
      by_cases h6 : m < k
      · rw [if_pos h6, if_pos (by omega)]
      · rw [if_neg h6, if_neg (by omega)]
structure N2Fin (A : Leaf) (ls cs fs ss : List Int) : Prop where
  f : fs = tab16 (fstF ls 16)
  s : ss = tab16 (stF ls 16)
  i15 : A.inb 15 (Int.ofNat 16)
  n : A.ar .add .i64 (A.get 0 ss 15) (A.get 0 cs 15) = ((st ls 15 + cnt ls 15 : Nat) : Int)
  w1 : A.small (A.ar .add .i64 (A.get 0 ss 15) (A.get 0 cs 15)) 8
  w2 : A.slb 0 (A.ar .add .i64 (A.get 0 ss 15) (A.get 0 cs 15)) (A.ar .add .i64 (A.get 0 ss 15) (A.get 0 cs 15))
theorem n2Fin {A : Leaf} {ls cs fs ss : List Int} {l : Int} (hA : A = .std) (hf : Fine ls) (hc : CntIs ls cs) (h : N2Inv ls (l, fs, ss)) (hi : A.cmp .leq l 15 = false) : N2Fin A ls cs fs ss := by
  obtain ⟨k, h1, h2, h3, h4, h5⟩ := h
  simp only at h1 h4 h5
  subst hA
  have hi : ¬ l ≤ 15 := of_decide_eq_false hi
  have hk : k = 16 := by omega
  subst hk
  unfold CntIs at hc
  have hst := st_le ls 15
  have hcl := cnt_le ls 15
  have hle := hf.le
  have hm : 15 * ls.length ≤ 15 * 320 := Nat.mul_le_mul (by omega) hle
  have e : Leaf.std.ar .add .i64 (Leaf.std.get 0 ss 15) (Leaf.std.get 0 cs 15) = ((st ls 15 + cnt ls 15 : Nat) : Int) := by
    have g2 : Leaf.std.get 0 cs 15 = (cnt ls 15 : Nat) := by
      show cs.getD (15 : Int).toNat 0 = _
      rw [hc]
      exact tab16_get _ (by decide)
    have g3 : Leaf.std.get 0 ss 15 = (st ls 15 : Nat) := by
      show ss.getD (15 : Int).toNat 0 = _
      rw [h5]
      exact tab16_get _ (by decide)
    rw [g2, g3, add_i64 (by omega) (by omega)]; rfl
  refine ⟨h4, h5, ⟨by decide, by decide⟩, e, ?_, ?_⟩
  · rw [e]
    show (0 : Int) ≤ _ ∧ _ ≤ (140737488355328 : Int) ∧ _ * ((8 : Nat) : Int) ≤ 140737488355328
    omega
  · rw [e]
    show (0 : Int) ≤ 0 ∧ (0 : Int) ≤ _ ∧ _ ≤ _
    omega
def seenG (ls : List Int) (j : Nat) (k : Nat) : Int := if k = 0 then 0 else seenF ls j k
structure N3I (ls : List Int) (j : Nat) (ws : List Pr) (os seen : List Int) : Prop where
  le : j ≤ ls.length
  w : ws = wds ls j
  o : OrdOK ls j os
  s : seen = tab16 (seenG ls j)
def N3Inv (ls : List Int) (w : Int × List Pr × List Int × List Int) : Prop := ∃ j : Nat, w.1 = j ∧ N3I ls j w.2.1 w.2.2.1 w.2.2.2
structure N3At (A : Leaf) (ls fs ss : List Int) (i : Int) (ws : List Pr) (os seen : List Int) : Prop where
  q1 : A.inb i (A.len ls)
  q2 : A.inb (A.get 0 ls i) 16
  nz : A.cmp .eql (A.get 0 ls i) 0 = true → N3Inv ls (A.ar .add .i64 i 1, ws, os, seen)
  q3 : A.cmp .eql (A.get 0 ls i) 0 = false → A.inb (A.ar .add .i64 (A.get 0 ss (A.get 0 ls i)) (A.get 0 seen (A.get 0 ls i))) (A.len os)
  q4 : A.inb i (A.len ws)
  arg : A.cmp .eql (A.get 0 ls i) 0 = false → ∃ c, RevPre (A.conv .u32 (A.ar .add .i64 (A.get 0 fs (A.get 0 ls i)) (A.get 0 seen (A.get 0 ls i)))) (A.get 0 ls i) c ∧
    ∀ r, RevRes c (A.get 0 ls i) r → N3Inv ls (A.ar .add .i64 i 1, A.set ws i ⟨r, A.get 0 ls i⟩, A.set os (A.ar .add .i64 (A.get 0 ss (A.get 0 ls i)) (A.get 0 seen (A.get 0 ls i))) i, A.set seen (A.get 0 ls i) (A.ar .add .i64 (A.get 0 seen (A.get 0 ls i)) 1))
  mu : (ls.length - A.ar .add .i64 i 1).toNat < (ls.length - i).toNat
theorem seenG_step {ls : List Int} {j : Nat} (h : j < ls.length) (hb : 0 < ls.getD j 0 ∧ ls.getD j 0 ≤ 15) :
    (tab16 (seenG ls j)).set (ls.getD j 0).toNat (seenF ls j (ls.getD j 0).toNat + 1) = tab16 (seenG ls (j + 1)) := by
  rw [tab16_set _ (by omega)]
  refine tab16_congr fun k hk => ?_
  unfold seenG
  by_cases hkk : k = (ls.getD j 0).toNat
  · rw [if_pos hkk, if_neg (by omega), hkk]
    unfold seenF
    rw [count_take_succ h, if_pos (by omega)]
    omega
  · rw [if_neg hkk]
    by_cases h0 : k = 0
    · rw [if_pos h0, if_pos h0]
    · rw [if_neg h0, if_neg h0]
      unfold seenF
      rw [count_take_succ h, if_neg (by omega)]
      rfl
theorem n3At {A : Leaf} {ls cs fs ss : List Int} {i : Int} {ws : List Pr} {os seen : List Int} (hA : A = .std) (hf : Fine ls) (hn : N2Fin A ls cs fs ss) (h : N3Inv ls (i, ws, os, seen)) (hi : A.cmp .lss i (A.len ls) = true) : N3At A ls fs ss i ws os seen := by
  obtain ⟨j, h1, h2, h3, h4, h5⟩ := h
  simp only at h1 h3 h4 h5
  obtain ⟨n1, n2, _, _, _, _⟩ := hn
  subst hA
  have hi : i < (ls.length : Int) := of_decide_eq_true hi
  have hj : j < ls.length := by omega
  have hl := hf.le
  have hgd : ls.getD j 0 = ls[j] := by simp [hj]
  have hb : 0 ≤ ls.getD j 0 ∧ ls.getD j 0 ≤ 15 := by rw [hgd]; exact hf.inb _ (List.getElem_mem hj)
  have hg : Leaf.std.get 0 ls i = ls.getD j 0 := by show ls.getD i.toNat 0 = _; rw [h1, Int.toNat_natCast]
  have e1 : Leaf.std.ar .add .i64 i 1 = ((j + 1 : Nat) : Int) := by rw [h1, add_i64 (by omega) (by omega)]; omega
  have hws : ws.length = ls.length := by rw [h3, wds_len]
  have hlen : ((len ls j : Nat) : Int) = ls.getD j 0 := by unfold len; omega
  rw [show (N3At Leaf.std ls fs ss i ws os seen) = N3At Leaf.std ls fs ss i ws os seen from rfl]
  by_cases h0 : ls.getD j 0 = 0
  · have hl0 : len ls j = 0 := by omega
    refine ⟨?_, ?_, fun _ => ⟨j + 1, e1, by omega, ?_, h4.skip hl0, ?_⟩, fun hne => ?_, ?_, fun hne => ?_, by rw [e1]; omega⟩
    · show (0 : Int) ≤ i ∧ i < (ls.length : Int); omega
    · rw [hg]; show (0 : Int) ≤ _ ∧ _ < (16 : Int); omega
    · show ws = _
      rw [h3, wds_skip hj hl0]
    · show seen = _
      rw [h5]
      refine tab16_congr fun k hk => ?_
      unfold seenG
      by_cases hk0 : k = 0
      · rw [if_pos hk0, if_pos hk0]
      · rw [if_neg hk0, if_neg hk0]
        unfold seenF
        rw [count_take_succ hj, if_neg (by omega)]; rfl
    · exfalso
      rw [hg, h0] at hne
      cases hne
    · show (0 : Int) ≤ i ∧ i < (ws.length : Int); omega
    · exfalso
      rw [hg, h0] at hne
      cases hne
  · have hl0 : 0 < len ls j := by omega
    have hrk : rank ls j = (ls.take j).count (ls.getD j 0) := rfl
    have hrl := rank_lt hf.inb hj hl0
    have hcl := code_lt hf.inb hf.room hj hl0
    have hp : 2 ^ len ls j ≤ 2 ^ 15 := Nat.pow_le_pow_right (by decide) (by omega)
    have hsl := slot_lt hf.inb hj hl0
    have hst := st_le ls 15
    have hcn := cnt_le ls 15
    have hm : 15 * ls.length ≤ 15 * 320 := Nat.mul_le_mul (by omega) hl
    have gse : Leaf.std.get 0 seen (ls.getD j 0) = (rank ls j : Nat) := by
      show seen.getD (ls.getD j 0).toNat 0 = _
      rw [h5, tab16_get _ (by omega)]
      unfold seenG seenF
      rw [if_neg (by omega), hrk]
      have : (((ls.getD j 0).toNat : Nat) : Int) = ls.getD j 0 := by omega
      rw [this]
    have gf : Leaf.std.get 0 fs (ls.getD j 0) = (fst ls (len ls j) : Nat) := by
      show fs.getD (ls.getD j 0).toNat 0 = _
      rw [n1, tab16_get _ (by omega)]
      unfold fstF
      rw [if_pos (by omega)]; rfl
    have gs : Leaf.std.get 0 ss (ls.getD j 0) = (st ls (len ls j) : Nat) := by
      show ss.getD (ls.getD j 0).toNat 0 = _
      rw [n2, tab16_get _ (by omega)]
      unfold stF
      rw [if_pos (by omega)]; rfl
    have eslot : Leaf.std.ar .add .i64 (Leaf.std.get 0 ss (ls.getD j 0)) (Leaf.std.get 0 seen (ls.getD j 0)) = ((st ls (len ls j) + rank ls j : Nat) : Int) := by
      rw [gs, gse, add_i64 (by omega) (by omega)]; rfl
    have ecode : Leaf.std.conv .u32 (Leaf.std.ar .add .i64 (Leaf.std.get 0 fs (ls.getD j 0)) (Leaf.std.get 0 seen (ls.getD j 0))) = ((code ls j : Nat) : Int) := by
      have hc : code ls j = fst ls (len ls j) + rank ls j := rfl
      rw [gf, gse, add_i64 (by omega) (by omega), conv_u32 (by omega) (by omega)]
      omega
    refine ⟨?_, ?_, fun he => ?_, fun _ => ?_, ?_, fun _ => ⟨code ls j, ⟨?_, by omega⟩, fun r hr => ⟨j + 1, e1, by omega, ?_, ?_, ?_⟩⟩, by rw [e1]; omega⟩
    · show (0 : Int) ≤ i ∧ i < (ls.length : Int); omega
    · rw [hg]; show (0 : Int) ≤ _ ∧ _ < (16 : Int); omega
    · exfalso
      rw [hg] at he
      exact h0 (by have : ((ls.getD j 0 == 0) : Bool) = true := he; simpa using this)
    · rw [hg, eslot]
      show (0 : Int) ≤ _ ∧ _ < (os.length : Int)
      rw [h4.ln]; omega
    · show (0 : Int) ≤ i ∧ i < (ws.length : Int); omega
    · rw [hg]; exact ecode
    · show ws.set i.toNat ⟨r, Leaf.std.get 0 ls i⟩ = _
      unfold RevRes at hr
      rw [hg] at hr ⊢
      rw [if_pos (by omega)] at hr
      rw [h1, Int.toNat_natCast, h3, ← wds_set hj]
      congr 1
      unfold wd
      rw [if_neg (by omega), hr, hlen]
      rfl
    · show OrdOK ls (j + 1) (os.set (Leaf.std.ar .add .i64 (Leaf.std.get 0 ss (Leaf.std.get 0 ls i)) (Leaf.std.get 0 seen (Leaf.std.get 0 ls i))).toNat i)
      rw [hg, eslot, Int.toNat_natCast, h1]
      exact h4.next hf.inb hj hl0
    · show seen.set (Leaf.std.get 0 ls i).toNat (Leaf.std.ar .add .i64 (Leaf.std.get 0 seen (Leaf.std.get 0 ls i)) 1) = _
      rw [hg, gse, add_i64 (by omega) (by omega), h5]
      have := seenG_step hj (by omega)
      rw [← this]
      congr 1
      unfold seenF
      rw [hrk]
      have : (((ls.getD j 0).toNat : Nat) : Int) = ls.getD j 0 := by omega
      rw [this]
/-- What a code holds. -/
structure CodeOK (ls : List Int) (ws : List Pr) (fs cs ss os : List Int) (r : Int) : Prop where
  fine : Fine ls
  w : ws = wds ls ls.length
  f : fs = tab16 (fstF ls 16)
  c : cs = tab16 (cntF ls)
  s : ss = tab16 (stF ls 16)
  o : OrdOK ls ls.length os
  r : r = roomN ls
def codeC (ws : List Pr) (fs cs ss os : List Int) (r : Int) : Ch T1 := .cells 78 [.ro (.recs 0 ws), .arr 16 (.ints .i64 fs), .arr 16 (.ints .i64 cs), .arr 16 (.ints .i64 ss), .ro (.ints .i64 os), .int .i64 r]
/-- What New tells. -/
def NewIs (ls : List Int) (rs : List (SV T1)) (H : List (Ch T1)) : Prop :=
  (∃ e, rs = [.val (.pointer none), .int .i64 e] ∧ H = [] ∧ ((e = 11 ∧ ¬ (ls.length ≤ 320 ∧ InB ls)) ∨ (e = 10 ∧ (ls.length ≤ 320 ∧ InB ls) ∧ 32768 < roomN ls))) ∨
  (∃ ws fs cs ss os r, rs = [.ptr 1 0, .int .i64 0] ∧ H = [.gone, .cells 78 [.ro (.recs 0 ws), .arr 16 (.ints .i64 fs), .arr 16 (.ints .i64 cs), .arr 16 (.ints .i64 ss), .ro (.ints .i64 os), .int .i64 r]] ∧ CodeOK ls ws fs cs ss os r)
theorem n3Fin {A : Leaf} {ls cs fs ss : List Int} {i r : Int} {ws : List Pr} {os seen : List Int} (hA : A = .std) (hf : Fine ls) (hr : r = roomN ls) (hc : CntIs ls cs) (hn : N2Fin A ls cs fs ss) (h : N3Inv ls (i, ws, os, seen)) (hi : A.cmp .lss i (A.len ls) = false) : CodeOK ls ws fs cs ss os r := by
  obtain ⟨j, h1, h2, h3, h4, h5⟩ := h
  simp only at h1 h3 h4 h5
  subst hA
  have hi : ¬ i < (ls.length : Int) := of_decide_eq_false hi
  have hj : j = ls.length := by omega
  subst hj
  exact ⟨hf, h3, hn.f, hc, hn.s, h4, hr⟩
def Rm (r : Int) (ls : List Int) : Prop := r = roomN ls
theorem new_ok (ls : List Int) : FOK Try.prog C1 19 (fun _ => false) [.ro (.ints .i64 ls)] []
    (NewIs ls) := by
  refine fok_of (B := ⟨lookT tis, fun _ => false, []⟩) (tab1 _) (zero1 _) cod1 mix1 Try.func19 (by kernel_rfl) rfl rfl rfl fun X F => ?_
  obtain ⟨A, hA⟩ : ∃ A, A = Leaf.std := ⟨_, rfl⟩
  refine F.hold hA 2000 ?_
  cbv
  repeat' (first
    | refine OK.drawn (by decide +kernel) ?_
    | refine OK.tree ⟨lookT tis, fun _ => true, []⟩ (by decide +kernel) ?_
    | refine OK.both ?_ ?_
    | refine OK.need (by first | assumption | (rw [hA]; first | (show (_ : Int) ≠ _; decide) | (show (0 : Int) ≤ _; decide) | (show (0 : Int) ≤ _ ∧ _ < (256 : Int); decide))) ?_
    | refine OK.need ?_ ?_
    | (refine OK.branch ?_ ?_ <;> intro h)
    | (refine F.hold hA 2000 ?_; cbv))
  refine F.call [] (room_ok ls) rfl rfl rfl fun rs H' hq => ?_
  obtain ⟨r, ok, rfl, rfl, hr⟩ := hq
  refine ⟨rfl, ?_⟩
  repeat (first
    | refine OK.drawn (by decide +kernel) ?_
    | refine OK.tree ⟨lookT tis, fun _ => true, []⟩ (by decide +kernel) ?_
    | refine OK.need (by first | assumption | (rw [hA]; first | (show (_ : Int) ≠ _; decide) | (show (0 : Int) ≤ _; decide) | (show (0 : Int) ≤ _ ∧ _ < (256 : Int); decide))) ?_
    | (refine F.hold hA 2000 ?_; cbv))
  refine OK.branch (fun b1 => ?_) (fun b1 => ?_)
  · repeat' (first
      | refine OK.drawn (by decide +kernel) ?_
      | refine OK.tree ⟨lookT tis, fun _ => true, []⟩ (by decide +kernel) ?_
      | refine OK.both ?_ ?_
      | refine OK.need (by first | assumption | (rw [hA]; first | (show (_ : Int) ≠ _; decide) | (show (0 : Int) ≤ _; decide) | (show (0 : Int) ≤ _ ∧ _ < (256 : Int); decide))) ?_
      | refine OK.need ?_ ?_
      | (refine OK.branch ?_ ?_ <;> intro h)
      | (refine F.hold hA 2000 ?_; cbv))
    refine F.ret0 (.inl ⟨_, rfl, rfl, .inl ⟨rfl, ?_⟩⟩)
    rcases hr with ⟨rfl, k1, k2, k3⟩ | ⟨rfl, k, _⟩
    · subst hA; cases b1
    · exact k
  repeat (first
    | refine OK.drawn (by decide +kernel) ?_
    | refine OK.tree ⟨lookT tis, fun _ => true, []⟩ (by decide +kernel) ?_
    | refine OK.need (by first | assumption | (rw [hA]; first | (show (_ : Int) ≠ _; decide) | (show (0 : Int) ≤ _; decide) | (show (0 : Int) ≤ _ ∧ _ < (256 : Int); decide))) ?_
    | (refine F.hold hA 2000 ?_; cbv))
  refine OK.branch (fun b2 => ?_) (fun b2 => ?_)
  · repeat' (first
      | refine OK.drawn (by decide +kernel) ?_
      | refine OK.tree ⟨lookT tis, fun _ => true, []⟩ (by decide +kernel) ?_
      | refine OK.both ?_ ?_
      | refine OK.need (by first | assumption | (rw [hA]; first | (show (_ : Int) ≠ _; decide) | (show (0 : Int) ≤ _; decide) | (show (0 : Int) ≤ _ ∧ _ < (256 : Int); decide))) ?_
      | refine OK.need ?_ ?_
      | (refine OK.branch ?_ ?_ <;> intro h)
      | (refine F.hold hA 2000 ?_; cbv))
    refine F.ret0 (.inl ⟨_, rfl, rfl, .inr ⟨rfl, ?_⟩⟩)
    rcases hr with ⟨rfl, k1, k2, k3⟩ | ⟨rfl, k, _⟩
    · subst hA
      have b2 : 32768 < r := of_decide_eq_true b2
      exact ⟨⟨k1, k2⟩, by omega⟩
    · subst hA; cases b1
  have hf : Fine ls ∧ Rm r ls := by
    rcases hr with ⟨rfl, k1, k2, k3⟩ | ⟨rfl, _⟩
    · subst hA
      have b2 : ¬ 32768 < r := of_decide_eq_false b2
      exact ⟨⟨k1, k2, by omega⟩, k3⟩
    · subst hA; cases b1
  obtain ⟨hf, hrm⟩ := hf
  clear hr
  have w1 : A.small (A.len ls) 16 := by
    have := hf.le
    subst hA
    show (0 : Int) ≤ (ls.length : Int) ∧ (ls.length : Int) ≤ 140737488355328 ∧ (ls.length : Int) * ((16 : Nat) : Int) ≤ 140737488355328
    omega
  have w2 : A.slb 0 (A.len ls) (A.len ls) := by
    subst hA
    show (0 : Int) ≤ 0 ∧ (0 : Int) ≤ (ls.length : Int) ∧ (ls.length : Int) ≤ (ls.length : Int)
    omega
  repeat' (first
    | refine OK.drawn (by decide +kernel) ?_
    | refine OK.tree ⟨lookT tis, fun _ => true, []⟩ (by decide +kernel) ?_
    | refine OK.both ?_ ?_
    | refine OK.need (by first | assumption | (rw [hA]; first | (show (_ : Int) ≠ _; decide) | (show (0 : Int) ≤ _; decide) | (show (0 : Int) ≤ _ ∧ _ < (256 : Int); decide))) ?_
    | refine OK.need ?_ ?_
    | (refine OK.branch ?_ ?_ <;> intro h)
    | (refine F.hold hA 2000 ?_; cbv))
  refine F.loop (V := Int × List Int) [0, 6, 31, 32] (N1Inv ls) (fun w => (ls.length - w.1).toNat) (fun w => [(33, .int .i64 w.1)]) (fun w => [(1, .cells 78 [.own 0, .arr 16 (.ints .i64 (A.rep 16 0)), .arr 16 (.ints .i64 w.2), .arr 16 (.ints .i64 (A.rep 16 0)), .val (.slice none 0 0), .int .i64 r])]) (_, _) (by cbv; repeat (first | exact WkH.nil _ | apply WkH.gone | refine WkH.eq rfl ?_)) (by cbv; repeat (first | apply WkL.any | exact WkL.nil _ | refine WkL.eq rfl ?_ | refine WkL.bool rfl ?_)) (by cbv; exact ⟨rfl⟩) ?_ ?_
  · subst hA; exact ⟨0, rfl, Nat.zero_le _, rfl⟩
  rintro ⟨i, cs⟩ hI Bk hBk
  repeat (first
    | refine OK.drawn (by decide +kernel) ?_
    | refine OK.tree ⟨lookT tis, fun _ => true, []⟩ (by decide +kernel) ?_
    | refine OK.need (by first | assumption | (rw [hA]; first | (show (_ : Int) ≠ _; decide) | (show (0 : Int) ≤ _; decide) | (show (0 : Int) ≤ _ ∧ _ < (256 : Int); decide))) ?_
    | (refine F.hold hA 2000 ?_; cbv))
  refine OK.branch (fun b3 => ?_) (fun b3 => ?_)
  · have hat := n1At hA hf hI b3
    have q1 := hat.q1
    have q2 := hat.q2
    repeat' (first
      | refine OK.drawn (by decide +kernel) ?_
      | refine OK.tree ⟨lookT tis, fun _ => true, []⟩ (by decide +kernel) ?_
      | refine OK.both ?_ ?_
      | refine OK.need (by first | assumption | (rw [hA]; first | (show (_ : Int) ≠ _; decide) | (show (0 : Int) ≤ _; decide) | (show (0 : Int) ≤ _ ∧ _ < (256 : Int); decide))) ?_
      | refine OK.need ?_ ?_
      | (refine OK.branch ?_ ?_ <;> intro h)
      | (refine F.hold hA 2000 ?_; cbv))
    refine OK.back (hBk _ _ (_, _) (by cbv; repeat (first | exact WkH.nil _ | apply WkH.gone | refine WkH.eq rfl ?_)) (by cbv; repeat (first | apply WkL.any | exact WkL.nil _ | refine WkL.eq rfl ?_ | refine WkL.bool rfl ?_)) (by cbv; exact ⟨rfl⟩) ?_ ?_)
    · exact hat.nx
    · exact hat.mu
  have hcs := n1End hA hI b3
  have i16 : A.inb 0 (Int.ofNat 16) := by subst hA; exact ⟨by decide, by decide⟩
  repeat' (first
    | refine OK.drawn (by decide +kernel) ?_
    | refine OK.tree ⟨lookT tis, fun _ => true, []⟩ (by decide +kernel) ?_
    | refine OK.both ?_ ?_
    | refine OK.need (by first | assumption | (rw [hA]; first | (show (_ : Int) ≠ _; decide) | (show (0 : Int) ≤ _; decide) | (show (0 : Int) ≤ _ ∧ _ < (256 : Int); decide))) ?_
    | refine OK.need ?_ ?_
    | (refine OK.branch ?_ ?_ <;> intro h)
    | (refine F.hold hA 2000 ?_; cbv))
  refine F.loop (V := Int × List Int × List Int) [0, 6] (N2Inv ls) (fun w => (16 - w.1).toNat) (fun w => [(9, .int .i64 w.1)]) (fun w => [(1, .cells 78 [.own 0, .arr 16 (.ints .i64 w.2.1), .arr 16 (.ints .i64 (A.set cs 0 0)), .arr 16 (.ints .i64 w.2.2), .val (.slice none 0 0), .int .i64 r])]) (_, _, _) (by cbv; repeat (first | exact WkH.nil _ | apply WkH.gone | refine WkH.eq rfl ?_)) (by cbv; repeat (first | apply WkL.any | exact WkL.nil _ | refine WkL.eq rfl ?_ | refine WkL.bool rfl ?_)) (by cbv; exact ⟨rfl⟩) ?_ ?_
  · subst hA
    refine ⟨1, rfl, by decide, by decide, ?_, ?_⟩
    · show tab16 (fun _ => 0) = _
      exact tab16_congr fun k hk => by unfold fstF; split <;> simp_all [fst]
    · show tab16 (fun _ => 0) = _
      exact tab16_congr fun k hk => by unfold stF; split <;> simp_all [st]
  rintro ⟨l, fs, ss⟩ hI2 Bk hBk
  repeat (first
    | refine OK.drawn (by decide +kernel) ?_
    | refine OK.tree ⟨lookT tis, fun _ => true, []⟩ (by decide +kernel) ?_
    | refine OK.need (by first | assumption | (rw [hA]; first | (show (_ : Int) ≠ _; decide) | (show (0 : Int) ≤ _; decide) | (show (0 : Int) ≤ _ ∧ _ < (256 : Int); decide))) ?_
    | (refine F.hold hA 2000 ?_; cbv))
  refine OK.branch (fun b4 => ?_) (fun b4 => ?_)
  · have hat := n2At hA hf hcs hI2 b4
    have q1 := hat.q1
    have q2 := hat.q2
    repeat' (first
      | refine OK.drawn (by decide +kernel) ?_
      | refine OK.tree ⟨lookT tis, fun _ => true, []⟩ (by decide +kernel) ?_
      | refine OK.both ?_ ?_
      | refine OK.need (by first | assumption | (rw [hA]; first | (show (_ : Int) ≠ _; decide) | (show (0 : Int) ≤ _; decide) | (show (0 : Int) ≤ _ ∧ _ < (256 : Int); decide))) ?_
      | refine OK.need ?_ ?_
      | (refine OK.branch ?_ ?_ <;> intro h)
      | (refine F.hold hA 2000 ?_; cbv))
    refine OK.back (hBk _ _ (_, _, _) (by cbv; repeat (first | exact WkH.nil _ | apply WkH.gone | refine WkH.eq rfl ?_)) (by cbv; repeat (first | apply WkL.any | exact WkL.nil _ | refine WkL.eq rfl ?_ | refine WkL.bool rfl ?_)) (by cbv; exact ⟨rfl⟩) ?_ ?_)
    · exact hat.nx
    · exact hat.mu
  have hfin := n2Fin hA hf hcs hI2 b4
  have i15 := hfin.i15
  have w3 := hfin.w1
  have w4 := hfin.w2
  repeat' (first
    | refine OK.drawn (by decide +kernel) ?_
    | refine OK.tree ⟨lookT tis, fun _ => true, []⟩ (by decide +kernel) ?_
    | refine OK.both ?_ ?_
    | refine OK.need (by first | assumption | (rw [hA]; first | (show (_ : Int) ≠ _; decide) | (show (0 : Int) ≤ _; decide) | (show (0 : Int) ≤ _ ∧ _ < (256 : Int); decide))) ?_
    | refine OK.need ?_ ?_
    | (refine OK.branch ?_ ?_ <;> intro h)
    | (refine F.hold hA 2000 ?_; cbv))
  refine F.loop (V := Int × List Pr × List Int × List Int) [0, 6, 10, 112, 113] (N3Inv ls) (fun w => (ls.length - w.1).toNat) (fun w => [(114, .int .i64 w.1)]) (fun w => [(0, .row 80 (.recs 0 w.2.1)), (2, .row 3 (.ints .i64 w.2.2.1)), (3, .cells 76 [.arr 16 (.ints .i64 w.2.2.2)])]) (_, _, _, _) (by cbv; repeat (first | exact WkH.nil _ | apply WkH.gone | refine WkH.eq rfl ?_)) (by cbv; repeat (first | apply WkL.any | exact WkL.nil _ | refine WkL.eq rfl ?_ | refine WkL.bool rfl ?_)) (by cbv; exact ⟨rfl⟩) ?_ ?_
  · have hn := hfin.n
    subst hA
    refine ⟨0, rfl, Nat.zero_le _, ?_, ⟨?_, fun s hs => by omega⟩, ?_⟩
    · exact wds_zero ls
    · show (List.replicate (Leaf.std.ar .add .i64 _ _).toNat 0).length = _
      rw [List.length_replicate, hn, Int.toNat_natCast]
    · show tab16 (fun _ => 0) = _
      exact tab16_congr fun k hk => by unfold seenG seenF; split <;> simp
  rintro ⟨i3, ws, os, seen⟩ hI3 Bk hBk
  repeat (first
    | refine OK.drawn (by decide +kernel) ?_
    | refine OK.tree ⟨lookT tis, fun _ => true, []⟩ (by decide +kernel) ?_
    | refine OK.need (by first | assumption | (rw [hA]; first | (show (_ : Int) ≠ _; decide) | (show (0 : Int) ≤ _; decide) | (show (0 : Int) ≤ _ ∧ _ < (256 : Int); decide))) ?_
    | (refine F.hold hA 2000 ?_; cbv))
  refine OK.branch (fun b5 => ?_) (fun b5 => ?_)
  · have hat : N3At A ls fs ss i3 ws os seen := n3At hA hf hfin hI3 b5
    have q1 := hat.q1
    have q2 := hat.q2
    have q4 := hat.q4
    repeat (first
      | refine OK.drawn (by decide +kernel) ?_
      | refine OK.tree ⟨lookT tis, fun _ => true, []⟩ (by decide +kernel) ?_
      | refine OK.need (by first | assumption | (rw [hA]; first | (show (_ : Int) ≠ _; decide) | (show (0 : Int) ≤ _; decide) | (show (0 : Int) ≤ _ ∧ _ < (256 : Int); decide))) ?_
      | (refine F.hold hA 2000 ?_; cbv))
    refine OK.branch (fun b6 => ?_) (fun b6 => ?_)
    · repeat' (first
        | refine OK.drawn (by decide +kernel) ?_
        | refine OK.tree ⟨lookT tis, fun _ => true, []⟩ (by decide +kernel) ?_
        | refine OK.both ?_ ?_
        | refine OK.need (by first | assumption | (rw [hA]; first | (show (_ : Int) ≠ _; decide) | (show (0 : Int) ≤ _; decide) | (show (0 : Int) ≤ _ ∧ _ < (256 : Int); decide))) ?_
        | refine OK.need ?_ ?_
        | (refine OK.branch ?_ ?_ <;> intro h)
        | (refine F.hold hA 2000 ?_; cbv))
      refine OK.back (hBk _ _ (_, _, _, _) (by cbv; repeat (first | exact WkH.nil _ | apply WkH.gone | refine WkH.eq rfl ?_)) (by cbv; repeat (first | apply WkL.any | exact WkL.nil _ | refine WkL.eq rfl ?_ | refine WkL.bool rfl ?_)) (by cbv; exact ⟨rfl⟩) ?_ ?_)
      · exact hat.nz b6
      · exact hat.mu
    have q3 := hat.q3 b6
    obtain ⟨c, hc1, hc2⟩ := hat.arg b6
    repeat' (first
      | refine OK.drawn (by decide +kernel) ?_
      | refine OK.tree ⟨lookT tis, fun _ => true, []⟩ (by decide +kernel) ?_
      | refine OK.both ?_ ?_
      | refine OK.need (by first | assumption | (rw [hA]; first | (show (_ : Int) ≠ _; decide) | (show (0 : Int) ≤ _; decide) | (show (0 : Int) ≤ _ ∧ _ < (256 : Int); decide))) ?_
      | refine OK.need ?_ ?_
      | (refine OK.branch ?_ ?_ <;> intro h)
      | (refine F.hold hA 2000 ?_; cbv))
    all_goals
      refine F.call [] (rev_ok _ _ c hc1) rfl rfl rfl fun rs H' hq => ?_
      obtain ⟨r2, rfl, rfl, hr2⟩ := hq
      refine ⟨rfl, ?_⟩
      repeat' (first
        | refine OK.drawn (by decide +kernel) ?_
        | refine OK.tree ⟨lookT tis, fun _ => true, []⟩ (by decide +kernel) ?_
        | refine OK.both ?_ ?_
        | refine OK.need (by first | assumption | (rw [hA]; first | (show (_ : Int) ≠ _; decide) | (show (0 : Int) ≤ _; decide) | (show (0 : Int) ≤ _ ∧ _ < (256 : Int); decide))) ?_
        | refine OK.need ?_ ?_
        | (refine OK.branch ?_ ?_ <;> intro h)
        | (refine F.hold hA 2000 ?_; cbv))
      all_goals
        refine OK.back (hBk _ _ (_, _, _, _) (by cbv; repeat (first | exact WkH.nil _ | apply WkH.gone | refine WkH.eq rfl ?_)) (by cbv; repeat (first | apply WkL.any | exact WkL.nil _ | refine WkL.eq rfl ?_ | refine WkL.bool rfl ?_)) (by cbv; exact ⟨rfl⟩) ?_ ?_)
        · exact hc2 _ hr2
        · exact hat.mu
  have hcode := n3Fin hA hf hrm hcs hfin hI3 b5
  repeat' (first
    | refine OK.drawn (by decide +kernel) ?_
    | refine OK.tree ⟨lookT tis, fun _ => true, []⟩ (by decide +kernel) ?_
    | refine OK.both ?_ ?_
    | refine OK.need (by first | assumption | (rw [hA]; first | (show (_ : Int) ≠ _; decide) | (show (0 : Int) ≤ _; decide) | (show (0 : Int) ≤ _ ∧ _ < (256 : Int); decide))) ?_
    | refine OK.need ?_ ?_
    | (refine OK.branch ?_ ?_ <;> intro h)
    | (refine F.hold hA 2000 ?_; cbv))
  refine F.ret (rs' := [.ptr 1 0, .int .i64 0]) (Cv.trans (Cv.freeze F.cod 0 rfl) (Cv.trans (Cv.freeze F.cod 2 rfl) (F.cv (l' := [.ptr 1 0, .int .i64 0]) (H' := [.gone, codeC ws fs (A.set cs 0 0) ss os r]) ⟨rfl⟩ (.eq rfl (.eq rfl (.nil _))) (.eq rfl (.eq rfl (.nil _)))))) rfl (.inr ⟨_, _, _, _, _, _, rfl, rfl, hcode⟩)
end Go.L1

-- B3
namespace Go.L1
open Go Go.Sx Go.Proofs Go.Huff
set_option maxRecDepth 20000
set_option linter.unusedVariables false
set_option linter.unusedSimpArgs false
def CompIs (r : Int) (b : Bool) : Prop := b = decide (r = 32768)
theorem complete_ok (ws : List Pr) (fs cs ss os : List Int) (r : Int) : FOK Try.prog C1 24 (fun _ => true) [.ptr 0 0] [.cells 78 [.ro (.recs 0 ws), .arr 16 (.ints .i64 fs), .arr 16 (.ints .i64 cs), .arr 16 (.ints .i64 ss), .ro (.ints .i64 os), .int .i64 r]]
    (fun rs H => ∃ b, rs = [.bool (.e b)] ∧ H = [.cells 78 [.ro (.recs 0 ws), .arr 16 (.ints .i64 fs), .arr 16 (.ints .i64 cs), .arr 16 (.ints .i64 ss), .ro (.ints .i64 os), .int .i64 r]] ∧ CompIs r b) := by
  refine fok_of (B := ⟨lookT tis, fun _ => true, []⟩) (tab1 _) (zero1 _) cod1 mix1 Try.func24 (by kernel_rfl) rfl rfl rfl fun X F => ?_
  obtain ⟨A, hA⟩ : ∃ A, A = Leaf.std := ⟨_, rfl⟩
  refine F.hold hA 2000 ?_
  cbv
  repeat' (first
    | refine OK.drawn (by decide +kernel) ?_
    | refine OK.tree ⟨lookT tis, fun _ => true, []⟩ (by decide +kernel) ?_
    | refine OK.both ?_ ?_
    | refine OK.need (by first | assumption | (rw [hA]; first | (show (_ : Int) ≠ _; decide) | (show (0 : Int) ≤ _; decide) | (show (0 : Int) ≤ _ ∧ _ < (256 : Int); decide))) ?_
    | refine OK.need ?_ ?_
    | (refine OK.branch ?_ ?_ <;> intro h)
    | (refine F.hold hA 2000 ?_; cbv))
  refine F.retE rfl ⟨_, rfl, rfl, ?_⟩
  try clear hBk
  try clear F
  rw [std_eq] at hA; subst hA
  try simp (disch := omega) only [lf, decide_eq_true_eq, decide_eq_false_iff_not, Int.not_lt, Int.not_le, Bool.not_eq_true', Bool.not_eq_false', Bool.not_true, Bool.not_false, gt_iff_lt, ge_iff_le, Int.toNat_natCast, Bool.true_eq_false, Bool.false_eq_true, beq_iff_eq, Bool.not_eq_eq_eq_not, ne_eq, lT_len, lT_get] at *
  try simp (disch := omega) only [lf, decide_eq_true_eq, decide_eq_false_iff_not, Int.not_lt, Int.not_le, Bool.not_eq_true', Bool.not_eq_false', Bool.not_true, Bool.not_false, gt_iff_lt, ge_iff_le, Int.toNat_natCast, Bool.true_eq_false, Bool.false_eq_true, beq_iff_eq, Bool.not_eq_eq_eq_not, ne_eq, lT_len, lT_get] at *
  unfold CompIs
  rfl
def SymsIs (os : List Int) (n : Int) : Prop := n = os.length
theorem symbols_ok (ws : List Pr) (fs cs ss os : List Int) (r : Int) : FOK Try.prog C1 23 (fun _ => true) [.ptr 0 0] [.cells 78 [.ro (.recs 0 ws), .arr 16 (.ints .i64 fs), .arr 16 (.ints .i64 cs), .arr 16 (.ints .i64 ss), .ro (.ints .i64 os), .int .i64 r]]
    (fun rs H => ∃ n, rs = [.int .i64 n] ∧ H = [.cells 78 [.ro (.recs 0 ws), .arr 16 (.ints .i64 fs), .arr 16 (.ints .i64 cs), .arr 16 (.ints .i64 ss), .ro (.ints .i64 os), .int .i64 r]] ∧ SymsIs os n) := by
  refine fok_of (B := ⟨lookT tis, fun _ => true, []⟩) (tab1 _) (zero1 _) cod1 mix1 Try.func23 (by kernel_rfl) rfl rfl rfl fun X F => ?_
  obtain ⟨A, hA⟩ : ∃ A, A = Leaf.std := ⟨_, rfl⟩
  refine F.hold hA 2000 ?_
  cbv
  repeat' (first
    | refine OK.drawn (by decide +kernel) ?_
    | refine OK.tree ⟨lookT tis, fun _ => true, []⟩ (by decide +kernel) ?_
    | refine OK.both ?_ ?_
    | refine OK.need (by first | assumption | (rw [hA]; first | (show (_ : Int) ≠ _; decide) | (show (0 : Int) ≤ _; decide) | (show (0 : Int) ≤ _ ∧ _ < (256 : Int); decide))) ?_
    | refine OK.need ?_ ?_
    | (refine OK.branch ?_ ?_ <;> intro h)
    | (refine F.hold hA 2000 ?_; cbv))
  refine F.retE rfl ⟨_, rfl, rfl, ?_⟩
  subst hA
  rfl
/-- What Bits tells. -/
def BitIs (ls : List Int) (sym v n : Int) (ok : Bool) : Prop :=
  (ok = true ∧ ∃ s : Nat, sym = s ∧ s < ls.length ∧ 0 < len ls s ∧ v = (revN (len ls s) (code ls s) : Nat) ∧ n = (len ls s : Nat)) ∨
  (ok = false ∧ v = 0 ∧ n = 0 ∧ ∀ s : Nat, sym = s → s < ls.length → len ls s = 0)
theorem CodeOK.get {ls : List Int} {ws : List Pr} {fs cs ss os : List Int} {r sym : Int} {A : Leaf} (hc : CodeOK ls ws fs cs ss os r) (hA : A = .std) (h1 : A.cmp .lss sym 0 = false) (h2 : A.cmp .geq sym (A.len ws) = false) :
    ∃ s : Nat, sym = s ∧ s < ls.length ∧ A.get ⟨0, 0⟩ ws sym = wd ls s ∧ A.inb sym (A.len ws) := by
  subst hA
  have h1 : ¬ sym < 0 := of_decide_eq_false h1
  have h2 : ¬ (ws.length : Int) ≤ sym := of_decide_eq_false h2
  have hw : ws.length = ls.length := by rw [hc.w, wds_len]
  refine ⟨sym.toNat, by omega, by omega, ?_, ?_⟩
  · show ws.getD sym.toNat ⟨0, 0⟩ = _
    rw [hc.w, wds_get _ _ (by omega), if_pos (by omega)]
  · show (0 : Int) ≤ sym ∧ sym < (ws.length : Int); omega
theorem CodeOK.out {ls : List Int} {ws : List Pr} {fs cs ss os : List Int} {r sym : Int} {A : Leaf} (hc : CodeOK ls ws fs cs ss os r) (hA : A = .std) (h : A.cmp .lss sym 0 = true ∨ A.cmp .geq sym (A.len ws) = true) :
    BitIs ls sym 0 0 false := by
  subst hA
  have hw : ws.length = ls.length := by rw [hc.w, wds_len]
  refine .inr ⟨rfl, rfl, rfl, fun s hs hl => ?_⟩
  rcases h with h | h
  · have h : sym < 0 := of_decide_eq_true h
    omega
  · have h : (ws.length : Int) ≤ sym := of_decide_eq_true h
    omega
theorem len_le {ls : List Int} (h : InB ls) (s : Nat) : len ls s ≤ 15 := by
  unfold len
  rw [List.getD_eq_getElem?_getD]
  cases hs : ls[s]? with
  | none => simp
  | some x =>
    have := h x (List.mem_of_getElem? hs)
    simp
    omega
end Go.L1

-- H4
namespace Go.L1
open Go Go.Sx Go.Proofs Go.Huff
set_option linter.unusedVariables false
theorem ex_rank : ∀ (ls : List Int) (x : Int) (k : Nat), k < ls.count x → ∃ s, s < ls.length ∧ ls.getD s 0 = x ∧ (ls.take s).count x = k
  | [], x, k, h => by simp at h
  | y :: ls, x, k, h => by
    rw [List.count_cons] at h
    by_cases hy : y = x
    · subst hy
      cases k with
      | zero => exact ⟨0, by simp, by simp, by simp⟩
      | succ k =>
        simp only [beq_self_eq_true, if_true] at h
        obtain ⟨s, h1, h2, h3⟩ := ex_rank ls y k (by omega)
        refine ⟨s + 1, by simp; omega, by simpa using h2, ?_⟩
        rw [List.take_succ_cons, List.count_cons, h3]
        simp
    · have e : (y == x) = false := by simpa using hy
      rw [e] at h
      obtain ⟨s, h1, h2, h3⟩ := ex_rank ls x k (by simpa using h)
      refine ⟨s + 1, by simp; omega, by simpa using h2, ?_⟩
      rw [List.take_succ_cons, List.count_cons, h3, e]
      simp
/-- Each code of a length's row is some symbol's. -/
theorem ex_code {ls : List Int} {l c : Nat} (hl : 0 < l) (h1 : fst ls l ≤ c) (h2 : c < fst ls l + cnt ls l) : ∃ s, s < ls.length ∧ len ls s = l ∧ code ls s = c := by
  have hc : cnt ls l = ls.count (l : Int) := by unfold cnt; rw [if_neg (by omega)]
  obtain ⟨s, k1, k2, k3⟩ := ex_rank ls (l : Int) (c - fst ls l) (by omega)
  have hlen : len ls s = l := by unfold len; rw [k2]; omega
  refine ⟨s, k1, hlen, ?_⟩
  unfold code rank
  rw [hlen, k2, k3]
  omega
theorem begins_iff {ls : List Int} (h : InB ls) {l d v : Nat} (hl : 0 < l) : (∃ s, s < ls.length ∧ len ls s = l ∧ code ls s / 2 ^ d = v) ↔ (0 < cnt ls l ∧ v * 2 ^ d < fst ls l + cnt ls l ∧ fst ls l < (v + 1) * 2 ^ d) := by
  have hp := Nat.two_pow_pos d
  constructor
  · rintro ⟨s, h1, h2, h3⟩
    have hr := rank_lt h h1 (by omega)
    rw [h2] at hr
    have hc : code ls s = fst ls l + rank ls s := by unfold code; rw [h2]
    have h4 := (Nat.div_eq_iff hp).1 h3
    refine ⟨by omega, by omega, ?_⟩
    rw [Nat.add_mul, Nat.one_mul]
    omega
  · rintro ⟨h1, h2, h3⟩
    obtain ⟨s, k1, k2, k3⟩ := ex_code (ls := ls) (l := l) (c := max (fst ls l) (v * 2 ^ d)) hl (by omega) (by omega)
    refine ⟨s, k1, k2, ?_⟩
    rw [k3]
    rw [Nat.add_mul, Nat.one_mul] at h3
    exact (Nat.div_eq_iff hp).2 (by omega)
/-- Some longer code begins so. -/
def Longer (ls : List Int) (v n : Nat) : Prop := ∃ s, s < ls.length ∧ n < len ls s ∧ code ls s / 2 ^ (len ls s - n) = v
/-- A symbol's code stands first. -/
def Hit (ls : List Int) (V left s : Nat) : Prop := s < ls.length ∧ 0 < len ls s ∧ len ls s ≤ left ∧ code ls s = revN (len ls s) V
theorem revN_pre (n d V : Nat) : revN (n + d) V / 2 ^ d = revN n V := by
  rw [revN_add, Nat.mul_comm, Nat.mul_add_div (Nat.two_pow_pos _), Nat.div_eq_of_lt (revN_lt _ _), Nat.add_zero]
theorem Hit.uniq {ls : List Int} (h : InB ls) {V left s t : Nat} (h1 : Hit ls V left s) (h2 : Hit ls V left t) : s = t := by
  rcases Nat.le_total (len ls s) (len ls t) with hl | hl
  · refine Classical.byContradiction fun hne => prefix_free h h1.1 h2.1 h1.2.1 hne hl ?_
    rw [h2.2.2.2, h1.2.2.2]
    have := revN_pre (len ls s) (len ls t - len ls s) V
    rwa [show len ls s + (len ls t - len ls s) = len ls t from by omega] at this
  · refine Classical.byContradiction fun hne => prefix_free h h2.1 h1.1 h2.2.1 (fun h => hne h.symm) hl ?_
    rw [h2.2.2.2, h1.2.2.2]
    have := revN_pre (len ls t) (len ls s - len ls t) V
    rwa [show len ls t + (len ls s - len ls t) = len ls s from by omega] at this
/-- What Next tells of bits V, so many. -/
def NextIs (ls : List Int) (V left : Nat) (sym n e : Int) : Prop :=
  (e = 0 ∧ ∃ s, Hit ls V left s ∧ sym = s ∧ n = (len ls s : Nat)) ∨
  ((∀ s, ¬ Hit ls V left s) ∧ sym = 0 ∧ n = 0 ∧ ((e = 15 ∧ (left = 0 ∨ Longer ls (revN left V) left)) ∨ (e = 10 ∧ 0 < left ∧ ¬ Longer ls (revN left V) left)))
theorem NextIs.uniq {ls : List Int} (h : InB ls) {V left : Nat} {s1 n1 e1 s2 n2 e2 : Int} (h1 : NextIs ls V left s1 n1 e1) (h2 : NextIs ls V left s2 n2 e2) : s1 = s2 ∧ n1 = n2 ∧ e1 = e2 := by
  rcases h1 with ⟨rfl, s, k1, rfl, rfl⟩ | ⟨k1, rfl, rfl, k2⟩ <;> rcases h2 with ⟨rfl, t, m1, rfl, rfl⟩ | ⟨m1, rfl, rfl, m2⟩
  · have := k1.uniq h m1
    subst this
    exact ⟨rfl, rfl, rfl⟩
  · exact absurd k1 (m1 s)
  · exact absurd m1 (k1 t)
  · refine ⟨rfl, rfl, ?_⟩
    rcases k2 with ⟨rfl, k2⟩ | ⟨rfl, k2, k3⟩ <;> rcases m2 with ⟨rfl, m2⟩ | ⟨rfl, m2, m3⟩
    · rfl
    · exact (k2.elim (by omega) m3).elim
    · exact (m2.elim (by omega) k3).elim
    · rfl
end Go.L1

-- B4
namespace Go.L1
open Go Go.Sx Go.Proofs Go.Huff
set_option maxRecDepth 20000
set_option linter.unusedVariables false
set_option linter.unusedSimpArgs false
end Go.L1

-- B5
namespace Go.L1
open Go Go.Sx Go.Proofs Go.Huff
set_option maxRecDepth 20000
set_option linter.unusedVariables false
set_option linter.unusedSimpArgs false
structure LoPre (v' n' : Int) (v n : Nat) : Prop where
  ev : v' = v
  en : n' = n
  lt : v < 2 ^ n
  le : n ≤ 15
  pos : 0 < n
def LongIs (ls : List Int) (v n : Nat) (b : Bool) : Prop := b = true ↔ Longer ls v n
def LoInv (ls : List Int) (v n : Nat) (w : Int × Int × Int) : Prop := ∃ d : Nat, w.1 = (v * 2 ^ d : Nat) ∧ w.2.1 = ((v + 1) * 2 ^ d - 1 : Nat) ∧ w.2.2 = (n + 1 + d : Nat) ∧ n + d ≤ 15 ∧
  ∀ s, s < ls.length → n < len ls s → len ls s ≤ n + d → code ls s / 2 ^ (len ls s - n) ≠ v
structure LoAt (A : Leaf) (ls fs cs : List Int) (v n : Nat) (a e l : Int) : Prop where
  q1 : A.inb l 16
  q2 : A.nn 1
  yes : A.cmp .gtr (A.get 0 cs l) 0 = true → A.cmp .lss (A.ar .shl .i64 a 1) (A.ar .add .i64 (A.get 0 fs l) (A.get 0 cs l)) = true → A.cmp .geq (A.ar .or .i64 (A.ar .shl .i64 e 1) 1) (A.get 0 fs l) = true → Longer ls v n
  no : (A.cmp .gtr (A.get 0 cs l) 0 = false ∨ A.cmp .lss (A.ar .shl .i64 a 1) (A.ar .add .i64 (A.get 0 fs l) (A.get 0 cs l)) = false ∨ A.cmp .geq (A.ar .or .i64 (A.ar .shl .i64 e 1) 1) (A.get 0 fs l) = false) →
    LoInv ls v n (A.ar .shl .i64 a 1, A.ar .or .i64 (A.ar .shl .i64 e 1) 1, A.ar .add .i64 l 1)
  mu : (16 - A.ar .add .i64 l 1).toNat < (16 - l).toNat
theorem loAt {A : Leaf} {ls fs cs : List Int} {ws : List Pr} {ss os : List Int} {r v' n' a e l : Int} {v n : Nat} (hA : A = .std) (hc : CodeOK ls ws fs cs ss os r) (hp : LoPre v' n' v n) (h : LoInv ls v n (a, e, l)) (hi : A.cmp .leq l 15 = true) : LoAt A ls fs cs v n a e l := by
  obtain ⟨d, h1, h2, h3, h4, h5⟩ := h
  simp only at h1 h2 h3
  obtain ⟨_, _, hv, hn, hn0⟩ := hp
  subst hA
  have hi : l ≤ 15 := of_decide_eq_true hi
  have hf := hc.fine
  have hk := kraft hf.inb hf.room (l := n + 1 + d) (by omega)
  have hpw : 2 ^ (n + 1 + d) ≤ 2 ^ 15 := Nat.pow_le_pow_right (by decide) (by omega)
  have gf : Leaf.std.get 0 fs l = (fst ls (n + 1 + d) : Nat) := by
    show fs.getD l.toNat 0 = _
    rw [h3, Int.toNat_natCast, hc.f, tab16_get _ (by omega)]
    unfold fstF
    rw [if_pos (by omega)]
  have gc : Leaf.std.get 0 cs l = (cnt ls (n + 1 + d) : Nat) := by
    show cs.getD l.toNat 0 = _
    rw [h3, Int.toNat_natCast, hc.c, tab16_get _ (by omega)]; rfl
  have hvd : (v + 1) * 2 ^ d ≤ 2 ^ n * 2 ^ d := Nat.mul_le_mul_right _ hv
  rw [← Nat.pow_add] at hvd
  have hpw2 : 2 ^ (n + d) ≤ 2 ^ 15 := Nat.pow_le_pow_right (by decide) (by omega)
  have hp0 := Nat.two_pow_pos d
  have hvm : v * 2 ^ d + 2 ^ d = (v + 1) * 2 ^ d := by rw [Nat.add_mul, Nat.one_mul]
  have e1 : Leaf.std.ar .shl .i64 a 1 = (v * 2 ^ (d + 1) : Nat) := by
    have := l_shl_i64 (a := a) (b := 1) (by decide) (by decide) (by simp; omega) (by simp; omega)
    show LAr .shl .i64 a 1 = _
    rw [this, h1, Nat.pow_succ, ← Nat.mul_assoc]; simp
  have e2 : Leaf.std.ar .shl .i64 e 1 = (2 * ((v + 1) * 2 ^ d - 1) : Nat) := by
    have := l_shl_i64 (a := e) (b := 1) (by decide) (by decide) (by simp; omega) (by simp; omega)
    show LAr .shl .i64 e 1 = _
    rw [this, h2]; simp; omega
  have e3 : Leaf.std.ar .or .i64 (Leaf.std.ar .shl .i64 e 1) 1 = ((v + 1) * 2 ^ (d + 1) - 1 : Nat) := by
    rw [e2]
    have := l_or_i64 (a := ((2 * ((v + 1) * 2 ^ d - 1) : Nat) : Int)) (b := 1) (by omega) (by omega) (by omega) (by omega)
    show LAr .or .i64 _ 1 = _
    have ho := Nat.two_pow_add_eq_or_of_lt (i := 1) (b := 1) (by decide) ((v + 1) * 2 ^ d - 1)
    have e5 : (v + 1) * 2 ^ (d + 1) = 2 * ((v + 1) * 2 ^ d) := by rw [Nat.pow_succ, ← Nat.mul_assoc, Nat.mul_comm]
    rw [this, Int.toNat_natCast, show (1 : Int).toNat = 1 from rfl, show 2 * ((v + 1) * 2 ^ d - 1) = 2 ^ 1 * ((v + 1) * 2 ^ d - 1) from rfl, ← ho, e5]
    omega
  have e4 : Leaf.std.ar .add .i64 l 1 = ((n + 1 + (d + 1) : Nat) : Int) := by rw [h3, add_i64 (by omega) (by omega)]; omega
  have hsum : Leaf.std.ar .add .i64 (Leaf.std.get 0 fs l) (Leaf.std.get 0 cs l) = (fst ls (n + 1 + d) + cnt ls (n + 1 + d) : Nat) := by
    rw [gf, gc, add_i64 (by omega) (by omega)]; rfl
  have hbi := begins_iff hf.inb (l := n + 1 + d) (d := d + 1) (v := v) (by omega)
  have hp1 : 0 < (v + 1) * 2 ^ (d + 1) := Nat.mul_pos (by omega) (Nat.two_pow_pos _)
  refine ⟨?_, show (0 : Int) ≤ 1 by decide, fun k1 k2 k3 => ?_, fun hn => ⟨d + 1, e1, e3, e4, by omega, fun s hs hl1 hl2 => ?_⟩, by rw [e4]; omega⟩
  · show (0 : Int) ≤ l ∧ l < (16 : Int); omega
  · rw [gc] at k1
    rw [hsum, e1] at k2
    rw [e3, gf] at k3
    have k1 : (0 : Int) < (cnt ls (n + 1 + d) : Nat) := of_decide_eq_true k1
    have k2 : ((v * 2 ^ (d + 1) : Nat) : Int) < ((fst ls (n + 1 + d) + cnt ls (n + 1 + d) : Nat) : Int) := of_decide_eq_true k2
    have k3 : ((fst ls (n + 1 + d) : Nat) : Int) ≤ (((v + 1) * 2 ^ (d + 1) - 1 : Nat) : Int) := of_decide_eq_true k3
    obtain ⟨s, m1, m2, m3⟩ := hbi.2 ⟨by omega, by omega, by omega⟩
    refine ⟨s, m1, by omega, ?_⟩
    rw [m2, show n + 1 + d - n = d + 1 from by omega]
    exact m3
  · rcases Nat.lt_or_eq_of_le hl2 with h6 | h6
    · exact h5 s hs hl1 (by omega)
    · intro he
      rw [show len ls s - n = d + 1 from by omega] at he
      obtain ⟨m1, m2, m3⟩ := hbi.1 ⟨s, hs, by omega, he⟩
      rw [hsum, gc, e1, e3, gf] at hn
      rcases hn with hn | hn | hn
      · have hn : ¬ (0 : Int) < (cnt ls (n + 1 + d) : Nat) := of_decide_eq_false hn
        omega
      · have hn : ¬ ((v * 2 ^ (d + 1) : Nat) : Int) < ((fst ls (n + 1 + d) + cnt ls (n + 1 + d) : Nat) : Int) := of_decide_eq_false hn
        omega
      · have hn : ¬ ((fst ls (n + 1 + d) : Nat) : Int) ≤ (((v + 1) * 2 ^ (d + 1) - 1 : Nat) : Int) := of_decide_eq_false hn
        omega
theorem longer_ok (ls : List Int) (ws : List Pr) (fs cs ss os : List Int) (r v' n' : Int) (v n : Nat) (hc : CodeOK ls ws fs cs ss os r) (hp : LoPre v' n' v n) : FOK Try.prog C1 51 (fun _ => true) [.ptr 0 0, .int .i64 v', .int .i64 n'] [.cells 78 [.ro (.recs 0 ws), .arr 16 (.ints .i64 fs), .arr 16 (.ints .i64 cs), .arr 16 (.ints .i64 ss), .ro (.ints .i64 os), .int .i64 r]]
    (fun rs H => ∃ b, rs = [.bool (.e b)] ∧ H = [.cells 78 [.ro (.recs 0 ws), .arr 16 (.ints .i64 fs), .arr 16 (.ints .i64 cs), .arr 16 (.ints .i64 ss), .ro (.ints .i64 os), .int .i64 r]] ∧ LongIs ls v n b) := by
  refine fok_of (B := ⟨lookT tis, fun _ => true, []⟩) (tab1 _) (zero1 _) cod1 mix1 Try.func51 (by kernel_rfl) rfl rfl rfl fun X F => ?_
  obtain ⟨A, hA⟩ : ∃ A, A = Leaf.std := ⟨_, rfl⟩
  refine F.hold hA 2000 ?_
  cbv
  repeat' (first
    | refine OK.drawn (by decide +kernel) ?_
    | refine OK.tree ⟨lookT tis, fun _ => true, []⟩ (by decide +kernel) ?_
    | refine OK.both ?_ ?_
    | refine OK.need (by first | assumption | (rw [hA]; first | (show (_ : Int) ≠ _; decide) | (show (0 : Int) ≤ _; decide) | (show (0 : Int) ≤ _ ∧ _ < (256 : Int); decide))) ?_
    | refine OK.need ?_ ?_
    | (refine OK.branch ?_ ?_ <;> intro h)
    | (refine F.hold hA 2000 ?_; cbv))
  refine F.loop (V := Int × Int × Int) [0] (LoInv ls v n) (fun w => (16 - w.2.2).toNat) (fun w => [(1, .int .i64 w.1), (7, .int .i64 w.2.1), (8, .int .i64 w.2.2)]) (fun w => []) (_, _, _) (by cbv; repeat (first | exact WkH.nil _ | apply WkH.gone | refine WkH.eq rfl ?_)) (by cbv; repeat (first | apply WkL.any | exact WkL.nil _ | refine WkL.eq rfl ?_ | refine WkL.bool rfl ?_)) (by cbv; exact ⟨rfl⟩) ?_ ?_
  · obtain ⟨p1, p2, p3, p4, p5⟩ := hp
    subst hA
    refine ⟨0, by simp [p1], by simp [p1], ?_, by omega, fun s _ _ _ => by omega⟩
    show Leaf.std.ar .add .i64 n' 1 = _
    rw [p2, add_i64 (by omega) (by omega)]; omega
  rintro ⟨a, e, l⟩ hI Bk hBk
  repeat (first
    | refine OK.drawn (by decide +kernel) ?_
    | refine OK.tree ⟨lookT tis, fun _ => true, []⟩ (by decide +kernel) ?_
    | refine OK.need (by first | assumption | (rw [hA]; first | (show (_ : Int) ≠ _; decide) | (show (0 : Int) ≤ _; decide) | (show (0 : Int) ≤ _ ∧ _ < (256 : Int); decide))) ?_
    | (refine F.hold hA 2000 ?_; cbv))
  refine OK.branch (fun b1 => ?_) (fun b1 => ?_)
  · have hat := loAt hA hc hp hI b1
    have q1 := hat.q1
    repeat (first
      | refine OK.drawn (by decide +kernel) ?_
      | refine OK.tree ⟨lookT tis, fun _ => true, []⟩ (by decide +kernel) ?_
      | refine OK.need (by first | assumption | (rw [hA]; first | (show (_ : Int) ≠ _; decide) | (show (0 : Int) ≤ _; decide) | (show (0 : Int) ≤ _ ∧ _ < (256 : Int); decide))) ?_
      | (refine F.hold hA 2000 ?_; cbv))
    refine OK.branch (fun b2 => ?_) (fun b2 => ?_)
    · repeat (first
        | refine OK.drawn (by decide +kernel) ?_
        | refine OK.tree ⟨lookT tis, fun _ => true, []⟩ (by decide +kernel) ?_
        | refine OK.need (by first | assumption | (rw [hA]; first | (show (_ : Int) ≠ _; decide) | (show (0 : Int) ≤ _; decide) | (show (0 : Int) ≤ _ ∧ _ < (256 : Int); decide))) ?_
        | (refine F.hold hA 2000 ?_; cbv))
      refine OK.branch (fun b3 => ?_) (fun b3 => ?_)
      · repeat (first
          | refine OK.drawn (by decide +kernel) ?_
          | refine OK.tree ⟨lookT tis, fun _ => true, []⟩ (by decide +kernel) ?_
          | refine OK.need (by first | assumption | (rw [hA]; first | (show (_ : Int) ≠ _; decide) | (show (0 : Int) ≤ _; decide) | (show (0 : Int) ≤ _ ∧ _ < (256 : Int); decide))) ?_
          | (refine F.hold hA 2000 ?_; cbv))
        refine OK.branch (fun b4 => ?_) (fun b4 => ?_)
        · repeat' (first
            | refine OK.drawn (by decide +kernel) ?_
            | refine OK.tree ⟨lookT tis, fun _ => true, []⟩ (by decide +kernel) ?_
            | refine OK.both ?_ ?_
            | refine OK.need (by first | assumption | (rw [hA]; first | (show (_ : Int) ≠ _; decide) | (show (0 : Int) ≤ _; decide) | (show (0 : Int) ≤ _ ∧ _ < (256 : Int); decide))) ?_
            | refine OK.need ?_ ?_
            | (refine OK.branch ?_ ?_ <;> intro h)
            | (refine F.hold hA 2000 ?_; cbv))
          exact F.retE rfl ⟨_, rfl, rfl, fun _ => hat.yes b2 b3 b4, fun _ => rfl⟩
        · repeat' (first
            | refine OK.drawn (by decide +kernel) ?_
            | refine OK.tree ⟨lookT tis, fun _ => true, []⟩ (by decide +kernel) ?_
            | refine OK.both ?_ ?_
            | refine OK.need (by first | assumption | (rw [hA]; first | (show (_ : Int) ≠ _; decide) | (show (0 : Int) ≤ _; decide) | (show (0 : Int) ≤ _ ∧ _ < (256 : Int); decide))) ?_
            | refine OK.need ?_ ?_
            | (refine OK.branch ?_ ?_ <;> intro h)
            | (refine F.hold hA 2000 ?_; cbv))
          refine OK.back (hBk _ _ (_, _, _) (by cbv; repeat (first | exact WkH.nil _ | apply WkH.gone | refine WkH.eq rfl ?_)) (by cbv; repeat (first | apply WkL.any | exact WkL.nil _ | refine WkL.eq rfl ?_ | refine WkL.bool rfl ?_)) (by cbv; exact ⟨rfl⟩) ?_ ?_)
          · exact hat.no (.inr (.inr b4))
          · exact hat.mu
      · repeat' (first
          | refine OK.drawn (by decide +kernel) ?_
          | refine OK.tree ⟨lookT tis, fun _ => true, []⟩ (by decide +kernel) ?_
          | refine OK.both ?_ ?_
          | refine OK.need (by first | assumption | (rw [hA]; first | (show (_ : Int) ≠ _; decide) | (show (0 : Int) ≤ _; decide) | (show (0 : Int) ≤ _ ∧ _ < (256 : Int); decide))) ?_
          | refine OK.need ?_ ?_
          | (refine OK.branch ?_ ?_ <;> intro h)
          | (refine F.hold hA 2000 ?_; cbv))
        refine OK.back (hBk _ _ (_, _, _) (by cbv; repeat (first | exact WkH.nil _ | apply WkH.gone | refine WkH.eq rfl ?_)) (by cbv; repeat (first | apply WkL.any | exact WkL.nil _ | refine WkL.eq rfl ?_ | refine WkL.bool rfl ?_)) (by cbv; exact ⟨rfl⟩) ?_ ?_)
        · exact hat.no (.inr (.inl b3))
        · exact hat.mu
    · repeat' (first
        | refine OK.drawn (by decide +kernel) ?_
        | refine OK.tree ⟨lookT tis, fun _ => true, []⟩ (by decide +kernel) ?_
        | refine OK.both ?_ ?_
        | refine OK.need (by first | assumption | (rw [hA]; first | (show (_ : Int) ≠ _; decide) | (show (0 : Int) ≤ _; decide) | (show (0 : Int) ≤ _ ∧ _ < (256 : Int); decide))) ?_
        | refine OK.need ?_ ?_
        | (refine OK.branch ?_ ?_ <;> intro h)
        | (refine F.hold hA 2000 ?_; cbv))
      refine OK.back (hBk _ _ (_, _, _) (by cbv; repeat (first | exact WkH.nil _ | apply WkH.gone | refine WkH.eq rfl ?_)) (by cbv; repeat (first | apply WkL.any | exact WkL.nil _ | refine WkL.eq rfl ?_ | refine WkL.bool rfl ?_)) (by cbv; exact ⟨rfl⟩) ?_ ?_)
      · exact hat.no (.inl b2)
      · exact hat.mu
  · repeat' (first
      | refine OK.drawn (by decide +kernel) ?_
      | refine OK.tree ⟨lookT tis, fun _ => true, []⟩ (by decide +kernel) ?_
      | refine OK.both ?_ ?_
      | refine OK.need (by first | assumption | (rw [hA]; first | (show (_ : Int) ≠ _; decide) | (show (0 : Int) ≤ _; decide) | (show (0 : Int) ≤ _ ∧ _ < (256 : Int); decide))) ?_
      | refine OK.need ?_ ?_
      | (refine OK.branch ?_ ?_ <;> intro h)
      | (refine F.hold hA 2000 ?_; cbv))
    refine F.retE rfl ⟨_, rfl, rfl, fun h => (by cases h), fun ⟨s, h1, h2, h3⟩ => ?_⟩
    obtain ⟨d, k1, k2, k3, k4, k5⟩ := hI
    simp only at k3
    exfalso
    have hb := len_le hc.fine.inb s
    have : ¬ l ≤ 15 := by subst hA; exact of_decide_eq_false b1
    exact k5 s h1 h2 (by omega) h3
end Go.L1

-- B6
namespace Go.L1
open Go Go.Sx Go.Proofs Go.Huff
set_option maxRecDepth 20000
set_option linter.unusedVariables false
set_option linter.unusedSimpArgs false
structure RdOK (xs : List UInt8) (p : Int) : Prop where
  rd : RdPre xs p
  hi : p ≤ 8 * xs.length
def bitsV (xs : List UInt8) (p : Int) : Nat := valBytes xs / 2 ^ p.toNat
def leftN (xs : List UInt8) (p : Int) : Nat := (8 * xs.length - p).toNat
def NextRes (ls : List Int) (xs : List UInt8) (p sym e p' : Int) : Prop := ∃ n, NextIs ls (bitsV xs p) (leftN xs p) sym n e ∧ p' = p + n
structure NxI (ls : List Int) (V left k : Nat) : Prop where
  le : k ≤ 15
  lf : k ≤ left
  no : ∀ s, s < ls.length → 0 < len ls s → len ls s ≤ k → code ls s ≠ revN (len ls s) V
  lo : k = 0 ∨ Longer ls (revN k V) k
def NxInv (ls : List Int) (V left : Nat) (w : Int × Int) : Prop := ∃ k : Nat, w.1 = (k + 1 : Nat) ∧ w.2 = (revN k V : Nat) ∧ NxI ls V left k
theorem NxI.none {ls : List Int} {V left k : Nat} (h : NxI ls V left k) (hl : left ≤ k) : ∀ s, ¬ Hit ls V left s := fun s hs => h.no s hs.1 hs.2.1 (by have := hs.2.2.1; omega) hs.2.2.2
theorem NxI.end_ {ls : List Int} {V left k : Nat} (h : NxI ls V left k) (hl : left ≤ k) : NextIs ls V left 0 0 15 := by
  have hk : left = k := by have := h.lf; omega
  subst hk
  exact .inr ⟨h.none hl, rfl, rfl, .inl ⟨rfl, h.lo⟩⟩
theorem Longer.up {ls : List Int} {V n left : Nat} (hn : n ≤ left) (h : Longer ls (revN left V) left) : Longer ls (revN n V) n := by
  obtain ⟨s, h1, h2, h3⟩ := h
  refine ⟨s, h1, by omega, ?_⟩
  have e : len ls s - n = (len ls s - left) + (left - n) := by omega
  rw [e, Nat.pow_add, ← Nat.div_div_eq_div_mul, h3]
  have := revN_pre n (left - n) V
  rwa [show n + (left - n) = left from by omega] at this
theorem NxI.form {ls : List Int} {V left k : Nat} (h : NxI ls V left (k + 1)) (hl : ¬ Longer ls (revN (k + 1) V) (k + 1)) : NextIs ls V left 0 0 10 := by
  have hlf := h.lf
  refine .inr ⟨fun s hs => ?_, rfl, rfl, .inr ⟨rfl, by omega, fun hh => hl (hh.up hlf)⟩⟩
  rcases Nat.lt_or_ge (k + 1) (len ls s) with h1 | h1
  · refine hl ⟨s, hs.1, h1, ?_⟩
    rw [hs.2.2.2]
    have := revN_pre (k + 1) (len ls s - (k + 1)) V
    rwa [show k + 1 + (len ls s - (k + 1)) = len ls s from by omega] at this
  · exact h.no s hs.1 hs.2.1 h1 hs.2.2.2
structure NxAt (A : Leaf) (ls fs cs ss os : List Int) (V left : Nat) (n W : Int) (k : Nat) : Prop where
  en : n = (k + 1 : Nat)
  eW : W = (revN (k + 1) V : Nat)
  q0 : A.nn (A.ar .sub .i64 n 1)
  q1 : A.inb n (Int.ofNat 16)
  pre : LoPre W n (revN (k + 1) V) (k + 1)
  hit : A.cmp .geq (A.ar .sub .i64 W (A.get 0 fs n)) 0 = true → A.cmp .lss (A.ar .sub .i64 W (A.get 0 fs n)) (A.get 0 cs n) = true →
    ∃ s, Hit ls V left s ∧ len ls s = k + 1 ∧ A.inb (A.ar .add .i64 (A.get 0 ss n) (A.ar .sub .i64 W (A.get 0 fs n))) (A.len os) ∧ A.get 0 os (A.ar .add .i64 (A.get 0 ss n) (A.ar .sub .i64 W (A.get 0 fs n))) = s
  miss : (A.cmp .geq (A.ar .sub .i64 W (A.get 0 fs n)) 0 = false ∨ A.cmp .lss (A.ar .sub .i64 W (A.get 0 fs n)) (A.get 0 cs n) = false) → ∀ s, s < ls.length → len ls s = k + 1 → code ls s ≠ revN (k + 1) V
  i : NxI ls V left k
  lt : k + 1 ≤ left
  le : k + 1 ≤ 15
theorem nxAt {A : Leaf} {ls fs cs ss os : List Int} {ws : List Pr} {r n v row lf p : Int} {xs : List UInt8} (hA : A = .std) (hc : CodeOK ls ws fs cs ss os r) (hr : RdOK xs p) (hrow : PeekIs xs p 15 row) (hlf : LeftIs xs p lf) (h : NxInv ls (bitsV xs p) (leftN xs p) (n, v)) (h1 : A.cmp .leq n 15 = true) (h2 : A.cmp .gtr n lf = false) :
    ∃ k, NxAt A ls fs cs ss os (bitsV xs p) (leftN xs p) n (A.ar .or .i64 (A.ar .shl .i64 v 1) (A.conv .i64 (A.ar .and .u32 (A.ar .shr .u32 row (A.ar .sub .i64 n 1)) 1))) k := by
  obtain ⟨k, en, ev, hi⟩ := h
  simp only at en ev
  subst hA
  have h1 : n ≤ 15 := of_decide_eq_true h1
  have h2 : ¬ lf < n := of_decide_eq_false h2
  obtain ⟨⟨d1, d2, d3⟩, d4⟩ := hr
  unfold LeftIs at hlf
  have hlt : k + 1 ≤ leftN xs p := by unfold leftN; omega
  have hle : k + 1 ≤ 15 := by omega
  have hrv : row = (bitsV xs p % 2 ^ 15 : Nat) := by unfold PeekIs at hrow; rw [if_pos (by decide)] at hrow; exact hrow
  have e0 : Leaf.std.ar .sub .i64 n 1 = ((k : Nat) : Int) := by rw [en, sub_i64 (by omega) (by omega)]; omega
  have hrl := revN_lt k (bitsV xs p)
  have hpk : 2 ^ k ≤ 2 ^ 14 := Nat.pow_le_pow_right (by decide) (by omega)
  have hbit : Leaf.std.conv .i64 (Leaf.std.ar .and .u32 (Leaf.std.ar .shr .u32 row (Leaf.std.ar .sub .i64 n 1)) 1) = (bitsV xs p / 2 ^ k % 2 : Nat) := by
    show LConv .i64 (LAr .and .u32 (LAr .shr .u32 row (Leaf.std.ar .sub .i64 n 1)) 1) = _
    have hm : bitsV xs p % 2 ^ 15 / 2 ^ k % 2 = bitsV xs p / 2 ^ k % 2 := by
      have e15 : (2 : Nat) ^ 15 = 2 ^ k * (2 * 2 ^ (14 - k)) := by
        rw [← Nat.pow_succ', ← Nat.pow_add]
        congr 1; omega
      rw [e15, Nat.mod_mul_right_div_self, Nat.mod_mul_right_mod]
    have hlt2 : bitsV xs p / 2 ^ k % 2 < 2 := Nat.mod_lt _ (by decide)
    rw [e0, l_shr_u32 (by omega) (by omega), l_and1_u32, Int.toNat_natCast, hrv]
    have e3 : ((bitsV xs p % 2 ^ 15 : Nat) : Int) / 2 ^ k % 2 = (bitsV xs p / 2 ^ k % 2 : Nat) := by
      rw [← hm]; simp
    rw [e3, l_conv_i64 (by omega) (by omega)]
  have eW : Leaf.std.ar .or .i64 (Leaf.std.ar .shl .i64 v 1) (Leaf.std.conv .i64 (Leaf.std.ar .and .u32 (Leaf.std.ar .shr .u32 row (Leaf.std.ar .sub .i64 n 1)) 1)) = (revN (k + 1) (bitsV xs p) : Nat) := by
    rw [hbit]
    have hlt2 : bitsV xs p / 2 ^ k % 2 < 2 := Nat.mod_lt _ (by decide)
    have es : Leaf.std.ar .shl .i64 v 1 = (2 * revN k (bitsV xs p) : Nat) := by
      have := l_shl_i64 (a := v) (b := 1) (by decide) (by decide) (by simp; omega) (by simp; omega)
      show LAr .shl .i64 v 1 = _
      rw [this, ev]; simp; omega
    rw [es]
    show LAr .or .i64 _ _ = _
    rw [l_or_i64 (by omega) (by omega) (by omega) (by omega), Int.toNat_natCast, Int.toNat_natCast]
    have ho := Nat.two_pow_add_eq_or_of_lt (i := 1) (b := bitsV xs p / 2 ^ k % 2) (by omega) (revN k (bitsV xs p))
    rw [show 2 * revN k (bitsV xs p) = 2 ^ 1 * revN k (bitsV xs p) from rfl, ← ho]
    simp only [revN]
    omega
  have hf := hc.fine
  have hk := kraft hf.inb hf.room hle
  have hpk1 : 2 ^ (k + 1) ≤ 2 ^ 15 := Nat.pow_le_pow_right (by decide) hle
  have hrl1 := revN_lt (k + 1) (bitsV xs p)
  have gf : Leaf.std.get 0 fs n = (fst ls (k + 1) : Nat) := by
    show fs.getD n.toNat 0 = _
    rw [en, Int.toNat_natCast, hc.f, tab16_get _ (by omega)]; unfold fstF; rw [if_pos (by omega)]
  have gc : Leaf.std.get 0 cs n = (cnt ls (k + 1) : Nat) := by
    show cs.getD n.toNat 0 = _
    rw [en, Int.toNat_natCast, hc.c, tab16_get _ (by omega)]; rfl
  have gs : Leaf.std.get 0 ss n = (st ls (k + 1) : Nat) := by
    show ss.getD n.toNat 0 = _
    rw [en, Int.toNat_natCast, hc.s, tab16_get _ (by omega)]; unfold stF; rw [if_pos (by omega)]
  rw [eW]
  have eK : Leaf.std.ar .sub .i64 ((revN (k + 1) (bitsV xs p) : Nat) : Int) (Leaf.std.get 0 fs n) = (revN (k + 1) (bitsV xs p) : Nat) - (fst ls (k + 1) : Nat) := by
    rw [gf, sub_i64 (by omega) (by omega)]
  refine ⟨k, en, rfl, ?_, ?_, ⟨rfl, en, hrl1, hle, by omega⟩, fun a1 a2 => ?_, fun a s hs hl he => ?_, hi, hlt, hle⟩
  · rw [e0]; show (0 : Int) ≤ _; omega
  · show (0 : Int) ≤ n ∧ n < ((16 : Nat) : Int); omega
  · rw [eK] at a1 a2 ⊢
    rw [gc] at a2
    rw [gs]
    have a1 : (0 : Int) ≤ _ := of_decide_eq_true a1
    have a2 : _ < _ := of_decide_eq_true a2
    obtain ⟨s, s1, s2, s3⟩ := ex_code (ls := ls) (l := k + 1) (c := revN (k + 1) (bitsV xs p)) (by omega) (by omega) (by omega)
    have hrk : code ls s = fst ls (k + 1) + rank ls s := by unfold code; rw [s2]
    have hsl := slot_lt hf.inb s1 (by omega)
    have hst := st_le ls 15
    have hcn := cnt_le ls 15
    have hl := hf.le
    have hm : 15 * ls.length ≤ 15 * 320 := Nat.mul_le_mul (by omega) hl
    rw [s2] at hsl
    have eslot : Leaf.std.ar .add .i64 ((st ls (k + 1) : Nat) : Int) (((revN (k + 1) (bitsV xs p) : Nat) : Int) - (fst ls (k + 1) : Nat)) = ((st ls (k + 1) + rank ls s : Nat) : Int) := by
      have e5 : (((revN (k + 1) (bitsV xs p) : Nat) : Int) - (fst ls (k + 1) : Nat)) = (rank ls s : Nat) := by omega
      rw [e5, add_i64 (by omega) (by omega)]; rfl
    refine ⟨s, ⟨s1, by omega, by omega, by rw [s2]; exact s3⟩, s2, ?_, ?_⟩
    · rw [eslot]; show (0 : Int) ≤ _ ∧ _ < (os.length : Int); rw [hc.o.ln]; omega
    · rw [eslot]
      show os.getD ((st ls (k + 1) + rank ls s : Nat) : Int).toNat 0 = _
      rw [Int.toNat_natCast]
      have := hc.o.at_ s s1 (by omega)
      rw [s2] at this
      exact this
  · rw [eK, gc] at a
    have hrk : code ls s = fst ls (k + 1) + rank ls s := by unfold code; rw [hl]
    have hrl2 := rank_lt hf.inb hs (by omega)
    rw [hl] at hrl2
    rcases a with a | a
    · have a : ¬ (0 : Int) ≤ _ := of_decide_eq_false a
      omega
    · have a : ¬ _ < _ := of_decide_eq_false a
      omega
theorem NxAt.step {A : Leaf} {ls fs cs ss os : List Int} {V left : Nat} {n W : Int} {k : Nat} (h : NxAt A ls fs cs ss os V left n W k)
    (hm : ∀ s, s < ls.length → len ls s = k + 1 → code ls s ≠ revN (k + 1) V) : ∀ s, s < ls.length → 0 < len ls s → len ls s ≤ k + 1 → code ls s ≠ revN (len ls s) V := by
  intro s h1 h2 h3
  rcases Nat.lt_or_eq_of_le h3 with h4 | h4
  · exact h.i.no s h1 h2 (by omega)
  · rw [h4]; exact hm s h1 h4
def HitP (ls : List Int) (V left s : Nat) (n : Int) : Prop := Hit ls V left s ∧ n = (len ls s : Nat)
theorem HitP.skip {ls : List Int} {xs : List UInt8} {p n p' : Int} {s : Nat} {b : Bool} (h : HitP ls (bitsV xs p) (leftN xs p) s n) (hr : RdOK xs p) (hs : SkipRes xs p n b p') : p' = p + n := by
  obtain ⟨⟨h1, h2, h3, h4⟩, h5⟩ := h
  have := hr.hi
  unfold leftN at h3
  rcases hs with ⟨_, _, _, a⟩ | ⟨_, a, _⟩
  · exact a
  · exact absurd ⟨by omega, by omega⟩ a
theorem NxAt.form {A : Leaf} {ls fs cs ss os : List Int} {V left : Nat} {n W : Int} {k : Nat} (h : NxAt A ls fs cs ss os V left n W k) (hm : ∀ s, s < ls.length → len ls s = k + 1 → code ls s ≠ revN (k + 1) V) (hl : ¬ Longer ls (revN (k + 1) V) (k + 1)) : NextIs ls V left 0 0 10 := by
  have hlf := h.lt
  refine .inr ⟨fun s hs => ?_, rfl, rfl, .inr ⟨rfl, by omega, fun hh => hl (hh.up hlf)⟩⟩
  rcases Nat.lt_or_ge (k + 1) (len ls s) with h1 | h1
  · refine hl ⟨s, hs.1, h1, ?_⟩
    rw [hs.2.2.2]
    have := revN_pre (k + 1) (len ls s - (k + 1)) V
    rwa [show k + 1 + (len ls s - (k + 1)) = len ls s from by omega] at this
  · exact h.step hm s hs.1 hs.2.1 h1 hs.2.2.2
theorem NxAt.next {A : Leaf} {ls fs cs ss os : List Int} {V left : Nat} {n W : Int} {k : Nat} (h : NxAt A ls fs cs ss os V left n W k) (hA : A = .std) (hm : ∀ s, s < ls.length → len ls s = k + 1 → code ls s ≠ revN (k + 1) V) (hl : Longer ls (revN (k + 1) V) (k + 1)) :
    NxInv ls V left (A.ar .add .i64 n 1, W) ∧ (16 - A.ar .add .i64 n 1).toNat < (16 - n).toNat := by
  have h1 := h.le
  have h2 := h.lt
  have hs := h.step hm
  have en := h.en
  have eW := h.eW
  subst hA
  have e : Leaf.std.ar .add .i64 n 1 = ((k + 1 + 1 : Nat) : Int) := by rw [en, add_i64 (by omega) (by omega)]; omega
  rw [e]
  exact ⟨⟨k + 1, rfl, eW, h1, h2, hs, .inr hl⟩, by omega⟩
theorem next_ok (ls : List Int) (ws : List Pr) (fs cs ss os : List Int) (r : Int) (xs : List UInt8) (p : Int) (hc : CodeOK ls ws fs cs ss os r) (hr : RdOK xs p) : FOK Try.prog C1 27 (fun _ => true) [.ptr 0 0, .ptr 1 0] [.cells 78 [.ro (.recs 0 ws), .arr 16 (.ints .i64 fs), .arr 16 (.ints .i64 cs), .arr 16 (.ints .i64 ss), .ro (.ints .i64 os), .int .i64 r], .cells 82 [.ro (.bytes xs), .int .i64 p]]
    (fun rs H => ∃ sym e p', rs = [.int .i64 sym, .int .i64 e] ∧ H = [.cells 78 [.ro (.recs 0 ws), .arr 16 (.ints .i64 fs), .arr 16 (.ints .i64 cs), .arr 16 (.ints .i64 ss), .ro (.ints .i64 os), .int .i64 r], .cells 82 [.ro (.bytes xs), .int .i64 p']] ∧ NextRes ls xs p sym e p') := by
  refine fok_of (B := ⟨lookT tis, fun _ => true, []⟩) (tab1 _) (zero1 _) cod1 mix1 Try.func27 (by kernel_rfl) rfl rfl rfl fun X F => ?_
  obtain ⟨A, hA⟩ : ∃ A, A = Leaf.std := ⟨_, rfl⟩
  refine F.hold hA 2000 ?_
  cbv
  repeat' (first
    | refine OK.drawn (by decide +kernel) ?_
    | refine OK.tree ⟨lookT tis, fun _ => true, []⟩ (by decide +kernel) ?_
    | refine OK.both ?_ ?_
    | refine OK.need (by first | assumption | (rw [hA]; first | (show (_ : Int) ≠ _; decide) | (show (0 : Int) ≤ _; decide) | (show (0 : Int) ≤ _ ∧ _ < (256 : Int); decide))) ?_
    | refine OK.need ?_ ?_
    | (refine OK.branch ?_ ?_ <;> intro h)
    | (refine F.hold hA 2000 ?_; cbv))
  refine F.call [1] (left_ok xs p hr.rd) rfl rfl rfl fun rs H' hq => ?_
  obtain ⟨lf, rfl, rfl, hlf⟩ := hq
  refine ⟨rfl, ?_⟩
  have hlf : LeftIs xs p lf := hlf
  repeat' (first
    | refine OK.drawn (by decide +kernel) ?_
    | refine OK.tree ⟨lookT tis, fun _ => true, []⟩ (by decide +kernel) ?_
    | refine OK.both ?_ ?_
    | refine OK.need (by first | assumption | (rw [hA]; first | (show (_ : Int) ≠ _; decide) | (show (0 : Int) ≤ _; decide) | (show (0 : Int) ≤ _ ∧ _ < (256 : Int); decide))) ?_
    | refine OK.need ?_ ?_
    | (refine OK.branch ?_ ?_ <;> intro h)
    | (refine F.hold hA 2000 ?_; cbv))
  refine F.call [1] (peek_ok xs p 15 hr.rd) rfl rfl rfl fun rs H' hq => ?_
  obtain ⟨row, rfl, rfl, hrow⟩ := hq
  refine ⟨rfl, ?_⟩
  repeat' (first
    | refine OK.drawn (by decide +kernel) ?_
    | refine OK.tree ⟨lookT tis, fun _ => true, []⟩ (by decide +kernel) ?_
    | refine OK.both ?_ ?_
    | refine OK.need (by first | assumption | (rw [hA]; first | (show (_ : Int) ≠ _; decide) | (show (0 : Int) ≤ _; decide) | (show (0 : Int) ≤ _ ∧ _ < (256 : Int); decide))) ?_
    | refine OK.need ?_ ?_
    | (refine OK.branch ?_ ?_ <;> intro h)
    | (refine F.hold hA 2000 ?_; cbv))
  refine F.loop (V := Int × Int) [0, 1, 6, 7] (NxInv ls (bitsV xs p) (leftN xs p)) (fun w => (16 - w.1).toNat) (fun w => [(8, .int .i64 w.2), (9, .int .i64 w.1)]) (fun w => []) (_, _) (by cbv; repeat (first | exact WkH.nil _ | apply WkH.gone | refine WkH.eq rfl ?_)) (by cbv; repeat (first | apply WkL.any | exact WkL.nil _ | refine WkL.eq rfl ?_ | refine WkL.bool rfl ?_)) (by cbv; exact ⟨rfl⟩) ?_ ?_
  · exact ⟨0, rfl, rfl, by decide, Nat.zero_le _, fun s _ _ _ => by omega, .inl rfl⟩
  rintro ⟨n, v⟩ hI Bk hBk
  repeat (first
    | refine OK.drawn (by decide +kernel) ?_
    | refine OK.tree ⟨lookT tis, fun _ => true, []⟩ (by decide +kernel) ?_
    | refine OK.need (by first | assumption | (rw [hA]; first | (show (_ : Int) ≠ _; decide) | (show (0 : Int) ≤ _; decide) | (show (0 : Int) ≤ _ ∧ _ < (256 : Int); decide))) ?_
    | (refine F.hold hA 2000 ?_; cbv))
  refine OK.branch (fun h1 => ?_) (fun h1 => ?_)
  · repeat (first
      | refine OK.drawn (by decide +kernel) ?_
      | refine OK.tree ⟨lookT tis, fun _ => true, []⟩ (by decide +kernel) ?_
      | refine OK.need (by first | assumption | (rw [hA]; first | (show (_ : Int) ≠ _; decide) | (show (0 : Int) ≤ _; decide) | (show (0 : Int) ≤ _ ∧ _ < (256 : Int); decide))) ?_
      | (refine F.hold hA 2000 ?_; cbv))
    refine OK.branch (fun h2 => ?_) (fun h2 => ?_)
    · repeat' (first
        | refine OK.drawn (by decide +kernel) ?_
        | refine OK.tree ⟨lookT tis, fun _ => true, []⟩ (by decide +kernel) ?_
        | refine OK.both ?_ ?_
        | refine OK.need (by first | assumption | (rw [hA]; first | (show (_ : Int) ≠ _; decide) | (show (0 : Int) ≤ _; decide) | (show (0 : Int) ≤ _ ∧ _ < (256 : Int); decide))) ?_
        | refine OK.need ?_ ?_
        | (refine OK.branch ?_ ?_ <;> intro h)
        | (refine F.hold hA 2000 ?_; cbv))
      refine F.ret0 ⟨_, _, _, rfl, rfl, 0, ?_, by omega⟩
      obtain ⟨k, e1, e2, e3⟩ := hI
      simp only at e1
      subst hA
      have h2 : lf < n := of_decide_eq_true h2
      refine e3.end_ ?_
      unfold leftN
      unfold LeftIs at hlf
      omega
    obtain ⟨k, hat⟩ := nxAt hA hc hr hrow hlf hI h1 h2
    have q0 := hat.q0
    have q1 := hat.q1
    have hpre := hat.pre
    repeat (first
      | refine OK.drawn (by decide +kernel) ?_
      | refine OK.tree ⟨lookT tis, fun _ => true, []⟩ (by decide +kernel) ?_
      | refine OK.need (by first | assumption | (rw [hA]; first | (show (_ : Int) ≠ _; decide) | (show (0 : Int) ≤ _; decide) | (show (0 : Int) ≤ _ ∧ _ < (256 : Int); decide))) ?_
      | (refine F.hold hA 2000 ?_; cbv))
    refine OK.branch (fun b3 => ?_) (fun b3 => ?_)
    · repeat (first
        | refine OK.drawn (by decide +kernel) ?_
        | refine OK.tree ⟨lookT tis, fun _ => true, []⟩ (by decide +kernel) ?_
        | refine OK.need (by first | assumption | (rw [hA]; first | (show (_ : Int) ≠ _; decide) | (show (0 : Int) ≤ _; decide) | (show (0 : Int) ≤ _ ∧ _ < (256 : Int); decide))) ?_
        | (refine F.hold hA 2000 ?_; cbv))
      refine OK.branch (fun b4 => ?_) (fun b4 => ?_)
      · obtain ⟨s, s1, s2, s3, s4⟩ := hat.hit b3 b4
        have s1 : HitP ls (bitsV xs p) (leftN xs p) s n := ⟨s1, by rw [hat.en, s2]⟩
        clear s2
        repeat' (first
          | refine OK.drawn (by decide +kernel) ?_
          | refine OK.tree ⟨lookT tis, fun _ => true, []⟩ (by decide +kernel) ?_
          | refine OK.both ?_ ?_
          | refine OK.need (by first | assumption | (rw [hA]; first | (show (_ : Int) ≠ _; decide) | (show (0 : Int) ≤ _; decide) | (show (0 : Int) ≤ _ ∧ _ < (256 : Int); decide))) ?_
          | refine OK.need ?_ ?_
          | (refine OK.branch ?_ ?_ <;> intro h)
          | (refine F.hold hA 2000 ?_; cbv))
        all_goals
          refine F.call [1] (skip_ok xs p n hr.rd) rfl rfl rfl fun rs H' hq => ?_
          obtain ⟨b, p', rfl, rfl, hsk⟩ := hq
          refine ⟨rfl, ?_⟩
          have hp' := s1.skip hr hsk
          clear hsk
          repeat' (first
            | refine OK.drawn (by decide +kernel) ?_
            | refine OK.tree ⟨lookT tis, fun _ => true, []⟩ (by decide +kernel) ?_
            | refine OK.both ?_ ?_
            | refine OK.need (by first | assumption | (rw [hA]; first | (show (_ : Int) ≠ _; decide) | (show (0 : Int) ≤ _; decide) | (show (0 : Int) ≤ _ ∧ _ < (256 : Int); decide))) ?_
            | refine OK.need ?_ ?_
            | (refine OK.branch ?_ ?_ <;> intro h)
            | (refine F.hold hA 2000 ?_; cbv))
          refine F.ret0 ⟨_, _, _, rfl, rfl, n, .inl ⟨rfl, s, s1.1, s4, s1.2⟩, hp'⟩
      · have hm := hat.miss (.inr b4)
        repeat' (first
          | refine OK.drawn (by decide +kernel) ?_
          | refine OK.tree ⟨lookT tis, fun _ => true, []⟩ (by decide +kernel) ?_
          | refine OK.both ?_ ?_
          | refine OK.need (by first | assumption | (rw [hA]; first | (show (_ : Int) ≠ _; decide) | (show (0 : Int) ≤ _; decide) | (show (0 : Int) ≤ _ ∧ _ < (256 : Int); decide))) ?_
          | refine OK.need ?_ ?_
          | (refine OK.branch ?_ ?_ <;> intro h)
          | (refine F.hold hA 2000 ?_; cbv))
        refine F.call [0] (longer_ok ls ws fs cs ss os r _ _ _ _ hc hpre) rfl rfl rfl fun rs H' hq => ?_
        obtain ⟨b, rfl, rfl, hb⟩ := hq
        refine ⟨rfl, ?_⟩
        repeat (first
          | refine OK.drawn (by decide +kernel) ?_
          | refine OK.tree ⟨lookT tis, fun _ => true, []⟩ (by decide +kernel) ?_
          | refine OK.need (by first | assumption | (rw [hA]; first | (show (_ : Int) ≠ _; decide) | (show (0 : Int) ≤ _; decide) | (show (0 : Int) ≤ _ ∧ _ < (256 : Int); decide))) ?_
          | (refine F.hold hA 2000 ?_; cbv))
        refine OK.branch (fun b5 => ?_) (fun b5 => ?_)
        · repeat' (first
            | refine OK.drawn (by decide +kernel) ?_
            | refine OK.tree ⟨lookT tis, fun _ => true, []⟩ (by decide +kernel) ?_
            | refine OK.both ?_ ?_
            | refine OK.need (by first | assumption | (rw [hA]; first | (show (_ : Int) ≠ _; decide) | (show (0 : Int) ≤ _; decide) | (show (0 : Int) ≤ _ ∧ _ < (256 : Int); decide))) ?_
            | refine OK.need ?_ ?_
            | (refine OK.branch ?_ ?_ <;> intro h)
            | (refine F.hold hA 2000 ?_; cbv))
          refine F.ret0 ⟨_, _, _, rfl, rfl, 0, hat.form hm (fun hh => ?_), by omega⟩
          have hb := hb.2 hh
          subst hb hA
          cases b5
        · have hl := hb.1 (by subst hA; cases b <;> first | rfl | cases b5)
          repeat' (first
            | refine OK.drawn (by decide +kernel) ?_
            | refine OK.tree ⟨lookT tis, fun _ => true, []⟩ (by decide +kernel) ?_
            | refine OK.both ?_ ?_
            | refine OK.need (by first | assumption | (rw [hA]; first | (show (_ : Int) ≠ _; decide) | (show (0 : Int) ≤ _; decide) | (show (0 : Int) ≤ _ ∧ _ < (256 : Int); decide))) ?_
            | refine OK.need ?_ ?_
            | (refine OK.branch ?_ ?_ <;> intro h)
            | (refine F.hold hA 2000 ?_; cbv))
          refine OK.back (hBk _ _ (_, _) (by cbv; repeat (first | exact WkH.nil _ | apply WkH.gone | refine WkH.eq rfl ?_)) (by cbv; repeat (first | apply WkL.any | exact WkL.nil _ | refine WkL.eq rfl ?_ | refine WkL.bool rfl ?_)) (by cbv; exact ⟨rfl⟩) ?_ ?_)
          · exact (hat.next hA hm hl).1
          · exact (hat.next hA hm hl).2
    · have hm := hat.miss (.inl b3)
      repeat' (first
        | refine OK.drawn (by decide +kernel) ?_
        | refine OK.tree ⟨lookT tis, fun _ => true, []⟩ (by decide +kernel) ?_
        | refine OK.both ?_ ?_
        | refine OK.need (by first | assumption | (rw [hA]; first | (show (_ : Int) ≠ _; decide) | (show (0 : Int) ≤ _; decide) | (show (0 : Int) ≤ _ ∧ _ < (256 : Int); decide))) ?_
        | refine OK.need ?_ ?_
        | (refine OK.branch ?_ ?_ <;> intro h)
        | (refine F.hold hA 2000 ?_; cbv))
      refine F.call [0] (longer_ok ls ws fs cs ss os r _ _ _ _ hc hpre) rfl rfl rfl fun rs H' hq => ?_
      obtain ⟨b, rfl, rfl, hb⟩ := hq
      refine ⟨rfl, ?_⟩
      repeat (first
        | refine OK.drawn (by decide +kernel) ?_
        | refine OK.tree ⟨lookT tis, fun _ => true, []⟩ (by decide +kernel) ?_
        | refine OK.need (by first | assumption | (rw [hA]; first | (show (_ : Int) ≠ _; decide) | (show (0 : Int) ≤ _; decide) | (show (0 : Int) ≤ _ ∧ _ < (256 : Int); decide))) ?_
        | (refine F.hold hA 2000 ?_; cbv))
      refine OK.branch (fun b5 => ?_) (fun b5 => ?_)
      · repeat' (first
          | refine OK.drawn (by decide +kernel) ?_
          | refine OK.tree ⟨lookT tis, fun _ => true, []⟩ (by decide +kernel) ?_
          | refine OK.both ?_ ?_
          | refine OK.need (by first | assumption | (rw [hA]; first | (show (_ : Int) ≠ _; decide) | (show (0 : Int) ≤ _; decide) | (show (0 : Int) ≤ _ ∧ _ < (256 : Int); decide))) ?_
          | refine OK.need ?_ ?_
          | (refine OK.branch ?_ ?_ <;> intro h)
          | (refine F.hold hA 2000 ?_; cbv))
        refine F.ret0 ⟨_, _, _, rfl, rfl, 0, hat.form hm (fun hh => ?_), by omega⟩
        have hb := hb.2 hh
        subst hb hA
        cases b5
      · have hl := hb.1 (by subst hA; cases b <;> first | rfl | cases b5)
        repeat' (first
          | refine OK.drawn (by decide +kernel) ?_
          | refine OK.tree ⟨lookT tis, fun _ => true, []⟩ (by decide +kernel) ?_
          | refine OK.both ?_ ?_
          | refine OK.need (by first | assumption | (rw [hA]; first | (show (_ : Int) ≠ _; decide) | (show (0 : Int) ≤ _; decide) | (show (0 : Int) ≤ _ ∧ _ < (256 : Int); decide))) ?_
          | refine OK.need ?_ ?_
          | (refine OK.branch ?_ ?_ <;> intro h)
          | (refine F.hold hA 2000 ?_; cbv))
        refine OK.back (hBk _ _ (_, _) (by cbv; repeat (first | exact WkH.nil _ | apply WkH.gone | refine WkH.eq rfl ?_)) (by cbv; repeat (first | apply WkL.any | exact WkL.nil _ | refine WkL.eq rfl ?_ | refine WkL.bool rfl ?_)) (by cbv; exact ⟨rfl⟩) ?_ ?_)
        · exact (hat.next hA hm hl).1
        · exact (hat.next hA hm hl).2
  · repeat' (first
      | refine OK.drawn (by decide +kernel) ?_
      | refine OK.tree ⟨lookT tis, fun _ => true, []⟩ (by decide +kernel) ?_
      | refine OK.both ?_ ?_
      | refine OK.need (by first | assumption | (rw [hA]; first | (show (_ : Int) ≠ _; decide) | (show (0 : Int) ≤ _; decide) | (show (0 : Int) ≤ _ ∧ _ < (256 : Int); decide))) ?_
      | refine OK.need ?_ ?_
      | (refine OK.branch ?_ ?_ <;> intro h)
      | (refine F.hold hA 2000 ?_; cbv))
    exfalso
    obtain ⟨k, e1, e2, e3⟩ := hI
    simp only at e1
    subst hA
    have h1 : ¬ n ≤ 15 := of_decide_eq_false h1
    have hk := e3.le
    have hk15 : k = 15 := by omega
    rcases e3.lo with h0 | ⟨s, _, h3, _⟩
    · omega
    · have := len_le hc.fine.inb s
      omega
end Go.L1

-- B7
namespace Go.L1
open Go Go.Sx Go.Proofs Go.Huff
set_option maxRecDepth 20000
set_option linter.unusedVariables false
set_option linter.unusedSimpArgs false
end Go.L1

-- B8
namespace Go.L1
open Go Go.Sx Go.Proofs Go.Huff
set_option maxRecDepth 20000
set_option linter.unusedVariables false
set_option linter.unusedSimpArgs false
end Go.L1
