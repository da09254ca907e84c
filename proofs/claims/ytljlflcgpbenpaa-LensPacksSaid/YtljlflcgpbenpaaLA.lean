/- Own work of the session: part LA of a proof that the program's functions do what the statement says (a symbolic executor, contracts of the functions, plain laws). -/
import Derived.Test.YtljlflcgpbenpaaSxC
import Derived.Test.YtljlflcgpbenpaaChecked
import Derived.KernelRfl
set_option linter.all false
-- P1
namespace Go.L5
variable {α : Type}
/-- Rising by weight. -/
def Rise (wt : α → Int) (l : List α) : Prop := l.Pairwise fun a b => wt a ≤ wt b
/-- Those of one weight. -/
def same [DecidableEq Int] (wt : α → Int) (w : Int) (l : List α) : List α := l.filter fun a => decide (wt a = w)
theorem same_app (wt : α → Int) (w : Int) (a b : List α) : same wt w (a ++ b) = same wt w a ++ same wt w b := List.filter_append ..
theorem same_cons (wt : α → Int) (w : Int) (x : α) (l : List α) : same wt w (x :: l) = (if wt x = w then [x] else []) ++ same wt w l := by
  unfold same
  rw [List.filter_cons]
  by_cases h : wt x = w
  · rw [if_pos (by simpa using h), if_pos h]; rfl
  · rw [if_neg (by simpa using h), if_neg h]; rfl
theorem mem_same {wt : α → Int} {w : Int} {l : List α} {x : α} : x ∈ same wt w l ↔ x ∈ l ∧ wt x = w := by
  unfold same
  rw [List.mem_filter, decide_eq_true_iff]
/-- There is one stable order. -/
theorem stab_unique {wt : α → Int} : ∀ {r r' : List α}, Rise wt r → Rise wt r' → (∀ w, same wt w r = same wt w r') → r = r'
  | [], [], _, _, _ => rfl
  | [], y :: t', _, _, h => by
    have := h (wt y)
    rw [same_cons, if_pos rfl] at this
    cases this
  | x :: t, [], _, _, h => by
    have := h (wt x)
    rw [same_cons, if_pos rfl] at this
    cases this
  | x :: t, y :: t', hr, hr', h => by
    have hx := List.pairwise_cons.1 hr
    have hy := List.pairwise_cons.1 hr'
    have h1 : wt y ≤ wt x := by
      have hm : x ∈ same wt (wt x) (y :: t') := by rw [← h]; exact mem_same.2 ⟨List.mem_cons_self .., rfl⟩
      rcases List.mem_cons.1 (mem_same.1 hm).1 with e | e
      · rw [e]; exact Int.le_refl _
      · exact hy.1 x e
    have h2 : wt x ≤ wt y := by
      have hm : y ∈ same wt (wt y) (x :: t) := by rw [h]; exact mem_same.2 ⟨List.mem_cons_self .., rfl⟩
      rcases List.mem_cons.1 (mem_same.1 hm).1 with e | e
      · rw [e]; exact Int.le_refl _
      · exact hx.1 y e
    have hw : wt x = wt y := by omega
    have h3 := h (wt x)
    rw [same_cons, same_cons, if_pos rfl, if_pos hw.symm] at h3
    simp only [List.singleton_append, List.cons.injEq] at h3
    obtain ⟨rfl, _⟩ := h3
    congr 1
    refine stab_unique hx.2 hy.2 fun w => ?_
    have h4 := h w
    rw [same_cons, same_cons] at h4
    exact List.append_cancel_left h4
/-- The stable order of these. -/
structure Stab (wt : α → Int) (l r : List α) : Prop where
  rise : Rise wt r
  same : ∀ w, same wt w r = same wt w l
theorem Stab.uniq {wt : α → Int} {l r r' : List α} (h : Stab wt l r) (h' : Stab wt l r') : r = r' := stab_unique h.rise h'.rise fun w => (h.same w).trans (h'.same w).symm
/-- Two rising rows made one; of one weight the first row's ahead. -/
def mrg (wt : α → Int) (a b : List α) : List α := a.merge b fun x y => decide (wt x ≤ wt y)
theorem mrg_nil_left (wt : α → Int) (b : List α) : mrg wt [] b = b := by unfold mrg; simp
theorem mrg_nil_right (wt : α → Int) (a : List α) : mrg wt a [] = a := by unfold mrg; simp
theorem mrg_cons (wt : α → Int) (x y : α) (a b : List α) : mrg wt (x :: a) (y :: b) = if wt x ≤ wt y then x :: mrg wt a (y :: b) else y :: mrg wt (x :: a) b := by
  unfold mrg
  rw [List.cons_merge_cons]
  by_cases h : wt x ≤ wt y
  · rw [if_pos (by simpa using h), if_pos h]
  · rw [if_neg (by simpa using h), if_neg h]
theorem mrg_mem {wt : α → Int} {z : α} : ∀ {a b : List α}, z ∈ mrg wt a b ↔ z ∈ a ∨ z ∈ b
  | [], b => by rw [mrg_nil_left]; simp
  | x :: a, [] => by rw [mrg_nil_right]; simp
  | x :: a, y :: b => by
    rw [mrg_cons]
    split
    · rw [List.mem_cons, mrg_mem (a := a), List.mem_cons (a := z) (b := x)]
      constructor
      · rintro (h | h | h)
        · exact .inl (.inl h)
        · exact .inl (.inr h)
        · exact .inr h
      · rintro ((h | h) | h)
        · exact .inl h
        · exact .inr (.inl h)
        · exact .inr (.inr h)
    · rw [List.mem_cons, mrg_mem (a := x :: a) (b := b), List.mem_cons (a := z) (b := y)]
      constructor
      · rintro (h | h | h)
        · exact .inr (.inl h)
        · exact .inl h
        · exact .inr (.inr h)
      · rintro (h | h | h)
        · exact .inr (.inl h)
        · exact .inl h
        · exact .inr (.inr h)
termination_by a b => a.length + b.length
theorem mrg_rise {wt : α → Int} : ∀ {a b : List α}, Rise wt a → Rise wt b → Rise wt (mrg wt a b)
  | [], b, _, hb => by rw [mrg_nil_left]; exact hb
  | x :: a, [], ha, _ => by rw [mrg_nil_right]; exact ha
  | x :: a, y :: b, ha, hb => by
    have hx := List.pairwise_cons.1 ha
    have hy := List.pairwise_cons.1 hb
    rw [mrg_cons]
    split
    · rename_i h
      refine List.pairwise_cons.2 ⟨fun z hz => ?_, mrg_rise hx.2 hb⟩
      rcases mrg_mem.1 hz with hz | hz
      · exact hx.1 z hz
      · rcases List.mem_cons.1 hz with rfl | hz
        · exact h
        · exact Int.le_trans h (hy.1 z hz)
    · rename_i h
      refine List.pairwise_cons.2 ⟨fun z hz => ?_, mrg_rise ha hy.2⟩
      rcases mrg_mem.1 hz with hz | hz
      · rcases List.mem_cons.1 hz with rfl | hz
        · omega
        · have := hx.1 z hz; omega
      · exact hy.1 z hz
termination_by a b => a.length + b.length
theorem mrg_same {wt : α → Int} {w : Int} : ∀ {a b : List α}, Rise wt a → same wt w (mrg wt a b) = same wt w a ++ same wt w b
  | [], b, _ => by rw [mrg_nil_left]; rfl
  | x :: a, [], _ => by rw [mrg_nil_right]; simp [same]
  | x :: a, y :: b, ha => by
    have hx := List.pairwise_cons.1 ha
    rw [mrg_cons]
    split
    · rw [same_cons, mrg_same hx.2, same_cons (x := x), List.append_assoc]
    · rename_i h
      rw [same_cons, mrg_same ha, same_cons (x := y)]
      by_cases hw : wt y = w
      · have hno : same wt w (x :: a) = [] := by
          refine List.eq_nil_iff_forall_not_mem.2 fun z hz => ?_
          obtain ⟨h1, h2⟩ := mem_same.1 hz
          rcases List.mem_cons.1 h1 with rfl | h1
          · omega
          · have := hx.1 z h1; omega
        rw [if_pos hw, hno]
        simp
      · rw [if_neg hw]
        simp
termination_by a b => a.length + b.length
theorem mrg_stab {wt : α → Int} {a b : List α} (ha : Rise wt a) (hb : Rise wt b) : Stab wt (a ++ b) (mrg wt a b) := ⟨mrg_rise ha hb, fun w => by rw [mrg_same ha, same_app]⟩
theorem mrg_length {wt : α → Int} (a b : List α) : (mrg wt a b).length = a.length + b.length := by unfold mrg; rw [List.length_merge]
theorem mrg_map {β : Type} {wt : α → Int} {wb : β → Int} {f : α → β} (h : ∀ x, wb (f x) = wt x) : ∀ a b : List α, (mrg wt a b).map f = mrg wb (a.map f) (b.map f)
  | [], b => by rw [mrg_nil_left, List.map_nil, mrg_nil_left]
  | x :: a, [] => by rw [mrg_nil_right, List.map_nil, mrg_nil_right]
  | x :: a, y :: b => by
    rw [List.map_cons, List.map_cons, mrg_cons, mrg_cons, h, h]
    split
    · rw [List.map_cons, mrg_map h a (y :: b), List.map_cons]
    · rw [List.map_cons, mrg_map h (x :: a) b, List.map_cons]
termination_by a b => a.length + b.length
/-- The first so many of two rows made one are the first ones of each. -/
structure Cut (wt : α → Int) (a b : List α) (m i j : Nat) : Prop where
  s : i + j = m
  il : i ≤ a.length
  jl : j ≤ b.length
  t : (mrg wt a b).take m = mrg wt (a.take i) (b.take j)
  /-- who is in is no greater than who is not -/
  ab : ∀ x ∈ a.take i, ∀ y ∈ b.drop j, wt x ≤ wt y
  ba : ∀ y ∈ b.take j, ∀ x ∈ a.drop i, wt y < wt x
theorem mrg_cut {wt : α → Int} : ∀ {a b : List α}, Rise wt a → Rise wt b → ∀ {m : Nat}, m ≤ a.length + b.length → ∃ i j, Cut wt a b m i j
  | a, b, _, _, 0, _ => ⟨0, 0, rfl, Nat.zero_le _, Nat.zero_le _, by simp [mrg_nil_left], fun x h => by simp at h, fun x h => by simp at h⟩
  | [], b, _, _, m + 1, hm => ⟨0, m + 1, by omega, Nat.zero_le _, by simpa using hm, by simp [mrg_nil_left], fun x h => by simp at h, fun y _ x h => by simp at h⟩
  | x :: a, [], _, _, m + 1, hm => ⟨m + 1, 0, rfl, by simpa using hm, Nat.zero_le _, by simp [mrg_nil_right], fun x _ y h => by simp at h, fun y h => by simp at h⟩
  | x :: a, y :: b, ha, hb, m + 1, hm => by
    have hx := List.pairwise_cons.1 ha
    have hy := List.pairwise_cons.1 hb
    by_cases h : wt x ≤ wt y
    · obtain ⟨i, j, h1, h2, h3, h4, h5, h6⟩ := mrg_cut (a := a) (b := y :: b) hx.2 hb (m := m) (by simp only [List.length_cons] at hm ⊢; omega)
      refine ⟨i + 1, j, by omega, by simp only [List.length_cons]; omega, h3, ?_, fun z hz u hu => ?_, fun u hu z hz => ?_⟩
      · rw [mrg_cons, if_pos h, List.take_succ_cons, h4, List.take_succ_cons]
        cases j with
        | zero => simp [mrg_nil_right]
        | succ j => rw [List.take_succ_cons, mrg_cons, if_pos h]
      · rw [List.take_succ_cons] at hz
        rcases List.mem_cons.1 hz with rfl | hz
        · have := List.mem_of_mem_drop hu
          rcases List.mem_cons.1 this with rfl | hu2
          · exact h
          · exact Int.le_trans h (hy.1 u hu2)
        · exact h5 z hz u hu
      · rw [List.drop_succ_cons] at hz
        exact h6 u hu z hz
    · obtain ⟨i, j, h1, h2, h3, h4, h5, h6⟩ := mrg_cut (a := x :: a) (b := b) ha hy.2 (m := m) (by simp only [List.length_cons] at hm ⊢; omega)
      refine ⟨i, j + 1, by omega, h2, by simp only [List.length_cons]; omega, ?_, fun z hz u hu => ?_, fun u hu z hz => ?_⟩
      · rw [mrg_cons, if_neg h, List.take_succ_cons, h4, List.take_succ_cons]
        cases i with
        | zero => simp [mrg_nil_left]
        | succ i => rw [List.take_succ_cons, mrg_cons, if_neg h]
      · rw [List.drop_succ_cons] at hu
        exact h5 z hz u hu
      · rw [List.take_succ_cons] at hu
        rcases List.mem_cons.1 hu with rfl | hu
        · have := List.mem_of_mem_drop hz
          rcases List.mem_cons.1 this with rfl | hz2
          · omega
          · have := hx.1 z hz2; omega
        · exact h6 u hu z hz
termination_by a b => a.length + b.length
end Go.L5

-- P2
namespace Go.L5
structure Coin where node ::
  wt : Int
  sym : Int
  kids : List Coin
mutual
def syms : Coin → List Int
  | .node _ s k => match k with
    | [] => [s]
    | c :: l => syms c ++ symsL l
def symsL : List Coin → List Int
  | [] => []
  | c :: l => syms c ++ symsL l
end
theorem syms_leaf (w s : Int) : syms (.node w s []) = [s] := by rw [syms]
theorem syms_cons (w s : Int) (c : Coin) (l : List Coin) : syms (.node w s (c :: l)) = symsL (c :: l) := by rw [syms, symsL]
theorem symsL_app : ∀ a b : List Coin, symsL (a ++ b) = symsL a ++ symsL b
  | [], b => by rw [symsL]; rfl
  | c :: a, b => by rw [List.cons_append, symsL, symsL, symsL_app a b, List.append_assoc]
theorem symsL_perm {a b : List Coin} (h : a.Perm b) : (symsL a).Perm (symsL b) := by
  induction h with
  | nil => exact .refl _
  | cons x _ ih => rw [symsL, symsL]; exact ih.append_left _
  | swap x y l => rw [symsL, symsL, symsL, symsL, ← List.append_assoc, ← List.append_assoc]; exact List.perm_append_comm.append_right _
  | trans _ _ ih1 ih2 => exact ih1.trans ih2
/-- Coins, two by two. -/
def prs : List Coin → List Coin
  | a :: b :: l => .node (a.wt + b.wt) 0 [a, b] :: prs l
  | _ => []
theorem prs_take : ∀ (l : List Coin) (j : Nat), 2 * j ≤ l.length → (prs l).take j = prs (l.take (2 * j))
  | l, 0, _ => by simp [prs]
  | [], j + 1, h => by simp at h
  | [a], j + 1, h => by simp at h; omega
  | a :: b :: l, j + 1, h => by
    have e : 2 * (j + 1) = (2 * j) + 1 + 1 := by omega
    rw [e, prs, List.take_succ_cons, List.take_succ_cons, List.take_succ_cons, prs, prs_take l j (by simp only [List.length_cons] at h; omega)]
theorem prs_length : ∀ l : List Coin, (prs l).length = l.length / 2
  | [] => rfl
  | [_] => by simp [prs]
  | a :: b :: l => by rw [prs, List.length_cons, prs_length l]; simp only [List.length_cons]; omega
theorem prs_syms : ∀ l : List Coin, l.length % 2 = 0 → symsL (prs l) = symsL l
  | [], _ => by rw [prs]; intro _ _ _ h; cases h
  | [_], h => by simp at h
  | a :: b :: l, h => by
    rw [prs, symsL, syms_cons, prs_syms l (by simp only [List.length_cons] at h; omega), symsL, symsL, symsL, symsL, symsL, List.append_nil, List.append_assoc]
theorem prs_get : ∀ (l : List Coin) (j : Nat) (a b : Coin), l[2 * j]? = some a → l[2 * j + 1]? = some b → (prs l)[j]? = some (.node (a.wt + b.wt) 0 [a, b])
  | [], j, a, b, h, _ => by simp at h
  | [x], 0, a, b, _, h => by simp at h
  | [x], j + 1, a, b, h, _ => by simp [show 2 * (j + 1) = 2 * j + 1 + 1 by omega] at h
  | x :: y :: l, 0, a, b, h1, h2 => by simp at h1 h2; subst h1; subst h2; simp [prs]
  | x :: y :: l, j + 1, a, b, h1, h2 => by
    rw [show 2 * (j + 1) = 2 * j + 1 + 1 by omega, List.getElem?_cons_succ, List.getElem?_cons_succ] at h1
    rw [show 2 * (j + 1) + 1 = 2 * j + 1 + 1 + 1 by omega, List.getElem?_cons_succ, List.getElem?_cons_succ] at h2
    rw [prs, List.getElem?_cons_succ]
    exact prs_get l j a b h1 h2
/-- Pairs of numbers. -/
def prn : List Int → List Int
  | a :: b :: l => (a + b) :: prn l
  | _ => []
theorem prs_map : ∀ l : List Coin, (prs l).map Coin.wt = prn (l.map Coin.wt)
  | [] => rfl
  | [_] => rfl
  | a :: b :: l => by rw [prs, List.map_cons, prs_map l, List.map_cons, List.map_cons, prn, Coin.wt]
abbrev RiseN (l : List Int) : Prop := Rise (α := Int) id l
theorem rise_map {l : List Coin} : RiseN (l.map Coin.wt) ↔ Rise Coin.wt l := by unfold RiseN Rise; rw [List.pairwise_map]; rfl
theorem prn_ge {a b : Int} : ∀ (m : List Int), (∀ y ∈ m, a ≤ y ∧ b ≤ y) → ∀ y ∈ prn m, a + b ≤ y
  | [], _, y, hy => by cases hy
  | [_], _, y, hy => by cases hy
  | c :: d :: m, hm, y, hy => by
    rw [prn] at hy
    rcases List.mem_cons.1 hy with rfl | hy
    · have := hm c (by simp); have := hm d (by simp); omega
    · exact prn_ge m (fun z hz => hm z (by simp [hz])) y hy
theorem prn_rise : ∀ {l : List Int}, RiseN l → RiseN (prn l)
  | [], _ => List.Pairwise.nil
  | [_], _ => List.Pairwise.nil
  | a :: b :: l, h => by
    have h1 := List.pairwise_cons.1 h
    have h2 := List.pairwise_cons.1 h1.2
    rw [prn]
    refine List.pairwise_cons.2 ⟨?_, prn_rise h2.2⟩
    exact prn_ge l fun y hy => ⟨h1.1 y (by simp [hy]), h2.1 y hy⟩
theorem prs_rise {l : List Coin} (h : Rise Coin.wt l) : Rise Coin.wt (prs l) := rise_map.1 (by rw [prs_map]; exact prn_rise (rise_map.2 h))
/-- The rows of packages. -/
def rows (cs : List Coin) : Nat → List Coin
  | 0 => []
  | d + 1 => mrg Coin.wt cs (prs (rows cs d))
def nrows (ws : List Int) : Nat → List Int
  | 0 => []
  | d + 1 => mrg id ws (prn (nrows ws d))
theorem rows_map (cs : List Coin) : ∀ d, (rows cs d).map Coin.wt = nrows (cs.map Coin.wt) d
  | 0 => rfl
  | d + 1 => by rw [rows, nrows, mrg_map (wt := Coin.wt) (wb := (id : Int → Int)) (f := Coin.wt) (fun _ => rfl), prs_map, rows_map cs d]
theorem rows_rise {cs : List Coin} (h : Rise Coin.wt cs) : ∀ d, Rise Coin.wt (rows cs d)
  | 0 => List.Pairwise.nil
  | d + 1 => mrg_rise h (prs_rise (rows_rise h d))
theorem rows_stab {cs : List Coin} (h : Rise Coin.wt cs) (d : Nat) : Stab Coin.wt (cs ++ prs (rows cs d)) (rows cs (d + 1)) := mrg_stab h (prs_rise (rows_rise h d))
theorem rows_length (cs : List Coin) (d : Nat) : (rows cs (d + 1)).length = cs.length + (rows cs d).length / 2 := by rw [rows, mrg_length, prs_length]
/-- So many stand in a row at least. -/
theorem rows_enough (cs : List Coin) (h : 1 ≤ cs.length) : ∀ d, 2 * cs.length ≤ (rows cs (d + 1)).length + 1 + (cs.length - 1) / 2 ^ d
  | 0 => by rw [rows_length, rows]; simp; omega
  | d + 1 => by
    have ih := rows_enough cs h d
    rw [rows_length cs (d + 1)]
    have e : (cs.length - 1) / 2 ^ (d + 1) = (cs.length - 1) / 2 ^ d / 2 := by rw [Nat.pow_succ, Nat.div_div_eq_div_mul]
    rw [e]
    omega
theorem rows_has (cs : List Coin) (h : 1 ≤ cs.length) {d : Nat} (hd : 1 ≤ d) (hn : cs.length ≤ 2 ^ d) : 2 * cs.length - 2 ≤ (rows cs d).length := by
  obtain ⟨d, rfl⟩ : ∃ e, d = e + 1 := ⟨d - 1, by omega⟩
  have := rows_enough cs h d
  have h2 : (cs.length - 1) / 2 ^ d ≤ 1 := by
    have : (cs.length - 1) / 2 ^ d < 2 := Nat.div_lt_of_lt_mul (by have : 2 ^ (d + 1) = 2 ^ d * 2 := Nat.pow_succ ..; omega)
    omega
  omega
theorem mrg_perm {α : Type} (wt : α → Int) (a b : List α) : (mrg wt a b).Perm (a ++ b) := by unfold mrg; exact List.merge_perm_append _
end Go.L5

-- L1Defs
namespace Go.L1
open Go Go.Sx Go.Proofs Go.L5
structure Pr where
  a : Int
  b : Int
def T1 (id : Nat) : Type := match id with | 6 => Coin | 7 => Unit | 8 => List Coin | _ => Pr
def C1 : Cod T1 where
  sz id := match id with | 6 => 1 | 7 => 1 | 8 => 1 | _ => 2
  bytes id := match id with | 6 => 8 | 7 => 8 | 8 => 24 | _ => 16
  dflt id := match id with | 6 => Coin.node 0 0 [] | 7 => () | 8 => ([] : List Coin) | 0 | 1 | 2 | 3 | 4 | 5 | _ + 9 => (⟨0, 0⟩ : Pr)
  enc id := match id with
    | 6 => fun (x : Coin) => [.rp [.int .i64 x.wt, .int .i64 x.sym, .ro (.recs 6 x.kids)] 0]
    | 7 => fun _ => [.val (.pointer none)]
    | 8 => fun (x : List Coin) => [.ro (.recs 6 x)]
    | 0 | 1 | 2 | 3 | 4 | 5 | _ + 9 => fun (x : Pr) => [.int .i64 x.a, .int .i64 x.b]
  dec id := match id with
    | 6 => fun l => match l with | [.rp [.int .i64 w, .int .i64 s, .ro (.recs 6 k)] 0] => some (Coin.node w s k) | _ => none
    | 7 => fun l => match l with | [.val (.pointer none)] => some () | _ => none
    | 8 => fun l => match l with | [.ro (.recs 6 k)] => some k | _ => none
    | 0 | 1 | 2 | 3 | 4 | 5 | _ + 9 => fun l => match l with | [.int .i64 a, .int .i64 b] => some (⟨a, b⟩ : Pr) | _ => none
def tis : List TI := [⟨.other, 1, 0, .no, .no⟩,
  ⟨.one .nilFunc, 1, 8, .no, .no⟩,
  ⟨.int .i64, 1, 8, .int .i64, .int .i64⟩,
  ⟨.int .i64, 1, 8, .int .i64, .int .i64⟩,
  ⟨.bool, 1, 1, .bool, .bool⟩,
  ⟨.int .u8, 1, 1, .byte, .byte⟩,
  ⟨.int .u8, 1, 1, .byte, .byte⟩,
  ⟨.struct [(2, 0), (3, 1), (4, 2), (6, 3)], 4, 24, .no, .no⟩,
  ⟨.struct [(2, 0), (3, 1), (4, 2), (6, 3)], 4, 24, .no, .no⟩,
  ⟨.str, 1, 16, .str, .str⟩,
  ⟨.str, 1, 16, .str, .str⟩,
  ⟨.str, 1, 16, .str, .str⟩,
  ⟨.int .u64, 1, 8, .int .u64, .int .u64⟩,
  ⟨.struct [(9, 0), (12, 1)], 2, 24, .no, .no⟩,
  ⟨.struct [(9, 0), (12, 1)], 2, 24, .no, .no⟩,
  ⟨.ptr 92, 1, 8, .no, .no⟩,
  ⟨.ptr 95, 1, 8, .no, .no⟩,
  ⟨.ptr 104, 1, 8, .no, .no⟩,
  ⟨.struct [(17, 0)], 1, 8, .no, .no⟩,
  ⟨.struct [(17, 0)], 1, 8, .no, .no⟩,
  ⟨.one .nilIface, 1, 16, .no, .no⟩,
  ⟨.int .i32, 1, 4, .int .i32, .int .i32⟩,
  ⟨.slice 3, 1, 24, .no, .no⟩,
  ⟨.one .nilFunc, 1, 8, .no, .no⟩,
  ⟨.int .i64, 1, 8, .int .i64, .int .i64⟩,
  ⟨.other, 1, 0, .no, .no⟩,
  ⟨.one .nilFunc, 1, 8, .no, .no⟩,
  ⟨.one .nilFunc, 1, 8, .no, .no⟩,
  ⟨.one .nilFunc, 1, 8, .no, .no⟩,
  ⟨.slice 33, 1, 24, .no, .no⟩,
  ⟨.one .nilFunc, 1, 8, .no, .no⟩,
  ⟨.slice 34, 1, 24, .no, .no⟩,
  ⟨.struct [(3, 0), (3, 1)], 2, 16, .no, .no⟩,
  ⟨.struct [(3, 0), (3, 1)], 2, 16, .st 1, .st 1⟩,
  ⟨.struct [(3, 0), (3, 1)], 2, 16, .st 2, .st 2⟩,
  ⟨.other, 1, 0, .no, .no⟩,
  ⟨.one .nilFunc, 1, 8, .no, .no⟩,
  ⟨.one .nilFunc, 1, 8, .no, .no⟩,
  ⟨.one .nilFunc, 1, 8, .no, .no⟩,
  ⟨.one .nilFunc, 1, 8, .no, .no⟩,
  ⟨.one .nilFunc, 1, 8, .no, .no⟩,
  ⟨.one .nilFunc, 1, 8, .no, .no⟩,
  ⟨.one .nilFunc, 1, 8, .no, .no⟩,
  ⟨.int .u64, 1, 8, .int .u64, .int .u64⟩,
  ⟨.one .nilFunc, 1, 8, .no, .no⟩,
  ⟨.one .nilFunc, 1, 8, .no, .no⟩,
  ⟨.one .nilFunc, 1, 8, .no, .no⟩,
  ⟨.other, 1, 0, .no, .no⟩,
  ⟨.one .nilFunc, 1, 8, .no, .no⟩,
  ⟨.one .nilFunc, 1, 8, .no, .no⟩,
  ⟨.slice 54, 1, 24, .st 8, .st 8⟩,
  ⟨.one .nilFunc, 1, 8, .no, .no⟩,
  ⟨.struct [(3, 0), (3, 1), (50, 2)], 3, 40, .no, .no⟩,
  ⟨.struct [(3, 0), (3, 1), (50, 2)], 3, 40, .no, .no⟩,
  ⟨.ptr 53, 1, 8, .st 6, .st 7⟩,
  ⟨.one .nilFunc, 1, 8, .no, .no⟩,
  ⟨.one .nilFunc, 1, 8, .no, .no⟩,
  ⟨.one .nilFunc, 1, 8, .no, .no⟩,
  ⟨.one .nilFunc, 1, 8, .no, .no⟩,
  ⟨.one .nilFunc, 1, 8, .no, .no⟩,
  ⟨.one .nilFunc, 1, 8, .no, .no⟩,
  ⟨.one .nilFunc, 1, 8, .no, .no⟩,
  ⟨.other, 1, 0, .no, .no⟩,
  ⟨.one .nilFunc, 1, 8, .no, .no⟩,
  ⟨.other, 1, 0, .no, .no⟩,
  ⟨.one .nilFunc, 1, 8, .no, .no⟩,
  ⟨.one .nilFunc, 1, 8, .no, .no⟩,
  ⟨.one .nilFunc, 1, 8, .no, .no⟩,
  ⟨.one .nilFunc, 1, 8, .no, .no⟩,
  ⟨.one .nilFunc, 1, 8, .no, .no⟩,
  ⟨.slice 50, 1, 24, .no, .no⟩,
  ⟨.one .nilFunc, 1, 8, .no, .no⟩,
  ⟨.one .nilFunc, 1, 8, .no, .no⟩,
  ⟨.one .nilFunc, 1, 8, .no, .no⟩,
  ⟨.one .nilFunc, 1, 8, .no, .no⟩,
  ⟨.one .nilFunc, 1, 8, .no, .no⟩,
  ⟨.one .nilFunc, 1, 8, .no, .no⟩,
  ⟨.one .nilFunc, 1, 8, .no, .no⟩,
  ⟨.one .nilFunc, 1, 8, .no, .no⟩,
  ⟨.other, 1, 0, .no, .no⟩,
  ⟨.one .nilFunc, 1, 8, .no, .no⟩,
  ⟨.one .nilFunc, 1, 8, .no, .no⟩,
  ⟨.one .nilFunc, 1, 8, .no, .no⟩,
  ⟨.one .nilFunc, 1, 8, .no, .no⟩,
  ⟨.int .u32, 1, 4, .int .u32, .int .u32⟩,
  ⟨.other, 1, 0, .no, .no⟩,
  ⟨.one .nilFunc, 1, 8, .no, .no⟩,
  ⟨.int .u64, 1, 8, .int .u64, .int .u64⟩,
  ⟨.other, 1, 0, .no, .no⟩,
  ⟨.one .nilFunc, 1, 8, .no, .no⟩,
  ⟨.one .nilFunc, 1, 8, .no, .no⟩,
  ⟨.struct [(17, 0), (17, 1), (17, 2), (9, 3)], 4, 40, .no, .no⟩,
  ⟨.struct [(17, 0), (17, 1), (17, 2), (9, 3)], 4, 40, .no, .no⟩,
  ⟨.other, 0, 0, .no, .no⟩,
  ⟨.other, 0, 0, .no, .no⟩,
  ⟨.other, 0, 0, .no, .no⟩,
  ⟨.one .nilFunc, 1, 8, .no, .no⟩,
  ⟨.int .u8, 1, 1, .byte, .byte⟩,
  ⟨.int .u8, 1, 1, .byte, .byte⟩,
  ⟨.one .nilFunc, 1, 8, .no, .no⟩,
  ⟨.ptr 5, 1, 8, .no, .no⟩,
  ⟨.int .i32, 1, 4, .int .i32, .int .i32⟩,
  ⟨.int .i32, 1, 4, .int .i32, .int .i32⟩,
  ⟨.struct [(12, 0), (12, 1), (84, 2), (97, 3), (5, 4), (5, 5), (98, 6), (99, 7), (100, 8), (101, 9), (102, 10)], 11, 48, .no, .no⟩,
  ⟨.struct [(12, 0), (12, 1), (84, 2), (97, 3), (5, 4), (5, 5), (98, 6), (99, 7), (100, 8), (101, 9), (102, 10)], 11, 48, .no, .no⟩,
  ⟨.other, 1, 8, .no, .no⟩]

theorem cod1 : CodOK C1 where
  sz id x := by
    match id, x with
    | 6, _ => rfl
    | 7, _ => rfl
    | 8, _ => rfl
    | 0, _ | 1, _ | 2, _ | 3, _ | 4, _ | 5, _ | _ + 9, _ => rfl
  pos id := by
    match id with
    | 6 => decide
    | 7 => decide
    | 8 => decide
    | 0 | 1 | 2 | 3 | 4 | 5 => decide
    | _ + 9 => exact Nat.succ_pos 1
  free id x c := by
    match id, x with
    | 6, _ => rfl
    | 7, _ => rfl
    | 8, _ => rfl
    | 0, _ | 1, _ | 2, _ | 3, _ | 4, _ | 5, _ | _ + 9, _ => rfl
  dec id l x h := by
    match id, x with
    | 6, x =>
      simp only [C1] at h
      split at h
      · cases h; rfl
      · cases h
    | 7, x =>
      simp only [C1] at h
      split at h
      · cases h; rfl
      · cases h
    | 8, x =>
      simp only [C1] at h
      split at h
      · cases h; rfl
      · cases h
    | 0, x | 1, x | 2, x | 3, x | 4, x | 5, x | n + 9, x =>
      simp only [C1] at h
      split at h
      · cases h; rfl
      · cases h
theorem tab1 (pin : Nat → Bool) {kp : List Nat} : TabOK Try.prog C1 ⟨lookT tis, pin, kp⟩ := tabOK_of (by kernel_rfl)
theorem zero1 (pin : Nat → Bool) {kp : List Nat} : ZeroOK Try.prog C1 ⟨lookT tis, pin, kp⟩ := zeroOK_of cod1 (by kernel_rfl)
theorem mix1 : Try.prog.follows .mixedOrders = true := by kernel_rfl
def codeOf (f : Func) : Code := match f.body with | some c => c | none => .skip
end Go.L1

-- P3
namespace Go.L5
theorem prs_mem : ∀ (l : List Coin) (y : Coin), y ∈ prs l → ∃ a b, a ∈ l ∧ b ∈ l ∧ y = .node (a.wt + b.wt) 0 [a, b]
  | [], y, h => by cases h
  | [_], y, h => by cases h
  | a :: b :: l, y, h => by
    rw [prs] at h
    rcases List.mem_cons.1 h with rfl | h
    · exact ⟨a, b, by simp, by simp, rfl⟩
    · obtain ⟨c, d, hc, hd, e⟩ := prs_mem l y h
      exact ⟨c, d, by simp [hc], by simp [hd], e⟩
theorem rows_mem (cs : List Coin) (d : Nat) (x : Coin) : x ∈ rows cs (d + 1) ↔ x ∈ cs ∨ x ∈ prs (rows cs d) := by
  rw [rows, (mrg_perm ..).mem_iff, List.mem_append]
theorem rows_pos {cs : List Coin} (h : ∀ c ∈ cs, 0 < c.wt) : ∀ d, ∀ x ∈ rows cs d, 0 < x.wt
  | 0, x, hx => by cases hx
  | d + 1, x, hx => by
    rcases (rows_mem cs d x).1 hx with hx | hx
    · exact h x hx
    · obtain ⟨a, b, ha, hb, rfl⟩ := prs_mem _ _ hx
      have := rows_pos h d a ha
      have := rows_pos h d b hb
      show 0 < a.wt + b.wt
      omega
theorem rows_ge {cs : List Coin} {w : Int} (h : ∀ c ∈ cs, w ≤ c.wt) (h0 : 0 ≤ w) : ∀ d, ∀ x ∈ rows cs d, w ≤ x.wt
  | 0, x, hx => by cases hx
  | d + 1, x, hx => by
    rcases (rows_mem cs d x).1 hx with hx | hx
    · exact h x hx
    · obtain ⟨a, b, ha, hb, rfl⟩ := prs_mem _ _ hx
      have := rows_ge h h0 d a ha
      have := rows_ge h h0 d b hb
      show w ≤ a.wt + b.wt
      omega
def wsum : List Nat → Nat
  | [] => 0
  | i :: is => i * 2 ^ (is.length + 1) + wsum is
/-- How many of the first coins are taken at each level, the last one first. -/
structure Lv (cs : List Coin) (d m : Nat) (is : List Nat) : Prop where
  len : is.length = d
  le : ∀ i ∈ is, i ≤ cs.length
  down : is.Pairwise fun a b => b ≤ a
  syms : (symsL ((rows cs d).take m)).Perm (is.flatMap fun i => symsL (cs.take i))
  sum : wsum is = m * 2 ^ d
  head : ∀ i is', is = i :: is' → ∀ x ∈ cs.take i, x ∈ (rows cs d).take m
  /-- of coins of one weight all are taken ahead of any two together -/
  flat : ∀ w, (∀ x ∈ cs, x.wt = w) → is.Pairwise fun a b => a < cs.length → b = 0
theorem wsum_zero : ∀ {is : List Nat}, wsum is = 0 → ∀ i ∈ is, i = 0
  | [], _, _, h => by cases h
  | k :: is, h0, i, h => by
    rw [wsum] at h0
    have h1 : k * 2 ^ (is.length + 1) = 0 := by omega
    rcases List.mem_cons.1 h with rfl | h
    · rcases Nat.mul_eq_zero.1 h1 with h1 | h1
      · exact h1
      · have := Nat.two_pow_pos (is.length + 1); omega
    · exact wsum_zero (by omega) i h
theorem rise_take {α : Type} {wt : α → Int} {l : List α} (h : Rise wt l) {k : Nat} {x : α} (hx : x ∈ l.take (k + 1)) {y : α} (hy : l[k]? = some y) : wt x ≤ wt y := by
  obtain ⟨i, hi⟩ := List.mem_iff_getElem?.1 hx
  rw [List.getElem?_take] at hi
  split at hi
  · rename_i hlt
    rcases Nat.lt_or_ge i k with h1 | h1
    · obtain ⟨hil, rfl⟩ := List.getElem?_eq_some_iff.1 hi
      obtain ⟨hkl, rfl⟩ := List.getElem?_eq_some_iff.1 hy
      exact (List.pairwise_iff_getElem.1 h) i k hil hkl h1
    · have : i = k := by omega
      subst this
      rw [hi] at hy
      cases hy
      exact Int.le_refl _
  · cases hi
theorem lev_ex {cs : List Coin} (hr : Rise Coin.wt cs) (hp : ∀ c ∈ cs, 0 < c.wt) : ∀ (d m : Nat), m ≤ (rows cs d).length → ∃ is, Lv cs d m is
  | 0, m, h => by
    have : m = 0 := by simpa [rows] using h
    subst this
    exact ⟨[], rfl, nofun, List.Pairwise.nil, by simp [rows, symsL], by simp [wsum], nofun, fun _ _ => List.Pairwise.nil⟩
  | d + 1, m, h => by
    obtain ⟨i, j, c⟩ := mrg_cut hr (prs_rise (rows_rise hr d)) (m := m) (by rw [rows, mrg_length] at h; exact h)
    have hj : 2 * j ≤ (rows cs d).length := by have := c.jl; rw [prs_length] at this; omega
    obtain ⟨is, l⟩ := lev_ex hr hp d (2 * j) hj
    have ht : (rows cs (d + 1)).take m = mrg Coin.wt (cs.take i) (prs ((rows cs d).take (2 * j))) := by rw [← prs_take _ _ hj]; exact c.t
    refine ⟨i :: is, by rw [List.length_cons, l.len], fun k hk => ?_, List.pairwise_cons.2 ⟨?_, l.down⟩, ?_, ?_, fun i' is' e x hx => ?_, ?_⟩
    · rcases List.mem_cons.1 hk with rfl | hk
      · exact c.il
      · exact l.le k hk
    · intro k hk
      obtain ⟨i1, is1, rfl⟩ : ∃ i1 is1, is = i1 :: is1 := by
        cases is with
        | nil => cases hk
        | cons a b => exact ⟨a, b, rfl⟩
      have hki : k ≤ i1 := by
        rcases List.mem_cons.1 hk with rfl | hk
        · exact Nat.le_refl _
        · exact (List.pairwise_cons.1 l.down).1 k hk
      refine Nat.le_trans hki (Nat.le_of_not_lt fun hlt => ?_)
      have hi1 : i < cs.length := Nat.lt_of_lt_of_le hlt (l.le i1 (by simp))
      have hx : cs[i] ∈ cs.take i1 := List.mem_take_iff_getElem.2 ⟨i, by omega, rfl⟩
      have hx2 := l.head i1 is1 rfl _ hx
      cases j with
      | zero => rw [Nat.mul_zero, List.take_zero] at hx2; cases hx2
      | succ j =>
        have e : 2 * (j + 1) = 2 * j + 1 + 1 := by omega
        have ha : (rows cs d)[2 * j]? = some (rows cs d)[2 * j] := List.getElem?_eq_getElem (by omega)
        have hb : (rows cs d)[2 * j + 1]? = some (rows cs d)[2 * j + 1] := List.getElem?_eq_getElem (by omega)
        rw [e] at hx2
        have h1 := rise_take (rows_rise hr d) hx2 hb
        have h2 := rows_pos hp d _ (List.mem_of_getElem? ha)
        have h3 := prs_get _ j _ _ ha hb
        have h4 := c.ba _ (List.mem_of_getElem? (i := j) (by rw [List.getElem?_take, if_pos (Nat.lt_succ_self _)]; exact h3)) cs[i] (List.mem_drop_iff_getElem.2 ⟨0, by omega, by simp⟩)
        have h5 : (rows cs d)[2 * j].wt + (rows cs d)[2 * j + 1].wt < cs[i].wt := h4
        omega
    · rw [ht]
      refine (symsL_perm (mrg_perm ..)).trans ?_
      rw [symsL_app, List.flatMap_cons, prs_syms _ (by rw [List.length_take]; omega)]
      exact l.syms.append_left _
    · rw [wsum, l.sum, l.len, ← c.s, Nat.add_mul, Nat.pow_succ, Nat.mul_comm 2 j, Nat.mul_assoc j 2, Nat.mul_comm 2 (2 ^ d)]
    rotate_left
    · refine fun w hw => List.pairwise_cons.2 ⟨fun k hk hi => ?_, l.flat w hw⟩
      have hj0 : j = 0 := by
        refine Nat.eq_zero_of_not_pos fun hj0 => ?_
        obtain ⟨y, hy⟩ : ∃ y, ((prs (rows cs d)).take j)[0]? = some y := ⟨_, List.getElem?_eq_getElem (by rw [List.length_take]; have := c.jl; omega)⟩
        have h1 := c.ba y (List.mem_of_getElem? hy) cs[i] (List.mem_drop_iff_getElem.2 ⟨0, by omega, by simp⟩)
        obtain ⟨a, b, ha, hb, rfl⟩ := prs_mem _ _ (List.mem_of_mem_take (List.mem_of_getElem? hy))
        have h2 := rows_ge (fun x hx => Int.le_of_eq (hw x hx).symm) (by have := hp cs[i] (List.getElem_mem _); rw [hw cs[i] (List.getElem_mem _)] at this; omega) d a ha
        have h3 := rows_pos hp d b hb
        have h4 := hw cs[i] (List.getElem_mem _)
        have h1 : a.wt + b.wt < cs[i].wt := h1
        omega
      have := l.sum
      rw [hj0, Nat.mul_zero, Nat.zero_mul] at this
      exact wsum_zero this k hk
    · obtain ⟨rfl, rfl⟩ := List.cons.inj e
      rw [ht, (mrg_perm ..).mem_iff, List.mem_append]
      exact .inl hx
/-- How many levels a place is taken at. -/
def lvl (is : List Nat) (p : Nat) : Nat := (is.filter fun i => decide (p < i)).length
theorem lvl_nil (p : Nat) : lvl [] p = 0 := rfl
theorem lvl_cons (i : Nat) (is : List Nat) (p : Nat) : lvl (i :: is) p = (if p < i then 1 else 0) + lvl is p := by
  unfold lvl
  rw [List.filter_cons]
  by_cases h : p < i
  · rw [if_pos (by simpa using h), if_pos h, List.length_cons, Nat.add_comm]
  · rw [if_neg (by simpa using h), if_neg h, Nat.zero_add]
theorem lvl_le (is : List Nat) (p : Nat) : lvl is p ≤ is.length := List.length_filter_le ..
theorem lvl_anti {is : List Nat} {p q : Nat} (h : p ≤ q) : lvl is q ≤ lvl is p := by
  induction is with
  | nil => exact Nat.le_refl _
  | cons i is ih => rw [lvl_cons, lvl_cons]; split <;> split <;> omega
/-- The sum over the places below. -/
def sumTo (f : Nat → Nat) : Nat → Nat
  | 0 => 0
  | n + 1 => sumTo f n + f n
theorem sumTo_congr {f g : Nat → Nat} : ∀ {n : Nat}, (∀ p, p < n → f p = g p) → sumTo f n = sumTo g n
  | 0, _ => rfl
  | n + 1, h => by rw [sumTo, sumTo, sumTo_congr (fun p hp => h p (by omega)), h n (by omega)]
theorem sumTo_ge {f g : Nat → Nat} : ∀ {n : Nat}, (∀ p, p < n → f p ≤ g p) → sumTo f n ≤ sumTo g n
  | 0, _ => Nat.le_refl _
  | n + 1, h => by rw [sumTo, sumTo]; have := sumTo_ge (n := n) (fun p hp => h p (by omega)); have := h n (by omega); omega
theorem sumTo_const (c : Nat) : ∀ n, sumTo (fun _ => c) n = n * c
  | 0 => by rw [sumTo, Nat.zero_mul]
  | n + 1 => by rw [sumTo, sumTo_const c n, Nat.succ_mul]
theorem sumTo_one {f : Nat → Nat} : ∀ {n p : Nat}, p < n → f p ≤ sumTo f n
  | 0, _, h => by omega
  | n + 1, p, h => by
    rw [sumTo]
    rcases Nat.lt_or_ge p n with h1 | h1
    · have := sumTo_one (f := f) h1; omega
    · have : p = n := by omega
      subst this; omega
theorem sumTo_two {f : Nat → Nat} : ∀ {n p q : Nat}, p < n → q < n → p ≠ q → f p + f q ≤ sumTo f n
  | 0, _, _, h, _, _ => by omega
  | n + 1, p, q, h, h2, hne => by
    rw [sumTo]
    rcases Nat.lt_or_ge p n with h1 | h1
    · rcases Nat.lt_or_ge q n with h3 | h3
      · have := sumTo_two (f := f) h1 h3 hne; omega
      · have : q = n := by omega
        subst this
        have := sumTo_one (f := f) h1; omega
    · have : p = n := by omega
      subst this
      have := sumTo_one (f := f) (show q < p by omega); omega
/-- Kraft's sum. -/
theorem lv_kraft (n : Nat) : ∀ is : List Nat, (∀ i ∈ is, i ≤ n) → is.Pairwise (fun a b => b ≤ a) → 2 * sumTo (fun p => 2 ^ (is.length - lvl is p)) n + wsum is = 2 * (n * 2 ^ is.length)
  | [], _, _ => by simp [sumTo_const, wsum, lvl_nil]
  | i :: is, hle, hd => by
    have ih := lv_kraft n is (fun k hk => hle k (by simp [hk])) (List.pairwise_cons.1 hd).2
    have hi := hle i (by simp)
    have hs := (List.pairwise_cons.1 hd).1
    have key : ∀ k, sumTo (fun p => 2 ^ ((i :: is).length - lvl (i :: is) p)) k = sumTo (fun p => 2 ^ (is.length - lvl is p)) k + (k - i) * 2 ^ is.length := by
      intro k
      induction k with
      | zero => simp [sumTo]
      | succ k ihk =>
        rw [sumTo, sumTo, ihk, lvl_cons]
        by_cases hk : k < i
        · rw [if_pos hk, show (i :: is).length - (1 + lvl is k) = is.length - lvl is k by rw [List.length_cons]; omega, show k + 1 - i = 0 by omega, show k - i = 0 by omega]
          omega
        · have h0 : lvl is k = 0 := by
            unfold lvl
            rw [List.length_eq_zero_iff, List.filter_eq_nil_iff]
            intro x hx
            have := hs x hx
            simp; omega
          rw [if_neg hk, h0, show k + 1 - i = k - i + 1 by omega, Nat.succ_mul, List.length_cons]
          have : 2 ^ (is.length + 1 - (0 + 0)) = 2 ^ is.length + 2 ^ is.length := by rw [Nat.add_zero, Nat.sub_zero, Nat.pow_succ]; omega
          rw [this, Nat.sub_zero]
          omega
    rw [key n, wsum, List.length_cons, Nat.pow_succ]
    have : n * 2 ^ is.length = (n - i) * 2 ^ is.length + i * 2 ^ is.length := by rw [← Nat.add_mul]; congr 1; omega
    have e1 : i * (2 ^ is.length * 2) = i * 2 ^ is.length * 2 := by rw [Nat.mul_assoc]
    have e2 : n * (2 ^ is.length * 2) = n * 2 ^ is.length * 2 := by rw [Nat.mul_assoc]
    rw [e1, e2]
    omega
theorem lv_full {cs : List Coin} {d : Nat} {is : List Nat} (h : Lv cs d (2 * cs.length - 2) is) (hn : 2 ≤ cs.length) : sumTo (fun p => 2 ^ (d - lvl is p)) cs.length = 2 ^ d ∧ ∀ p, p < cs.length → 1 ≤ lvl is p := by
  have h1 := lv_kraft cs.length is h.le h.down
  rw [h.sum, h.len] at h1
  have e : (2 * cs.length - 2) * 2 ^ d + 2 * 2 ^ d = 2 * (cs.length * 2 ^ d) := by rw [← Nat.add_mul, ← Nat.mul_assoc]; congr 1; omega
  have h2 : sumTo (fun p => 2 ^ (d - lvl is p)) cs.length = 2 ^ d := by omega
  refine ⟨h2, fun p hp => ?_⟩
  rcases Nat.eq_zero_or_pos (lvl is p) with h0 | h0
  · exfalso
    obtain ⟨q, hq, hne⟩ : ∃ q, q < cs.length ∧ p ≠ q := by
      cases p with
      | zero => exact ⟨1, by omega, by omega⟩
      | succ p => exact ⟨0, by omega, by omega⟩
    have h3 := sumTo_two (f := fun p => 2 ^ (d - lvl is p)) hp hq hne
    simp only [h0, Nat.sub_zero, h2] at h3
    have : 0 < 2 ^ (d - lvl is q) := Nat.two_pow_pos _
    omega
  · exact h0
end Go.L5

-- P4
namespace Go.L5
/-- The coins of the counts that aren't 0. -/
def leaves (k : Int) : List Int → List Coin
  | [] => []
  | c :: l => if 0 < c then .node c k [] :: leaves (k + 1) l else leaves (k + 1) l
theorem leaves_app : ∀ (a b : List Int) (k : Int), leaves k (a ++ b) = leaves k a ++ leaves (k + a.length) b
  | [], b, k => by simp [leaves]
  | c :: a, b, k => by
    rw [List.cons_append, leaves, leaves, leaves_app a b (k + 1), List.length_cons]
    have : k + 1 + (a.length : Int) = k + ((a.length + 1 : Nat) : Int) := by omega
    rw [this]
    split <;> simp
theorem leaves_mem : ∀ {l : List Int} {k : Int} {x : Coin}, x ∈ leaves k l ↔ ∃ (t : Nat) (c : Int), l[t]? = some c ∧ 0 < c ∧ x = .node c (k + t) []
  | [], k, x => by simp [leaves]
  | c :: l, k, x => by
    have ih := @leaves_mem l (k + 1) x
    constructor
    · intro h
      rw [leaves] at h
      split at h
      · rename_i hc
        rcases List.mem_cons.1 h with rfl | h
        · exact ⟨0, c, rfl, hc, by simp⟩
        · obtain ⟨t, c', h1, h2, rfl⟩ := ih.1 h
          exact ⟨t + 1, c', h1, h2, by congr 1; omega⟩
      · obtain ⟨t, c', h1, h2, rfl⟩ := ih.1 h
        exact ⟨t + 1, c', h1, h2, by congr 1; omega⟩
    · rintro ⟨t, c', h1, h2, rfl⟩
      rw [leaves]
      cases t with
      | zero =>
        simp only [List.getElem?_cons_zero, Option.some.injEq] at h1
        subst h1
        rw [if_pos h2]
        exact List.mem_cons.2 (.inl (by simp))
      | succ t =>
        rw [List.getElem?_cons_succ] at h1
        have : Coin.node c' (k + ((t + 1 : Nat) : Int)) [] ∈ leaves (k + 1) l := leaves_mem.2 ⟨t, c', h1, h2, by congr 1; omega⟩
        split
        · exact List.mem_cons_of_mem _ this
        · exact this
theorem leaves_sym : ∀ (l : List Int) (k : Int), ((leaves k l).map Coin.sym).Pairwise (· < ·) ∧ ∀ s ∈ (leaves k l).map Coin.sym, k ≤ s
  | [], k => ⟨List.Pairwise.nil, nofun⟩
  | c :: l, k => by
    obtain ⟨h1, h2⟩ := leaves_sym l (k + 1)
    rw [leaves]
    split
    · rw [List.map_cons]
      refine ⟨List.pairwise_cons.2 ⟨fun s hs => ?_, h1⟩, fun s hs => ?_⟩
      · have := h2 s hs; show k < s; omega
      · rcases List.mem_cons.1 hs with rfl | hs
        · exact Int.le_refl _
        · have := h2 s hs; omega
    · exact ⟨h1, fun s hs => by have := h2 s hs; omega⟩
/-- Any stable order of the coins, the later ones first. -/
def IsCoins (counts : List Int) (cs : List Coin) : Prop := Stab Coin.wt (leaves 0 counts).reverse cs
theorem stab_perm {α : Type} {wt : α → Int} {l r : List α} [DecidableEq α] (h : Stab wt l r) : r.Perm l := by
  rw [List.perm_iff_count]
  intro a
  have := congrArg (List.count a) (h.same (wt a))
  unfold same at this
  rw [List.count_filter (by simp), List.count_filter (by simp)] at this
  exact this
theorem perm_of_same {α : Type} {wt : α → Int} : ∀ {l r : List α}, (∀ w, same wt w r = same wt w l) → r.Perm l := by
  intro l r h
  letI : DecidableEq α := fun a b => Classical.propDecidable (a = b)
  rw [List.perm_iff_count]
  intro a
  have := congrArg (List.count a) (h (wt a))
  unfold same at this
  rw [List.count_filter (by simp), List.count_filter (by simp)] at this
  exact this
/-- What is known of the coins. -/
structure Coins (counts : List Int) (cs : List Coin) : Prop where
  rise : Rise Coin.wt cs
  mem : ∀ x, x ∈ cs ↔ ∃ (t : Nat) (c : Int), counts[t]? = some c ∧ 0 < c ∧ x = .node c t []
  nd : (cs.map Coin.sym).Nodup
  perm : cs.Perm (leaves 0 counts)
theorem IsCoins.all {counts : List Int} {cs : List Coin} (h : IsCoins counts cs) : Coins counts cs := by
  have hp : cs.Perm (leaves 0 counts) := (perm_of_same h.same).trans (List.reverse_perm _)
  refine ⟨h.rise, fun x => ?_, ?_, hp⟩
  · rw [hp.mem_iff, leaves_mem]
    simp
  · rw [(hp.map Coin.sym).nodup_iff]
    exact (leaves_sym counts 0).1.imp fun h => by intro e; omega
theorem Coins.pos {counts : List Int} {cs : List Coin} (h : Coins counts cs) : ∀ c ∈ cs, 0 < c.wt := fun c hc => by
  obtain ⟨t, c', h1, h2, rfl⟩ := (h.mem c).1 hc
  exact h2
theorem Coins.leaf {counts : List Int} {cs : List Coin} (h : Coins counts cs) : ∀ c ∈ cs, c.kids = [] := fun c hc => by
  obtain ⟨t, c', h1, h2, rfl⟩ := (h.mem c).1 hc
  rfl
theorem symsL_leaves : ∀ {l : List Coin}, (∀ c ∈ l, c.kids = []) → symsL l = l.map Coin.sym
  | [], _ => by rw [symsL]; rfl
  | .node w s k :: l, h => by
    have hk : k = [] := h (.node w s k) (by simp)
    subst hk
    rw [symsL, symsL_leaves (fun c hc => h c (by simp [hc])), syms_leaf]
    rfl
theorem count_take {l : List Int} (hn : l.Nodup) {p : Nat} {s : Int} (hp : l[p]? = some s) (i : Nat) : (l.take i).count s = if p < i then 1 else 0 := by
  obtain ⟨hpl, rfl⟩ := List.getElem?_eq_some_iff.1 hp
  have h1 : (l.take i).Nodup := hn.sublist (List.take_sublist ..)
  split
  · rename_i h
    have h2 := List.nodup_iff_count.1 h1 l[p]
    have h3 : 1 ≤ (l.take i).count l[p] := List.one_le_count_iff.2 (List.mem_take_iff_getElem.2 ⟨p, by omega, rfl⟩)
    omega
  · rename_i h
    rw [List.count_eq_zero]
    intro hm
    obtain ⟨q, hq, e⟩ := List.mem_take_iff_getElem.1 hm
    exact List.pairwise_iff_getElem.1 hn q p (by omega) hpl (by omega) e
/-- How often the symbols of these coins are there. -/
theorem lv_count {counts : List Int} {cs : List Coin} (h : Coins counts cs) {d m : Nat} {is : List Nat} (hl : Lv cs d m is) (s : Int) :
    (symsL ((rows cs d).take m)).count s = (is.map fun i => ((cs.take i).map Coin.sym).count s).sum := by
  rw [hl.syms.count_eq, List.count_flatMap]
  congr 1
  refine List.map_congr_left fun i _ => ?_
  show (symsL (cs.take i)).count s = _
  rw [symsL_leaves fun c hc => h.leaf c (List.mem_of_mem_take hc)]
theorem lv_count_at {counts : List Int} {cs : List Coin} (h : Coins counts cs) {d m : Nat} {is : List Nat} (hl : Lv cs d m is) {p : Nat} {x : Coin} (hp : cs[p]? = some x) :
    (symsL ((rows cs d).take m)).count x.sym = lvl is p := by
  rw [lv_count h hl]
  clear hl
  induction is with
  | nil => rfl
  | cons i is ih => rw [List.map_cons, List.sum_cons, ih, lvl_cons, List.map_take, count_take h.nd (p := p) (by rw [List.getElem?_map, hp]; rfl)]
theorem lv_count_no {counts : List Int} {cs : List Coin} (h : Coins counts cs) {d m : Nat} {is : List Nat} (hl : Lv cs d m is) {s : Int} (hs : ∀ x ∈ cs, x.sym ≠ s) :
    (symsL ((rows cs d).take m)).count s = 0 := by
  rw [lv_count h hl]
  clear hl
  induction is with
  | nil => rfl
  | cons i is ih =>
    rw [List.map_cons, List.sum_cons, ih, Nat.add_zero, List.count_eq_zero]
    intro hm
    obtain ⟨x, hx, e⟩ := List.mem_map.1 hm
    exact hs x (List.mem_of_mem_take hx) e
/-- The lengths. -/
def lensOf (cs : List Coin) (d len : Nat) : List Int := (List.range len).map fun (t : Nat) => (((symsL ((rows cs d).take (2 * cs.length - 2))).count (t : Int) : Nat) : Int)
theorem lensOf_length (cs : List Coin) (d len : Nat) : (lensOf cs d len).length = len := by unfold lensOf; simp
theorem lensOf_get {cs : List Coin} {d len t : Nat} (h : t < len) : (lensOf cs d len)[t]? = some (((symsL ((rows cs d).take (2 * cs.length - 2))).count (t : Int) : Nat) : Int) := by
  unfold lensOf
  rw [List.getElem?_map, List.getElem?_range h]; rfl
/-- What is known of the lengths. -/
structure Lens (counts : List Int) (d : Nat) (cs : List Coin) (is : List Nat) (l : List Int) : Prop where
  len : l.length = counts.length
  used : ∀ (p : Nat) (x : Coin), cs[p]? = some x → ∃ t : Nat, x.sym = t ∧ counts[t]? = some x.wt ∧ l[t]? = some (lvl is p : Int)
  un : ∀ (t : Nat) (c : Int), counts[t]? = some c → c ≤ 0 → l[t]? = some 0
  place : ∀ (t : Nat) (c : Int), counts[t]? = some c → 0 < c → ∃ p : Nat, cs[p]? = some (Coin.node c t [])
  one : ∀ p, p < cs.length → 1 ≤ lvl is p ∧ lvl is p ≤ d
  sum : sumTo (fun p => 2 ^ (d - lvl is p)) cs.length = 2 ^ d
theorem lens_ok {counts : List Int} {cs : List Coin} (h : Coins counts cs) {d : Nat} (hd : 1 ≤ d) (hn : 2 ≤ cs.length) (hm : cs.length ≤ 2 ^ d) :
    ∃ is, Lv cs d (2 * cs.length - 2) is ∧ Lens counts d cs is (lensOf cs d counts.length) := by
  obtain ⟨is, hl⟩ := lev_ex h.rise h.pos d (2 * cs.length - 2) (rows_has cs (by omega) hd hm)
  obtain ⟨h1, h2⟩ := lv_full hl hn
  refine ⟨is, hl, lensOf_length .., fun p x hx => ?_, fun t c hc h0 => ?_, fun t c hc h0 => ?_, fun p hp => ⟨h2 p hp, by rw [← hl.len]; exact lvl_le is p⟩, h1⟩
  · obtain ⟨t, c, hc, h0, rfl⟩ := (h.mem x).1 (List.mem_of_getElem? hx)
    refine ⟨t, rfl, hc, ?_⟩
    rw [lensOf_get (List.getElem?_eq_some_iff.1 hc).1]
    have := lv_count_at h hl hx
    simp only [Coin.sym] at this
    rw [this]
  · rw [lensOf_get (List.getElem?_eq_some_iff.1 hc).1, lv_count_no h hl (fun x hx e => ?_)]
    · rfl
    · obtain ⟨t', c', hc', h0', rfl⟩ := (h.mem x).1 hx
      have e : (t' : Int) = t := e
      have : t' = t := by omega
      subst this
      rw [hc] at hc'; cases hc'; omega
  · exact List.mem_iff_getElem?.1 ((h.mem _).2 ⟨t, c, hc, h0, rfl⟩)
/-- Of two counts the greater one has no greater length. -/
theorem Lens.order {counts : List Int} {d : Nat} {cs : List Coin} {is : List Nat} {l : List Int} (h : Lens counts d cs is l) (hr : Rise Coin.wt cs) {a b : Nat} {x y : Int} (ha : counts[a]? = some x) (hb : counts[b]? = some y)
    (hxy : y < x) (hy : 0 < y) : ∃ u v, l[a]? = some u ∧ l[b]? = some v ∧ u ≤ v := by
  obtain ⟨p, hp⟩ := h.place a x ha (by omega)
  obtain ⟨q, hq⟩ := h.place b y hb hy
  obtain ⟨t, e1, _, h1⟩ := h.used p _ hp
  obtain ⟨t', e2, _, h2⟩ := h.used q _ hq
  have e1 : (a : Int) = t := e1
  have e2 : (b : Int) = t' := e2
  have e1 : a = t := by omega
  have e2 : b = t' := by omega
  subst e1; subst e2
  refine ⟨_, _, h1, h2, ?_⟩
  have hpq : q ≤ p := by
    refine Nat.le_of_not_lt fun hlt => ?_
    obtain ⟨hpl, hp2⟩ := List.getElem?_eq_some_iff.1 hp
    obtain ⟨hql, hq2⟩ := List.getElem?_eq_some_iff.1 hq
    have := List.pairwise_iff_getElem.1 hr p q hpl hql hlt
    rw [hp2, hq2] at this
    have : x ≤ y := this
    omega
  have := lvl_anti (is := is) hpq
  omega
end Go.L5

-- P5
namespace Go.L5
def isum : List Int → Int
  | [] => 0
  | x :: l => x + isum l
theorem isum_app : ∀ a b : List Int, isum (a ++ b) = isum a + isum b
  | [], b => by simp [isum]
  | x :: a, b => by rw [List.cons_append, isum, isum, isum_app a b]; omega
theorem isum_perm {a b : List Int} (h : a.Perm b) : isum a = isum b := by
  induction h with
  | nil => rfl
  | cons x _ ih => rw [isum, isum, ih]
  | swap x y l => simp only [isum]; omega
  | trans _ _ ih1 ih2 => exact ih1.trans ih2
def G (cs : List Coin) (S : List Int) : Int := isum (cs.map fun x => x.wt * (S.count x.sym : Int))
theorem G_app (cs : List Coin) (S S' : List Int) : G cs (S ++ S') = G cs S + G cs S' := by
  unfold G
  induction cs with
  | nil => rfl
  | cons x cs ih =>
    rw [List.map_cons, List.map_cons, List.map_cons, isum, isum, isum, ih, List.count_append, Int.natCast_add, Int.mul_add]
    omega
theorem G_nil (cs : List Coin) : G cs [] = 0 := by
  unfold G
  induction cs with
  | nil => rfl
  | cons x cs ih => rw [List.map_cons, isum, ih, List.count_nil]; simp
theorem G_no {cs : List Coin} {s : Int} (h : ∀ x ∈ cs, x.sym ≠ s) : G cs [s] = 0 := by
  unfold G
  induction cs with
  | nil => rfl
  | cons x cs ih =>
    rw [List.map_cons, isum, ih (fun y hy => h y (by simp [hy])), List.count_eq_zero.2 (by simp; exact h x (by simp))]
    simp
theorem G_leaf {cs : List Coin} (hn : (cs.map Coin.sym).Nodup) {y : Coin} (hy : y ∈ cs) : G cs [y.sym] = y.wt := by
  induction cs with
  | nil => cases hy
  | cons x cs ih =>
    rw [List.map_cons] at hn
    obtain ⟨h1, h2⟩ := List.nodup_cons.1 hn
    have hcons : G (x :: cs) [y.sym] = x.wt * (([y.sym] : List Int).count x.sym : Int) + G cs [y.sym] := rfl
    rcases List.mem_cons.1 hy with rfl | hy
    · rw [hcons, G_no (fun z hz e => h1 (by rw [← e]; exact List.mem_map_of_mem hz))]
      simp
    · rw [hcons, ih h2 hy]
      have : ([y.sym] : List Int).count x.sym = 0 := by
        rw [List.count_eq_zero]
        simp
        intro e
        exact h1 (by rw [e]; exact List.mem_map_of_mem hy)
      rw [this]
      simp
theorem rows_G {counts : List Int} {cs : List Coin} (h : Coins counts cs) : ∀ d, ∀ y ∈ rows cs d, G cs (syms y) = y.wt
  | 0, y, hy => by cases hy
  | d + 1, y, hy => by
    rcases (rows_mem cs d y).1 hy with hy | hy
    · have hk := h.leaf y hy
      have : syms y = [y.sym] := by
        cases y with
        | node w s k =>
          have hk : k = [] := hk
          subst hk
          exact syms_leaf w s
      rw [this]
      exact G_leaf h.nd hy
    · obtain ⟨a, b, ha, hb, rfl⟩ := prs_mem _ _ hy
      rw [syms_cons, symsL, symsL, symsL, List.append_nil, G_app, rows_G h d a ha, rows_G h d b hb]
theorem symsL_G {counts : List Int} {cs : List Coin} (h : Coins counts cs) {d : Nat} : ∀ {l : List Coin}, (∀ y ∈ l, y ∈ rows cs d) → G cs (symsL l) = isum (l.map Coin.wt)
  | [], _ => by rw [symsL, G_nil]; rfl
  | y :: l, hl => by
    rw [symsL, G_app, rows_G h d y (hl y (by simp)), symsL_G h (fun z hz => hl z (by simp [hz])), List.map_cons, isum]
/-- What of the coins comes to the counts. -/
theorem leaves_sum (f : Int → Int → Int) (hf : ∀ c t, c ≤ 0 → f c t = 0) : ∀ (l : List Int) (k : Int), isum ((leaves k l).map fun x => f x.wt x.sym) = isum (List.zipWith (fun c (t : Nat) => f c (k + t)) l (List.range l.length))
  | [], k => by simp [leaves, isum]
  | c :: l, k => by
    rw [List.length_cons, List.range_succ_eq_map, List.zipWith_cons_cons, isum, List.zipWith_map_right]
    have ih := leaves_sum f hf l (k + 1)
    have e : (List.zipWith (fun c (t : Nat) => f c (k + ((t + 1 : Nat) : Int))) l (List.range l.length)) = List.zipWith (fun c (t : Nat) => f c (k + 1 + t)) l (List.range l.length) := by
      congr 1
      funext c t
      congr 1
      omega
    rw [leaves]
    split
    · rw [List.map_cons, isum, ih, ← e]
      simp
    · rw [ih, ← e, hf c _ (by omega)]
      simp
/-- The cost. -/
def tot (counts l : List Int) : Int := isum (List.zipWith (fun c n => c * n) counts l)
theorem zip_range (g : Int → Int → Int) (f : Nat → Int) : ∀ l : List Int, List.zipWith g l ((List.range l.length).map f) = List.zipWith (fun c (t : Nat) => g c (f t)) l (List.range l.length) := fun l => by rw [List.zipWith_map_right]
theorem isum_congr {f g : Int → Nat → Int} : ∀ (l : List Int) (m : List Nat), (∀ c ∈ l, ∀ t ∈ m, f c t = g c t) → isum (List.zipWith f l m) = isum (List.zipWith g l m)
  | [], _, _ => by simp
  | _ :: _, [], _ => by simp
  | c :: l, t :: m, h => by
    rw [List.zipWith_cons_cons, List.zipWith_cons_cons, isum, isum, h c (by simp) t (by simp), isum_congr l m (fun c hc t ht => h c (by simp [hc]) t (by simp [ht]))]
theorem lensOf_tot {counts : List Int} {cs : List Coin} (h : Coins counts cs) (h0 : ∀ c ∈ counts, 0 ≤ c) {d : Nat} : tot counts (lensOf cs d counts.length) = isum ((nrows (cs.map Coin.wt) d).take (2 * cs.length - 2)) := by
  have h1 := symsL_G h (d := d) (l := (rows cs d).take (2 * cs.length - 2)) (fun y hy => List.mem_of_mem_take hy)
  rw [List.map_take, rows_map] at h1
  rw [← h1]
  unfold G tot lensOf
  rw [isum_perm (h.perm.map _), zip_range]
  generalize symsL ((rows cs d).take (2 * cs.length - 2)) = S
  have h2 := leaves_sum (fun c t => if 0 < c then c * (S.count t : Int) else 0) (fun c t hc => if_neg (by omega)) counts 0
  have h3 : (leaves 0 counts).map (fun x => x.wt * (S.count x.sym : Int)) = (leaves 0 counts).map (fun x => if 0 < x.wt then x.wt * (S.count x.sym : Int) else 0) := by
    refine List.map_congr_left fun x hx => ?_
    obtain ⟨t, c, _, hc, rfl⟩ := leaves_mem.1 hx
    show _ = if 0 < c then _ else _
    rw [if_pos hc]
  rw [h3, h2]
  refine isum_congr _ _ fun c hc t _ => ?_
  have := h0 c hc
  rw [Int.zero_add]
  split
  · rfl
  · rw [show c = 0 by omega, Int.zero_mul]
/-- The room. -/
def rm (x : Int) : Nat := if 0 < x then 32768 / 2 ^ x.toNat else 0
theorem nsum_perm {a b : List Nat} (h : a.Perm b) : a.sum = b.sum := h.sum_nat
theorem leaves_room (S : List Int) : ∀ (l : List Int) (k : Int), (∀ (t : Nat) (c : Int), l[t]? = some c → c ≤ 0 → S.count (k + t) = 0) →
    ((leaves k l).map fun x => rm (S.count x.sym : Int)).sum = ((List.range l.length).map fun t : Nat => rm (S.count (k + (t : Int)) : Int)).sum
  | [], k, _ => by simp [leaves]
  | c :: l, k, h => by
    have ih := leaves_room S l (k + 1) (fun t c' h1 h2 => by
      have := h (t + 1) c' h1 h2
      rw [show k + 1 + (t : Int) = k + ((t + 1 : Nat) : Int) by omega]; exact this)
    rw [List.length_cons, List.range_succ_eq_map, List.map_cons, List.sum_cons, List.map_map]
    have e : ((fun t : Nat => rm (S.count (k + (t : Int)) : Int)) ∘ Nat.succ) = fun t : Nat => rm (S.count (k + 1 + (t : Int)) : Int) := by
      funext t
      show rm (S.count (k + ((t + 1 : Nat) : Int)) : Int) = _
      rw [show k + 1 + (t : Int) = k + ((t + 1 : Nat) : Int) by omega]
    rw [e, leaves]
    split
    · rw [List.map_cons, List.sum_cons, ih]
      simp
    · have := h 0 c rfl (by omega)
      rw [ih, this]
      simp [rm]
theorem sum_sumTo (f : Nat → Nat) : ∀ n, ((List.range n).map f).sum = sumTo f n
  | 0 => rfl
  | n + 1 => by rw [List.range_succ, List.map_append, List.sum_append, sum_sumTo f n, sumTo]; simp
theorem map_range {α β : Type} (l : List α) (f : α → β) (g : Nat → β) (h : ∀ p x, l[p]? = some x → f x = g p) : l.map f = (List.range l.length).map g := by
  refine List.ext_getElem? fun p => ?_
  rw [List.getElem?_map, List.getElem?_map]
  rcases Nat.lt_or_ge p l.length with hp | hp
  · rw [List.getElem?_range hp, List.getElem?_eq_getElem hp]
    exact congrArg some (h p _ (List.getElem?_eq_getElem hp))
  · rw [List.getElem?_eq_none hp, List.getElem?_eq_none (by simpa using hp)]; rfl
theorem lensOf_room {counts : List Int} {cs : List Coin} (h : Coins counts cs) {d : Nat} (hd : 1 ≤ d) (hd2 : d ≤ 15) (hn : 2 ≤ cs.length) (hm : cs.length ≤ 2 ^ d) : ((lensOf cs d counts.length).map rm).sum = 32768 := by
  obtain ⟨is, hl, hL⟩ := lens_ok h hd hn hm
  unfold lensOf
  rw [List.map_map]
  have h1 := leaves_room (symsL ((rows cs d).take (2 * cs.length - 2))) counts 0 (fun t c h1 h2 => by
    rw [Int.zero_add]
    refine lv_count_no h hl fun x hx e => ?_
    obtain ⟨t', c', hc', h0', rfl⟩ := (h.mem x).1 hx
    have e : (t' : Int) = t := e
    have : t' = t := by omega
    subst this
    rw [h1] at hc'; cases hc'; omega)
  simp only [Int.zero_add] at h1
  show ((List.range counts.length).map fun t : Nat => rm (((symsL ((rows cs d).take (2 * cs.length - 2))).count (t : Int) : Nat) : Int)).sum = _
  rw [← h1, nsum_perm ((h.perm.map _).symm), map_range cs _ (fun p => 2 ^ (15 - d) * 2 ^ (d - lvl is p)), sum_sumTo]
  · have key : ∀ n, sumTo (fun p => 2 ^ (15 - d) * 2 ^ (d - lvl is p)) n = 2 ^ (15 - d) * sumTo (fun p => 2 ^ (d - lvl is p)) n := by
      intro n
      induction n with
      | zero => rfl
      | succ n ih => rw [sumTo, sumTo, ih, Nat.mul_add]
    rw [key, hL.sum, ← Nat.pow_add, show 15 - d + d = 15 by omega]
  · intro p x hx
    have := hL.one p (List.getElem?_eq_some_iff.1 hx).1
    rw [lv_count_at h hl hx]
    unfold rm
    rw [if_pos (by omega), Int.toNat_natCast, ← Nat.pow_add, show (32768 : Nat) = 2 ^ 15 from rfl, Nat.pow_div (by omega) (by decide)]
    congr 1
    omega
end Go.L5

-- P6
namespace Go.L5
/-- How many are no greater. -/
def cn (v : Int) (l : List Int) : Nat := (l.filter fun x => decide (x ≤ v)).length
theorem cn_app (v : Int) (a b : List Int) : cn v (a ++ b) = cn v a + cn v b := by unfold cn; rw [List.filter_append, List.length_append]
theorem cn_perm {v : Int} {a b : List Int} (h : a.Perm b) : cn v a = cn v b := (h.filter _).length_eq
theorem cn_mrg (v : Int) (a b : List Int) : cn v (mrg id a b) = cn v a + cn v b := by rw [cn_perm (mrg_perm ..), cn_app]
theorem cn_cons (v x : Int) (l : List Int) : cn v (x :: l) = (if x ≤ v then 1 else 0) + cn v l := by
  unfold cn
  rw [List.filter_cons]
  by_cases h : x ≤ v
  · rw [if_pos (by simpa using h), if_pos h, List.length_cons, Nat.add_comm]
  · rw [if_neg (by simpa using h), if_neg h, Nat.zero_add]
theorem cn_spec {v : Int} : ∀ {l : List Int}, RiseN l → ∀ i, (i < cn v l ↔ ∃ y, l[i]? = some y ∧ y ≤ v)
  | [], _, i => by simp [cn]
  | x :: l, h, i => by
    obtain ⟨h1, h2⟩ := List.pairwise_cons.1 h
    have ih := cn_spec (v := v) h2
    rw [cn_cons]
    by_cases hx : x ≤ v
    · rw [if_pos hx]
      cases i with
      | zero => simp [hx]; omega
      | succ i =>
        rw [List.getElem?_cons_succ, ← ih i]
        omega
    · rw [if_neg hx, Nat.zero_add]
      have h0 : cn v l = 0 := by
        refine Nat.eq_zero_of_not_pos fun h0 => ?_
        obtain ⟨y, hy, hv⟩ := (ih 0).1 h0
        have : x ≤ y := h1 y (List.mem_of_getElem? hy)
        omega
      rw [h0]
      constructor
      · intro h; omega
      · rintro ⟨y, hy, hv⟩
        exfalso
        cases i with
        | zero => simp at hy; subst hy; exact hx hv
        | succ i =>
          have : x ≤ y := h1 y (List.mem_of_getElem? hy)
          omega
/-- Each one stands below the other row's, so many places on. -/
def Dom (k : Nat) (a b : List Int) : Prop := ∀ (i : Nat) (y : Int), b[i + k]? = some y → ∃ x, a[i]? = some x ∧ x ≤ y
theorem dom_iff {k : Nat} {a b : List Int} (ha : RiseN a) (hb : RiseN b) : Dom k a b ↔ ∀ v, cn v b ≤ cn v a + k := by
  constructor
  · intro h v
    refine Nat.le_of_not_lt fun hlt => ?_
    obtain ⟨y, hy, hv⟩ := (cn_spec hb (cn v a + k)).1 hlt
    obtain ⟨x, hx, hxy⟩ := h _ y hy
    have h3 : cn v a < cn v a := (cn_spec ha (cn v a)).2 ⟨x, hx, Int.le_trans hxy hv⟩
    omega
  · intro h i y hy
    have h1 : i + k < cn y b := (cn_spec hb (i + k)).2 ⟨y, hy, Int.le_refl _⟩
    have := h y
    exact (cn_spec ha i).1 (by omega)
theorem dom_mrg {k k' : Nat} {a b a' b' : List Int} (ha : RiseN a) (hb : RiseN b) (ha' : RiseN a') (hb' : RiseN b') (h : Dom k a b) (h' : Dom k' a' b') : Dom (k + k') (mrg id a a') (mrg id b b') := by
  rw [dom_iff (mrg_rise ha ha') (mrg_rise hb hb')]
  intro v
  rw [cn_mrg, cn_mrg]
  have := (dom_iff ha hb).1 h v
  have := (dom_iff ha' hb').1 h' v
  omega
theorem prn_get : ∀ (l : List Int) (j : Nat) (z : Int), (prn l)[j]? = some z ↔ ∃ a b, l[2 * j]? = some a ∧ l[2 * j + 1]? = some b ∧ z = a + b
  | [], j, z => by simp [prn]
  | [x], j, z => by
    simp only [prn, List.getElem?_nil, reduceCtorEq, false_iff]
    rintro ⟨a, b, _, h, _⟩
    simp at h
  | x :: y :: l, 0, z => by simp [prn, eq_comm]
  | x :: y :: l, j + 1, z => by
    rw [prn, List.getElem?_cons_succ, prn_get l j z, show 2 * (j + 1) = 2 * j + 1 + 1 by omega, show 2 * j + 1 + 1 + 1 = 2 * j + 1 + 1 + 1 from rfl]
    rw [List.getElem?_cons_succ, List.getElem?_cons_succ, List.getElem?_cons_succ, List.getElem?_cons_succ]
theorem dom_prn {k : Nat} {a b : List Int} (h : Dom (2 * k) a b) : Dom k (prn a) (prn b) := by
  intro i y hy
  obtain ⟨u, v, hu, hv, rfl⟩ := (prn_get ..).1 hy
  obtain ⟨u', hu', h1⟩ := h (2 * i) u (by rw [← hu]; congr 1; omega)
  obtain ⟨v', hv', h2⟩ := h (2 * i + 1) v (by rw [← hv]; congr 1; omega)
  exact ⟨u' + v', (prn_get ..).2 ⟨u', v', hu', hv', rfl⟩, by omega⟩
theorem nrows_rise {ws : List Int} (h : RiseN ws) : ∀ d, RiseN (nrows ws d)
  | 0 => List.Pairwise.nil
  | d + 1 => mrg_rise h (prn_rise (nrows_rise h d))
theorem dom_refl (a : List Int) : Dom 0 a a := fun _ y hy => ⟨y, hy, Int.le_refl _⟩
theorem nrows_level {ws : List Int} (h : RiseN ws) : ∀ d, Dom 0 (nrows ws (d + 1)) (nrows ws d)
  | 0 => fun i y hy => by simp [nrows] at hy
  | d + 1 => by
    have := dom_mrg h h (prn_rise (nrows_rise h (d + 1))) (prn_rise (nrows_rise h d)) (dom_refl ws) (dom_prn (k := 0) (nrows_level h d))
    exact this
theorem nrows_less {ws ws' : List Int} (h : RiseN ws) (h' : RiseN ws') (hd : Dom 1 ws' ws) : ∀ d, Dom 2 (nrows ws' d) (nrows ws d)
  | 0 => fun i y hy => by simp [nrows] at hy
  | d + 1 => by
    have := dom_mrg h' h (prn_rise (nrows_rise h' d)) (prn_rise (nrows_rise h d)) hd (dom_prn (k := 1) (nrows_less h h' hd d))
    exact this
theorem dom_sum {a : List Int} : ∀ {b : List Int}, Dom 0 a b → ∀ m, m ≤ b.length → isum (a.take m) ≤ isum (b.take m)
  | b, h, 0, _ => by simp
  | [], h, m + 1, hm => by simp at hm
  | y :: b, h, m + 1, hm => by
    obtain ⟨x, hx, hxy⟩ := h 0 y rfl
    cases a with
    | nil => simp at hx
    | cons x' a =>
      simp only [List.getElem?_cons_zero, Option.some.injEq] at hx
      subst hx
      rw [List.take_succ_cons, List.take_succ_cons, isum, isum]
      have := dom_sum (a := a) (b := b) (fun i z hz => h (i + 1) z (by simpa using hz)) m (by simpa using hm)
      omega
theorem isum_nn {l : List Int} (h : ∀ x ∈ l, 0 ≤ x) : 0 ≤ isum l := by
  induction l with
  | nil => exact Int.le_refl _
  | cons x l ih => rw [isum]; have := ih (fun y hy => h y (by simp [hy])); have := h x (by simp); omega
theorem dom_sum2 {a b : List Int} (h : Dom 2 a b) (h0 : ∀ x ∈ b, 0 ≤ x) {m : Nat} (hm : m + 2 ≤ b.length) : isum (a.take m) ≤ isum (b.take (m + 2)) := by
  match b, hm with
  | y :: z :: b, hm =>
    rw [List.take_succ_cons, List.take_succ_cons, isum, isum]
    have h1 := dom_sum (a := a) (b := b) (fun i u hu => h i u (by simpa using hu)) m (by simpa using hm)
    have := h0 y (by simp)
    have := h0 z (by simp)
    omega
/-- Weights so many times as great. -/
theorem mrg_scale {t : Int} (ht : 0 < t) (a b : List Int) : (mrg id a b).map (t * ·) = mrg id (a.map (t * ·)) (b.map (t * ·)) := by
  rw [← mrg_map (wt := fun x => t * x) (wb := (id : Int → Int)) (f := (t * ·)) (fun _ => rfl)]
  congr 1
  unfold mrg
  congr 1
  funext x y
  have : (t * x ≤ t * y) ↔ x ≤ y := Int.mul_le_mul_left ht
  simp [this]
theorem prn_scale (t : Int) : ∀ l : List Int, (prn l).map (t * ·) = prn (l.map (t * ·))
  | [] => rfl
  | [_] => rfl
  | a :: b :: l => by rw [prn, List.map_cons, prn_scale t l, List.map_cons, List.map_cons, prn, Int.mul_add]
theorem nrows_scale {t : Int} (ht : 0 < t) (ws : List Int) : ∀ d, (nrows ws d).map (t * ·) = nrows (ws.map (t * ·)) d
  | 0 => rfl
  | d + 1 => by rw [nrows, nrows, mrg_scale ht, prn_scale, nrows_scale ht ws d]
theorem isum_scale (t : Int) : ∀ l : List Int, isum (l.map (t * ·)) = t * isum l
  | [] => by simp [isum]
  | x :: l => by rw [List.map_cons, isum, isum, isum_scale t l, Int.mul_add]
/-- The least cost of these weights. -/
def costN (ws : List Int) (d : Nat) : Int := match ws with
  | [] => 0
  | [w] => w
  | ws => isum ((nrows ws d).take (2 * ws.length - 2))
theorem costN_two {ws : List Int} (h : 2 ≤ ws.length) (d : Nat) : costN ws d = isum ((nrows ws d).take (2 * ws.length - 2)) := by
  match ws, h with
  | _ :: _ :: _, _ => rfl
theorem costN_scale {t : Int} (ht : 0 < t) (ws : List Int) (d : Nat) : costN (ws.map (t * ·)) d = t * costN ws d := by
  match ws with
  | [] => simp [costN]
  | [w] => simp [costN]
  | a :: b :: l =>
    rw [costN_two (by simp), costN_two (by simp), ← nrows_scale ht, ← List.map_take, isum_scale, List.length_map]
/-- A rising row is told by what is in it. -/
theorem rise_perm {a b : List Int} (ha : RiseN a) (hb : RiseN b) (h : a.Perm b) : a = b := by
  refine stab_unique ha hb fun w => ?_
  have h1 : ∀ l : List Int, same id w l = List.replicate (l.count w) w := fun l => by
    unfold same
    have : (fun a : Int => decide (id a = w)) = fun a => a == w := by funext a; exact Bool.eq_iff_iff.2 (by simp)
    rw [this, List.filter_beq]
  rw [h1, h1, h.count_eq]
end Go.L5

-- P7
namespace Go.L5
variable {α : Type}
def seg (l : List α) (i j : Nat) : List α := (l.drop i).take (j - i)
theorem seg_split (l : List α) {i j k : Nat} (h1 : i ≤ j) (h2 : j ≤ k) : seg l i k = seg l i j ++ seg l j k := by
  unfold seg
  have e : k - i = (j - i) + (k - j) := by omega
  rw [e, List.take_add, List.drop_drop]
  congr 3
  omega
theorem seg_all (l : List α) {i j : Nat} (h : i ≤ j) : l = l.take i ++ (seg l i j ++ l.drop j) := by
  unfold seg
  have : l.drop j = (l.drop i).drop (j - i) := by rw [List.drop_drop]; congr 1; omega
  rw [this, List.take_append_drop, List.take_append_drop]
theorem seg_len (l : List α) {i j : Nat} (h : j ≤ l.length) : (seg l i j).length = j - i := by unfold seg; rw [List.length_take, List.length_drop]; omega
theorem seg_nil (l : List α) {i j : Nat} (h : j ≤ i) : seg l i j = [] := by unfold seg; rw [show j - i = 0 by omega, List.take_zero]
theorem seg_get (l : List α) {i j k : Nat} : (seg l i j)[k]? = if k < j - i then l[i + k]? else none := by unfold seg; rw [List.getElem?_take, List.getElem?_drop]
theorem mem_seg {l : List α} {i j : Nat} {x : α} : x ∈ seg l i j ↔ ∃ k, i ≤ k ∧ k < j ∧ l[k]? = some x := by
  constructor
  · intro h
    obtain ⟨k, hk⟩ := List.mem_iff_getElem?.1 h
    rw [seg_get] at hk
    split at hk
    · exact ⟨i + k, by omega, by omega, hk⟩
    · cases hk
  · rintro ⟨k, h1, h2, h3⟩
    refine List.mem_iff_getElem?.2 ⟨k - i, ?_⟩
    rw [seg_get, if_pos (by omega), show i + (k - i) = k by omega]
    exact h3
theorem seg_one {l : List α} {i : Nat} {x : α} (h : l[i]? = some x) : seg l i (i + 1) = [x] := by
  unfold seg
  obtain ⟨hl, rfl⟩ := List.getElem?_eq_some_iff.1 h
  rw [List.drop_eq_getElem_cons hl, show i + 1 - i = 1 by omega]
  rfl
theorem rise_seg {wt : α → Int} {l : List α} {i j : Nat} (h : Rise wt (seg l i j)) {p q : Nat} {x y : α} (h1 : i ≤ p) (h2 : p ≤ q) (h3 : q < j) (hx : l[p]? = some x) (hy : l[q]? = some y) : wt x ≤ wt y := by
  rcases Nat.eq_or_lt_of_le h2 with rfl | h2
  · rw [hx] at hy; cases hy; exact Int.le_refl _
  · have e1 : (seg l i j)[p - i]? = some x := by rw [seg_get, if_pos (by omega), show i + (p - i) = p by omega]; exact hx
    have e2 : (seg l i j)[q - i]? = some y := by rw [seg_get, if_pos (by omega), show i + (q - i) = q by omega]; exact hy
    obtain ⟨k1, rfl⟩ := List.getElem?_eq_some_iff.1 e1
    obtain ⟨k2, rfl⟩ := List.getElem?_eq_some_iff.1 e2
    exact List.pairwise_iff_getElem.1 h _ _ k1 k2 (by omega)
theorem rise_app {wt : α → Int} {a b : List α} : Rise wt (a ++ b) ↔ Rise wt a ∧ Rise wt b ∧ ∀ x ∈ a, ∀ y ∈ b, wt x ≤ wt y := List.pairwise_append
theorem rise_sub {wt : α → Int} {l : List α} {i j p q : Nat} (h : Rise wt (seg l i j)) (h1 : i ≤ p) (h2 : p ≤ q) (h3 : q ≤ j) : Rise wt (seg l p q) := by
  rw [seg_split l h1 (Nat.le_trans h2 h3), seg_split l h2 h3] at h
  exact (rise_app.1 (rise_app.1 h).2.1).1
theorem same_none {wt : α → Int} {w : Int} {l : List α} (h : ∀ x ∈ l, wt x ≠ w) : same wt w l = [] := by
  unfold same
  rw [List.filter_eq_nil_iff]
  intro x hx
  have := h x hx
  simpa using this
/-- Two rows made one, half by half. -/
theorem merge_halves {wt : α → Int} {X1 X2 Y1 Y2 Z1 Z2 : List α} (hX : Rise wt (X1 ++ X2)) (hY : Rise wt (Y1 ++ Y2)) (h1 : ∀ y ∈ Y1, ∀ x ∈ X2, wt y < wt x) (h2 : ∀ x ∈ X1, ∀ y ∈ Y2, wt x ≤ wt y)
    (s1 : Stab wt (X1 ++ Y1) Z1) (s2 : Stab wt (X2 ++ Y2) Z2) : Stab wt ((X1 ++ X2) ++ (Y1 ++ Y2)) (Z1 ++ Z2) := by
  have hX := rise_app.1 hX
  have hY := rise_app.1 hY
  refine ⟨rise_app.2 ⟨s1.rise, s2.rise, fun x hx y hy => ?_⟩, fun w => ?_⟩
  · rcases List.mem_append.1 ((perm_of_same s1.same).mem_iff.1 hx) with hx | hx <;> rcases List.mem_append.1 ((perm_of_same s2.same).mem_iff.1 hy) with hy | hy
    · exact hX.2.2 x hx y hy
    · exact h2 x hx y hy
    · exact Int.le_of_lt (h1 x hx y hy)
    · exact hY.2.2 x hx y hy
  · rw [same_app, s1.same, s2.same]
    simp only [same_app]
    by_cases h : ∃ y ∈ Y1, wt y = w
    · obtain ⟨y, hy, rfl⟩ := h
      rw [same_none (l := X2) (fun x hx e => by have := h1 y hy x hx; omega)]
      simp
    · rw [same_none (l := Y1) (fun y hy e => h ⟨y, hy, e⟩)]
      simp
theorem stab_single {wt : α → Int} {Y1 Y2 : List α} {x : α} (hY : Rise wt (Y1 ++ Y2)) (h1 : ∀ y ∈ Y1, wt y < wt x) (h2 : ∀ y ∈ Y2, wt x ≤ wt y) : Stab wt ([x] ++ (Y1 ++ Y2)) (Y1 ++ (x :: Y2)) := by
  have hY := rise_app.1 hY
  have := merge_halves (wt := wt) (X1 := []) (X2 := [x]) (Y1 := Y1) (Y2 := Y2) (Z1 := Y1) (Z2 := x :: Y2) (List.pairwise_singleton ..) (rise_app.2 hY) (fun y hy z hz => by rw [List.mem_singleton] at hz; subst hz; exact h1 y hy) nofun
    ⟨hY.1, fun _ => rfl⟩ ⟨List.pairwise_cons.2 ⟨h2, hY.2.1⟩, fun _ => rfl⟩
  simpa using this
theorem stab_single' {wt : α → Int} {X1 X2 : List α} {y : α} (hX : Rise wt (X1 ++ X2)) (h1 : ∀ x ∈ X1, wt x ≤ wt y) (h2 : ∀ x ∈ X2, wt y < wt x) : Stab wt ((X1 ++ X2) ++ [y]) (X1 ++ (y :: X2)) := by
  have hX' := rise_app.1 hX
  have hr : Rise wt (X1 ++ (y :: X2)) := rise_app.2 ⟨hX'.1, List.pairwise_cons.2 ⟨fun x hx => Int.le_of_lt (h2 x hx), hX'.2.1⟩, fun x hx z hz => by
    rcases List.mem_cons.1 hz with rfl | hz
    · exact h1 x hx
    · exact hX'.2.2 x hx z hz⟩
  refine ⟨hr, fun w => ?_⟩
  rw [same_app, same_app, same_app, same_cons, same_cons]
  by_cases h : wt y = w
  · rw [same_none (l := X2) (fun x hx e => by have := h2 x hx; omega)]
    simp [same]
  · rw [if_neg h]; simp [same]
theorem stab_nil {wt : α → Int} {l : List α} (h : Rise wt l) : Stab wt l l := ⟨h, fun _ => rfl⟩
/-- Halving. -/
def MonoT (T : Nat → Prop) (lo hi : Nat) : Prop := ∀ k k', lo ≤ k → k ≤ k' → k' < hi → T k' → T k
structure BsS (T : Nat → Prop) (lo hi i j : Nat) : Prop where
  a : lo ≤ i
  b : i ≤ j
  c : j ≤ hi
  t : ∀ k, lo ≤ k → k < i → T k
  f : ∀ k, j ≤ k → k < hi → ¬ T k
theorem BsS.yes {T : Nat → Prop} {lo hi i j : Nat} (hm : MonoT T lo hi) (h : BsS T lo hi i j) {c : Nat} (h1 : i ≤ c) (h2 : c < j) (ht : T c) : BsS T lo hi (c + 1) j :=
  ⟨by have := h.a; omega, by omega, h.c, fun k h3 h4 => hm k c h3 (by omega) (by have := h.c; omega) ht, h.f⟩
theorem BsS.no {T : Nat → Prop} {lo hi i j : Nat} (hm : MonoT T lo hi) (h : BsS T lo hi i j) {c : Nat} (h1 : i ≤ c) (h2 : c < j) (ht : ¬ T c) : BsS T lo hi i c :=
  ⟨h.a, h1, by have := h.c; omega, h.t, fun k h3 h4 hk => ht (hm c k (by have := h.a; omega) h3 h4 hk)⟩
end Go.L5

-- P8
namespace Go.L5
theorem rows_len2 (cs : List Coin) : ∀ d, (rows cs d).length ≤ 2 * cs.length
  | 0 => by simp [rows]
  | d + 1 => by
    have := rows_len2 cs d
    rw [rows_length]; omega
theorem syms_of_leaf {x : Coin} (h : x.kids = []) : syms x = [x.sym] := by
  cases x with
  | node w s k =>
    have h : k = [] := h
    subst h
    exact syms_leaf w s
theorem syms_two (w s : Int) (a b : Coin) : syms (.node w s [a, b]) = syms a ++ syms b := by
  rw [syms_cons, symsL, symsL, symsL, List.append_nil]
theorem rows_syms {cs : List Coin} (h : ∀ c ∈ cs, c.kids = []) : ∀ d, ∀ y ∈ rows cs d, ∀ s ∈ syms y, ∃ x ∈ cs, x.sym = s
  | 0, y, hy, _, _ => by cases hy
  | d + 1, y, hy, s, hs => by
    rcases (rows_mem cs d y).1 hy with hy | hy
    · rw [syms_of_leaf (h y hy), List.mem_singleton] at hs
      exact ⟨y, hy, hs.symm⟩
    · obtain ⟨a, b, ha, hb, rfl⟩ := prs_mem _ _ hy
      rw [syms_two] at hs
      rcases List.mem_append.1 hs with hs | hs
      · exact rows_syms h d a ha s hs
      · exact rows_syms h d b hb s hs
theorem rows_symlen {cs : List Coin} (h : ∀ c ∈ cs, c.kids = []) : ∀ d, ∀ y ∈ rows cs d, (syms y).length ≤ 2 ^ d
  | 0, y, hy => by cases hy
  | d + 1, y, hy => by
    have h2 : 0 < 2 ^ (d + 1) := Nat.two_pow_pos _
    rcases (rows_mem cs d y).1 hy with hy | hy
    · rw [syms_of_leaf (h y hy)]
      exact h2
    · obtain ⟨a, b, ha, hb, rfl⟩ := prs_mem _ _ hy
      have h1 := rows_symlen h d a ha
      have h2 := rows_symlen h d b hb
      rw [syms_two, List.length_append, Nat.pow_succ]; omega
theorem symsL_len {l : List Coin} {n : Nat} (h : ∀ y ∈ l, (syms y).length ≤ n) : (symsL l).length ≤ l.length * n := by
  induction l with
  | nil => simp [symsL]
  | cons x l ih =>
    have h1 := ih fun y hy => h y (by simp [hy])
    have h2 := h x (by simp)
    rw [symsL, List.length_append, List.length_cons, Nat.succ_mul]; omega
theorem rows_wt {cs : List Coin} {W : Int} (h : ∀ c ∈ cs, 0 ≤ c.wt ∧ c.wt ≤ W) : ∀ d, ∀ y ∈ rows cs d, 0 ≤ y.wt ∧ y.wt ≤ W * 2 ^ d
  | 0, y, hy => by cases hy
  | d + 1, y, hy => by
    have e : W * 2 ^ (d + 1) = W * 2 ^ d + W * 2 ^ d := by rw [Int.pow_succ, ← Int.mul_assoc]; omega
    rcases (rows_mem cs d y).1 hy with hy | hy
    · have h1 := h y hy
      have h2 : W * 1 ≤ W * 2 ^ (d + 1) := Int.mul_le_mul_of_nonneg_left (by have := Int.pow_pos (n := 2) (m := d + 1) (by decide); omega) (by omega)
      omega
    · obtain ⟨a, b, ha, hb, rfl⟩ := prs_mem _ _ hy
      have h1 := rows_wt h d a ha
      have h2 := rows_wt h d b hb
      show 0 ≤ a.wt + b.wt ∧ a.wt + b.wt ≤ _
      omega
theorem symsL_mem {l : List Coin} {s : Int} : s ∈ symsL l ↔ ∃ y ∈ l, s ∈ syms y := by
  induction l with
  | nil => simp [symsL]
  | cons x l ih => rw [symsL, List.mem_append, ih]; simp
end Go.L5

-- P9
namespace Go.L5
def rowR (x : Int × Int) (l : List Int) : Option (List Int) :=
  if 0 ≤ x.1 ∧ x.1 ≤ 15 then if x.2 = 0 then some [x.1] else none
  else if x.1 = 16 then if l = [] ∨ ¬ (0 ≤ x.2 ∧ x.2 ≤ 3) then none else some (List.replicate (3 + x.2).toNat (l.getD (l.length - 1) 0))
  else if x.1 = 17 then if 0 ≤ x.2 ∧ x.2 ≤ 7 then some (List.replicate (3 + x.2).toNat 0) else none
  else if x.1 = 18 then if 0 ≤ x.2 ∧ x.2 ≤ 127 then some (List.replicate (11 + x.2).toNat 0) else none
  else none
def unpackR : List (Int × Int) → List Int → Option (List Int)
  | [], l => some l
  | x :: xs, l => match rowR x l with
    | some m => if l.length + m.length ≤ 320 then unpackR xs (l ++ m) else none
    | none => none
end Go.L5

-- P10
namespace Go.L5
def runFrom (x : Int) : List Int → Nat
  | [] => 0
  | y :: l => if y = x then 1 + runFrom x l else 0
/-- How many of the same stand at the beginning. -/
def runN : List Int → Nat
  | [] => 0
  | x :: l => 1 + runFrom x l
structure RunIs (l : List Int) (n : Nat) : Prop where
  lo : 1 ≤ n
  hi : n ≤ l.length
  same : ∀ j, j < n → l[j]? = l[0]?
  stop : n < l.length → l[n]? ≠ l[0]?
theorem runFrom_uniq {x : Int} : ∀ {l : List Int} {m : Nat}, m ≤ l.length → (∀ j, j < m → l[j]? = some x) → (m < l.length → l[m]? ≠ some x) → m = runFrom x l
  | [], m, h, _, _ => by simp at h; rw [h]; rfl
  | y :: l, 0, _, _, h => by
    have := h (by simp)
    simp at this
    rw [runFrom, if_neg this]
  | y :: l, m + 1, h1, h2, h3 => by
    have hy := h2 0 (by omega)
    simp at hy
    have ih := runFrom_uniq (x := x) (l := l) (m := m) (by simpa using h1) (fun j hj => by simpa using h2 (j + 1) (by omega)) (fun hm => by simpa using h3 (by simpa using hm))
    rw [runFrom, if_pos hy, ← ih]; omega
theorem RunIs.eq {l : List Int} {n : Nat} (h : RunIs l n) : n = runN l := by
  obtain ⟨h1, h2, h3, h4⟩ := h
  cases l with
  | nil => simp at h2; omega
  | cons x l =>
    obtain ⟨m, rfl⟩ : ∃ m, n = m + 1 := ⟨n - 1, by omega⟩
    rw [runN]
    have := runFrom_uniq (x := x) (l := l) (m := m) (by simpa using h2) (fun j hj => by simpa using h3 (j + 1) (by omega)) (fun hm => by simpa using h4 (by simpa using hm))
    omega
theorem runFrom_le (x : Int) : ∀ l : List Int, runFrom x l ≤ l.length
  | [] => Nat.le_refl _
  | y :: l => by
    have := runFrom_le x l
    rw [runFrom, List.length_cons]
    split <;> omega
theorem runN_le (l : List Int) : runN l ≤ l.length := by
  cases l with
  | nil => exact Nat.le_refl _
  | cons x l => have := runFrom_le x l; rw [runN, List.length_cons]; omega
theorem runN_pos {l : List Int} (h : l ≠ []) : 1 ≤ runN l := by
  cases l with
  | nil => exact absurd rfl h
  | cons x l => rw [runN]; omega
theorem runFrom_get {x : Int} : ∀ {l : List Int} {j : Nat}, j < runFrom x l → l[j]? = some x
  | [], j, h => by simp [runFrom] at h
  | y :: l, j, h => by
    rw [runFrom] at h
    split at h
    · rename_i hy
      cases j with
      | zero => simp [hy]
      | succ j => simpa using runFrom_get (l := l) (j := j) (by omega)
    · omega
theorem runN_get {l : List Int} {j : Nat} (h : j < runN l) : l[j]? = l[0]? := by
  cases l with
  | nil => simp [runN] at h
  | cons x l =>
    cases j with
    | zero => rfl
    | succ j =>
      rw [runN] at h
      have := runFrom_get (x := x) (l := l) (j := j) (by omega)
      simpa using this
/-- The item at a place, and how many lengths it has. -/
def itemN (l : List Int) (i : Nat) : (Int × Int) × Nat :=
  if l.getD i 0 = 0 ∧ 11 ≤ runN (l.drop i) then ((18, ((min (runN (l.drop i)) 138 - 11 : Nat) : Int)), min (runN (l.drop i)) 138)
  else if l.getD i 0 = 0 ∧ 3 ≤ runN (l.drop i) then ((17, ((runN (l.drop i) - 3 : Nat) : Int)), runN (l.drop i))
  else if l.getD i 0 ≠ 0 ∧ 3 ≤ runN (l.drop i) ∧ 0 < i ∧ l.getD (i - 1) 0 = l.getD i 0 then ((16, ((min (runN (l.drop i)) 6 - 3 : Nat) : Int)), min (runN (l.drop i)) 6)
  else ((l.getD i 0, 0), 1)
theorem itemN_pos (l : List Int) (i : Nat) : 1 ≤ (itemN l i).2 := by
  unfold itemN
  split
  · show 1 ≤ min _ _; omega
  · split
    · show 1 ≤ runN _; omega
    · split
      · show 1 ≤ min _ _; omega
      · exact Nat.le_refl _
theorem itemN_le {l : List Int} {i : Nat} (h : i < l.length) : i + (itemN l i).2 ≤ l.length := by
  have := runN_le (l.drop i)
  rw [List.length_drop] at this
  unfold itemN
  split
  · show i + min _ _ ≤ _; omega
  · split
    · show i + runN _ ≤ _; omega
    · split
      · show i + min _ _ ≤ _; omega
      · show i + 1 ≤ _; omega
def packF (l : List Int) : Nat → Nat → List (Int × Int)
  | 0, _ => []
  | f + 1, i => if i < l.length then (itemN l i).1 :: packF l f (i + (itemN l i).2) else []
theorem packF_fuel (l : List Int) : ∀ (f g i : Nat), l.length - i ≤ f → l.length - i ≤ g → packF l f i = packF l g i
  | 0, g, i, h, _ => by
    cases g with
    | zero => rfl
    | succ g => rw [packF, packF, if_neg (by omega)]
  | f + 1, 0, i, _, h => by rw [packF, packF, if_neg (by omega)]
  | f + 1, g + 1, i, h1, h2 => by
    rw [packF, packF]
    have := itemN_pos l i
    split
    · rw [packF_fuel l f g _ (by omega) (by omega)]
    · rfl
def packG (l : List Int) (i : Nat) : List (Int × Int) := packF l (l.length - i) i
theorem packG_step {l : List Int} {i : Nat} (h : i < l.length) : packG l i = (itemN l i).1 :: packG l (i + (itemN l i).2) := by
  unfold packG
  obtain ⟨f, hf⟩ : ∃ f, l.length - i = f + 1 := ⟨l.length - i - 1, by omega⟩
  have := itemN_pos l i
  rw [hf, packF, if_pos h, packF_fuel l f (l.length - (i + (itemN l i).2)) _ (by omega) (Nat.le_refl _)]
theorem packG_end {l : List Int} {i : Nat} (h : l.length ≤ i) : packG l i = [] := by
  unfold packG
  rw [show l.length - i = 0 by omega]; rfl
theorem packF_len (l : List Int) : ∀ (f i : Nat), (packF l f i).length ≤ f
  | 0, _ => Nat.le_refl _
  | f + 1, i => by
    rw [packF]
    split
    · have := packF_len l f (i + (itemN l i).2); rw [List.length_cons]; omega
    · simp
def badL (c : Int) : Bool := decide (c < 0) || decide (15 < c)
/-- Lengths as items. -/
def packL (l : List Int) : List (Int × Int) := if ∃ c ∈ l, badL c = true then [] else packG l 0
theorem badL_no {l : List Int} (h : ¬ ∃ c ∈ l, badL c = true) : ∀ c ∈ l, 0 ≤ c ∧ c ≤ 15 := fun c hc => by
  have : ¬ badL c = true := fun h2 => h ⟨c, hc, h2⟩
  unfold badL at this
  rw [Bool.or_eq_true, decide_eq_true_eq, decide_eq_true_eq] at this
  omega
/-- What one item tells: the lengths that it stands for. -/
theorem item_row {l : List Int} (hb : ∀ c ∈ l, 0 ≤ c ∧ c ≤ 15) {i : Nat} (h : i < l.length) : rowR (itemN l i).1 (l.take i) = some ((l.drop i).take (itemN l i).2) := by
  have hg : l.getD i 0 = l[i] := by simp [h]
  have hx := hb l[i] (List.getElem_mem h)
  have hd0 : (l.drop i)[0]? = some l[i] := by rw [List.getElem?_drop]; simp [h]
  have hle := runN_le (l.drop i)
  rw [List.length_drop] at hle
  have hrep : ∀ n, n ≤ runN (l.drop i) → (l.drop i).take n = List.replicate n l[i] := fun n hn => by
    refine List.ext_getElem? fun j => ?_
    rw [List.getElem?_take, List.getElem?_replicate]
    split
    · rw [runN_get (by omega), hd0]
    · rfl
  unfold itemN
  rw [hg]
  split
  · rename_i c
    obtain ⟨c1, c2⟩ := c
    show rowR (18, _) _ = some ((l.drop i).take (min (runN (l.drop i)) 138))
    unfold rowR
    rw [if_neg (by simp only []; omega), if_neg (by simp only []; omega), if_neg (by simp only []; omega), if_pos rfl, if_pos (by simp only []; omega), hrep _ (by omega), c1]
    congr 2
    simp only []; omega
  · split
    · rename_i _ c
      obtain ⟨c1, c2⟩ := c
      have : runN (l.drop i) < 11 := by omega
      show rowR (17, _) _ = some ((l.drop i).take (runN (l.drop i)))
      unfold rowR
      rw [if_neg (by simp only []; omega), if_neg (by simp only []; omega), if_pos rfl, if_pos (by simp only []; omega), hrep _ (by omega), c1]
      congr 2
      simp only []; omega
    · split
      · rename_i _ _ c
        obtain ⟨c1, c2, c3, c4⟩ := c
        show rowR (16, _) _ = some ((l.drop i).take (min (runN (l.drop i)) 6))
        unfold rowR
        have hne : ¬ (l.take i = [] ∨ ¬ ((0 : Int) ≤ ((min (runN (l.drop i)) 6 - 3 : Nat) : Int) ∧ ((min (runN (l.drop i)) 6 - 3 : Nat) : Int) ≤ 3)) := by
          rintro (h1 | h1)
          · have h0 : (l.take i).length = 0 := by rw [h1]; rfl
            rw [List.length_take] at h0; omega
          · omega
        rw [if_neg (by simp only []; omega), if_pos rfl, if_neg hne, hrep _ (by omega)]
        congr 2
        · simp only []; omega
        · have hi : (l.take i).length - 1 = i - 1 := by rw [List.length_take]; omega
          have ht : (l.take i)[i - 1]? = l[i - 1]? := by
            rw [List.getElem?_take]
            exact if_pos (by omega)
          have hc : l.getD (i - 1) 0 = l[i] := c4
          rw [hi, List.getD_eq_getElem?_getD, ht, ← List.getD_eq_getElem?_getD]
          exact hc
      · show rowR (l[i], 0) _ = some ((l.drop i).take 1)
        unfold rowR
        rw [if_pos (by simp only []; omega), if_pos rfl, List.drop_eq_getElem_cons h]
        rfl
/-- What is packed is unpacked as it was. -/
theorem unpack_pack {l : List Int} (hb : ∀ c ∈ l, 0 ≤ c ∧ c ≤ 15) (hl : l.length ≤ 320) : ∀ (n i : Nat), l.length - i ≤ n → i ≤ l.length → unpackR (packG l i) (l.take i) = some l
  | 0, i, h1, h2 => by
    rw [packG_end (by omega), unpackR, List.take_of_length_le (by omega)]
  | n + 1, i, h1, h2 => by
    rcases Nat.lt_or_ge i l.length with h | h
    · have h3 := itemN_pos l i
      have h4 := itemN_le h
      rw [packG_step h, unpackR, item_row hb h]
      have h5 : l.take i ++ (l.drop i).take (itemN l i).2 = l.take (i + (itemN l i).2) := by rw [List.take_add]
      simp only []
      rw [if_pos (by rw [List.length_take, List.length_take, List.length_drop]; omega), h5]
      exact unpack_pack hb hl n _ (by omega) h4
    · rw [packG_end h, unpackR, List.take_of_length_le h]
end Go.L5

-- H1
namespace Go.Huff
/-- How many symbols have this length. -/
def cnt (ls : List Int) (l : Nat) : Nat := if l = 0 then 0 else ls.count (l : Int)
/-- The first code of a length. -/
def fst (ls : List Int) : Nat → Nat
  | 0 => 0
  | l + 1 => 2 * (fst ls l + cnt ls l)
/-- Where a length's symbols begin in the order. -/
def st (ls : List Int) : Nat → Nat
  | 0 => 0
  | l + 1 => st ls l + cnt ls l
/-- The room that one length takes. -/
def room1 (x : Int) : Nat := if 0 < x then 32768 / 2 ^ x.toNat else 0
def roomN (ls : List Int) : Nat := (ls.map room1).sum
/-- The lengths are in bounds. -/
def InB (ls : List Int) : Prop := ∀ x ∈ ls, 0 ≤ x ∧ x ≤ 15
/-- The room of the lengths up to l. -/
def part (ls : List Int) (l : Nat) : Nat := (ls.map fun (x : Int) => if 0 < x ∧ x ≤ (l : Int) then 2 ^ (15 - x.toNat) else 0).sum

theorem part_zero (ls : List Int) : part ls 0 = 0 := by
  induction ls with
  | nil => rfl
  | cons x ls ih =>
    unfold part at ih ⊢
    rw [List.map_cons, List.sum_cons, ih, if_neg (by omega)]
theorem part_succ (ls : List Int) (l : Nat) : part ls (l + 1) = part ls l + cnt ls (l + 1) * 2 ^ (15 - (l + 1)) := by
  induction ls with
  | nil => simp [part, cnt]
  | cons x ls ih =>
    unfold part cnt at ih ⊢
    rw [if_neg (by omega)] at ih ⊢
    rw [List.map_cons, List.map_cons, List.sum_cons, List.sum_cons, ih, List.count_cons]
    by_cases h : x = ((l + 1 : Nat) : Int)
    · subst h
      have e : ((l + 1 : Nat) : Int).toNat = l + 1 := by omega
      rw [if_pos (by omega), if_neg (by omega), if_pos (by simp), e, Nat.add_mul]
      omega
    · have e1 : (if 0 < x ∧ x ≤ ((l + 1 : Nat) : Int) then 2 ^ (15 - x.toNat) else 0) = (if 0 < x ∧ x ≤ (l : Int) then 2 ^ (15 - x.toNat) else 0) := by
        split <;> split <;> first | rfl | omega
      have e2 : (if (x == ((l + 1 : Nat) : Int)) = true then 1 else 0) = 0 := if_neg (by rw [beq_iff_eq]; exact h)
      rw [e1, e2]
      simp only [Nat.add_zero]
      omega
theorem part_eq (ls : List Int) : ∀ l, l ≤ 15 → part ls l = (fst ls l + cnt ls l) * 2 ^ (15 - l)
  | 0, _ => by rw [part_zero]; simp [fst, cnt]
  | l + 1, h => by
    have e : 15 - l = (15 - (l + 1)) + 1 := by omega
    rw [part_succ, part_eq ls l (by omega), fst, e, Nat.pow_succ]
    generalize fst ls l + cnt ls l = F
    generalize 2 ^ (15 - (l + 1)) = P
    rw [Nat.add_mul, Nat.mul_comm P 2, ← Nat.mul_assoc, Nat.mul_comm F 2]
theorem part_le (ls : List Int) (h : InB ls) (l : Nat) : part ls l ≤ roomN ls := by
  induction ls with
  | nil => exact Nat.le_refl _
  | cons x ls ih =>
    have h1 := ih (fun y hy => h y (by simp [hy]))
    have h2 := h x (by simp)
    unfold part roomN at h1 ⊢
    rw [List.map_cons, List.map_cons, List.sum_cons, List.sum_cons]
    have : (if 0 < x ∧ x ≤ (l : Int) then 2 ^ (15 - x.toNat) else 0) ≤ room1 x := by
      unfold room1
      split
      · rename_i hx
        rw [if_pos hx.1]
        have e : 32768 = 2 ^ (15 - x.toNat) * 2 ^ x.toNat := by
          rw [← Nat.pow_add]
          have : 15 - x.toNat + x.toNat = 15 := by omega
          rw [this]
        rw [e, Nat.mul_div_cancel _ (Nat.two_pow_pos _)]
        exact Nat.le_refl _
      · exact Nat.zero_le _
    omega
/-- The codes fit. -/
theorem kraft {ls : List Int} (h : InB ls) (hr : roomN ls ≤ 32768) {l : Nat} (hl : l ≤ 15) : fst ls l + cnt ls l ≤ 2 ^ l := by
  have h1 := part_le ls h l
  rw [part_eq ls l hl] at h1
  have h2 : (fst ls l + cnt ls l) * 2 ^ (15 - l) ≤ 2 ^ l * 2 ^ (15 - l) := by
    rw [← Nat.pow_add]
    have : l + (15 - l) = 15 := by omega
    rw [this]
    exact Nat.le_trans h1 hr
  exact Nat.le_of_mul_le_mul_right h2 (Nat.two_pow_pos _)
theorem part_all {ls : List Int} (h : InB ls) : part ls 15 = roomN ls := by
  induction ls with
  | nil => rfl
  | cons x ls ih =>
    have h1 := ih (fun y hy => h y (by simp [hy]))
    have h2 := h x (by simp)
    unfold part roomN at h1 ⊢
    rw [List.map_cons, List.map_cons, List.sum_cons, List.sum_cons, h1]
    congr 1
    unfold room1
    by_cases hx : 0 < x
    · rw [if_pos (by omega), if_pos hx]
      have e : 32768 = 2 ^ (15 - x.toNat) * 2 ^ x.toNat := by
        rw [← Nat.pow_add]
        have : 15 - x.toNat + x.toNat = 15 := by omega
        rw [this]
      rw [e, Nat.mul_div_cancel _ (Nat.two_pow_pos _)]
    · rw [if_neg (by omega), if_neg hx]
/-- A longer code's first one stands behind all shorter ones. -/
theorem fst_ge (ls : List Int) (n d : Nat) : 2 ^ (d + 1) * (fst ls n + cnt ls n) ≤ fst ls (n + d + 1) := by
  induction d with
  | zero => rw [Nat.add_zero, fst]; exact Nat.le_refl _
  | succ d ih =>
    rw [show n + (d + 1) + 1 = (n + d + 1) + 1 from by omega, fst, Nat.pow_succ]
    have : 2 ^ (d + 1) * 2 * (fst ls n + cnt ls n) = 2 * (2 ^ (d + 1) * (fst ls n + cnt ls n)) := by
      rw [Nat.mul_comm (2 ^ (d + 1)) 2, Nat.mul_assoc]
    rw [this]
    omega
theorem fst_gt {ls : List Int} {n m : Nat} (h : n < m) : 2 ^ (m - n) * (fst ls n + cnt ls n) ≤ fst ls m := by
  have := fst_ge ls n (m - n - 1)
  have e1 : m - n - 1 + 1 = m - n := by omega
  have e2 : n + (m - n - 1) + 1 = m := by omega
  rw [e1, e2] at this
  exact this
/-- A symbol's number among those of its length. -/
def rank (ls : List Int) (s : Nat) : Nat := (ls.take s).count (ls.getD s 0)
def len (ls : List Int) (s : Nat) : Nat := (ls.getD s 0).toNat
def code (ls : List Int) (s : Nat) : Nat := fst ls (len ls s) + rank ls s
theorem rank_lt {ls : List Int} (h : InB ls) {s : Nat} (hs : s < ls.length) (hl : 0 < len ls s) : rank ls s < cnt ls (len ls s) := by
  have hg : ls.getD s 0 = ls[s] := by simp [hs]
  have hb := h _ (List.getElem_mem hs)
  unfold rank cnt len at *
  rw [hg] at hl ⊢
  rw [if_neg (by omega)]
  have e : ((ls[s].toNat : Nat) : Int) = ls[s] := by omega
  rw [e]
  have hd : ls = ls.take s ++ ls[s] :: ls.drop (s + 1) := by simp
  have hc := congrArg (List.count ls[s]) hd
  rw [List.count_append, List.count_cons] at hc
  simp only [beq_self_eq_true, if_true] at hc
  omega
theorem code_lt {ls : List Int} (h : InB ls) (hr : roomN ls ≤ 32768) {s : Nat} (hs : s < ls.length) (hl : 0 < len ls s) : code ls s < 2 ^ len ls s := by
  have h1 := rank_lt h hs hl
  have hb : len ls s ≤ 15 := by
    have := h _ (List.getElem_mem hs)
    unfold len
    simp [hs]
    omega
  have h2 := kraft h hr hb
  unfold code
  omega
theorem rank_mono {ls : List Int} {a b : Nat} (hab : a < b) (hb : b < ls.length) (he : ls.getD a 0 = ls.getD b 0) : rank ls a < rank ls b := by
  have ha : a < ls.length := by omega
  unfold rank
  rw [← he]
  have hg : ls.getD a 0 = ls[a] := by simp [ha]
  have e : ls.take b = ls.take a ++ ls[a] :: (ls.drop (a + 1)).take (b - a - 1) := by
    conv => lhs; rw [← List.take_append_drop a ls]
    rw [List.take_append, List.drop_eq_getElem_cons ha, List.length_take, Nat.min_eq_left (by omega), List.take_take, Nat.min_eq_right (by omega)]
    congr 1
    obtain ⟨d, hd⟩ : ∃ d, b - a = d + 1 := ⟨b - a - 1, by omega⟩
    rw [hd, List.take_succ_cons]
    simp
  rw [e, List.count_append, hg, List.count_cons]
  simp only [beq_self_eq_true, if_true]
  omega
/-- The codes stand in order, by length, then by symbol. -/
theorem code_order {ls : List Int} (h : InB ls) {a b : Nat} (ha : a < ls.length) (hb : b < ls.length) (la : 0 < len ls a) (lb : 0 < len ls b) (hl : len ls a < len ls b ∨ len ls a = len ls b ∧ a < b) :
    (code ls a + 1) * 2 ^ (len ls b - len ls a) ≤ code ls b := by
  rcases hl with hl | ⟨hl, hab⟩
  · have h1 := rank_lt h ha la
    have h2 := fst_gt (ls := ls) hl
    have h3 : (code ls a + 1) * 2 ^ (len ls b - len ls a) ≤ (fst ls (len ls a) + cnt ls (len ls a)) * 2 ^ (len ls b - len ls a) := Nat.mul_le_mul_right _ (by unfold code; omega)
    rw [Nat.mul_comm] at h2
    unfold code at h3 ⊢
    omega
  · have he : ls.getD a 0 = ls.getD b 0 := by
      have h1 := h _ (List.getElem_mem ha)
      have h2 := h _ (List.getElem_mem hb)
      unfold len at hl
      simp [ha, hb] at hl ⊢
      omega
    have := rank_mono hab hb he
    rw [hl, Nat.sub_self, Nat.pow_zero, Nat.mul_one]
    unfold code
    rw [hl]
    omega
/-- No code is another one's beginning. -/
theorem prefix_free {ls : List Int} (h : InB ls) {a b : Nat} (ha : a < ls.length) (hb : b < ls.length) (la : 0 < len ls a) (hab : a ≠ b) (hl : len ls a ≤ len ls b) : code ls b / 2 ^ (len ls b - len ls a) ≠ code ls a := by
  intro he
  have lb : 0 < len ls b := by omega
  rcases Nat.lt_or_eq_of_le hl with hl | hl
  · have h1 := code_order h ha hb la lb (.inl hl)
    have h2 := (Nat.le_div_iff_mul_le (Nat.two_pow_pos (len ls b - len ls a))).2 h1
    omega
  · rw [hl, Nat.sub_self, Nat.pow_zero, Nat.div_one] at he
    rcases Nat.lt_or_gt_of_ne hab with h2 | h2
    · have h1 := code_order h ha hb la lb (.inr ⟨hl, h2⟩)
      rw [hl, Nat.sub_self, Nat.pow_zero, Nat.mul_one] at h1
      omega
    · have h1 := code_order h hb ha lb la (.inr ⟨hl.symm, h2⟩)
      rw [hl, Nat.sub_self, Nat.pow_zero, Nat.mul_one] at h1
      omega
end Go.Huff
