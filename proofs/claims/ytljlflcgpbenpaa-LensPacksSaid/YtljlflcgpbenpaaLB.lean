/- Own work of the session: part LB of a proof that the program's functions do what the statement says (a symbolic executor, contracts of the functions, plain laws). -/
import Derived.Test.YtljlflcgpbenpaaLA
set_option linter.all false
-- B0
namespace Go.L1
open Go Go.Sx Go.Proofs Go.L5
set_option maxRecDepth 20000
set_option linter.unusedVariables false
set_option linter.unusedSimpArgs false
theorem lC_len (l : List Coin) : @LLen (T1 6) l = (l.length : Int) := rfl
theorem lC_get (d : Coin) (l : List Coin) (i : Int) : @LGet (T1 6) d l i = l.getD i.toNat d := rfl
theorem lC_set (l : List Coin) (i : Int) (d : Coin) : @LSet (T1 6) l i d = l.set i.toNat d := rfl
theorem lC_sub (l : List Coin) (a b : Int) : @LSub (T1 6) l a b = (l.drop a.toNat).take (b - a).toNat := rfl
theorem _root_.Go.Sx.Fits.unpin {X : Ctx T1} {P : Program} {C : Cod T1} {B : Tab} {res : List ResultVar} {n0 : Nat} {Post : List (SV T1) → List (Ch T1) → Prop} (F : Fits X P C B res n0 Post) {c : Nat} (h : n0 ≤ c) : X.E.A c = none := by
  cases hA : X.E.A c with
  | none => rfl
  | some h2 =>
    have := F.lo c h2 hA
    rw [F.n0] at this
    omega
theorem cmp_self {A : Leaf} (hA : A = .std) {x : Int} (h : A.cmp .neq x x = true) : False := by
  subst hA
  have h : (!(x == x)) = true := h
  simp at h
theorem isNaN_ok (x : Int) : FOK Try.prog C1 48 (fun _ => true) [.int .i64 x] [] (fun rs H => ∃ b, rs = [.bool (.e b)] ∧ H = [] ∧ b = false) := by
  refine fok_of (B := ⟨lookT tis, fun _ => true, []⟩) (tab1 _) (zero1 _) cod1 mix1 Try.func48 (by kernel_rfl) rfl rfl rfl fun X F => ?_
  obtain ⟨A, hA⟩ : ∃ A, A = Leaf.std := ⟨_, rfl⟩
  refine F.hold hA 2000 ?_
  cbv
  refine F.retE rfl ⟨_, rfl, rfl, ?_⟩
  show A.cmp .neq x x = false
  cases h : A.cmp .neq x x
  · rfl
  · exact (cmp_self hA h).elim
structure CmpIs (x y r : Int) : Prop where
  lt : r < 0 ↔ x < y
theorem compare_ok (x y : Int) : FOK Try.prog C1 40 (fun _ => true) [.int .i64 x, .int .i64 y] [] (fun rs H => ∃ r, rs = [.int .i64 r] ∧ H = [] ∧ CmpIs x y r) := by
  refine fok_of (B := ⟨lookT tis, fun _ => true, []⟩) (tab1 _) (zero1 _) cod1 mix1 Try.func40 (by kernel_rfl) rfl rfl rfl fun X F => ?_
  obtain ⟨A, hA⟩ : ∃ A, A = Leaf.std := ⟨_, rfl⟩
  refine F.hold hA 2000 ?_
  cbv
  refine F.call [] (isNaN_ok x) rfl rfl rfl fun rs H' hq => ?_
  obtain ⟨b, rfl, rfl, hb⟩ := hq
  refine ⟨rfl, ?_⟩
  repeat (first
    | refine OK.drawn (by decide +kernel) ?_
    | refine OK.tree ⟨lookT tis, fun _ => true, []⟩ (by decide +kernel) ?_
    | refine OK.need (by first | assumption | (rw [hA]; first | (show (_ : Int) ≠ _; decide) | (show (0 : Int) ≤ _; decide) | (show (0 : Int) ≤ _ ∧ _ < (256 : Int); decide))) ?_
    | (refine F.hold hA 2000 ?_; cbv))
  refine F.call [] (isNaN_ok y) rfl rfl rfl fun rs H' hq => ?_
  obtain ⟨b2, rfl, rfl, hb2⟩ := hq
  refine ⟨rfl, ?_⟩
  repeat (first
    | refine OK.drawn (by decide +kernel) ?_
    | refine OK.tree ⟨lookT tis, fun _ => true, []⟩ (by decide +kernel) ?_
    | refine OK.need (by first | assumption | (rw [hA]; first | (show (_ : Int) ≠ _; decide) | (show (0 : Int) ≤ _; decide) | (show (0 : Int) ≤ _ ∧ _ < (256 : Int); decide))) ?_
    | (refine F.hold hA 2000 ?_; cbv))
  refine OK.branch (fun h => absurd (h.symm.trans hb) (by decide)) (fun _ => ?_)
  repeat (first
    | refine OK.drawn (by decide +kernel) ?_
    | refine OK.tree ⟨lookT tis, fun _ => true, []⟩ (by decide +kernel) ?_
    | refine OK.need (by first | assumption | (rw [hA]; first | (show (_ : Int) ≠ _; decide) | (show (0 : Int) ≤ _; decide) | (show (0 : Int) ≤ _ ∧ _ < (256 : Int); decide))) ?_
    | (refine F.hold hA 2000 ?_; cbv))
  refine OK.branch (fun h => absurd (h.symm.trans hb2) (by decide)) (fun _ => ?_)
  repeat (first
    | refine OK.drawn (by decide +kernel) ?_
    | refine OK.tree ⟨lookT tis, fun _ => true, []⟩ (by decide +kernel) ?_
    | refine OK.need (by first | assumption | (rw [hA]; first | (show (_ : Int) ≠ _; decide) | (show (0 : Int) ≤ _; decide) | (show (0 : Int) ≤ _ ∧ _ < (256 : Int); decide))) ?_
    | (refine F.hold hA 2000 ?_; cbv))
  refine OK.branch (fun h => ?_) (fun h => ?_)
  · repeat (first
      | refine OK.drawn (by decide +kernel) ?_
      | refine OK.tree ⟨lookT tis, fun _ => true, []⟩ (by decide +kernel) ?_
      | refine OK.need (by first | assumption | (rw [hA]; first | (show (_ : Int) ≠ _; decide) | (show (0 : Int) ≤ _; decide) | (show (0 : Int) ≤ _ ∧ _ < (256 : Int); decide))) ?_
      | (refine F.hold hA 2000 ?_; cbv))
    refine F.ret0 ⟨_, rfl, rfl, ?_⟩
    subst hA
    have h : x < y := of_decide_eq_true h
    exact ⟨⟨fun _ => h, fun _ => by decide⟩⟩
  · repeat (first
      | refine OK.drawn (by decide +kernel) ?_
      | refine OK.tree ⟨lookT tis, fun _ => true, []⟩ (by decide +kernel) ?_
      | refine OK.need (by first | assumption | (rw [hA]; first | (show (_ : Int) ≠ _; decide) | (show (0 : Int) ≤ _; decide) | (show (0 : Int) ≤ _ ∧ _ < (256 : Int); decide))) ?_
      | (refine F.hold hA 2000 ?_; cbv))
    refine OK.branch (fun h2 => ?_) (fun h2 => ?_)
    · repeat (first
        | refine OK.drawn (by decide +kernel) ?_
        | refine OK.tree ⟨lookT tis, fun _ => true, []⟩ (by decide +kernel) ?_
        | refine OK.need (by first | assumption | (rw [hA]; first | (show (_ : Int) ≠ _; decide) | (show (0 : Int) ≤ _; decide) | (show (0 : Int) ≤ _ ∧ _ < (256 : Int); decide))) ?_
        | (refine F.hold hA 2000 ?_; cbv))
      refine F.ret0 ⟨_, rfl, rfl, ?_⟩
      subst hA
      have h : ¬ x < y := of_decide_eq_false h
      exact ⟨⟨fun h3 => absurd h3 (by decide), fun h3 => absurd h3 h⟩⟩
    · repeat (first
        | refine OK.drawn (by decide +kernel) ?_
        | refine OK.tree ⟨lookT tis, fun _ => true, []⟩ (by decide +kernel) ?_
        | refine OK.need (by first | assumption | (rw [hA]; first | (show (_ : Int) ≠ _; decide) | (show (0 : Int) ≤ _; decide) | (show (0 : Int) ≤ _ ∧ _ < (256 : Int); decide))) ?_
        | (refine F.hold hA 2000 ?_; cbv))
      refine F.ret0 ⟨_, rfl, rfl, ?_⟩
      subst hA
      have h : ¬ x < y := of_decide_eq_false h
      exact ⟨⟨fun h3 => absurd h3 (by decide), fun h3 => absurd h3 h⟩⟩
/-- A coin that is only read. -/
abbrev coinV (w s : Int) (k : List Coin) : SV T1 := .rp [.int .i64 w, .int .i64 s, .ro (.recs 6 k)] 0
theorem order_ok (w s w' s' : Int) (k k' : List Coin) : FOK Try.prog C1 26 (fun _ => true) [.rp [.int .i64 w, .int .i64 s, .ro (.recs 6 k)] 0, .rp [.int .i64 w', .int .i64 s', .ro (.recs 6 k')] 0] [] (fun rs H => ∃ r, rs = [.int .i64 r] ∧ H = [] ∧ CmpIs w w' r) := by
  refine fok_of (B := ⟨lookT tis, fun _ => true, []⟩) (tab1 _) (zero1 _) cod1 mix1 Try.func26 (by kernel_rfl) rfl rfl rfl fun X F => ?_
  obtain ⟨A, hA⟩ : ∃ A, A = Leaf.std := ⟨_, rfl⟩
  refine F.hold hA 2000 ?_
  cbv
  repeat (first
    | refine OK.drawn (by decide +kernel) ?_
    | refine OK.tree ⟨lookT tis, fun _ => true, []⟩ (by decide +kernel) ?_
    | refine OK.need (by first | assumption | (rw [hA]; first | (show (_ : Int) ≠ _; decide) | (show (0 : Int) ≤ _; decide) | (show (0 : Int) ≤ _ ∧ _ < (256 : Int); decide))) ?_
    | (refine F.hold hA 2000 ?_; cbv))
  refine F.call [] (compare_ok w w') rfl rfl rfl fun rs H' hq => ?_
  obtain ⟨r, rfl, rfl, hr⟩ := hq
  refine ⟨rfl, ?_⟩
  repeat (first
    | refine OK.drawn (by decide +kernel) ?_
    | refine OK.tree ⟨lookT tis, fun _ => true, []⟩ (by decide +kernel) ?_
    | refine OK.need (by first | assumption | (rw [hA]; first | (show (_ : Int) ≠ _; decide) | (show (0 : Int) ≤ _; decide) | (show (0 : Int) ≤ _ ∧ _ < (256 : Int); decide))) ?_
    | (refine F.hold hA 2000 ?_; cbv))
  exact F.ret0 ⟨_, rfl, rfl, hr⟩
end Go.L1

-- S1
namespace Go.L1
open Go Go.Sx Go.Proofs Go.L5
set_option maxRecDepth 20000
set_option linter.unusedVariables false
set_option linter.unusedSimpArgs false
structure SortB (xs : List Coin) (a b : Int) : Prop where
  a0 : 0 ≤ a
  ab : a ≤ b
  bl : b ≤ xs.length
  l : xs.length ≤ 1000
structure SortSeg (xs ys : List Coin) (a b : Int) : Prop where
  ex : ∃ L o z R, xs = L ++ (o ++ R) ∧ ys = L ++ (z ++ R) ∧ a = L.length ∧ b = a + o.length ∧ Stab Coin.wt o z
def InsO (xs : List Coin) (a b : Int) (w : List Coin × Int) : Prop :=
  (b ≤ a ∧ w.1 = xs ∧ a < w.2) ∨ ∃ L o z R, xs = L ++ (o ++ R) ∧ w.1 = L ++ (z ++ R) ∧ a = (L.length : Int) ∧ w.2 = a + (o.length : Int) ∧ w.2 ≤ b ∧ Stab Coin.wt o z
def InsI (xs : List Coin) (a i : Int) (w : List Coin × Int) : Prop :=
  ∃ L o zl x zr R, xs = L ++ (o ++ x :: R) ∧ w.1 = L ++ (zl ++ x :: (zr ++ R)) ∧ a = (L.length : Int) ∧ i = a + (o.length : Int) ∧ w.2 = a + (zl.length : Int) ∧ Stab Coin.wt o (zl ++ zr) ∧ ∀ y ∈ zr, x.wt < y.wt
theorem stab_len {α : Type} {wt : α → Int} {l r : List α} (h : Stab wt l r) : r.length = l.length := (perm_of_same h.same).length_eq
abbrev nd (x : Coin) : Coin := Coin.node x.wt x.sym x.kids
theorem nd_eq (x : Coin) : nd x = x := by cases x; rfl
structure InsAt (A : Leaf) (xs : List Coin) (a b i : Int) (row : List Coin) (j : Int) : Prop where
  q1 : A.inb j (A.len row)
  q2 : A.inb (A.ar .sub .i64 j 1) (A.len row)
  q3 : A.inb (A.ar .sub .i64 j 1) (A.len (A.set row j (nd (A.get (Coin.node 0 0 []) row (A.ar .sub .i64 j 1)))))
  nx : (A.get (Coin.node 0 0 []) row j).wt < (A.get (Coin.node 0 0 []) row (A.ar .sub .i64 j 1)).wt → InsI xs a i (A.set (A.set row j (nd (A.get (Coin.node 0 0 []) row (A.ar .sub .i64 j 1)))) (A.ar .sub .i64 j 1) (nd (A.get (Coin.node 0 0 []) row j)), A.ar .sub .i64 j 1)
  mu : (A.ar .sub .i64 j 1).toNat < j.toNat
  ex : ¬ (A.get (Coin.node 0 0 []) row j).wt < (A.get (Coin.node 0 0 []) row (A.ar .sub .i64 j 1)).wt → InsO xs a b (row, A.ar .add .i64 i 1)
  mo : (b - A.ar .add .i64 i 1).toNat < (b - i).toNat
theorem getD_app {α : Type} (d : α) (P : List α) (x : α) (Q : List α) : (P ++ x :: Q).getD P.length d = x := by simp
theorem set_app {α : Type} (P : List α) (x y : α) (Q : List α) : (P ++ x :: Q).set P.length y = P ++ y :: Q := by simp
theorem last_split {α : Type} {l : List α} (h : l ≠ []) : ∃ zi y, l = zi ++ [y] := ⟨l.dropLast, l.getLast h, (List.dropLast_concat_getLast h).symm⟩
theorem ins_done {xs row : List Coin} {a b i j : Int} (hp : SortB xs a b) (hI : InsI xs a i (row, j)) (hib : i < b) (hx : ∀ L zl x R, row = L ++ (zl ++ x :: R) → a = (L.length : Int) → j = a + (zl.length : Int) → ∀ y, zl.getLast? = some y → y.wt ≤ x.wt) :
    InsO xs a b (row, i + 1) := by
  obtain ⟨L, o, zl, x, zr, R, h1, h2, h3, h4, h5, h6, h7⟩ := hI
  simp only at h2 h5
  refine .inr ⟨L, o ++ [x], zl ++ x :: zr, R, by simp [h1], by simp [h2], h3, ?_, by show i + 1 ≤ b; omega, ?_, fun w => ?_⟩
  · show i + 1 = _
    rw [List.length_append, List.length_singleton]; omega
  · have hle : ∀ y ∈ zl, y.wt ≤ x.wt := by
      intro y hy
      have hz : Rise Coin.wt zl := (List.pairwise_append.1 h6.rise).1
      obtain ⟨zi, y', rfl⟩ : ∃ zi y', zl = zi ++ [y'] := last_split (List.ne_nil_of_mem hy)
      have h8 := hx L (zi ++ [y']) x (zr ++ R) h2 h3 h5 y' (by simp)
      rcases List.mem_append.1 hy with hy | hy
      · have := (List.pairwise_append.1 hz).2.2 y hy y' (by simp)
        omega
      · rw [List.mem_singleton] at hy
        rw [hy]; exact h8
    have h8 := List.pairwise_append.1 h6.rise
    refine List.pairwise_append.2 ⟨h8.1, List.pairwise_cons.2 ⟨fun y hy => ?_, h8.2.1⟩, fun y hy z hz => ?_⟩
    · have := h7 y hy; omega
    · rcases List.mem_cons.1 hz with rfl | hz
      · exact hle y hy
      · exact h8.2.2 y hy z hz
  · have h8 := h6.same w
    rw [same_app] at h8
    rw [same_app, same_app, same_cons, same_cons, ← h8]
    by_cases hw : x.wt = w
    · have : same Coin.wt w zr = [] := by
        unfold Go.L5.same
        rw [List.filter_eq_nil_iff]
        intro y hy
        have := h7 y hy
        simp; omega
      rw [if_pos hw, this]; simp [Go.L5.same]
    · rw [if_neg hw]; simp [Go.L5.same]
theorem insAt {A : Leaf} {xs row : List Coin} {a b i j : Int} (hA : A = .std) (hp : SortB xs a b) (hib : i < b) (hI : InsI xs a i (row, j)) (b2 : A.cmp .gtr j a = true) : InsAt A xs a b i row j := by
  have hd := ins_done (b := b) hp hI hib
  obtain ⟨L, o, zl, x, zr, R, h1, h2, h3, h4, h5, h6, h7⟩ := hI
  simp only at h2 h5
  subst hA
  have b2 : a < j := of_decide_eq_true b2
  have hl := hp.l
  have hlen := stab_len h6
  have hxl : xs.length = L.length + (o.length + (R.length + 1)) := by rw [h1]; simp
  obtain ⟨zi, y, rfl⟩ : ∃ zi y, zl = zi ++ [y] := by
    exact last_split (by intro h0; subst h0; simp at h5; omega)
  rw [List.length_append, List.length_append] at hlen
  rw [List.length_append] at h5
  simp only [List.length_singleton] at h5 hlen
  have e1 : Leaf.std.ar .sub .i64 j 1 = j - 1 := sub_i64 (by omega) (by omega)
  have e2 : Leaf.std.ar .add .i64 i 1 = i + 1 := add_i64 (by omega) (by omega)
  have hr : row = (L ++ zi) ++ y :: x :: (zr ++ R) := by rw [h2]; simp
  have hr2 : row = (L ++ zi ++ [y]) ++ x :: (zr ++ R) := by rw [h2]; simp
  have hrl : (row.length : Int) = xs.length := by rw [hr, hxl]; simp; omega
  have hj : j.toNat = (L ++ zi ++ [y]).length := by simp; omega
  have hj1 : (j - 1).toNat = (L ++ zi).length := by simp; omega
  have g1 : Leaf.std.get (Coin.node 0 0 []) row j = x := by show row.getD j.toNat _ = _; rw [hj, hr2, getD_app]
  have g2 : Leaf.std.get (Coin.node 0 0 []) row (j - 1) = y := by show row.getD (j - 1).toNat _ = _; rw [hj1, hr, getD_app]
  have s1 : Leaf.std.set row j y = (L ++ zi ++ [y]) ++ y :: (zr ++ R) := by show row.set j.toNat y = _; rw [hj, hr2, set_app]
  have s2 : Leaf.std.set ((L ++ zi ++ [y]) ++ y :: (zr ++ R)) (j - 1) x = (L ++ zi) ++ x :: (y :: (zr ++ R)) := by
    show List.set _ (j - 1).toNat x = _
    rw [hj1, show L ++ zi ++ [y] ++ y :: (zr ++ R) = (L ++ zi) ++ y :: (y :: (zr ++ R)) by simp, set_app]
  have hin : ∀ k : Int, 0 ≤ k → k < xs.length → Leaf.std.inb k (Leaf.std.len row) := fun k h0 h1 => ⟨h0, by show k < (row.length : Int); omega⟩
  refine ⟨hin _ (by omega) (by rw [hxl]; omega), by rw [e1]; exact hin _ (by omega) (by rw [hxl]; omega), ?_, fun hlt => ?_, by rw [e1]; omega, fun hlt => ?_, by rw [e2]; omega⟩
  · rw [e1]
    have := hin (j - 1) (by omega) (by rw [hxl]; omega)
    refine ⟨this.1, ?_⟩
    show j - 1 < (((row.set j.toNat _).length : Nat) : Int)
    rw [List.length_set]; exact this.2
  · rw [e1, g1, g2] at hlt
    rw [nd_eq, nd_eq, e1, g1, g2, s1, s2]
    refine ⟨L, o, zi, x, y :: zr, R, h1, by simp, h3, h4, by show j - 1 = _; omega, by simpa using h6, fun u hu => ?_⟩
    rcases List.mem_cons.1 hu with rfl | hu
    · exact hlt
    · exact h7 u hu
  · rw [e1, g1, g2] at hlt
    rw [e2]
    refine hd fun L' zl' x' R' k1 k2 k3 u hu => ?_
    have hL : L' = L := by
      have := congrArg (List.take L.length) (k1.symm.trans h2)
      rw [List.take_left' (by omega), List.take_left' rfl] at this
      exact this
    subst hL
    have hz : zl' = zi ++ [y] := by
      have h9 := List.append_cancel_left (k1.symm.trans h2)
      have := congrArg (List.take (zi ++ [y]).length) h9
      rw [List.take_left' (by simp; omega), List.take_left' rfl] at this
      exact this
    subst hz
    have h9 := List.append_cancel_left (List.append_cancel_left (k1.symm.trans h2))
    cases h9
    simp at hu
    subst hu
    omega
structure InsEnd (xs : List Coin) (a b i : Int) (row : List Coin) (A : Leaf) : Prop where
  ex : InsO xs a b (row, A.ar .add .i64 i 1)
  mo : (b - A.ar .add .i64 i 1).toNat < (b - i).toNat
theorem insEnd {A : Leaf} {xs row : List Coin} {a b i j : Int} (hA : A = .std) (hp : SortB xs a b) (hib : i < b) (hI : InsI xs a i (row, j)) (b2 : A.cmp .gtr j a = false) : InsEnd xs a b i row A := by
  have hd := ins_done (b := b) hp hI hib
  obtain ⟨L, o, zl, x, zr, R, h1, h2, h3, h4, h5, h6, h7⟩ := hI
  have hl := hp.l
  have hbl := hp.bl
  subst hA
  have b2 : ¬ a < j := of_decide_eq_false b2
  have e2 : Leaf.std.ar .add .i64 i 1 = i + 1 := add_i64 (by omega) (by omega)
  refine ⟨?_, by rw [e2]; omega⟩
  rw [e2]
  refine hd fun L' zl' x' R' k1 k2 k3 u hu => ?_
  have : zl' = [] := by
    cases zl' with
    | nil => rfl
    | cons _ _ => simp at k3; omega
  subst this
  simp at hu
structure InsGo (xs : List Coin) (a b : Int) (row : List Coin) (i : Int) : Prop where
  lt : i < b
  st : InsI xs a i (row, i)
theorem insGo {A : Leaf} {xs row : List Coin} {a b i : Int} (hA : A = .std) (hp : SortB xs a b) (hI : InsO xs a b (row, i)) (b1 : A.cmp .lss i b = true) : InsGo xs a b row i := by
  subst hA
  have b1 : i < b := of_decide_eq_true b1
  rcases hI with ⟨h0, _, h⟩ | ⟨L, o, z, R, h1, h2, h3, h4, h5, h6⟩
  · have h : a < i := h
    omega
  · simp only at h2 h4 h5
    have hbl := hp.bl
    have hxl : xs.length = L.length + (o.length + R.length) := by rw [h1]; simp
    cases R with
    | nil => simp at hxl; omega
    | cons x R =>
      exact ⟨b1, L, o, z, x, [], R, h1, by simpa using h2, h3, h4, by show i = _; rw [stab_len h6]; exact h4, by simpa using h6, nofun⟩
theorem insFin {A : Leaf} {xs row : List Coin} {a b i : Int} (hA : A = .std) (hp : SortB xs a b) (hI : InsO xs a b (row, i)) (b1 : A.cmp .lss i b = false) : SortSeg xs row a b := by
  subst hA
  have b1 : ¬ i < b := of_decide_eq_false b1
  obtain ⟨a0, ab, bl, _⟩ := hp
  rcases hI with ⟨h0, h1, _⟩ | ⟨L, o, z, R, h1, h2, h3, h4, h5, h6⟩
  · have h1 : row = xs := h1
    subst h1
    exact ⟨row.take a.toNat, [], [], row.drop a.toNat, by simp, by simp, by rw [List.length_take]; omega, by simp; omega, ⟨List.Pairwise.nil, fun _ => rfl⟩⟩
  · simp only at h2 h4 h5
    exact ⟨L, o, z, R, h1, h2, h3, by omega, h6⟩
theorem insIni {A : Leaf} {xs : List Coin} {a b : Int} (hA : A = .std) (hp : SortB xs a b) : InsO xs a b (xs, A.ar .add .i64 a 1) := by
  obtain ⟨a0, ab, bl, l⟩ := hp
  subst hA
  rw [add_i64 (by omega) (by omega)]
  rcases Int.lt_or_le a b with h | h
  · have ha : a.toNat < xs.length := by omega
    refine .inr ⟨xs.take a.toNat, [xs[a.toNat]], [xs[a.toNat]], xs.drop (a.toNat + 1), ?_, ?_, by rw [List.length_take]; omega, by show a + 1 = _; simp, by show a + 1 ≤ b; omega, ⟨List.pairwise_singleton .., fun _ => rfl⟩⟩
    · rw [List.singleton_append, List.getElem_cons_drop, List.take_append_drop]
    · show xs = _
      rw [List.singleton_append, List.getElem_cons_drop, List.take_append_drop]
  · exact .inl ⟨h, rfl, by show a < a + 1; omega⟩
theorem insertion_ok (xs : List Coin) (a b : Int) (hp : SortB xs a b) : FOK Try.prog C1 46 (fun _ => true) [.own 0, .int .i64 a, .int .i64 b, .fn 26 []] [.row 54 (.recs 6 xs)]
    (fun rs H => ∃ ys, rs = [] ∧ H = [.row 54 (.recs 6 ys)] ∧ SortSeg xs ys a b) := by
  refine fok_of (B := ⟨lookT tis, fun _ => true, []⟩) (tab1 _) (zero1 _) cod1 mix1 Try.func46 (by kernel_rfl) rfl rfl rfl fun X F => ?_
  obtain ⟨A, hA⟩ : ∃ A, A = Leaf.std := ⟨_, rfl⟩
  refine F.hold hA 2000 ?_
  cbv
  repeat (first
    | refine OK.drawn (by decide +kernel) ?_
    | refine OK.tree ⟨lookT tis, fun _ => true, []⟩ (by decide +kernel) ?_
    | refine OK.need (by first | assumption | (rw [hA]; first | (show (_ : Int) ≠ _; decide) | (show (0 : Int) ≤ _; decide) | (show (0 : Int) ≤ _ ∧ _ < (256 : Int); decide))) ?_
    | (refine F.hold hA 2000 ?_; cbv))
  refine F.loop (V := List Coin × Int) [0, 1, 2, 3] (InsO xs a b) (fun w => (b - w.2).toNat) (fun w => [(8, .int .i64 w.2)]) (fun w => [(0, .row 54 (.recs 6 w.1))]) (_, _) (by cbv; repeat (first | exact WkH.nil _ | apply WkH.gone | refine WkH.eq rfl ?_)) (by cbv; repeat (first | apply WkL.any | exact WkL.nil _ | refine WkL.eq rfl ?_ | refine WkL.bool rfl ?_)) (by cbv; exact ⟨rfl⟩) ?_ ?_
  · exact insIni hA hp
  rintro ⟨row, i⟩ hI Bk hBkO
  repeat (first
    | refine OK.drawn (by decide +kernel) ?_
    | refine OK.tree ⟨lookT tis, fun _ => true, []⟩ (by decide +kernel) ?_
    | refine OK.need (by first | assumption | (rw [hA]; first | (show (_ : Int) ≠ _; decide) | (show (0 : Int) ≤ _; decide) | (show (0 : Int) ≤ _ ∧ _ < (256 : Int); decide))) ?_
    | (refine F.hold hA 2000 ?_; cbv))
  refine OK.branch (fun b1 => ?_) (fun b1 => ?_)
  · have hg := insGo hA hp hI b1
    repeat (first
      | refine OK.drawn (by decide +kernel) ?_
      | refine OK.tree ⟨lookT tis, fun _ => true, []⟩ (by decide +kernel) ?_
      | refine OK.need (by first | assumption | (rw [hA]; first | (show (_ : Int) ≠ _; decide) | (show (0 : Int) ≤ _; decide) | (show (0 : Int) ≤ _ ∧ _ < (256 : Int); decide))) ?_
      | (refine F.hold hA 2000 ?_; cbv))
    refine F.loop (V := List Coin × Int) [0, 1, 2, 3, 8] (InsI xs a i) (fun w => w.2.toNat) (fun w => [(9, .int .i64 w.2)]) (fun w => [(0, .row 54 (.recs 6 w.1))]) (_, _) (by cbv; repeat (first | exact WkH.nil _ | apply WkH.gone | refine WkH.eq rfl ?_)) (by cbv; repeat (first | apply WkL.any | exact WkL.nil _ | refine WkL.eq rfl ?_ | refine WkL.bool rfl ?_)) (by cbv; exact ⟨rfl⟩) ?_ ?_
    · exact hg.st
    rintro ⟨row2, j⟩ hI2 Bk2 hBk2
    repeat (first
      | refine OK.drawn (by decide +kernel) ?_
      | refine OK.tree ⟨lookT tis, fun _ => true, []⟩ (by decide +kernel) ?_
      | refine OK.need (by first | assumption | (rw [hA]; first | (show (_ : Int) ≠ _; decide) | (show (0 : Int) ≤ _; decide) | (show (0 : Int) ≤ _ ∧ _ < (256 : Int); decide))) ?_
      | (refine F.hold hA 2000 ?_; cbv))
    refine OK.branch (fun b2 => ?_) (fun b2 => ?_)
    · have hat := insAt hA hp hg.lt hI2 b2
      have q1 := hat.q1
      have q2 := hat.q2
      have hBk := hBk2
      repeat (first
        | refine OK.drawn (by decide +kernel) ?_
        | refine OK.tree ⟨lookT tis, fun _ => true, []⟩ (by decide +kernel) ?_
        | refine OK.need (by first | assumption | (rw [hA]; first | (show (_ : Int) ≠ _; decide) | (show (0 : Int) ≤ _; decide) | (show (0 : Int) ≤ _ ∧ _ < (256 : Int); decide))) ?_
        | (refine F.hold hA 2000 ?_; cbv))
      refine F.call [] (order_ok _ _ _ _ _ _) rfl rfl rfl fun rs H' hq => ?_
      obtain ⟨r, rfl, rfl, hr⟩ := hq
      refine ⟨rfl, ?_⟩
      repeat (first
        | refine OK.drawn (by decide +kernel) ?_
        | refine OK.tree ⟨lookT tis, fun _ => true, []⟩ (by decide +kernel) ?_
        | refine OK.need (by first | assumption | (rw [hA]; first | (show (_ : Int) ≠ _; decide) | (show (0 : Int) ≤ _; decide) | (show (0 : Int) ≤ _ ∧ _ < (256 : Int); decide))) ?_
        | (refine F.hold hA 2000 ?_; cbv))
      refine OK.branch (fun b3 => ?_) (fun b3 => ?_)
      · have q3 := hat.q3
        repeat' (first
          | refine OK.drawn (by decide +kernel) ?_
          | refine OK.tree ⟨lookT tis, fun _ => true, []⟩ (by decide +kernel) ?_
          | refine OK.both ?_ ?_
          | refine OK.need (by first | assumption | (rw [hA]; first | (show (_ : Int) ≠ _; decide) | (show (0 : Int) ≤ _; decide) | (show (0 : Int) ≤ _ ∧ _ < (256 : Int); decide))) ?_
          | refine OK.need ?_ ?_
          | (refine OK.branch ?_ ?_ <;> intro h)
          | (refine F.hold hA 2000 ?_; cbv))
        all_goals
          refine OK.back (hBk _ _ (_, _) (by cbv; repeat (first | exact WkH.nil _ | apply WkH.gone | refine WkH.eq rfl ?_)) (by cbv; repeat (first | apply WkL.any | exact WkL.nil _ | refine WkL.eq rfl ?_ | refine WkL.bool rfl ?_)) (by cbv; exact ⟨rfl⟩) ?_ ?_)
          · exact hat.nx (hr.lt.1 (by subst hA; exact of_decide_eq_true b3))
          · exact hat.mu
      · repeat (first
          | refine OK.drawn (by decide +kernel) ?_
          | refine OK.tree ⟨lookT tis, fun _ => true, []⟩ (by decide +kernel) ?_
          | refine OK.need (by first | assumption | (rw [hA]; first | (show (_ : Int) ≠ _; decide) | (show (0 : Int) ≤ _; decide) | (show (0 : Int) ≤ _ ∧ _ < (256 : Int); decide))) ?_
          | (refine F.hold hA 2000 ?_; cbv))
        have hBk := hBkO
        refine OK.back (hBk _ _ (_, _) (by cbv; repeat (first | exact WkH.nil _ | apply WkH.gone | refine WkH.eq rfl ?_)) (by cbv; repeat (first | apply WkL.any | exact WkL.nil _ | refine WkL.eq rfl ?_ | refine WkL.bool rfl ?_)) (by cbv; exact ⟨rfl⟩) ?_ ?_)
        · exact hat.ex (fun h => absurd (hr.lt.2 h) (by subst hA; exact of_decide_eq_false b3))
        · exact hat.mo
    · have he := insEnd hA hp hg.lt hI2 b2
      have hBk := hBkO
      repeat (first
        | refine OK.drawn (by decide +kernel) ?_
        | refine OK.tree ⟨lookT tis, fun _ => true, []⟩ (by decide +kernel) ?_
        | refine OK.need (by first | assumption | (rw [hA]; first | (show (_ : Int) ≠ _; decide) | (show (0 : Int) ≤ _; decide) | (show (0 : Int) ≤ _ ∧ _ < (256 : Int); decide))) ?_
        | (refine F.hold hA 2000 ?_; cbv))
      refine OK.back (hBk _ _ (_, _) (by cbv; repeat (first | exact WkH.nil _ | apply WkH.gone | refine WkH.eq rfl ?_)) (by cbv; repeat (first | apply WkL.any | exact WkL.nil _ | refine WkL.eq rfl ?_ | refine WkL.bool rfl ?_)) (by cbv; exact ⟨rfl⟩) ?_ ?_)
      · exact he.ex
      · exact he.mo
  · repeat (first
      | refine OK.drawn (by decide +kernel) ?_
      | refine OK.tree ⟨lookT tis, fun _ => true, []⟩ (by decide +kernel) ?_
      | refine OK.need (by first | assumption | (rw [hA]; first | (show (_ : Int) ≠ _; decide) | (show (0 : Int) ≤ _; decide) | (show (0 : Int) ≤ _ ∧ _ < (256 : Int); decide))) ?_
      | (refine F.hold hA 2000 ?_; cbv))
    exact F.ret0 ⟨_, rfl, rfl, insFin hA hp hI b1⟩
end Go.L1

-- S2
namespace Go.L1
open Go Go.Sx Go.Proofs Go.L5
set_option maxRecDepth 20000
set_option linter.unusedVariables false
set_option linter.unusedSimpArgs false
structure SwP (P U M V R : List Coin) (a b n : Int) : Prop where
  a : a = (P.length : Int)
  b : b = (P.length : Int) + U.length + M.length
  n : n = (U.length : Int)
  v : V.length = U.length
  l : P.length + U.length + M.length + V.length + R.length ≤ 1000
def SwI (P U M V R : List Coin) (w : List Coin × Int) : Prop :=
  ∃ U1 U2 V1 V2, U = U1 ++ U2 ∧ V = V1 ++ V2 ∧ w.2 = (U1.length : Int) ∧ V1.length = U1.length ∧ w.1 = P ++ (V1 ++ (U2 ++ (M ++ (U1 ++ (V2 ++ R)))))
structure SwAt (A : Leaf) (P U M V R : List Coin) (a b i : Int) (row : List Coin) : Prop where
  q1 : A.inb (A.ar .add .i64 a i) (A.len row)
  q2 : A.inb (A.ar .add .i64 b i) (A.len row)
  q3 : A.inb (A.ar .add .i64 b i) (A.len (A.set row (A.ar .add .i64 a i) (nd (A.get (Coin.node 0 0 []) row (A.ar .add .i64 b i)))))
  nx : SwI P U M V R (A.set (A.set row (A.ar .add .i64 a i) (nd (A.get (Coin.node 0 0 []) row (A.ar .add .i64 b i)))) (A.ar .add .i64 b i) (nd (A.get (Coin.node 0 0 []) row (A.ar .add .i64 a i))), A.ar .add .i64 i 1)
  mu : (U.length - A.ar .add .i64 i 1).toNat < (U.length - i).toNat
theorem swAt {A : Leaf} {P U M V R row : List Coin} {a b n i : Int} (hA : A = .std) (hp : SwP P U M V R a b n) (hI : SwI P U M V R (row, i)) (b1 : A.cmp .lss i n = true) : SwAt A P U M V R a b i row := by
  obtain ⟨ha, hb, hn, hv, hl⟩ := hp
  obtain ⟨U1, U2, V1, V2, e1, e2, e3, e4, e5⟩ := hI
  simp only at e3 e5
  subst hA
  have b1 : i < n := of_decide_eq_true b1
  have hu : U.length = U1.length + U2.length := by rw [e1]; simp
  have hv2 : V.length = V1.length + V2.length := by rw [e2]; simp
  cases U2 with
  | nil => simp at hu; omega
  | cons u U2 =>
    cases V2 with
    | nil => simp at hv2 hu; omega
    | cons v V2 =>
      simp only [List.length_cons] at hu hv2
      have k1 : Leaf.std.ar .add .i64 a i = a + i := add_i64 (by omega) (by omega)
      have k2 : Leaf.std.ar .add .i64 b i = b + i := add_i64 (by omega) (by omega)
      have k3 : Leaf.std.ar .add .i64 i 1 = i + 1 := add_i64 (by omega) (by omega)
      have hrl : row.length = P.length + U.length + M.length + V.length + R.length := by rw [e5, hu, hv2]; simp; omega
      have r1 : row = (P ++ V1) ++ u :: (U2 ++ (M ++ (U1 ++ (v :: V2 ++ R)))) := by rw [e5]; simp
      have r2 : row = (P ++ V1 ++ u :: U2 ++ M ++ U1) ++ v :: (V2 ++ R) := by rw [e5]; simp
      have t1 : (a + i).toNat = (P ++ V1).length := by simp; omega
      have t2 : (b + i).toNat = (P ++ V1 ++ u :: U2 ++ M ++ U1).length := by simp; omega
      have g1 : Leaf.std.get (Coin.node 0 0 []) row (a + i) = u := by show row.getD (a + i).toNat _ = _; rw [t1, r1, getD_app]
      have g2 : Leaf.std.get (Coin.node 0 0 []) row (b + i) = v := by show row.getD (b + i).toNat _ = _; rw [t2, r2, getD_app]
      have s1 : Leaf.std.set row (a + i) v = (P ++ V1 ++ v :: U2 ++ M ++ U1) ++ v :: (V2 ++ R) := by show row.set (a + i).toNat v = _; rw [t1, r1, set_app]; simp
      have t3 : (P ++ V1 ++ u :: U2 ++ M ++ U1).length = (P ++ V1 ++ v :: U2 ++ M ++ U1).length := by simp
      have s2 : Leaf.std.set ((P ++ V1 ++ v :: U2 ++ M ++ U1) ++ v :: (V2 ++ R)) (b + i) u = (P ++ V1 ++ v :: U2 ++ M ++ U1) ++ u :: (V2 ++ R) := by
        show List.set _ (b + i).toNat u = _
        rw [t2, t3, set_app]
      have hin : ∀ k : Int, 0 ≤ k → k < row.length → Leaf.std.inb k (Leaf.std.len row) := fun k h0 h1 => ⟨h0, h1⟩
      refine ⟨by rw [k1]; exact hin _ (by omega) (by omega), by rw [k2]; exact hin _ (by omega) (by omega), ?_, ?_, by rw [k3]; omega⟩
      · rw [k2]
        refine ⟨by omega, ?_⟩
        show b + i < (((row.set _ _).length : Nat) : Int)
        rw [List.length_set]; omega
      · rw [nd_eq, nd_eq, k1, k2, k3, g1, g2, s1, s2]
        exact ⟨U1 ++ [u], U2, V1 ++ [v], V2, by simp [e1], by simp [e2], by show i + 1 = _; simp; omega, by simp; omega, by simp⟩
theorem swFin {A : Leaf} {P U M V R row : List Coin} {a b n i : Int} (hA : A = .std) (hp : SwP P U M V R a b n) (hI : SwI P U M V R (row, i)) (b1 : A.cmp .lss i n = false) : row = P ++ (V ++ (M ++ (U ++ R))) := by
  obtain ⟨ha, hb, hn, hv, hl⟩ := hp
  obtain ⟨U1, U2, V1, V2, e1, e2, e3, e4, e5⟩ := hI
  simp only at e3 e5
  subst hA
  have b1 : ¬ i < n := of_decide_eq_false b1
  have hu : U.length = U1.length + U2.length := by rw [e1]; simp
  have hv2 : V.length = V1.length + V2.length := by rw [e2]; simp
  have : U2 = [] := List.length_eq_zero_iff.1 (by omega)
  subst this
  have : V2 = [] := List.length_eq_zero_iff.1 (by omega)
  subst this
  rw [e5, e1, e2]; simp
structure SwOut (P U M V R ys : List Coin) : Prop where
  eq : ys = P ++ (V ++ (M ++ (U ++ R)))
theorem swap_ok (xs P U M V R : List Coin) (a b n : Int) (hx : xs = P ++ (U ++ (M ++ (V ++ R)))) (hp : SwP P U M V R a b n) : FOK Try.prog C1 52 (fun _ => true) [.own 0, .int .i64 a, .int .i64 b, .int .i64 n, .fn 26 []] [.row 54 (.recs 6 xs)]
    (fun rs H => ∃ ys, rs = [] ∧ H = [.row 54 (.recs 6 ys)] ∧ SwOut P U M V R ys) := by
  refine fok_of (B := ⟨lookT tis, fun _ => true, []⟩) (tab1 _) (zero1 _) cod1 mix1 Try.func52 (by kernel_rfl) rfl rfl rfl fun X F => ?_
  obtain ⟨A, hA⟩ : ∃ A, A = Leaf.std := ⟨_, rfl⟩
  refine F.hold hA 2000 ?_
  cbv
  repeat (first
    | refine OK.drawn (by decide +kernel) ?_
    | refine OK.tree ⟨lookT tis, fun _ => true, []⟩ (by decide +kernel) ?_
    | refine OK.need (by first | assumption | (rw [hA]; first | (show (_ : Int) ≠ _; decide) | (show (0 : Int) ≤ _; decide) | (show (0 : Int) ≤ _ ∧ _ < (256 : Int); decide))) ?_
    | (refine F.hold hA 2000 ?_; cbv))
  refine F.loop (V := List Coin × Int) [0, 1, 2, 3] (SwI P U M V R) (fun w => (U.length - w.2).toNat) (fun w => [(10, .int .i64 w.2)]) (fun w => [(0, .row 54 (.recs 6 w.1))]) (_, _) (by cbv; repeat (first | exact WkH.nil _ | apply WkH.gone | refine WkH.eq rfl ?_)) (by cbv; repeat (first | apply WkL.any | exact WkL.nil _ | refine WkL.eq rfl ?_ | refine WkL.bool rfl ?_)) (by cbv; exact ⟨rfl⟩) ?_ ?_
  · exact ⟨[], U, [], V, rfl, rfl, rfl, rfl, by simpa using hx⟩
  rintro ⟨row, i⟩ hI Bk hBk
  repeat (first
    | refine OK.drawn (by decide +kernel) ?_
    | refine OK.tree ⟨lookT tis, fun _ => true, []⟩ (by decide +kernel) ?_
    | refine OK.need (by first | assumption | (rw [hA]; first | (show (_ : Int) ≠ _; decide) | (show (0 : Int) ≤ _; decide) | (show (0 : Int) ≤ _ ∧ _ < (256 : Int); decide))) ?_
    | (refine F.hold hA 2000 ?_; cbv))
  refine OK.branch (fun b1 => ?_) (fun b1 => ?_)
  · have hat := swAt hA hp hI b1
    have q1 := hat.q1
    have q2 := hat.q2
    have q3 := hat.q3
    repeat' (first
      | refine OK.drawn (by decide +kernel) ?_
      | refine OK.tree ⟨lookT tis, fun _ => true, []⟩ (by decide +kernel) ?_
      | refine OK.both ?_ ?_
      | refine OK.need (by first | assumption | (rw [hA]; first | (show (_ : Int) ≠ _; decide) | (show (0 : Int) ≤ _; decide) | (show (0 : Int) ≤ _ ∧ _ < (256 : Int); decide))) ?_
      | refine OK.need ?_ ?_
      | (refine OK.branch ?_ ?_ <;> intro h)
      | (refine F.hold hA 2000 ?_; cbv))
    all_goals
      refine OK.back (hBk _ _ (_, _) (by cbv; repeat (first | exact WkH.nil _ | apply WkH.gone | refine WkH.eq rfl ?_)) (by cbv; repeat (first | apply WkL.any | exact WkL.nil _ | refine WkL.eq rfl ?_ | refine WkL.bool rfl ?_)) (by cbv; exact ⟨rfl⟩) ?_ ?_)
      · exact hat.nx
      · exact hat.mu
  · repeat (first
      | refine OK.drawn (by decide +kernel) ?_
      | refine OK.tree ⟨lookT tis, fun _ => true, []⟩ (by decide +kernel) ?_
      | refine OK.need (by first | assumption | (rw [hA]; first | (show (_ : Int) ≠ _; decide) | (show (0 : Int) ≤ _; decide) | (show (0 : Int) ≤ _ ∧ _ < (256 : Int); decide))) ?_
      | (refine F.hold hA 2000 ?_; cbv))
    exact F.ret0 ⟨_, rfl, rfl, ⟨swFin hA hp hI b1⟩⟩
end Go.L1

-- S3
namespace Go.L1
open Go Go.Sx Go.Proofs Go.L5
set_option maxRecDepth 20000
set_option linter.unusedVariables false
set_option linter.unusedSimpArgs false
structure RoP (P U V R : List Coin) (a m b : Int) : Prop where
  ea : a = (P.length : Int)
  em : m = a + U.length
  eb : b = m + V.length
  u : 0 < U.length
  v : 0 < V.length
  l : P.length + U.length + V.length + R.length ≤ 1000
structure RoS (T : List Coin) (m : Int) (row : List Coin) (i j : Int) (P U V R : List Coin) : Prop where
  row : row = P ++ (U ++ (V ++ R))
  t : T = P ++ (V ++ (U ++ R))
  em : m = P.length + i
  ei : i = (U.length : Int)
  ej : j = (V.length : Int)
  u : 0 < U.length
  v : 0 < V.length
  l : P.length + U.length + V.length + R.length ≤ 1000
def RoI (T : List Coin) (m : Int) (w : List Coin × Int × Int) : Prop := ∃ P U V R, RoS T m w.1 w.2.1 w.2.2 P U V R
/-- The first side is longer. -/
structure RoA (A : Leaf) (T : List Coin) (m : Int) (row : List Coin) (i j : Int) (P U M V R : List Coin) : Prop where
  row : row = P ++ (U ++ (M ++ (V ++ R)))
  sw : SwP P U M V R (A.ar .sub .i64 m i) m j
  nx : ∀ ys, SwOut P U M V R ys → RoI T m (ys, A.ar .sub .i64 i j, j)
  mu : (A.ar .sub .i64 i j + j).toNat < (i + j).toNat
theorem roA {A : Leaf} {T row : List Coin} {m i j : Int} (hA : A = .std) (hI : RoI T m (row, i, j)) (b2 : A.cmp .gtr i j = true) : ∃ P U M V R, RoA A T m row i j P U M V R := by
  obtain ⟨P, U, V, R, h1, h2, h3, h4, h5, h6, h7, h8⟩ := hI
  subst hA
  have b2 : j < i := of_decide_eq_true b2
  simp only at h1 h3 h4 h5
  have e1 : Leaf.std.ar .sub .i64 m i = m - i := sub_i64 (by omega) (by omega)
  have e2 : Leaf.std.ar .sub .i64 i j = i - j := sub_i64 (by omega) (by omega)
  have hl1 : (U.take V.length).length = V.length := by rw [List.length_take]; omega
  have hl2 : (U.drop V.length).length = U.length - V.length := List.length_drop
  have hU : U = U.take V.length ++ U.drop V.length := (List.take_append_drop _ _).symm
  generalize U.take V.length = U1 at *
  generalize U.drop V.length = U2 at *
  subst hU
  simp only [List.length_append] at *
  refine ⟨P, U1, U2, V, R, by rw [h1]; simp, ⟨by rw [e1]; omega, by omega, by omega, by omega, by omega⟩, fun ys ho => ?_, by rw [e2]; omega⟩
  refine ⟨P ++ V, U2, U1, R, by rw [ho.eq]; simp, by rw [h2]; simp, ?_, ?_, ?_, ?_, ?_, ?_⟩
  · show m = ((P ++ V).length : Int) + Leaf.std.ar .sub .i64 i j; rw [e2, List.length_append]; omega
  · show Leaf.std.ar .sub .i64 i j = _; rw [e2]; omega
  · show j = _; omega
  · omega
  · omega
  · simp only [List.length_append]; omega
structure RoB (A : Leaf) (T : List Coin) (m : Int) (row : List Coin) (i j : Int) (P U M V R : List Coin) : Prop where
  row : row = P ++ (U ++ (M ++ (V ++ R)))
  sw : SwP P U M V R (A.ar .sub .i64 m i) (A.ar .sub .i64 (A.ar .add .i64 m j) i) i
  nx : ∀ ys, SwOut P U M V R ys → RoI T m (ys, i, A.ar .sub .i64 j i)
  mu : (i + A.ar .sub .i64 j i).toNat < (i + j).toNat
theorem roB {A : Leaf} {T row : List Coin} {m i j : Int} (hA : A = .std) (hI : RoI T m (row, i, j)) (b1 : A.cmp .neq i j = true) (b2 : A.cmp .gtr i j = false) : ∃ P U M V R, RoB A T m row i j P U M V R := by
  obtain ⟨P, U, V, R, h1, h2, h3, h4, h5, h6, h7, h8⟩ := hI
  subst hA
  have b2 : ¬ j < i := of_decide_eq_false b2
  have b1 : i ≠ j := by
    intro h
    subst h
    exact cmp_self rfl b1
  simp only at h1 h3 h4 h5
  have e1 : Leaf.std.ar .sub .i64 m i = m - i := sub_i64 (by omega) (by omega)
  have e2 : Leaf.std.ar .sub .i64 j i = j - i := sub_i64 (by omega) (by omega)
  have e3 : Leaf.std.ar .sub .i64 (Leaf.std.ar .add .i64 m j) i = m + j - i := by rw [add_i64 (by omega) (by omega), sub_i64 (by omega) (by omega)]
  have hl1 : (V.take (V.length - U.length)).length = V.length - U.length := by rw [List.length_take]; omega
  have hl2 : (V.drop (V.length - U.length)).length = U.length := by rw [List.length_drop]; omega
  have hV : V = V.take (V.length - U.length) ++ V.drop (V.length - U.length) := (List.take_append_drop _ _).symm
  generalize V.take (V.length - U.length) = V1 at *
  generalize V.drop (V.length - U.length) = V2 at *
  subst hV
  simp only [List.length_append] at *
  refine ⟨P, U, V1, V2, R, by rw [h1]; simp, ⟨by rw [e1]; omega, by rw [e3]; omega, by omega, by omega, by omega⟩, fun ys ho => ?_, by rw [e2]; omega⟩
  refine ⟨P, V2, V1, U ++ R, by rw [ho.eq], by rw [h2]; simp, ?_, ?_, ?_, ?_, ?_, ?_⟩
  · show m = (P.length : Int) + i; omega
  · show i = _; omega
  · show Leaf.std.ar .sub .i64 j i = _; rw [e2]; omega
  · omega
  · omega
  · simp only [List.length_append]; omega
structure RoC (A : Leaf) (T : List Coin) (m : Int) (row : List Coin) (i : Int) (P U V R : List Coin) : Prop where
  row : row = P ++ (U ++ ([] ++ (V ++ R)))
  sw : SwP P U [] V R (A.ar .sub .i64 m i) m i
  fin : ∀ ys, SwOut P U [] V R ys → ys = T
theorem roC {A : Leaf} {T row : List Coin} {m i j : Int} (hA : A = .std) (hI : RoI T m (row, i, j)) (b1 : A.cmp .neq i j = false) : ∃ P U V R, RoC A T m row i P U V R := by
  obtain ⟨P, U, V, R, h1, h2, h3, h4, h5, h6, h7, h8⟩ := hI
  subst hA
  have b1 : i = j := by
    have h : (!(i == j)) = false := b1
    simpa using h
  simp only at h1 h3 h4 h5
  have e1 : Leaf.std.ar .sub .i64 m i = m - i := sub_i64 (by omega) (by omega)
  exact ⟨P, U, V, R, by rw [h1]; simp, ⟨by rw [e1]; omega, by simp; omega, by omega, by omega, by simp; omega⟩, fun ys ho => by rw [h2, ho.eq]; simp⟩
structure RoOut (P U V R ys : List Coin) : Prop where
  eq : ys = P ++ (V ++ (U ++ R))
theorem rotate_ok (xs P U V R : List Coin) (a m b : Int) (hx : xs = P ++ (U ++ (V ++ R))) (hp : RoP P U V R a m b) : FOK Try.prog C1 51 (fun _ => true) [.own 0, .int .i64 a, .int .i64 m, .int .i64 b, .fn 26 []] [.row 54 (.recs 6 xs)]
    (fun rs H => ∃ ys, rs = [] ∧ H = [.row 54 (.recs 6 ys)] ∧ RoOut P U V R ys) := by
  obtain ⟨T, hT⟩ : ∃ T, RoOut P U V R T := ⟨_, ⟨rfl⟩⟩
  refine fok_of (B := ⟨lookT tis, fun _ => true, []⟩) (tab1 _) (zero1 _) cod1 mix1 Try.func51 (by kernel_rfl) rfl rfl rfl fun X F => ?_
  obtain ⟨A, hA⟩ : ∃ A, A = Leaf.std := ⟨_, rfl⟩
  refine F.hold hA 2000 ?_
  cbv
  repeat (first
    | refine OK.drawn (by decide +kernel) ?_
    | refine OK.tree ⟨lookT tis, fun _ => true, []⟩ (by decide +kernel) ?_
    | refine OK.need (by first | assumption | (rw [hA]; first | (show (_ : Int) ≠ _; decide) | (show (0 : Int) ≤ _; decide) | (show (0 : Int) ≤ _ ∧ _ < (256 : Int); decide))) ?_
    | (refine F.hold hA 2000 ?_; cbv))
  refine F.loop (V := List Coin × Int × Int) [0, 1, 2, 3, 4] (RoI T m) (fun w => (w.2.1 + w.2.2).toNat) (fun w => [(10, .int .i64 w.2.1), (11, .int .i64 w.2.2)]) (fun w => [(0, .row 54 (.recs 6 w.1))]) (_, _, _) (by cbv; repeat (first | exact WkH.nil _ | apply WkH.gone | refine WkH.eq rfl ?_)) (by cbv; repeat (first | apply WkL.any | exact WkL.nil _ | refine WkL.eq rfl ?_ | refine WkL.bool rfl ?_)) (by cbv; exact ⟨rfl⟩) ?_ ?_
  · obtain ⟨p1, p2, p3, p4, p5, p6⟩ := hp
    have e1 : A.ar .sub .i64 m a = m - a := by subst hA; exact sub_i64 (by omega) (by omega)
    have e2 : A.ar .sub .i64 b m = b - m := by subst hA; exact sub_i64 (by omega) (by omega)
    refine ⟨P, U, V, R, hx, hT.eq, ?_, ?_, ?_, p4, p5, p6⟩
    · show m = (P.length : Int) + A.ar .sub .i64 m a; rw [e1]; omega
    · show A.ar .sub .i64 m a = _; rw [e1]; omega
    · show A.ar .sub .i64 b m = _; rw [e2]; omega
  rintro ⟨row, i, j⟩ hI Bk hBk
  repeat (first
    | refine OK.drawn (by decide +kernel) ?_
    | refine OK.tree ⟨lookT tis, fun _ => true, []⟩ (by decide +kernel) ?_
    | refine OK.need (by first | assumption | (rw [hA]; first | (show (_ : Int) ≠ _; decide) | (show (0 : Int) ≤ _; decide) | (show (0 : Int) ≤ _ ∧ _ < (256 : Int); decide))) ?_
    | (refine F.hold hA 2000 ?_; cbv))
  refine OK.branch (fun b1 => ?_) (fun b1 => ?_)
  · repeat (first
      | refine OK.drawn (by decide +kernel) ?_
      | refine OK.tree ⟨lookT tis, fun _ => true, []⟩ (by decide +kernel) ?_
      | refine OK.need (by first | assumption | (rw [hA]; first | (show (_ : Int) ≠ _; decide) | (show (0 : Int) ≤ _; decide) | (show (0 : Int) ≤ _ ∧ _ < (256 : Int); decide))) ?_
      | (refine F.hold hA 2000 ?_; cbv))
    refine OK.branch (fun b2 => ?_) (fun b2 => ?_)
    · repeat (first
        | refine OK.drawn (by decide +kernel) ?_
        | refine OK.tree ⟨lookT tis, fun _ => true, []⟩ (by decide +kernel) ?_
        | refine OK.need (by first | assumption | (rw [hA]; first | (show (_ : Int) ≠ _; decide) | (show (0 : Int) ≤ _; decide) | (show (0 : Int) ≤ _ ∧ _ < (256 : Int); decide))) ?_
        | (refine F.hold hA 2000 ?_; cbv))
      obtain ⟨P', U', M', V', R', hc⟩ := roA hA hI b2
      refine F.call [0] (swap_ok _ P' U' M' V' R' _ _ _ hc.row hc.sw) rfl rfl rfl fun rs H' hq => ?_
      obtain ⟨ys, rfl, rfl, hys⟩ := hq
      refine ⟨rfl, ?_⟩
      repeat (first
        | refine OK.drawn (by decide +kernel) ?_
        | refine OK.tree ⟨lookT tis, fun _ => true, []⟩ (by decide +kernel) ?_
        | refine OK.need (by first | assumption | (rw [hA]; first | (show (_ : Int) ≠ _; decide) | (show (0 : Int) ≤ _; decide) | (show (0 : Int) ≤ _ ∧ _ < (256 : Int); decide))) ?_
        | (refine F.hold hA 2000 ?_; cbv))
      refine OK.back (hBk _ _ (_, _, _) (by cbv; repeat (first | exact WkH.nil _ | apply WkH.gone | refine WkH.eq rfl ?_)) (by cbv; repeat (first | apply WkL.any | exact WkL.nil _ | refine WkL.eq rfl ?_ | refine WkL.bool rfl ?_)) (by cbv; exact ⟨rfl⟩) ?_ ?_)
      · exact hc.nx ys hys
      · exact hc.mu
    · repeat (first
        | refine OK.drawn (by decide +kernel) ?_
        | refine OK.tree ⟨lookT tis, fun _ => true, []⟩ (by decide +kernel) ?_
        | refine OK.need (by first | assumption | (rw [hA]; first | (show (_ : Int) ≠ _; decide) | (show (0 : Int) ≤ _; decide) | (show (0 : Int) ≤ _ ∧ _ < (256 : Int); decide))) ?_
        | (refine F.hold hA 2000 ?_; cbv))
      obtain ⟨P', U', M', V', R', hc⟩ := roB hA hI b1 b2
      refine F.call [0] (swap_ok _ P' U' M' V' R' _ _ _ hc.row hc.sw) rfl rfl rfl fun rs H' hq => ?_
      obtain ⟨ys, rfl, rfl, hys⟩ := hq
      refine ⟨rfl, ?_⟩
      repeat (first
        | refine OK.drawn (by decide +kernel) ?_
        | refine OK.tree ⟨lookT tis, fun _ => true, []⟩ (by decide +kernel) ?_
        | refine OK.need (by first | assumption | (rw [hA]; first | (show (_ : Int) ≠ _; decide) | (show (0 : Int) ≤ _; decide) | (show (0 : Int) ≤ _ ∧ _ < (256 : Int); decide))) ?_
        | (refine F.hold hA 2000 ?_; cbv))
      refine OK.back (hBk _ _ (_, _, _) (by cbv; repeat (first | exact WkH.nil _ | apply WkH.gone | refine WkH.eq rfl ?_)) (by cbv; repeat (first | apply WkL.any | exact WkL.nil _ | refine WkL.eq rfl ?_ | refine WkL.bool rfl ?_)) (by cbv; exact ⟨rfl⟩) ?_ ?_)
      · exact hc.nx ys hys
      · exact hc.mu
  · repeat (first
      | refine OK.drawn (by decide +kernel) ?_
      | refine OK.tree ⟨lookT tis, fun _ => true, []⟩ (by decide +kernel) ?_
      | refine OK.need (by first | assumption | (rw [hA]; first | (show (_ : Int) ≠ _; decide) | (show (0 : Int) ≤ _; decide) | (show (0 : Int) ≤ _ ∧ _ < (256 : Int); decide))) ?_
      | (refine F.hold hA 2000 ?_; cbv))
    obtain ⟨P', U', V', R', hc⟩ := roC hA hI b1
    refine F.call [0] (swap_ok _ P' U' [] V' R' _ _ _ hc.row hc.sw) rfl rfl rfl fun rs H' hq => ?_
    obtain ⟨ys, rfl, rfl, hys⟩ := hq
    refine ⟨rfl, ?_⟩
    repeat (first
      | refine OK.drawn (by decide +kernel) ?_
      | refine OK.tree ⟨lookT tis, fun _ => true, []⟩ (by decide +kernel) ?_
      | refine OK.need (by first | assumption | (rw [hA]; first | (show (_ : Int) ≠ _; decide) | (show (0 : Int) ≤ _; decide) | (show (0 : Int) ≤ _ ∧ _ < (256 : Int); decide))) ?_
      | (refine F.hold hA 2000 ?_; cbv))
    refine F.ret0 ⟨ys, rfl, rfl, ?_⟩
    rw [hc.fin ys hys]
    exact hT
end Go.L1

-- S4
namespace Go.L1
open Go Go.Sx Go.Proofs Go.L5
set_option maxRecDepth 20000
set_option linter.unusedVariables false
set_option linter.unusedSimpArgs false
abbrev d0 : Coin := Coin.node 0 0 []
def wtAt (xs : List Coin) (k : Nat) : Int := (xs.getD k d0).wt
theorem wtAt_some {xs : List Coin} {k : Nat} {x : Coin} (h : xs[k]? = some x) : wtAt xs k = x.wt := by unfold wtAt; rw [List.getD_eq_getElem?_getD, h]; rfl
abbrev half (A : Leaf) (i j : Int) : Int := A.conv .i64 (A.ar .shr .u64 (A.conv .u64 (A.ar .add .i64 i j)) 1)
theorem half_eq {i j : Nat} (h : i + j ≤ 4000) : half Leaf.std i j = (((i + j) / 2 : Nat) : Int) := by
  show Leaf.std.conv .i64 (LAr .shr .u64 (Leaf.std.conv .u64 (Leaf.std.ar .add .i64 (i : Int) (j : Int))) 1) = _
  rw [add_i64 (by omega) (by omega)]
  have e1 : Leaf.std.conv .u64 ((i : Int) + (j : Int)) = (i : Int) + (j : Int) := l_conv_u64 (by omega) (by omega)
  rw [e1, l_shr_u64 (by decide) (by decide)]
  have e2 : Leaf.std.conv .i64 (((i : Int) + (j : Int)) / 2 ^ (1 : Int).toNat) = ((i : Int) + (j : Int)) / 2 ^ (1 : Int).toNat := by
    have : (2 : Int) ^ (1 : Int).toNat = 2 := rfl
    rw [this]
    exact l_conv_i64 (by omega) (by omega)
  rw [e2]
  have : (2 : Int) ^ (1 : Int).toNat = 2 := rfl
  rw [this]
  omega
def BsI (T : Nat → Prop) (lo hi : Nat) (w : Int × Int) : Prop := ∃ i j : Nat, w.1 = i ∧ w.2 = j ∧ BsS T lo hi i j
structure BsAt (A : Leaf) (T : Nat → Prop) (lo hi : Nat) (i j : Int) (c : Nat) : Prop where
  e : half A i j = c
  l : lo ≤ c
  h : c < hi
  yes : T c → BsI T lo hi (A.ar .add .i64 (half A i j) 1, j)
  no : ¬ T c → BsI T lo hi (i, half A i j)
  my : (j - A.ar .add .i64 (half A i j) 1).toNat < (j - i).toNat
  mn : (half A i j - i).toNat < (j - i).toNat
theorem bsAt {A : Leaf} {T : Nat → Prop} {lo hi : Nat} {i j : Int} (hA : A = .std) (hm : MonoT T lo hi) (hh : hi ≤ 1000) (hI : BsI T lo hi (i, j)) (b : A.cmp .lss i j = true) : ∃ c, BsAt A T lo hi i j c := by
  obtain ⟨i0, j0, e1, e2, hs⟩ := hI
  simp only at e1 e2
  subst hA e1 e2
  have b : (i0 : Int) < j0 := of_decide_eq_true b
  have hc := hs.c
  have ha := hs.a
  have he := half_eq (i := i0) (j := j0) (by omega)
  have e1 : Leaf.std.ar .add .i64 (((i0 + j0) / 2 : Nat) : Int) 1 = (((i0 + j0) / 2 + 1 : Nat) : Int) := by rw [add_i64 (by omega) (by omega)]; omega
  refine ⟨(i0 + j0) / 2, he, by omega, by omega, fun ht => ?_, fun ht => ?_, ?_, ?_⟩
  · rw [he, e1]; exact ⟨_, _, rfl, rfl, hs.yes hm (by omega) (by omega) ht⟩
  · rw [he]; exact ⟨_, _, rfl, rfl, hs.no hm (by omega) (by omega) ht⟩
  · rw [he, e1]; omega
  · rw [he]; omega
theorem bsEnd {A : Leaf} {T : Nat → Prop} {lo hi : Nat} {i j : Int} (hA : A = .std) (hI : BsI T lo hi (i, j)) (b : A.cmp .lss i j = false) : ∃ s : Nat, i = s ∧ BsS T lo hi s s := by
  obtain ⟨i0, j0, e1, e2, hs⟩ := hI
  simp only at e1 e2
  subst hA e1 e2
  have b : ¬ (i0 : Int) < j0 := of_decide_eq_false b
  have : j0 = i0 := by have := hs.b; omega
  subst this
  exact ⟨_, rfl, hs⟩
structure SymP (xs : List Coin) (a m b : Int) (a0 m0 b0 : Nat) : Prop where
  ea : a = a0
  em : m = m0
  eb : b = b0
  am : a0 < m0
  mb : m0 < b0
  bl : b0 ≤ xs.length
  l : xs.length ≤ 1000
  rx : Rise Coin.wt (seg xs a0 m0)
  ry : Rise Coin.wt (seg xs m0 b0)
structure SymOut (xs ys : List Coin) (a0 b0 : Nat) : Prop where
  ex : ∃ Z, ys = xs.take a0 ++ (Z ++ xs.drop b0) ∧ Stab Coin.wt (seg xs a0 b0) Z
/-- One coin ahead: it is moved. -/
def Mv1 (xs : List Coin) (a0 s : Nat) (w : List Coin × Int) : Prop :=
  ∃ x Ya Yb, xs[a0]? = some x ∧ seg xs (a0 + 1) s = Ya ++ Yb ∧ w.2 = ((a0 + Ya.length : Nat) : Int) ∧ w.1 = xs.take a0 ++ (Ya ++ x :: (Yb ++ xs.drop s))
structure Mv1At (A : Leaf) (xs : List Coin) (a0 s : Nat) (i : Int) (row : List Coin) (k : Int) : Prop where
  q1 : A.inb k (A.len row)
  q2 : A.inb (A.ar .add .i64 k 1) (A.len row)
  q3 : A.inb (A.ar .add .i64 k 1) (A.len (A.set row k (nd (A.get d0 row (A.ar .add .i64 k 1)))))
  nx : Mv1 xs a0 s (A.set (A.set row k (nd (A.get d0 row (A.ar .add .i64 k 1)))) (A.ar .add .i64 k 1) (nd (A.get d0 row k)), A.ar .add .i64 k 1)
  mu : (i - A.ar .add .i64 k 1).toNat < (i - k).toNat
theorem mv1At {A : Leaf} {xs row : List Coin} {a0 s : Nat} {i k : Int} (hA : A = .std) (hl : xs.length ≤ 1000) (hs : s ≤ xs.length) (has : a0 < s) (hi : i = s) (hI : Mv1 xs a0 s (row, k)) (b1 : A.cmp .lss k (A.ar .sub .i64 i 1) = true) : Mv1At A xs a0 s i row k := by
  obtain ⟨x, Ya, Yb, h1, h2, h3, h4⟩ := hI
  simp only at h3 h4
  subst hA hi
  have e1 : Leaf.std.ar .sub .i64 (s : Int) 1 = (s : Int) - 1 := sub_i64 (by omega) (by omega)
  rw [e1] at b1
  have b1 : k < (s : Int) - 1 := of_decide_eq_true b1
  have hsl := congrArg List.length h2
  rw [seg_len xs hs, List.length_append] at hsl
  cases Yb with
  | nil => simp at hsl; omega
  | cons y Yb =>
    simp only [List.length_cons] at hsl
    have hta : (xs.take a0).length = a0 := by rw [List.length_take]; omega
    have e2 : Leaf.std.ar .add .i64 k 1 = k + 1 := add_i64 (by omega) (by omega)
    have r1 : row = (xs.take a0 ++ Ya) ++ x :: (y :: (Yb ++ xs.drop s)) := by rw [h4]; simp
    have r2 : row = (xs.take a0 ++ Ya ++ [x]) ++ y :: (Yb ++ xs.drop s) := by rw [h4]; simp
    have t1 : k.toNat = (xs.take a0 ++ Ya).length := by rw [List.length_append]; omega
    have t2 : (k + 1).toNat = (xs.take a0 ++ Ya ++ [x]).length := by rw [List.length_append, List.length_append, List.length_singleton]; omega
    have hrl : row.length = xs.length := by rw [r1]; simp; omega
    have g1 : Leaf.std.get d0 row k = x := by show row.getD k.toNat _ = _; rw [t1, r1, getD_app]
    have g2 : Leaf.std.get d0 row (k + 1) = y := by show row.getD (k + 1).toNat _ = _; rw [t2, r2, getD_app]
    have s1 : Leaf.std.set row k y = (xs.take a0 ++ Ya ++ [y]) ++ y :: (Yb ++ xs.drop s) := by show row.set k.toNat y = _; rw [t1, r1, set_app]; simp
    have t3 : (xs.take a0 ++ Ya ++ [x]).length = (xs.take a0 ++ Ya ++ [y]).length := by simp
    have s2 : Leaf.std.set ((xs.take a0 ++ Ya ++ [y]) ++ y :: (Yb ++ xs.drop s)) (k + 1) x = (xs.take a0 ++ Ya ++ [y]) ++ x :: (Yb ++ xs.drop s) := by
      show List.set _ (k + 1).toNat x = _
      rw [t2, t3, set_app]
    have hin : ∀ k : Int, 0 ≤ k → k < row.length → Leaf.std.inb k (Leaf.std.len row) := fun k h0 h1 => ⟨h0, h1⟩
    refine ⟨hin _ (by omega) (by omega), by rw [e2]; exact hin _ (by omega) (by omega), ?_, ?_, by rw [e2]; omega⟩
    · rw [e2]
      refine ⟨by omega, ?_⟩
      show k + 1 < (((row.set _ _).length : Nat) : Int)
      rw [List.length_set]; omega
    · rw [nd_eq, nd_eq, e2, g1, g2, s1, s2]
      refine ⟨x, Ya ++ [y], Yb, h1, by simp [h2], ?_, by simp⟩
      show k + 1 = _
      rw [List.length_append, List.length_singleton]; omega
/-- One coin behind: it is moved. -/
def Mv2 (xs : List Coin) (s m0 : Nat) (w : List Coin × Int) : Prop :=
  ∃ y Xa Xb, xs[m0]? = some y ∧ seg xs s m0 = Xa ++ Xb ∧ w.2 = ((s + Xa.length : Nat) : Int) ∧ w.1 = xs.take s ++ (Xa ++ y :: (Xb ++ xs.drop (m0 + 1)))
structure Mv2At (A : Leaf) (xs : List Coin) (s m0 : Nat) (row : List Coin) (k : Int) : Prop where
  q1 : A.inb k (A.len row)
  q2 : A.inb (A.ar .sub .i64 k 1) (A.len row)
  q3 : A.inb (A.ar .sub .i64 k 1) (A.len (A.set row k (nd (A.get d0 row (A.ar .sub .i64 k 1)))))
  nx : Mv2 xs s m0 (A.set (A.set row k (nd (A.get d0 row (A.ar .sub .i64 k 1)))) (A.ar .sub .i64 k 1) (nd (A.get d0 row k)), A.ar .sub .i64 k 1)
  mu : (A.ar .sub .i64 k 1).toNat < k.toNat
theorem mv2At {A : Leaf} {xs row : List Coin} {s m0 : Nat} {i k : Int} (hA : A = .std) (hl : xs.length ≤ 1000) (hm : m0 < xs.length) (hsm : s ≤ m0) (hi : i = s) (hI : Mv2 xs s m0 (row, k)) (b1 : A.cmp .gtr k i = true) : Mv2At A xs s m0 row k := by
  obtain ⟨y, Xa, Xb, h1, h2, h3, h4⟩ := hI
  simp only at h3 h4
  subst hA hi
  have b1 : (s : Int) < k := of_decide_eq_true b1
  have hsl := congrArg List.length h2
  rw [seg_len xs (by omega), List.length_append] at hsl
  obtain ⟨Xi, x, rfl⟩ := last_split (l := Xa) (by intro h0; subst h0; simp at h3; omega)
  simp only [List.length_append, List.length_singleton] at hsl h3
  have hta : (xs.take s).length = s := by rw [List.length_take]; omega
  have e2 : Leaf.std.ar .sub .i64 k 1 = k - 1 := sub_i64 (by omega) (by omega)
  have r1 : row = (xs.take s ++ Xi ++ [x]) ++ y :: (Xb ++ xs.drop (m0 + 1)) := by rw [h4]; simp
  have r2 : row = (xs.take s ++ Xi) ++ x :: (y :: (Xb ++ xs.drop (m0 + 1))) := by rw [h4]; simp
  have t1 : k.toNat = (xs.take s ++ Xi ++ [x]).length := by rw [List.length_append, List.length_append, List.length_singleton]; omega
  have t2 : (k - 1).toNat = (xs.take s ++ Xi).length := by rw [List.length_append]; omega
  have hrl : row.length = xs.length := by rw [r1]; simp; omega
  have g1 : Leaf.std.get d0 row k = y := by show row.getD k.toNat _ = _; rw [t1, r1, getD_app]
  have g2 : Leaf.std.get d0 row (k - 1) = x := by show row.getD (k - 1).toNat _ = _; rw [t2, r2, getD_app]
  have s1 : Leaf.std.set row k x = (xs.take s ++ Xi) ++ x :: (x :: (Xb ++ xs.drop (m0 + 1))) := by show row.set k.toNat x = _; rw [t1, r1, set_app]; simp
  have s2 : Leaf.std.set ((xs.take s ++ Xi) ++ x :: (x :: (Xb ++ xs.drop (m0 + 1)))) (k - 1) y = (xs.take s ++ Xi) ++ y :: (x :: (Xb ++ xs.drop (m0 + 1))) := by
    show List.set _ (k - 1).toNat y = _
    rw [t2, set_app]
  have hin : ∀ k : Int, 0 ≤ k → k < row.length → Leaf.std.inb k (Leaf.std.len row) := fun k h0 h1 => ⟨h0, h1⟩
  refine ⟨hin _ (by omega) (by omega), by rw [e2]; exact hin _ (by omega) (by omega), ?_, ?_, by rw [e2]; omega⟩
  · rw [e2]
    refine ⟨by omega, ?_⟩
    show k - 1 < (((row.set _ _).length : Nat) : Int)
    rw [List.length_set]; omega
  · rw [nd_eq, nd_eq, e2, g1, g2, s1, s2]
    refine ⟨y, Xi, x :: Xb, h1, by simp [h2], ?_, by simp⟩
    show k - 1 = _
    omega
end Go.L1

-- S5
namespace Go.L1
open Go Go.Sx Go.Proofs Go.L5
set_option maxRecDepth 20000
set_option linter.unusedVariables false
set_option linter.unusedSimpArgs false
def TA (xs : List Coin) (a0 : Nat) (k : Nat) : Prop := wtAt xs k < wtAt xs a0
def TB (xs : List Coin) (m0 : Nat) (k : Nat) : Prop := ¬ wtAt xs m0 < wtAt xs k
def TC (xs : List Coin) (p : Nat) (k : Nat) : Prop := ¬ wtAt xs (p - k) < wtAt xs k
theorem rise_at {xs : List Coin} {i j : Nat} (h : Rise Coin.wt (seg xs i j)) (hj : j ≤ xs.length) {p q : Nat} (h1 : i ≤ p) (h2 : p ≤ q) (h3 : q < j) : wtAt xs p ≤ wtAt xs q := by
  have e1 : xs[p]? = some (xs[p]'(by omega)) := List.getElem?_eq_getElem (by omega)
  have e2 : xs[q]? = some (xs[q]'(by omega)) := List.getElem?_eq_getElem (by omega)
  rw [wtAt_some e1, wtAt_some e2]
  exact rise_seg h h1 h2 h3 e1 e2
theorem mem_wt {xs : List Coin} {i j : Nat} {x : Coin} (h : x ∈ seg xs i j) : ∃ k, i ≤ k ∧ k < j ∧ xs[k]? = some x ∧ wtAt xs k = x.wt := by
  obtain ⟨k, h1, h2, h3⟩ := mem_seg.1 h
  exact ⟨k, h1, h2, h3, wtAt_some h3⟩
theorem monoA {xs : List Coin} {a0 m0 b0 : Nat} (h : Rise Coin.wt (seg xs m0 b0)) (hb : b0 ≤ xs.length) : MonoT (TA xs a0) m0 b0 := fun k k' h1 h2 h3 ht => by
  have := rise_at h hb h1 h2 h3
  unfold TA at *; omega
theorem monoB {xs : List Coin} {a0 m0 : Nat} (h : Rise Coin.wt (seg xs a0 m0)) (hb : m0 ≤ xs.length) : MonoT (TB xs m0) a0 m0 := fun k k' h1 h2 h3 ht => by
  have := rise_at h hb h1 h2 h3
  unfold TB at *; omega
/-- Where is searched. -/
structure Lh (a0 m0 b0 mid lo hi : Nat) : Prop where
  l1 : a0 ≤ lo
  l2 : lo ≤ hi
  l3 : hi ≤ m0
  l4 : hi ≤ mid
  l5 : mid + m0 ≤ b0 + lo
  l6 : hi = mid ∨ hi = m0
  l7 : lo = a0 ∨ mid + m0 = b0 + lo
  a : a0 < mid
  b : mid < b0
theorem monoC {xs : List Coin} {a0 m0 b0 mid lo hi : Nat} (h : Lh a0 m0 b0 mid lo hi) (hx : Rise Coin.wt (seg xs a0 m0)) (hy : Rise Coin.wt (seg xs m0 b0)) (hm : m0 ≤ b0) (hb : b0 ≤ xs.length) : MonoT (TC xs (mid + m0 - 1)) lo hi := fun k k' h1 h2 h3 ht => by
  obtain ⟨l1, l2, l3, l4, l5, l6, l7, _, _⟩ := h
  have e1 := rise_at hx (by omega) (p := k) (q := k') (by omega) h2 (by omega)
  have e2 := rise_at hy hb (p := mid + m0 - 1 - k') (q := mid + m0 - 1 - k) (by omega) (by omega) (by omega)
  unfold TC at *; omega
/-- What was found. -/
structure Sp (xs : List Coin) (a0 m0 b0 mid s e : Nat) : Prop where
  a : a0 ≤ s
  b : s ≤ m0
  c : m0 ≤ e
  d : e ≤ b0
  f : s ≤ mid
  g : mid ≤ e
  h : s + e = mid + m0
  ma : a0 < mid
  mb : mid < b0
  yx : ∀ y ∈ seg xs m0 e, ∀ x ∈ seg xs s m0, y.wt < x.wt
  xy : ∀ x ∈ seg xs a0 s, ∀ y ∈ seg xs e b0, x.wt ≤ y.wt
theorem sp_of {xs : List Coin} {a0 m0 b0 mid lo hi s : Nat} (h : Lh a0 m0 b0 mid lo hi) (hx : Rise Coin.wt (seg xs a0 m0)) (hy : Rise Coin.wt (seg xs m0 b0)) (hm : m0 ≤ b0) (hb : b0 ≤ xs.length) (hs : BsS (TC xs (mid + m0 - 1)) lo hi s s) : Sp xs a0 m0 b0 mid s (mid + m0 - s) := by
  obtain ⟨l1, l2, l3, l4, l5, l6, l7, ma, mb⟩ := h
  obtain ⟨s1, _, s3, s4, s5⟩ := hs
  refine ⟨by omega, by omega, by omega, by omega, by omega, by omega, by omega, ma, mb, fun y hy' x hx' => ?_, fun x hx' y hy' => ?_⟩
  · obtain ⟨k, k1, k2, k3, k4⟩ := mem_wt hy'
    obtain ⟨j, j1, j2, j3, j4⟩ := mem_wt hx'
    have hsh : s < hi := by omega
    have := s5 s (Nat.le_refl _) hsh
    have e1 := rise_at hx (by omega) (p := s) (q := j) (by omega) j1 (by omega)
    have e2 := rise_at hy hb (p := k) (q := mid + m0 - 1 - s) (by omega) (by omega) (by omega)
    unfold TC at this; omega
  · obtain ⟨k, k1, k2, k3, k4⟩ := mem_wt hy'
    obtain ⟨j, j1, j2, j3, j4⟩ := mem_wt hx'
    have hsh : lo < s := by omega
    have := s4 (s - 1) (by omega) (by omega)
    have e1 := rise_at hx (by omega) (p := j) (q := s - 1) (by omega) (by omega) (by omega)
    have e2 := rise_at hy hb (p := mid + m0 - 1 - (s - 1)) (q := k) (by omega) (by omega) (by omega)
    unfold TC at this; omega
theorem take_seg (xs : List Coin) {i j : Nat} (h : i ≤ j) : xs.take j = xs.take i ++ seg xs i j := by
  have := seg_split xs (Nat.zero_le i) h
  simpa [seg] using this
theorem drop_seg (xs : List Coin) {i j : Nat} (h : i ≤ j) : xs.drop i = seg xs i j ++ xs.drop j := by
  unfold seg
  have : xs.drop j = (xs.drop i).drop (j - i) := by rw [List.drop_drop]; congr 1; omega
  rw [this, List.take_append_drop]
theorem seg_app {α : Type} (P Q R : List α) {i j : Nat} (hi : i = P.length) (hj : j = i + Q.length) : seg (P ++ (Q ++ R)) i j = Q := by
  subst hi
  unfold seg
  rw [List.drop_left' rfl, hj, show P.length + Q.length - P.length = Q.length by omega, List.take_left' rfl]
theorem take_app {α : Type} (P Q : List α) {i : Nat} (hi : i = P.length) : (P ++ Q).take i = P := List.take_left' hi.symm
theorem drop_app {α : Type} (P Q R : List α) {i : Nat} (hi : i = P.length + Q.length) : (P ++ (Q ++ R)).drop i = R := by
  rw [← List.append_assoc]; exact List.drop_left' (by rw [List.length_append]; omega)
def MidR (xs : List Coin) (a0 m0 b0 s e : Nat) (row : List Coin) : Prop := row = xs.take a0 ++ ((seg xs a0 s ++ seg xs m0 e) ++ ((seg xs s m0 ++ seg xs e b0) ++ xs.drop b0))
def MidL (xs : List Coin) (a0 m0 b0 s e : Nat) (row : List Coin) : Prop := ∃ Z, Stab Coin.wt (seg xs a0 s ++ seg xs m0 e) Z ∧ row = xs.take a0 ++ (Z ++ ((seg xs s m0 ++ seg xs e b0) ++ xs.drop b0))
theorem split5 {xs : List Coin} {a0 m0 b0 mid s e : Nat} (h : Sp xs a0 m0 b0 mid s e) : xs = xs.take s ++ (seg xs s m0 ++ (seg xs m0 e ++ xs.drop e)) := by
  have h1 := drop_seg xs h.c
  have h2 := drop_seg xs h.b
  rw [← h1, ← h2, List.take_append_drop]
theorem mid_stay {xs : List Coin} {a0 m0 b0 mid s e : Nat} (h : Sp xs a0 m0 b0 mid s e) (hn : ¬ (s < m0 ∧ m0 < e)) : MidR xs a0 m0 b0 s e xs := by
  have h5 := split5 h
  rw [take_seg xs h.a, drop_seg xs h.d] at h5
  have hb := h.b
  have hc := h.c
  unfold MidR
  rcases Nat.eq_or_lt_of_le hb with h1 | h1
  · subst h1
    rw [seg_nil xs (Nat.le_refl s)] at h5 ⊢
    rw [List.nil_append] at h5 ⊢
    refine h5.trans ?_
    simp only [List.append_assoc]
  · have h2 : e = m0 := by omega
    subst h2
    rw [seg_nil xs (Nat.le_refl e)] at h5 ⊢
    rw [List.nil_append] at h5
    rw [List.append_nil]
    simp only [List.append_assoc] at h5 ⊢
    exact h5
theorem mid_turn {xs row : List Coin} {a0 m0 b0 mid s e : Nat} (h : Sp xs a0 m0 b0 mid s e) (ho : RoOut (xs.take s) (seg xs s m0) (seg xs m0 e) (xs.drop e) row) : MidR xs a0 m0 b0 s e row := by
  unfold MidR
  rw [ho.eq, take_seg xs h.a, drop_seg xs h.d]
  simp only [List.append_assoc]
structure SpX (xs : List Coin) (a0 m0 b0 mid s e : Nat) : Prop extends Sp xs a0 m0 b0 mid s e where
  bl : b0 ≤ xs.length
  l : xs.length ≤ 1000
  rx : Rise Coin.wt (seg xs a0 m0)
  ry : Rise Coin.wt (seg xs m0 b0)
theorem SpX.len {xs : List Coin} {a0 m0 b0 mid s e : Nat} (h : SpX xs a0 m0 b0 mid s e) : (xs.take a0).length = a0 ∧ (seg xs a0 s).length = s - a0 ∧ (seg xs s m0).length = m0 - s ∧ (seg xs m0 e).length = e - m0 ∧ (seg xs e b0).length = b0 - e ∧ (xs.drop b0).length = xs.length - b0 := by
  have h1 := h.bl
  have h2 := h.a
  have h3 := h.b
  have h4 := h.c
  have h5 := h.d
  exact ⟨by rw [List.length_take]; omega, seg_len xs (by omega), seg_len xs (by omega), seg_len xs (by omega), seg_len xs h1, List.length_drop⟩
theorem half1_P {xs row : List Coin} {a0 m0 b0 mid s e : Nat} (h : SpX xs a0 m0 b0 mid s e) (hr : MidR xs a0 m0 b0 s e row) (h1 : a0 < s) (h2 : s < mid) : SymP row a0 s mid a0 s mid := by
  obtain ⟨g1, g2, g3, g4, g5, g6⟩ := h.len
  have h3 := h.h
  have hb := h.b
  have hc := h.c
  have hd := h.d
  have hbl := h.bl
  have hl := h.l
  have hrl : row.length = xs.length := by rw [hr]; simp only [List.length_append]; omega
  have hr' : row = xs.take a0 ++ (seg xs a0 s ++ (seg xs m0 e ++ ((seg xs s m0 ++ seg xs e b0) ++ xs.drop b0))) := by rw [hr]; simp only [List.append_assoc]
  have hr2 : row = (xs.take a0 ++ seg xs a0 s) ++ (seg xs m0 e ++ ((seg xs s m0 ++ seg xs e b0) ++ xs.drop b0)) := by rw [hr]; simp only [List.append_assoc]
  refine ⟨rfl, rfl, rfl, h1, h2, by omega, by omega, ?_, ?_⟩
  · rw [hr', seg_app _ _ _ g1.symm (by omega)]
    exact rise_sub h.rx (Nat.le_refl _) h.a hb
  · rw [hr2, seg_app _ _ _ (by rw [List.length_append]; omega) (by omega)]
    exact rise_sub h.ry (Nat.le_refl _) hc hd
theorem half1_done {xs row ys : List Coin} {a0 m0 b0 mid s e : Nat} (h : SpX xs a0 m0 b0 mid s e) (hr : MidR xs a0 m0 b0 s e row) (ho : SymOut row ys a0 mid) : MidL xs a0 m0 b0 s e ys := by
  obtain ⟨g1, g2, g3, g4, g5, g6⟩ := h.len
  have h3 := h.h
  have ha := h.a
  have hb := h.b
  have hc := h.c
  obtain ⟨Z, e1, e2⟩ := ho.ex
  have hm := h.ma
  have hf := h.f
  have hL : (seg xs a0 s ++ seg xs m0 e).length = mid - a0 := by rw [List.length_append]; omega
  refine ⟨Z, ?_, ?_⟩
  · rw [hr, seg_app _ _ _ g1.symm (by omega)] at e2
    exact e2
  · rw [hr, take_app _ _ g1.symm, drop_app _ _ _ (by omega)] at e1
    exact e1
theorem half1_stay {xs row : List Coin} {a0 m0 b0 mid s e : Nat} (h : SpX xs a0 m0 b0 mid s e) (hr : MidR xs a0 m0 b0 s e row) (hn : ¬ (a0 < s ∧ s < mid)) : MidL xs a0 m0 b0 s e row := by
  have ha := h.a
  have hb := h.b
  have hc := h.c
  have hf := h.f
  have h3 := h.h
  refine ⟨_, ⟨?_, fun _ => rfl⟩, hr⟩
  rcases Nat.eq_or_lt_of_le ha with h1 | h1
  · rw [seg_nil xs (i := a0) (by omega), List.nil_append]
    exact rise_sub h.ry (Nat.le_refl _) hc h.d
  · rw [seg_nil xs (i := m0) (by omega), List.append_nil]
    exact rise_sub h.rx (Nat.le_refl _) ha hb
theorem half2_P {xs row : List Coin} {a0 m0 b0 mid s e : Nat} (h : SpX xs a0 m0 b0 mid s e) (hr : MidL xs a0 m0 b0 s e row) (h1 : mid < e) (h2 : e < b0) : SymP row mid e b0 mid e b0 := by
  obtain ⟨g1, g2, g3, g4, g5, g6⟩ := h.len
  obtain ⟨Z, hZ, hr⟩ := hr
  have hZl := stab_len hZ
  rw [List.length_append] at hZl
  have h3 := h.h
  have ha := h.a
  have hb := h.b
  have hc := h.c
  have hd := h.d
  have hf := h.f
  have hm := h.ma
  have hbl := h.bl
  have hl := h.l
  have hrl : row.length = xs.length := by rw [hr]; simp only [List.length_append]; omega
  have hr' : row = (xs.take a0 ++ Z) ++ (seg xs s m0 ++ (seg xs e b0 ++ xs.drop b0)) := by rw [hr]; simp only [List.append_assoc]
  have hr2 : row = (xs.take a0 ++ Z ++ seg xs s m0) ++ (seg xs e b0 ++ xs.drop b0) := by rw [hr]; simp only [List.append_assoc]
  refine ⟨rfl, rfl, rfl, h1, h2, by omega, by omega, ?_, ?_⟩
  · rw [hr', seg_app _ _ _ (by rw [List.length_append]; omega) (by omega)]
    exact rise_sub h.rx ha hb (Nat.le_refl _)
  · rw [hr2, seg_app _ _ _ (by rw [List.length_append, List.length_append]; omega) (by omega)]
    exact rise_sub h.ry hc hd (Nat.le_refl _)
theorem half_fin {xs : List Coin} {a0 m0 b0 mid s e : Nat} (h : SpX xs a0 m0 b0 mid s e) {Z1 Z2 : List Coin} (h1 : Stab Coin.wt (seg xs a0 s ++ seg xs m0 e) Z1) (h2 : Stab Coin.wt (seg xs s m0 ++ seg xs e b0) Z2) : SymOut xs (xs.take a0 ++ ((Z1 ++ Z2) ++ xs.drop b0)) a0 b0 := by
  refine ⟨_, rfl, ?_⟩
  have ha := h.a
  have hb := h.b
  have hc := h.c
  have hd := h.d
  rw [seg_split xs (j := m0) (by omega) (by omega), seg_split xs ha hb, seg_split xs hc hd]
  refine merge_halves ?_ ?_ h.yx h.xy h1 h2
  · rw [← seg_split xs ha hb]; exact h.rx
  · rw [← seg_split xs hc hd]; exact h.ry
theorem half2_done {xs row ys : List Coin} {a0 m0 b0 mid s e : Nat} (h : SpX xs a0 m0 b0 mid s e) (hr : MidL xs a0 m0 b0 s e row) (ho : SymOut row ys mid b0) : SymOut xs ys a0 b0 := by
  obtain ⟨g1, g2, g3, g4, g5, g6⟩ := h.len
  obtain ⟨Z, hZ, hr⟩ := hr
  have hZl := stab_len hZ
  rw [List.length_append] at hZl
  have h3 := h.h
  have ha := h.a
  have hb := h.b
  have hc := h.c
  have hd := h.d
  have hf := h.f
  have hm := h.ma
  have hmb := h.mb
  obtain ⟨Z2, e1, e2⟩ := ho.ex
  have hr' : row = (xs.take a0 ++ Z) ++ ((seg xs s m0 ++ seg xs e b0) ++ xs.drop b0) := by rw [hr]; simp only [List.append_assoc]
  have hL : (seg xs s m0 ++ seg xs e b0).length = b0 - mid := by rw [List.length_append]; omega
  have hP : (xs.take a0 ++ Z).length = mid := by rw [List.length_append]; omega
  rw [hr', seg_app _ _ _ hP.symm (by omega)] at e2
  rw [hr', take_app _ _ hP.symm, drop_app _ _ _ (by omega)] at e1
  have := half_fin h hZ e2
  rw [e1]
  simp only [List.append_assoc] at this ⊢
  exact this
theorem half2_stay {xs row : List Coin} {a0 m0 b0 mid s e : Nat} (h : SpX xs a0 m0 b0 mid s e) (hr : MidL xs a0 m0 b0 s e row) (hn : ¬ (mid < e ∧ e < b0)) : SymOut xs row a0 b0 := by
  obtain ⟨Z, hZ, hr⟩ := hr
  have ha := h.a
  have hb := h.b
  have hc := h.c
  have hd := h.d
  have hg := h.g
  have h3 := h.h
  have hs : Stab Coin.wt (seg xs s m0 ++ seg xs e b0) (seg xs s m0 ++ seg xs e b0) := by
    refine ⟨?_, fun _ => rfl⟩
    rcases Nat.eq_or_lt_of_le hd with h1 | h1
    · rw [seg_nil xs (i := e) (by omega), List.append_nil]
      exact rise_sub h.rx ha hb (Nat.le_refl _)
    · rw [seg_nil xs (i := s) (by omega), List.nil_append]
      exact rise_sub h.ry hc hd (Nat.le_refl _)
  have := half_fin h hZ hs
  rw [hr]
  simp only [List.append_assoc] at this ⊢
  exact this
/-- One coin ahead. -/
theorem finA {xs row : List Coin} {a m b : Int} {a0 m0 b0 s : Nat} (hp : SymP xs a m b a0 m0 b0) (h1 : m0 = a0 + 1) (hs : BsS (TA xs a0) m0 b0 s s) {k : Int} (hI : Mv1 xs a0 s (row, k)) (hk : (s : Int) - 1 ≤ k) : SymOut xs row a0 b0 := by
  obtain ⟨ea, em, eb, am, mb, bl, l, rx, ry⟩ := hp
  obtain ⟨s1, _, s3, s4, s5⟩ := hs
  obtain ⟨x, Ya, Yb, e1, e2, e3, e4⟩ := hI
  simp only at e3 e4
  subst h1
  have hlen := congrArg List.length e2
  rw [seg_len xs (by omega), List.length_append] at hlen
  have : Yb = [] := List.length_eq_zero_iff.1 (by omega)
  subst this
  rw [List.append_nil] at e2
  subst e2
  have hx := wtAt_some e1
  refine ⟨seg xs (a0 + 1) s ++ (x :: seg xs s b0), ?_, ?_⟩
  · rw [e4, drop_seg xs s3]; simp
  · rw [seg_split xs (i := a0) (j := a0 + 1) (by omega) (by omega), seg_one e1, seg_split xs s1 s3]
    refine stab_single ?_ (fun y hy => ?_) (fun y hy => ?_)
    · rw [← seg_split xs s1 s3]; exact ry
    · obtain ⟨k, k1, k2, k3, k4⟩ := mem_wt hy
      have := s4 k k1 k2
      unfold TA at this; omega
    · obtain ⟨k, k1, k2, k3, k4⟩ := mem_wt hy
      have := s5 k k1 k2
      unfold TA at this; omega
theorem iniA {xs : List Coin} {a m b : Int} {a0 m0 b0 s : Nat} (hp : SymP xs a m b a0 m0 b0) (h1 : m0 = a0 + 1) (hs : m0 ≤ s) : Mv1 xs a0 s (xs, a) := by
  obtain ⟨ea, em, eb, am, mb, bl, l, rx, ry⟩ := hp
  subst h1
  have hx : xs[a0]? = some (xs[a0]'(by omega)) := List.getElem?_eq_getElem (by omega)
  refine ⟨xs[a0]'(by omega), [], seg xs (a0 + 1) s, hx, rfl, by simpa using ea, ?_⟩
  show xs = _
  rw [List.nil_append, ← List.singleton_append, ← seg_one hx, ← drop_seg xs hs, ← drop_seg xs (by omega), List.take_append_drop]
/-- One coin behind. -/
theorem finB {xs row : List Coin} {a m b : Int} {a0 m0 b0 s : Nat} (hp : SymP xs a m b a0 m0 b0) (h1 : b0 = m0 + 1) (hs : BsS (TB xs m0) a0 m0 s s) {k : Int} (hI : Mv2 xs s m0 (row, k)) (hk : k ≤ (s : Int)) : SymOut xs row a0 b0 := by
  obtain ⟨ea, em, eb, am, mb, bl, l, rx, ry⟩ := hp
  obtain ⟨s1, _, s3, s4, s5⟩ := hs
  obtain ⟨y, Xa, Xb, e1, e2, e3, e4⟩ := hI
  simp only at e3 e4
  subst h1
  have hlen := congrArg List.length e2
  rw [seg_len xs (by omega), List.length_append] at hlen
  have : Xa = [] := List.length_eq_zero_iff.1 (by omega)
  subst this
  rw [List.nil_append] at e2
  subst e2
  have hx := wtAt_some e1
  refine ⟨seg xs a0 s ++ (y :: seg xs s m0), ?_, ?_⟩
  · rw [e4, take_seg xs s1]; simp
  · rw [seg_split xs (i := a0) (j := m0) (by omega) (by omega), seg_one e1, seg_split xs s1 s3]
    refine stab_single' ?_ (fun z hz => ?_) (fun z hz => ?_)
    · rw [← seg_split xs s1 s3]; exact rx
    · obtain ⟨k, k1, k2, k3, k4⟩ := mem_wt hz
      have := s4 k k1 k2
      unfold TB at this; omega
    · obtain ⟨k, k1, k2, k3, k4⟩ := mem_wt hz
      have := s5 k k1 k2
      unfold TB at this; omega
theorem iniB {xs : List Coin} {a m b : Int} {a0 m0 b0 s : Nat} (hp : SymP xs a m b a0 m0 b0) (hs : s ≤ m0) : Mv2 xs s m0 (xs, m) := by
  obtain ⟨ea, em, eb, am, mb, bl, l, rx, ry⟩ := hp
  have hx : xs[m0]? = some (xs[m0]'(by omega)) := List.getElem?_eq_getElem (by omega)
  refine ⟨xs[m0]'(by omega), seg xs s m0, [], hx, by simp, ?_, ?_⟩
  · show m = _
    rw [seg_len xs (by omega)]; omega
  show xs = _
  rw [List.nil_append, ← List.singleton_append, ← seg_one hx, ← drop_seg xs (by omega), ← drop_seg xs hs, List.take_append_drop]
end Go.L1

-- S6
namespace Go.L1
open Go Go.Sx Go.Proofs Go.L5
set_option maxRecDepth 20000
set_option linter.unusedVariables false
set_option linter.unusedSimpArgs false
structure One (x y : Nat) : Prop where
  e : y = x + 1
structure NotOne (x y : Nat) : Prop where
  e : y ≠ x + 1
structure Sz (x y N : Nat) : Prop where
  h : y - x ≤ N
theorem one_of {A : Leaf} (hA : A = .std) {x y : Int} {p q : Nat} (hx : x = p) (hy : y = q) (hp : p < q) (hq : q ≤ 1000) (b : A.cmp .eql (A.ar .sub .i64 y x) 1 = true) : One p q := by
  subst hA hx hy
  rw [sub_i64 (by omega) (by omega)] at b
  have b : ((q : Int) - p == 1) = true := b
  rw [beq_iff_eq] at b
  exact ⟨by omega⟩
theorem notOne_of {A : Leaf} (hA : A = .std) {x y : Int} {p q : Nat} (hx : x = p) (hy : y = q) (hp : p < q) (hq : q ≤ 1000) (b : A.cmp .eql (A.ar .sub .i64 y x) 1 = false) : NotOne p q := by
  subst hA hx hy
  rw [sub_i64 (by omega) (by omega)] at b
  have b : ((q : Int) - p == 1) = false := b
  rw [beq_eq_false_iff_ne] at b
  exact ⟨by omega⟩
theorem ltT {A : Leaf} (hA : A = .std) {x y : Int} {p q : Nat} (hx : x = p) (hy : y = q) (b : A.cmp .lss x y = true) : p < q := by
  subst hA hx hy
  have b : (p : Int) < q := of_decide_eq_true b
  omega
theorem ltF {A : Leaf} (hA : A = .std) {x y : Int} {p q : Nat} (hx : x = p) (hy : y = q) (b : A.cmp .lss x y = false) : ¬ p < q := by
  subst hA hx hy
  have b : ¬ (p : Int) < q := of_decide_eq_false b
  omega
/-- One step of a search: ahead, if x's weight is less than y's. -/
structure StA (A : Leaf) (xs : List Coin) (T : Nat → Prop) (lo hi : Nat) (i j x y : Int) : Prop where
  q1 : A.inb x (A.len xs)
  q2 : A.inb y (A.len xs)
  yes : (A.get d0 xs x).wt < (A.get d0 xs y).wt → BsI T lo hi (A.ar .add .i64 (half A i j) 1, j)
  no : ¬ (A.get d0 xs x).wt < (A.get d0 xs y).wt → BsI T lo hi (i, half A i j)
  my : (j - A.ar .add .i64 (half A i j) 1).toNat < (j - i).toNat
  mn : (half A i j - i).toNat < (j - i).toNat
structure StB (A : Leaf) (xs : List Coin) (T : Nat → Prop) (lo hi : Nat) (i j x y : Int) : Prop where
  q1 : A.inb x (A.len xs)
  q2 : A.inb y (A.len xs)
  yes : ¬ (A.get d0 xs x).wt < (A.get d0 xs y).wt → BsI T lo hi (A.ar .add .i64 (half A i j) 1, j)
  no : (A.get d0 xs x).wt < (A.get d0 xs y).wt → BsI T lo hi (i, half A i j)
  my : (j - A.ar .add .i64 (half A i j) 1).toNat < (j - i).toNat
  mn : (half A i j - i).toNat < (j - i).toNat
theorem std_get (xs : List Coin) {x : Int} {p : Nat} (h : x = p) : (Leaf.std.get d0 xs x).wt = wtAt xs p := by subst h; rfl
theorem std_inb (xs : List Coin) {x : Int} {p : Nat} (h : x = p) (hp : p < xs.length) : Leaf.std.inb x (Leaf.std.len xs) := by
  subst h
  exact ⟨by omega, by show (p : Int) < (xs.length : Int); omega⟩
theorem stA_of {A : Leaf} {xs : List Coin} {a m b : Int} {a0 m0 b0 : Nat} {i j : Int} (hA : A = .std) (hp : SymP xs a m b a0 m0 b0) (hI : BsI (TA xs a0) m0 b0 (i, j)) (b1 : A.cmp .lss i j = true) : StA A xs (TA xs a0) m0 b0 i j (half A i j) a := by
  have hbl := hp.bl
  have hl := hp.l
  obtain ⟨c, h⟩ := bsAt hA (monoA hp.ry hbl) (by omega) hI b1
  have hc := h.h
  have ham := hp.am
  have hmb := hp.mb
  subst hA
  refine ⟨std_inb xs h.e (by omega), std_inb xs hp.ea (by omega), fun ht => h.yes ?_, fun ht => h.no fun h2 => ht ?_, h.my, h.mn⟩
  · rw [std_get xs h.e, std_get xs hp.ea] at ht; exact ht
  · rw [std_get xs h.e, std_get xs hp.ea]; exact h2
theorem stB_of {A : Leaf} {xs : List Coin} {a m b : Int} {a0 m0 b0 : Nat} {i j : Int} (hA : A = .std) (hp : SymP xs a m b a0 m0 b0) (hI : BsI (TB xs m0) a0 m0 (i, j)) (b1 : A.cmp .lss i j = true) : StB A xs (TB xs m0) a0 m0 i j m (half A i j) := by
  have hbl := hp.bl
  have hl := hp.l
  have ham := hp.am
  have hmb := hp.mb
  obtain ⟨c, h⟩ := bsAt hA (monoB hp.rx (by omega)) (by omega) hI b1
  have hc := h.h
  subst hA
  refine ⟨std_inb xs hp.em (by omega), std_inb xs h.e (by omega), fun ht => h.yes ?_, fun ht => h.no fun h2 => h2 ?_, h.my, h.mn⟩
  · rw [std_get xs h.e, std_get xs hp.em] at ht; exact ht
  · rw [std_get xs h.e, std_get xs hp.em] at ht; exact ht
/-- The whole of the search over two rows: mid, and what is searched. -/
structure Go3 (A : Leaf) (xs : List Coin) (a m b : Int) (a0 m0 b0 mid lo hi : Nat) (u v : Int) : Prop where
  lh : Lh a0 m0 b0 mid lo hi
  e : half A a b = mid
  en : A.ar .add .i64 (half A a b) m = ((mid + m0 : Nat) : Int)
  ep : A.ar .sub .i64 (A.ar .add .i64 (half A a b) m) 1 = ((mid + m0 - 1 : Nat) : Int)
  ini : BsI (TC xs (mid + m0 - 1)) lo hi (u, v)
theorem go3a {A : Leaf} {xs : List Coin} {a m b : Int} {a0 m0 b0 : Nat} (hA : A = .std) (hp : SymP xs a m b a0 m0 b0) (h1 : NotOne a0 m0) (h2 : NotOne m0 b0) (b1 : A.cmp .gtr m (half A a b) = true) :
    ∃ mid lo hi, Go3 A xs a m b a0 m0 b0 mid lo hi (A.ar .sub .i64 (A.ar .add .i64 (half A a b) m) b) (half A a b) := by
  obtain ⟨ea, em, eb, am, mb, bl, l, rx, ry⟩ := hp
  have h1 := h1.e
  have h2 := h2.e
  subst hA ea em eb
  have he := half_eq (i := a0) (j := b0) (by omega)
  rw [he] at b1
  have b1 : (((a0 + b0) / 2 : Nat) : Int) < (m0 : Int) := of_decide_eq_true b1
  have e1 : Leaf.std.ar .add .i64 (half Leaf.std a0 b0) m0 = (((a0 + b0) / 2 + m0 : Nat) : Int) := by rw [he, add_i64 (by omega) (by omega)]; omega
  have e2 : Leaf.std.ar .sub .i64 (Leaf.std.ar .add .i64 (half Leaf.std a0 b0) m0) 1 = (((a0 + b0) / 2 + m0 - 1 : Nat) : Int) := by rw [e1, sub_i64 (by omega) (by omega)]; omega
  have e3 : Leaf.std.ar .sub .i64 (Leaf.std.ar .add .i64 (half Leaf.std a0 b0) m0) b0 = (((a0 + b0) / 2 + m0 - b0 : Nat) : Int) := by rw [e1, sub_i64 (by omega) (by omega)]; omega
  refine ⟨(a0 + b0) / 2, (a0 + b0) / 2 + m0 - b0, (a0 + b0) / 2, ⟨by omega, by omega, by omega, by omega, by omega, by omega, by omega, by omega, by omega⟩, he, e1, e2, ?_⟩
  rw [e3, he]
  exact ⟨_, _, rfl, rfl, ⟨by omega, by omega, by omega, fun k _ _ => by omega, fun k _ _ => by omega⟩⟩
theorem go3b {A : Leaf} {xs : List Coin} {a m b : Int} {a0 m0 b0 : Nat} (hA : A = .std) (hp : SymP xs a m b a0 m0 b0) (h1 : NotOne a0 m0) (h2 : NotOne m0 b0) (b1 : A.cmp .gtr m (half A a b) = false) :
    ∃ mid lo hi, Go3 A xs a m b a0 m0 b0 mid lo hi a m := by
  obtain ⟨ea, em, eb, am, mb, bl, l, rx, ry⟩ := hp
  have h1 := h1.e
  have h2 := h2.e
  subst hA ea em eb
  have he := half_eq (i := a0) (j := b0) (by omega)
  rw [he] at b1
  have b1 : ¬ (((a0 + b0) / 2 : Nat) : Int) < (m0 : Int) := of_decide_eq_false b1
  have e1 : Leaf.std.ar .add .i64 (half Leaf.std a0 b0) m0 = (((a0 + b0) / 2 + m0 : Nat) : Int) := by rw [he, add_i64 (by omega) (by omega)]; omega
  have e2 : Leaf.std.ar .sub .i64 (Leaf.std.ar .add .i64 (half Leaf.std a0 b0) m0) 1 = (((a0 + b0) / 2 + m0 - 1 : Nat) : Int) := by rw [e1, sub_i64 (by omega) (by omega)]; omega
  refine ⟨(a0 + b0) / 2, a0, m0, ⟨by omega, by omega, by omega, by omega, by omega, by omega, by omega, by omega, by omega⟩, he, e1, e2, ?_⟩
  exact ⟨_, _, rfl, rfl, ⟨by omega, by omega, by omega, fun k _ _ => by omega, fun k _ _ => by omega⟩⟩
theorem stC_of {A : Leaf} {xs : List Coin} {a m b : Int} {a0 m0 b0 mid lo hi : Nat} {i j u v : Int} (hA : A = .std) (hp : SymP xs a m b a0 m0 b0) (hg : Go3 A xs a m b a0 m0 b0 mid lo hi u v) (hI : BsI (TC xs (mid + m0 - 1)) lo hi (i, j)) (b1 : A.cmp .lss i j = true) :
    StB A xs (TC xs (mid + m0 - 1)) lo hi i j (A.ar .sub .i64 (A.ar .sub .i64 (A.ar .add .i64 (half A a b) m) 1) (half A i j)) (half A i j) := by
  have hbl := hp.bl
  have hl := hp.l
  have ham := hp.am
  have hmb := hp.mb
  obtain ⟨l1, l2, l3, l4, l5, l6, l7, ma, mb⟩ := hg.lh
  obtain ⟨c, h⟩ := bsAt hA (monoC hg.lh hp.rx hp.ry (by omega) hbl) (by omega) hI b1
  have hc := h.h
  have hcl := h.l
  have ep := hg.ep
  subst hA
  have e1 : Leaf.std.ar .sub .i64 (Leaf.std.ar .sub .i64 (Leaf.std.ar .add .i64 (half Leaf.std a b) m) 1) (half Leaf.std i j) = ((mid + m0 - 1 - c : Nat) : Int) := by
    rw [ep, h.e, sub_i64 (by omega) (by omega)]; omega
  refine ⟨std_inb xs e1 (by omega), std_inb xs h.e (by omega), fun ht => h.yes ?_, fun ht => h.no fun h2 => h2 ?_, h.my, h.mn⟩
  · rw [std_get xs h.e, std_get xs e1] at ht; exact ht
  · rw [std_get xs h.e, std_get xs e1] at ht; exact ht
structure EndS (T : Nat → Prop) (lo hi : Nat) (i : Int) (s : Nat) : Prop where
  e : i = s
  s : BsS T lo hi s s
theorem endS {A : Leaf} {T : Nat → Prop} {lo hi : Nat} {i j : Int} (hA : A = .std) (hI : BsI T lo hi (i, j)) (b : A.cmp .lss i j = false) : ∃ s : Nat, EndS T lo hi i s := by
  obtain ⟨s, h1, h2⟩ := bsEnd hA hI b
  exact ⟨s, h1, h2⟩
structure TailF (A : Leaf) (xs : List Coin) (a m b : Int) (a0 m0 b0 mid s e : Nat) (u : Int) : Prop where
  sp : SpX xs a0 m0 b0 mid s e
  ea : a = a0
  em : m = m0
  eb : b = b0
  eu : u = s
  ei : half A a b = mid
  ee : A.ar .sub .i64 (A.ar .add .i64 (half A a b) m) u = e
theorem tailF {A : Leaf} {xs : List Coin} {a m b : Int} {a0 m0 b0 mid lo hi : Nat} {i u v : Int} {s : Nat} (hA : A = .std) (hp : SymP xs a m b a0 m0 b0) (hg : Go3 A xs a m b a0 m0 b0 mid lo hi u v) (he : EndS (TC xs (mid + m0 - 1)) lo hi i s) : ∃ e, TailF A xs a m b a0 m0 b0 mid s e i := by
  have hbl := hp.bl
  have hl := hp.l
  have ham := hp.am
  have hmb := hp.mb
  have hsp := sp_of hg.lh hp.rx hp.ry (by omega) hbl he.s
  have h3 := hsp.b
  have h4 := hsp.f
  have h5 := hsp.mb
  have en := hg.en
  have ei := hg.e
  refine ⟨_, ⟨⟨hsp, hbl, hl, hp.rx, hp.ry⟩, hp.ea, hp.em, hp.eb, he.e, ei, ?_⟩⟩
  subst hA
  rw [en, he.e, sub_i64 (by omega) (by omega)]; omega
theorem TailF.ro {A : Leaf} {xs : List Coin} {a m b : Int} {a0 m0 b0 mid s e : Nat} {u : Int} (hA : A = .std) (h : TailF A xs a m b a0 m0 b0 mid s e u) (x1 : A.cmp .lss u m = true) (x2 : A.cmp .lss m (A.ar .sub .i64 (A.ar .add .i64 (half A a b) m) u) = true) : RoP (xs.take s) (seg xs s m0) (seg xs m0 e) (xs.drop e) u m (A.ar .sub .i64 (A.ar .add .i64 (half A a b) m) u) := by
  have y1 := ltT hA h.eu h.em x1
  have y2 := ltT hA h.em h.ee x2
  have hbl := h.sp.bl
  have hd := h.sp.d
  have hl := h.sp.l
  have g1 : (xs.take s).length = s := by rw [List.length_take]; omega
  have g2 : (seg xs s m0).length = m0 - s := seg_len xs (by omega)
  have g3 : (seg xs m0 e).length = e - m0 := seg_len xs (by omega)
  have g4 : (xs.drop e).length = xs.length - e := List.length_drop
  have h1 := h.eu
  have h2 := h.em
  have h3 := h.ee
  exact ⟨by omega, by omega, by omega, by omega, by omega, by omega⟩
theorem symP_to {row : List Coin} {x y z : Int} {p q r : Nat} (h : SymP row p q r p q r) (e1 : x = p) (e2 : y = q) (e3 : z = r) : SymP row x y z p q r := ⟨e1, e2, e3, h.am, h.mb, h.bl, h.l, h.rx, h.ry⟩
theorem szL {a0 b0 mid N : Nat} (h : Sz a0 b0 (N + 1)) (h1 : a0 < mid) (h2 : mid < b0) : Sz a0 mid N := ⟨by have := h.h; omega⟩
theorem szR {a0 b0 mid N : Nat} (h : Sz a0 b0 (N + 1)) (h1 : a0 < mid) (h2 : mid < b0) : Sz mid b0 N := ⟨by have := h.h; omega⟩
theorem notT {A : Leaf} (hA : A = .std) {r : Int} (b : A.bnot (A.cmp .lss r 0) = false) : r < 0 := by
  subst hA
  cases h : Leaf.std.cmp .lss r 0 with
  | true => exact of_decide_eq_true h
  | false =>
    rw [h] at b
    have b : (!false) = false := b
    cases b
theorem notF {A : Leaf} (hA : A = .std) {r : Int} (b : A.bnot (A.cmp .lss r 0) = true) : ¬ r < 0 := by
  subst hA
  cases h : Leaf.std.cmp .lss r 0 with
  | true =>
    rw [h] at b
    have b : (!true) = true := b
    cases b
  | false => exact of_decide_eq_false h
theorem leK1 {A : Leaf} (hA : A = .std) {i k : Int} {s : Nat} (hi : i = s) (hs : s ≤ 1000) (b : A.cmp .lss k (A.ar .sub .i64 i 1) = false) : (s : Int) - 1 ≤ k := by
  subst hA hi
  rw [sub_i64 (by omega) (by omega)] at b
  have b : ¬ k < (s : Int) - 1 := of_decide_eq_false b
  omega
theorem leK2 {A : Leaf} (hA : A = .std) {i k : Int} {s : Nat} (hi : i = s) (b : A.cmp .gtr k i = false) : k ≤ (s : Int) := by
  subst hA hi
  have b : ¬ (s : Int) < k := of_decide_eq_false b
  omega
end Go.L1

-- S7
namespace Go.L1
open Go Go.Sx Go.Proofs Go.L5
set_option maxRecDepth 20000
set_option linter.unusedVariables false
set_option linter.unusedSimpArgs false
set_option maxHeartbeats 4000000 in
theorem symMerge_ok (N : Nat) : ∀ (xs : List Coin) (a m b : Int) (a0 m0 b0 : Nat), Sz a0 b0 N → SymP xs a m b a0 m0 b0 → FOK Try.prog C1 47 (fun _ => true) [.own 0, .int .i64 a, .int .i64 m, .int .i64 b, .fn 26 []] [.row 54 (.recs 6 xs)]
    (fun rs H => ∃ ys, rs = [] ∧ H = [.row 54 (.recs 6 ys)] ∧ SymOut xs ys a0 b0) := by
  induction N with
  | zero =>
    intro xs a m b a0 m0 b0 hN hp
    exact absurd hN.h (by have := hp.am; have := hp.mb; omega)
  | succ N ih =>
  intro xs a m b a0 m0 b0 hN hp
  refine fok_of (B := ⟨lookT tis, fun _ => true, []⟩) (tab1 _) (zero1 _) cod1 mix1 Try.func47 (by kernel_rfl) rfl rfl rfl fun X F => ?_
  obtain ⟨A, hA⟩ : ∃ A, A = Leaf.std := ⟨_, rfl⟩
  refine F.hold hA 2000 ?_
  cbv
  repeat (first
    | refine OK.drawn (by decide +kernel) ?_
    | refine OK.tree ⟨lookT tis, fun _ => true, []⟩ (by decide +kernel) ?_
    | refine OK.need (by first | assumption | (rw [hA]; first | (show (_ : Int) ≠ _; decide) | (show (0 : Int) ≤ _; decide) | (show (0 : Int) ≤ _ ∧ _ < (256 : Int); decide))) ?_
    | (refine F.hold hA 2000 ?_; cbv))
  refine OK.branch (fun c1 => ?_) (fun c1 => ?_)
  · have h1 := one_of hA hp.ea hp.em hp.am (by have := hp.mb; have := hp.bl; have := hp.l; omega) c1
    repeat (first
      | refine OK.drawn (by decide +kernel) ?_
      | refine OK.tree ⟨lookT tis, fun _ => true, []⟩ (by decide +kernel) ?_
      | refine OK.need (by first | assumption | (rw [hA]; first | (show (_ : Int) ≠ _; decide) | (show (0 : Int) ≤ _; decide) | (show (0 : Int) ≤ _ ∧ _ < (256 : Int); decide))) ?_
      | (refine F.hold hA 2000 ?_; cbv))
    refine F.loop (V := Int × Int) [0, 1, 2, 3, 4] (BsI (TA xs a0) m0 b0) (fun w => (w.2 - w.1).toNat) (fun w => [(10, .int .i64 w.1), (11, .int .i64 w.2)]) (fun w => []) (_, _) (by cbv; repeat (first | exact WkH.nil _ | apply WkH.gone | refine WkH.eq rfl ?_)) (by cbv; repeat (first | apply WkL.any | exact WkL.nil _ | refine WkL.eq rfl ?_ | refine WkL.bool rfl ?_)) (by cbv; exact ⟨rfl⟩) ?_ ?_
    · exact ⟨m0, b0, hp.em, hp.eb, ⟨Nat.le_refl _, Nat.le_of_lt hp.mb, Nat.le_refl _, fun k _ _ => by omega, fun k _ _ => by omega⟩⟩
    rintro ⟨i, j⟩ hI Bk hBk
    repeat (first
      | refine OK.drawn (by decide +kernel) ?_
      | refine OK.tree ⟨lookT tis, fun _ => true, []⟩ (by decide +kernel) ?_
      | refine OK.need (by first | assumption | (rw [hA]; first | (show (_ : Int) ≠ _; decide) | (show (0 : Int) ≤ _; decide) | (show (0 : Int) ≤ _ ∧ _ < (256 : Int); decide))) ?_
      | (refine F.hold hA 2000 ?_; cbv))
    refine OK.branch (fun c2 => ?_) (fun c2 => ?_)
    · have hs := stA_of hA hp hI c2
      have q1 := hs.q1
      have q2 := hs.q2
      repeat (first
        | refine OK.drawn (by decide +kernel) ?_
        | refine OK.tree ⟨lookT tis, fun _ => true, []⟩ (by decide +kernel) ?_
        | refine OK.need (by first | assumption | (rw [hA]; first | (show (_ : Int) ≠ _; decide) | (show (0 : Int) ≤ _; decide) | (show (0 : Int) ≤ _ ∧ _ < (256 : Int); decide))) ?_
        | (refine F.hold hA 2000 ?_; cbv))
      refine F.call [] (order_ok _ _ _ _ _ _) rfl rfl rfl fun rs H' hq => ?_
      obtain ⟨r, rfl, rfl, hr⟩ := hq
      refine ⟨rfl, ?_⟩
      repeat (first
        | refine OK.drawn (by decide +kernel) ?_
        | refine OK.tree ⟨lookT tis, fun _ => true, []⟩ (by decide +kernel) ?_
        | refine OK.need (by first | assumption | (rw [hA]; first | (show (_ : Int) ≠ _; decide) | (show (0 : Int) ≤ _; decide) | (show (0 : Int) ≤ _ ∧ _ < (256 : Int); decide))) ?_
        | (refine F.hold hA 2000 ?_; cbv))
      refine OK.branch (fun c3 => ?_) (fun c3 => ?_)
      · repeat (first
          | refine OK.drawn (by decide +kernel) ?_
          | refine OK.tree ⟨lookT tis, fun _ => true, []⟩ (by decide +kernel) ?_
          | refine OK.need (by first | assumption | (rw [hA]; first | (show (_ : Int) ≠ _; decide) | (show (0 : Int) ≤ _; decide) | (show (0 : Int) ≤ _ ∧ _ < (256 : Int); decide))) ?_
          | (refine F.hold hA 2000 ?_; cbv))
        refine OK.back (hBk _ _ (_, _) (by cbv; repeat (first | exact WkH.nil _ | apply WkH.gone | refine WkH.eq rfl ?_)) (by cbv; repeat (first | apply WkL.any | exact WkL.nil _ | refine WkL.eq rfl ?_ | refine WkL.bool rfl ?_)) (by cbv; exact ⟨rfl⟩) ?_ ?_)
        · exact hs.yes (hr.lt.1 (by subst hA; exact of_decide_eq_true c3))
        · exact hs.my
      · repeat (first
          | refine OK.drawn (by decide +kernel) ?_
          | refine OK.tree ⟨lookT tis, fun _ => true, []⟩ (by decide +kernel) ?_
          | refine OK.need (by first | assumption | (rw [hA]; first | (show (_ : Int) ≠ _; decide) | (show (0 : Int) ≤ _; decide) | (show (0 : Int) ≤ _ ∧ _ < (256 : Int); decide))) ?_
          | (refine F.hold hA 2000 ?_; cbv))
        refine OK.back (hBk _ _ (_, _) (by cbv; repeat (first | exact WkH.nil _ | apply WkH.gone | refine WkH.eq rfl ?_)) (by cbv; repeat (first | apply WkL.any | exact WkL.nil _ | refine WkL.eq rfl ?_ | refine WkL.bool rfl ?_)) (by cbv; exact ⟨rfl⟩) ?_ ?_)
        · exact hs.no fun h => absurd (hr.lt.2 h) (by subst hA; exact of_decide_eq_false c3)
        · exact hs.mn
    · obtain ⟨s, he⟩ := endS hA hI c2
      repeat (first
        | refine OK.drawn (by decide +kernel) ?_
        | refine OK.tree ⟨lookT tis, fun _ => true, []⟩ (by decide +kernel) ?_
        | refine OK.need (by first | assumption | (rw [hA]; first | (show (_ : Int) ≠ _; decide) | (show (0 : Int) ≤ _; decide) | (show (0 : Int) ≤ _ ∧ _ < (256 : Int); decide))) ?_
        | (refine F.hold hA 2000 ?_; cbv))
      refine F.loop (V := List Coin × Int) [0, 1, 2, 3, 4, 10] (Mv1 xs a0 s) (fun w => (i - w.2).toNat) (fun w => [(13, .int .i64 w.2)]) (fun w => [(0, .row 54 (.recs 6 w.1))]) (_, _) (by cbv; repeat (first | exact WkH.nil _ | apply WkH.gone | refine WkH.eq rfl ?_)) (by cbv; repeat (first | apply WkL.any | exact WkL.nil _ | refine WkL.eq rfl ?_ | refine WkL.bool rfl ?_)) (by cbv; exact ⟨rfl⟩) ?_ ?_
      · exact iniA hp h1.e he.s.a
      rintro ⟨row, k⟩ hI2 Bk2 hBk2
      repeat (first
        | refine OK.drawn (by decide +kernel) ?_
        | refine OK.tree ⟨lookT tis, fun _ => true, []⟩ (by decide +kernel) ?_
        | refine OK.need (by first | assumption | (rw [hA]; first | (show (_ : Int) ≠ _; decide) | (show (0 : Int) ≤ _; decide) | (show (0 : Int) ≤ _ ∧ _ < (256 : Int); decide))) ?_
        | (refine F.hold hA 2000 ?_; cbv))
      refine OK.branch (fun c3 => ?_) (fun c3 => ?_)
      · have hat := mv1At hA hp.l (Nat.le_trans he.s.c hp.bl) (Nat.lt_of_lt_of_le hp.am he.s.a) he.e hI2 c3
        have q1 := hat.q1
        have q2 := hat.q2
        have q3 := hat.q3
        have hBk := hBk2
        repeat' (first
          | refine OK.drawn (by decide +kernel) ?_
          | refine OK.tree ⟨lookT tis, fun _ => true, []⟩ (by decide +kernel) ?_
          | refine OK.both ?_ ?_
          | refine OK.need (by first | assumption | (rw [hA]; first | (show (_ : Int) ≠ _; decide) | (show (0 : Int) ≤ _; decide) | (show (0 : Int) ≤ _ ∧ _ < (256 : Int); decide))) ?_
          | refine OK.need ?_ ?_
          | (refine OK.branch ?_ ?_ <;> intro h)
          | (refine F.hold hA 2000 ?_; cbv))
        all_goals
          refine OK.back (hBk _ _ (_, _) (by cbv; repeat (first | exact WkH.nil _ | apply WkH.gone | refine WkH.eq rfl ?_)) (by cbv; repeat (first | apply WkL.any | exact WkL.nil _ | refine WkL.eq rfl ?_ | refine WkL.bool rfl ?_)) (by cbv; exact ⟨rfl⟩) ?_ ?_)
          · exact hat.nx
          · exact hat.mu
      · repeat (first
          | refine OK.drawn (by decide +kernel) ?_
          | refine OK.tree ⟨lookT tis, fun _ => true, []⟩ (by decide +kernel) ?_
          | refine OK.need (by first | assumption | (rw [hA]; first | (show (_ : Int) ≠ _; decide) | (show (0 : Int) ≤ _; decide) | (show (0 : Int) ≤ _ ∧ _ < (256 : Int); decide))) ?_
          | (refine F.hold hA 2000 ?_; cbv))
        exact F.ret0 ⟨_, rfl, rfl, finA hp h1.e he.s hI2 (leK1 hA he.e (Nat.le_trans he.s.c (Nat.le_trans hp.bl hp.l)) c3)⟩
  · have h1 := notOne_of hA hp.ea hp.em hp.am (by have := hp.mb; have := hp.bl; have := hp.l; omega) c1
    repeat (first
      | refine OK.drawn (by decide +kernel) ?_
      | refine OK.tree ⟨lookT tis, fun _ => true, []⟩ (by decide +kernel) ?_
      | refine OK.need (by first | assumption | (rw [hA]; first | (show (_ : Int) ≠ _; decide) | (show (0 : Int) ≤ _; decide) | (show (0 : Int) ≤ _ ∧ _ < (256 : Int); decide))) ?_
      | (refine F.hold hA 2000 ?_; cbv))
    refine OK.branch (fun c2 => ?_) (fun c2 => ?_)
    · have h2 := one_of hA hp.em hp.eb hp.mb (by have := hp.mb; have := hp.bl; have := hp.l; omega) c2
      repeat (first
        | refine OK.drawn (by decide +kernel) ?_
        | refine OK.tree ⟨lookT tis, fun _ => true, []⟩ (by decide +kernel) ?_
        | refine OK.need (by first | assumption | (rw [hA]; first | (show (_ : Int) ≠ _; decide) | (show (0 : Int) ≤ _; decide) | (show (0 : Int) ≤ _ ∧ _ < (256 : Int); decide))) ?_
        | (refine F.hold hA 2000 ?_; cbv))
      refine F.loop (V := Int × Int) [0, 1, 2, 3, 4] (BsI (TB xs m0) a0 m0) (fun w => (w.2 - w.1).toNat) (fun w => [(14, .int .i64 w.1), (15, .int .i64 w.2)]) (fun w => []) (_, _) (by cbv; repeat (first | exact WkH.nil _ | apply WkH.gone | refine WkH.eq rfl ?_)) (by cbv; repeat (first | apply WkL.any | exact WkL.nil _ | refine WkL.eq rfl ?_ | refine WkL.bool rfl ?_)) (by cbv; exact ⟨rfl⟩) ?_ ?_
      · exact ⟨a0, m0, hp.ea, hp.em, ⟨Nat.le_refl _, Nat.le_of_lt hp.am, Nat.le_refl _, fun k _ _ => by omega, fun k _ _ => by omega⟩⟩
      rintro ⟨i, j⟩ hI Bk hBk
      repeat (first
        | refine OK.drawn (by decide +kernel) ?_
        | refine OK.tree ⟨lookT tis, fun _ => true, []⟩ (by decide +kernel) ?_
        | refine OK.need (by first | assumption | (rw [hA]; first | (show (_ : Int) ≠ _; decide) | (show (0 : Int) ≤ _; decide) | (show (0 : Int) ≤ _ ∧ _ < (256 : Int); decide))) ?_
        | (refine F.hold hA 2000 ?_; cbv))
      refine OK.branch (fun c3 => ?_) (fun c3 => ?_)
      · have hs := stB_of hA hp hI c3
        have q1 := hs.q1
        have q2 := hs.q2
        repeat (first
          | refine OK.drawn (by decide +kernel) ?_
          | refine OK.tree ⟨lookT tis, fun _ => true, []⟩ (by decide +kernel) ?_
          | refine OK.need (by first | assumption | (rw [hA]; first | (show (_ : Int) ≠ _; decide) | (show (0 : Int) ≤ _; decide) | (show (0 : Int) ≤ _ ∧ _ < (256 : Int); decide))) ?_
          | (refine F.hold hA 2000 ?_; cbv))
        refine F.call [] (order_ok _ _ _ _ _ _) rfl rfl rfl fun rs H' hq => ?_
        obtain ⟨r, rfl, rfl, hr⟩ := hq
        refine ⟨rfl, ?_⟩
        repeat (first
          | refine OK.drawn (by decide +kernel) ?_
          | refine OK.tree ⟨lookT tis, fun _ => true, []⟩ (by decide +kernel) ?_
          | refine OK.need (by first | assumption | (rw [hA]; first | (show (_ : Int) ≠ _; decide) | (show (0 : Int) ≤ _; decide) | (show (0 : Int) ≤ _ ∧ _ < (256 : Int); decide))) ?_
          | (refine F.hold hA 2000 ?_; cbv))
        refine OK.branch (fun c5 => ?_) (fun c5 => ?_)
        · repeat (first
            | refine OK.drawn (by decide +kernel) ?_
            | refine OK.tree ⟨lookT tis, fun _ => true, []⟩ (by decide +kernel) ?_
            | refine OK.need (by first | assumption | (rw [hA]; first | (show (_ : Int) ≠ _; decide) | (show (0 : Int) ≤ _; decide) | (show (0 : Int) ≤ _ ∧ _ < (256 : Int); decide))) ?_
            | (refine F.hold hA 2000 ?_; cbv))
          refine OK.back (hBk _ _ (_, _) (by cbv; repeat (first | exact WkH.nil _ | apply WkH.gone | refine WkH.eq rfl ?_)) (by cbv; repeat (first | apply WkL.any | exact WkL.nil _ | refine WkL.eq rfl ?_ | refine WkL.bool rfl ?_)) (by cbv; exact ⟨rfl⟩) ?_ ?_)
          · exact hs.yes fun h => notF hA c5 (hr.lt.2 h)
          · exact hs.my
        · repeat (first
            | refine OK.drawn (by decide +kernel) ?_
            | refine OK.tree ⟨lookT tis, fun _ => true, []⟩ (by decide +kernel) ?_
            | refine OK.need (by first | assumption | (rw [hA]; first | (show (_ : Int) ≠ _; decide) | (show (0 : Int) ≤ _; decide) | (show (0 : Int) ≤ _ ∧ _ < (256 : Int); decide))) ?_
            | (refine F.hold hA 2000 ?_; cbv))
          refine OK.back (hBk _ _ (_, _) (by cbv; repeat (first | exact WkH.nil _ | apply WkH.gone | refine WkH.eq rfl ?_)) (by cbv; repeat (first | apply WkL.any | exact WkL.nil _ | refine WkL.eq rfl ?_ | refine WkL.bool rfl ?_)) (by cbv; exact ⟨rfl⟩) ?_ ?_)
          · exact hs.no (hr.lt.1 (notT hA c5))
          · exact hs.mn
      · obtain ⟨s, he⟩ := endS hA hI c3
        repeat (first
          | refine OK.drawn (by decide +kernel) ?_
          | refine OK.tree ⟨lookT tis, fun _ => true, []⟩ (by decide +kernel) ?_
          | refine OK.need (by first | assumption | (rw [hA]; first | (show (_ : Int) ≠ _; decide) | (show (0 : Int) ≤ _; decide) | (show (0 : Int) ≤ _ ∧ _ < (256 : Int); decide))) ?_
          | (refine F.hold hA 2000 ?_; cbv))
        refine F.loop (V := List Coin × Int) [0, 1, 2, 3, 4, 14] (Mv2 xs s m0) (fun w => w.2.toNat) (fun w => [(17, .int .i64 w.2)]) (fun w => [(0, .row 54 (.recs 6 w.1))]) (_, _) (by cbv; repeat (first | exact WkH.nil _ | apply WkH.gone | refine WkH.eq rfl ?_)) (by cbv; repeat (first | apply WkL.any | exact WkL.nil _ | refine WkL.eq rfl ?_ | refine WkL.bool rfl ?_)) (by cbv; exact ⟨rfl⟩) ?_ ?_
        · exact iniB hp he.s.c
        rintro ⟨row, k⟩ hI2 Bk2 hBk2
        repeat (first
          | refine OK.drawn (by decide +kernel) ?_
          | refine OK.tree ⟨lookT tis, fun _ => true, []⟩ (by decide +kernel) ?_
          | refine OK.need (by first | assumption | (rw [hA]; first | (show (_ : Int) ≠ _; decide) | (show (0 : Int) ≤ _; decide) | (show (0 : Int) ≤ _ ∧ _ < (256 : Int); decide))) ?_
          | (refine F.hold hA 2000 ?_; cbv))
        refine OK.branch (fun c4 => ?_) (fun c4 => ?_)
        · have hat := mv2At hA hp.l (Nat.lt_of_lt_of_le hp.mb hp.bl) he.s.c he.e hI2 c4
          have q1 := hat.q1
          have q2 := hat.q2
          have q3 := hat.q3
          have hBk := hBk2
          repeat' (first
            | refine OK.drawn (by decide +kernel) ?_
            | refine OK.tree ⟨lookT tis, fun _ => true, []⟩ (by decide +kernel) ?_
            | refine OK.both ?_ ?_
            | refine OK.need (by first | assumption | (rw [hA]; first | (show (_ : Int) ≠ _; decide) | (show (0 : Int) ≤ _; decide) | (show (0 : Int) ≤ _ ∧ _ < (256 : Int); decide))) ?_
            | refine OK.need ?_ ?_
            | (refine OK.branch ?_ ?_ <;> intro h)
            | (refine F.hold hA 2000 ?_; cbv))
          all_goals
            refine OK.back (hBk _ _ (_, _) (by cbv; repeat (first | exact WkH.nil _ | apply WkH.gone | refine WkH.eq rfl ?_)) (by cbv; repeat (first | apply WkL.any | exact WkL.nil _ | refine WkL.eq rfl ?_ | refine WkL.bool rfl ?_)) (by cbv; exact ⟨rfl⟩) ?_ ?_)
            · exact hat.nx
            · exact hat.mu
        · repeat (first
            | refine OK.drawn (by decide +kernel) ?_
            | refine OK.tree ⟨lookT tis, fun _ => true, []⟩ (by decide +kernel) ?_
            | refine OK.need (by first | assumption | (rw [hA]; first | (show (_ : Int) ≠ _; decide) | (show (0 : Int) ≤ _; decide) | (show (0 : Int) ≤ _ ∧ _ < (256 : Int); decide))) ?_
            | (refine F.hold hA 2000 ?_; cbv))
          exact F.ret0 ⟨_, rfl, rfl, finB hp h2.e he.s hI2 (leK2 hA he.e c4)⟩
    · have h2 := notOne_of hA hp.em hp.eb hp.mb (by have := hp.mb; have := hp.bl; have := hp.l; omega) c2
      repeat (first
        | refine OK.drawn (by decide +kernel) ?_
        | refine OK.tree ⟨lookT tis, fun _ => true, []⟩ (by decide +kernel) ?_
        | refine OK.need (by first | assumption | (rw [hA]; first | (show (_ : Int) ≠ _; decide) | (show (0 : Int) ≤ _; decide) | (show (0 : Int) ≤ _ ∧ _ < (256 : Int); decide))) ?_
        | (refine F.hold hA 2000 ?_; cbv))
      refine OK.branch (fun c3 => ?_) (fun c3 => ?_)
      · obtain ⟨mid, lo, hi, hg⟩ := go3a hA hp h1 h2 c3
        repeat (first
          | refine OK.drawn (by decide +kernel) ?_
          | refine OK.tree ⟨lookT tis, fun _ => true, []⟩ (by decide +kernel) ?_
          | refine OK.need (by first | assumption | (rw [hA]; first | (show (_ : Int) ≠ _; decide) | (show (0 : Int) ≤ _; decide) | (show (0 : Int) ≤ _ ∧ _ < (256 : Int); decide))) ?_
          | (refine F.hold hA 2000 ?_; cbv))
        refine F.loop (V := Int × Int) [0, 1, 2, 3, 4, 18, 19, 22] (BsI (TC xs (mid + m0 - 1)) lo hi) (fun w => (w.2 - w.1).toNat) (fun w => [(20, .int .i64 w.1), (21, .int .i64 w.2)]) (fun w => []) (_, _) (by cbv; repeat (first | exact WkH.nil _ | apply WkH.gone | refine WkH.eq rfl ?_)) (by cbv; repeat (first | apply WkL.any | exact WkL.nil _ | refine WkL.eq rfl ?_ | refine WkL.bool rfl ?_)) (by cbv; exact ⟨rfl⟩) ?_ ?_
        · exact hg.ini
        rintro ⟨i, j⟩ hI Bk hBk
        repeat (first
          | refine OK.drawn (by decide +kernel) ?_
          | refine OK.tree ⟨lookT tis, fun _ => true, []⟩ (by decide +kernel) ?_
          | refine OK.need (by first | assumption | (rw [hA]; first | (show (_ : Int) ≠ _; decide) | (show (0 : Int) ≤ _; decide) | (show (0 : Int) ≤ _ ∧ _ < (256 : Int); decide))) ?_
          | (refine F.hold hA 2000 ?_; cbv))
        refine OK.branch (fun c4 => ?_) (fun c4 => ?_)
        · have hs := stC_of hA hp hg hI c4
          have q1 := hs.q1
          have q2 := hs.q2
          repeat (first
            | refine OK.drawn (by decide +kernel) ?_
            | refine OK.tree ⟨lookT tis, fun _ => true, []⟩ (by decide +kernel) ?_
            | refine OK.need (by first | assumption | (rw [hA]; first | (show (_ : Int) ≠ _; decide) | (show (0 : Int) ≤ _; decide) | (show (0 : Int) ≤ _ ∧ _ < (256 : Int); decide))) ?_
            | (refine F.hold hA 2000 ?_; cbv))
          refine F.call [] (order_ok _ _ _ _ _ _) rfl rfl rfl fun rs H' hq => ?_
          obtain ⟨r, rfl, rfl, hr⟩ := hq
          refine ⟨rfl, ?_⟩
          repeat (first
            | refine OK.drawn (by decide +kernel) ?_
            | refine OK.tree ⟨lookT tis, fun _ => true, []⟩ (by decide +kernel) ?_
            | refine OK.need (by first | assumption | (rw [hA]; first | (show (_ : Int) ≠ _; decide) | (show (0 : Int) ≤ _; decide) | (show (0 : Int) ≤ _ ∧ _ < (256 : Int); decide))) ?_
            | (refine F.hold hA 2000 ?_; cbv))
          refine OK.branch (fun c5 => ?_) (fun c5 => ?_)
          · repeat (first
              | refine OK.drawn (by decide +kernel) ?_
              | refine OK.tree ⟨lookT tis, fun _ => true, []⟩ (by decide +kernel) ?_
              | refine OK.need (by first | assumption | (rw [hA]; first | (show (_ : Int) ≠ _; decide) | (show (0 : Int) ≤ _; decide) | (show (0 : Int) ≤ _ ∧ _ < (256 : Int); decide))) ?_
              | (refine F.hold hA 2000 ?_; cbv))
            refine OK.back (hBk _ _ (_, _) (by cbv; repeat (first | exact WkH.nil _ | apply WkH.gone | refine WkH.eq rfl ?_)) (by cbv; repeat (first | apply WkL.any | exact WkL.nil _ | refine WkL.eq rfl ?_ | refine WkL.bool rfl ?_)) (by cbv; exact ⟨rfl⟩) ?_ ?_)
            · exact hs.yes fun h => notF hA c5 (hr.lt.2 h)
            · exact hs.my
          · repeat (first
              | refine OK.drawn (by decide +kernel) ?_
              | refine OK.tree ⟨lookT tis, fun _ => true, []⟩ (by decide +kernel) ?_
              | refine OK.need (by first | assumption | (rw [hA]; first | (show (_ : Int) ≠ _; decide) | (show (0 : Int) ≤ _; decide) | (show (0 : Int) ≤ _ ∧ _ < (256 : Int); decide))) ?_
              | (refine F.hold hA 2000 ?_; cbv))
            refine OK.back (hBk _ _ (_, _) (by cbv; repeat (first | exact WkH.nil _ | apply WkH.gone | refine WkH.eq rfl ?_)) (by cbv; repeat (first | apply WkL.any | exact WkL.nil _ | refine WkL.eq rfl ?_ | refine WkL.bool rfl ?_)) (by cbv; exact ⟨rfl⟩) ?_ ?_)
            · exact hs.no (hr.lt.1 (notT hA c5))
            · exact hs.mn
        · obtain ⟨s, he⟩ := endS hA hI c4
          obtain ⟨e, ht⟩ := tailF hA hp hg he
          repeat (first
            | refine OK.drawn (by decide +kernel) ?_
            | refine OK.tree ⟨lookT tis, fun _ => true, []⟩ (by decide +kernel) ?_
            | refine OK.need (by first | assumption | (rw [hA]; first | (show (_ : Int) ≠ _; decide) | (show (0 : Int) ≤ _; decide) | (show (0 : Int) ≤ _ ∧ _ < (256 : Int); decide))) ?_
            | (refine F.hold hA 2000 ?_; cbv))
          refine OK.branch (fun x1 => ?_) (fun x1 => ?_)
          · repeat (first
              | refine OK.drawn (by decide +kernel) ?_
              | refine OK.tree ⟨lookT tis, fun _ => true, []⟩ (by decide +kernel) ?_
              | refine OK.need (by first | assumption | (rw [hA]; first | (show (_ : Int) ≠ _; decide) | (show (0 : Int) ≤ _; decide) | (show (0 : Int) ≤ _ ∧ _ < (256 : Int); decide))) ?_
              | (refine F.hold hA 2000 ?_; cbv))
            refine OK.branch (fun x2 => ?_) (fun x2 => ?_)
            · repeat (first
                | refine OK.drawn (by decide +kernel) ?_
                | refine OK.tree ⟨lookT tis, fun _ => true, []⟩ (by decide +kernel) ?_
                | refine OK.need (by first | assumption | (rw [hA]; first | (show (_ : Int) ≠ _; decide) | (show (0 : Int) ≤ _; decide) | (show (0 : Int) ≤ _ ∧ _ < (256 : Int); decide))) ?_
                | (refine F.hold hA 2000 ?_; cbv))
              refine F.call [0] (rotate_ok _ _ _ _ _ _ _ _ (split5 ht.sp.toSp) (ht.ro hA x1 x2)) rfl rfl rfl fun rs H' hq => ?_
              obtain ⟨ys1, rfl, rfl, hy1⟩ := hq
              refine ⟨rfl, ?_⟩
              have hR := mid_turn ht.sp.toSp hy1
              repeat (first
                | refine OK.drawn (by decide +kernel) ?_
                | refine OK.tree ⟨lookT tis, fun _ => true, []⟩ (by decide +kernel) ?_
                | refine OK.need (by first | assumption | (rw [hA]; first | (show (_ : Int) ≠ _; decide) | (show (0 : Int) ≤ _; decide) | (show (0 : Int) ≤ _ ∧ _ < (256 : Int); decide))) ?_
                | (refine F.hold hA 2000 ?_; cbv))
              refine OK.branch (fun x1 => ?_) (fun x1 => ?_)
              · repeat (first
                  | refine OK.drawn (by decide +kernel) ?_
                  | refine OK.tree ⟨lookT tis, fun _ => true, []⟩ (by decide +kernel) ?_
                  | refine OK.need (by first | assumption | (rw [hA]; first | (show (_ : Int) ≠ _; decide) | (show (0 : Int) ≤ _; decide) | (show (0 : Int) ≤ _ ∧ _ < (256 : Int); decide))) ?_
                  | (refine F.hold hA 2000 ?_; cbv))
                refine OK.branch (fun x2 => ?_) (fun x2 => ?_)
                · repeat (first
                    | refine OK.drawn (by decide +kernel) ?_
                    | refine OK.tree ⟨lookT tis, fun _ => true, []⟩ (by decide +kernel) ?_
                    | refine OK.need (by first | assumption | (rw [hA]; first | (show (_ : Int) ≠ _; decide) | (show (0 : Int) ≤ _; decide) | (show (0 : Int) ≤ _ ∧ _ < (256 : Int); decide))) ?_
                    | (refine F.hold hA 2000 ?_; cbv))
                  refine F.call [0] (ih _ _ _ _ _ _ _ (szL hN ht.sp.ma ht.sp.mb) (symP_to (half1_P ht.sp hR (ltT hA ht.ea ht.eu x1) (ltT hA ht.eu ht.ei x2)) ht.ea ht.eu ht.ei)) rfl rfl rfl fun rs H' hq => ?_
                  obtain ⟨ys2, rfl, rfl, hy2⟩ := hq
                  refine ⟨rfl, ?_⟩
                  have hL := half1_done ht.sp hR hy2
                  repeat (first
                    | refine OK.drawn (by decide +kernel) ?_
                    | refine OK.tree ⟨lookT tis, fun _ => true, []⟩ (by decide +kernel) ?_
                    | refine OK.need (by first | assumption | (rw [hA]; first | (show (_ : Int) ≠ _; decide) | (show (0 : Int) ≤ _; decide) | (show (0 : Int) ≤ _ ∧ _ < (256 : Int); decide))) ?_
                    | (refine F.hold hA 2000 ?_; cbv))
                  refine OK.branch (fun x1 => ?_) (fun x1 => ?_)
                  · repeat (first
                      | refine OK.drawn (by decide +kernel) ?_
                      | refine OK.tree ⟨lookT tis, fun _ => true, []⟩ (by decide +kernel) ?_
                      | refine OK.need (by first | assumption | (rw [hA]; first | (show (_ : Int) ≠ _; decide) | (show (0 : Int) ≤ _; decide) | (show (0 : Int) ≤ _ ∧ _ < (256 : Int); decide))) ?_
                      | (refine F.hold hA 2000 ?_; cbv))
                    refine OK.branch (fun x2 => ?_) (fun x2 => ?_)
                    · repeat (first
                        | refine OK.drawn (by decide +kernel) ?_
                        | refine OK.tree ⟨lookT tis, fun _ => true, []⟩ (by decide +kernel) ?_
                        | refine OK.need (by first | assumption | (rw [hA]; first | (show (_ : Int) ≠ _; decide) | (show (0 : Int) ≤ _; decide) | (show (0 : Int) ≤ _ ∧ _ < (256 : Int); decide))) ?_
                        | (refine F.hold hA 2000 ?_; cbv))
                      refine F.call [0] (ih _ _ _ _ _ _ _ (szR hN ht.sp.ma ht.sp.mb) (symP_to (half2_P ht.sp hL (ltT hA ht.ei ht.ee x1) (ltT hA ht.ee ht.eb x2)) ht.ei ht.ee ht.eb)) rfl rfl rfl fun rs H' hq => ?_
                      obtain ⟨ys3, rfl, rfl, hy3⟩ := hq
                      refine ⟨rfl, ?_⟩
                      repeat (first
                        | refine OK.drawn (by decide +kernel) ?_
                        | refine OK.tree ⟨lookT tis, fun _ => true, []⟩ (by decide +kernel) ?_
                        | refine OK.need (by first | assumption | (rw [hA]; first | (show (_ : Int) ≠ _; decide) | (show (0 : Int) ≤ _; decide) | (show (0 : Int) ≤ _ ∧ _ < (256 : Int); decide))) ?_
                        | (refine F.hold hA 2000 ?_; cbv))
                      exact F.ret0 ⟨_, rfl, rfl, half2_done ht.sp hL hy3⟩
                    · repeat (first
                        | refine OK.drawn (by decide +kernel) ?_
                        | refine OK.tree ⟨lookT tis, fun _ => true, []⟩ (by decide +kernel) ?_
                        | refine OK.need (by first | assumption | (rw [hA]; first | (show (_ : Int) ≠ _; decide) | (show (0 : Int) ≤ _; decide) | (show (0 : Int) ≤ _ ∧ _ < (256 : Int); decide))) ?_
                        | (refine F.hold hA 2000 ?_; cbv))
                      exact F.ret0 ⟨_, rfl, rfl, half2_stay ht.sp hL fun h => ltF hA ht.ee ht.eb x2 h.2⟩
                  · repeat (first
                      | refine OK.drawn (by decide +kernel) ?_
                      | refine OK.tree ⟨lookT tis, fun _ => true, []⟩ (by decide +kernel) ?_
                      | refine OK.need (by first | assumption | (rw [hA]; first | (show (_ : Int) ≠ _; decide) | (show (0 : Int) ≤ _; decide) | (show (0 : Int) ≤ _ ∧ _ < (256 : Int); decide))) ?_
                      | (refine F.hold hA 2000 ?_; cbv))
                    exact F.ret0 ⟨_, rfl, rfl, half2_stay ht.sp hL fun h => ltF hA ht.ei ht.ee x1 h.1⟩
                · have hL := half1_stay ht.sp hR fun h => ltF hA ht.eu ht.ei x2 h.2
                  repeat (first
                    | refine OK.drawn (by decide +kernel) ?_
                    | refine OK.tree ⟨lookT tis, fun _ => true, []⟩ (by decide +kernel) ?_
                    | refine OK.need (by first | assumption | (rw [hA]; first | (show (_ : Int) ≠ _; decide) | (show (0 : Int) ≤ _; decide) | (show (0 : Int) ≤ _ ∧ _ < (256 : Int); decide))) ?_
                    | (refine F.hold hA 2000 ?_; cbv))
                  refine OK.branch (fun x1 => ?_) (fun x1 => ?_)
                  · repeat (first
                      | refine OK.drawn (by decide +kernel) ?_
                      | refine OK.tree ⟨lookT tis, fun _ => true, []⟩ (by decide +kernel) ?_
                      | refine OK.need (by first | assumption | (rw [hA]; first | (show (_ : Int) ≠ _; decide) | (show (0 : Int) ≤ _; decide) | (show (0 : Int) ≤ _ ∧ _ < (256 : Int); decide))) ?_
                      | (refine F.hold hA 2000 ?_; cbv))
                    refine OK.branch (fun x2 => ?_) (fun x2 => ?_)
                    · repeat (first
                        | refine OK.drawn (by decide +kernel) ?_
                        | refine OK.tree ⟨lookT tis, fun _ => true, []⟩ (by decide +kernel) ?_
                        | refine OK.need (by first | assumption | (rw [hA]; first | (show (_ : Int) ≠ _; decide) | (show (0 : Int) ≤ _; decide) | (show (0 : Int) ≤ _ ∧ _ < (256 : Int); decide))) ?_
                        | (refine F.hold hA 2000 ?_; cbv))
                      refine F.call [0] (ih _ _ _ _ _ _ _ (szR hN ht.sp.ma ht.sp.mb) (symP_to (half2_P ht.sp hL (ltT hA ht.ei ht.ee x1) (ltT hA ht.ee ht.eb x2)) ht.ei ht.ee ht.eb)) rfl rfl rfl fun rs H' hq => ?_
                      obtain ⟨ys3, rfl, rfl, hy3⟩ := hq
                      refine ⟨rfl, ?_⟩
                      repeat (first
                        | refine OK.drawn (by decide +kernel) ?_
                        | refine OK.tree ⟨lookT tis, fun _ => true, []⟩ (by decide +kernel) ?_
                        | refine OK.need (by first | assumption | (rw [hA]; first | (show (_ : Int) ≠ _; decide) | (show (0 : Int) ≤ _; decide) | (show (0 : Int) ≤ _ ∧ _ < (256 : Int); decide))) ?_
                        | (refine F.hold hA 2000 ?_; cbv))
                      exact F.ret0 ⟨_, rfl, rfl, half2_done ht.sp hL hy3⟩
                    · repeat (first
                        | refine OK.drawn (by decide +kernel) ?_
                        | refine OK.tree ⟨lookT tis, fun _ => true, []⟩ (by decide +kernel) ?_
                        | refine OK.need (by first | assumption | (rw [hA]; first | (show (_ : Int) ≠ _; decide) | (show (0 : Int) ≤ _; decide) | (show (0 : Int) ≤ _ ∧ _ < (256 : Int); decide))) ?_
                        | (refine F.hold hA 2000 ?_; cbv))
                      exact F.ret0 ⟨_, rfl, rfl, half2_stay ht.sp hL fun h => ltF hA ht.ee ht.eb x2 h.2⟩
                  · repeat (first
                      | refine OK.drawn (by decide +kernel) ?_
                      | refine OK.tree ⟨lookT tis, fun _ => true, []⟩ (by decide +kernel) ?_
                      | refine OK.need (by first | assumption | (rw [hA]; first | (show (_ : Int) ≠ _; decide) | (show (0 : Int) ≤ _; decide) | (show (0 : Int) ≤ _ ∧ _ < (256 : Int); decide))) ?_
                      | (refine F.hold hA 2000 ?_; cbv))
                    exact F.ret0 ⟨_, rfl, rfl, half2_stay ht.sp hL fun h => ltF hA ht.ei ht.ee x1 h.1⟩
              · have hL := half1_stay ht.sp hR fun h => ltF hA ht.ea ht.eu x1 h.1
                repeat (first
                  | refine OK.drawn (by decide +kernel) ?_
                  | refine OK.tree ⟨lookT tis, fun _ => true, []⟩ (by decide +kernel) ?_
                  | refine OK.need (by first | assumption | (rw [hA]; first | (show (_ : Int) ≠ _; decide) | (show (0 : Int) ≤ _; decide) | (show (0 : Int) ≤ _ ∧ _ < (256 : Int); decide))) ?_
                  | (refine F.hold hA 2000 ?_; cbv))
                refine OK.branch (fun x1 => ?_) (fun x1 => ?_)
                · repeat (first
                    | refine OK.drawn (by decide +kernel) ?_
                    | refine OK.tree ⟨lookT tis, fun _ => true, []⟩ (by decide +kernel) ?_
                    | refine OK.need (by first | assumption | (rw [hA]; first | (show (_ : Int) ≠ _; decide) | (show (0 : Int) ≤ _; decide) | (show (0 : Int) ≤ _ ∧ _ < (256 : Int); decide))) ?_
                    | (refine F.hold hA 2000 ?_; cbv))
                  refine OK.branch (fun x2 => ?_) (fun x2 => ?_)
                  · repeat (first
                      | refine OK.drawn (by decide +kernel) ?_
                      | refine OK.tree ⟨lookT tis, fun _ => true, []⟩ (by decide +kernel) ?_
                      | refine OK.need (by first | assumption | (rw [hA]; first | (show (_ : Int) ≠ _; decide) | (show (0 : Int) ≤ _; decide) | (show (0 : Int) ≤ _ ∧ _ < (256 : Int); decide))) ?_
                      | (refine F.hold hA 2000 ?_; cbv))
                    refine F.call [0] (ih _ _ _ _ _ _ _ (szR hN ht.sp.ma ht.sp.mb) (symP_to (half2_P ht.sp hL (ltT hA ht.ei ht.ee x1) (ltT hA ht.ee ht.eb x2)) ht.ei ht.ee ht.eb)) rfl rfl rfl fun rs H' hq => ?_
                    obtain ⟨ys3, rfl, rfl, hy3⟩ := hq
                    refine ⟨rfl, ?_⟩
                    repeat (first
                      | refine OK.drawn (by decide +kernel) ?_
                      | refine OK.tree ⟨lookT tis, fun _ => true, []⟩ (by decide +kernel) ?_
                      | refine OK.need (by first | assumption | (rw [hA]; first | (show (_ : Int) ≠ _; decide) | (show (0 : Int) ≤ _; decide) | (show (0 : Int) ≤ _ ∧ _ < (256 : Int); decide))) ?_
                      | (refine F.hold hA 2000 ?_; cbv))
                    exact F.ret0 ⟨_, rfl, rfl, half2_done ht.sp hL hy3⟩
                  · repeat (first
                      | refine OK.drawn (by decide +kernel) ?_
                      | refine OK.tree ⟨lookT tis, fun _ => true, []⟩ (by decide +kernel) ?_
                      | refine OK.need (by first | assumption | (rw [hA]; first | (show (_ : Int) ≠ _; decide) | (show (0 : Int) ≤ _; decide) | (show (0 : Int) ≤ _ ∧ _ < (256 : Int); decide))) ?_
                      | (refine F.hold hA 2000 ?_; cbv))
                    exact F.ret0 ⟨_, rfl, rfl, half2_stay ht.sp hL fun h => ltF hA ht.ee ht.eb x2 h.2⟩
                · repeat (first
                    | refine OK.drawn (by decide +kernel) ?_
                    | refine OK.tree ⟨lookT tis, fun _ => true, []⟩ (by decide +kernel) ?_
                    | refine OK.need (by first | assumption | (rw [hA]; first | (show (_ : Int) ≠ _; decide) | (show (0 : Int) ≤ _; decide) | (show (0 : Int) ≤ _ ∧ _ < (256 : Int); decide))) ?_
                    | (refine F.hold hA 2000 ?_; cbv))
                  exact F.ret0 ⟨_, rfl, rfl, half2_stay ht.sp hL fun h => ltF hA ht.ei ht.ee x1 h.1⟩
            · have hR := mid_stay ht.sp.toSp fun h => ltF hA ht.em ht.ee x2 h.2
              repeat (first
                | refine OK.drawn (by decide +kernel) ?_
                | refine OK.tree ⟨lookT tis, fun _ => true, []⟩ (by decide +kernel) ?_
                | refine OK.need (by first | assumption | (rw [hA]; first | (show (_ : Int) ≠ _; decide) | (show (0 : Int) ≤ _; decide) | (show (0 : Int) ≤ _ ∧ _ < (256 : Int); decide))) ?_
                | (refine F.hold hA 2000 ?_; cbv))
              refine OK.branch (fun x1 => ?_) (fun x1 => ?_)
              · repeat (first
                  | refine OK.drawn (by decide +kernel) ?_
                  | refine OK.tree ⟨lookT tis, fun _ => true, []⟩ (by decide +kernel) ?_
                  | refine OK.need (by first | assumption | (rw [hA]; first | (show (_ : Int) ≠ _; decide) | (show (0 : Int) ≤ _; decide) | (show (0 : Int) ≤ _ ∧ _ < (256 : Int); decide))) ?_
                  | (refine F.hold hA 2000 ?_; cbv))
                refine OK.branch (fun x2 => ?_) (fun x2 => ?_)
                · repeat (first
                    | refine OK.drawn (by decide +kernel) ?_
                    | refine OK.tree ⟨lookT tis, fun _ => true, []⟩ (by decide +kernel) ?_
                    | refine OK.need (by first | assumption | (rw [hA]; first | (show (_ : Int) ≠ _; decide) | (show (0 : Int) ≤ _; decide) | (show (0 : Int) ≤ _ ∧ _ < (256 : Int); decide))) ?_
                    | (refine F.hold hA 2000 ?_; cbv))
                  refine F.call [0] (ih _ _ _ _ _ _ _ (szL hN ht.sp.ma ht.sp.mb) (symP_to (half1_P ht.sp hR (ltT hA ht.ea ht.eu x1) (ltT hA ht.eu ht.ei x2)) ht.ea ht.eu ht.ei)) rfl rfl rfl fun rs H' hq => ?_
                  obtain ⟨ys2, rfl, rfl, hy2⟩ := hq
                  refine ⟨rfl, ?_⟩
                  have hL := half1_done ht.sp hR hy2
                  repeat (first
                    | refine OK.drawn (by decide +kernel) ?_
                    | refine OK.tree ⟨lookT tis, fun _ => true, []⟩ (by decide +kernel) ?_
                    | refine OK.need (by first | assumption | (rw [hA]; first | (show (_ : Int) ≠ _; decide) | (show (0 : Int) ≤ _; decide) | (show (0 : Int) ≤ _ ∧ _ < (256 : Int); decide))) ?_
                    | (refine F.hold hA 2000 ?_; cbv))
                  refine OK.branch (fun x1 => ?_) (fun x1 => ?_)
                  · repeat (first
                      | refine OK.drawn (by decide +kernel) ?_
                      | refine OK.tree ⟨lookT tis, fun _ => true, []⟩ (by decide +kernel) ?_
                      | refine OK.need (by first | assumption | (rw [hA]; first | (show (_ : Int) ≠ _; decide) | (show (0 : Int) ≤ _; decide) | (show (0 : Int) ≤ _ ∧ _ < (256 : Int); decide))) ?_
                      | (refine F.hold hA 2000 ?_; cbv))
                    refine OK.branch (fun x2 => ?_) (fun x2 => ?_)
                    · repeat (first
                        | refine OK.drawn (by decide +kernel) ?_
                        | refine OK.tree ⟨lookT tis, fun _ => true, []⟩ (by decide +kernel) ?_
                        | refine OK.need (by first | assumption | (rw [hA]; first | (show (_ : Int) ≠ _; decide) | (show (0 : Int) ≤ _; decide) | (show (0 : Int) ≤ _ ∧ _ < (256 : Int); decide))) ?_
                        | (refine F.hold hA 2000 ?_; cbv))
                      refine F.call [0] (ih _ _ _ _ _ _ _ (szR hN ht.sp.ma ht.sp.mb) (symP_to (half2_P ht.sp hL (ltT hA ht.ei ht.ee x1) (ltT hA ht.ee ht.eb x2)) ht.ei ht.ee ht.eb)) rfl rfl rfl fun rs H' hq => ?_
                      obtain ⟨ys3, rfl, rfl, hy3⟩ := hq
                      refine ⟨rfl, ?_⟩
                      repeat (first
                        | refine OK.drawn (by decide +kernel) ?_
                        | refine OK.tree ⟨lookT tis, fun _ => true, []⟩ (by decide +kernel) ?_
                        | refine OK.need (by first | assumption | (rw [hA]; first | (show (_ : Int) ≠ _; decide) | (show (0 : Int) ≤ _; decide) | (show (0 : Int) ≤ _ ∧ _ < (256 : Int); decide))) ?_
                        | (refine F.hold hA 2000 ?_; cbv))
                      exact F.ret0 ⟨_, rfl, rfl, half2_done ht.sp hL hy3⟩
                    · repeat (first
                        | refine OK.drawn (by decide +kernel) ?_
                        | refine OK.tree ⟨lookT tis, fun _ => true, []⟩ (by decide +kernel) ?_
                        | refine OK.need (by first | assumption | (rw [hA]; first | (show (_ : Int) ≠ _; decide) | (show (0 : Int) ≤ _; decide) | (show (0 : Int) ≤ _ ∧ _ < (256 : Int); decide))) ?_
                        | (refine F.hold hA 2000 ?_; cbv))
                      exact F.ret0 ⟨_, rfl, rfl, half2_stay ht.sp hL fun h => ltF hA ht.ee ht.eb x2 h.2⟩
                  · repeat (first
                      | refine OK.drawn (by decide +kernel) ?_
                      | refine OK.tree ⟨lookT tis, fun _ => true, []⟩ (by decide +kernel) ?_
                      | refine OK.need (by first | assumption | (rw [hA]; first | (show (_ : Int) ≠ _; decide) | (show (0 : Int) ≤ _; decide) | (show (0 : Int) ≤ _ ∧ _ < (256 : Int); decide))) ?_
                      | (refine F.hold hA 2000 ?_; cbv))
                    exact F.ret0 ⟨_, rfl, rfl, half2_stay ht.sp hL fun h => ltF hA ht.ei ht.ee x1 h.1⟩
                · have hL := half1_stay ht.sp hR fun h => ltF hA ht.eu ht.ei x2 h.2
                  repeat (first
                    | refine OK.drawn (by decide +kernel) ?_
                    | refine OK.tree ⟨lookT tis, fun _ => true, []⟩ (by decide +kernel) ?_
                    | refine OK.need (by first | assumption | (rw [hA]; first | (show (_ : Int) ≠ _; decide) | (show (0 : Int) ≤ _; decide) | (show (0 : Int) ≤ _ ∧ _ < (256 : Int); decide))) ?_
                    | (refine F.hold hA 2000 ?_; cbv))
                  refine OK.branch (fun x1 => ?_) (fun x1 => ?_)
                  · repeat (first
                      | refine OK.drawn (by decide +kernel) ?_
                      | refine OK.tree ⟨lookT tis, fun _ => true, []⟩ (by decide +kernel) ?_
                      | refine OK.need (by first | assumption | (rw [hA]; first | (show (_ : Int) ≠ _; decide) | (show (0 : Int) ≤ _; decide) | (show (0 : Int) ≤ _ ∧ _ < (256 : Int); decide))) ?_
                      | (refine F.hold hA 2000 ?_; cbv))
                    refine OK.branch (fun x2 => ?_) (fun x2 => ?_)
                    · repeat (first
                        | refine OK.drawn (by decide +kernel) ?_
                        | refine OK.tree ⟨lookT tis, fun _ => true, []⟩ (by decide +kernel) ?_
                        | refine OK.need (by first | assumption | (rw [hA]; first | (show (_ : Int) ≠ _; decide) | (show (0 : Int) ≤ _; decide) | (show (0 : Int) ≤ _ ∧ _ < (256 : Int); decide))) ?_
                        | (refine F.hold hA 2000 ?_; cbv))
                      refine F.call [0] (ih _ _ _ _ _ _ _ (szR hN ht.sp.ma ht.sp.mb) (symP_to (half2_P ht.sp hL (ltT hA ht.ei ht.ee x1) (ltT hA ht.ee ht.eb x2)) ht.ei ht.ee ht.eb)) rfl rfl rfl fun rs H' hq => ?_
                      obtain ⟨ys3, rfl, rfl, hy3⟩ := hq
                      refine ⟨rfl, ?_⟩
                      repeat (first
                        | refine OK.drawn (by decide +kernel) ?_
                        | refine OK.tree ⟨lookT tis, fun _ => true, []⟩ (by decide +kernel) ?_
                        | refine OK.need (by first | assumption | (rw [hA]; first | (show (_ : Int) ≠ _; decide) | (show (0 : Int) ≤ _; decide) | (show (0 : Int) ≤ _ ∧ _ < (256 : Int); decide))) ?_
                        | (refine F.hold hA 2000 ?_; cbv))
                      exact F.ret0 ⟨_, rfl, rfl, half2_done ht.sp hL hy3⟩
                    · repeat (first
                        | refine OK.drawn (by decide +kernel) ?_
                        | refine OK.tree ⟨lookT tis, fun _ => true, []⟩ (by decide +kernel) ?_
                        | refine OK.need (by first | assumption | (rw [hA]; first | (show (_ : Int) ≠ _; decide) | (show (0 : Int) ≤ _; decide) | (show (0 : Int) ≤ _ ∧ _ < (256 : Int); decide))) ?_
                        | (refine F.hold hA 2000 ?_; cbv))
                      exact F.ret0 ⟨_, rfl, rfl, half2_stay ht.sp hL fun h => ltF hA ht.ee ht.eb x2 h.2⟩
                  · repeat (first
                      | refine OK.drawn (by decide +kernel) ?_
                      | refine OK.tree ⟨lookT tis, fun _ => true, []⟩ (by decide +kernel) ?_
                      | refine OK.need (by first | assumption | (rw [hA]; first | (show (_ : Int) ≠ _; decide) | (show (0 : Int) ≤ _; decide) | (show (0 : Int) ≤ _ ∧ _ < (256 : Int); decide))) ?_
                      | (refine F.hold hA 2000 ?_; cbv))
                    exact F.ret0 ⟨_, rfl, rfl, half2_stay ht.sp hL fun h => ltF hA ht.ei ht.ee x1 h.1⟩
              · have hL := half1_stay ht.sp hR fun h => ltF hA ht.ea ht.eu x1 h.1
                repeat (first
                  | refine OK.drawn (by decide +kernel) ?_
                  | refine OK.tree ⟨lookT tis, fun _ => true, []⟩ (by decide +kernel) ?_
                  | refine OK.need (by first | assumption | (rw [hA]; first | (show (_ : Int) ≠ _; decide) | (show (0 : Int) ≤ _; decide) | (show (0 : Int) ≤ _ ∧ _ < (256 : Int); decide))) ?_
                  | (refine F.hold hA 2000 ?_; cbv))
                refine OK.branch (fun x1 => ?_) (fun x1 => ?_)
                · repeat (first
                    | refine OK.drawn (by decide +kernel) ?_
                    | refine OK.tree ⟨lookT tis, fun _ => true, []⟩ (by decide +kernel) ?_
                    | refine OK.need (by first | assumption | (rw [hA]; first | (show (_ : Int) ≠ _; decide) | (show (0 : Int) ≤ _; decide) | (show (0 : Int) ≤ _ ∧ _ < (256 : Int); decide))) ?_
                    | (refine F.hold hA 2000 ?_; cbv))
                  refine OK.branch (fun x2 => ?_) (fun x2 => ?_)
                  · repeat (first
                      | refine OK.drawn (by decide +kernel) ?_
                      | refine OK.tree ⟨lookT tis, fun _ => true, []⟩ (by decide +kernel) ?_
                      | refine OK.need (by first | assumption | (rw [hA]; first | (show (_ : Int) ≠ _; decide) | (show (0 : Int) ≤ _; decide) | (show (0 : Int) ≤ _ ∧ _ < (256 : Int); decide))) ?_
                      | (refine F.hold hA 2000 ?_; cbv))
                    refine F.call [0] (ih _ _ _ _ _ _ _ (szR hN ht.sp.ma ht.sp.mb) (symP_to (half2_P ht.sp hL (ltT hA ht.ei ht.ee x1) (ltT hA ht.ee ht.eb x2)) ht.ei ht.ee ht.eb)) rfl rfl rfl fun rs H' hq => ?_
                    obtain ⟨ys3, rfl, rfl, hy3⟩ := hq
                    refine ⟨rfl, ?_⟩
                    repeat (first
                      | refine OK.drawn (by decide +kernel) ?_
                      | refine OK.tree ⟨lookT tis, fun _ => true, []⟩ (by decide +kernel) ?_
                      | refine OK.need (by first | assumption | (rw [hA]; first | (show (_ : Int) ≠ _; decide) | (show (0 : Int) ≤ _; decide) | (show (0 : Int) ≤ _ ∧ _ < (256 : Int); decide))) ?_
                      | (refine F.hold hA 2000 ?_; cbv))
                    exact F.ret0 ⟨_, rfl, rfl, half2_done ht.sp hL hy3⟩
                  · repeat (first
                      | refine OK.drawn (by decide +kernel) ?_
                      | refine OK.tree ⟨lookT tis, fun _ => true, []⟩ (by decide +kernel) ?_
                      | refine OK.need (by first | assumption | (rw [hA]; first | (show (_ : Int) ≠ _; decide) | (show (0 : Int) ≤ _; decide) | (show (0 : Int) ≤ _ ∧ _ < (256 : Int); decide))) ?_
                      | (refine F.hold hA 2000 ?_; cbv))
                    exact F.ret0 ⟨_, rfl, rfl, half2_stay ht.sp hL fun h => ltF hA ht.ee ht.eb x2 h.2⟩
                · repeat (first
                    | refine OK.drawn (by decide +kernel) ?_
                    | refine OK.tree ⟨lookT tis, fun _ => true, []⟩ (by decide +kernel) ?_
                    | refine OK.need (by first | assumption | (rw [hA]; first | (show (_ : Int) ≠ _; decide) | (show (0 : Int) ≤ _; decide) | (show (0 : Int) ≤ _ ∧ _ < (256 : Int); decide))) ?_
                    | (refine F.hold hA 2000 ?_; cbv))
                  exact F.ret0 ⟨_, rfl, rfl, half2_stay ht.sp hL fun h => ltF hA ht.ei ht.ee x1 h.1⟩
          · have hR := mid_stay ht.sp.toSp fun h => ltF hA ht.eu ht.em x1 h.1
            repeat (first
              | refine OK.drawn (by decide +kernel) ?_
              | refine OK.tree ⟨lookT tis, fun _ => true, []⟩ (by decide +kernel) ?_
              | refine OK.need (by first | assumption | (rw [hA]; first | (show (_ : Int) ≠ _; decide) | (show (0 : Int) ≤ _; decide) | (show (0 : Int) ≤ _ ∧ _ < (256 : Int); decide))) ?_
              | (refine F.hold hA 2000 ?_; cbv))
            refine OK.branch (fun x1 => ?_) (fun x1 => ?_)
            · repeat (first
                | refine OK.drawn (by decide +kernel) ?_
                | refine OK.tree ⟨lookT tis, fun _ => true, []⟩ (by decide +kernel) ?_
                | refine OK.need (by first | assumption | (rw [hA]; first | (show (_ : Int) ≠ _; decide) | (show (0 : Int) ≤ _; decide) | (show (0 : Int) ≤ _ ∧ _ < (256 : Int); decide))) ?_
                | (refine F.hold hA 2000 ?_; cbv))
              refine OK.branch (fun x2 => ?_) (fun x2 => ?_)
              · repeat (first
                  | refine OK.drawn (by decide +kernel) ?_
                  | refine OK.tree ⟨lookT tis, fun _ => true, []⟩ (by decide +kernel) ?_
                  | refine OK.need (by first | assumption | (rw [hA]; first | (show (_ : Int) ≠ _; decide) | (show (0 : Int) ≤ _; decide) | (show (0 : Int) ≤ _ ∧ _ < (256 : Int); decide))) ?_
                  | (refine F.hold hA 2000 ?_; cbv))
                refine F.call [0] (ih _ _ _ _ _ _ _ (szL hN ht.sp.ma ht.sp.mb) (symP_to (half1_P ht.sp hR (ltT hA ht.ea ht.eu x1) (ltT hA ht.eu ht.ei x2)) ht.ea ht.eu ht.ei)) rfl rfl rfl fun rs H' hq => ?_
                obtain ⟨ys2, rfl, rfl, hy2⟩ := hq
                refine ⟨rfl, ?_⟩
                have hL := half1_done ht.sp hR hy2
                repeat (first
                  | refine OK.drawn (by decide +kernel) ?_
                  | refine OK.tree ⟨lookT tis, fun _ => true, []⟩ (by decide +kernel) ?_
                  | refine OK.need (by first | assumption | (rw [hA]; first | (show (_ : Int) ≠ _; decide) | (show (0 : Int) ≤ _; decide) | (show (0 : Int) ≤ _ ∧ _ < (256 : Int); decide))) ?_
                  | (refine F.hold hA 2000 ?_; cbv))
                refine OK.branch (fun x1 => ?_) (fun x1 => ?_)
                · repeat (first
                    | refine OK.drawn (by decide +kernel) ?_
                    | refine OK.tree ⟨lookT tis, fun _ => true, []⟩ (by decide +kernel) ?_
                    | refine OK.need (by first | assumption | (rw [hA]; first | (show (_ : Int) ≠ _; decide) | (show (0 : Int) ≤ _; decide) | (show (0 : Int) ≤ _ ∧ _ < (256 : Int); decide))) ?_
                    | (refine F.hold hA 2000 ?_; cbv))
                  refine OK.branch (fun x2 => ?_) (fun x2 => ?_)
                  · repeat (first
                      | refine OK.drawn (by decide +kernel) ?_
                      | refine OK.tree ⟨lookT tis, fun _ => true, []⟩ (by decide +kernel) ?_
                      | refine OK.need (by first | assumption | (rw [hA]; first | (show (_ : Int) ≠ _; decide) | (show (0 : Int) ≤ _; decide) | (show (0 : Int) ≤ _ ∧ _ < (256 : Int); decide))) ?_
                      | (refine F.hold hA 2000 ?_; cbv))
                    refine F.call [0] (ih _ _ _ _ _ _ _ (szR hN ht.sp.ma ht.sp.mb) (symP_to (half2_P ht.sp hL (ltT hA ht.ei ht.ee x1) (ltT hA ht.ee ht.eb x2)) ht.ei ht.ee ht.eb)) rfl rfl rfl fun rs H' hq => ?_
                    obtain ⟨ys3, rfl, rfl, hy3⟩ := hq
                    refine ⟨rfl, ?_⟩
                    repeat (first
                      | refine OK.drawn (by decide +kernel) ?_
                      | refine OK.tree ⟨lookT tis, fun _ => true, []⟩ (by decide +kernel) ?_
                      | refine OK.need (by first | assumption | (rw [hA]; first | (show (_ : Int) ≠ _; decide) | (show (0 : Int) ≤ _; decide) | (show (0 : Int) ≤ _ ∧ _ < (256 : Int); decide))) ?_
                      | (refine F.hold hA 2000 ?_; cbv))
                    exact F.ret0 ⟨_, rfl, rfl, half2_done ht.sp hL hy3⟩
                  · repeat (first
                      | refine OK.drawn (by decide +kernel) ?_
                      | refine OK.tree ⟨lookT tis, fun _ => true, []⟩ (by decide +kernel) ?_
                      | refine OK.need (by first | assumption | (rw [hA]; first | (show (_ : Int) ≠ _; decide) | (show (0 : Int) ≤ _; decide) | (show (0 : Int) ≤ _ ∧ _ < (256 : Int); decide))) ?_
                      | (refine F.hold hA 2000 ?_; cbv))
                    exact F.ret0 ⟨_, rfl, rfl, half2_stay ht.sp hL fun h => ltF hA ht.ee ht.eb x2 h.2⟩
                · repeat (first
                    | refine OK.drawn (by decide +kernel) ?_
                    | refine OK.tree ⟨lookT tis, fun _ => true, []⟩ (by decide +kernel) ?_
                    | refine OK.need (by first | assumption | (rw [hA]; first | (show (_ : Int) ≠ _; decide) | (show (0 : Int) ≤ _; decide) | (show (0 : Int) ≤ _ ∧ _ < (256 : Int); decide))) ?_
                    | (refine F.hold hA 2000 ?_; cbv))
                  exact F.ret0 ⟨_, rfl, rfl, half2_stay ht.sp hL fun h => ltF hA ht.ei ht.ee x1 h.1⟩
              · have hL := half1_stay ht.sp hR fun h => ltF hA ht.eu ht.ei x2 h.2
                repeat (first
                  | refine OK.drawn (by decide +kernel) ?_
                  | refine OK.tree ⟨lookT tis, fun _ => true, []⟩ (by decide +kernel) ?_
                  | refine OK.need (by first | assumption | (rw [hA]; first | (show (_ : Int) ≠ _; decide) | (show (0 : Int) ≤ _; decide) | (show (0 : Int) ≤ _ ∧ _ < (256 : Int); decide))) ?_
                  | (refine F.hold hA 2000 ?_; cbv))
                refine OK.branch (fun x1 => ?_) (fun x1 => ?_)
                · repeat (first
                    | refine OK.drawn (by decide +kernel) ?_
                    | refine OK.tree ⟨lookT tis, fun _ => true, []⟩ (by decide +kernel) ?_
                    | refine OK.need (by first | assumption | (rw [hA]; first | (show (_ : Int) ≠ _; decide) | (show (0 : Int) ≤ _; decide) | (show (0 : Int) ≤ _ ∧ _ < (256 : Int); decide))) ?_
                    | (refine F.hold hA 2000 ?_; cbv))
                  refine OK.branch (fun x2 => ?_) (fun x2 => ?_)
                  · repeat (first
                      | refine OK.drawn (by decide +kernel) ?_
                      | refine OK.tree ⟨lookT tis, fun _ => true, []⟩ (by decide +kernel) ?_
                      | refine OK.need (by first | assumption | (rw [hA]; first | (show (_ : Int) ≠ _; decide) | (show (0 : Int) ≤ _; decide) | (show (0 : Int) ≤ _ ∧ _ < (256 : Int); decide))) ?_
                      | (refine F.hold hA 2000 ?_; cbv))
                    refine F.call [0] (ih _ _ _ _ _ _ _ (szR hN ht.sp.ma ht.sp.mb) (symP_to (half2_P ht.sp hL (ltT hA ht.ei ht.ee x1) (ltT hA ht.ee ht.eb x2)) ht.ei ht.ee ht.eb)) rfl rfl rfl fun rs H' hq => ?_
                    obtain ⟨ys3, rfl, rfl, hy3⟩ := hq
                    refine ⟨rfl, ?_⟩
                    repeat (first
                      | refine OK.drawn (by decide +kernel) ?_
                      | refine OK.tree ⟨lookT tis, fun _ => true, []⟩ (by decide +kernel) ?_
                      | refine OK.need (by first | assumption | (rw [hA]; first | (show (_ : Int) ≠ _; decide) | (show (0 : Int) ≤ _; decide) | (show (0 : Int) ≤ _ ∧ _ < (256 : Int); decide))) ?_
                      | (refine F.hold hA 2000 ?_; cbv))
                    exact F.ret0 ⟨_, rfl, rfl, half2_done ht.sp hL hy3⟩
                  · repeat (first
                      | refine OK.drawn (by decide +kernel) ?_
                      | refine OK.tree ⟨lookT tis, fun _ => true, []⟩ (by decide +kernel) ?_
                      | refine OK.need (by first | assumption | (rw [hA]; first | (show (_ : Int) ≠ _; decide) | (show (0 : Int) ≤ _; decide) | (show (0 : Int) ≤ _ ∧ _ < (256 : Int); decide))) ?_
                      | (refine F.hold hA 2000 ?_; cbv))
                    exact F.ret0 ⟨_, rfl, rfl, half2_stay ht.sp hL fun h => ltF hA ht.ee ht.eb x2 h.2⟩
                · repeat (first
                    | refine OK.drawn (by decide +kernel) ?_
                    | refine OK.tree ⟨lookT tis, fun _ => true, []⟩ (by decide +kernel) ?_
                    | refine OK.need (by first | assumption | (rw [hA]; first | (show (_ : Int) ≠ _; decide) | (show (0 : Int) ≤ _; decide) | (show (0 : Int) ≤ _ ∧ _ < (256 : Int); decide))) ?_
                    | (refine F.hold hA 2000 ?_; cbv))
                  exact F.ret0 ⟨_, rfl, rfl, half2_stay ht.sp hL fun h => ltF hA ht.ei ht.ee x1 h.1⟩
            · have hL := half1_stay ht.sp hR fun h => ltF hA ht.ea ht.eu x1 h.1
              repeat (first
                | refine OK.drawn (by decide +kernel) ?_
                | refine OK.tree ⟨lookT tis, fun _ => true, []⟩ (by decide +kernel) ?_
                | refine OK.need (by first | assumption | (rw [hA]; first | (show (_ : Int) ≠ _; decide) | (show (0 : Int) ≤ _; decide) | (show (0 : Int) ≤ _ ∧ _ < (256 : Int); decide))) ?_
                | (refine F.hold hA 2000 ?_; cbv))
              refine OK.branch (fun x1 => ?_) (fun x1 => ?_)
              · repeat (first
                  | refine OK.drawn (by decide +kernel) ?_
                  | refine OK.tree ⟨lookT tis, fun _ => true, []⟩ (by decide +kernel) ?_
                  | refine OK.need (by first | assumption | (rw [hA]; first | (show (_ : Int) ≠ _; decide) | (show (0 : Int) ≤ _; decide) | (show (0 : Int) ≤ _ ∧ _ < (256 : Int); decide))) ?_
                  | (refine F.hold hA 2000 ?_; cbv))
                refine OK.branch (fun x2 => ?_) (fun x2 => ?_)
                · repeat (first
                    | refine OK.drawn (by decide +kernel) ?_
                    | refine OK.tree ⟨lookT tis, fun _ => true, []⟩ (by decide +kernel) ?_
                    | refine OK.need (by first | assumption | (rw [hA]; first | (show (_ : Int) ≠ _; decide) | (show (0 : Int) ≤ _; decide) | (show (0 : Int) ≤ _ ∧ _ < (256 : Int); decide))) ?_
                    | (refine F.hold hA 2000 ?_; cbv))
                  refine F.call [0] (ih _ _ _ _ _ _ _ (szR hN ht.sp.ma ht.sp.mb) (symP_to (half2_P ht.sp hL (ltT hA ht.ei ht.ee x1) (ltT hA ht.ee ht.eb x2)) ht.ei ht.ee ht.eb)) rfl rfl rfl fun rs H' hq => ?_
                  obtain ⟨ys3, rfl, rfl, hy3⟩ := hq
                  refine ⟨rfl, ?_⟩
                  repeat (first
                    | refine OK.drawn (by decide +kernel) ?_
                    | refine OK.tree ⟨lookT tis, fun _ => true, []⟩ (by decide +kernel) ?_
                    | refine OK.need (by first | assumption | (rw [hA]; first | (show (_ : Int) ≠ _; decide) | (show (0 : Int) ≤ _; decide) | (show (0 : Int) ≤ _ ∧ _ < (256 : Int); decide))) ?_
                    | (refine F.hold hA 2000 ?_; cbv))
                  exact F.ret0 ⟨_, rfl, rfl, half2_done ht.sp hL hy3⟩
                · repeat (first
                    | refine OK.drawn (by decide +kernel) ?_
                    | refine OK.tree ⟨lookT tis, fun _ => true, []⟩ (by decide +kernel) ?_
                    | refine OK.need (by first | assumption | (rw [hA]; first | (show (_ : Int) ≠ _; decide) | (show (0 : Int) ≤ _; decide) | (show (0 : Int) ≤ _ ∧ _ < (256 : Int); decide))) ?_
                    | (refine F.hold hA 2000 ?_; cbv))
                  exact F.ret0 ⟨_, rfl, rfl, half2_stay ht.sp hL fun h => ltF hA ht.ee ht.eb x2 h.2⟩
              · repeat (first
                  | refine OK.drawn (by decide +kernel) ?_
                  | refine OK.tree ⟨lookT tis, fun _ => true, []⟩ (by decide +kernel) ?_
                  | refine OK.need (by first | assumption | (rw [hA]; first | (show (_ : Int) ≠ _; decide) | (show (0 : Int) ≤ _; decide) | (show (0 : Int) ≤ _ ∧ _ < (256 : Int); decide))) ?_
                  | (refine F.hold hA 2000 ?_; cbv))
                exact F.ret0 ⟨_, rfl, rfl, half2_stay ht.sp hL fun h => ltF hA ht.ei ht.ee x1 h.1⟩
      · obtain ⟨mid, lo, hi, hg⟩ := go3b hA hp h1 h2 c3
        repeat (first
          | refine OK.drawn (by decide +kernel) ?_
          | refine OK.tree ⟨lookT tis, fun _ => true, []⟩ (by decide +kernel) ?_
          | refine OK.need (by first | assumption | (rw [hA]; first | (show (_ : Int) ≠ _; decide) | (show (0 : Int) ≤ _; decide) | (show (0 : Int) ≤ _ ∧ _ < (256 : Int); decide))) ?_
          | (refine F.hold hA 2000 ?_; cbv))
        refine F.loop (V := Int × Int) [0, 1, 2, 3, 4, 18, 19, 22] (BsI (TC xs (mid + m0 - 1)) lo hi) (fun w => (w.2 - w.1).toNat) (fun w => [(20, .int .i64 w.1), (21, .int .i64 w.2)]) (fun w => []) (_, _) (by cbv; repeat (first | exact WkH.nil _ | apply WkH.gone | refine WkH.eq rfl ?_)) (by cbv; repeat (first | apply WkL.any | exact WkL.nil _ | refine WkL.eq rfl ?_ | refine WkL.bool rfl ?_)) (by cbv; exact ⟨rfl⟩) ?_ ?_
        · exact hg.ini
        rintro ⟨i, j⟩ hI Bk hBk
        repeat (first
          | refine OK.drawn (by decide +kernel) ?_
          | refine OK.tree ⟨lookT tis, fun _ => true, []⟩ (by decide +kernel) ?_
          | refine OK.need (by first | assumption | (rw [hA]; first | (show (_ : Int) ≠ _; decide) | (show (0 : Int) ≤ _; decide) | (show (0 : Int) ≤ _ ∧ _ < (256 : Int); decide))) ?_
          | (refine F.hold hA 2000 ?_; cbv))
        refine OK.branch (fun c4 => ?_) (fun c4 => ?_)
        · have hs := stC_of hA hp hg hI c4
          have q1 := hs.q1
          have q2 := hs.q2
          repeat (first
            | refine OK.drawn (by decide +kernel) ?_
            | refine OK.tree ⟨lookT tis, fun _ => true, []⟩ (by decide +kernel) ?_
            | refine OK.need (by first | assumption | (rw [hA]; first | (show (_ : Int) ≠ _; decide) | (show (0 : Int) ≤ _; decide) | (show (0 : Int) ≤ _ ∧ _ < (256 : Int); decide))) ?_
            | (refine F.hold hA 2000 ?_; cbv))
          refine F.call [] (order_ok _ _ _ _ _ _) rfl rfl rfl fun rs H' hq => ?_
          obtain ⟨r, rfl, rfl, hr⟩ := hq
          refine ⟨rfl, ?_⟩
          repeat (first
            | refine OK.drawn (by decide +kernel) ?_
            | refine OK.tree ⟨lookT tis, fun _ => true, []⟩ (by decide +kernel) ?_
            | refine OK.need (by first | assumption | (rw [hA]; first | (show (_ : Int) ≠ _; decide) | (show (0 : Int) ≤ _; decide) | (show (0 : Int) ≤ _ ∧ _ < (256 : Int); decide))) ?_
            | (refine F.hold hA 2000 ?_; cbv))
          refine OK.branch (fun c5 => ?_) (fun c5 => ?_)
          · repeat (first
              | refine OK.drawn (by decide +kernel) ?_
              | refine OK.tree ⟨lookT tis, fun _ => true, []⟩ (by decide +kernel) ?_
              | refine OK.need (by first | assumption | (rw [hA]; first | (show (_ : Int) ≠ _; decide) | (show (0 : Int) ≤ _; decide) | (show (0 : Int) ≤ _ ∧ _ < (256 : Int); decide))) ?_
              | (refine F.hold hA 2000 ?_; cbv))
            refine OK.back (hBk _ _ (_, _) (by cbv; repeat (first | exact WkH.nil _ | apply WkH.gone | refine WkH.eq rfl ?_)) (by cbv; repeat (first | apply WkL.any | exact WkL.nil _ | refine WkL.eq rfl ?_ | refine WkL.bool rfl ?_)) (by cbv; exact ⟨rfl⟩) ?_ ?_)
            · exact hs.yes fun h => notF hA c5 (hr.lt.2 h)
            · exact hs.my
          · repeat (first
              | refine OK.drawn (by decide +kernel) ?_
              | refine OK.tree ⟨lookT tis, fun _ => true, []⟩ (by decide +kernel) ?_
              | refine OK.need (by first | assumption | (rw [hA]; first | (show (_ : Int) ≠ _; decide) | (show (0 : Int) ≤ _; decide) | (show (0 : Int) ≤ _ ∧ _ < (256 : Int); decide))) ?_
              | (refine F.hold hA 2000 ?_; cbv))
            refine OK.back (hBk _ _ (_, _) (by cbv; repeat (first | exact WkH.nil _ | apply WkH.gone | refine WkH.eq rfl ?_)) (by cbv; repeat (first | apply WkL.any | exact WkL.nil _ | refine WkL.eq rfl ?_ | refine WkL.bool rfl ?_)) (by cbv; exact ⟨rfl⟩) ?_ ?_)
            · exact hs.no (hr.lt.1 (notT hA c5))
            · exact hs.mn
        · obtain ⟨s, he⟩ := endS hA hI c4
          obtain ⟨e, ht⟩ := tailF hA hp hg he
          repeat (first
            | refine OK.drawn (by decide +kernel) ?_
            | refine OK.tree ⟨lookT tis, fun _ => true, []⟩ (by decide +kernel) ?_
            | refine OK.need (by first | assumption | (rw [hA]; first | (show (_ : Int) ≠ _; decide) | (show (0 : Int) ≤ _; decide) | (show (0 : Int) ≤ _ ∧ _ < (256 : Int); decide))) ?_
            | (refine F.hold hA 2000 ?_; cbv))
          refine OK.branch (fun x1 => ?_) (fun x1 => ?_)
          · repeat (first
              | refine OK.drawn (by decide +kernel) ?_
              | refine OK.tree ⟨lookT tis, fun _ => true, []⟩ (by decide +kernel) ?_
              | refine OK.need (by first | assumption | (rw [hA]; first | (show (_ : Int) ≠ _; decide) | (show (0 : Int) ≤ _; decide) | (show (0 : Int) ≤ _ ∧ _ < (256 : Int); decide))) ?_
              | (refine F.hold hA 2000 ?_; cbv))
            refine OK.branch (fun x2 => ?_) (fun x2 => ?_)
            · repeat (first
                | refine OK.drawn (by decide +kernel) ?_
                | refine OK.tree ⟨lookT tis, fun _ => true, []⟩ (by decide +kernel) ?_
                | refine OK.need (by first | assumption | (rw [hA]; first | (show (_ : Int) ≠ _; decide) | (show (0 : Int) ≤ _; decide) | (show (0 : Int) ≤ _ ∧ _ < (256 : Int); decide))) ?_
                | (refine F.hold hA 2000 ?_; cbv))
              refine F.call [0] (rotate_ok _ _ _ _ _ _ _ _ (split5 ht.sp.toSp) (ht.ro hA x1 x2)) rfl rfl rfl fun rs H' hq => ?_
              obtain ⟨ys1, rfl, rfl, hy1⟩ := hq
              refine ⟨rfl, ?_⟩
              have hR := mid_turn ht.sp.toSp hy1
              repeat (first
                | refine OK.drawn (by decide +kernel) ?_
                | refine OK.tree ⟨lookT tis, fun _ => true, []⟩ (by decide +kernel) ?_
                | refine OK.need (by first | assumption | (rw [hA]; first | (show (_ : Int) ≠ _; decide) | (show (0 : Int) ≤ _; decide) | (show (0 : Int) ≤ _ ∧ _ < (256 : Int); decide))) ?_
                | (refine F.hold hA 2000 ?_; cbv))
              refine OK.branch (fun x1 => ?_) (fun x1 => ?_)
              · repeat (first
                  | refine OK.drawn (by decide +kernel) ?_
                  | refine OK.tree ⟨lookT tis, fun _ => true, []⟩ (by decide +kernel) ?_
                  | refine OK.need (by first | assumption | (rw [hA]; first | (show (_ : Int) ≠ _; decide) | (show (0 : Int) ≤ _; decide) | (show (0 : Int) ≤ _ ∧ _ < (256 : Int); decide))) ?_
                  | (refine F.hold hA 2000 ?_; cbv))
                refine OK.branch (fun x2 => ?_) (fun x2 => ?_)
                · repeat (first
                    | refine OK.drawn (by decide +kernel) ?_
                    | refine OK.tree ⟨lookT tis, fun _ => true, []⟩ (by decide +kernel) ?_
                    | refine OK.need (by first | assumption | (rw [hA]; first | (show (_ : Int) ≠ _; decide) | (show (0 : Int) ≤ _; decide) | (show (0 : Int) ≤ _ ∧ _ < (256 : Int); decide))) ?_
                    | (refine F.hold hA 2000 ?_; cbv))
                  refine F.call [0] (ih _ _ _ _ _ _ _ (szL hN ht.sp.ma ht.sp.mb) (symP_to (half1_P ht.sp hR (ltT hA ht.ea ht.eu x1) (ltT hA ht.eu ht.ei x2)) ht.ea ht.eu ht.ei)) rfl rfl rfl fun rs H' hq => ?_
                  obtain ⟨ys2, rfl, rfl, hy2⟩ := hq
                  refine ⟨rfl, ?_⟩
                  have hL := half1_done ht.sp hR hy2
                  repeat (first
                    | refine OK.drawn (by decide +kernel) ?_
                    | refine OK.tree ⟨lookT tis, fun _ => true, []⟩ (by decide +kernel) ?_
                    | refine OK.need (by first | assumption | (rw [hA]; first | (show (_ : Int) ≠ _; decide) | (show (0 : Int) ≤ _; decide) | (show (0 : Int) ≤ _ ∧ _ < (256 : Int); decide))) ?_
                    | (refine F.hold hA 2000 ?_; cbv))
                  refine OK.branch (fun x1 => ?_) (fun x1 => ?_)
                  · repeat (first
                      | refine OK.drawn (by decide +kernel) ?_
                      | refine OK.tree ⟨lookT tis, fun _ => true, []⟩ (by decide +kernel) ?_
                      | refine OK.need (by first | assumption | (rw [hA]; first | (show (_ : Int) ≠ _; decide) | (show (0 : Int) ≤ _; decide) | (show (0 : Int) ≤ _ ∧ _ < (256 : Int); decide))) ?_
                      | (refine F.hold hA 2000 ?_; cbv))
                    refine OK.branch (fun x2 => ?_) (fun x2 => ?_)
                    · repeat (first
                        | refine OK.drawn (by decide +kernel) ?_
                        | refine OK.tree ⟨lookT tis, fun _ => true, []⟩ (by decide +kernel) ?_
                        | refine OK.need (by first | assumption | (rw [hA]; first | (show (_ : Int) ≠ _; decide) | (show (0 : Int) ≤ _; decide) | (show (0 : Int) ≤ _ ∧ _ < (256 : Int); decide))) ?_
                        | (refine F.hold hA 2000 ?_; cbv))
                      refine F.call [0] (ih _ _ _ _ _ _ _ (szR hN ht.sp.ma ht.sp.mb) (symP_to (half2_P ht.sp hL (ltT hA ht.ei ht.ee x1) (ltT hA ht.ee ht.eb x2)) ht.ei ht.ee ht.eb)) rfl rfl rfl fun rs H' hq => ?_
                      obtain ⟨ys3, rfl, rfl, hy3⟩ := hq
                      refine ⟨rfl, ?_⟩
                      repeat (first
                        | refine OK.drawn (by decide +kernel) ?_
                        | refine OK.tree ⟨lookT tis, fun _ => true, []⟩ (by decide +kernel) ?_
                        | refine OK.need (by first | assumption | (rw [hA]; first | (show (_ : Int) ≠ _; decide) | (show (0 : Int) ≤ _; decide) | (show (0 : Int) ≤ _ ∧ _ < (256 : Int); decide))) ?_
                        | (refine F.hold hA 2000 ?_; cbv))
                      exact F.ret0 ⟨_, rfl, rfl, half2_done ht.sp hL hy3⟩
                    · repeat (first
                        | refine OK.drawn (by decide +kernel) ?_
                        | refine OK.tree ⟨lookT tis, fun _ => true, []⟩ (by decide +kernel) ?_
                        | refine OK.need (by first | assumption | (rw [hA]; first | (show (_ : Int) ≠ _; decide) | (show (0 : Int) ≤ _; decide) | (show (0 : Int) ≤ _ ∧ _ < (256 : Int); decide))) ?_
                        | (refine F.hold hA 2000 ?_; cbv))
                      exact F.ret0 ⟨_, rfl, rfl, half2_stay ht.sp hL fun h => ltF hA ht.ee ht.eb x2 h.2⟩
                  · repeat (first
                      | refine OK.drawn (by decide +kernel) ?_
                      | refine OK.tree ⟨lookT tis, fun _ => true, []⟩ (by decide +kernel) ?_
                      | refine OK.need (by first | assumption | (rw [hA]; first | (show (_ : Int) ≠ _; decide) | (show (0 : Int) ≤ _; decide) | (show (0 : Int) ≤ _ ∧ _ < (256 : Int); decide))) ?_
                      | (refine F.hold hA 2000 ?_; cbv))
                    exact F.ret0 ⟨_, rfl, rfl, half2_stay ht.sp hL fun h => ltF hA ht.ei ht.ee x1 h.1⟩
                · have hL := half1_stay ht.sp hR fun h => ltF hA ht.eu ht.ei x2 h.2
                  repeat (first
                    | refine OK.drawn (by decide +kernel) ?_
                    | refine OK.tree ⟨lookT tis, fun _ => true, []⟩ (by decide +kernel) ?_
                    | refine OK.need (by first | assumption | (rw [hA]; first | (show (_ : Int) ≠ _; decide) | (show (0 : Int) ≤ _; decide) | (show (0 : Int) ≤ _ ∧ _ < (256 : Int); decide))) ?_
                    | (refine F.hold hA 2000 ?_; cbv))
                  refine OK.branch (fun x1 => ?_) (fun x1 => ?_)
                  · repeat (first
                      | refine OK.drawn (by decide +kernel) ?_
                      | refine OK.tree ⟨lookT tis, fun _ => true, []⟩ (by decide +kernel) ?_
                      | refine OK.need (by first | assumption | (rw [hA]; first | (show (_ : Int) ≠ _; decide) | (show (0 : Int) ≤ _; decide) | (show (0 : Int) ≤ _ ∧ _ < (256 : Int); decide))) ?_
                      | (refine F.hold hA 2000 ?_; cbv))
                    refine OK.branch (fun x2 => ?_) (fun x2 => ?_)
                    · repeat (first
                        | refine OK.drawn (by decide +kernel) ?_
                        | refine OK.tree ⟨lookT tis, fun _ => true, []⟩ (by decide +kernel) ?_
                        | refine OK.need (by first | assumption | (rw [hA]; first | (show (_ : Int) ≠ _; decide) | (show (0 : Int) ≤ _; decide) | (show (0 : Int) ≤ _ ∧ _ < (256 : Int); decide))) ?_
                        | (refine F.hold hA 2000 ?_; cbv))
                      refine F.call [0] (ih _ _ _ _ _ _ _ (szR hN ht.sp.ma ht.sp.mb) (symP_to (half2_P ht.sp hL (ltT hA ht.ei ht.ee x1) (ltT hA ht.ee ht.eb x2)) ht.ei ht.ee ht.eb)) rfl rfl rfl fun rs H' hq => ?_
                      obtain ⟨ys3, rfl, rfl, hy3⟩ := hq
                      refine ⟨rfl, ?_⟩
                      repeat (first
                        | refine OK.drawn (by decide +kernel) ?_
                        | refine OK.tree ⟨lookT tis, fun _ => true, []⟩ (by decide +kernel) ?_
                        | refine OK.need (by first | assumption | (rw [hA]; first | (show (_ : Int) ≠ _; decide) | (show (0 : Int) ≤ _; decide) | (show (0 : Int) ≤ _ ∧ _ < (256 : Int); decide))) ?_
                        | (refine F.hold hA 2000 ?_; cbv))
                      exact F.ret0 ⟨_, rfl, rfl, half2_done ht.sp hL hy3⟩
                    · repeat (first
                        | refine OK.drawn (by decide +kernel) ?_
                        | refine OK.tree ⟨lookT tis, fun _ => true, []⟩ (by decide +kernel) ?_
                        | refine OK.need (by first | assumption | (rw [hA]; first | (show (_ : Int) ≠ _; decide) | (show (0 : Int) ≤ _; decide) | (show (0 : Int) ≤ _ ∧ _ < (256 : Int); decide))) ?_
                        | (refine F.hold hA 2000 ?_; cbv))
                      exact F.ret0 ⟨_, rfl, rfl, half2_stay ht.sp hL fun h => ltF hA ht.ee ht.eb x2 h.2⟩
                  · repeat (first
                      | refine OK.drawn (by decide +kernel) ?_
                      | refine OK.tree ⟨lookT tis, fun _ => true, []⟩ (by decide +kernel) ?_
                      | refine OK.need (by first | assumption | (rw [hA]; first | (show (_ : Int) ≠ _; decide) | (show (0 : Int) ≤ _; decide) | (show (0 : Int) ≤ _ ∧ _ < (256 : Int); decide))) ?_
                      | (refine F.hold hA 2000 ?_; cbv))
                    exact F.ret0 ⟨_, rfl, rfl, half2_stay ht.sp hL fun h => ltF hA ht.ei ht.ee x1 h.1⟩
              · have hL := half1_stay ht.sp hR fun h => ltF hA ht.ea ht.eu x1 h.1
                repeat (first
                  | refine OK.drawn (by decide +kernel) ?_
                  | refine OK.tree ⟨lookT tis, fun _ => true, []⟩ (by decide +kernel) ?_
                  | refine OK.need (by first | assumption | (rw [hA]; first | (show (_ : Int) ≠ _; decide) | (show (0 : Int) ≤ _; decide) | (show (0 : Int) ≤ _ ∧ _ < (256 : Int); decide))) ?_
                  | (refine F.hold hA 2000 ?_; cbv))
                refine OK.branch (fun x1 => ?_) (fun x1 => ?_)
                · repeat (first
                    | refine OK.drawn (by decide +kernel) ?_
                    | refine OK.tree ⟨lookT tis, fun _ => true, []⟩ (by decide +kernel) ?_
                    | refine OK.need (by first | assumption | (rw [hA]; first | (show (_ : Int) ≠ _; decide) | (show (0 : Int) ≤ _; decide) | (show (0 : Int) ≤ _ ∧ _ < (256 : Int); decide))) ?_
                    | (refine F.hold hA 2000 ?_; cbv))
                  refine OK.branch (fun x2 => ?_) (fun x2 => ?_)
                  · repeat (first
                      | refine OK.drawn (by decide +kernel) ?_
                      | refine OK.tree ⟨lookT tis, fun _ => true, []⟩ (by decide +kernel) ?_
                      | refine OK.need (by first | assumption | (rw [hA]; first | (show (_ : Int) ≠ _; decide) | (show (0 : Int) ≤ _; decide) | (show (0 : Int) ≤ _ ∧ _ < (256 : Int); decide))) ?_
                      | (refine F.hold hA 2000 ?_; cbv))
                    refine F.call [0] (ih _ _ _ _ _ _ _ (szR hN ht.sp.ma ht.sp.mb) (symP_to (half2_P ht.sp hL (ltT hA ht.ei ht.ee x1) (ltT hA ht.ee ht.eb x2)) ht.ei ht.ee ht.eb)) rfl rfl rfl fun rs H' hq => ?_
                    obtain ⟨ys3, rfl, rfl, hy3⟩ := hq
                    refine ⟨rfl, ?_⟩
                    repeat (first
                      | refine OK.drawn (by decide +kernel) ?_
                      | refine OK.tree ⟨lookT tis, fun _ => true, []⟩ (by decide +kernel) ?_
                      | refine OK.need (by first | assumption | (rw [hA]; first | (show (_ : Int) ≠ _; decide) | (show (0 : Int) ≤ _; decide) | (show (0 : Int) ≤ _ ∧ _ < (256 : Int); decide))) ?_
                      | (refine F.hold hA 2000 ?_; cbv))
                    exact F.ret0 ⟨_, rfl, rfl, half2_done ht.sp hL hy3⟩
                  · repeat (first
                      | refine OK.drawn (by decide +kernel) ?_
                      | refine OK.tree ⟨lookT tis, fun _ => true, []⟩ (by decide +kernel) ?_
                      | refine OK.need (by first | assumption | (rw [hA]; first | (show (_ : Int) ≠ _; decide) | (show (0 : Int) ≤ _; decide) | (show (0 : Int) ≤ _ ∧ _ < (256 : Int); decide))) ?_
                      | (refine F.hold hA 2000 ?_; cbv))
                    exact F.ret0 ⟨_, rfl, rfl, half2_stay ht.sp hL fun h => ltF hA ht.ee ht.eb x2 h.2⟩
                · repeat (first
                    | refine OK.drawn (by decide +kernel) ?_
                    | refine OK.tree ⟨lookT tis, fun _ => true, []⟩ (by decide +kernel) ?_
                    | refine OK.need (by first | assumption | (rw [hA]; first | (show (_ : Int) ≠ _; decide) | (show (0 : Int) ≤ _; decide) | (show (0 : Int) ≤ _ ∧ _ < (256 : Int); decide))) ?_
                    | (refine F.hold hA 2000 ?_; cbv))
                  exact F.ret0 ⟨_, rfl, rfl, half2_stay ht.sp hL fun h => ltF hA ht.ei ht.ee x1 h.1⟩
            · have hR := mid_stay ht.sp.toSp fun h => ltF hA ht.em ht.ee x2 h.2
              repeat (first
                | refine OK.drawn (by decide +kernel) ?_
                | refine OK.tree ⟨lookT tis, fun _ => true, []⟩ (by decide +kernel) ?_
                | refine OK.need (by first | assumption | (rw [hA]; first | (show (_ : Int) ≠ _; decide) | (show (0 : Int) ≤ _; decide) | (show (0 : Int) ≤ _ ∧ _ < (256 : Int); decide))) ?_
                | (refine F.hold hA 2000 ?_; cbv))
              refine OK.branch (fun x1 => ?_) (fun x1 => ?_)
              · repeat (first
                  | refine OK.drawn (by decide +kernel) ?_
                  | refine OK.tree ⟨lookT tis, fun _ => true, []⟩ (by decide +kernel) ?_
                  | refine OK.need (by first | assumption | (rw [hA]; first | (show (_ : Int) ≠ _; decide) | (show (0 : Int) ≤ _; decide) | (show (0 : Int) ≤ _ ∧ _ < (256 : Int); decide))) ?_
                  | (refine F.hold hA 2000 ?_; cbv))
                refine OK.branch (fun x2 => ?_) (fun x2 => ?_)
                · repeat (first
                    | refine OK.drawn (by decide +kernel) ?_
                    | refine OK.tree ⟨lookT tis, fun _ => true, []⟩ (by decide +kernel) ?_
                    | refine OK.need (by first | assumption | (rw [hA]; first | (show (_ : Int) ≠ _; decide) | (show (0 : Int) ≤ _; decide) | (show (0 : Int) ≤ _ ∧ _ < (256 : Int); decide))) ?_
                    | (refine F.hold hA 2000 ?_; cbv))
                  refine F.call [0] (ih _ _ _ _ _ _ _ (szL hN ht.sp.ma ht.sp.mb) (symP_to (half1_P ht.sp hR (ltT hA ht.ea ht.eu x1) (ltT hA ht.eu ht.ei x2)) ht.ea ht.eu ht.ei)) rfl rfl rfl fun rs H' hq => ?_
                  obtain ⟨ys2, rfl, rfl, hy2⟩ := hq
                  refine ⟨rfl, ?_⟩
                  have hL := half1_done ht.sp hR hy2
                  repeat (first
                    | refine OK.drawn (by decide +kernel) ?_
                    | refine OK.tree ⟨lookT tis, fun _ => true, []⟩ (by decide +kernel) ?_
                    | refine OK.need (by first | assumption | (rw [hA]; first | (show (_ : Int) ≠ _; decide) | (show (0 : Int) ≤ _; decide) | (show (0 : Int) ≤ _ ∧ _ < (256 : Int); decide))) ?_
                    | (refine F.hold hA 2000 ?_; cbv))
                  refine OK.branch (fun x1 => ?_) (fun x1 => ?_)
                  · repeat (first
                      | refine OK.drawn (by decide +kernel) ?_
                      | refine OK.tree ⟨lookT tis, fun _ => true, []⟩ (by decide +kernel) ?_
                      | refine OK.need (by first | assumption | (rw [hA]; first | (show (_ : Int) ≠ _; decide) | (show (0 : Int) ≤ _; decide) | (show (0 : Int) ≤ _ ∧ _ < (256 : Int); decide))) ?_
                      | (refine F.hold hA 2000 ?_; cbv))
                    refine OK.branch (fun x2 => ?_) (fun x2 => ?_)
                    · repeat (first
                        | refine OK.drawn (by decide +kernel) ?_
                        | refine OK.tree ⟨lookT tis, fun _ => true, []⟩ (by decide +kernel) ?_
                        | refine OK.need (by first | assumption | (rw [hA]; first | (show (_ : Int) ≠ _; decide) | (show (0 : Int) ≤ _; decide) | (show (0 : Int) ≤ _ ∧ _ < (256 : Int); decide))) ?_
                        | (refine F.hold hA 2000 ?_; cbv))
                      refine F.call [0] (ih _ _ _ _ _ _ _ (szR hN ht.sp.ma ht.sp.mb) (symP_to (half2_P ht.sp hL (ltT hA ht.ei ht.ee x1) (ltT hA ht.ee ht.eb x2)) ht.ei ht.ee ht.eb)) rfl rfl rfl fun rs H' hq => ?_
                      obtain ⟨ys3, rfl, rfl, hy3⟩ := hq
                      refine ⟨rfl, ?_⟩
                      repeat (first
                        | refine OK.drawn (by decide +kernel) ?_
                        | refine OK.tree ⟨lookT tis, fun _ => true, []⟩ (by decide +kernel) ?_
                        | refine OK.need (by first | assumption | (rw [hA]; first | (show (_ : Int) ≠ _; decide) | (show (0 : Int) ≤ _; decide) | (show (0 : Int) ≤ _ ∧ _ < (256 : Int); decide))) ?_
                        | (refine F.hold hA 2000 ?_; cbv))
                      exact F.ret0 ⟨_, rfl, rfl, half2_done ht.sp hL hy3⟩
                    · repeat (first
                        | refine OK.drawn (by decide +kernel) ?_
                        | refine OK.tree ⟨lookT tis, fun _ => true, []⟩ (by decide +kernel) ?_
                        | refine OK.need (by first | assumption | (rw [hA]; first | (show (_ : Int) ≠ _; decide) | (show (0 : Int) ≤ _; decide) | (show (0 : Int) ≤ _ ∧ _ < (256 : Int); decide))) ?_
                        | (refine F.hold hA 2000 ?_; cbv))
                      exact F.ret0 ⟨_, rfl, rfl, half2_stay ht.sp hL fun h => ltF hA ht.ee ht.eb x2 h.2⟩
                  · repeat (first
                      | refine OK.drawn (by decide +kernel) ?_
                      | refine OK.tree ⟨lookT tis, fun _ => true, []⟩ (by decide +kernel) ?_
                      | refine OK.need (by first | assumption | (rw [hA]; first | (show (_ : Int) ≠ _; decide) | (show (0 : Int) ≤ _; decide) | (show (0 : Int) ≤ _ ∧ _ < (256 : Int); decide))) ?_
                      | (refine F.hold hA 2000 ?_; cbv))
                    exact F.ret0 ⟨_, rfl, rfl, half2_stay ht.sp hL fun h => ltF hA ht.ei ht.ee x1 h.1⟩
                · have hL := half1_stay ht.sp hR fun h => ltF hA ht.eu ht.ei x2 h.2
                  repeat (first
                    | refine OK.drawn (by decide +kernel) ?_
                    | refine OK.tree ⟨lookT tis, fun _ => true, []⟩ (by decide +kernel) ?_
                    | refine OK.need (by first | assumption | (rw [hA]; first | (show (_ : Int) ≠ _; decide) | (show (0 : Int) ≤ _; decide) | (show (0 : Int) ≤ _ ∧ _ < (256 : Int); decide))) ?_
                    | (refine F.hold hA 2000 ?_; cbv))
                  refine OK.branch (fun x1 => ?_) (fun x1 => ?_)
                  · repeat (first
                      | refine OK.drawn (by decide +kernel) ?_
                      | refine OK.tree ⟨lookT tis, fun _ => true, []⟩ (by decide +kernel) ?_
                      | refine OK.need (by first | assumption | (rw [hA]; first | (show (_ : Int) ≠ _; decide) | (show (0 : Int) ≤ _; decide) | (show (0 : Int) ≤ _ ∧ _ < (256 : Int); decide))) ?_
                      | (refine F.hold hA 2000 ?_; cbv))
                    refine OK.branch (fun x2 => ?_) (fun x2 => ?_)
                    · repeat (first
                        | refine OK.drawn (by decide +kernel) ?_
                        | refine OK.tree ⟨lookT tis, fun _ => true, []⟩ (by decide +kernel) ?_
                        | refine OK.need (by first | assumption | (rw [hA]; first | (show (_ : Int) ≠ _; decide) | (show (0 : Int) ≤ _; decide) | (show (0 : Int) ≤ _ ∧ _ < (256 : Int); decide))) ?_
                        | (refine F.hold hA 2000 ?_; cbv))
                      refine F.call [0] (ih _ _ _ _ _ _ _ (szR hN ht.sp.ma ht.sp.mb) (symP_to (half2_P ht.sp hL (ltT hA ht.ei ht.ee x1) (ltT hA ht.ee ht.eb x2)) ht.ei ht.ee ht.eb)) rfl rfl rfl fun rs H' hq => ?_
                      obtain ⟨ys3, rfl, rfl, hy3⟩ := hq
                      refine ⟨rfl, ?_⟩
                      repeat (first
                        | refine OK.drawn (by decide +kernel) ?_
                        | refine OK.tree ⟨lookT tis, fun _ => true, []⟩ (by decide +kernel) ?_
                        | refine OK.need (by first | assumption | (rw [hA]; first | (show (_ : Int) ≠ _; decide) | (show (0 : Int) ≤ _; decide) | (show (0 : Int) ≤ _ ∧ _ < (256 : Int); decide))) ?_
                        | (refine F.hold hA 2000 ?_; cbv))
                      exact F.ret0 ⟨_, rfl, rfl, half2_done ht.sp hL hy3⟩
                    · repeat (first
                        | refine OK.drawn (by decide +kernel) ?_
                        | refine OK.tree ⟨lookT tis, fun _ => true, []⟩ (by decide +kernel) ?_
                        | refine OK.need (by first | assumption | (rw [hA]; first | (show (_ : Int) ≠ _; decide) | (show (0 : Int) ≤ _; decide) | (show (0 : Int) ≤ _ ∧ _ < (256 : Int); decide))) ?_
                        | (refine F.hold hA 2000 ?_; cbv))
                      exact F.ret0 ⟨_, rfl, rfl, half2_stay ht.sp hL fun h => ltF hA ht.ee ht.eb x2 h.2⟩
                  · repeat (first
                      | refine OK.drawn (by decide +kernel) ?_
                      | refine OK.tree ⟨lookT tis, fun _ => true, []⟩ (by decide +kernel) ?_
                      | refine OK.need (by first | assumption | (rw [hA]; first | (show (_ : Int) ≠ _; decide) | (show (0 : Int) ≤ _; decide) | (show (0 : Int) ≤ _ ∧ _ < (256 : Int); decide))) ?_
                      | (refine F.hold hA 2000 ?_; cbv))
                    exact F.ret0 ⟨_, rfl, rfl, half2_stay ht.sp hL fun h => ltF hA ht.ei ht.ee x1 h.1⟩
              · have hL := half1_stay ht.sp hR fun h => ltF hA ht.ea ht.eu x1 h.1
                repeat (first
                  | refine OK.drawn (by decide +kernel) ?_
                  | refine OK.tree ⟨lookT tis, fun _ => true, []⟩ (by decide +kernel) ?_
                  | refine OK.need (by first | assumption | (rw [hA]; first | (show (_ : Int) ≠ _; decide) | (show (0 : Int) ≤ _; decide) | (show (0 : Int) ≤ _ ∧ _ < (256 : Int); decide))) ?_
                  | (refine F.hold hA 2000 ?_; cbv))
                refine OK.branch (fun x1 => ?_) (fun x1 => ?_)
                · repeat (first
                    | refine OK.drawn (by decide +kernel) ?_
                    | refine OK.tree ⟨lookT tis, fun _ => true, []⟩ (by decide +kernel) ?_
                    | refine OK.need (by first | assumption | (rw [hA]; first | (show (_ : Int) ≠ _; decide) | (show (0 : Int) ≤ _; decide) | (show (0 : Int) ≤ _ ∧ _ < (256 : Int); decide))) ?_
                    | (refine F.hold hA 2000 ?_; cbv))
                  refine OK.branch (fun x2 => ?_) (fun x2 => ?_)
                  · repeat (first
                      | refine OK.drawn (by decide +kernel) ?_
                      | refine OK.tree ⟨lookT tis, fun _ => true, []⟩ (by decide +kernel) ?_
                      | refine OK.need (by first | assumption | (rw [hA]; first | (show (_ : Int) ≠ _; decide) | (show (0 : Int) ≤ _; decide) | (show (0 : Int) ≤ _ ∧ _ < (256 : Int); decide))) ?_
                      | (refine F.hold hA 2000 ?_; cbv))
                    refine F.call [0] (ih _ _ _ _ _ _ _ (szR hN ht.sp.ma ht.sp.mb) (symP_to (half2_P ht.sp hL (ltT hA ht.ei ht.ee x1) (ltT hA ht.ee ht.eb x2)) ht.ei ht.ee ht.eb)) rfl rfl rfl fun rs H' hq => ?_
                    obtain ⟨ys3, rfl, rfl, hy3⟩ := hq
                    refine ⟨rfl, ?_⟩
                    repeat (first
                      | refine OK.drawn (by decide +kernel) ?_
                      | refine OK.tree ⟨lookT tis, fun _ => true, []⟩ (by decide +kernel) ?_
                      | refine OK.need (by first | assumption | (rw [hA]; first | (show (_ : Int) ≠ _; decide) | (show (0 : Int) ≤ _; decide) | (show (0 : Int) ≤ _ ∧ _ < (256 : Int); decide))) ?_
                      | (refine F.hold hA 2000 ?_; cbv))
                    exact F.ret0 ⟨_, rfl, rfl, half2_done ht.sp hL hy3⟩
                  · repeat (first
                      | refine OK.drawn (by decide +kernel) ?_
                      | refine OK.tree ⟨lookT tis, fun _ => true, []⟩ (by decide +kernel) ?_
                      | refine OK.need (by first | assumption | (rw [hA]; first | (show (_ : Int) ≠ _; decide) | (show (0 : Int) ≤ _; decide) | (show (0 : Int) ≤ _ ∧ _ < (256 : Int); decide))) ?_
                      | (refine F.hold hA 2000 ?_; cbv))
                    exact F.ret0 ⟨_, rfl, rfl, half2_stay ht.sp hL fun h => ltF hA ht.ee ht.eb x2 h.2⟩
                · repeat (first
                    | refine OK.drawn (by decide +kernel) ?_
                    | refine OK.tree ⟨lookT tis, fun _ => true, []⟩ (by decide +kernel) ?_
                    | refine OK.need (by first | assumption | (rw [hA]; first | (show (_ : Int) ≠ _; decide) | (show (0 : Int) ≤ _; decide) | (show (0 : Int) ≤ _ ∧ _ < (256 : Int); decide))) ?_
                    | (refine F.hold hA 2000 ?_; cbv))
                  exact F.ret0 ⟨_, rfl, rfl, half2_stay ht.sp hL fun h => ltF hA ht.ei ht.ee x1 h.1⟩
          · have hR := mid_stay ht.sp.toSp fun h => ltF hA ht.eu ht.em x1 h.1
            repeat (first
              | refine OK.drawn (by decide +kernel) ?_
              | refine OK.tree ⟨lookT tis, fun _ => true, []⟩ (by decide +kernel) ?_
              | refine OK.need (by first | assumption | (rw [hA]; first | (show (_ : Int) ≠ _; decide) | (show (0 : Int) ≤ _; decide) | (show (0 : Int) ≤ _ ∧ _ < (256 : Int); decide))) ?_
              | (refine F.hold hA 2000 ?_; cbv))
            refine OK.branch (fun x1 => ?_) (fun x1 => ?_)
            · repeat (first
                | refine OK.drawn (by decide +kernel) ?_
                | refine OK.tree ⟨lookT tis, fun _ => true, []⟩ (by decide +kernel) ?_
                | refine OK.need (by first | assumption | (rw [hA]; first | (show (_ : Int) ≠ _; decide) | (show (0 : Int) ≤ _; decide) | (show (0 : Int) ≤ _ ∧ _ < (256 : Int); decide))) ?_
                | (refine F.hold hA 2000 ?_; cbv))
              refine OK.branch (fun x2 => ?_) (fun x2 => ?_)
              · repeat (first
                  | refine OK.drawn (by decide +kernel) ?_
                  | refine OK.tree ⟨lookT tis, fun _ => true, []⟩ (by decide +kernel) ?_
                  | refine OK.need (by first | assumption | (rw [hA]; first | (show (_ : Int) ≠ _; decide) | (show (0 : Int) ≤ _; decide) | (show (0 : Int) ≤ _ ∧ _ < (256 : Int); decide))) ?_
                  | (refine F.hold hA 2000 ?_; cbv))
                refine F.call [0] (ih _ _ _ _ _ _ _ (szL hN ht.sp.ma ht.sp.mb) (symP_to (half1_P ht.sp hR (ltT hA ht.ea ht.eu x1) (ltT hA ht.eu ht.ei x2)) ht.ea ht.eu ht.ei)) rfl rfl rfl fun rs H' hq => ?_
                obtain ⟨ys2, rfl, rfl, hy2⟩ := hq
                refine ⟨rfl, ?_⟩
                have hL := half1_done ht.sp hR hy2
                repeat (first
                  | refine OK.drawn (by decide +kernel) ?_
                  | refine OK.tree ⟨lookT tis, fun _ => true, []⟩ (by decide +kernel) ?_
                  | refine OK.need (by first | assumption | (rw [hA]; first | (show (_ : Int) ≠ _; decide) | (show (0 : Int) ≤ _; decide) | (show (0 : Int) ≤ _ ∧ _ < (256 : Int); decide))) ?_
                  | (refine F.hold hA 2000 ?_; cbv))
                refine OK.branch (fun x1 => ?_) (fun x1 => ?_)
                · repeat (first
                    | refine OK.drawn (by decide +kernel) ?_
                    | refine OK.tree ⟨lookT tis, fun _ => true, []⟩ (by decide +kernel) ?_
                    | refine OK.need (by first | assumption | (rw [hA]; first | (show (_ : Int) ≠ _; decide) | (show (0 : Int) ≤ _; decide) | (show (0 : Int) ≤ _ ∧ _ < (256 : Int); decide))) ?_
                    | (refine F.hold hA 2000 ?_; cbv))
                  refine OK.branch (fun x2 => ?_) (fun x2 => ?_)
                  · repeat (first
                      | refine OK.drawn (by decide +kernel) ?_
                      | refine OK.tree ⟨lookT tis, fun _ => true, []⟩ (by decide +kernel) ?_
                      | refine OK.need (by first | assumption | (rw [hA]; first | (show (_ : Int) ≠ _; decide) | (show (0 : Int) ≤ _; decide) | (show (0 : Int) ≤ _ ∧ _ < (256 : Int); decide))) ?_
                      | (refine F.hold hA 2000 ?_; cbv))
                    refine F.call [0] (ih _ _ _ _ _ _ _ (szR hN ht.sp.ma ht.sp.mb) (symP_to (half2_P ht.sp hL (ltT hA ht.ei ht.ee x1) (ltT hA ht.ee ht.eb x2)) ht.ei ht.ee ht.eb)) rfl rfl rfl fun rs H' hq => ?_
                    obtain ⟨ys3, rfl, rfl, hy3⟩ := hq
                    refine ⟨rfl, ?_⟩
                    repeat (first
                      | refine OK.drawn (by decide +kernel) ?_
                      | refine OK.tree ⟨lookT tis, fun _ => true, []⟩ (by decide +kernel) ?_
                      | refine OK.need (by first | assumption | (rw [hA]; first | (show (_ : Int) ≠ _; decide) | (show (0 : Int) ≤ _; decide) | (show (0 : Int) ≤ _ ∧ _ < (256 : Int); decide))) ?_
                      | (refine F.hold hA 2000 ?_; cbv))
                    exact F.ret0 ⟨_, rfl, rfl, half2_done ht.sp hL hy3⟩
                  · repeat (first
                      | refine OK.drawn (by decide +kernel) ?_
                      | refine OK.tree ⟨lookT tis, fun _ => true, []⟩ (by decide +kernel) ?_
                      | refine OK.need (by first | assumption | (rw [hA]; first | (show (_ : Int) ≠ _; decide) | (show (0 : Int) ≤ _; decide) | (show (0 : Int) ≤ _ ∧ _ < (256 : Int); decide))) ?_
                      | (refine F.hold hA 2000 ?_; cbv))
                    exact F.ret0 ⟨_, rfl, rfl, half2_stay ht.sp hL fun h => ltF hA ht.ee ht.eb x2 h.2⟩
                · repeat (first
                    | refine OK.drawn (by decide +kernel) ?_
                    | refine OK.tree ⟨lookT tis, fun _ => true, []⟩ (by decide +kernel) ?_
                    | refine OK.need (by first | assumption | (rw [hA]; first | (show (_ : Int) ≠ _; decide) | (show (0 : Int) ≤ _; decide) | (show (0 : Int) ≤ _ ∧ _ < (256 : Int); decide))) ?_
                    | (refine F.hold hA 2000 ?_; cbv))
                  exact F.ret0 ⟨_, rfl, rfl, half2_stay ht.sp hL fun h => ltF hA ht.ei ht.ee x1 h.1⟩
              · have hL := half1_stay ht.sp hR fun h => ltF hA ht.eu ht.ei x2 h.2
                repeat (first
                  | refine OK.drawn (by decide +kernel) ?_
                  | refine OK.tree ⟨lookT tis, fun _ => true, []⟩ (by decide +kernel) ?_
                  | refine OK.need (by first | assumption | (rw [hA]; first | (show (_ : Int) ≠ _; decide) | (show (0 : Int) ≤ _; decide) | (show (0 : Int) ≤ _ ∧ _ < (256 : Int); decide))) ?_
                  | (refine F.hold hA 2000 ?_; cbv))
                refine OK.branch (fun x1 => ?_) (fun x1 => ?_)
                · repeat (first
                    | refine OK.drawn (by decide +kernel) ?_
                    | refine OK.tree ⟨lookT tis, fun _ => true, []⟩ (by decide +kernel) ?_
                    | refine OK.need (by first | assumption | (rw [hA]; first | (show (_ : Int) ≠ _; decide) | (show (0 : Int) ≤ _; decide) | (show (0 : Int) ≤ _ ∧ _ < (256 : Int); decide))) ?_
                    | (refine F.hold hA 2000 ?_; cbv))
                  refine OK.branch (fun x2 => ?_) (fun x2 => ?_)
                  · repeat (first
                      | refine OK.drawn (by decide +kernel) ?_
                      | refine OK.tree ⟨lookT tis, fun _ => true, []⟩ (by decide +kernel) ?_
                      | refine OK.need (by first | assumption | (rw [hA]; first | (show (_ : Int) ≠ _; decide) | (show (0 : Int) ≤ _; decide) | (show (0 : Int) ≤ _ ∧ _ < (256 : Int); decide))) ?_
                      | (refine F.hold hA 2000 ?_; cbv))
                    refine F.call [0] (ih _ _ _ _ _ _ _ (szR hN ht.sp.ma ht.sp.mb) (symP_to (half2_P ht.sp hL (ltT hA ht.ei ht.ee x1) (ltT hA ht.ee ht.eb x2)) ht.ei ht.ee ht.eb)) rfl rfl rfl fun rs H' hq => ?_
                    obtain ⟨ys3, rfl, rfl, hy3⟩ := hq
                    refine ⟨rfl, ?_⟩
                    repeat (first
                      | refine OK.drawn (by decide +kernel) ?_
                      | refine OK.tree ⟨lookT tis, fun _ => true, []⟩ (by decide +kernel) ?_
                      | refine OK.need (by first | assumption | (rw [hA]; first | (show (_ : Int) ≠ _; decide) | (show (0 : Int) ≤ _; decide) | (show (0 : Int) ≤ _ ∧ _ < (256 : Int); decide))) ?_
                      | (refine F.hold hA 2000 ?_; cbv))
                    exact F.ret0 ⟨_, rfl, rfl, half2_done ht.sp hL hy3⟩
                  · repeat (first
                      | refine OK.drawn (by decide +kernel) ?_
                      | refine OK.tree ⟨lookT tis, fun _ => true, []⟩ (by decide +kernel) ?_
                      | refine OK.need (by first | assumption | (rw [hA]; first | (show (_ : Int) ≠ _; decide) | (show (0 : Int) ≤ _; decide) | (show (0 : Int) ≤ _ ∧ _ < (256 : Int); decide))) ?_
                      | (refine F.hold hA 2000 ?_; cbv))
                    exact F.ret0 ⟨_, rfl, rfl, half2_stay ht.sp hL fun h => ltF hA ht.ee ht.eb x2 h.2⟩
                · repeat (first
                    | refine OK.drawn (by decide +kernel) ?_
                    | refine OK.tree ⟨lookT tis, fun _ => true, []⟩ (by decide +kernel) ?_
                    | refine OK.need (by first | assumption | (rw [hA]; first | (show (_ : Int) ≠ _; decide) | (show (0 : Int) ≤ _; decide) | (show (0 : Int) ≤ _ ∧ _ < (256 : Int); decide))) ?_
                    | (refine F.hold hA 2000 ?_; cbv))
                  exact F.ret0 ⟨_, rfl, rfl, half2_stay ht.sp hL fun h => ltF hA ht.ei ht.ee x1 h.1⟩
            · have hL := half1_stay ht.sp hR fun h => ltF hA ht.ea ht.eu x1 h.1
              repeat (first
                | refine OK.drawn (by decide +kernel) ?_
                | refine OK.tree ⟨lookT tis, fun _ => true, []⟩ (by decide +kernel) ?_
                | refine OK.need (by first | assumption | (rw [hA]; first | (show (_ : Int) ≠ _; decide) | (show (0 : Int) ≤ _; decide) | (show (0 : Int) ≤ _ ∧ _ < (256 : Int); decide))) ?_
                | (refine F.hold hA 2000 ?_; cbv))
              refine OK.branch (fun x1 => ?_) (fun x1 => ?_)
              · repeat (first
                  | refine OK.drawn (by decide +kernel) ?_
                  | refine OK.tree ⟨lookT tis, fun _ => true, []⟩ (by decide +kernel) ?_
                  | refine OK.need (by first | assumption | (rw [hA]; first | (show (_ : Int) ≠ _; decide) | (show (0 : Int) ≤ _; decide) | (show (0 : Int) ≤ _ ∧ _ < (256 : Int); decide))) ?_
                  | (refine F.hold hA 2000 ?_; cbv))
                refine OK.branch (fun x2 => ?_) (fun x2 => ?_)
                · repeat (first
                    | refine OK.drawn (by decide +kernel) ?_
                    | refine OK.tree ⟨lookT tis, fun _ => true, []⟩ (by decide +kernel) ?_
                    | refine OK.need (by first | assumption | (rw [hA]; first | (show (_ : Int) ≠ _; decide) | (show (0 : Int) ≤ _; decide) | (show (0 : Int) ≤ _ ∧ _ < (256 : Int); decide))) ?_
                    | (refine F.hold hA 2000 ?_; cbv))
                  refine F.call [0] (ih _ _ _ _ _ _ _ (szR hN ht.sp.ma ht.sp.mb) (symP_to (half2_P ht.sp hL (ltT hA ht.ei ht.ee x1) (ltT hA ht.ee ht.eb x2)) ht.ei ht.ee ht.eb)) rfl rfl rfl fun rs H' hq => ?_
                  obtain ⟨ys3, rfl, rfl, hy3⟩ := hq
                  refine ⟨rfl, ?_⟩
                  repeat (first
                    | refine OK.drawn (by decide +kernel) ?_
                    | refine OK.tree ⟨lookT tis, fun _ => true, []⟩ (by decide +kernel) ?_
                    | refine OK.need (by first | assumption | (rw [hA]; first | (show (_ : Int) ≠ _; decide) | (show (0 : Int) ≤ _; decide) | (show (0 : Int) ≤ _ ∧ _ < (256 : Int); decide))) ?_
                    | (refine F.hold hA 2000 ?_; cbv))
                  exact F.ret0 ⟨_, rfl, rfl, half2_done ht.sp hL hy3⟩
                · repeat (first
                    | refine OK.drawn (by decide +kernel) ?_
                    | refine OK.tree ⟨lookT tis, fun _ => true, []⟩ (by decide +kernel) ?_
                    | refine OK.need (by first | assumption | (rw [hA]; first | (show (_ : Int) ≠ _; decide) | (show (0 : Int) ≤ _; decide) | (show (0 : Int) ≤ _ ∧ _ < (256 : Int); decide))) ?_
                    | (refine F.hold hA 2000 ?_; cbv))
                  exact F.ret0 ⟨_, rfl, rfl, half2_stay ht.sp hL fun h => ltF hA ht.ee ht.eb x2 h.2⟩
              · repeat (first
                  | refine OK.drawn (by decide +kernel) ?_
                  | refine OK.tree ⟨lookT tis, fun _ => true, []⟩ (by decide +kernel) ?_
                  | refine OK.need (by first | assumption | (rw [hA]; first | (show (_ : Int) ≠ _; decide) | (show (0 : Int) ≤ _; decide) | (show (0 : Int) ≤ _ ∧ _ < (256 : Int); decide))) ?_
                  | (refine F.hold hA 2000 ?_; cbv))
                exact F.ret0 ⟨_, rfl, rfl, half2_stay ht.sp hL fun h => ltF hA ht.ei ht.ee x1 h.1⟩
end Go.L1
